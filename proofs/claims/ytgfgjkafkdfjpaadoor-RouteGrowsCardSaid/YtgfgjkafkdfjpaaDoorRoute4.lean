/- Walks over Contains, Loop, Common, and their references; the law's cut. -/
import Derived.Test.YtgfgjkafkdfjpaaDoorRoute1
import Derived.Test.YtgfgjkafkdfjpaaDoorFindP
import Derived.Test.YtgfgjkafkdfjpaaDoorSliceW
import Derived.Deep.RegionHeld3
import Derived.Deep.AppendLies
namespace Go.Proofs.YtgfgjkafkdfjpaaDoor
set_option linter.unusedSimpArgs false
set_option linter.unusedVariables false
open Go.RowKit

theorem beq_str (x y : ByteArray) : (x.toList == y.toList) = decide (toL x = toL y) := beq_toList x y
theorem contains_step (l : List Bs) (k : Nat) (h : k < l.length) (s : Bs) : hasB (l.drop k) s = (decide (s = l[k]) || hasB (l.drop (k + 1)) s) := by
  unfold hasB
  rw [List.drop_eq_getElem_cons h, List.contains_cons, Bool.eq_iff_iff]
  simp [beq_iff_eq]
def idxR (l : List Bs) (s : Bs) (k : Nat) : Int := findI (fun x => decide (s = x)) l k
theorem idx_contains (l : List Bs) (s : Bs) : decide (0 ≤ findI (fun x => decide (s = x)) l 0) = hasB l s := by
  unfold hasB
  rw [findI_geq, Bool.eq_iff_iff, List.any_eq_true, List.contains_iff_mem]
  constructor
  · rintro ⟨x, hx, h⟩; simp at h; rw [h]; exact hx
  · intro h; exact ⟨s, h, by simp⟩

set_option maxHeartbeats 1000000 in
set_option maxRecDepth 100000 in
theorem sl_index_route (A : Option Addr) (l : List Bs) (c : Nat) (s : ByteArray) (w : World) (hr : Row w A (strsL l)) (hl : l.length ≤ 1000000) :
    Calls Tryd.prog 42 #[.slice A l.length c, .string s] w fun e w' => e = .returned (.int .i64 (findI (fun x => decide (toL s = x)) l 0)) ∧ w = w' := by
  have HR := Lib.hid hr; clear hr
  go_enter Tryd.func42, Tryd.ntmps42
  go_wp2_with fail
  go_loop [8, 5] (fun v _ => ∃ k : Nat, k ≤ l.length ∧ findI (fun x => decide (toL s = x)) l 0 = findI (fun x => decide (toL s = x)) (l.drop k) k ∧ v = .int .i64 k) (fun v _ => l.length - (intOf v).toNat)
  case atStart => exact ⟨0, by omega, rfl, rfl⟩
  case round =>
    obtain ⟨k, hk, heq, rfl⟩ := hrel
    by_cases hlt : k < l.length
    · have hk1 : (0 : Int) ≤ (k : Int) := by omega
      have hk2 : (k : Int) < (l.length : Int) := by omega
      obtain ⟨x, hx⟩ : ∃ x, ofL l[k] = x := ⟨_, rfl⟩
      have hxL : l[k] = toL x := by rw [← hx, toL_ofL]
      obtain ⟨b, off, rfl, hcell⟩ := HR.out.str hlt hx
      rw [List.drop_eq_getElem_cons hlt, findI, hxL] at heq
      have HQ := Lib.hid heq
      clear heq hx hxL
      rcases e1 : (s.toList == x.toList) with _ | _
      · have HE := Lib.hid (show decide (toL s = toL x) = false by rw [← beq_toList]; exact e1)
        go_wp2_with fail
        go_round
        case rel => exact ⟨k + 1, by omega, by rw [HQ.out, if_neg (by rw [HE.out]; simp)], by go_num⟩
        case measure => simp [intOf] <;> omega
      · have HE := Lib.hid (show decide (toL s = toL x) = true by rw [← beq_toList]; exact e1)
        go_wp2_with fail
        go_ret
        exact ⟨ret_int (by rw [HQ.out, if_pos HE.out]), rfl⟩
    · have hd : l.drop k = [] := List.drop_eq_nil_of_le (by omega)
      rw [hd, findI] at heq
      have HQ := Lib.hid heq; clear heq hd
      go_wp2_with fail
      go_ret
      exact ⟨ret_int (by rw [HQ.out]), rfl⟩

set_option maxHeartbeats 1000000 in
theorem rt_contains (A : Option Addr) (l : List Bs) (c : Nat) (s : ByteArray) (w : World) (hr : Row w A (strsL l)) (hl : l.length ≤ 1000000) :
    Calls Tryd.prog 22 #[.slice A l.length c, .string s] w fun e w' => e = .returned (.bool (hasB l (toL s))) ∧ w = w' := by
  have hc : Calls Tryd.prog 34 #[.slice A l.length c, .string s] w fun e w' => e = .returned (.bool (hasB l (toL s))) ∧ w = w' := by
    have HI := Lib.hid (sl_index_route A l c s w hr hl)
    clear hr
    go_enter Tryd.func34, Tryd.ntmps34
    go_wp2_with fail
    (with_reducible refine HI.out.mono ?_)
    rintro e w' ⟨rfl, rfl⟩
    go_wp2_with fail
    go_ret
    exact ⟨ret_bool (idx_contains _ _), rfl⟩
  have HC := Lib.hid hc
  clear hc hr
  go_enter Tryd.func22, Tryd.ntmps22
  go_wp2_with fail
  (with_reducible refine HC.out.mono ?_)
  rintro e w' ⟨rfl, rfl⟩
  go_wp2_with fail
  go_ret
  exact ⟨rfl, rfl⟩

set_option maxHeartbeats 1000000 in
set_option maxRecDepth 100000 in
theorem refr_has (A : Option Addr) (l : List Bs) (c : Nat) (s : ByteArray) (w : World) (hr : Row w A (strsL l)) (hl : l.length ≤ 1000000) :
    Calls Tryd.prog 25 #[.slice A l.length c, .string s] w fun e w' => e = .returned (.bool (hasB l (toL s))) ∧ w = w' := by
  have HR := Lib.hid hr; clear hr
  go_enter Tryd.func25, Tryd.ntmps25
  go_wp2_with fail
  go_loop [5] (fun v => ∃ k : Nat, k ≤ l.length ∧ hasB l (toL s) = hasB (l.drop k) (toL s) ∧ v = .int .i64 k) (fun v => l.length - (intOf v).toNat)
  case atStart => exact ⟨0, by omega, rfl, rfl⟩
  case round =>
    obtain ⟨k, hk, heq, rfl⟩ := hrel
    by_cases hlt : k < l.length
    · have hk1 : (0 : Int) ≤ (k : Int) := by omega
      have hk2 : (k : Int) < (l.length : Int) := by omega
      obtain ⟨x, hx⟩ : ∃ x, ofL l[k] = x := ⟨_, rfl⟩
      have hxL : l[k] = toL x := by rw [← hx, toL_ofL]
      obtain ⟨b, off, rfl, hcell⟩ := HR.out.str hlt hx
      rw [contains_step l k hlt, hxL] at heq
      have HQ := Lib.hid heq
      clear heq hx hxL
      rcases e1 : (x.toList == s.toList) with _ | _
      · have HE := Lib.hid (show decide (toL s = toL x) = false by rw [beq_toList] at e1; simpa [eq_comm] using e1)
        go_wp2_with fail
        go_round
        case rel => exact ⟨k + 1, by omega, by rw [HQ.out, HE.out]; simp, by go_num⟩
        case measure => simp [intOf] <;> omega
      · have HE := Lib.hid (show decide (toL s = toL x) = true by rw [beq_toList] at e1; simpa [eq_comm] using e1)
        go_wp2_with fail
        go_ret
        exact ⟨ret_bool (by rw [HQ.out, HE.out]; simp), rfl⟩
    · have hd : l.drop k = [] := List.drop_eq_nil_of_le (by omega)
      rw [hd] at heq
      have HQ := Lib.hid heq; clear heq hd
      go_wp2_with fail
      go_ret
      exact ⟨ret_bool (by rw [HQ.out]; rfl), rfl⟩

theorem elem_route : Tryd.prog.underlying 23 = some (.slice (Tryd.prog.elem 23)) := by kernel_rfl
theorem size_route (w : World) : (sizeOf (Tryd.prog.elem 23)).run Tryd.prog w = .ok 1 w := by kernel_rfl
theorem elem_strs : Tryd.prog.underlying 22 = some (.slice (Tryd.prog.elem 22)) := by kernel_rfl
theorem size_strs (w : World) : (sizeOf (Tryd.prog.elem 22)).run Tryd.prog w = .ok 1 w := by kernel_rfl
theorem loopR_step (l : List Bs) (k : Nat) (h : k < l.length) : loopR (l.drop k) = if hasB (l.drop (k + 1)) l[k] = true then (l[k], true) else loopR (l.drop (k + 1)) := by
  rw [List.drop_eq_getElem_cons h, loopR]

set_option maxHeartbeats 2000000 in
set_option maxRecDepth 100000 in
theorem rt_loop (A : Option Addr) (l : List Bs) (c : Nat) (w : World) (hr : Row w A (strsL l)) (hl : l.length ≤ 1000000) (hcap : l.length ≤ c) :
    Calls Tryd.prog 23 #[.slice A l.length c] w fun e w' => e = .returned (.tuple #[.string (ofL (loopR l).1), .bool (loopR l).2]) ∧ Below w.heap.size w w' := by
  have HR := Lib.hid hr; clear hr
  go_enter Tryd.func23, Tryd.ntmps23
  go_wp2_with fail
  go_loopw [8, 4] (fun v _ wr => ∃ k : Nat, k ≤ l.length ∧ loopR l = loopR (l.drop k) ∧ v = .int .i64 k ∧ Below w.heap.size w wr) (fun v _ _ => l.length - (intOf v).toNat)
  case atStart => exact ⟨0, by omega, rfl, rfl, Below.refl _ _⟩
  case round =>
    obtain ⟨k, hk, heq, rfl, hB⟩ := hrel
    by_cases hlt : k < l.length
    · have hk1 : (0 : Int) ≤ (k : Int) := by omega
      have hk2 : (k : Int) < (l.length : Int) := by omega
      obtain ⟨x, hx⟩ : ∃ x, ofL l[k] = x := ⟨_, rfl⟩
      have hxL : l[k] = toL x := by rw [← hx, toL_ofL]
      obtain ⟨b, off, hA, hcell⟩ := (HR.out.below hB).str hlt hx
      subst hA
      have hdl : (l.drop (k + 1)).length = l.length - (k + 1) := by simp
      obtain ⟨A2, hT⟩ := tail_is (P := Tryd.prog) elem_route size_route (some ⟨b, off, none⟩) l c (k + 1) ((k : Int) + 1) (by omega) (by omega) hcap
      have HC2 := Lib.hid (fun wx (hb : Below w.heap.size w wx) => rt_contains A2 (l.drop (k + 1)) (c - (k + 1)) x wx (hT.row wx (HR.out.below hb)) (by rw [hdl]; omega))
      rw [hdl] at HC2
      have hs1 := hT.at_
      have hs2 := hT.of_
      rw [loopR_step l k hlt, hxL] at heq
      have HQ := Lib.hid heq
      clear heq hx hxL hdl hT
      rcases hp : hasB (l.drop (k + 1)) (toL x) with _ | _
      all_goals
        have HQ2 := Lib.hid HQ.out
        go_wp2_with fail
        (with_reducible refine (HC2.out wr hB).mono ?_)
        rintro e w' ⟨rfl, rfl⟩
        rw [hp]
        rw [hp] at HQ2
        go_wp2_with fail
        first
          | (go_ret2; exact ⟨by rw [HQ2.out]; simp [ofL_toL], hB⟩)
          | (go_roundw
             case rel => exact ⟨k + 1, by omega, by rw [HQ2.out]; simp, by go_num, hB⟩
             case measure => simp [intOf] <;> omega)
    · have hd : l.drop k = [] := List.drop_eq_nil_of_le (by omega)
      rw [hd, loopR] at heq
      have HQ := Lib.hid heq; clear heq hd
      go_wp2_with fail
      go_ret2
      exact ⟨by rw [HQ.out]; rfl, hB⟩

set_option maxHeartbeats 2000000 in
set_option maxRecDepth 100000 in
theorem refr_loop (A : Option Addr) (l : List Bs) (c : Nat) (w : World) (hr : Row w A (strsL l)) (hl : l.length ≤ 1000000) (hcap : l.length ≤ c) :
    Calls Tryd.prog 24 #[.slice A l.length c] w fun e w' => e = .returned (.tuple #[.string (ofL (loopR l).1), .bool (loopR l).2]) ∧ Below w.heap.size w w' := by
  have HR := Lib.hid hr; clear hr
  go_enter Tryd.func24, Tryd.ntmps24
  go_wp2_with fail
  go_loopw [4] (fun v wr => ∃ k : Nat, k ≤ l.length ∧ loopR l = loopR (l.drop k) ∧ v = .int .i64 k ∧ Below w.heap.size w wr) (fun v _ => l.length - (intOf v).toNat)
  case atStart => exact ⟨0, by omega, rfl, rfl, Below.refl _ _⟩
  case round =>
    obtain ⟨k, hk, heq, rfl, hB⟩ := hrel
    by_cases hlt : k < l.length
    · have hk1 : (0 : Int) ≤ (k : Int) := by omega
      have hk2 : (k : Int) < (l.length : Int) := by omega
      obtain ⟨x, hx⟩ : ∃ x, ofL l[k] = x := ⟨_, rfl⟩
      have hxL : l[k] = toL x := by rw [← hx, toL_ofL]
      obtain ⟨b, off, hA, hcell⟩ := (HR.out.below hB).str hlt hx
      subst hA
      have hdl : (l.drop (k + 1)).length = l.length - (k + 1) := by simp
      obtain ⟨A2, hT⟩ := tail_is (P := Tryd.prog) elem_strs size_strs (some ⟨b, off, none⟩) l c (k + 1) ((k : Int) + 1) (by omega) (by omega) hcap
      have HC2 := Lib.hid (fun wx (hb : Below w.heap.size w wx) => refr_has A2 (l.drop (k + 1)) (c - (k + 1)) x wx (hT.row wx (HR.out.below hb)) (by rw [hdl]; omega))
      rw [hdl] at HC2
      have hs1 := hT.at_
      have hs2 := hT.of_
      rw [loopR_step l k hlt, hxL] at heq
      have HQ := Lib.hid heq
      clear heq hx hxL hdl hT
      rcases hp : hasB (l.drop (k + 1)) (toL x) with _ | _
      all_goals
        have HQ2 := Lib.hid HQ.out
        rw [hp] at HC2 HQ2
        have s1 : IntKind.i64.wrap ((k : Int) + 1) = (k : Int) + 1 := IntWalk.i64_in _ (by omega)
        have s2 : ((k : Int) + 1).toNat = k + 1 := by omega
        go_wp2_with fail
        go_quiet ((go_at_call 25; exact quiet_left' (HC2.out _ (below_drewN hB _))))
        clear s1 s2
        go_wp2_with fail
        first
          | (go_ret2; exact ⟨by rw [HQ2.out]; simp [ofL_toL], below_drewN hB _⟩)
          | (go_roundw
             case rel => exact ⟨k + 1, by omega, by rw [HQ2.out]; simp, by go_num, below_drewN hB _⟩
             case measure => simp [intOf] <;> omega)
    · have hd : l.drop k = [] := List.drop_eq_nil_of_le (by omega)
      rw [hd, loopR] at heq
      have HQ := Lib.hid heq; clear heq hd
      go_wp2_with fail
      go_ret2
      exact ⟨by rw [HQ.out]; rfl, hB⟩

end Go.Proofs.YtgfgjkafkdfjpaaDoor
