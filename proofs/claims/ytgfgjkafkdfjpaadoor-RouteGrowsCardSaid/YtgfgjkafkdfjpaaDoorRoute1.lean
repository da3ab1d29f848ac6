/- Walks over route.Route's Check, String, Contains and the reference's Check, Text, Has. -/
import Derived.Test.YtgfgjkafkdfjpaaDoorStrs
import Derived.Test.YtgfgjkafkdfjpaaDoorSite
import Derived.Test.YtgfgjkafkdfjpaaDoorRouteP
import Derived.Test.YtgfgjkafkdfjpaaDoorShelf
import Derived.Lib.Join
namespace Go.Proofs.YtgfgjkafkdfjpaaDoor
set_option linter.unusedSimpArgs false
set_option linter.unusedVariables false
open Go.RowKit

theorem el_Route : Elem Tryd.prog 23 9 1 16 := Elem.of Tryd.underlying23 info_string rfl (by omega)

/-- Names that no step makes too long. -/
def Tame (l : List Bs) : Prop := l.length ≤ 1000 ∧ ∀ x ∈ l, x.length ≤ 1000000

theorem Row.str {w : World} {A : Option Addr} {l : List Bs} (h : Row w A (strsL l)) {k : Nat} (hk : k < l.length) {x : ByteArray} (hx : ofL l[k] = x) :
    ∃ b off, A = some ⟨b, off, none⟩ ∧ w.cell? ⟨b, off + k, none⟩ = some (.string x) := by
  obtain ⟨b, off, e, hc⟩ := h.cell (k := k) (by simpa using hk)
  exact ⟨b, off, e, by rw [hc, List.getElem_map, hx]⟩

set_option maxHeartbeats 2000000 in
set_option maxRecDepth 100000 in
theorem rt_check (A : Option Addr) (l : List Bs) (c : Nat) (w : World) (hr : Row w A (strsL l)) (hl : Tame l) :
    Calls Tryd.prog 17 #[.slice A l.length c] w fun e w' => e = .returned (.int .i64 (checkR l)) ∧ w = w' := by
  have HR := Lib.hid hr; clear hr
  obtain ⟨hl1, hl2⟩ := hl
  have HL := Lib.hid hl2; clear hl2
  by_cases h5 : 50 < l.length
  · have h5' : decide ((50 : Int) < (l.length : Int)) = true := by simp; omega
    have H := Lib.hid (show checkR l = 9 by simp [checkR, h5])
    go_enter Tryd.func17, Tryd.ntmps17
    go_wp2_with fail
    go_ret
    exact ⟨ret_int H.out.symm, rfl⟩
  · have h5' : decide ((50 : Int) < (l.length : Int)) = false := by simp; omega
    have H := Lib.hid (show checkR l = checkGo l by simp [checkR, h5])
    clear h5
    go_enter Tryd.func17, Tryd.ntmps17
    go_wp2_with fail
    go_loop [12, 4] (fun v _ => ∃ k : Nat, k ≤ l.length ∧ v = .int .i64 k ∧ checkGo l = checkGo (l.drop k)) (fun v _ => l.length - (intOf v).toNat)
    case atStart => exact ⟨0, by omega, rfl, rfl⟩
    case round =>
      obtain ⟨k, hk, rfl, hc⟩ := hrel
      have HC := Lib.hid hc; clear hc
      by_cases hlt : k < l.length
      · have hk1 : (0 : Int) ≤ (k : Int) := by omega
        have hk2 : (k : Int) < (l.length : Int) := by omega
        obtain ⟨x, hx⟩ : ∃ x, ofL l[k] = x := ⟨_, rfl⟩
        have hxL : l[k] = toL x := by rw [← hx, toL_ofL]
        obtain ⟨b, off, rfl, hcell⟩ := HR.out.str hlt hx
        have hxs : x.size ≤ maxLen := by rw [← toL_length, ← hxL]; exact le_maxLen (HL.out _ (List.getElem_mem hlt))
        have HD := Lib.hid (show checkGo l = if (siteF (toL x)).2 ≠ 0 then (siteF (toL x)).2 else checkGo (l.drop (k + 1)) by
          rw [HC.out, List.drop_eq_getElem_cons hlt, checkGo, hxL])
        clear hx hxL
        by_cases h0 : (siteF (toL x)).2 = 0
        · have HN := Lib.hid (HD.out.trans (if_neg (by simp [h0])))
          have h0' : ((siteF (toL x)).2 != 0) = false := by simp [h0]
          clear h0
          go_wp2_with ((go_at_call 31; (with_reducible refine (mid_site _ _ hxs).mono ?_); rintro e w' ⟨rfl, rfl⟩))
          go_round
          case rel => exact ⟨k + 1, by omega, by go_num, HN.out⟩
          case measure => simp [intOf] <;> omega
        · have HN := Lib.hid (HD.out.trans (if_pos h0))
          have h0' : ((siteF (toL x)).2 != 0) = true := by simpa using h0
          clear h0
          go_wp2_with ((go_at_call 31; (with_reducible refine (mid_site _ _ hxs).mono ?_); rintro e w' ⟨rfl, rfl⟩))
          go_ret
          exact ⟨ret_int (by rw [H.out, HN.out]), rfl⟩
      · have HN := Lib.hid (HC.out.trans (show checkGo (l.drop k) = 0 by rw [List.drop_eq_nil_of_le (by omega), checkGo]))
        go_wp2_with fail
        go_ret
        exact ⟨ret_int (by rw [H.out, HN.out]), rfl⟩

set_option maxHeartbeats 2000000 in
set_option maxRecDepth 100000 in
theorem refr_check (A : Option Addr) (l : List Bs) (c : Nat) (w : World) (hr : Row w A (strsL l)) (hl : Tame l) :
    Calls Tryd.prog 18 #[.slice A l.length c] w fun e w' => e = .returned (.int .i64 (checkR l)) ∧ w = w' := by
  have HR := Lib.hid hr; clear hr
  obtain ⟨hl1, hl2⟩ := hl
  have HL := Lib.hid hl2; clear hl2
  by_cases h5 : 50 < l.length
  · have h5' : decide ((50 : Int) < (l.length : Int)) = true := by simp; omega
    have H := Lib.hid (show checkR l = 9 by simp [checkR, h5])
    go_enter Tryd.func18, Tryd.ntmps18
    go_wp2_with fail
    go_ret
    exact ⟨ret_int H.out.symm, rfl⟩
  · have h5' : decide ((50 : Int) < (l.length : Int)) = false := by simp; omega
    have H := Lib.hid (show checkR l = checkGo l by simp [checkR, h5])
    clear h5
    go_enter Tryd.func18, Tryd.ntmps18
    go_wp2_with fail
    go_loop [3] (fun v => ∃ k : Nat, k ≤ l.length ∧ v = .int .i64 k ∧ checkGo l = checkGo (l.drop k)) (fun v => l.length - (intOf v).toNat)
    case atStart => exact ⟨0, by omega, rfl, rfl⟩
    case round =>
      obtain ⟨k, hk, rfl, hc⟩ := hrel
      have HC := Lib.hid hc; clear hc
      by_cases hlt : k < l.length
      · have hk1 : (0 : Int) ≤ (k : Int) := by omega
        have hk2 : (k : Int) < (l.length : Int) := by omega
        obtain ⟨x, hx⟩ : ∃ x, ofL l[k] = x := ⟨_, rfl⟩
        have hxL : l[k] = toL x := by rw [← hx, toL_ofL]
        obtain ⟨b, off, rfl, hcell⟩ := HR.out.str hlt hx
        have hxs : x.size ≤ maxLen := by rw [← toL_length, ← hxL]; exact le_maxLen (HL.out _ (List.getElem_mem hlt))
        have HD := Lib.hid (show checkGo l = if (siteF (toL x)).2 ≠ 0 then (siteF (toL x)).2 else checkGo (l.drop (k + 1)) by
          rw [HC.out, List.drop_eq_getElem_cons hlt, checkGo, hxL])
        clear hx hxL
        by_cases h0 : (siteF (toL x)).2 = 0
        · have HN := Lib.hid (HD.out.trans (if_neg (by simp [h0])))
          have h0' : ((siteF (toL x)).2 != 0) = false := by simp [h0]
          clear h0
          go_wp2_with ((go_at_call 32; (with_reducible refine (ref_site _ _ hxs).mono ?_); rintro e w' ⟨rfl, rfl⟩))
          go_round
          case rel => exact ⟨k + 1, by omega, by go_num, HN.out⟩
          case measure => simp [intOf] <;> omega
        · have HN := Lib.hid (HD.out.trans (if_pos h0))
          have h0' : ((siteF (toL x)).2 != 0) = true := by simpa using h0
          clear h0
          go_wp2_with ((go_at_call 32; (with_reducible refine (ref_site _ _ hxs).mono ?_); rintro e w' ⟨rfl, rfl⟩))
          go_ret
          exact ⟨ret_int (by rw [H.out, HN.out]), rfl⟩
      · have HN := Lib.hid (HC.out.trans (show checkGo (l.drop k) = 0 by rw [List.drop_eq_nil_of_le (by omega), checkGo]))
        go_wp2_with fail
        go_ret
        exact ⟨ret_int (by rw [H.out, HN.out]), rfl⟩

theorem map_ofL (l : List Bs) : (l.map ofL).map (·.data.toList) = l := by
  rw [List.map_map]; exact (List.map_congr_left (fun _ _ => rfl)).trans (List.map_id l)
theorem joinM_inter (l : List Bs) : Lib.join l [33] = joinM l := by
  unfold Lib.join
  induction l with
  | nil => rfl
  | cons x r ih =>
    cases r with
    | nil => simp [joinM, List.intercalate]
    | cons y r => simp [joinM, ← ih, List.intercalate]

set_option maxHeartbeats 1000000 in
theorem rt_string (A : Option Addr) (l : List Bs) (c : Nat) (w : World) (hr : Row w A (strsL l)) (hcap : l.length ≤ c) (hj : (joinM l).length ≤ 1000000) (hl : l.length ≤ 1000) :
    Calls Tryd.prog 15 #[.slice A l.length c] w fun e w' => e = .returned (.string (ofL (joinM l))) ∧ Below w.heap.size w w' := by
  have HR := Lib.hid hr; clear hr
  have HJ := Lib.hid hj; clear hj
  by_cases h0 : l = []
  · subst h0
    go_enter Tryd.func15, Tryd.ntmps15
    go_wp2_with ((go_at_call 33; refine (Tryd.strings_Join_none A c _ w).mono ?_; rintro e w' ⟨rfl, rfl⟩))
    go_ret
    exact ⟨rfl, Below.refl _ _⟩
  · obtain ⟨b, off, rfl, hb, hc⟩ := HR.out.at (k := 0) (by simp; exact List.length_pos_iff.2 h0)
    have HJN := Lib.hid (Tryd.strings_Join b off c (l.map ofL) ⟨#[33]⟩ w (fun j x hx => hc j (.string x) (by
        simp only [List.getElem?_map] at hx ⊢
        cases hq : l[j]? with
        | none => rw [hq] at hx; cases hx
        | some y => rw [hq] at hx; simp at hx; subst hx; rfl)) hb (by simp; omega) (by simpa using hcap) (by
        have : (l.map ofL).map (·.data.toList) = l := map_ofL l
        rw [this, show (⟨#[33]⟩ : ByteArray).data.toList = [33] from rfl, joinM_inter]; have := HJ.out; omega))
    have hll : (l.map ofL).length = l.length := by simp
    rw [hll] at HJN
    clear hc hll
    go_enter Tryd.func15, Tryd.ntmps15
    go_wp2_with fail
    (with_reducible refine HJN.out.mono ?_)
    rintro e w' ⟨rfl, hb2⟩
    have : (l.map ofL).map (·.data.toList) = l := map_ofL l
    rw [this, joinM_inter]
    clear this
    go_wp2_with fail
    go_ret
    exact ⟨rfl, hb2⟩

end Go.Proofs.YtgfgjkafkdfjpaaDoor
