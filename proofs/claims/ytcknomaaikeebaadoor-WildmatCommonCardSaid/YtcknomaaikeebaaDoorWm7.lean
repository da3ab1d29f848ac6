/- Walks over smallest and commonRest. -/
import Derived.Test.YtcknomaaikeebaaDoorWm4
import Derived.Test.YtcknomaaikeebaaDoorWm2a
import Derived.Test.YtcknomaaikeebaaDoorWmMap
import Derived.Deep.RegionHeld3
namespace Go.Proofs.YtcknomaaikeebaaDoor
set_option linter.unusedSimpArgs false
set_option linter.unusedVariables false
open Go.RowKit

theorem pos_T : Pos Tryd.prog 64 3 := ⟨by kernel_rfl, by kernel_rfl, by kernel_rfl, fun w => by kernel_rfl, by kernel_rfl⟩
theorem pos_M : Tryd.prog.underlying 61 = some (.map 64 9) := by kernel_rfl
theorem pos_z (w : World) : (zeroValue 9).run Tryd.prog w = .ok (.string ⟨#[]⟩) w := by kernel_rfl
theorem map_look {w : World} {b : Nat} {m : PosMap} (h : MapP w b m) (i k : Nat) (x y : Int) (hx : x = i) (hy : y = k) :
    (Instr.lookup 61 (.map (some b)) (.agg #[.int .i64 x, .int .i64 y]) true).run Tryd.prog w = .ok (.tuple #[.string (ofL ((m.lookup (i, k)).getD [])), .bool (m.lookup (i, k)).isSome]) w := by
  subst hx hy
  exact h.look pos_T pos_M pos_z (i, k)
theorem map_put {w : World} {b : Nat} {m : PosMap} (h : MapP w b m) (i k : Nat) (v : Bs) (hp : m.lookup (i, k) = none) :
    ∃ w', (Instr.mapUpdate 61 (.map (some b)) (.agg #[.int .i64 i, .int .i64 k]) (.string (ofL v))).run Tryd.prog w = .ok () w' ∧ MapP w' b (m ++ [((i, k), v)]) ∧ w.grownBy w' (some b) := h.put pos_T pos_M (i, k) v hp

/-- The boxes of commonRest: the place, the map, the best text, whether there is one. -/
structure RestAt (w : World) (N mb i k : Nat) (m : PosMap) (cur : Option Bs) (wr : World) : Prop where
  place : wr.heap[N]? = some (.cells #[.int .i64 i, .int .i64 k] 64 (0, 0))
  rests : wr.heap[N + 1]? = some (.cells #[.map (some mb)] 61 (0, 0))
  best : wr.heap[N + 1 + 1]? = some (.cells #[.string (ofL (cur.getD []))] 9 (0, 0))
  ok : wr.heap[N + 1 + 1 + 1]? = some (.cells #[.bool cur.isSome] 4 (0, 0))
  map : MapP wr mb m
  lt : mb < N
  bel : Below N w wr
theorem RestAt.later {w : World} {N mb i k : Nat} {m : PosMap} {cur : Option Bs} {wr w' : World} (h : RestAt w N mb i k m cur wr) (hb : Below wr.heap.size wr w') : RestAt w N mb i k m cur w' := by
  have hN : N ≤ wr.heap.size := Nat.le_of_lt (heap_lt h.place)
  exact ⟨(hb.block _ (heap_lt h.place)).trans h.place, (hb.block _ (heap_lt h.rests)).trans h.rests, (hb.block _ (heap_lt h.best)).trans h.best, (hb.block _ (heap_lt h.ok)).trans h.ok, h.map.below hb h.map.lt, h.lt, h.bel.trans (hb.mono hN)⟩
theorem RestAt.write {w : World} {N mb i k : Nat} {m : PosMap} {cur : Option Bs} {wr : World} (h : RestAt w N mb i k m cur wr) (s : Bs) (S : ByteArray) (hS : S = ofL s) : RestAt w N mb i k m (some s) ((wr.setCell ⟨N + 1 + 1, 0, none⟩ (.string S)).setCell ⟨N + 1 + 1 + 1, 0, none⟩ (.bool true)) := by
  subst hS
  have e1 : ∀ j, j ≠ N + 1 + 1 → j ≠ N + 1 + 1 + 1 → ((wr.setCell ⟨N + 1 + 1, 0, none⟩ (.string (ofL s))).setCell ⟨N + 1 + 1 + 1, 0, none⟩ (.bool true)).heap[j]? = wr.heap[j]? := fun j h1 h2 =>
    (Below.heap_setCell _ _ _ _ (fun e => h2 e)).trans (Below.heap_setCell _ _ _ _ (fun e => h1 e))
  have hlt := h.lt
  refine ⟨(e1 _ (by omega) (by omega)).trans h.place, (e1 _ (by omega) (by omega)).trans h.rests, ?_, ?_, ?_, h.lt, ?_⟩
  · rw [Below.heap_setCell _ _ _ _ (fun e => by simp at e)]
    exact heap_set h.best _
  · have : (wr.setCell ⟨N + 1 + 1, 0, none⟩ (.string (ofL s))).heap[N + 1 + 1 + 1]? = some (.cells #[.bool cur.isSome] 4 (0, 0)) := by
      rw [Below.heap_setCell _ _ _ _ (fun e => by simp at e)]; exact h.ok
    exact heap_set this _
  · obtain ⟨es, clock, hb, he⟩ := h.map
    exact ⟨es, clock, (e1 _ (by omega) (by omega)).trans hb, he⟩
  · exact (h.bel.setCell (p := ⟨N + 1 + 1, 0, none⟩) (by show N ≤ N + 1 + 1; omega) _).setCell (p := ⟨N + 1 + 1 + 1, 0, none⟩) (by show N ≤ N + 1 + 1 + 1; omega) _
theorem beq_isEmpty (s : ByteArray) : s.toList.isEmpty = (toL s).isEmpty := by rw [ByteArray.toList_eq]; rfl

set_option maxHeartbeats 4000000 in
set_option maxRecDepth 100000 in
theorem wm_try (w : World) (N mb i k : Nat) (m : PosMap) (cur : Option Bs) (wr : World) (H : ByteArray) (x y : Nat) (h : RestAt w N mb i k m cur wr) (hH : H.size ≤ 1) (hc : (cur.getD []).length ≤ 1000) (hm : ((m.lookup (x, y)).getD []).length ≤ 1000) :
    Calls Tryd.prog 32 #[.string H, .agg #[.int .i64 x, .int .i64 y], .pointer (some ⟨N + 1, 0, none⟩), .pointer (some ⟨N + 1 + 1 + 1, 0, none⟩), .pointer (some ⟨N + 1 + 1, 0, none⟩)] wr fun e w' => e = .returned (.tuple #[]) ∧ RestAt w N mb i k m (tryF cur (toL H) (m.lookup (x, y))) w' := by
  have hb1 : Below wr.heap.size wr (wr.alloc (.cells #[.int .i64 x, .int .i64 y] 64)) := (Below.refl _ _).alloc (Nat.le_refl _) _
  have HA := Lib.hid (h.later hb1)
  have hlook := map_look HA.out.map x y x y rfl rfl
  have c0 : (wr.alloc (.cells #[.int .i64 x, .int .i64 y] 64)).cell? ⟨N + 1, 0, none⟩ = some (.map (some mb)) := by rw [Lib.cell_of_heap HA.out.rests]; rfl
  have c1 : (wr.alloc (.cells #[.int .i64 x, .int .i64 y] 64)).cell? ⟨N + 1 + 1, 0, none⟩ = some (.string (ofL (cur.getD []))) := by rw [Lib.cell_of_heap HA.out.best]; rfl
  have c2 : (wr.alloc (.cells #[.int .i64 x, .int .i64 y] 64)).cell? ⟨N + 1 + 1 + 1, 0, none⟩ = some (.bool cur.isSome) := by rw [Lib.cell_of_heap HA.out.ok]; rfl
  have f1 : (wr.alloc (.cells #[.int .i64 x, .int .i64 y] 64)).frozen? ⟨N + 1 + 1, 0, none⟩ = false := Lib.frozen_of_heap HA.out.best 0
  have f2 : (wr.alloc (.cells #[.int .i64 x, .int .i64 y] 64)).frozen? ⟨N + 1 + 1 + 1, 0, none⟩ = false := Lib.frozen_of_heap HA.out.ok 0
  have HX := Lib.hid (toL_ofL ((m.lookup (x, y)).getD []))
  have HB := Lib.hid (toL_ofL (cur.getD []))
  generalize ofL ((m.lookup (x, y)).getD []) = X at *
  generalize hBB : ofL (cur.getD []) = B at *
  have HHX := Lib.hid (toL_app H X)
  have hxs : X.size ≤ 1000 := by rw [← toL_length, HX.out]; exact hm
  have hbs : B.size ≤ 1000 := by rw [← toL_length, HB.out]; exact hc
  have hadd : H.size + X.size ≤ 9223372036854775807 := by omega
  have HLX := Lib.hid (toL_length X); have HLH := Lib.hid (toL_length H); have HLB := Lib.hid (toL_length B)
  have HWR := Lib.hid (fun (s : Bs) (hs : H ++ X = ofL s) => HA.out.write s (H ++ X) hs)
  clear hm hc hb1 h hBB
  rcases hl : m.lookup (x, y) with _ | t
  · rw [hl] at hlook
    have HF := Lib.hid (show tryF cur (toL H) none = cur from rfl)
    clear hl
    go_enter Tryd.func32, Tryd.ntmps32
    go_wp2_with fail
    go_end0
    exact ⟨rfl, by rw [HF.out]; exact HA.out⟩
  · rw [hl] at hlook HX
    rw [Option.getD_some] at HX
    clear hl
    have HS := Lib.hid (show H ++ X = ofL (toL H ++ t) from toL_inj (by rw [HHX.out, toL_ofL, HX.out]))
    have HW2 := Lib.hid (HWR.out _ HS.out)
    clear HWR
    rcases cur with _ | b
    · have HF := Lib.hid (show tryF none (toL H) (some t) = some (toL H ++ t) from rfl)
      go_enter Tryd.func32, Tryd.ntmps32
      go_wp2_with fail
      go_end0
      exact ⟨rfl, by rw [HF.out]; exact HW2.out⟩
    · rw [Option.getD_some] at HB
      rcases hsl : slB (toL H ++ t) b with _ | _
      · have HF := Lib.hid (show tryF (some b) (toL H) (some t) = some b from by simp [tryF, hsl])
        simp only [slB, Bool.or_eq_false_iff, decide_eq_false_iff_not, Bool.and_eq_false_iff] at hsl
        rw [← HB.out, ← HX.out, List.length_append, HLH.out, HLX.out, HLB.out] at hsl
        obtain ⟨s1, s2⟩ := hsl
        have i1 : (B.size : Int) ≤ (H.size : Int) + (X.size : Int) := by omega
        rcases s2 with s2 | s2
        · have i2 : (((H.size : Int) + (X.size : Int)) == (B.size : Int)) = false := beq_eq_false_iff_ne.2 (by omega)
          go_enter Tryd.func32, Tryd.ntmps32
          go_wp2_with fail
          go_end0
          exact ⟨rfl, by rw [HF.out]; exact HA.out⟩
        · rw [← HHX.out, ← lexB_less, show toL (H ++ X) = (H ++ X).toList from (ByteArray.toList_eq _).symm, show toL B = B.toList from (ByteArray.toList_eq _).symm] at s2
          rcases Decidable.em (H.size + X.size = B.size) with e | e
          · have i2 : (((H.size : Int) + (X.size : Int)) == (B.size : Int)) = true := by rw [beq_iff_eq]; omega
            go_enter Tryd.func32, Tryd.ntmps32
            go_wp2_with fail
            go_end0
            exact ⟨rfl, by rw [HF.out]; exact HA.out⟩
          · have i2 : (((H.size : Int) + (X.size : Int)) == (B.size : Int)) = false := beq_eq_false_iff_ne.2 (by omega)
            go_enter Tryd.func32, Tryd.ntmps32
            go_wp2_with fail
            go_end0
            exact ⟨rfl, by rw [HF.out]; exact HA.out⟩
      · have HF := Lib.hid (show tryF (some b) (toL H) (some t) = some (toL H ++ t) from by simp [tryF, hsl])
        simp only [slB, Bool.or_eq_true, decide_eq_true_eq, Bool.and_eq_true] at hsl
        rw [← HB.out, ← HX.out, List.length_append, HLH.out, HLX.out, HLB.out] at hsl
        rw [HX.out] at hsl
        rcases hsl with s1 | ⟨s1, s2⟩
        · have i1 : (H.size : Int) + (X.size : Int) < (B.size : Int) := by omega
          go_enter Tryd.func32, Tryd.ntmps32
          go_wp2_with fail
          go_end0
          exact ⟨rfl, by rw [HF.out]; exact HW2.out⟩
        · have i1 : (B.size : Int) ≤ (H.size : Int) + (X.size : Int) := by omega
          have i2 : (((H.size : Int) + (X.size : Int)) == (B.size : Int)) = true := by rw [beq_iff_eq]; omega
          rw [← HX.out, ← HHX.out, ← lexB_less, show toL (H ++ X) = (H ++ X).toList from (ByteArray.toList_eq _).symm, show toL B = B.toList from (ByteArray.toList_eq _).symm] at s2
          go_enter Tryd.func32, Tryd.ntmps32
          go_wp2_with fail
          go_end0
          exact ⟨rfl, by rw [HF.out]; exact HW2.out⟩

def SmallPost (x y : Em) (w : World) (e : Ending) (w' : World) : Prop := e = .returned (.string (ofL (smallF x y).toList)) ∧ Below w.heap.size w w'
theorem chars_len {x : Em} (h : x.Ok) : x.chars.length ≤ 40 := by
  obtain ⟨p, hp⟩ := h
  rw [hp]; exact Nat.le_trans (List.length_filter_le _ _) (by decide)
theorem find_take (p : UInt8 → Bool) (l : Bs) (k : Nat) (c : UInt8) (h : l[k]? = some c) (h0 : (l.take k).find? p = none) : (p c = true → l.find? p = some c) ∧ (p c = false → (l.take (k + 1)).find? p = none) := by
  have hd := drop_at h
  obtain ⟨hk, hc⟩ := List.getElem?_eq_some_iff.1 h
  refine ⟨fun hp => ?_, fun hp => ?_⟩
  · have : l.find? p = (l.take k ++ l.drop k).find? p := by rw [List.take_append_drop]
    rw [this, List.find?_append, h0, hd, List.find?_cons, hp]; rfl
  · rw [List.take_succ_eq_append_getElem hk, hc, List.find?_append, h0, List.find?_cons, hp]; rfl
set_option maxHeartbeats 4000000 in
set_option maxRecDepth 100000 in
theorem wm_smallest' (x : Em) (V : Value) (p : UInt8 → Bool) (R : Ending) (w : World) (hx : x.Ok) (hR : ∀ o, x.chars.find? p = o → Ending.returned (.string (ofL o.toList)) = R) (hst : ∀ ch w, Calls Tryd.prog 22 #[V, .int .u8 (num ch)] w fun e w' => e = .returned (.bool (p ch)) ∧ Below w.heap.size w w') :
    Calls Tryd.prog 33 #[emV x, V] w fun e w' => e = R ∧ Below w.heap.size w w' := by
  have hxl := chars_len hx
  clear hx
  have HST := Lib.hid hst; clear hst
  have HSM := Lib.hid hR; clear hR
  have HSL := Lib.hid (toL_ofL x.chars)
  cases x <;> simp only [emV] <;> simp only [Em.chars] at hxl HSM HSL
  all_goals
    go_enter Tryd.func33, Tryd.ntmps33
    go_wp2_with fail
    (with_reducible first
      | refine (em_chars1 .single _).mono ?_
      | refine (em_chars2 .single _).mono ?_
      | refine (em_chars3 _ _).mono ?_
      | refine (em_chars4 _ _).mono ?_)
    rintro e w1 ⟨rfl, hb1⟩
    rw [← HSL.out] at HSM hxl
    clear HSL
    generalize ofL _ = S at *
    rw [toL_length] at hxl
    have hconv := Lib.run_convert_string_bytes (P := Tryd.prog) w1 9 69 5 S Tryd.underlying9 Tryd.underlying69 Tryd.underlying5
    have HB3E := Lib.hid (hb1.trans ((bytesWorld_below w1 5 S).mono hb1.size))
    have HBY := Lib.hid (bytesWorld_row w1 5 S)
    have HL := Lib.hid (toL_length S)
    go_wp2_with fail
    clear hconv hb1
    generalize Lib.bytesWorld w1 5 S = W4 at *
    generalize w1.heap.size = bs at *
    go_loopw [11, 6] (fun v11 _ wr => ∃ k : Nat, k ≤ S.size ∧ v11 = .int .i64 k ∧ ((toL S).take k).find? p = none ∧ Row wr (some ⟨bs, 0, none⟩) (bytesV (toL S)) ∧ Below w.heap.size w wr) (fun v11 _ _ => S.size - (intOf v11).toNat)
    case atStart => exact ⟨0, by omega, rfl, by simp, HBY.out, HB3E.out⟩
    case round =>
      obtain ⟨k, hk, rfl, hno, hrow, hbel⟩ := hrel
      clear HBY HB3E
      obtain ⟨wo, rfl⟩ : ∃ wo : World, wo = wr := ⟨_, rfl⟩
      have HNO := Lib.hid hno; clear hno
      by_cases hlt : k < S.size
      · have hk1 : (0 : Int) ≤ (k : Int) := by omega
        have hk2 : (k : Int) < (S.size : Int) := by omega
        have hkl : k < (toL S).length := by rw [HL.out]; exact hlt
        obtain ⟨bb, off, hA, hcell⟩ := hrow.cell (k := k) (by simpa using hkl)
        rw [List.getElem_map] at hcell
        simp only [Option.some.injEq, Addr.mk.injEq] at hA
        obtain ⟨rfl, rfl, _⟩ := hA
        rw [Nat.zero_add] at hcell
        have HFT := Lib.hid (find_take p (toL S) k (toL S)[k] (List.getElem?_eq_getElem hkl) HNO.out)
        generalize (toL S)[k] = ch at *
        have HROW := Lib.hid hrow; clear hrow
        go_wp2_with fail
        (with_reducible refine (HST.out ch _).mono ?_)
        rintro e w2 ⟨rfl, hb2⟩
        have HROW2 := Lib.hid (HROW.out.below hb2)
        have hbel2 := hbel.trans (hb2.mono hbel.size)
        clear hcell HROW hb2 hbel
        rcases hc : p ch with _ | _
        · have HN := Lib.hid (HFT.out.2 hc)
          go_wp2_with fail
          go_roundw
          case rel => exact ⟨k + 1, by omega, by go_num, HN.out, HROW2.out, hbel2⟩
          case measure => simp [intOf] <;> omega
        · have HY := Lib.hid (HFT.out.1 hc)
          have hcv := conv_one 9 Tryd.underlying9 w2 ch
          have hbel3 := hbel2.trans (((Below.refl w2.heap.size w2).alloc (Nat.le_refl _) (.cells #[.int .u8 (num ch)] 5)).mono hbel2.size)
          go_wp2_with fail
          go_ret
          exact ⟨HSM.out (some ch) HY.out, hbel3⟩
      · have HZ := Lib.hid (show (toL S).find? p = none from by
          have := HNO.out; rwa [List.take_of_length_le (by rw [HL.out]; omega)] at this)
        have hk3 : (S.size : Int) ≤ (k : Int) := by omega
        go_wp2_with fail
        go_ret
        exact ⟨HSM.out none HZ.out, hbel⟩
theorem wm_smallest (x y : Em) (w : World) (hx : x.Ok) :
    Calls Tryd.prog 33 #[emV x, emV y] w (SmallPost x y w) := wm_smallest' x (emV y) (fun c => y.chars.contains c) _ w hx (fun o h => by rw [← h]; rfl) (fun ch w => em_stands y ch w)
end Go.Proofs.YtcknomaaikeebaaDoor
