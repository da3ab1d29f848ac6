/- Lemmas and walks, part 23. -/
import Derived.Test.YtghjgbkhhoaebaaGreatDoorPo19
import Derived.Test.YtghjgbkhhoaebaaGreatDoorPo7
namespace Go.Proofs.YtghjgbkhhoaebaaGreatDoor
set_option linter.unusedSimpArgs false
set_option linter.unusedVariables false
open Go.RowKit Go.Shelf
attribute [local go_sem] Oper.semAt_some

/-- Between two lines of Divide. -/
structure DvI (b : Nat) (s : ByteArray) (pre : List (LnT 9000000)) (W : World) : Prop where
  sb : Boxed W b 9 (.string s)
  r1 : Boxed W (b + 1) 9 (.string (ofL (cutAt (toL s) (divS (toL s).length (txL pre)).2).1))
  r2 : Boxed W (b + 1 + 1) 9 (.string (ofL (cutAt (toL s) (divS (toL s).length (txL pre)).2).2))
  at_ : Boxed W (b + 1 + 1 + 1) 3 (.int .i64 ((divS (toL s).length (txL pre)).1 : Nat))
theorem DvI.own (b : Nat) (s : ByteArray) : Own (DvI b s) := fun _ _ _ _ hs hg hr => ⟨bx_own hs.sb hg hr, bx_own hs.r1 hg hr, bx_own hs.r2 hg hr, bx_own hs.at_ hg hr⟩
theorem set_swap (w : World) (a b : Nat) (u v : Value) (h : a ≠ b) : (w.setCell ⟨a, 0, none⟩ u).setCell ⟨b, 0, none⟩ v = (w.setCell ⟨b, 0, none⟩ v).setCell ⟨a, 0, none⟩ u := by
  unfold World.setCell
  simp only
  congr 1
  apply Array.ext_getElem?
  intro k
  simp only [Array.getElem?_modify]
  by_cases h1 : a = k
  · by_cases h2 : b = k
    · omega
    · simp [h1, h2]
  · by_cases h2 : b = k <;> simp [h1, h2]
theorem bx_drew {W : World} {B : Nat} {t : TypeId} {v : Value} (h : Boxed W B t v) : Boxed W.drew B t v := h
theorem DvI.hit {b : Nat} {s : ByteArray} {pre pre' : List (LnT 9000000)} {W : World} (h : DvI b s pre W) {a m : Nat} (hs : divS (toL s).length (txL pre') = (m, some (a, m))) :
    DvI b s pre' (((W.setCell ⟨b + 1, 0, none⟩ (.string (s.extract 0 a))).setCell ⟨b + 1 + 1, 0, none⟩ (.string (s.extract m s.size))).drew.setCell ⟨b + 1 + 1 + 1, 0, none⟩ (.int .i64 (m : Int))) := by
  obtain ⟨q1, q2⟩ := bx_two (.string (s.extract 0 a)) (.string (s.extract m s.size)) h.r1 h.r2
  have e1 : s.extract 0 a = ofL ((toL s).take a) := by rw [extract_ofL, cutL]; simp
  have e2 : s.extract m s.size = ofL ((toL s).drop m) := by rw [← ext_drop, ofL_toL]
  have h0 := (((bx_drew ((h.sb.other (B' := b + 1) (by omega) (.string (s.extract 0 a))).other (B' := b + 1 + 1) (by omega) (.string (s.extract m s.size))))).other (B' := b + 1 + 1 + 1) (by omega) (.int .i64 (m : Int)))
  have h1 := (bx_drew q1).other (B' := b + 1 + 1 + 1) (by omega) (.int .i64 (m : Int))
  have h2 := (bx_drew q2).other (B' := b + 1 + 1 + 1) (by omega) (.int .i64 (m : Int))
  have h3 := (bx_drew ((h.at_.other (B' := b + 1) (by omega) (.string (s.extract 0 a))).other (B' := b + 1 + 1) (by omega) (.string (s.extract m s.size)))).set (.int .i64 (m : Int))
  refine ⟨h0, ?_, ?_, ?_⟩
  · rw [hs]; simp only [cutAt]; rw [← e1]; exact h1
  · rw [hs]; simp only [cutAt]; rw [← e2]; exact h2
  · rw [hs]; exact h3
theorem DvI.miss {b : Nat} {s : ByteArray} {pre pre' : List (LnT 9000000)} {W : World} (h : DvI b s pre W) {m : Nat} (hs : divS (toL s).length (txL pre') = (m, (divS (toL s).length (txL pre)).2)) :
    DvI b s pre' (W.setCell ⟨b + 1 + 1 + 1, 0, none⟩ (.int .i64 (m : Int))) :=
  ⟨h.sb.other (by omega) _, by rw [hs]; exact h.r1.other (by omega) _, by rw [hs]; exact h.r2.other (by omega) _, by rw [hs]; exact h.at_.set _⟩
theorem divider_is (x : ByteArray) : (x.toList == [45, 45, 32]) = decide (toL x = [45, 45, 32]) := by
  rw [ByteArray.toList_eq, Bool.eq_iff_iff, beq_iff_eq, decide_eq_true_iff]; rfl
set_option maxRecDepth 100000 in
set_option maxHeartbeats 4000000 in
theorem art_divide (s : ByteArray) (w : World) (hsh : w.ShapedOpen Tryz.prog) (hs : s.size ≤ 9000000) : Calls Tryz.prog 74 #[.string s] w fun e w' => e = .returned (.tuple #[.string (ofL (divF (toL s)).1), .string (ofL (divF (toL s)).2)]) ∧ Below w.heap.size w w' := by
  have HSH := Lib.hid hsh; clear hsh
  have HL := Lib.hid (toL_length s)
  refine (callsIn_wide (n := 10)).1 ?_
  refine callsIn_of_wp_marks Tryz.func74 rfl trivial ?_ rfl
  simp only [Tryz.ntmps74, List.size_toArray, List.length_cons, List.length_nil, Nat.reduceAdd, Nat.reduceSub, Array.replicate_succ, Array.replicate_zero, List.push_toArray, List.append_toArray, List.nil_append, List.cons_append]
  gi_wp2_with (refine ⟨trivial, ?_⟩; gi_at_call 75; refine (art_lines s _ _).mono ?_; rintro e w' ⟨rfl, rfl⟩)
  have hB0 : Below w.heap.size w (((((w.alloc (.cells #[.string s] 9)).alloc (.cells #[.string s] 9)).alloc (.cells #[.string ⟨#[]⟩] 9)).alloc (.cells #[.int .i64 0] 3)).alloc (.cells #[.string s] 9)) :=
    (((((Below.refl _ w).alloc (Nat.le_refl _) _).alloc (by simp) _).alloc (by simp; omega) _).alloc (by simp; omega) _).alloc (by simp; omega) _
  have hI0 : DvI w.heap.size s [] (((((w.alloc (.cells #[.string s] 9)).alloc (.cells #[.string s] 9)).alloc (.cells #[.string ⟨#[]⟩] 9)).alloc (.cells #[.int .i64 0] 3)).alloc (.cells #[.string s] 9)) :=
    ⟨((((bx_new _ _ rfl).alloc _).alloc _).alloc _).alloc _, by rw [show (cutAt (toL s) (divS (toL s).length (txL [])).2).1 = toL s from rfl, ofL_toL]; exact (((bx_new _ _ (by simp)).alloc _).alloc _).alloc _, ((bx_new _ _ (by simp)).alloc _).alloc _, (bx_new _ _ (by simp)).alloc _⟩
  have hbx : Boxed (((((w.alloc (.cells #[.string s] 9)).alloc (.cells #[.string s] 9)).alloc (.cells #[.string ⟨#[]⟩] 9)).alloc (.cells #[.int .i64 0] 3)).alloc (.cells #[.string s] 9)) (w.heap.size + 1 + 1 + 1 + 1) 9 (.string s) := bx_new _ _ (by simp)
  have hz0 : (((((w.alloc (.cells #[.string s] 9)).alloc (.cells #[.string s] 9)).alloc (.cells #[.string ⟨#[]⟩] 9)).alloc (.cells #[.int .i64 0] 3)).alloc (.cells #[.string s] 9)).heap.size = w.heap.size + 5 := by simp
  generalize ((((w.alloc (.cells #[.string s] 9)).alloc (.cells #[.string s] 9)).alloc (.cells #[.string ⟨#[]⟩] 9)).alloc (.cells #[.int .i64 0] 3)).alloc (.cells #[.string s] 9) = X at *
  refine wpIn_rangeFunc_ownG (a₁ := ?a1) rfl (by omega) (gf := 108) (lb := #[.pointer (some ⟨w.heap.size + 1 + 1 + 1 + 1, 0, none⟩)]) rfl trivial (enters_of Tryz.func108 (by kernel_rfl) rfl)
    (lines_stops _ (by omega) w X HSH.out hB0 (w.heap.size + 1 + 1 + 1 + 1) hbx.lt s (by omega) hs hbx.cell) belowK_t (belowK_b (by omega)) (Below.refl _ _) (fun _ => rfl)
    (fun pre W => DvI w.heap.size s pre W ∧ Below w.heap.size w W)
    (fun _ _ _ => False)
    (OwnFrom.and (Own.from (DvI.own _ _) _) (ownFrom_below (Nat.le_refl _) (by omega)))
    (fun _ _ _ _ _ hs _ _ => hs)
    ⟨hI0, hB0⟩ ?assign ?body ?done ?stop
  case assign =>
    intro l x W K hK
    gi_wp2
    exact hK
  case body =>
    rintro l pre ⟨⟨o, x⟩, hx⟩ W ⟨hI, hB⟩ hlen
    have HI := Lib.hid hI; have HB := Lib.hid hB
    have hx1 : x.size ≤ 9000000 := hx.2
    have HTX := Lib.hid (show txL (pre ++ [⟨(o, x), hx⟩]) = txL pre ++ [toL x] from txL_snoc _ _)
    have HXL := Lib.hid (toL_length x)
    have HSN := Lib.hid (divS_snoc (toL s).length (txL pre) (toL x))
    have hle := divS_le (toL s).length (txL pre)
    have c1 := hI.r1.cell; have d1 := hI.r1.frozen
    have c2 := hI.r2.cell; have d2 := hI.r2.frozen
    have c3 := hI.at_.cell; have d3 := hI.at_.frozen
    have c4 := hI.sb.cell
    clear hI hB hI0 hB0 hbx
    obtain ⟨a, ha⟩ : ∃ a, a = (divS (toL s).length (txL pre)).1 := ⟨_, rfl⟩
    have HA := Lib.hid ha
    have haN : a ≤ s.size := by have := hle.1; rw [← ha, HL.out] at this; exact this
    rw [← ha] at c3
    obtain ⟨R1, hR1⟩ : ∃ R, R = ofL (cutAt (toL s) (divS (toL s).length (txL pre)).2).1 := ⟨_, rfl⟩
    obtain ⟨R2, hR2⟩ : ∃ R, R = ofL (cutAt (toL s) (divS (toL s).length (txL pre)).2).2 := ⟨_, rfl⟩
    rw [← hR1] at c1
    rw [← hR2] at c2
    have HR1 := Lib.hid hR1; have HR2 := Lib.hid hR2
    have a0 : (0 : Int) ≤ (a : Int) := by omega
    have a1 : (a : Int) ≤ (s.size : Int) := by omega
    clear hlen ha hle hR1 hR2
    obtain ⟨m, hm⟩ : ∃ m, m = min (a + x.size + 1) s.size := ⟨_, rfl⟩
    have hmi : min ((a : Int) + (x.size : Int) + 1) (s.size : Int) = (m : Int) := by omega
    have m0 : (0 : Int) ≤ (m : Int) := by omega
    have m1 : (m : Int) ≤ (s.size : Int) := by omega
    have HM := Lib.hid hm
    clear hm
    rw [← HA.out, HL.out, HXL.out, ← HM.out] at HSN
    dsimp only
    rcases hd : (x.toList == [45, 45, 32]) with _ | _
    · have HD := Lib.hid (show divS (toL s).length (txL (pre ++ [⟨(o, x), hx⟩])) = (m, (divS (toL s).length (txL pre)).2) from by
        rw [HTX.out, HL.out, HSN.out, if_neg (of_decide_eq_false ((divider_is x).symm.trans hd))])
      gi_wp2
      exact ⟨(KeepsOthers.setCell _ _ _).from _, (Below.refl _ W).setCell (p := ⟨w.heap.size + 1 + 1 + 1, 0, none⟩) (by show w.heap.size ≤ w.heap.size + 1 + 1 + 1; omega) _, HI.out.miss HD.out, HB.out.setCell (p := ⟨w.heap.size + 1 + 1 + 1, 0, none⟩) (by show w.heap.size ≤ w.heap.size + 1 + 1 + 1; omega) _⟩
    · have HD := Lib.hid (show divS (toL s).length (txL (pre ++ [⟨(o, x), hx⟩])) = (m, some (a, m)) from by
        rw [HTX.out, HL.out, HSN.out, if_pos (of_decide_eq_true ((divider_is x).symm.trans hd))])
      have m2 : (a : Int).toNat = a := by omega
      have HE := Lib.hid (HI.out.hit HD.out)
      have HE2 := Lib.hid (HI.out.hit HD.out)
      rw [set_swap _ _ _ _ _ (by omega)] at HE2
      have hmx : Tryz.prog.follows .mixedOrders = true := by kernel_rfl
      gi_wp2
      gi_region_o
      all_goals gi_wp2
      all_goals first
        | exact ⟨(((KeepsOthers.setCell _ _ _).trans (KeepsOthers.setCell _ _ _)).trans ((KeepsOthers.drew _).trans (KeepsOthers.setCell _ _ _))).from _, (below_two (Below.refl _ W) (by omega) _ _).drew.setCell (p := ⟨w.heap.size + 1 + 1 + 1, 0, none⟩) (by show w.heap.size ≤ w.heap.size + 1 + 1 + 1; omega) _, HE.out, (below_two HB.out (by omega) _ _).drew.setCell (p := ⟨w.heap.size + 1 + 1 + 1, 0, none⟩) (by show w.heap.size ≤ w.heap.size + 1 + 1 + 1; omega) _⟩
        | exact ⟨(((KeepsOthers.setCell _ _ _).trans (KeepsOthers.setCell _ _ _)).trans ((KeepsOthers.drew _).trans (KeepsOthers.setCell _ _ _))).from _, by rw [← set_swap _ _ _ _ _ (by omega)]; exact (below_two (Below.refl _ W) (by omega) _ _).drew.setCell (p := ⟨w.heap.size + 1 + 1 + 1, 0, none⟩) (by show w.heap.size ≤ w.heap.size + 1 + 1 + 1; omega) _, HE2.out, by rw [← set_swap _ _ _ _ _ (by omega)]; exact (below_two HB.out (by omega) _ _).drew.setCell (p := ⟨w.heap.size + 1 + 1 + 1, 0, none⟩) (by show w.heap.size ≤ w.heap.size + 1 + 1 + 1; omega) _⟩
  case done =>
    rintro D ys W hD hS ⟨hI, hB⟩ hK
    have c1 := hI.r1.cell; have d1 := hI.r1.frozen
    have c2 := hI.r2.cell; have d2 := hI.r2.frozen
    have HV := Lib.hid (divF_eq (toL s))
    have HTL := Lib.hid (txL_all hS)
    have HI := Lib.hid hI; have HB := Lib.hid hB; have HK := Lib.hid hK
    clear hI hB hK hS hI0 hB0 hbx
    rw [HTL.out] at c1 c2
    have HI1 := Lib.hid HI.out.r1; have HI2 := Lib.hid HI.out.r2
    rw [HTL.out, ← HV.out] at HI1
    rw [HTL.out, ← HV.out] at HI2
    rw [← HV.out] at c1 c2
    clear HI HTL
    obtain ⟨R1, hR1⟩ : ∃ R, R = ofL (divF (toL s)).1 := ⟨_, rfl⟩
    obtain ⟨R2, hR2⟩ : ∃ R, R = ofL (divF (toL s)).2 := ⟨_, rfl⟩
    rw [← hR1] at c1 HI1
    rw [← hR2] at c2 HI2
    have HR1 := Lib.hid hR1; have HR2 := Lib.hid hR2
    clear hR1 hR2
    have hmx : Tryz.prog.follows .mixedOrders = true := by kernel_rfl
    obtain ⟨p1, p2⟩ := bx_two (.string R1) (.string R2) HI1.out HI2.out
    have hK2 := (((KeepsOthers.setCell W ⟨w.heap.size + 1, 0, none⟩ (.string R1)).trans (KeepsOthers.setCell _ ⟨w.heap.size + 1 + 1, 0, none⟩ (.string R2))).trans (KeepsOthers.drew _)).same D _ HK.out rfl
    have HBE := Lib.hid ((below_two HB.out (Nat.le_succ _) (.string R1) (.string R2)).drew)
    have P1 := Lib.hid (bx_drew p1); have P2 := Lib.hid (bx_drew p2); have HK2 := Lib.hid hK2
    clear p1 p2 hK2
    have HSW := Lib.hid (set_swap W (w.heap.size + 1) (w.heap.size + 1 + 1) (.string R1) (.string R2) (by omega))
    gi_wp2
    gi_region_o
    all_goals gi_wp2
    all_goals
      try rw [← HSW.out]
      refine retBox2 rfl P1.out P2.out HK2.out ?_ rfl rfl (run_isAgg_plain Tryz.underlying9 rfl) (run_isAgg_plain Tryz.underlying9 rfl)
      exact ⟨by rw [HR1.out, HR2.out], HBE.out.trans (belowK_b (w := w) (Nat.le_refl _) _ D _ _ (by omega) HK2.out rfl rfl)⟩
  case stop =>
    rintro D c pre W _ _ h _
    exact h.elim
end Go.Proofs.YtghjgbkhhoaebaaGreatDoor

namespace Go.Proofs.YtghjgbkhhoaebaaGreatDoor
set_option linter.unusedSimpArgs false
set_option linter.unusedVariables false
open Go.RowKit

/-- How the reference keeps the last divider. -/
def DivV (o : Option (Nat × Nat)) (a b : Int) : Prop := match o with
  | none => a = -1 ∧ b = 0
  | some x => a = (x.1 : Int) ∧ b = (x.2 : Int)
theorem divider_is2 (x : ByteArray) : (x.toList == [45, 45, 32]) = decide (toL x = [45, 45, 32]) := by
  rw [ByteArray.toList_eq, Bool.eq_iff_iff, beq_iff_eq, decide_eq_true_iff]; rfl
def DivIn (N : Nat) (o : Option (Nat × Nat)) : Prop := ∀ x, o = some x → x.1 ≤ N ∧ x.2 ≤ N
/-- At the head of a round. -/
def DivRel (s : ByteArray) (v4 v5 v6 : Value) : Prop := ∃ (i : Nat) (o : Option (Nat × Nat)) (a b : Int), i ≤ s.size + 1 ∧ v6 = .int .i64 (i : Int) ∧ v4 = .int .i64 a ∧ v5 = .int .i64 b ∧ DivV o a b ∧ DivOn (toL s) i o ∧ DivIn s.size o
set_option maxHeartbeats 4000000 in
set_option maxRecDepth 100000 in
theorem rf_divide (s : ByteArray) (w : World) (hs : s.size ≤ 900000) : Calls Tryz.prog 36 #[.string s] w fun e w' => e = .returned (.tuple #[.string (ofL (divF (toL s)).1), .string (ofL (divF (toL s)).2)]) ∧ ∃ n, w' = w.drewN n := by
  have HL := Lib.hid (toL_length s)
  have HZ := Lib.hid (DivOn.zero (toL s))
  go_enter Tryz.func36, Tryz.ntmps36
  go_wp2_with fail
  go_loop [4, 5, 6] (fun v4 v5 v6 => DivRel s v4 v5 v6) (fun _ _ v6 => s.size + 1 - (intOf v6).toNat)
  case atStart => exact ⟨0, none, -1, 0, by omega, rfl, rfl, rfl, ⟨rfl, rfl⟩, HZ.out, fun x h => by cases h⟩
  case round =>
    obtain ⟨i, o, a, b, hi, rfl, rfl, rfl, hv, ho, hin⟩ := hrel
    have HV := Lib.hid hv; have HO := Lib.hid ho; have HI := Lib.hid hin
    clear hv ho hin HZ
    have i0 : (0 : Int) ≤ (i : Int) := by omega
    by_cases hlt : i < s.size
    · have i1 : (i : Int) < (s.size : Int) := by omega
      have hge := endF_ge (toL s) i
      have hle := endF_le (toL s) i (by rw [HL.out]; omega)
      rw [HL.out] at hle
      have HEND := Lib.hid (fun wx => rf_end s i wx (by omega) (by omega))
      have HN := Lib.hid (HO.out.next (by rw [HL.out]; exact hlt))
      rw [HL.out] at HN
      have HX := Lib.hid (extract_toL s i (endF (toL s) i))
      generalize endF (toL s) i = e at *
      obtain ⟨m, hm⟩ : ∃ m, m = min (e + 1) s.size := ⟨_, rfl⟩
      have hmi : min ((e : Int) + 1) (s.size : Int) = (m : Int) := by omega
      have hml : m ≤ s.size := by omega
      have b1 : (i : Int) ≤ (e : Int) := by omega
      have b2 : (e : Int) ≤ (s.size : Int) := by omega
      rw [← hm] at HN
      clear hm
      by_cases hd : cutL (toL s) i e = [45, 45, 32]
      · have g : ((s.extract i e).toList == [45, 45, 32]) = true := by rw [divider_is2, HX.out]; exact decide_eq_true hd
        rw [if_pos hd] at HN
        clear hd
        go_wp2_with ((go_at_call 77; (with_reducible refine (HEND.out _).mono ?_); rintro e w' ⟨rfl, rfl⟩))
        go_round
        case rel => exact ⟨e + 1, some (i, m), _, _, by omega, by go_num, rfl, rfl, ⟨rfl, rfl⟩, HN.out, fun x hx => by injection hx with hx; subst hx; exact ⟨by simp only; omega, hml⟩⟩
        case measure => simp [intOf] <;> omega
      · have g : ((s.extract i e).toList == [45, 45, 32]) = false := by rw [divider_is2, HX.out]; exact decide_eq_false hd
        rw [if_neg hd] at HN
        clear hd
        go_wp2_with ((go_at_call 77; (with_reducible refine (HEND.out _).mono ?_); rintro e w' ⟨rfl, rfl⟩))
        go_round
        case rel => exact ⟨e + 1, o, a, b, by omega, by go_num, rfl, rfl, HV.out, HN.out, HI.out⟩
        case measure => simp [intOf] <;> omega
    · have i1 : (s.size : Int) ≤ (i : Int) := by omega
      have HD := Lib.hid (HO.out.done (by rw [HL.out]; omega))
      cases o with
      | none =>
        obtain ⟨rfl, rfl⟩ := HV.out
        have HR := Lib.hid (show divF (toL s) = (toL s, []) from HD.out)
        go_wp2_with fail
        go_ret2
        exact ⟨by rw [HR.out, ofL_toL]; rfl, 0, rfl⟩
      | some x =>
        obtain ⟨p, q⟩ := x
        have hpq := HI.out (p, q) rfl
        obtain ⟨ha, hb⟩ := HV.out
        simp only at ha hb hpq
        subst ha
        subst hb
        have HR := Lib.hid (show divF (toL s) = ((toL s).take p, (toL s).drop q) from HD.out)
        have E1 := Lib.hid (show s.extract 0 p = ofL ((toL s).take p) from by rw [extract_ofL, cutL]; simp)
        have E2 := Lib.hid (show s.extract q s.size = ofL ((toL s).drop q) from by rw [← ext_drop, ofL_toL])
        have p0 : (0 : Int) ≤ (p : Int) := by omega
        have p1 : (p : Int) ≤ (s.size : Int) := by omega
        have q0 : (0 : Int) ≤ (q : Int) := by omega
        have q1 : (q : Int) ≤ (s.size : Int) := by omega
        go_upto_region 10 with fail
        go_quiet (fail)
        go_wp2_with fail
        go_ret2
        exact ⟨by rw [HR.out, ← E1.out, ← E2.out]; rfl, nq, rfl⟩
end Go.Proofs.YtghjgbkhhoaebaaGreatDoor
