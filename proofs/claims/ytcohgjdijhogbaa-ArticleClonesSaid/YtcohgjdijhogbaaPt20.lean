/- Lemmas and walks, part 20. -/
import Derived.Test.YtcohgjdijhogbaaPt9
import Derived.Test.YtcohgjdijhogbaaPt17
namespace Go.Proofs.Ytcohgjdijhogbaa
set_option linter.unusedSimpArgs false
set_option linter.unusedVariables false
open Go.RowKit

theorem bld_check2 (B b : Nat) (bs : List Value) (w : World) (h : Lib.IsBuilder 72 5 B b bs w) :
    Calls Try.prog 56 #[.pointer (some ⟨b, 0, none⟩)] w fun e w' => e = .returned (.tuple #[]) ∧ (Lib.BuilderAt 72 5 B b (.pointer (some ⟨b, 0, none⟩)) bs w' ∧ Below B w w' ∧ KeepsBut 72 5 w w' ∧ KeepsOthers w w') := by
  rcases h with h | h
  · refine (bld_check_fresh b w h.cell0 h.shape h.frozen0).mono ?_
    rintro e w' ⟨rfl, rfl⟩
    refine ⟨rfl, h.used _, (Below.refl B w).setCell (p := ⟨b, 0, none⟩) h.1 _, fun k c t fr hk h1 h2 => ?_, KeepsOthers.setCell _ _ _⟩
    rw [Below.heap_setCell]
    · exact hk
    · rintro rfl
      obtain ⟨_, v, hb, _⟩ := h
      rw [hb] at hk
      simp at hk
      exact h1 hk.2.1.symm
  · refine (bld_check_used b w h.cell0).mono ?_
    rintro e w' ⟨rfl, rfl⟩
    exact ⟨rfl, h, Below.refl B _, KeepsBut.refl _ _ _, KeepsOthers.refl _⟩

set_option maxHeartbeats 2000000 in
set_option maxRecDepth 100000 in
theorem bld_write2 (B b : Nat) (l : List UInt8) (s : ByteArray) (w : World) (h : Lib.IsBuilder 72 5 B b (Lib.byteCells l) w) (hlen : l.length + s.size ≤ 1000000000) (hBw : B ≤ w.heap.size) :
    Calls Try.prog 38 #[.pointer (some ⟨b, 0, none⟩), .string s] w fun e w' => e = .returned (.tuple #[.int .i64 s.size, .nilIface]) ∧
      (Lib.IsBuilder 72 5 B b (Lib.byteCells (l ++ toL s)) w' ∧ Below B w w' ∧ KeepsBut 72 5 w w' ∧ KeepsOthers w w') := by
  obtain ⟨i0, hi, hz0, hz1, hz2⟩ := info_parts info_byte
  have hl := Lib.byteCells_length l
  have HL := Lib.hid hl; clear hl
  go_enter Try.func38, Try.ntmps38
  go_wp2_with (go_at_call 56; refine (bld_check2 B b _ _ h).mono ?_)
  rintro e w1 ⟨rfl, h1, hb1, hk1, ho1⟩
  obtain ⟨hB, v, hbk, hown, hne⟩ := h1
  have HO1 := Lib.hid ho1; clear ho1
  have c0 : w1.cell? ⟨b, 0, none⟩ = some (.pointer (some ⟨b, 0, none⟩)) := by rw [Lib.cell_of_heap hbk]; rfl
  have c1 : w1.cell? ⟨b, 1, none⟩ = some v := by rw [Lib.cell_of_heap hbk]; rfl
  go_wp2_with (at_builtin; refine Lib.wpList_append_own_string _ rfl _ _ 70 9 rfl B 5 i0 Try.underlying70 Try.underlying9 hi hz0 hz1 hz2 _ _ _ rfl hown s rfl ?c3 ?c4 ?c5 ?_)
  case c3 => rw [HL.out]; unfold maxLen; omega
  case c4 => rw [HL.out]; omega
  case c5 => have := hb1.size; omega
  intro v' w2 hown' hgrow _
  have hlt : b < w1.heap.size := heap_lt hbk
  have hb2 : w2.heap[b]? = some (.cells #[.pointer (some ⟨b, 0, none⟩), v] 72 (0, 0)) := by
    rw [hgrow.block b hlt (fun e => hne e.symm)]
    exact hbk
  have HO2 := Lib.hid (show KeepsOthers w1 w2 from KeepsOthers.of_grownBy hgrow (fun j o ej ho => by
    rcases hown.2 with ⟨rfl, _⟩ | ⟨g, cap', cur, rfl, _, hg, _⟩
    · simp [Value.ownBlock] at ej
    · simp [Value.ownBlock] at ej
      subst ej
      rw [hg] at ho; cases ho; rfl))
  have d0 : w2.cell? ⟨b, 0, none⟩ = some (.pointer (some ⟨b, 0, none⟩)) := by rw [Lib.cell_of_heap hb2]; rfl
  have d1 : w2.cell? ⟨b, 1, none⟩ = some v := by rw [Lib.cell_of_heap hb2]; rfl
  have f1 : w2.frozen? ⟨b, 1, none⟩ = false := Lib.frozen_of_heap hb2 1
  obtain ⟨ao, n', cap, rfl⟩ : ∃ ao n' cap, v' = .slice ao n' cap := by
    rcases hown'.2 with ⟨hv, _⟩ | ⟨g, cap, cur, hv, _⟩
    · exact ⟨_, _, _, hv⟩
    · exact ⟨_, _, _, hv⟩
  go_wp2
  go_ret2
  have hcells : Lib.byteCells (l ++ toL s) = Lib.byteCells l ++ Lib.strCells s := by simp [Lib.byteCells, Lib.strCells, toL]
  refine ⟨rfl, .inr ?_, ?_, ?_, (HO1.out.trans HO2.out).trans (KeepsOthers.setCell _ _ _)⟩
  · rw [hcells]
    exact Lib.BuilderAt.put (T := 72) (e := 5) hB hb2 (bs' := Lib.byteCells l ++ Lib.strCells s) (by simpa [Lib.strCells_length] using hown') (by decide)
  · exact (hb1.grown hgrow (by have := hb1.size; omega) (fun k hk => (hown.lt k hk).1)).setCell (p := ⟨b, 1, none⟩) hB _
  · intro k c t fr hk h1 h2
    have hw1 := hk1 k c t fr hk h1 h2
    have hkb : k ≠ b := by
      rintro rfl
      rw [hbk] at hw1
      simp at hw1
      exact h1 hw1.2.1.symm
    rw [Below.heap_setCell _ _ _ _ hkb, hgrow.block k (heap_lt hw1)]
    · exact hw1
    · intro e
      rcases hown.2 with ⟨rfl, _⟩ | ⟨g, cap', cur, rfl, _, hg, _⟩
      · simp [Value.ownBlock] at e
      · simp [Value.ownBlock] at e
        subst e
        rw [hg] at hw1
        simp at hw1
        exact h2 hw1.2.1.symm

/-- A builder stays while blocks that are no cells, or new ones, turn. -/
theorem bld_own {B b : Nat} {bs : List Value} {W W' : World} {row : Option Nat} (h : Lib.IsBuilder 72 5 B b bs W) (hg : W.grownBy W' row) (hr : ∀ r, row = some r → ∃ o : Obj, W.heap[r]? = some o ∧ o.isCells = false) : Lib.IsBuilder 72 5 B b bs W' := by
  have key : ∀ k (c : Array Value) (t : TypeId) (fr : Nat × Nat), W.heap[k]? = some (Obj.cells c t fr) → W'.heap[k]? = some (Obj.cells c t fr) := fun k c t fr hk =>
    (hg.block k (heap_lt hk) (fun e => by obtain ⟨o, ho, hc⟩ := hr k e.symm; rw [hk] at ho; cases ho; cases hc)).trans hk
  have keyr : ∀ {base : Nat} {e : TypeId} {size n : Nat} {v : Value} {xs : List Value}, W.ownsRow base e size v n xs → W'.ownsRow base e size v n xs := fun h => by
    refine ⟨h.1, ?_⟩
    rcases h.2 with h2 | ⟨g, cap, cur, hv, hg', hh, r⟩
    · exact .inl h2
    · exact .inr ⟨g, cap, cur, hv, hg', key _ _ _ _ hh, r⟩
  rcases h with ⟨h1, v, h2, h3, h4⟩ | ⟨h1, v, h2, h3, h4⟩
  · exact .inl ⟨h1, v, key _ _ _ _ h2, keyr h3, h4⟩
  · exact .inr ⟨h1, v, key _ _ _ _ h2, keyr h3, h4⟩
end Go.Proofs.Ytcohgjdijhogbaa

namespace Go.Proofs.Ytcohgjdijhogbaa
set_option linter.unusedSimpArgs false
set_option linter.unusedVariables false
open Go.RowKit Go.Shelf
attribute [local go_sem] Oper.semAt_some

theorem bx_but {w w' : World} {B : Nat} {t : TypeId} {v : Value} (h : Boxed w B t v) (hk : KeepsBut 72 5 w w') (h1 : t ≠ 72) (h2 : t ≠ 5) : Boxed w' B t v := hk _ _ _ _ h h1 h2
/-- Between two lines of Strip. -/
structure StI (b n : Nat) (lev : Int) (pre : List (LnT 10000)) (W : World) : Prop where
  lv : Boxed W b 3 (.int .i64 lev)
  bd : Lib.IsBuilder 72 5 n n (Lib.byteCells (strL lev (txL pre))) W
  sz : n ≤ W.heap.size
theorem StI.own (b n : Nat) (lev : Int) : Own (StI b n lev) := fun _ _ _ _ hs hg hr => ⟨bx_own hs.lv hg hr, bld_own hs.bd hg hr, Nat.le_trans hs.sz hg.size⟩
theorem bld_new (W : World) (n : Nat) (h : W.heap.size = n) : Lib.IsBuilder 72 5 n n (Lib.byteCells []) (W.alloc (.cells #[.pointer none, .slice none 0 0] 72)) := by
  subst h
  exact .inl ⟨Nat.le_refl _, _, World.alloc_heap_new _ _, World.ownsRow_nil _ _ _ _, by simp [Value.ownBlock]⟩
theorem bld_below {B b : Nat} {bs : List Value} {W W' : World} (h : Lib.IsBuilder 72 5 B b bs W) (hb : Below W.heap.size W W') : Lib.IsBuilder 72 5 B b bs W' := by
  rcases h with ⟨h1, v, h2, h3, h4⟩ | ⟨h1, v, h2, h3, h4⟩
  · exact .inl ⟨h1, v, (hb.block _ (heap_lt h2)).trans h2, own_below h3 hb, h4⟩
  · exact .inr ⟨h1, v, (hb.block _ (heap_lt h2)).trans h2, own_below h3 hb, h4⟩
set_option maxRecDepth 100000 in
set_option maxHeartbeats 4000000 in
theorem art_strip (s : ByteArray) (lev : Int) (w : World) (hsh : w.ShapedOpen Try.prog) (hs : s.size ≤ 10000) : Calls Try.prog 23 #[.string s, .int .i64 lev] w fun e w' => e = .returned (.tuple #[.string (ofL (strF (toL s) lev).1), .int .i64 (strF (toL s) lev).2]) ∧ Below w.heap.size w w' := by
  have HSH := Lib.hid hsh; clear hsh
  have HL := Lib.hid (toL_length s)
  have HV0 := Lib.hid (show strF (toL s) lev = if lev < 1 then ([], 2) else if (bodyF (toL s)).2 ≠ 0 then ([], (bodyF (toL s)).2) else (strL lev (linesF (toL s)), 0) from rfl)
  refine (callsIn_wide (n := 10)).1 ?_
  refine callsIn_of_wp_marks Try.func23 rfl trivial ?_ rfl
  simp only [Try.ntmps23, List.size_toArray, List.length_cons, List.length_nil, Nat.reduceAdd, Nat.reduceSub, Array.replicate_succ, Array.replicate_zero, List.push_toArray, List.append_toArray, List.nil_append, List.cons_append]
  by_cases hl : lev < 1
  · have HV := Lib.hid (show strF (toL s) lev = ([], 2) from by rw [HV0.out, if_pos hl])
    gi_wp2
    exact ⟨.tuple #[.string ⟨#[]⟩, .int .i64 2], by simp [results, Try.f23, go_sem], by rw [HV.out]; rfl, (Below.refl _ _).alloc (Nat.le_refl _) _⟩
  · have HBD := Lib.hid (fun wx hx => art_body s wx hx (by omega))
    have hl' : 1 ≤ lev := by omega
    by_cases he : (bodyF (toL s)).2 = 0
    · have HV := Lib.hid (show strF (toL s) lev = (strL lev (linesF (toL s)), 0) from by rw [HV0.out, if_neg hl, if_neg (by omega)])
      clear HV0
      generalize bodyF (toL s) = bf at *
      obtain ⟨bn, be⟩ := bf
      simp only at he HBD
      subst he
      gi_wp2_with (first | (refine ⟨trivial, ?_⟩; gi_at_call 11; refine (callsIn_wide.2 (HBD.out _ (shaped_below HSH.out ((Below.refl _ _).alloc (Nat.le_refl _) _)))).mono ?_; rintro e w1 ⟨rfl, hb1⟩; have q1 := (bx_below (Boxed.new w 3 (.int .i64 lev)) hb1).cell) | (refine ⟨trivial, ?_⟩; gi_at_call 15; refine (art_lines s _ _).mono ?_; rintro e w' ⟨rfl, rfl⟩))
      have hBw : Below w.heap.size w w1 := ((Below.refl _ _).alloc (Nat.le_refl _) _).trans (hb1.mono (by simp))
      have hz1 : w.heap.size < w1.heap.size := by have := hb1.size; simp at this; omega
      have hlv := bx_below (Boxed.new w 3 (.int .i64 lev)) hb1
      have HI0 := Lib.hid (show StI w.heap.size w1.heap.size lev [] ((w1.alloc (.cells #[.pointer none, .slice none 0 0] 72)).alloc (.cells #[.string s] 9)) from
        ⟨(hlv.alloc _).alloc _, bld_below (bld_new w1 _ rfl) ((Below.refl _ _).alloc (Nat.le_refl _) _), by simp; omega⟩)
      have hB0 : Below w.heap.size w ((w1.alloc (.cells #[.pointer none, .slice none 0 0] 72)).alloc (.cells #[.string s] 9)) := (hBw.alloc (by omega) _).alloc (by simp; omega) _
      have hbx : Boxed ((w1.alloc (.cells #[.pointer none, .slice none 0 0] 72)).alloc (.cells #[.string s] 9)) (w1.heap.size + 1) 9 (.string s) := bx_new _ _ (by simp)
      have hz0 : ((w1.alloc (.cells #[.pointer none, .slice none 0 0] 72)).alloc (.cells #[.string s] 9)).heap.size = w1.heap.size + 2 := by simp
      clear q1 hlv hBw hb1 HBD
      generalize (w1.alloc (.cells #[.pointer none, .slice none 0 0] 72)).alloc (.cells #[.string s] 9) = X at *
      have hwn := Nat.le_of_lt hz1
      generalize w1.heap.size = n1 at *
      refine wpIn_rangeFunc_ownG (a₁ := ?a1) rfl (by omega) (gf := 35) (lb := #[.pointer (some ⟨n1 + 1, 0, none⟩)]) rfl trivial (enters_of Try.func35 (by kernel_rfl) rfl)
        (lines_stops _ (by omega) w X HSH.out hB0 (n1 + 1) hbx.lt s (by omega) hs hbx.cell) belowK_t (belowK_b (by omega)) (Below.refl _ _) (fun _ => rfl)
        (fun pre W => StI w.heap.size n1 lev pre W ∧ Below w.heap.size w W)
        (fun _ _ _ => False)
        (OwnFrom.and (Own.from (StI.own _ _ _) _) (ownFrom_below (Nat.le_refl _) (by omega)))
        (fun _ _ _ _ _ hs _ _ => hs)
        ⟨HI0.out, hB0⟩ ?assign ?body ?done ?stop
      case assign =>
        intro l x W K hK
        gi_wp2
        exact hK
      case body =>
        rintro l pre ⟨⟨o, x⟩, hx⟩ W ⟨hI, hB⟩ hlen
        have HI := Lib.hid hI; have HB := Lib.hid hB
        have hx1 : x.size ≤ 10000 := hx.2
        have HTX := Lib.hid (show txL (pre ++ [⟨(o, x), hx⟩]) = txL pre ++ [toL x] from txL_snoc _ _)
        have HXL := Lib.hid (toL_length x)
        have HSN := Lib.hid (strL_snoc lev (txL pre) (toL x))
        have hsl := Nat.le_trans (strL_le lev (txL pre)) (sumL_le pre)
        have hle : (strL lev (txL pre)).length ≤ 110000000 := Nat.le_trans hsl (by have : pre.length * (10000 + 1) ≤ 10001 * (10000 + 1) := Nat.mul_le_mul_right _ (by omega); omega)
        have c1 := hI.lv.cell
        have HLV := Lib.hid (fun wx => art_level x wx (by omega))
        clear hI hB hbx hB0 hsl hlen HI0
        dsimp only
        by_cases hn : (levN (toL x) : Int) < lev
        · have HN := Lib.hid (show strL lev (txL (pre ++ [⟨(o, x), hx⟩])) = (strL lev (txL pre) ++ toL x) ++ toL (⟨#[10]⟩ : ByteArray) from by
            rw [HTX.out, HSN.out, if_pos hn, List.append_assoc]; rfl)
          generalize levN (toL x) = nl at *
          generalize levR (toL x) = rl at *
          have HL1 := Lib.hid (show (strL lev (txL pre) ++ toL x).length ≤ 120000000 from by rw [List.length_append, HXL.out]; omega)
          gi_wp2_with (first | (refine ⟨trivial, ?_⟩; gi_at_call 19; refine (CallsIn.inRound l (callsIn_wide.2 (HLV.out _))).mono ?_; rintro e w' ⟨rfl, rfl⟩))
          refine ⟨trivial, CallsIn.mono (CallsIn.inRound l (callsIn_wide.2 (bld_write2 n1 n1 _ x W HI.out.bd (by rw [HXL.out] at *; omega) HI.out.sz))) ?_⟩
          rintro e W2 ⟨rfl, hbd2, hb2, hk2, ho2⟩
          have HBD2 := Lib.hid hbd2; have HB2 := Lib.hid hb2; have HK2 := Lib.hid hk2; have HO2 := Lib.hid ho2
          have hz2 := Nat.le_trans HI.out.sz hb2.size
          clear hbd2 hb2 hk2 ho2
          gi_wp2
          refine ⟨trivial, CallsIn.mono (CallsIn.inRound l (callsIn_wide.2 (bld_write2 n1 n1 _ ⟨#[10]⟩ W2 HBD2.out (by have := HL1.out; rw [one_size]; omega) hz2))) ?_⟩
          rintro e W3 ⟨rfl, hbd3, hb3, hk3, ho3⟩
          have HBD3 := Lib.hid hbd3; have HB3 := Lib.hid (HB2.out.trans hb3); have HK3 := Lib.hid (HK2.out.trans hk3); have HO3 := Lib.hid (HO2.out.trans ho3)
          clear hbd3 hb3 hk3 ho3
          gi_wp2
          exact ⟨HO3.out.from _, HB3.out.mono hwn, ⟨bx_but HI.out.lv HK3.out (by decide) (by decide), by rw [HN.out]; exact HBD3.out, Nat.le_trans HI.out.sz HB3.out.size⟩, HB.out.trans (HB3.out.mono hwn)⟩
        · have HN := Lib.hid (show strL lev (txL (pre ++ [⟨(o, x), hx⟩])) = strL lev (txL pre) from by
            rw [HTX.out, HSN.out, if_neg hn, List.append_nil])
          have hn' : lev ≤ (levN (toL x) : Int) := by omega
          generalize levN (toL x) = nl at *
          generalize levR (toL x) = rl at *
          clear hn
          gi_wp2_with (first | (refine ⟨trivial, ?_⟩; gi_at_call 19; refine (CallsIn.inRound l (callsIn_wide.2 (HLV.out _))).mono ?_; rintro e w' ⟨rfl, rfl⟩))
          exact ⟨KeepsFrom.refl _ _, Below.refl _ _, ⟨HI.out.lv, by rw [HN.out]; exact HI.out.bd, HI.out.sz⟩, HB.out⟩
      case done =>
        rintro D ys W hD hS ⟨hI, hB⟩ hK
        have HTL := Lib.hid (txL_all hS)
        have hbd := hI.bd
        rw [HTL.out] at hbd
        have hsz := hI.sz
        gi_wp2_with (refine ⟨trivial, ?_⟩; gi_at_call 40; refine (callsIn_wide.2 (Try.Builder_String_any_k _ _ _ _ (Lib.IsBuilderF.of hbd) hsz)).mono ?_; rintro e w2 ⟨rfl, _, hb2, hok2⟩)
        have hK2 := hok2 D _ hK (by simp; omega) (fun c fz e => by cases e)
        have hBB := (hB.trans (hb2.mono hwn)).trans (belowK_b (w := w) (Nat.le_refl _) w2 D _ (.deferred none) (by omega) hK2 rfl rfl)
        refine ⟨by simp, .inl ⟨_, _, rfl, run_takeDeferred hK2, ?_⟩⟩
        exact ⟨.tuple #[.string (ofL (strL lev (linesF (toL s)))), .int .i64 0], by simp [results, Try.f23, go_sem, ofL], by rw [HV.out], hBB⟩
      case stop =>
        rintro D c pre W _ _ h _
        exact h.elim
    · have HV := Lib.hid (show strF (toL s) lev = ([], (bodyF (toL s)).2) from by rw [HV0.out, if_neg hl, if_pos he])
      clear HV0
      generalize bodyF (toL s) = bf at *
      obtain ⟨bn, be⟩ := bf
      simp only at he HBD HV
      have e1 : (be != 0) = true := by simp [bne, he]
      clear he
      gi_wp2_with (refine ⟨trivial, ?_⟩; gi_at_call 11; refine (callsIn_wide.2 (HBD.out _ (shaped_below HSH.out ((Below.refl _ _).alloc (Nat.le_refl _) _)))).mono ?_; rintro e w1 ⟨rfl, hb1⟩)
      exact ⟨.tuple #[.string ⟨#[]⟩, .int .i64 be], by simp [results, Try.f23, go_sem], by rw [HV.out]; rfl, ((Below.refl _ _).alloc (Nat.le_refl _) _).trans (hb1.mono (by simp))⟩
end Go.Proofs.Ytcohgjdijhogbaa
