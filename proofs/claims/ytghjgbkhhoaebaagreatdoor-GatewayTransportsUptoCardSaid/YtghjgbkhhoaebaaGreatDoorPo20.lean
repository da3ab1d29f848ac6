/- Lemmas and walks, part 20. -/
import Derived.Test.YtghjgbkhhoaebaaGreatDoorPo10
import Derived.Test.YtghjgbkhhoaebaaGreatDoorPo18
import Derived.Test.YtghjgbkhhoaebaaGreatDoorPo19
import Derived.Test.YtghjgbkhhoaebaaGreatDoorShelf
namespace Go.Proofs.YtghjgbkhhoaebaaGreatDoor
set_option linter.unusedSimpArgs false
set_option linter.unusedVariables false
open Go.RowKit Go.Shelf
attribute [local go_sem] Oper.semAt_some

theorem bx_but {w w' : World} {B : Nat} {t : TypeId} {v : Value} (h : Boxed w B t v) (hk : KeepsBut 91 5 w w') (h1 : t ≠ 91) (h2 : t ≠ 5) : Boxed w' B t v := hk _ _ _ _ h h1 h2
/-- Between two lines of Strip. -/
structure StI (b n : Nat) (lev : Int) (pre : List (LnT 10000)) (W : World) : Prop where
  lv : Boxed W b 3 (.int .i64 lev)
  bd : Lib.IsBuilder 91 5 n n (Lib.byteCells (strL lev (txL pre))) W
  sz : n ≤ W.heap.size
theorem StI.own (b n : Nat) (lev : Int) : Own (StI b n lev) := fun _ _ _ _ hs hg hr => ⟨bx_own hs.lv hg hr, bld_own hs.bd hg hr, Nat.le_trans hs.sz hg.size⟩
theorem bld_new (W : World) (n : Nat) (h : W.heap.size = n) : Lib.IsBuilder 91 5 n n (Lib.byteCells []) (W.alloc (.cells #[.pointer none, .slice none 0 0] 91)) := by
  subst h
  exact .inl ⟨Nat.le_refl _, _, World.alloc_heap_new _ _, World.ownsRow_nil _ _ _ _, by simp [Value.ownBlock]⟩
theorem bld_below {B b : Nat} {bs : List Value} {W W' : World} (h : Lib.IsBuilder 91 5 B b bs W) (hb : Below W.heap.size W W') : Lib.IsBuilder 91 5 B b bs W' := by
  rcases h with ⟨h1, v, h2, h3, h4⟩ | ⟨h1, v, h2, h3, h4⟩
  · exact .inl ⟨h1, v, (hb.block _ (heap_lt h2)).trans h2, own_below h3 hb, h4⟩
  · exact .inr ⟨h1, v, (hb.block _ (heap_lt h2)).trans h2, own_below h3 hb, h4⟩
end Go.Proofs.YtghjgbkhhoaebaaGreatDoor

namespace Go.Proofs.YtghjgbkhhoaebaaGreatDoor
set_option linter.unusedSimpArgs false
set_option linter.unusedVariables false
open Go.RowKit

theorem toU8 (x : Int) (n : Nat) (h : x.toNat = n) : x.toNat.toUInt8 = UInt8.ofNat n := by rw [h]
theorem enc_rune (r : Nat) (h : runeB r) : Lib.encodeRune (r : Int) = encU r := by
  obtain ⟨h1, h2⟩ := h
  unfold Lib.encodeRune encU
  by_cases a1 : r ≤ 127
  · rw [if_pos a1, Lib.encodeRuneZ_one (by omega) (by omega)]
    simp only [List.map_cons, List.map_nil]
    rw [toU8 _ r (by omega)]
  · rw [if_neg a1]
    by_cases a2 : r ≤ 2047
    · rw [if_pos a2, Lib.encodeRuneZ_two (by omega) (by omega)]
      simp only [List.map_cons, List.map_nil]
      rw [toU8 _ (192 + r / 64) (by omega), toU8 _ (128 + r % 64) (by omega)]
    · rw [if_neg a2]
      by_cases a3 : r ≤ 65535
      · rw [if_pos a3, Lib.encodeRuneZ_three (by omega)]
        simp only [List.map_cons, List.map_nil]
        rw [toU8 _ (224 + r / 4096) (by omega), toU8 _ (128 + r / 64 % 64) (by omega), toU8 _ (128 + r % 64) (by omega)]
      · rw [if_neg a3, Lib.encodeRuneZ_four (by omega) (by omega)]
        simp only [List.map_cons, List.map_nil]
        rw [toU8 _ (240 + r / 262144) (by omega), toU8 _ (128 + r / 4096 % 64) (by omega), toU8 _ (128 + r / 64 % 64) (by omega), toU8 _ (128 + r % 64) (by omega)]
theorem rune_cells (r : Nat) (h : runeB r) : Lib.runeCells (r : Int) = Lib.byteCells (encU r) := by rw [← Lib.byteCells_encodeRune, enc_rune r h]
set_option maxHeartbeats 2000000 in
set_option maxRecDepth 100000 in
theorem bld_rune (B b : Nat) (l : List UInt8) (r : Nat) (w : World) (h : Lib.IsBuilder 91 5 B b (Lib.byteCells l) w) (hr : runeB r) (hlen : l.length ≤ 1000000000) (hBw : B ≤ w.heap.size) :
    Calls Tryz.prog 105 #[.pointer (some ⟨b, 0, none⟩), .int .i32 (r : Int)] w fun e w' => (∃ k, e = .returned (.tuple #[.int .i64 k, .nilIface])) ∧
      (Lib.IsBuilder 91 5 B b (Lib.byteCells (l ++ encU r)) w' ∧ Below B w w' ∧ KeepsBut 91 5 w w' ∧ KeepsOthers w w') := by
  have hl := Lib.byteCells_length l
  have HL := Lib.hid hl; clear hl
  have HRC := Lib.hid (rune_cells r hr)
  have hr1 := hr.1
  go_enter Tryz.func105, Tryz.ntmps105
  go_wp2_with (go_at_call 90; refine (bld_check2 B b _ _ h).mono ?_)
  rintro e w1 ⟨rfl, h1, hb1, hk1, ho1⟩
  obtain ⟨hB, v, hbk, hown, hne⟩ := h1
  have HO1 := Lib.hid ho1; clear ho1
  obtain ⟨ao0, n0, cap0, rfl⟩ : ∃ ao n' cap, v = .slice ao n' cap := by
    rcases hown.2 with ⟨hv, _⟩ | ⟨g, cap, cur, hv, _⟩
    · exact ⟨_, _, _, hv⟩
    · exact ⟨_, _, _, hv⟩
  have c0 : w1.cell? ⟨b, 0, none⟩ = some (.pointer (some ⟨b, 0, none⟩)) := by rw [Lib.cell_of_heap hbk]; rfl
  have c1 : w1.cell? ⟨b, 1, none⟩ = some (.slice ao0 n0 cap0) := by rw [Lib.cell_of_heap hbk]; rfl
  have HAP := Lib.hid (Tryz.utf8_AppendRune_plain B (.slice ao0 n0 cap0) (Lib.byteCells l).length (Lib.byteCells l) (r : Int) (by omega) (by omega) w1 hown (by rw [HL.out]; omega) (by have := hb1.size; omega))
  go_wp2_with ((go_at_call 127; (with_reducible refine HAP.out.mono ?_); rintro e w2 ⟨v', rfl, hown', o, hgrow0⟩; go_must (have hgrow : w1.grownBy w2 (Value.slice ao0 n0 cap0).ownBlock := ⟨hgrow0.os, hgrow0.tape, hgrow0.output, Nat.le_trans (by simp) hgrow0.size, fun k hk hne => (hgrow0.block k (by simp; omega) hne).trans (Lib.alloc_old w1 _ k hk)⟩; have hb2 : w2.heap[b]? = some (.cells #[.pointer (some ⟨b, 0, none⟩), .slice ao0 n0 cap0] 91 (0, 0)) := (hgrow.block b (heap_lt hbk) (fun e => hne e.symm)).trans hbk; have d0 : w2.cell? ⟨b, 0, none⟩ = some (.pointer (some ⟨b, 0, none⟩)) := (by rw [Lib.cell_of_heap hb2]; rfl); have d1 : w2.cell? ⟨b, 1, none⟩ = some (.slice ao0 n0 cap0) := (by rw [Lib.cell_of_heap hb2]; rfl); have f1 : w2.frozen? ⟨b, 1, none⟩ = false := Lib.frozen_of_heap hb2 1; have hlt2 : b < w2.heap.size := heap_lt hb2; obtain ⟨ao, n', cap, rfl⟩ : ∃ ao n' cap, v' = .slice ao n' cap := (by
    rcases hown'.2 with ⟨hv, _⟩ | ⟨g, cap, cur, hv, _⟩
    · exact ⟨_, _, _, hv⟩
    · exact ⟨_, _, _, hv⟩))))
  have HO2 := Lib.hid (show KeepsOthers w1 w2 from KeepsOthers.of_grownBy hgrow (fun j o ej ho => by
    rcases hown.2 with ⟨e1, _⟩ | ⟨g, cap', cur, e1, _, hg, _⟩
    · rw [e1] at ej; simp [Value.ownBlock] at ej
    · rw [e1] at ej
      simp [Value.ownBlock] at ej
      subst ej
      rw [hg] at ho; cases ho; rfl))
  go_ret2
  have hcells : Lib.byteCells (l ++ encU r) = Lib.byteCells l ++ Lib.byteCells (encU r) := by simp [Lib.byteCells]
  refine ⟨⟨_, rfl⟩, .inr ?_, ?_, ?_, (HO1.out.trans HO2.out).trans (KeepsOthers.setCell _ _ _)⟩
  · rw [hcells]
    refine Lib.BuilderAt.put (T := 91) (e := 5) hB hb2 (bs' := Lib.byteCells l ++ Lib.byteCells (encU r)) ?_ (by decide)
    have := hown'
    rw [HRC.out] at this
    simpa using this
  · exact (hb1.grown hgrow (by have := hb1.size; omega) (fun k hk => (hown.lt k hk).1)).setCell (p := ⟨b, 1, none⟩) hB _
  · intro k c t fr hk h1 h2
    have hw1 := hk1 k c t fr hk h1 h2
    have hkb : k ≠ b := by
      rintro rfl
      rw [hbk] at hw1
      simp at hw1
      exact h1 hw1.2.1.symm
    rw [Below.heap_setCell _ _ _ _ hkb, hgrow.block k (heap_lt hw1)]
    · exact hw1
    · intro e
      rcases hown.2 with ⟨e1, _⟩ | ⟨g, cap', cur, e1, _, hg, _⟩
      · rw [e1] at e; simp [Value.ownBlock] at e
      · rw [e1] at e
        simp [Value.ownBlock] at e
        subst e
        rw [hg] at hw1
        simp at hw1
        exact h2 hw1.2.1.symm
end Go.Proofs.YtghjgbkhhoaebaaGreatDoor
