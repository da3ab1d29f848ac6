/- The walk over field.With. -/
import Derived.Test.YtaigbplfbfaghaaRefGet
import Derived.Deep.RegionHeld3
namespace Go.Proofs.Ytaigbplfbfaghaa
set_option linter.unusedSimpArgs false
set_option linter.unusedVariables false
open Go.RowKit

/-- A box of two strings at block N, and all below it as it was. -/
def Box2 (w : World) (N : Nat) (n b : ByteArray) (wx : World) : Prop := wx.cell? ⟨N, 0, none⟩ = some (.string n) ∧ wx.cell? ⟨N, 1, none⟩ = some (.string b) ∧ Below w.heap.size w wx
theorem Box2.later {w : World} {N : Nat} {n b : ByteArray} {wx wy : World} (h : Box2 w N n b wx) (hb : Below wx.heap.size wx wy) : Box2 w N n b wy :=
  have hl := World.block_lt_of_cell? wx _ h.1
  ⟨(hb.cell (p := ⟨N, 0, none⟩) hl).trans h.1, (hb.cell (p := ⟨N, 1, none⟩) hl).trans h.2.1, h.2.2.trans (hb.mono h.2.2.size)⟩
theorem Box2.grown {w : World} {N : Nat} {n b : ByteArray} {wx wy : World} {e : TypeId} {base k : Nat} {v : Value} {xs : List Value} (h : Box2 w N n b wx) (hown : wx.ownsRow base e 2 v k xs) (hN : N < base) (hw : w.heap.size ≤ base) (hg : wx.grownBy wy v.ownBlock) : Box2 w N n b wy := by
  have hl := World.block_lt_of_cell? wx _ h.1
  have hk : ∀ g, v.ownBlock = some g → base ≤ g := fun g hg => (hown.lt g hg).1
  refine ⟨?_, ?_, h.2.2.grown hg h.2.2.size (fun g hg => Nat.le_trans hw (hk g hg))⟩
  · rw [hg.cell_far ⟨N, 0, none⟩ hl (fun e => by have := hk N e.symm; omega)]; exact h.1
  · rw [hg.cell_far ⟨N, 1, none⟩ hl (fun e => by have := hk N e.symm; omega)]; exact h.2.1

set_option maxHeartbeats 4000000 in
set_option maxRecDepth 100000 in
theorem fld_with (A : Option Addr) (l : List Fd) (c : Nat) (n b : ByteArray) (w : World) (hr : Row w A (fldsV l)) (hl : Mild l) (hn : n.size ≤ 1000000) :
    Calls Try.prog 29 #[.slice A l.length c, .agg #[.string n, .string b]] w fun e w' => ∃ v, e = .returned v ∧ FldsOwn w w' 28 v ((l.filter fun f => !foldEq f.1 (toL n)) ++ [(toL n, toL b)]) := by
  have HR := Lib.hid hr; clear hr
  have HM := Lib.hid hl
  have hlen : (l.filter fun f => !foldEq f.1 (toL n)).length ≤ 1000 := Nat.le_trans (List.length_filter_le _ _) hl.1
  clear hl
  obtain ⟨i0, hi0, hz0, hz1, hz2⟩ := info_parts info_Fld
  have HW := Lib.hid (fun wx (hx : Box2 w w.heap.size n b wx) => fld_without A l c n wx (HR.out.below hx.2.2) HM.out hn)
  generalize (l.filter fun f => !foldEq f.1 (toL n)) = m at *
  have HB2 := Lib.hid (show ((w.alloc (.cells #[.string n, .string b] 28)).alloc (.cells #[.string n, .string b] 28)).drew.heap[w.heap.size + 1]? = some (.cells #[.string n, .string b] 28 (0, 0)) from by
    have := heap_alloc_new (w.alloc (.cells #[.string n, .string b] 28)) (.cells #[.string n, .string b] 28 (0, 0))
    rw [World.size_alloc] at this
    exact this)
  go_enter Try.func29, Try.ntmps29
  go_wp2_with fail
  go_region_held3 (fun w' => w'.cell? ⟨w.heap.size, 0, none⟩ = some (.string n) ∧ w'.cell? ⟨w.heap.size, 1, none⟩ = some (.string b) ∧ Below w.heap.size w w')
    (first
      | exact ⟨by simp, by simp, ((Below.refl _ _).alloc (Nat.le_refl _) _).drew⟩
      | exact Box2.later (by assumption) hF2.bel
      | exact Box2.later (by assumption) ((Below.refl _ _).alloc (Nat.le_refl _) _)
      | exact Box2.grown (base := w.heap.size + 1) (by assumption) (own_mono (hF2.own.alloc _) (by simp)) (by omega) (by omega) hgrow
      | exact Box2.grown (base := w.heap.size + 1) (by assumption) (own_mono hF2.own (by simp)) (by omega) (by omega) hgrow)
    (first
      | (go_at_call 28; refine (HW.out _ (by assumption)).mono ?_; rintro e w2 ⟨v2, rfl, hF2⟩)
      | (refine step_append_lies _ (by rfl) _ _ _ (by rfl) _ 28 i0 _ 2 32 Try.underlying39 hi0 hz0 hz1 hz2 rfl (by omega) _ _ _ (by rfl) (hF2.own.alloc _)
            ⟨w2.heap.size, 0, none⟩ 1 1 [.string n, .string b] (by rfl) (by rfl) (World.news_of_block (cs := #[.string n, .string b]) (t := 28) (fr := (0, 0)) (heap_alloc_new w2 _)) (by simp [Value.oneCell'])
            (by omega) (by unfold maxLen; omega) (by omega) (by have := hF2.bel.size; simp at this ⊢; omega) (w2.heap.size + 1) (by simp) ?_; intro gg cap w3 hown3 hgrow hat hlt3)
      | (refine step_append_lies _ (by rfl) _ _ _ (by rfl) _ 28 i0 _ 2 32 Try.underlying39 hi0 hz0 hz1 hz2 rfl (by omega) _ _ _ (by rfl) hF2.own
            ⟨w.heap.size + 1, 0, none⟩ 1 1 [.string n, .string b] (by rfl) (by rfl) (World.news_of_block (cs := #[.string n, .string b]) (t := 28) (fr := (0, 0)) (by rw [hF2.bel.block _ (by simp)]; exact HB2.out)) (by simp [Value.oneCell'])
            (by omega) (by unfold maxLen; omega) (by omega) (by have := hF2.bel.size; simp at this ⊢; omega) w2.heap.size (by simp) ?_; intro gg cap w3 hown3 hgrow hat hlt3))
  all_goals
    have hfin : FldsOwn w w3 28 (.slice (some ⟨gg, 0, none⟩) (m.length + 1) cap) (m ++ [(toL n, toL b)]) := by
      refine ⟨?_, (show Box2 w w.heap.size n b w3 by assumption).2.2⟩
      rw [← fldsV_snoc]
      have := own_mono hown3 (base' := w.heap.size) (by simp <;> omega)
      simpa using this
    clear hown3 hgrow hat hlt3
    go_wp2_with fail
    go_ret
    exact ⟨_, rfl, hfin⟩

end Go.Proofs.Ytaigbplfbfaghaa
