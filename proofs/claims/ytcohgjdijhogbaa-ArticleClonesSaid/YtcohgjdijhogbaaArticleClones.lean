/- For every article and any two numbers, ArticleClones returns true: a clone is equal, shares no memory, and Equal reports any difference. No condition. -/
import Derived.Test.YtcohgjdijhogbaaPt22
import Derived.Test.YtcohgjdijhogbaaToA
import Derived.Test.YtcohgjdijhogbaaClonW
import Derived.Test.YtcohgjdijhogbaaABox
import Derived.Test.YtcohgjdijhogbaaPt23
import Derived.Test.YtcohgjdijhogbaaOpenA
import Derived.HandedShaped
import Derived.Deep.RegionHeld3
namespace Go.Proofs.Ytcohgjdijhogbaa
set_option linter.unusedSimpArgs false
set_option linter.unusedVariables false
open Go.ChangeShapes Go.WideShapes Go.ChangeAt Go.RowKit
open Go.ChangeMaps (open_string shut_string)

theorem own_row_is {w : World} {base n c : Nat} {e : TypeId} {size : Nat} {A : Option Addr} {xs : List Value} (h : w.ownsRow base e size (.slice A n c) n xs) : Row w A xs := by
  obtain ⟨A2, c2, e2, hr⟩ := own_row h
  injection e2 with h1 h2 h3
  rw [h1]; exact hr
theorem row_setF {w : World} {g : Nat} {xs : List Value} (h : Row w (some ⟨g, 0, none⟩) xs) (k : Nat) (v : Value) : Row (w.setCell ⟨g, k, none⟩ v) (some ⟨g, 0, none⟩) (xs.set k v) := by
  rcases h with rfl | ⟨b, off, e, hlt, hc⟩
  · exact Row.nil _ _
  · injection e with e; injection e with e1 e2; subst e1 e2
    refine Row.mk _ _ _ _ (by simp; exact hlt) fun j u hu => ?_
    rw [List.getElem?_set] at hu
    split at hu
    · rename_i hkj; subst hkj
      split at hu
      · rename_i hk
        injection hu with hu; subst hu
        have := hc k _ (List.getElem?_eq_getElem hk)
        rw [Nat.zero_add] at this ⊢
        exact World.cell?_setCell_same _ _ _ this
      · cases hu
    · rename_i hkj
      rw [World.cell?_setCell_other _ _ _ _ (by rw [Nat.zero_add]; intro e; injection e with _ e _; exact hkj e)]
      exact hc j u hu
theorem fldsV_setName (l : List Fd) (k : Nat) (x : List UInt8) (h : k < l.length) : fldsV (l.set k (x, l[k].2)) = (fldsV l).set (k * 2) (.string (ofL x)) := by
  induction l generalizing k with
  | nil => simp at h
  | cons f r ih =>
    cases k with
    | zero => simp [fldsV]
    | succ k =>
      have := ih k (by simpa using h)
      simp only [fldsV, List.set_cons_succ, List.flatMap_cons, List.getElem_cons_succ] at this ⊢
      rw [this]
      simp [Nat.add_mul, List.set_append]
theorem fldsV_setBody (l : List Fd) (k : Nat) (x : List UInt8) (h : k < l.length) : fldsV (l.set k (l[k].1, x)) = (fldsV l).set (k * 2 + 1) (.string (ofL x)) := by
  induction l generalizing k with
  | nil => simp at h
  | cons f r ih =>
    cases k with
    | zero => simp [fldsV]
    | succ k =>
      have := ih k (by simpa using h)
      simp only [fldsV, List.set_cons_succ, List.flatMap_cons, List.getElem_cons_succ] at this ⊢
      rw [this]
      simp [Nat.add_mul, List.set_append]
theorem set_ne {l : List Fd} {k : Nat} (h : k < l.length) (f : Fd) (hf : f ≠ l[k]) : l.set k f ≠ l := fun e => by
  have h1 : (l.set k f)[k]'(by simpa using h) = l[k] := by simp only [e]
  rw [List.getElem_set_self] at h1
  exact hf h1
theorem u8_range {x : Int} (h : (Lit.int .u8 x).wf = true) : 0 ≤ x ∧ x ≤ 255 := by
  have h1 : IntKind.u8.min = 0 := by decide
  have h2 : IntKind.u8.max = 255 := by decide
  simp only [Lit.wf, Bool.and_eq_true, decide_eq_true_eq] at h
  rw [h1, h2] at h
  omega
theorem toL_x (n : ByteArray) : toL (n ++ ⟨#[120]⟩) = toL n ++ [120] := by
  have := ofL_append (toL n) [120]
  rw [ofL_toL] at this
  rw [show (⟨#[120]⟩ : ByteArray) = ofL [120] from rfl, this, toL_ofL]

theorem row_other {W : World} {A : Option Addr} {xs : List Value} (h : Row W A xs) (p : Addr) (v : Value) (hne : ∀ bb off, A = some ⟨bb, off, none⟩ → xs ≠ [] → bb ≠ p.block) : Row (W.setCell p v) A xs := by
  rcases h with rfl | ⟨b, off, rfl, hlt, hc⟩
  · exact Row.nil _ _
  · by_cases hx : xs = []
    · subst hx; exact Row.nil _ _
    · have hb := hne b off rfl hx
      refine Row.mk _ _ _ _ (by simp; exact hlt) fun j u hu => ?_
      rw [World.cell?_setCell_other _ _ _ _ (by intro e; exact hb (by rw [e]))]
      exact hc j u hu
theorem own_frozen {w : World} {base n g cap : Nat} {e : TypeId} {size : Nat} {xs : List Value} (h : w.ownsRow base e size (.slice (some ⟨g, 0, none⟩) n cap) n xs) (j : Nat) : w.frozen? ⟨g, j, none⟩ = false := by
  rcases h.2 with ⟨h, _⟩ | ⟨g', cap', cur, hv, hg, hh, _⟩
  · cases h
  · injection hv with h1
    injection h1 with h1
    injection h1 with h1
    subst h1
    exact Lib.frozen_of_heap hh j
theorem row_lt {W : World} {A : Option Addr} {xs : List Value} (h : Row W A xs) : ∀ bb off, A = some ⟨bb, off, none⟩ → xs ≠ [] → bb < W.heap.size := by
  rcases h with rfl | ⟨b, off, rfl, hlt, hc⟩
  · intro _ _ _ h; exact absurd rfl h
  · intro bb off2 e _
    injection e with e; injection e with e1 e2; subst e1; exact hlt
theorem row_take {W : World} {A : Option Addr} {xs : List Value} (h : Row W A xs) (n : Nat) : Row W A (xs.take n) := by
  rcases h with rfl | ⟨b, off, rfl, hlt, hc⟩
  · simpa using Row.nil _ _
  · refine Row.mk _ _ _ _ hlt fun j u hu => hc j u ?_
    rw [List.getElem?_take] at hu
    split at hu
    · exact hu
    · cases hu
theorem fldsV_take (l : List Fd) : ∀ n, fldsV (l.take n) = (fldsV l).take (n * 2) := by
  induction l with
  | nil => intro n; simp [fldsV]
  | cons f r ih =>
    intro n
    cases n with
    | zero => simp [fldsV]
    | succ n =>
      have := ih n
      simp only [fldsV, List.take_succ_cons, List.flatMap_cons] at this ⊢
      rw [this]
      simp [Nat.add_mul, List.take_append]
/-- The article, its clone and what the clone owns. -/
structure ClSt (w0 : World) (r0 n3 r7 : Nat) (T E : TypeId) (A2 A3 : Option Addr) (L : List Fd) (c2 c3 : Nat) (B : ByteArray) (wr : World) : Prop where
  a : ABox wr r0 T A2 L c2 B
  c : ABox wr r7 T A3 L c3 B
  own : wr.ownsRow n3 E 2 (.slice A3 L.length c3) L.length (fldsV L)
  aN : ∀ bb off, A2 = some ⟨bb, off, none⟩ → fldsV L ≠ [] → bb < n3
  cN : ∀ bb off, A3 = some ⟨bb, off, none⟩ → fldsV L ≠ [] → bb < r7
  lt : r0 < n3
  le : n3 ≤ r7
  bel : Below r0 w0 wr
theorem ClSt.later {w0 : World} {r0 n3 r7 : Nat} {T E : TypeId} {A2 A3 : Option Addr} {L : List Fd} {c2 c3 : Nat} {B : ByteArray} {wr w' : World} (h : ClSt w0 r0 n3 r7 T E A2 A3 L c2 c3 B wr) (hb : Below wr.heap.size wr w') : ClSt w0 r0 n3 r7 T E A2 A3 L c2 c3 B w' :=
  ⟨h.a.later hb, h.c.later hb, own_below h.own hb, h.aN, h.cN, h.lt, h.le, h.bel.trans (hb.mono (by have := heap_lt h.a.box; omega))⟩
/-- Behind a change of the clone. -/
structure ClEnd (w0 : World) (r0 r7 : Nat) (T : TypeId) (A2 A3 : Option Addr) (L M : List Fd) (c2 c3 : Nat) (B D : ByteArray) (wr : World) : Prop where
  a : ABox wr r0 T A2 L c2 B
  c : ABox wr r7 T A3 M c3 D
  bel : Below r0 w0 wr
theorem ClEnd.later {w0 : World} {r0 r7 : Nat} {T : TypeId} {A2 A3 : Option Addr} {L M : List Fd} {c2 c3 : Nat} {B D : ByteArray} {wr w' : World} (h : ClEnd w0 r0 r7 T A2 A3 L M c2 c3 B D wr) (hb : Below wr.heap.size wr w') : ClEnd w0 r0 r7 T A2 A3 L M c2 c3 B D w' :=
  ⟨h.a.later hb, h.c.later hb, h.bel.trans (hb.mono (by have := heap_lt h.a.box; omega))⟩
theorem ClSt.body {w0 : World} {r0 n3 r7 : Nat} {T E : TypeId} {A2 A3 : Option Addr} {L : List Fd} {c2 c3 : Nat} {B : ByteArray} {wr : World} (h : ClSt w0 r0 n3 r7 T E A2 A3 L c2 c3 B wr) (D : ByteArray) : ClEnd w0 r0 r7 T A2 A3 L L c2 c3 B D (wr.setCell ⟨r7, 1, none⟩ (.string D)) := by
  have h1 := h.lt; have h2 := h.le
  refine ⟨⟨?_, ?_⟩, ⟨?_, ?_⟩, h.bel.setCell (p := ⟨r7, 1, none⟩) (by show r0 ≤ r7; omega) _⟩
  · rw [Below.heap_setCell _ _ _ _ (show r0 ≠ r7 from by omega)]; exact h.a.box
  · exact row_other h.a.row _ _ fun bb off e hx => by have := h.aN bb off e hx; show bb ≠ r7; omega
  · rw [heap_set h.c.box]; rfl
  · exact row_other h.c.row _ _ fun bb off e hx => by have := h.cN bb off e hx; show bb ≠ r7; omega
theorem ClSt.cut {w0 : World} {r0 n3 r7 : Nat} {T E : TypeId} {A2 A3 : Option Addr} {L : List Fd} {c2 c3 : Nat} {B : ByteArray} {wr : World} (h : ClSt w0 r0 n3 r7 T E A2 A3 L c2 c3 B wr) (n : Nat) (hn : n ≤ L.length) : ClEnd w0 r0 r7 T A2 A3 L (L.take n) c2 c3 B B (wr.setCell ⟨r7, 0, none⟩ (.slice A3 n c3)) := by
  have h1 := h.lt; have h2 := h.le
  refine ⟨⟨?_, ?_⟩, ⟨?_, ?_⟩, h.bel.setCell (p := ⟨r7, 0, none⟩) (by show r0 ≤ r7; omega) _⟩
  · rw [Below.heap_setCell _ _ _ _ (show r0 ≠ r7 from by omega)]; exact h.a.box
  · exact row_other h.a.row _ _ fun bb off e hx => by have := h.aN bb off e hx; show bb ≠ r7; omega
  · rw [heap_set h.c.box, List.length_take, Nat.min_eq_left hn]; rfl
  · rw [fldsV_take]
    exact row_take (row_other h.c.row _ _ fun bb off e hx => by have := h.cN bb off e hx; show bb ≠ r7; omega) _
theorem ClSt.cell {w0 : World} {r0 n3 r7 : Nat} {T E : TypeId} {A2 : Option Addr} {g : Nat} {L M : List Fd} {c2 c3 : Nat} {B : ByteArray} {wr : World} (h : ClSt w0 r0 n3 r7 T E A2 (some ⟨g, 0, none⟩) L c2 c3 B wr) (hg : n3 ≤ g) (j : Nat) (v : Value) (hM : fldsV M = (fldsV L).set j v) (hl : M.length = L.length) (hL : fldsV L ≠ []) : ClEnd w0 r0 r7 T A2 (some ⟨g, 0, none⟩) L M c2 c3 B B (wr.setCell ⟨g, j, none⟩ v) := by
  have h1 := h.lt; have h2 := h.le; have h3 := h.cN g 0 rfl hL
  refine ⟨⟨?_, ?_⟩, ⟨?_, ?_⟩, h.bel.setCell (p := ⟨g, j, none⟩) (by show r0 ≤ g; omega) _⟩
  · rw [Below.heap_setCell _ _ _ _ (show r0 ≠ g from by omega)]; exact h.a.box
  · exact row_other h.a.row _ _ fun bb off e hx => by have := h.aN bb off e hx; show bb ≠ g; omega
  · rw [Below.heap_setCell _ _ _ _ (show r7 ≠ g from by omega), hl]; exact h.c.box
  · rw [hM]; exact row_setF h.c.row j v

def ClP (w0 : World) (r0 r7 : Nat) (v2 v3 : Value) (B D : ByteArray) (w' : World) : Prop := w'.cell? ⟨r0, 0, none⟩ = some v2 ∧ w'.cell? ⟨r0, 1, none⟩ = some (.string B) ∧ w'.cell? ⟨r7, 0, none⟩ = some v3 ∧ w'.cell? ⟨r7, 1, none⟩ = some (.string D) ∧ Below w0.heap.size w0 w'
theorem clp_of {w0 w' : World} {r0 r7 : Nat} {v2 v3 : Value} {B D : ByteArray} (h0 : w0.cell? ⟨r0, 0, none⟩ = some v2) (h1 : w0.cell? ⟨r0, 1, none⟩ = some (.string B)) (h2 : w0.cell? ⟨r7, 0, none⟩ = some v3) (h3 : w0.cell? ⟨r7, 1, none⟩ = some (.string D)) (hb : Below w0.heap.size w0 w') : ClP w0 r0 r7 v2 v3 B D w' :=
  ⟨(hb.cell (World.block_lt_of_cell? _ _ h0)).trans h0, (hb.cell (World.block_lt_of_cell? _ _ h1)).trans h1, (hb.cell (World.block_lt_of_cell? _ _ h2)).trans h2, (hb.cell (World.block_lt_of_cell? _ _ h3)).trans h3, hb⟩
theorem ClP.later {w0 w w' : World} {r0 r7 : Nat} {v2 v3 : Value} {B D : ByteArray} (h : ClP w0 r0 r7 v2 v3 B D w) (hb : Below w.heap.size w w') : ClP w0 r0 r7 v2 v3 B D w' :=
  ⟨(hb.cell (World.block_lt_of_cell? _ _ h.1)).trans h.1, (hb.cell (World.block_lt_of_cell? _ _ h.2.1)).trans h.2.1, (hb.cell (World.block_lt_of_cell? _ _ h.2.2.1)).trans h.2.2.1, (hb.cell (World.block_lt_of_cell? _ _ h.2.2.2.1)).trans h.2.2.2.1, h.2.2.2.2.trans (hb.mono h.2.2.2.2.size)⟩

def ClQ (w0 : World) (r0 r7 ro b2 o2 : Nat) (v2 v3 : Value) (B n d : ByteArray) (w' : World) : Prop := w'.cell? ⟨r0, 0, none⟩ = some v2 ∧ w'.cell? ⟨r0, 1, none⟩ = some (.string B) ∧ w'.cell? ⟨r7, 0, none⟩ = some v3 ∧ w'.cell? ⟨r7, 1, none⟩ = some (.string B) ∧ w'.cell? ⟨ro, 0, none⟩ = some (.string n) ∧ w'.cell? ⟨ro, 1, none⟩ = some (.string d) ∧ w'.cell? ⟨b2, o2, none⟩ = some (.string n) ∧ w'.cell? ⟨b2, o2 + 1, none⟩ = some (.string d) ∧ Below w0.heap.size w0 w'
theorem ClQ.later {w0 w w' : World} {r0 r7 ro b2 o2 : Nat} {v2 v3 : Value} {B n d : ByteArray} (h : ClQ w0 r0 r7 ro b2 o2 v2 v3 B n d w) (hb : Below w.heap.size w w') : ClQ w0 r0 r7 ro b2 o2 v2 v3 B n d w' := by
  obtain ⟨a1, a2, a3, a4, a5, a6, a7, a8, a9⟩ := h
  exact ⟨(hb.cell (World.block_lt_of_cell? _ _ a1)).trans a1, (hb.cell (World.block_lt_of_cell? _ _ a2)).trans a2, (hb.cell (World.block_lt_of_cell? _ _ a3)).trans a3, (hb.cell (World.block_lt_of_cell? _ _ a4)).trans a4, (hb.cell (World.block_lt_of_cell? _ _ a5)).trans a5, (hb.cell (World.block_lt_of_cell? _ _ a6)).trans a6, (hb.cell (World.block_lt_of_cell? _ _ a7)).trans a7, (hb.cell (World.block_lt_of_cell? _ _ a8)).trans a8, a9.trans (hb.mono a9.size)⟩

set_option maxHeartbeats 16000000 in
set_option maxRecDepth 100000 in
theorem ArticleClones_walk (A : Option Addr) (l : List Fd) (c : Nat) (b : ByteArray) (hb : b.size ≤ maxLen) (hml : ∀ f ∈ l, f.1.length ≤ reachBytes ∧ f.2.length ≤ reachBytes) (x : Int) (hx : (Lit.int .u8 x).wf = true) (y : Int) (hy : (Lit.int .u8 y).wf = true) (w : World) (hsh : w.ShapedOpen Try.prog) (hr : Row w A (fldsV l)) :
    Calls Try.prog 9 #[.agg #[.slice A l.length c, .string b], .int .u8 x, .int .u8 y] w fun e w' => e = .returned (.bool true) ∧ Below w.heap.size w w' := by
  have HSH := Lib.hid hsh; clear hsh
  obtain ⟨x0, x1⟩ := u8_range hx
  obtain ⟨y0, y1⟩ := u8_range hy
  clear hx hy
  have hB0 : Below w.heap.size w (w.alloc (.cells #[.slice A l.length c, .string b] 49)) := (Below.refl _ _).alloc (Nat.le_refl _) _
  have HBX := Lib.hid (show (w.alloc (.cells #[.slice A l.length c, .string b] 49)).heap[w.heap.size]? = some (.cells #[.slice A l.length c, .string b] 49 (0, 0)) from World.alloc_heap_new _ _)
  have HB0 := Lib.hid hB0
  have HTO := Lib.hid (law_to A l c b _ (hr.below hB0) hb)
  have hBs := short_size b 3000
  generalize b.extract 0 (min b.size 3000) = B at *
  have HML := Lib.hid (show ∀ f ∈ l.take 70, f.1.length ≤ reachBytes ∧ f.2.length ≤ reachBytes from fun f hf => hml f (List.mem_of_mem_take hf))
  have hl70 : (l.take 70).length ≤ 70 := by simp; omega
  have hl7 : (l.take 70).take 70 = l.take 70 := List.take_of_length_le hl70
  generalize l.take 70 = L at *
  have hBB : B.extract 0 (min B.size 3000) = B := by
    rw [show min B.size 3000 = B.size from by omega]; exact ByteArray.extract_zero_size
  have hto := fun A2 c2 wx hr => law_to A2 L c2 B wx hr (by unfold maxLen; omega)
  rw [hl7, hBB] at hto
  have HT2 := Lib.hid hto
  clear hr hml hB0 hl7 hBB hto
  go_enter Try.func9, Try.ntmps9
  go_wp2_with fail
  (with_reducible refine HTO.out.mono ?_)
  rintro e w1 ⟨A1, c1, rfl, hown1⟩
  have HX1 := Lib.hid ((hown1.bel.block _ (heap_lt HBX.out)).trans HBX.out)
  have HR1 := Lib.hid (own_row_is hown1.own)
  have HB1 := Lib.hid (HB0.out.trans (hown1.bel.mono HB0.out.size))
  clear hown1 HTO HB0 HBX
  go_wp2_with fail
  (with_reducible refine (law_back A1 L c1 B w1 HR1.out (by omega)).mono ?_)
  rintro e w2 ⟨A2, c2, rfl, hown2⟩
  have HX2 := Lib.hid ((hown2.bel.block _ (heap_lt HX1.out)).trans HX1.out)
  have k0 : w2.cell? ⟨w.heap.size, 0, none⟩ = some (.slice A l.length c) := by rw [Lib.cell_of_heap HX2.out]; rfl
  have k1 : w2.cell? ⟨w.heap.size, 1, none⟩ = some (.string b) := by rw [Lib.cell_of_heap HX2.out]; rfl
  have f0 := Lib.frozen_of_heap HX2.out 0
  have f1 := Lib.frozen_of_heap HX2.out 1
  go_wp2_with fail
  have hz1 : w.heap.size + 1 ≤ w1.heap.size := heap_lt HX1.out
  have HW3 := Lib.hid (show ABox ((w2.setCell ⟨w.heap.size, 0, none⟩ (.slice A2 L.length c2)).setCell ⟨w.heap.size, 1, none⟩ (.string B)) w.heap.size 49 A2 L c2 B from ⟨box_set HX2.out _ _, own_row_is (tb_own (own_mono hown2.own hz1) _ _)⟩)
  have HB3 := Lib.hid (below_box (HB1.out.trans (hown2.bel.mono HB1.out.size)) (Nat.le_refl w.heap.size) (.slice A2 L.length c2) (.string B))
  have hz3 : w.heap.size < ((w2.setCell ⟨w.heap.size, 0, none⟩ (.slice A2 L.length c2)).setCell ⟨w.heap.size, 1, none⟩ (.string B)).heap.size := heap_lt HW3.out.box
  clear hown2 HX1 HX2 HB1 HR1 k0 k1 f0 f1 hz1
  generalize (w2.setCell ⟨w.heap.size, 0, none⟩ (.slice A2 L.length c2)).setCell ⟨w.heap.size, 1, none⟩ (.string B) = w3 at *
  (with_reducible refine (art_clone A2 L c2 B w3 HW3.out.row (by omega)).mono ?_)
  rintro e w4 ⟨A3, c3, rfl, hown4⟩
  have hz4 := hown4.bel.size
  have HCN := Lib.hid (row_lt (own_row_is hown4.own))
  have HAN := Lib.hid (row_lt HW3.out.row)
  have hb4 : Below w3.heap.size w3 (w4.alloc (.cells #[.slice A3 L.length c3, .string B] 49)) := hown4.bel.alloc hown4.bel.size _
  have HS0 := Lib.hid (show ClSt w w.heap.size w3.heap.size w4.heap.size 49 59 A2 A3 L c2 c3 B (w4.alloc (.cells #[.slice A3 L.length c3, .string B] 49)) from
    ⟨HW3.out.later hb4, ABox.new (own_row_is hown4.own), own_below hown4.own ((Below.refl _ _).alloc (Nat.le_refl _) _), HAN.out, HCN.out, hz3, hz4, HB3.out.trans (hb4.mono HB3.out.size)⟩)
  clear hown4 hb4 HCN HAN HW3 HB3 hz3 hz4
  go_wp2_with fail
  generalize w4.alloc (.cells #[.slice A3 L.length c3, .string B] 49) = X4 at *
  generalize w4.heap.size = r7 at *
  generalize w3.heap.size = n3 at *
  have H1 := Lib.hid (fun wx (hx : ClP X4 w.heap.size r7 (.slice A2 L.length c2) (.slice A3 L.length c3) B B wx) => art_known wx (shaped_below HSH.out (HS0.out.later hx.2.2.2.2).bel))
  have H2 := Lib.hid (fun wx (hx : ClP X4 w.heap.size r7 (.slice A2 L.length c2) (.slice A3 L.length c3) B B wx) => HT2.out A2 c2 wx (HS0.out.later hx.2.2.2.2).a.row)
  have H3 := Lib.hid (fun A4 c4 wx (hx : ClP X4 w.heap.size r7 (.slice A2 L.length c2) (.slice A3 L.length c3) B B wx) (hr : Row wx A4 (fldsV L)) => show Calls Try.prog 28 #[.agg #[.slice A3 L.length c3, .string B], .agg #[.slice A4 L.length c4, .string B]] wx fun e w' => e = .returned (.bool true) ∧ Below wx.heap.size wx w' from by
    have h := law_same A3 A4 L L c3 c4 B B wx (HS0.out.later hx.2.2.2.2).c.row hr (by omega) (by omega)
    rwa [show decide (L = L ∧ toL B = toL B) = true from decide_eq_true ⟨rfl, rfl⟩] at h)
  have H4 := Lib.hid (fun wx (hx : ClP X4 w.heap.size r7 (.slice A2 L.length c2) (.slice A3 L.length c3) B B wx) => show Calls Try.prog 29 #[.agg #[.slice A2 L.length c2, .string B], .agg #[.slice A3 L.length c3, .string B]] wx fun e w' => e = .returned (.bool true) ∧ Below wx.heap.size wx w' from by
    have h := art_equal A2 A3 L L c2 c3 B B wx (HS0.out.later hx.2.2.2.2).a.row (HS0.out.later hx.2.2.2.2).c.row (by omega) (by omega)
    rwa [show decide (L = L ∧ toL B = toL B) = true from decide_eq_true ⟨rfl, rfl⟩] at h)
  have HK0 := Lib.hid HS0.out.a.c0; have HK1 := Lib.hid HS0.out.a.c1; have HK2 := Lib.hid HS0.out.c.c0; have HK3 := Lib.hid HS0.out.c.c1
  go_region_held3 (fun w' => w'.cell? ⟨w.heap.size, 0, none⟩ = some (.slice A2 L.length c2) ∧ w'.cell? ⟨w.heap.size, 1, none⟩ = some (.string B) ∧ w'.cell? ⟨r7, 0, none⟩ = some (.slice A3 L.length c3) ∧ w'.cell? ⟨r7, 1, none⟩ = some (.string B) ∧ Below X4.heap.size X4 w')
    (first
      | exact clp_of HK0.out HK1.out HK2.out HK3.out (Below.refl _ _).drew
      | exact ClP.later (by assumption) hb5
      | exact ClP.later (by assumption) hown6.bel
      | exact ClP.later (by assumption) hb7
      | exact ClP.later (by assumption) hb8)
    (first
      | (go_at_call 13; (with_reducible refine (H1.out _ ?hh).mono ?_); (case hh => assumption); rintro e w5 ⟨rfl, hb5⟩)
      | (go_at_call 26; (with_reducible refine (H2.out _ ?hh).mono ?_); (case hh => assumption); rintro e w6 ⟨A4, c4, rfl, hown6⟩)
      | (go_at_call 28; (with_reducible refine (H3.out _ _ _ ?hh ?hr).mono ?_); (case hh => assumption); (case hr => exact own_row_is hown6.own); rintro e w7 ⟨rfl, hb7⟩)
      | (go_at_call 29; (with_reducible refine (H4.out _ ?hh).mono ?_); (case hh => assumption); rintro e w8 ⟨rfl, hb8⟩))
  rename_i hS
  have HS4 := Lib.hid (HS0.out.later hS.2.2.2.2)
  clear H1 H2 H3 H4 HK0 HK1 HK2 HK3 HT2
  obtain ⟨m, hm, hm4⟩ : ∃ m : Nat, y.tmod 4 = (m : Int) ∧ m < 4 := ⟨(y.tmod 4).toNat, by rw [Int.tmod_eq_emod_of_nonneg y0]; omega, by rw [Int.tmod_eq_emod_of_nonneg y0]; omega⟩
  have k2 := HS4.out.c.c0; have k3 := HS4.out.c.c1
  have kf := Lib.frozen_of_heap HS4.out.c.box 0
  have kg := Lib.frozen_of_heap HS4.out.c.box 1
  have LAST := Lib.hid (fun (M : List Fd) (D : ByteArray) (c5 : Nat) (wx : World) (h : ClEnd w w.heap.size r7 49 A2 A3 L M c2 c5 B D wx) (hM : M.length ≤ 70) (hne : ¬ (L = M ∧ toL B = toL D)) => show (Calls Try.prog 29 #[.agg #[.slice A2 L.length c2, .string B], .agg #[.slice A3 M.length c5, .string D]] wx fun e w' => e = .returned (.bool false) ∧ Below wx.heap.size wx w') ∧ (∀ wy, ClEnd w w.heap.size r7 49 A2 A3 L M c2 c5 B D wy → Calls Try.prog 29 #[.agg #[.slice A3 M.length c5, .string D], .agg #[.slice A2 L.length c2, .string B]] wy fun e w' => e = .returned (.bool false) ∧ Below wy.heap.size wy w') from by
    refine ⟨?_, fun wy hy => ?_⟩
    · have := art_equal A2 A3 L M c2 c5 B D wx h.a.row h.c.row (by omega) (by omega)
      rwa [show decide (L = M ∧ toL B = toL D) = false from decide_eq_false hne] at this
    · have := art_equal A3 A2 M L c5 c2 D B wy hy.c.row hy.a.row (by omega) (by omega)
      rwa [show decide (M = L ∧ toL D = toL B) = false from decide_eq_false (fun h => hne ⟨h.1.symm, h.2.symm⟩)] at this)
  by_cases hc0 : L.length = 0 ∨ m = 0
  · have hways : (((L.length : Int) == 0) = true) ∨ (((L.length : Int) == 0) = false ∧ y.tmod 4 = 0) := by
      by_cases h : L.length = 0
      · exact .inl (by rw [h]; rfl)
      · exact .inr ⟨beq_eq_false_iff_ne.2 (by omega), by rw [hm]; rcases hc0 with h' | rfl; exact absurd h' h; rfl⟩
    clear hc0 hm hm4
    have HE0 := Lib.hid (HS4.out.body (B ++ ⟨#[120]⟩))
    have HNE := Lib.hid (show ¬ (L = L ∧ toL B = toL (B ++ ⟨#[120]⟩)) from by rw [toL_x]; rintro ⟨_, h⟩; have := congrArg List.length h; simp at this)
    have hB3 : ((B ++ (⟨#[120]⟩ : ByteArray)).size : Int) ≤ 3001 := by rw [ByteArray.size_append]; show ((B.size + 1 : Nat) : Int) ≤ 3001; omega
    rcases hways with e1 | ⟨e1, e2⟩
    all_goals
      go_upto_region 7 with fail
      generalize w8.setCell ⟨r7, 1, none⟩ (.string (B ++ ⟨#[120]⟩)) = Y at *
      obtain ⟨F1, F2⟩ := LAST.out L _ c3 Y HE0.out hl70 HNE.out
      have HF2 := Lib.hid F2
      have k0 := HE0.out.a.c0; have k1 := HE0.out.a.c1; have k2 := HE0.out.c.c0; have k3 := HE0.out.c.c1
      clear F2
      go_wp2_with fail
      (with_reducible refine F1.mono ?_)
      rintro e Y2 ⟨rfl, hb2⟩
      have HE1 := Lib.hid (HE0.out.later hb2)
      clear hb2 F1 k0 k1 k2 k3
      have k0 := HE1.out.a.c0; have k1 := HE1.out.a.c1; have k2 := HE1.out.c.c0; have k3 := HE1.out.c.c1
      go_wp2_with fail
      (with_reducible refine (HF2.out Y2 HE1.out).mono ?_)
      rintro e Y3 ⟨rfl, hb3⟩
      have HE2 := Lib.hid (HE1.out.later hb3)
      clear hb3 k0 k1 k2 k3
      go_wp2_with fail
      go_ret
      exact ⟨rfl, HE2.out.bel⟩
  · have hl0 : 0 < L.length := by omega
    have hm0 : m ≠ 0 := by omega
    have e1 : ((L.length : Int) == 0) = false := beq_eq_false_iff_ne.2 (by omega)
    obtain ⟨k, hk, hkl⟩ : ∃ k : Nat, x.tmod (L.length : Int) = (k : Int) ∧ k < L.length := by
      rw [Int.tmod_eq_emod_of_nonneg x0]
      have h1 := Int.emod_nonneg x (show (L.length : Int) ≠ 0 by omega)
      have h2 := Int.emod_lt_of_pos x (show (0 : Int) < (L.length : Int) by omega)
      exact ⟨(x % (L.length : Int)).toNat, by omega, by omega⟩
    have hk0 : (0 : Int) ≤ (k : Int) := by omega
    have hk1 : (k : Int) < (L.length : Int) := by omega
    have hFL : fldsV L ≠ [] := by intro h; have := fldsV_length L; rw [h] at this; simp at this; omega
    obtain ⟨g, cap, e, hg, hgl, hcap, hcells⟩ := (own_form HS4.out.own).resolve_left (fun h => by omega)
    injection e with e2 e3 e4
    subst e2 e4
    obtain ⟨b2, o2, rfl, hb2l, -⟩ := HS4.out.a.row.at (k := 0) (by rw [fldsV_length]; omega)
    obtain ⟨n, hn⟩ : ∃ n, ofL L[k].1 = n := ⟨_, rfl⟩
    obtain ⟨d, hd⟩ : ∃ d, ofL L[k].2 = d := ⟨_, rfl⟩
    obtain ⟨q1, q2⟩ := HS4.out.a.row.field' hkl hn hd
    have hnL : L[k].1 = toL n := by rw [← hn, toL_ofL]
    have hdL : L[k].2 = toL d := by rw [← hd, toL_ofL]
    have hns : n.size ≤ 140737488351232 := by
      have := (HML.out _ (List.getElem_mem hkl)).1; rw [hnL, toL_length] at this; unfold reachBytes at this; omega
    have hds : d.size ≤ 140737488351232 := by
      have := (HML.out _ (List.getElem_mem hkl)).2; rw [hdL, toL_length] at this; unfold reachBytes at this; omega
    have HNL := Lib.hid hnL; have HDL := Lib.hid hdL
    have HCL := Lib.hid hcells
    have k0 := HS4.out.a.c0; have k1 := HS4.out.a.c1
    clear hn hd hnL hdL hcells hc0
    have hm123 : y.tmod 4 = 1 ∨ y.tmod 4 = 2 ∨ y.tmod 4 = 3 := by omega
    clear hm
    have z7 := heap_lt HS4.out.c.box
    have HSN := Lib.hid (HS4.out.later ((Below.refl w8.heap.size w8).alloc (Nat.le_refl _) (.cells #[.string n, .string d] 59)))
    have HOLD := Lib.hid (show (w8.alloc (.cells #[.string n, .string d] 59)).heap[w8.heap.size]? = some (.cells #[.string n, .string d] 59 (0, 0)) from World.alloc_heap_new _ _)
    have hgo : g < w8.heap.size := hgl
    rcases hm123 with hm | hm | hm
    · go_upto_region 10 with fail
      generalize w8.alloc (.cells #[.string n, .string d] 59) = Y at *
      have s0 := HSN.out.c.c0
      obtain ⟨r1, r2⟩ := HSN.out.c.row.field' hkl (by rw [HNL.out, ofL_toL]) (by rw [HDL.out, ofL_toL])
      rw [Nat.zero_add] at r1 r2
      have rf := own_frozen HSN.out.own (k * 2)
      obtain ⟨M, hM⟩ : ∃ M, M = L.set k (toL (n ++ ⟨#[120]⟩), L[k].2) := ⟨_, rfl⟩
      have hM70 : M.length ≤ 70 := by rw [hM]; simpa using hl70
      have hE : ClEnd w w.heap.size r7 49 (some ⟨b2, o2, none⟩) (some ⟨g, 0, none⟩) L M c2 c3 B B (Y.setCell ⟨g, k * 2, none⟩ (.string (n ++ ⟨#[120]⟩))) := HSN.out.cell hg (k * 2) (.string (n ++ ⟨#[120]⟩)) (by rw [hM, fldsV_setName L k _ hkl, ofL_toL]) (by rw [hM]; simp) hFL
      have hO : (Y.setCell ⟨g, k * 2, none⟩ (.string (n ++ ⟨#[120]⟩))).heap[w8.heap.size]? = some (.cells #[.string n, .string d] 59 (0, 0)) := by
        rw [Below.heap_setCell _ _ _ _ (show w8.heap.size ≠ g from by omega)]; exact HOLD.out
      have hNE : ¬ (L = M ∧ toL B = toL B) := by
        rw [hM]; rintro ⟨h, _⟩; exact set_ne hkl _ (by intro e; have := congrArg (fun f : Fd => f.1.length) e; simp only at this; rw [HNL.out, toL_x] at this; simp at this) h.symm
      clear hM
      go_upto_region 17 with fail
      have HE0 := Lib.hid hE; have HZO := Lib.hid hO; have HNE := Lib.hid hNE
      clear hE hO hNE
      generalize Y.setCell ⟨g, k * 2, none⟩ (.string (n ++ ⟨#[120]⟩)) = Z at *
      clear s0 rf r1 r2
      have H1 := Lib.hid (fun wx (hx : ClQ Z w.heap.size r7 w8.heap.size b2 (o2 + k * 2) (.slice (some ⟨b2, o2, none⟩) L.length c2) (.slice (some ⟨g, 0, none⟩) M.length c3) B n d wx) => (LAST.out M B c3 wx (HE0.out.later hx.2.2.2.2.2.2.2.2) hM70 HNE.out).1)
      have H2 := Lib.hid (fun wx (hx : ClQ Z w.heap.size r7 w8.heap.size b2 (o2 + k * 2) (.slice (some ⟨b2, o2, none⟩) L.length c2) (.slice (some ⟨g, 0, none⟩) M.length c3) B n d wx) => (LAST.out M B c3 Z HE0.out hM70 HNE.out).2 wx (HE0.out.later hx.2.2.2.2.2.2.2.2))
      have HK := Lib.hid (show ClQ Z w.heap.size r7 w8.heap.size b2 (o2 + k * 2) (.slice (some ⟨b2, o2, none⟩) L.length c2) (.slice (some ⟨g, 0, none⟩) M.length c3) B n d Z.drew from by
        obtain ⟨u1, u2⟩ := HE0.out.a.row.field' hkl (by rw [HNL.out, ofL_toL]) (by rw [HDL.out, ofL_toL])
        exact ⟨HE0.out.a.c0, HE0.out.a.c1, HE0.out.c.c0, HE0.out.c.c1, (by rw [show Z.drew.cell? _ = Z.cell? _ from rfl, Lib.cell_of_heap HZO.out]; rfl), (by rw [show Z.drew.cell? _ = Z.cell? _ from rfl, Lib.cell_of_heap HZO.out]; rfl), u1, u2, (Below.refl _ _).drew⟩)
      have e5 : (n.toList == n.toList) = true := by simp
      have e6 : (d.toList == d.toList) = true := by simp
      go_region_held3 (fun w' => w'.cell? ⟨w.heap.size, 0, none⟩ = some (.slice (some ⟨b2, o2, none⟩) L.length c2) ∧ w'.cell? ⟨w.heap.size, 1, none⟩ = some (.string B) ∧ w'.cell? ⟨r7, 0, none⟩ = some (.slice (some ⟨g, 0, none⟩) M.length c3) ∧ w'.cell? ⟨r7, 1, none⟩ = some (.string B) ∧ w'.cell? ⟨w8.heap.size, 0, none⟩ = some (.string n) ∧ w'.cell? ⟨w8.heap.size, 1, none⟩ = some (.string d) ∧ w'.cell? ⟨b2, o2 + k * 2, none⟩ = some (.string n) ∧ w'.cell? ⟨b2, o2 + k * 2 + 1, none⟩ = some (.string d) ∧ Below Z.heap.size Z w')
        (first
          | exact HK.out
          | exact ClQ.later (by assumption) hb5
          | exact ClQ.later (by assumption) hb6)
        (first
          | (go_at_call 29; (with_reducible refine (H1.out _ ?hh).mono ?_); (case hh => assumption); rintro e w5 ⟨rfl, hb5⟩)
          | (go_at_call 29; (with_reducible refine (H2.out _ ?hh).mono ?_); (case hh => assumption); rintro e w6 ⟨rfl, hb6⟩))
      all_goals
        have HSF := Lib.hid (show ClQ Z w.heap.size r7 w8.heap.size b2 (o2 + k * 2) (.slice (some ⟨b2, o2, none⟩) L.length c2) (.slice (some ⟨g, 0, none⟩) M.length c3) B n d _ by assumption)
        go_wp2_with fail
        go_ret
        exact ⟨rfl, (HE0.out.later HSF.out.2.2.2.2.2.2.2.2).bel⟩
    · go_upto_region 10 with fail
      generalize w8.alloc (.cells #[.string n, .string d] 59) = Y at *
      have s0 := HSN.out.c.c0
      obtain ⟨r1, r2⟩ := HSN.out.c.row.field' hkl (by rw [HNL.out, ofL_toL]) (by rw [HDL.out, ofL_toL])
      rw [Nat.zero_add] at r1 r2
      have rf := own_frozen HSN.out.own (k * 2 + 1)
      obtain ⟨M, hM⟩ : ∃ M, M = L.set k (L[k].1, toL (d ++ ⟨#[120]⟩)) := ⟨_, rfl⟩
      have hM70 : M.length ≤ 70 := by rw [hM]; simpa using hl70
      have hE : ClEnd w w.heap.size r7 49 (some ⟨b2, o2, none⟩) (some ⟨g, 0, none⟩) L M c2 c3 B B (Y.setCell ⟨g, k * 2 + 1, none⟩ (.string (d ++ ⟨#[120]⟩))) := HSN.out.cell hg (k * 2 + 1) (.string (d ++ ⟨#[120]⟩)) (by rw [hM, fldsV_setBody L k _ hkl, ofL_toL]) (by rw [hM]; simp) hFL
      have hO : (Y.setCell ⟨g, k * 2 + 1, none⟩ (.string (d ++ ⟨#[120]⟩))).heap[w8.heap.size]? = some (.cells #[.string n, .string d] 59 (0, 0)) := by
        rw [Below.heap_setCell _ _ _ _ (show w8.heap.size ≠ g from by omega)]; exact HOLD.out
      have hNE : ¬ (L = M ∧ toL B = toL B) := by
        rw [hM]; rintro ⟨h, _⟩; exact set_ne hkl _ (by intro e; have := congrArg (fun f : Fd => f.2.length) e; simp only at this; rw [HDL.out, toL_x] at this; simp at this) h.symm
      clear hM
      go_upto_region 17 with fail
      have HE0 := Lib.hid hE; have HZO := Lib.hid hO; have HNE := Lib.hid hNE
      clear hE hO hNE
      generalize Y.setCell ⟨g, k * 2 + 1, none⟩ (.string (d ++ ⟨#[120]⟩)) = Z at *
      clear s0 rf r1 r2
      have H1 := Lib.hid (fun wx (hx : ClQ Z w.heap.size r7 w8.heap.size b2 (o2 + k * 2) (.slice (some ⟨b2, o2, none⟩) L.length c2) (.slice (some ⟨g, 0, none⟩) M.length c3) B n d wx) => (LAST.out M B c3 wx (HE0.out.later hx.2.2.2.2.2.2.2.2) hM70 HNE.out).1)
      have H2 := Lib.hid (fun wx (hx : ClQ Z w.heap.size r7 w8.heap.size b2 (o2 + k * 2) (.slice (some ⟨b2, o2, none⟩) L.length c2) (.slice (some ⟨g, 0, none⟩) M.length c3) B n d wx) => (LAST.out M B c3 Z HE0.out hM70 HNE.out).2 wx (HE0.out.later hx.2.2.2.2.2.2.2.2))
      have HK := Lib.hid (show ClQ Z w.heap.size r7 w8.heap.size b2 (o2 + k * 2) (.slice (some ⟨b2, o2, none⟩) L.length c2) (.slice (some ⟨g, 0, none⟩) M.length c3) B n d Z.drew from by
        obtain ⟨u1, u2⟩ := HE0.out.a.row.field' hkl (by rw [HNL.out, ofL_toL]) (by rw [HDL.out, ofL_toL])
        exact ⟨HE0.out.a.c0, HE0.out.a.c1, HE0.out.c.c0, HE0.out.c.c1, (by rw [show Z.drew.cell? _ = Z.cell? _ from rfl, Lib.cell_of_heap HZO.out]; rfl), (by rw [show Z.drew.cell? _ = Z.cell? _ from rfl, Lib.cell_of_heap HZO.out]; rfl), u1, u2, (Below.refl _ _).drew⟩)
      have e5 : (n.toList == n.toList) = true := by simp
      have e6 : (d.toList == d.toList) = true := by simp
      go_region_held3 (fun w' => w'.cell? ⟨w.heap.size, 0, none⟩ = some (.slice (some ⟨b2, o2, none⟩) L.length c2) ∧ w'.cell? ⟨w.heap.size, 1, none⟩ = some (.string B) ∧ w'.cell? ⟨r7, 0, none⟩ = some (.slice (some ⟨g, 0, none⟩) M.length c3) ∧ w'.cell? ⟨r7, 1, none⟩ = some (.string B) ∧ w'.cell? ⟨w8.heap.size, 0, none⟩ = some (.string n) ∧ w'.cell? ⟨w8.heap.size, 1, none⟩ = some (.string d) ∧ w'.cell? ⟨b2, o2 + k * 2, none⟩ = some (.string n) ∧ w'.cell? ⟨b2, o2 + k * 2 + 1, none⟩ = some (.string d) ∧ Below Z.heap.size Z w')
        (first
          | exact HK.out
          | exact ClQ.later (by assumption) hb5
          | exact ClQ.later (by assumption) hb6)
        (first
          | (go_at_call 29; (with_reducible refine (H1.out _ ?hh).mono ?_); (case hh => assumption); rintro e w5 ⟨rfl, hb5⟩)
          | (go_at_call 29; (with_reducible refine (H2.out _ ?hh).mono ?_); (case hh => assumption); rintro e w6 ⟨rfl, hb6⟩))
      all_goals
        have HSF := Lib.hid (show ClQ Z w.heap.size r7 w8.heap.size b2 (o2 + k * 2) (.slice (some ⟨b2, o2, none⟩) L.length c2) (.slice (some ⟨g, 0, none⟩) M.length c3) B n d _ by assumption)
        go_wp2_with fail
        go_ret
        exact ⟨rfl, (HE0.out.later HSF.out.2.2.2.2.2.2.2.2).bel⟩
    · go_upto_region 10 with fail
      generalize w8.alloc (.cells #[.string n, .string d] 59) = Y at *
      have s0 := HSN.out.c.c0
      have rf := Lib.frozen_of_heap HSN.out.c.box 0
      obtain ⟨M, hM⟩ : ∃ M, M = L.take (L.length - 1) := ⟨_, rfl⟩
      have hM70 : M.length ≤ 70 := by rw [hM]; simp; omega
      have hMl : M.length = L.length - 1 := by rw [hM]; simp
      have hE : ClEnd w w.heap.size r7 49 (some ⟨b2, o2, none⟩) (some ⟨g, 0, none⟩) L M c2 c3 B B (Y.setCell ⟨r7, 0, none⟩ (.slice (some ⟨g, 0, none⟩) (L.length - 1) c3)) := by rw [hM]; exact HSN.out.cut (L.length - 1) (by omega)
      have hO : (Y.setCell ⟨r7, 0, none⟩ (.slice (some ⟨g, 0, none⟩) (L.length - 1) c3)).heap[w8.heap.size]? = some (.cells #[.string n, .string d] 59 (0, 0)) := by
        rw [Below.heap_setCell _ _ _ _ (show w8.heap.size ≠ r7 from by omega)]; exact HOLD.out
      have hNE : ¬ (L = M ∧ toL B = toL B) := by
        rintro ⟨h, _⟩; have := congrArg List.length h; omega
      clear hM hMl
      have j1 : ((L.length : Int) - 1) = ((L.length - 1 : Nat) : Int) := by omega
      have j2 : (0 : Int) ≤ ((L.length - 1 : Nat) : Int) := by omega
      have j3 : ((L.length - 1 : Nat) : Int) ≤ (c3 : Int) := by omega
      go_upto_region 17 with fail
      have HE0 := Lib.hid hE; have HZO := Lib.hid hO; have HNE := Lib.hid hNE
      clear hE hO hNE
      generalize Y.setCell ⟨r7, 0, none⟩ (.slice (some ⟨g, 0, none⟩) (L.length - 1) c3) = Z at *
      clear s0 rf j1 j2 j3
      have H1 := Lib.hid (fun wx (hx : ClQ Z w.heap.size r7 w8.heap.size b2 (o2 + k * 2) (.slice (some ⟨b2, o2, none⟩) L.length c2) (.slice (some ⟨g, 0, none⟩) M.length c3) B n d wx) => (LAST.out M B c3 wx (HE0.out.later hx.2.2.2.2.2.2.2.2) hM70 HNE.out).1)
      have H2 := Lib.hid (fun wx (hx : ClQ Z w.heap.size r7 w8.heap.size b2 (o2 + k * 2) (.slice (some ⟨b2, o2, none⟩) L.length c2) (.slice (some ⟨g, 0, none⟩) M.length c3) B n d wx) => (LAST.out M B c3 Z HE0.out hM70 HNE.out).2 wx (HE0.out.later hx.2.2.2.2.2.2.2.2))
      have HK := Lib.hid (show ClQ Z w.heap.size r7 w8.heap.size b2 (o2 + k * 2) (.slice (some ⟨b2, o2, none⟩) L.length c2) (.slice (some ⟨g, 0, none⟩) M.length c3) B n d Z.drew from by
        obtain ⟨u1, u2⟩ := HE0.out.a.row.field' hkl (by rw [HNL.out, ofL_toL]) (by rw [HDL.out, ofL_toL])
        exact ⟨HE0.out.a.c0, HE0.out.a.c1, HE0.out.c.c0, HE0.out.c.c1, (by rw [show Z.drew.cell? _ = Z.cell? _ from rfl, Lib.cell_of_heap HZO.out]; rfl), (by rw [show Z.drew.cell? _ = Z.cell? _ from rfl, Lib.cell_of_heap HZO.out]; rfl), u1, u2, (Below.refl _ _).drew⟩)
      have e5 : (n.toList == n.toList) = true := by simp
      have e6 : (d.toList == d.toList) = true := by simp
      go_region_held3 (fun w' => w'.cell? ⟨w.heap.size, 0, none⟩ = some (.slice (some ⟨b2, o2, none⟩) L.length c2) ∧ w'.cell? ⟨w.heap.size, 1, none⟩ = some (.string B) ∧ w'.cell? ⟨r7, 0, none⟩ = some (.slice (some ⟨g, 0, none⟩) M.length c3) ∧ w'.cell? ⟨r7, 1, none⟩ = some (.string B) ∧ w'.cell? ⟨w8.heap.size, 0, none⟩ = some (.string n) ∧ w'.cell? ⟨w8.heap.size, 1, none⟩ = some (.string d) ∧ w'.cell? ⟨b2, o2 + k * 2, none⟩ = some (.string n) ∧ w'.cell? ⟨b2, o2 + k * 2 + 1, none⟩ = some (.string d) ∧ Below Z.heap.size Z w')
        (first
          | exact HK.out
          | exact ClQ.later (by assumption) hb5
          | exact ClQ.later (by assumption) hb6)
        (first
          | (go_at_call 29; (with_reducible refine (H1.out _ ?hh).mono ?_); (case hh => assumption); rintro e w5 ⟨rfl, hb5⟩)
          | (go_at_call 29; (with_reducible refine (H2.out _ ?hh).mono ?_); (case hh => assumption); rintro e w6 ⟨rfl, hb6⟩))
      all_goals
        have HSF := Lib.hid (show ClQ Z w.heap.size r7 w8.heap.size b2 (o2 + k * 2) (.slice (some ⟨b2, o2, none⟩) L.length c2) (.slice (some ⟨g, 0, none⟩) M.length c3) B n d _ by assumption)
        go_wp2_with fail
        go_ret
        exact ⟨rfl, (HE0.out.later HSF.out.2.2.2.2.2.2.2.2).bel⟩

theorem wAll_mem {H : Type} {P : Program} {e : TypeId} {f0 f1 : Field} (he : P.underlying e = some (.struct #[f0, f1])) (l : List Fd) : ∀ f ∈ l, f.1.length ∈ DataW.weightsAll P e (l.map (fdD H)) ∧ f.2.length ∈ DataW.weightsAll P e (l.map (fdD H)) := by
  induction l with
  | nil => intro f hf; cases hf
  | cons x r ih =>
    intro f hf
    rcases List.mem_cons.1 hf with rfl | h
    · simp [DataW.weightsAll, fdD, DataW.weights, he, DataW.weightsEach]
    · have := ih f h
      simp only [List.map_cons, DataW.weightsAll, List.mem_append]
      exact ⟨.inr this.1, .inr this.2⟩
theorem reach_art {H : Type} {P : Program} {ta t e : TypeId} {g0 g1 f0 f1 : Field} (hta : P.underlying ta = some (.struct #[g0, g1])) (hg0 : g0.type = t) (ht : P.underlying t = some (.slice e)) (he : P.underlying e = some (.struct #[f0, f1]))
    {y z : DataW H} {l : List Fd} (hy : y = .nil ∧ l = [] ∨ ∃ sp, y = .slice (l.map (fdD H)) sp) {ts : List TypeId} {ds : List (DataW H)} (hw : (DataW.weightsEach P (ta :: ts) (.agg [y, z] :: ds)).all (· ≤ reachBytes) = true) : ∀ f ∈ l, f.1.length ≤ reachBytes ∧ f.2.length ≤ reachBytes := by
  intro f hf
  rcases hy with ⟨_, rfl⟩ | ⟨sp, rfl⟩
  · cases hf
  · rw [List.all_eq_true] at hw
    obtain ⟨h1, h2⟩ := wAll_mem (H := H) he l f hf
    have key : ∀ n ∈ DataW.weightsAll P e (l.map (fdD H)), n ≤ reachBytes := fun n hn => by
      have := hw n (by
        rw [DataW.weightsEach, DataW.weights]
        simp only [hta]
        show n ∈ DataW.weightsEach P [g0.type, g1.type] _ ++ _
        rw [DataW.weightsEach, DataW.weights, hg0]
        simp only [ht, List.mem_append, List.mem_cons]
        exact .inl (.inl (.inr (.inl hn))))
      simpa using this
    exact ⟨key _ h1, key _ h2⟩
set_option maxRecDepth 100000 in
theorem ArticleClones_lifted (os : Os) (started : os.Started) (H : Type) (enc : TypeId × Value → H) :
    ReturnsInHanded {} Try.checked os 9 .any (Rows.articleClonesSpec.pre6 enc Try.prog Try.f9 Rows.articleClonesRow.domain false) (Rows.articleClonesSpec.post enc Try.prog Try.f9 false true false false) := by
  refine returnsInHanded_of_change_shaped (C := Try.checked) own started (by kernel_rfl) Try.func9
    (ChangeSpec.witness6 (enc := enc) (C := Try.checked) false ⟨#[], #[.agg #[.slice none 0 0, .string ByteArray.empty], .int .u8 0, .int .u8 0], []⟩ 8 (by kernel_rfl) (by kernel_rfl) (by kernel_rfl) (by kernel_rfl)) ?_
  intro W base args ds gs before hval0 hW hcnd hwt hsh _
  have hval : ∀ (j : Nat) t v, Try.f9.params[j]? = some t → args[j]? = some v → Value.okWide Try.prog W .any base t v := hval0
  have hW' := hW
  obtain ⟨p, q, hA0, hV, rfl, hfz, hnd⟩ := hW
  have hplt : ∀ x ∈ p, x.block < W.heap.size := fun x hx => hW'.lt x (by simp [hx])
  have hA : DataW.TrodAll enc Try.prog W 0 (fun _ => true) true Try.f9.params.toList args.toList ds p := hA0
  rw [Try.params9] at hA hval hwt
  obtain ⟨v0, vs0, d0, ds0, p0, q0, hargs, rfl, rfl, h0, r0⟩ := trodAll_cons hA
  obtain ⟨v1, vs1, d1, ds1, p1, q1, rfl, rfl, rfl, h1, r1⟩ := trodAll_cons r0
  obtain ⟨v2, vs2, d2, ds2, p2, q2, rfl, rfl, rfl, h2, r2⟩ := trodAll_cons r1
  obtain ⟨rfl, rfl, rfl⟩ := trodAll_nil r2
  obtain rfl : args = #[v0, v1, v2] := by cases args; simp_all
  obtain ⟨rfl, rfl⟩ := trodVars_none hV
  obtain ⟨A0, l0, c0, b0, rfl, hrow, hsz, hbm, y0, rfl, hy⟩ := open_art Try.underlying49 (by kernel_rfl) (by kernel_rfl) rfl rfl Try.underlying47 Try.underlying59 (by kernel_rfl) (by kernel_rfl) rfl rfl Try.underlying9 (hval 0 49 v0 rfl rfl) h0
  obtain ⟨a1, rfl, rfl, rfl, w1⟩ := open_int Try.underlying5 (hval 1 5 v1 rfl rfl) h1
  obtain ⟨a2, rfl, rfl, rfl, w2⟩ := open_int Try.underlying5 (hval 2 5 v2 rfl rfl) h2
  have hre := reach_art Try.underlying49 rfl Try.underlying47 Try.underlying59 hy hwt
  refine (ArticleClones_walk A0 l0 c0 b0 hbm hre a1 w1 a2 w2 W hsh hrow).mono fun e W' ⟨he, hg⟩ => ?_
  subst he
  exact ⟨_, rfl, law_post hW' rfl rfl rfl (by decide +kernel) hg⟩

theorem ArticleClones_over : Rows.articleClonesRow.holds Try.pinned (OpenSpec.ofChange Rows.articleClonesSpec) :=
  OpenClaim.holds_of_wide 9 Try.f9 rfl rfl rfl rfl rfl rfl rfl ⟨rfl, rfl, rfl, rfl, rfl⟩ rfl rfl rfl rfl rfl (by kernel_rfl) Try.func9 (by kernel_rfl)
    (of_decide_eq_true (by kernel_rfl)) (by unfold Func.isWrapper; first | (rw [if_pos (by decide +kernel)]; kernel_rfl) | (rw [if_neg (by decide +kernel)]; exact ⟨rfl, rfl⟩))
    (fun os started H enc _ => ArticleClones_lifted os started H enc)

theorem ArticleClones_proved : Rows.ArticleClonesSaid := ArticleClones_over
end Go.Proofs.Ytcohgjdijhogbaa
