/- Lemmas and walks, part 3. -/
import Derived.Test.YtannhfnpigiggaaGreatDoorPs2
import Derived.WalkKit
import Derived.WalkSpells
import Derived.WalkLawsBesides
import Derived.Lib.Hide
import Derived.Deep.QuietTactic
import Derived.BigQuiet
import Derived.IntWalk
import Derived.Deep.LoopGhost
import Derived.Laws.IdiomStrings
namespace Go.Proofs.YtannhfnpigiggaaGreatDoor
set_option linter.unusedSimpArgs false
set_option linter.unusedVariables false
open Go.RowKit

theorem ret_bool {a b : Bool} (h : a = b) : Ending.returned (.bool a) = .returned (.bool b) := by rw [h]
theorem ret_int {k : IntKind} {a b : Int} (h : a = b) : Ending.returned (.int k a) = .returned (.int k b) := by rw [h]
theorem heap_lt {w : World} {k : Nat} {o : Obj} (h : w.heap[k]? = some o) : k < w.heap.size := by
  rcases Nat.lt_or_ge k w.heap.size with h' | h'
  · exact h'
  · rw [Array.getElem?_eq_none h'] at h; cases h
theorem heap_set {w : World} {p i : Nat} {cs : Array Value} {t : TypeId} {fr : Nat × Nat} (h : w.heap[p]? = some (.cells cs t fr)) (u : Value) : (w.setCell ⟨p, i, none⟩ u).heap[p]? = some (.cells (cs.setIfInBounds i u) t fr) := by
  simp [World.setCell, Array.getElem?_modify, h]
def KeepsBut (t1 t2 : TypeId) (w w' : World) : Prop := ∀ (k : Nat) (c : Array Value) (t : TypeId) (fr : Nat × Nat), w.heap[k]? = some (.cells c t fr) → t ≠ t1 → t ≠ t2 → w'.heap[k]? = some (.cells c t fr)
theorem KeepsBut.refl (t1 t2 : TypeId) (w : World) : KeepsBut t1 t2 w w := fun _ _ _ _ h _ _ => h
theorem KeepsBut.trans {t1 t2 : TypeId} {a b c : World} (h : KeepsBut t1 t2 a b) (k : KeepsBut t1 t2 b c) : KeepsBut t1 t2 a c := fun i cs t fr hi h1 h2 => k i cs t fr (h i cs t fr hi h1 h2) h1 h2
theorem own_form {w : World} {base : Nat} {e : TypeId} {size n : Nat} {v : Value} {xs : List Value} (h : w.ownsRow base e size v n xs) :
    (v = .slice none 0 0 ∧ n = 0) ∨ ∃ g cap, v = .slice (some ⟨g, 0, none⟩) n cap ∧ base ≤ g ∧ g < w.heap.size ∧ n ≤ cap ∧ ∀ j u, xs[j]? = some u → w.cell? ⟨g, j, none⟩ = some u := by
  rcases h.2 with h2 | ⟨g, cap, cur, hv, hg, hh, hnc, hcm, hcs, ht⟩
  · exact .inl h2
  · refine .inr ⟨g, cap, hv, hg, ?_, hnc, fun j u hu => ?_⟩
    · rcases Nat.lt_or_ge g w.heap.size with h' | h'
      · exact h'
      · rw [Array.getElem?_eq_none h'] at hh; cases hh
    · rw [Lib.cell_of_heap hh]
      rw [← ht, List.getElem?_take] at hu
      split at hu
      · simpa using hu
      · cases hu
theorem ofL_append (a b : List UInt8) : ofL a ++ ofL b = ofL (a ++ b) := by
  apply toL_inj; simp [toL, ofL]
theorem Row.cell {w : World} {A : Option Addr} {xs : List Value} (h : Row w A xs) {k : Nat} (hk : k < xs.length) :
    ∃ b off, A = some ⟨b, off, none⟩ ∧ w.cell? ⟨b, off + k, none⟩ = some xs[k] := by
  obtain ⟨b, off, e, _, hc⟩ := h.at hk
  exact ⟨b, off, e, hc k _ (List.getElem?_eq_getElem hk)⟩
theorem own_row {w : World} {base : Nat} {e : TypeId} {size n : Nat} {v : Value} {xs : List Value} (h : w.ownsRow base e size v n xs) : ∃ A c, v = .slice A n c ∧ Row w A xs := by
  rcases own_form h with ⟨rfl, h0⟩ | ⟨g, cap, rfl, hg, hlt, hcap, hc⟩
  · refine ⟨none, 0, by rw [h0], .inl ?_⟩
    have := h.1
    rw [h0] at this
    exact List.eq_nil_of_length_eq_zero (by omega)
  · exact ⟨_, _, rfl, Row.mk _ _ _ _ hlt fun j v hv => by rw [Nat.zero_add]; exact hc j v hv⟩
theorem own_row_cap {w : World} {base : Nat} {e : TypeId} {size n : Nat} {v : Value} {xs : List Value} (h : w.ownsRow base e size v n xs) : ∃ A c, v = .slice A n c ∧ n ≤ c ∧ Row w A xs := by
  rcases own_form h with ⟨rfl, h0⟩ | ⟨g, cap, rfl, hg, hlt, hcap, hc⟩
  · refine ⟨none, 0, by rw [h0], by omega, .inl ?_⟩
    have := h.1
    rw [h0] at this
    exact List.eq_nil_of_length_eq_zero (by omega)
  · exact ⟨_, _, rfl, hcap, Row.mk _ _ _ _ hlt fun j v hv => by rw [Nat.zero_add]; exact hc j v hv⟩
theorem toList_nil {s : ByteArray} (h : s.size = 0) : s.toList = [] := by
  rw [ByteArray.toList_eq]; exact List.eq_nil_of_length_eq_zero ((toL_length s).trans h)
theorem toList_cons {s : ByteArray} (h : ¬ s.size = 0) : s.toList.isEmpty = false := by
  rw [ByteArray.toList_eq]; cases e : s.data.toList with
  | nil => exact absurd (by rw [← toL_length, toL, e]; rfl) h
  | cons => rfl
theorem below_drewN {B : Nat} {a w : World} (h : Below B a w) (n : Nat) : Below B a (w.drewN n) := ⟨h.os, h.tape, h.output, h.size, h.block⟩
theorem extract_size (s : ByteArray) (i k : Nat) (h : k ≤ s.size) : (s.extract i k).size = k - i := by rw [extract_ofL, ofL_size, cutL_length _ _ _ (by rw [toL_length]; exact h)]
theorem extract_toL (s : ByteArray) (i k : Nat) : toL (s.extract i k) = cutL (toL s) i k := by rw [extract_ofL, toL_ofL]
theorem one_size (c : UInt8) : (⟨#[c]⟩ : ByteArray).size = 1 := rfl
theorem app_size (a b : ByteArray) : (a ++ b).size = a.size + b.size := by rw [← toL_length, ← toL_length, ← toL_length]; simp [toL]
theorem beq_toList (a b : ByteArray) : (a.toList == b.toList) = decide (toL a = toL b) := by
  rw [ByteArray.toList_eq, ByteArray.toList_eq, Bool.eq_iff_iff, beq_iff_eq, decide_eq_true_iff]; rfl
structure BytesAt (w : World) (N : Nat) (l : List UInt8) : Prop where
  cells : ∀ j (h : j < l.length), w.cell? ⟨N, j, none⟩ = some (u8 l[j])
  free : ∀ j, j < l.length → w.frozen? ⟨N, j, none⟩ = false
theorem BytesAt.set {w : World} {N : Nat} {l : List UInt8} (h : BytesAt w N l) (k : Nat) (c : UInt8) : BytesAt (w.setCell ⟨N, k, none⟩ (u8 c)) N (l.set k c) := by
  refine ⟨fun j hj => ?_, fun j hj => ?_⟩
  · simp only [List.length_set] at hj
    by_cases e : k = j
    · subst e
      rw [World.cell?_setCell_same _ _ _ (h.cells k hj)]; simp
    · rw [World.cell?_setCell_other _ _ _ _ (by simp [e]), h.cells j hj, List.getElem_set_ne e]
  · simp only [List.length_set] at hj
    rw [World.frozen?_setCell]; exact h.free j hj
theorem bytesAt_new (w : World) (e : TypeId) (s : ByteArray) : BytesAt (Lib.bytesWorld w e s) w.heap.size (toL s) := by
  refine ⟨fun j hj => ?_, fun j hj => ?_⟩
  · rw [toL_length] at hj
    rw [Lib.bytesWorld_cell w e s j hj, toL_getElem s j hj]
    simp [List.getD]
    rw [Array.getElem?_eq_getElem (by exact hj)]; rfl
  · rw [toL_length] at hj
    have h1 := Lib.bytesWorld_at_new w e s
    have h2 : s.size ≤ (Lib.bytesCells w e s).size := by simp [Lib.bytesCells]
    simp only [World.frozen?, h1]
    simp; omega
theorem quiet_left' {P : Program} {f : FuncId} {args : Array Value} {w : World} {n : Nat} {v : Value}
    (h : Calls P f args (w.drewN n) fun e w' => e = .returned v ∧ w.drewN n = w') : Calls P f args (w.drewN n) fun e w'' => e = .returned v ∧ ∃ m, w'' = w.drewN m :=
  h.mono fun _ _ ⟨he, hm⟩ => ⟨he, n, hm.symm⟩

end Go.Proofs.YtannhfnpigiggaaGreatDoor

namespace Go.Proofs.YtannhfnpigiggaaGreatDoor
set_option linter.unusedSimpArgs false
set_option linter.unusedVariables false
namespace Sp
variable {lt : Nat → Nat → Prop}
/-- A strict order in which any two differ. -/
structure Ord (lt : Nat → Nat → Prop) : Prop where
  tr : ∀ {a b c}, lt a b → lt b c → lt a c
  tot : ∀ {a b}, a ≠ b → lt a b ∨ lt b a
  irr : ∀ a, ¬ lt a a
theorem Ord.not (h : Ord lt) {a b : Nat} (x : ¬ lt b a) (n : a ≠ b) : lt a b := (h.tot n).elim id (fun y => absurd y x)
/-- The piece from a to b. -/
def seg (D : List Nat) (a b : Nat) : List Nat := (D.take b).drop a
theorem seg_length {D : List Nat} {a b : Nat} (hb : b ≤ D.length) : (seg D a b).length = b - a := by
  unfold seg; rw [List.length_drop, List.length_take]; omega
theorem three (D : List Nat) {a b : Nat} (hab : a ≤ b) : D = D.take a ++ seg D a b ++ D.drop b := by
  unfold seg
  have h1 : D.take a = (D.take b).take a := by rw [List.take_take]; congr 1; omega
  rw [h1, List.take_append_drop, List.take_append_drop]
theorem seg_split {D : List Nat} {a m b : Nat} (h1 : a ≤ m) (h2 : m ≤ b) (hb : b ≤ D.length) : seg D a b = seg D a m ++ seg D m b := by
  unfold seg
  have h : D.take b = D.take m ++ (D.take b).drop m := by
    have := List.take_append_drop m (D.take b)
    rw [List.take_take, Nat.min_eq_left h2] at this; exact this.symm
  conv => lhs; rw [h]
  rw [List.drop_append_of_le_length (by rw [List.length_take]; omega)]
theorem seg_get {D : List Nat} {a b k : Nat} (hb : b ≤ D.length) (h : k < (seg D a b).length) : (seg D a b)[k] = D[a + k]'(by rw [seg_length hb] at h; omega) := by
  have : (seg D a b)[k]? = D[a + k]? := by
    unfold seg
    rw [List.getElem?_drop, List.getElem?_take_of_lt (by rw [seg_length hb] at h; omega)]
  rw [List.getElem?_eq_getElem h, List.getElem?_eq_getElem (by rw [seg_length hb] at h; omega)] at this
  injection this
theorem seg_mid {P X S : List Nat} {a b : Nat} (ha : P.length = a) (hb : a + X.length = b) : seg (P ++ X ++ S) a b = X := by
  unfold seg
  rw [List.take_append_of_le_length (by rw [List.length_append]; omega), List.take_of_length_le (by rw [List.length_append]; omega), List.drop_append_of_le_length (by omega), List.drop_of_length_le (by omega), List.nil_append]
/-- In order. -/
def Srt (lt : Nat → Nat → Prop) (L : List Nat) : Prop := L.Pairwise lt
/-- All of X stand before all of Y by number. -/
def Cr (X Y : List Nat) : Prop := ∀ x ∈ X, ∀ y ∈ Y, x < y
/-- D' is D with the piece from a to b in order. -/
structure Sorted (lt : Nat → Nat → Prop) (D : List Nat) (a b : Nat) (D' : List Nat) : Prop where
  len : D'.length = D.length
  pre : D'.take a = D.take a
  suf : D'.drop b = D.drop b
  perm : (seg D' a b).Perm (seg D a b)
  srt : Srt lt (seg D' a b)
theorem Sorted.of {D P X Z S : List Nat} {a b : Nat} (hD : D = P ++ X ++ S) (ha : P.length = a) (hb : a + X.length = b) (hz : Z.Perm X) (hs : Srt lt Z) : Sorted lt D a b (P ++ Z ++ S) := by
  have hl := hz.length_eq
  subst hD
  refine ⟨by simp [hl], ?_, ?_, ?_, ?_⟩
  · rw [List.append_assoc, List.append_assoc, List.take_append_of_le_length (by omega), List.take_append_of_le_length (by omega)]
  · have e : ∀ W : List Nat, a + W.length = b → (P ++ W ++ S).drop b = S := fun W hW => by
      rw [List.drop_append_of_le_length (by rw [List.length_append]; omega), List.drop_of_length_le (by rw [List.length_append]; omega), List.nil_append]
    rw [e Z (by omega), e X hb]
  · rw [seg_mid ha (by omega), seg_mid ha hb]; exact hz
  · rw [seg_mid ha (by omega)]; exact hs
/-- One element set into a sorted list where it belongs. -/
theorem ins_srt (h : Ord lt) {x : Nat} {Y : List Nat} (hy : Srt lt Y) (i : Nat) (h1 : ∀ y ∈ Y.take i, lt y x) (h2 : ∀ y ∈ Y.drop i, lt x y) : Srt lt (Y.take i ++ x :: Y.drop i) ∧ (Y.take i ++ x :: Y.drop i).Perm (x :: Y) := by
  constructor
  · unfold Srt at *
    have hy' : (Y.take i ++ Y.drop i).Pairwise lt := by rw [List.take_append_drop]; exact hy
    rw [List.pairwise_append] at hy' ⊢
    refine ⟨hy'.1, List.pairwise_cons.2 ⟨h2, hy'.2.1⟩, fun a ha b hb => ?_⟩
    rcases List.mem_cons.1 hb with rfl | hb
    · exact h1 a ha
    · exact hy'.2.2 a ha b hb
  · have := List.perm_middle (a := x) (l₁ := Y.take i) (l₂ := Y.drop i)
    rw [List.take_append_drop] at this; exact this
theorem srt_lt (h : Ord lt) {L : List Nat} (hs : Srt lt L) {i j : Nat} (hij : i < j) (hj : j < L.length) : lt (L[i]'(by omega)) L[j] := List.pairwise_iff_getElem.1 hs i j (by omega) hj hij
/-- Two sorted halves, all of the first before all of the second. -/
theorem two_srt {X Y : List Nat} (hx : Srt lt X) (hy : Srt lt Y) (h : ∀ x ∈ X, ∀ y ∈ Y, lt x y) : Srt lt (X ++ Y) := by
  unfold Srt at *; rw [List.pairwise_append]; exact ⟨hx, hy, h⟩
/-- The cut of the symmetric merge: i of X and j of Y come first. -/
theorem cut_law (h : Ord lt) {X Y : List Nat} (hx : Srt lt X) (hy : Srt lt Y) {i j : Nat} (hi : i ≤ X.length) (hj : j ≤ Y.length)
    (h1 : ∀ (a : 0 < i) (b : j < Y.length), lt (X[i - 1]'(by omega)) Y[j]) (h2 : ∀ (a : 0 < j) (b : i < X.length), lt (Y[j - 1]'(by omega)) X[i]) :
    ∀ u ∈ X.take i ++ Y.take j, ∀ v ∈ X.drop i ++ Y.drop j, lt u v := by
  have le_tr : ∀ {L : List Nat} (hs : Srt lt L) {p q : Nat} (hpq : p ≤ q) (hq : q < L.length) {z : Nat}, lt L[q] z → lt (L[p]'(by omega)) z := fun hs p q hpq hq z hz => by
    rcases Nat.lt_or_eq_of_le hpq with e | e
    · exact h.tr (srt_lt h hs e hq) hz
    · subst e; exact hz
  have ge_tr : ∀ {L : List Nat} (hs : Srt lt L) {p q : Nat} (hpq : p ≤ q) (hq : q < L.length) {z : Nat}, lt z (L[p]'(by omega)) → lt z L[q] := fun hs p q hpq hq z hz => by
    rcases Nat.lt_or_eq_of_le hpq with e | e
    · exact h.tr hz (srt_lt h hs e hq)
    · subst e; exact hz
  intro u hu v hv
  rcases List.mem_append.1 hu with hu | hu <;> rcases List.mem_append.1 hv with hv | hv
  · obtain ⟨p, hp, rfl⟩ := List.getElem_of_mem hu
    obtain ⟨q, hq, rfl⟩ := List.getElem_of_mem hv
    rw [List.length_take] at hp; rw [List.length_drop] at hq
    rw [List.getElem_take, List.getElem_drop]
    exact srt_lt h hx (by omega) (by omega)
  · obtain ⟨p, hp, rfl⟩ := List.getElem_of_mem hu
    obtain ⟨q, hq, rfl⟩ := List.getElem_of_mem hv
    rw [List.length_take] at hp; rw [List.length_drop] at hq
    rw [List.getElem_take, List.getElem_drop]
    have := h1 (by omega) (by omega)
    exact ge_tr hy (p := j) (q := j + q) (by omega) (by omega) (le_tr hx (p := p) (q := i - 1) (by omega) (by omega) this)
  · obtain ⟨p, hp, rfl⟩ := List.getElem_of_mem hu
    obtain ⟨q, hq, rfl⟩ := List.getElem_of_mem hv
    rw [List.length_take] at hp; rw [List.length_drop] at hq
    rw [List.getElem_take, List.getElem_drop]
    have := h2 (by omega) (by omega)
    exact ge_tr hx (p := i) (q := i + q) (by omega) (by omega) (le_tr hy (p := p) (q := j - 1) (by omega) (by omega) this)
  · obtain ⟨p, hp, rfl⟩ := List.getElem_of_mem hu
    obtain ⟨q, hq, rfl⟩ := List.getElem_of_mem hv
    rw [List.length_take] at hp; rw [List.length_drop] at hq
    rw [List.getElem_take, List.getElem_drop]
    exact srt_lt h hy (by omega) (by omega)
/-- D' has what D has, and differs at most between a and b. -/
structure Kept (D : List Nat) (a b : Nat) (D' : List Nat) : Prop where
  len : D'.length = D.length
  pre : D'.take a = D.take a
  suf : D'.drop b = D.drop b
  perm : (seg D' a b).Perm (seg D a b)
theorem Sorted.kept {D : List Nat} {a b : Nat} {D' : List Nat} (h : Sorted lt D a b D') : Kept D a b D' := ⟨h.len, h.pre, h.suf, h.perm⟩
theorem Kept.refl (D : List Nat) (a b : Nat) : Kept D a b D := ⟨rfl, rfl, rfl, List.Perm.refl _⟩
theorem seg_of_take {D D' : List Nat} {a b : Nat} (h : D'.take b = D.take b) : seg D' a b = seg D a b := by unfold seg; rw [h]
theorem seg_eq (D : List Nat) (a b : Nat) : seg D a b = (D.drop a).take (b - a) := by
  unfold seg; rw [List.drop_take]
theorem seg_of_drop {D D' : List Nat} {a b : Nat} (h : D'.drop a = D.drop a) : seg D' a b = seg D a b := by rw [seg_eq, seg_eq, h]
theorem take_le {D D' : List Nat} {a b : Nat} (h : D'.take b = D.take b) (hab : a ≤ b) : D'.take a = D.take a := by
  have : ∀ L : List Nat, L.take a = (L.take b).take a := fun L => by rw [List.take_take, Nat.min_eq_left hab]
  rw [this D', this D, h]
theorem drop_le {D D' : List Nat} {a b : Nat} (h : D'.drop a = D.drop a) (hab : a ≤ b) : D'.drop b = D.drop b := by
  have : ∀ L : List Nat, L.drop b = (L.drop a).drop (b - a) := fun L => by rw [List.drop_drop]; congr 1; omega
  rw [this D', this D, h]
/-- Sorted, then sorted further on, all of the first before all of the second. -/
theorem sorted_two {D D1 D2 D3 : List Nat} {a m b : Nat} (ham : a ≤ m) (hmb : m ≤ b) (hb : b ≤ D.length) (h1 : Kept D a b D1) (h2 : Sorted lt D1 a m D2) (h3 : Sorted lt D2 m b D3) (hc : ∀ u ∈ seg D1 a m, ∀ v ∈ seg D1 m b, lt u v) : Sorted lt D a b D3 := by
  have l1 := h1.len; have l2 := h2.len; have l3 := h3.len
  have e1 : seg D3 a m = seg D2 a m := seg_of_take h3.pre
  have e2 : seg D2 m b = seg D1 m b := seg_of_drop h2.suf
  have p1 : (seg D3 a m).Perm (seg D1 a m) := by rw [e1]; exact h2.perm
  have p2 : (seg D3 m b).Perm (seg D1 m b) := by rw [← e2]; exact h3.perm
  have s3 : seg D3 a b = seg D3 a m ++ seg D3 m b := seg_split ham hmb (by omega)
  have s1 : seg D1 a b = seg D1 a m ++ seg D1 m b := seg_split ham hmb (by omega)
  refine ⟨by omega, ?_, ?_, ?_, ?_⟩
  · rw [take_le h3.pre ham, h2.pre, h1.pre]
  · rw [h3.suf, drop_le h2.suf hmb, h1.suf]
  · rw [s3]
    refine (p1.append p2).trans ?_
    rw [← s1]; exact h1.perm
  · rw [s3]
    refine two_srt (by rw [e1]; exact h2.srt) h3.srt fun u hu v hv => hc u (p1.subset hu) v (p2.subset hv)
/-- The pieces from s to m and from m to e have changed their places. -/
def Rot (D : List Nat) (s m e : Nat) (D' : List Nat) : Prop := D' = D.take s ++ seg D m e ++ seg D s m ++ D.drop e
theorem Rot.skip {D : List Nat} {s m e : Nat} (h1 : s ≤ m) (h2 : m ≤ e) (he : e ≤ D.length) (h : s = m ∨ m = e) : Rot D s m e D := by
  unfold Rot
  have h3 := three D (a := s) (b := e) (by omega)
  rw [seg_split h1 h2 he] at h3
  rcases h with rfl | rfl
  · have : seg D s s = [] := by unfold seg; rw [List.drop_of_length_le (by rw [List.length_take]; omega)]
    rw [this] at h3 ⊢
    rw [List.append_nil]; simpa using h3
  · have : seg D m m = [] := by unfold seg; rw [List.drop_of_length_le (by rw [List.length_take]; omega)]
    rw [this] at h3 ⊢
    rw [List.append_nil]; simpa using h3
/-- What lies where when the cut has been made. -/
theorem rot_parts {D D' : List Nat} {a s m e b : Nat} (h1 : a ≤ s) (h2 : s ≤ m) (h3 : m ≤ e) (h4 : e ≤ b) (hb : b ≤ D.length) (hr : Rot D s m e D') :
    Kept D a b D' ∧ seg D' a s = seg D a s ∧ seg D' s (s + (e - m)) = seg D m e ∧ seg D' (s + (e - m)) e = seg D s m ∧ seg D' e b = seg D e b := by
  unfold Rot at hr
  have l1 : (seg D m e).length = e - m := seg_length (by omega)
  have l2 : (seg D s m).length = m - s := seg_length (by omega)
  have l3 : (D.take s).length = s := by rw [List.length_take]; omega
  have hlen : D'.length = D.length := by
    rw [hr]; simp only [List.length_append, l1, l2, l3, List.length_drop]; omega
  have ht : D'.take s = D.take s := by
    rw [hr, List.append_assoc, List.append_assoc, List.take_append_of_le_length (by omega), List.take_of_length_le (by omega)]
  have hd : D'.drop e = D.drop e := by
    rw [hr, List.drop_append_of_le_length (by simp only [List.length_append]; omega), List.drop_of_length_le (by simp only [List.length_append]; omega), List.nil_append]
  have g1 : seg D' a s = seg D a s := seg_of_take ht
  have g2 : seg D' s (s + (e - m)) = seg D m e := by
    rw [hr, List.append_assoc]; exact seg_mid l3 (by omega)
  have g3 : seg D' (s + (e - m)) e = seg D s m := by
    rw [hr]; exact seg_mid (by rw [List.length_append]; omega) (by omega)
  have g4 : seg D' e b = seg D e b := seg_of_drop hd
  refine ⟨⟨hlen, take_le ht h1, drop_le hd h4, ?_⟩, g1, g2, g3, g4⟩
  have s1 : seg D' a b = seg D' a s ++ (seg D' s (s + (e - m)) ++ (seg D' (s + (e - m)) e ++ seg D' e b)) := by
    rw [seg_split (a := a) (m := s) (b := b) h1 (by omega) (by omega), seg_split (a := s) (m := s + (e - m)) (b := b) (by omega) (by omega) (by omega), seg_split (a := s + (e - m)) (m := e) (b := b) (by omega) h4 (by omega)]
  have s2 : seg D a b = seg D a s ++ (seg D s m ++ (seg D m e ++ seg D e b)) := by
    rw [seg_split (a := a) (m := s) (b := b) h1 (by omega) (by omega), seg_split (a := s) (m := m) (b := b) (by omega) (by omega) (by omega), seg_split (a := m) (m := e) (b := b) (by omega) h4 (by omega)]
  rw [s1, s2, g1, g2, g3, g4]
  refine List.Perm.append_left _ ?_
  rw [← List.append_assoc, ← List.append_assoc]
  exact List.Perm.append_right _ List.perm_append_comm
/-- What a merge asks. -/
structure Mg (lt : Nat → Nat → Prop) (D : List Nat) (a m b : Nat) : Prop where
  am : a < m
  mb : m < b
  bl : b ≤ D.length
  x : Srt lt (seg D a m)
  y : Srt lt (seg D m b)
  cr : Cr (seg D a m) (seg D m b)
/-- The merge by a cut: what the two merges that follow ask, and what they give. -/
structure Cut (lt : Nat → Nat → Prop) (D : List Nat) (a m b s e : Nat) : Prop where
  as : a ≤ s
  sm : s ≤ m
  me : m ≤ e
  eb : e ≤ b
  mid : s + e = (a + b) / 2 + m
  lo : s = a ∨ e = b ∨ ∃ (h1 : s - 1 < D.length) (h2 : e < D.length), lt D[s - 1] D[e]
  hi : s = m ∨ e = m ∨ ∃ (h1 : s < D.length) (h2 : e - 1 < D.length), lt D[e - 1] D[s]
theorem cut_merge (h : Ord lt) {D : List Nat} {a m b s e : Nat} (hg : Mg lt D a m b) (hc : Cut lt D a m b s e) {D1 D2 D3 : List Nat} (hr : Rot D s m e D1)
    (h2 : (a < s ∧ s < (a + b) / 2 → Sorted lt D1 a ((a + b) / 2) D2) ∧ (¬(a < s ∧ s < (a + b) / 2) → D2 = D1))
    (h3 : ((a + b) / 2 < e ∧ e < b → Sorted lt D2 ((a + b) / 2) b D3) ∧ (¬((a + b) / 2 < e ∧ e < b) → D3 = D2)) : Sorted lt D a b D3 := by
  have gm := hg.am; have gb := hg.mb; have gl := hg.bl
  have c1 := hc.as; have c2 := hc.sm; have c3 := hc.me; have c4 := hc.eb; have c5 := hc.mid
  obtain ⟨hk, p1, p2, p3, p4⟩ := rot_parts c1 c2 c3 c4 gl hr
  have hmid : s + (e - m) = (a + b) / 2 := by omega
  rw [hmid] at p2 p3
  have xs : seg D a m = seg D a s ++ seg D s m := seg_split c1 c2 (by omega)
  have ys : seg D m b = seg D m e ++ seg D e b := seg_split c3 c4 gl
  have hx := hg.x; have hy := hg.y
  rw [xs] at hx; rw [ys] at hy
  have hx1 := (List.pairwise_append.1 hx); have hy1 := (List.pairwise_append.1 hy)
  have e1 : seg D1 a ((a + b) / 2) = seg D a s ++ seg D m e := by
    rw [seg_split (a := a) (m := s) (by omega) (by omega) (by have := hk.len; omega), p1, p2]
  have e2 : seg D1 ((a + b) / 2) b = seg D s m ++ seg D e b := by
    rw [seg_split (a := (a + b) / 2) (m := e) (by omega) (by omega) (by have := hk.len; omega), p3, p4]
  have hcut : ∀ u ∈ seg D1 a ((a + b) / 2), ∀ v ∈ seg D1 ((a + b) / 2) b, lt u v := by
    have lx : (seg D a m).length = m - a := seg_length (by omega)
    have ly : (seg D m b).length = b - m := seg_length gl
    have lxs : (seg D a s).length = s - a := seg_length (by omega)
    have lye : (seg D m e).length = e - m := seg_length (by omega)
    have tx : (seg D a m).take (s - a) = seg D a s := by rw [xs, List.take_append_of_le_length (by omega), List.take_of_length_le (by omega)]
    have dx : (seg D a m).drop (s - a) = seg D s m := by rw [xs, List.drop_append_of_le_length (by omega), List.drop_of_length_le (by omega), List.nil_append]
    have ty : (seg D m b).take (e - m) = seg D m e := by rw [ys, List.take_append_of_le_length (by omega), List.take_of_length_le (by omega)]
    have dy : (seg D m b).drop (e - m) = seg D e b := by rw [ys, List.drop_append_of_le_length (by omega), List.drop_of_length_le (by omega), List.nil_append]
    have := cut_law h hg.x hg.y (i := s - a) (j := e - m) (by omega) (by omega) (fun u1 u2 => by
      rw [seg_get (by omega), seg_get gl]
      rcases hc.lo with q | q | ⟨q1, q2, q⟩
      · omega
      · omega
      · have i1 : a + (s - a - 1) = s - 1 := by omega
        have i2 : m + (e - m) = e := by omega
        simp only [i1, i2]; exact q) (fun u1 u2 => by
      rw [seg_get gl, seg_get (by omega)]
      rcases hc.hi with q | q | ⟨q1, q2, q⟩
      · omega
      · omega
      · have i1 : a + (s - a) = s := by omega
        have i2 : m + (e - m - 1) = e - 1 := by omega
        simp only [i1, i2]; exact q)
    rw [tx, dx, ty, dy, ← e1, ← e2] at this
    exact this
  have k2 : Sorted lt D1 a ((a + b) / 2) D2 := by
    by_cases q : a < s ∧ s < (a + b) / 2
    · exact h2.1 q
    · rw [h2.2 q]
      refine ⟨rfl, rfl, rfl, List.Perm.refl _, ?_⟩
      rw [e1]
      rcases Nat.lt_or_ge a s with q1 | q1
      · have : seg D m e = [] := by
          have : (seg D m e).length = e - m := seg_length (by omega)
          exact List.eq_nil_of_length_eq_zero (by omega)
        rw [this, List.append_nil]; exact hx1.1
      · have : seg D a s = [] := by
          have : (seg D a s).length = s - a := seg_length (by omega)
          exact List.eq_nil_of_length_eq_zero (by omega)
        rw [this, List.nil_append]; exact hy1.1
  have k3 : Sorted lt D2 ((a + b) / 2) b D3 := by
    by_cases q : (a + b) / 2 < e ∧ e < b
    · exact h3.1 q
    · rw [h3.2 q]
      refine ⟨rfl, rfl, rfl, List.Perm.refl _, ?_⟩
      rw [seg_of_drop k2.suf, e2]
      rcases Nat.lt_or_ge e b with q1 | q1
      · have : seg D s m = [] := by
          have : (seg D s m).length = m - s := seg_length (by omega)
          exact List.eq_nil_of_length_eq_zero (by omega)
        rw [this, List.nil_append]; exact hy1.2.1
      · have : seg D e b = [] := by
          have : (seg D e b).length = b - e := seg_length (by omega)
          exact List.eq_nil_of_length_eq_zero (by omega)
        rw [this, List.append_nil]; exact hx1.2.1
  exact sorted_two (by omega) (by omega) gl hk k2 k3 hcut
/-- What the first of the two merges asks. -/
theorem cut_first {D D1 : List Nat} {a m b s e : Nat} (hg : Mg lt D a m b) (hc : Cut lt D a m b s e) (hr : Rot D s m e D1) (h : a < s ∧ s < (a + b) / 2) : Mg lt D1 a s ((a + b) / 2) := by
  have gm := hg.am; have gb := hg.mb; have gl := hg.bl
  have c1 := hc.as; have c2 := hc.sm; have c3 := hc.me; have c4 := hc.eb; have c5 := hc.mid
  obtain ⟨hk, p1, p2, p3, p4⟩ := rot_parts c1 c2 c3 c4 gl hr
  have hmid : s + (e - m) = (a + b) / 2 := by omega
  rw [hmid] at p2 p3
  have xs : seg D a m = seg D a s ++ seg D s m := seg_split c1 c2 (by omega)
  have ys : seg D m b = seg D m e ++ seg D e b := seg_split c3 c4 gl
  have hx := hg.x; have hy := hg.y
  rw [xs] at hx; rw [ys] at hy
  have hx1 := (List.pairwise_append.1 hx); have hy1 := (List.pairwise_append.1 hy)
  refine ⟨h.1, h.2, by have := hk.len; omega, by rw [p1]; exact hx1.1, by rw [p2]; exact hy1.1, ?_⟩
  rw [p1, p2]
  exact fun u hu v hv => hg.cr u (by rw [xs]; exact List.mem_append.2 (.inl hu)) v (by rw [ys]; exact List.mem_append.2 (.inl hv))
/-- What the second of the two merges asks. -/
theorem cut_second {D D1 D2 : List Nat} {a m b s e : Nat} (hg : Mg lt D a m b) (hc : Cut lt D a m b s e) (hr : Rot D s m e D1) (h2 : D2.length = D1.length ∧ D2.drop ((a + b) / 2) = D1.drop ((a + b) / 2)) (h : (a + b) / 2 < e ∧ e < b) : Mg lt D2 ((a + b) / 2) e b := by
  have gm := hg.am; have gb := hg.mb; have gl := hg.bl
  have c1 := hc.as; have c2 := hc.sm; have c3 := hc.me; have c4 := hc.eb; have c5 := hc.mid
  obtain ⟨hk, p1, p2, p3, p4⟩ := rot_parts c1 c2 c3 c4 gl hr
  have hmid : s + (e - m) = (a + b) / 2 := by omega
  rw [hmid] at p2 p3
  have xs : seg D a m = seg D a s ++ seg D s m := seg_split c1 c2 (by omega)
  have ys : seg D m b = seg D m e ++ seg D e b := seg_split c3 c4 gl
  have hx := hg.x; have hy := hg.y
  rw [xs] at hx; rw [ys] at hy
  have hx1 := (List.pairwise_append.1 hx); have hy1 := (List.pairwise_append.1 hy)
  have q3 : seg D2 ((a + b) / 2) e = seg D s m := by rw [seg_of_drop h2.2, p3]
  have q4 : seg D2 e b = seg D e b := by rw [seg_of_drop (drop_le h2.2 (by omega)), p4]
  refine ⟨h.1, h.2, by have := hk.len; omega, by rw [q3]; exact hx1.2.1, by rw [q4]; exact hy1.2.1, ?_⟩
  rw [q3, q4]
  exact fun u hu v hv => hg.cr u (by rw [xs]; exact List.mem_append.2 (.inr hu)) v (by rw [ys]; exact List.mem_append.2 (.inr hv))
/-- x set into S at place t. -/
def insAt (S : List Nat) (x t : Nat) : List Nat := S.take t ++ x :: S.drop t
theorem set_two (A B : List Nat) (x y : Nat) : (((A ++ y :: x :: B).set (A.length + 1) y).set A.length x) = A ++ x :: y :: B := by
  rw [List.set_append_right _ _ (by omega)]
  simp
theorem set_two' (A B : List Nat) (x y : Nat) : (((A ++ x :: y :: B).set A.length y).set (A.length + 1) x) = A ++ y :: x :: B := by
  rw [List.set_append_right _ _ (by omega), Nat.sub_self, List.set_cons_zero, List.set_append_right _ _ (by omega)]
  simp
theorem ins_form {S : List Nat} {x t : Nat} (h : t < S.length) : insAt S x (t + 1) = S.take t ++ S[t] :: x :: S.drop (t + 1) ∧ insAt S x t = S.take t ++ x :: S[t] :: S.drop (t + 1) := by
  unfold insAt
  constructor
  · rw [List.take_succ_eq_append_getElem h, List.append_assoc]; rfl
  · rw [List.drop_eq_getElem_cons h]
theorem ins_left {P S R : List Nat} {x t a : Nat} (ha : P.length = a) (h : t < S.length) : ((P ++ insAt S x (t + 1) ++ R).set (a + t + 1) S[t]).set (a + t) x = P ++ insAt S x t ++ R := by
  obtain ⟨e1, e2⟩ := ins_form (x := x) h
  rw [e1, e2]
  have := set_two (P ++ S.take t) (S.drop (t + 1) ++ R) x S[t]
  have hl : (P ++ S.take t).length = a + t := by rw [List.length_append, List.length_take]; omega
  rw [hl] at this
  simp only [List.append_assoc, List.cons_append] at this ⊢
  exact this
theorem ins_right {P S R : List Nat} {x t a : Nat} (ha : P.length = a) (h : t < S.length) : ((P ++ insAt S x t ++ R).set (a + t) S[t]).set (a + t + 1) x = P ++ insAt S x (t + 1) ++ R := by
  obtain ⟨e1, e2⟩ := ins_form (x := x) h
  rw [e1, e2]
  have := set_two' (P ++ S.take t) (S.drop (t + 1) ++ R) x S[t]
  have hl : (P ++ S.take t).length = a + t := by rw [List.length_append, List.length_take]; omega
  rw [hl] at this
  simp only [List.append_assoc, List.cons_append] at this ⊢
  exact this
theorem ins_get {P S R : List Nat} {x t a : Nat} (ha : P.length = a) (h : t ≤ S.length) : (P ++ insAt S x t ++ R)[a + t]? = some x := by
  unfold insAt
  rw [List.append_assoc, List.getElem?_append_right (by omega), List.append_assoc, List.getElem?_append_right (by rw [List.length_take]; omega)]
  rw [List.length_take, show a + t - P.length - min t S.length = 0 by omega]; rfl
theorem ins_prev {P S R : List Nat} {x t a : Nat} (ha : P.length = a) (h : t < S.length) : (P ++ insAt S x (t + 1) ++ R)[a + t]? = some S[t] := by
  rw [(ins_form (x := x) h).1]
  rw [List.append_assoc, List.getElem?_append_right (by omega), List.append_assoc, List.getElem?_append_right (by rw [List.length_take]; omega)]
  rw [List.length_take, show a + t - P.length - min t S.length = 0 by omega]; rfl
theorem ins_next {P S R : List Nat} {x t a : Nat} (ha : P.length = a) (h : t < S.length) : (P ++ insAt S x t ++ R)[a + t + 1]? = some S[t] := by
  rw [(ins_form (x := x) h).2]
  rw [List.append_assoc, List.getElem?_append_right (by omega), List.append_assoc, List.getElem?_append_right (by rw [List.length_take]; omega)]
  rw [List.length_take, show a + t + 1 - P.length - min t S.length = 1 by omega]; rfl
/-- n cells from a on and n cells from b on have changed their places, i of them so far. -/
def swpR (D : List Nat) (a b : Nat) : Nat → List Nat
  | 0 => D
  | i + 1 => ((swpR D a b i).set (a + i) (D.getD (b + i) 0)).set (b + i) (D.getD (a + i) 0)
theorem swpR_length (D : List Nat) (a b : Nat) : ∀ i, (swpR D a b i).length = D.length
  | 0 => rfl
  | i + 1 => by rw [swpR, List.length_set, List.length_set, swpR_length D a b i]
theorem swpR_get {D : List Nat} {a b n : Nat} (h1 : a + n ≤ b) (h2 : b + n ≤ D.length) : ∀ i, i ≤ n → ∀ k, (swpR D a b i)[k]? = if a ≤ k ∧ k < a + i then D[b + (k - a)]? else if b ≤ k ∧ k < b + i then D[a + (k - b)]? else D[k]?
  | 0, _, k => by
    rw [swpR, if_neg (by omega), if_neg (by omega)]
  | i + 1, hi, k => by
    have ih := swpR_get h1 h2 i (by omega) k
    have hl := swpR_length D a b i
    rw [swpR, List.getElem?_set, List.getElem?_set, List.length_set, hl]
    have gd : ∀ j, j < D.length → some (D.getD j 0) = D[j]? := fun j hj => by
      rw [List.getD_eq_getElem?_getD, List.getElem?_eq_getElem hj]; rfl
    by_cases e1 : b + i = k
    · rw [if_pos e1, if_pos (by omega), if_neg (by omega), if_pos (by omega), gd _ (by omega)]
      congr 1; omega
    · rw [if_neg e1]
      by_cases e2 : a + i = k
      · rw [if_pos e2, if_pos (by omega), if_pos (by omega), gd _ (by omega)]
        congr 1; omega
      · have q1 : (a ≤ k ∧ k < a + i) ↔ (a ≤ k ∧ k < a + (i + 1)) := by omega
        have q2 : (b ≤ k ∧ k < b + i) ↔ (b ≤ k ∧ k < b + (i + 1)) := by omega
        rw [if_neg e2, ih]
        simp only [q1, q2]
theorem swpR_all {P A M B S : List Nat} {a b n : Nat} (hP : P.length = a) (hA : A.length = n) (hM : a + n + M.length = b) (hB : B.length = n) : swpR (P ++ A ++ M ++ B ++ S) a b n = P ++ B ++ M ++ A ++ S := by
  apply List.ext_getElem?
  intro k
  rw [swpR_get (n := n) (by omega) (by simp only [List.length_append]; omega) n (Nat.le_refl _) k]
  simp only [List.getElem?_append, List.length_append, hP, hA, hB]
  by_cases c1 : k < a
  · repeat (first | rw [if_pos (by omega)] | rw [if_neg (by omega)])
  · by_cases c2 : k < a + n
    · rw [if_pos (show a ≤ k ∧ k < a + n from ⟨by omega, c2⟩)]
      repeat (first | rw [if_pos (by omega)] | rw [if_neg (by omega)])
      congr 1; omega
    · rw [if_neg (show ¬ (a ≤ k ∧ k < a + n) from by omega)]
      by_cases c3 : k < b
      · rw [if_neg (show ¬ (b ≤ k ∧ k < b + n) from by omega)]
        repeat (first | rw [if_pos (by omega)] | rw [if_neg (by omega)])
      · by_cases c4 : k < b + n
        · rw [if_pos (show b ≤ k ∧ k < b + n from ⟨by omega, c4⟩)]
          repeat (first | rw [if_pos (by omega)] | rw [if_neg (by omega)])
          congr 1; omega
        · rw [if_neg (show ¬ (b ≤ k ∧ k < b + n) from by omega)]
          repeat (first | rw [if_pos (by omega)] | rw [if_neg (by omega)])
/-- The state of a rotation: i and j cells are left. -/
def RotAt (T : List Nat) (m i j : Nat) (D : List Nat) : Prop := ∃ P U V S, D = P ++ U ++ V ++ S ∧ P.length + i = m ∧ U.length = i ∧ V.length = j ∧ T = P ++ V ++ U ++ S
theorem RotAt.start {D : List Nat} {a m b : Nat} (h1 : a ≤ m) (h2 : m ≤ b) (hb : b ≤ D.length) : RotAt (D.take a ++ seg D m b ++ seg D a m ++ D.drop b) m (m - a) (b - m) D := by
  refine ⟨D.take a, seg D a m, seg D m b, D.drop b, ?_, ?_, seg_length (by omega), seg_length hb, rfl⟩
  · rw [List.append_assoc (D.take a), ← seg_split h1 h2 hb]; exact three D (by omega)
  · rw [List.length_take]; omega
theorem RotAt.big {T D : List Nat} {m i j : Nat} (h : RotAt T m i j D) (hij : j < i) : RotAt T m (i - j) j (swpR D (m - i) m j) := by
  obtain ⟨P, U, V, S, rfl, h1, h2, h3, rfl⟩ := h
  have e : P ++ U ++ V ++ S = P ++ U.take j ++ U.drop j ++ V ++ S := by rw [List.append_assoc P (U.take j), List.take_append_drop]
  have l1 : (U.take j).length = j := by rw [List.length_take]; omega
  have l2 : (U.drop j).length = i - j := by rw [List.length_drop]; omega
  rw [e, swpR_all (by omega) l1 (by omega) h3]
  refine ⟨P ++ V, U.drop j, U.take j, S, rfl, by rw [List.length_append]; omega, l2, l1, ?_⟩
  conv => lhs; rw [← List.take_append_drop j U]
  simp only [List.append_assoc]
theorem RotAt.small {T D : List Nat} {m i j : Nat} (h : RotAt T m i j D) (hij : i < j) : RotAt T m i (j - i) (swpR D (m - i) (m + j - i) i) := by
  obtain ⟨P, U, V, S, rfl, h1, h2, h3, rfl⟩ := h
  have e : P ++ U ++ V ++ S = P ++ U ++ V.take (j - i) ++ V.drop (j - i) ++ S := by
    rw [List.append_assoc (P ++ U) (V.take (j - i)), List.take_append_drop]
  have l1 : (V.take (j - i)).length = j - i := by rw [List.length_take]; omega
  have l2 : (V.drop (j - i)).length = i := by rw [List.length_drop]; omega
  rw [e, swpR_all (by omega) h2 (by omega) l2]
  refine ⟨P, V.drop (j - i), V.take (j - i), U ++ S, by simp only [List.append_assoc], h1, l2, l1, ?_⟩
  conv => lhs; rw [← List.take_append_drop (j - i) V]
  simp only [List.append_assoc]
theorem RotAt.same {T D : List Nat} {m i : Nat} (h : RotAt T m i i D) : swpR D (m - i) m i = T := by
  obtain ⟨P, U, V, S, rfl, h1, h2, h3, rfl⟩ := h
  have := swpR_all (P := P) (A := U) (M := []) (B := V) (S := S) (a := m - i) (b := m) (n := i) (by omega) h2 (by simp; omega) h3
  simpa using this
/-- The insertion sort: one more element. -/
theorem ins_step (h : Ord lt) {D D' : List Nat} {a i t : Nat} (ha : a ≤ i) (hi : i < D.length) (hs : Sorted lt D a i D') (ht : t ≤ i - a) {x : Nat} (hx : D'[i]? = some x)
    (h1 : ∀ y ∈ (seg D' a i).take t, lt y x) (h2 : ∀ y ∈ (seg D' a i).drop t, lt x y) : Sorted lt D a (i + 1) (D'.take a ++ insAt (seg D' a i) x t ++ D'.drop (i + 1)) := by
  have hl := hs.len
  have hxi : D'[i]'(by omega) = x := by rw [List.getElem?_eq_getElem (by omega)] at hx; injection hx
  have hd : D'.drop i = x :: D'.drop (i + 1) := by rw [List.drop_eq_getElem_cons (by omega), hxi]
  have ls : (seg D' a i).length = i - a := seg_length (by omega)
  have h3 := ins_srt h hs.srt t h1 h2
  have hD : D = D.take a ++ seg D a (i + 1) ++ D.drop (i + 1) := three D (by omega)
  have hdx : seg D i (i + 1) = [x] := by
    rw [← seg_of_drop hs.suf, seg_eq, hd]; simp
  rw [hs.pre, drop_le hs.suf (by omega)]
  refine Sorted.of hD (by rw [List.length_take]; omega) (by rw [seg_length (by omega)]; omega) (h3.2.trans ?_) h3.1
  rw [seg_split (D := D) (m := i) (b := i + 1) ha (by omega) (by omega), hdx]
  exact (List.perm_append_comm (l₁ := [x]) (l₂ := seg D' a i)).trans (hs.perm.append_right _)
theorem ins_whole {D' : List Nat} {a i x : Nat} (ha : a ≤ i) (hi : i < D'.length) (hx : D'[i]? = some x) : D'.take a ++ insAt (seg D' a i) x (i - a) ++ D'.drop (i + 1) = D' := by
  have hxi : D'[i] = x := by rw [List.getElem?_eq_getElem hi] at hx; injection hx
  have ls : (seg D' a i).length = i - a := seg_length (by omega)
  have h3 := three D' (a := a) (b := i) ha
  rw [List.drop_eq_getElem_cons hi, hxi] at h3
  generalize hS : seg D' a i = S at *
  have e1 : S.take (i - a) = S := List.take_of_length_le (by omega)
  have e2 : S.drop (i - a) = [] := List.drop_of_length_le (by omega)
  unfold insAt
  rw [e1, e2]
  conv => rhs; rw [h3]
  simp only [List.append_assoc, List.cons_append, List.nil_append]
/-- The first j runs of length s are in order, the rest is as in Dp. -/
structure Runs (lt : Nat → Nat → Prop) (D0 Dp : List Nat) (s j : Nat) (D : List Nat) : Prop where
  len : D.length = D0.length
  run : ∀ k, k < j → (seg D (k * s) (k * s + s)).Perm (seg D0 (k * s) (k * s + s)) ∧ Srt lt (seg D (k * s) (k * s + s))
  rest : D.drop (j * s) = Dp.drop (j * s)
theorem Runs.step {D0 Dp D D' : List Nat} {s j : Nat} (h : Runs lt D0 Dp s j D) (hd : Sorted lt D (j * s) (j * s + s) D') (hp : (seg D (j * s) (j * s + s)).Perm (seg D0 (j * s) (j * s + s))) : Runs lt D0 Dp s (j + 1) D' := by
  have e : (j + 1) * s = j * s + s := by rw [Nat.add_mul, Nat.one_mul]
  refine ⟨hd.len.trans h.len, fun k hk => ?_, ?_⟩
  · rcases Nat.lt_or_ge k j with hkj | hkj
    · have : k * s + s ≤ j * s := by
        have := Nat.mul_le_mul_right s (show k + 1 ≤ j from hkj)
        rw [Nat.add_mul, Nat.one_mul] at this; exact this
      rw [seg_of_take (take_le hd.pre this)]
      exact h.run k hkj
    · obtain rfl : k = j := by omega
      exact ⟨hd.perm.trans hp, hd.srt⟩
  · rw [e, hd.suf, drop_le h.rest (by omega)]
theorem seg_over {D : List Nat} {a b : Nat} (hb : D.length ≤ b) : seg D a b = D.drop a := by unfold seg; rw [List.take_of_length_le hb]
/-- The last run may be short. -/
theorem Sorted.over {D D' : List Nat} {a b n : Nat} (hn : D.length = n) (hb : n ≤ b) (h : Sorted lt D a n D') : Sorted lt D a b D' := by
  have hl := h.len
  refine ⟨hl, h.pre, ?_, ?_, ?_⟩
  · rw [List.drop_of_length_le (by omega), List.drop_of_length_le (by omega)]
  · have := h.perm
    rw [seg_over (by omega), seg_over (by omega)] at this ⊢; exact this
  · have := h.srt
    rw [seg_over (by omega)] at this ⊢; exact this
/-- All runs are in order. -/
def AllRuns (lt : Nat → Nat → Prop) (D0 : List Nat) (s : Nat) (D : List Nat) : Prop := D.length = D0.length ∧ ∀ k, (seg D (k * s) (k * s + s)).Perm (seg D0 (k * s) (k * s + s)) ∧ Srt lt (seg D (k * s) (k * s + s))
theorem Runs.all {D0 Dp D : List Nat} {s j : Nat} (h : Runs lt D0 Dp s j D) (hj : D0.length ≤ j * s) : AllRuns lt D0 s D := by
  refine ⟨h.len, fun k => ?_⟩
  rcases Nat.lt_or_ge k j with hk | hk
  · exact h.run k hk
  · have : j * s ≤ k * s := Nat.mul_le_mul_right s hk
    have hl := h.len
    have e1 : seg D (k * s) (k * s + s) = [] := by rw [seg_over (by omega), List.drop_of_length_le (by omega)]
    have e2 : seg D0 (k * s) (k * s + s) = [] := by rw [seg_over (by omega), List.drop_of_length_le (by omega)]
    rw [e1, e2]; exact ⟨List.Perm.refl _, List.Pairwise.nil⟩
theorem AllRuns.done {D0 D : List Nat} {s : Nat} (h : AllRuns lt D0 s D) (hs : D0.length ≤ s) : D.Perm D0 ∧ Srt lt D := by
  have := h.2 0
  have hl := h.1
  rw [Nat.zero_mul, Nat.zero_add] at this
  have e : ∀ L : List Nat, L.length ≤ s → seg L 0 s = L := fun L hL => by rw [seg_over hL, List.drop_zero]
  rw [e D (by omega), e D0 (by omega)] at this
  exact this
/-- Increasing numbers. -/
def Inc (D : List Nat) : Prop := D.Pairwise (· < ·)
theorem inc_cr {D0 X Y : List Nat} (h : Inc D0) {a m b : Nat} (h1 : a ≤ m) (h2 : m ≤ b) (hX : X.Perm (seg D0 a m)) (hY : Y.Perm (seg D0 m b)) : Cr X Y := by
  intro x hx y hy
  have hx := hX.subset hx
  have hy := hY.subset hy
  unfold seg at hx hy
  obtain ⟨p, hp, rfl⟩ := List.getElem_of_mem hx
  obtain ⟨q, hq, rfl⟩ := List.getElem_of_mem hy
  simp only [List.length_drop, List.length_take] at hp hq
  rw [List.getElem_drop, List.getElem_drop, List.getElem_take, List.getElem_take]
  exact List.pairwise_iff_getElem.1 h _ _ (by omega) (by omega) (by omega)
/-- Two runs that are merged. -/
theorem runs_mg {D0 Dp D : List Nat} {s k : Nat} (hi : Inc D0) (hp : AllRuns lt D0 s Dp) (h : Runs lt D0 Dp (2 * s) k D) (hs : 0 < s) {b : Nat} (hb : k * (2 * s) + s < b) (hb2 : b ≤ D0.length) (hb3 : b ≤ k * (2 * s) + 2 * s) (hb4 : b = k * (2 * s) + 2 * s ∨ b = D0.length) :
    Mg lt D (k * (2 * s)) (k * (2 * s) + s) b ∧ (seg D (k * (2 * s)) (k * (2 * s) + 2 * s)).Perm (seg D0 (k * (2 * s)) (k * (2 * s) + 2 * s)) := by
  have hl := h.len
  have hlp := hp.1
  have e1 : k * (2 * s) = (2 * k) * s := by rw [← Nat.mul_assoc, Nat.mul_comm k 2]
  have e2 : (2 * k + 1) * s = k * (2 * s) + s := by rw [Nat.add_mul, Nat.one_mul, ← e1]
  have r1 := hp.2 (2 * k)
  have r2 := hp.2 (2 * k + 1)
  rw [← e1] at r1
  rw [e2] at r2
  have f1 : seg D (k * (2 * s)) (k * (2 * s) + s) = seg Dp (k * (2 * s)) (k * (2 * s) + s) := seg_of_drop h.rest
  have f2 : ∀ z, seg D (k * (2 * s) + s) z = seg Dp (k * (2 * s) + s) z := fun z => seg_of_drop (drop_le h.rest (by omega))
  have f3 : ∀ L : List Nat, L.length = D0.length → seg L (k * (2 * s) + s) b = seg L (k * (2 * s) + s) (k * (2 * s) + s + s) := fun L hL => by
    rcases hb4 with q | q
    · rw [q]; congr 1; omega
    · rw [seg_over (by omega), seg_over (by omega)]
  rw [← f1] at r1
  rw [← f2, ← f3 D hl, ← f3 D0 rfl] at r2
  refine ⟨⟨by omega, hb, by omega, r1.2, r2.2, inc_cr hi (by omega) (by omega) r1.1 r2.1⟩, ?_⟩
  have g : ∀ L : List Nat, L.length = D0.length → seg L (k * (2 * s)) (k * (2 * s) + 2 * s) = seg L (k * (2 * s)) (k * (2 * s) + s) ++ seg L (k * (2 * s) + s) b := fun L hL => by
    have : seg L (k * (2 * s)) (k * (2 * s) + 2 * s) = seg L (k * (2 * s)) b := by
      rcases hb4 with q | q
      · rw [q]
      · rw [seg_over (by omega), seg_over (by omega)]
    rw [this]
    exact seg_split (by omega) (by omega) (by omega)
  rw [g D hl, g D0 rfl]
  exact r1.1.append r2.1
/-- A run that stays alone. -/
theorem runs_lone {D0 Dp D : List Nat} {s k : Nat} (hp : AllRuns lt D0 s Dp) (h : Runs lt D0 Dp (2 * s) k D) (hs : D0.length ≤ k * (2 * s) + s) : AllRuns lt D0 (2 * s) D := by
  have hl := h.len
  have hlp := hp.1
  have e1 : k * (2 * s) = (2 * k) * s := by rw [← Nat.mul_assoc, Nat.mul_comm k 2]
  have r1 := hp.2 (2 * k)
  rw [← e1] at r1
  have hlen : D0.length ≤ (k + 1) * (2 * s) := by rw [Nat.add_mul, Nat.one_mul]; omega
  have f1 : seg D (k * (2 * s)) (k * (2 * s) + 2 * s) = seg Dp (k * (2 * s)) (k * (2 * s) + s) := by
    rw [seg_of_drop h.rest, seg_over (by omega), seg_over (by omega)]
  have f2 : seg D0 (k * (2 * s)) (k * (2 * s) + 2 * s) = seg D0 (k * (2 * s)) (k * (2 * s) + s) := by
    rw [seg_over (by omega), seg_over (by omega)]
  refine Runs.all (Dp := Dp) (j := k + 1) ⟨hl, fun j hj => ?_, ?_⟩ hlen
  · rcases Nat.lt_or_ge j k with q | q
    · exact h.run j q
    · obtain rfl : j = k := by omega
      rw [f1, f2]; exact r1
  · rw [List.drop_of_length_le (by omega), List.drop_of_length_le (by omega)]
/-- What stands before the element that is inserted. -/
theorem ins_before {D E : List Nat} {a i b x : Nat} (hi : Inc (seg D a b)) (h1 : a ≤ i) (h2 : i < b) (h3 : b ≤ D.length) (hs : Sorted lt D a i E) (hx : E[i]? = some x) : (∀ y ∈ seg E a i, y < x ∧ y ∈ D) ∧ x ∈ D := by
  have hl := hs.len
  have hxi : E[i]'(by omega) = x := by rw [List.getElem?_eq_getElem (by omega)] at hx; injection hx
  have hd : seg D i b = x :: seg D (i + 1) b := by
    rw [← seg_of_drop hs.suf, seg_eq, List.drop_eq_getElem_cons (by omega), hxi]
    have : b - i = (b - (i + 1)) + 1 := by omega
    rw [this, List.take_succ_cons, ← seg_of_drop (drop_le hs.suf (by omega : i ≤ i + 1)), seg_eq]
  have hxD : x ∈ D := by
    have : x ∈ seg D i b := by rw [hd]; simp
    exact List.mem_of_mem_take (List.mem_of_mem_drop this)
  refine ⟨fun y hy => ?_, hxD⟩
  have hy := hs.perm.subset hy
  refine ⟨?_, List.mem_of_mem_take (List.mem_of_mem_drop hy)⟩
  rw [seg_split h1 (by omega) h3] at hi
  exact (List.pairwise_append.1 hi).2.2 y hy x (by rw [hd]; simp)
theorem sorted_zero {D : List Nat} {a b : Nat} (h : b ≤ a + 1) : Sorted lt D a b D := by
  refine ⟨rfl, rfl, rfl, List.Perm.refl _, ?_⟩
  have : (seg D a b).length ≤ 1 := by rw [seg_eq, List.length_take]; omega
  unfold Srt
  match seg D a b, this with
  | [], _ => exact List.Pairwise.nil
  | [x], _ => exact List.pairwise_singleton _ _
theorem srt_take {L : List Nat} (h : Ord lt) (hs : Srt lt L) {t x : Nat} (ht : t < L.length) (hx : lt L[t] x) : ∀ y ∈ L.take (t + 1), lt y x := by
  intro y hy
  obtain ⟨j, hj, rfl⟩ := List.getElem_of_mem hy
  rw [List.length_take] at hj
  rw [List.getElem_take]
  rcases Nat.lt_or_eq_of_le (show j ≤ t by omega) with q | q
  · exact h.tr (srt_lt h hs q ht) hx
  · subst q; exact hx
theorem srt_drop {L : List Nat} (h : Ord lt) (hs : Srt lt L) {t x : Nat} (ht : t < L.length) (hx : lt x L[t]) : ∀ y ∈ L.drop t, lt x y := by
  intro y hy
  obtain ⟨j, hj, rfl⟩ := List.getElem_of_mem hy
  rw [List.length_drop] at hj
  rw [List.getElem_drop]
  rcases Nat.eq_zero_or_pos j with q | q
  · subst q; simpa using hx
  · exact h.tr hx (srt_lt h hs (by omega) (by omega))
theorem mg_idx {D : List Nat} {a m b i j y z : Nat} (h : Mg lt D a m b) (h1 : a ≤ i) (h2 : i < m) (h3 : m ≤ j) (h4 : j < b) (hy : D[i]? = some y) (hz : D[j]? = some z) : y < z ∧ z ∈ D := by
  have gl := h.bl
  have e1 : D[i]'(by omega) = y := by rw [List.getElem?_eq_getElem (by omega)] at hy; injection hy
  have e2 : D[j]'(by omega) = z := by rw [List.getElem?_eq_getElem (by omega)] at hz; injection hz
  have l1 : (seg D a m).length = m - a := seg_length (by omega)
  have l2 : (seg D m b).length = b - m := seg_length gl
  refine ⟨h.cr y ?_ z ?_, by rw [← e2]; exact List.getElem_mem _⟩
  · have := seg_get (D := D) (a := a) (b := m) (k := i - a) (by omega) (by omega)
    simp only [show a + (i - a) = i by omega, e1] at this
    rw [← this]; exact List.getElem_mem _
  · have := seg_get (D := D) (a := m) (b := b) (k := j - m) (by omega) (by omega)
    simp only [show m + (j - m) = j by omega, e2] at this
    rw [← this]; exact List.getElem_mem _
theorem seg_get? {D : List Nat} {a b k : Nat} (hb : b ≤ D.length) (hk : a + k < b) : (seg D a b)[k]? = D[a + k]? := by
  have l1 : (seg D a b).length = b - a := seg_length hb
  rw [List.getElem?_eq_getElem (by omega), seg_get hb (by omega), List.getElem?_eq_getElem (by omega)]
/-- One element in front of a sorted piece. -/
theorem merge_left (h : Ord lt) {D : List Nat} {a b x t : Nat} (hg : Mg lt D a (a + 1) b) (hx : D[a]? = some x) (ht : a + 1 + t ≤ b)
    (h1 : t = 0 ∨ ∃ y, D[a + 1 + t - 1]? = some y ∧ lt y x) (h2 : a + 1 + t = b ∨ ∃ y, D[a + 1 + t]? = some y ∧ lt x y) : Sorted lt D a b (D.take a ++ insAt (seg D (a + 1) b) x t ++ D.drop b) := by
  have gl := hg.bl; have gm := hg.mb
  have l2 : (seg D (a + 1) b).length = b - (a + 1) := seg_length gl
  have k1 : ∀ y ∈ (seg D (a + 1) b).take t, lt y x := by
    rcases h1 with rfl | ⟨y, hy, hl⟩
    · intro y hy; simp at hy
    · cases t with
      | zero => intro y hy; simp at hy
      | succ s =>
        have e := seg_get? (D := D) (a := a + 1) (b := b) (k := s) gl (by omega)
        rw [show a + 1 + (s + 1) - 1 = a + 1 + s by omega] at hy
        rw [hy, List.getElem?_eq_getElem (by omega)] at e
        injection e with e
        exact srt_take h hg.y (by omega) (by rw [e]; exact hl)
  have k2 : ∀ y ∈ (seg D (a + 1) b).drop t, lt x y := by
    rcases Nat.lt_or_ge (a + 1 + t) b with ht2 | ht2
    · rcases h2 with e | ⟨y, hy, hl⟩
      · omega
      · have e := seg_get? (D := D) (a := a + 1) (b := b) (k := t) gl ht2
        rw [hy, List.getElem?_eq_getElem (by omega)] at e
        injection e with e
        exact srt_drop h hg.y (by omega) (by rw [e]; exact hl)
    · rw [List.drop_of_length_le (by omega)]; intro y hy; cases hy
  have h3 := ins_srt h hg.y t k1 k2
  refine Sorted.of (P := D.take a) (X := x :: seg D (a + 1) b) (S := D.drop b) ?_ (by rw [List.length_take]; omega) (by simp only [List.length_cons]; omega) h3.2 h3.1
  have := three D (a := a) (b := b) (by omega)
  have e : seg D a b = x :: seg D (a + 1) b := by
    have hxi : D[a]'(by omega) = x := by rw [List.getElem?_eq_getElem (by omega)] at hx; injection hx
    rw [seg_eq, List.drop_eq_getElem_cons (by omega), hxi, show b - a = (b - (a + 1)) + 1 by omega, List.take_succ_cons, ← seg_eq]
  rw [e] at this; exact this
theorem left_whole {D : List Nat} {a b x : Nat} (hb : a < b) (gl : b ≤ D.length) (hx : D[a]? = some x) : D.take a ++ insAt (seg D (a + 1) b) x 0 ++ D.drop b = D := by
  have := three D (a := a) (b := b) (by omega)
  have e : seg D a b = x :: seg D (a + 1) b := by
    have hxi : D[a]'(by omega) = x := by rw [List.getElem?_eq_getElem (by omega)] at hx; injection hx
    rw [seg_eq, List.drop_eq_getElem_cons (by omega), hxi, show b - a = (b - (a + 1)) + 1 by omega, List.take_succ_cons, ← seg_eq]
  rw [e] at this
  conv => rhs; rw [this]
  rfl
/-- One element behind a sorted piece. -/
theorem merge_right (h : Ord lt) {D : List Nat} {a m x t : Nat} (hg : Mg lt D a m (m + 1)) (hx : D[m]? = some x) (ht : a + t ≤ m)
    (h1 : t = 0 ∨ ∃ y, D[a + t - 1]? = some y ∧ lt y x) (h2 : a + t = m ∨ ∃ y, D[a + t]? = some y ∧ lt x y) : Sorted lt D a (m + 1) (D.take a ++ insAt (seg D a m) x t ++ D.drop (m + 1)) := by
  have gl := hg.bl; have gm := hg.am
  have l2 : (seg D a m).length = m - a := seg_length (by omega)
  have k1 : ∀ y ∈ (seg D a m).take t, lt y x := by
    rcases h1 with rfl | ⟨y, hy, hl⟩
    · intro y hy; simp at hy
    · cases t with
      | zero => intro y hy; simp at hy
      | succ s =>
        have e := seg_get? (D := D) (a := a) (b := m) (k := s) (by omega) (by omega)
        rw [show a + (s + 1) - 1 = a + s by omega] at hy
        rw [hy, List.getElem?_eq_getElem (by omega)] at e
        injection e with e
        exact srt_take h hg.x (by omega) (by rw [e]; exact hl)
  have k2 : ∀ y ∈ (seg D a m).drop t, lt x y := by
    rcases Nat.lt_or_ge (a + t) m with ht2 | ht2
    · rcases h2 with e | ⟨y, hy, hl⟩
      · omega
      · have e := seg_get? (D := D) (a := a) (b := m) (k := t) (by omega) ht2
        rw [hy, List.getElem?_eq_getElem (by omega)] at e
        injection e with e
        exact srt_drop h hg.x (by omega) (by rw [e]; exact hl)
    · rw [List.drop_of_length_le (by omega)]; intro y hy; cases hy
  have h3 := ins_srt h hg.x t k1 k2
  refine Sorted.of (P := D.take a) (X := seg D a m ++ [x]) (S := D.drop (m + 1)) ?_ (by rw [List.length_take]; omega) (by simp only [List.length_append, List.length_cons, List.length_nil]; omega) (h3.2.trans ?_) h3.1
  · have := ins_whole (D' := D) (a := a) (i := m) (x := x) (by omega) (by omega) hx
    have q1 : (seg D a m).take (m - a) = seg D a m := List.take_of_length_le (by omega)
    have q2 : (seg D a m).drop (m - a) = [] := List.drop_of_length_le (by omega)
    unfold insAt at this
    rw [q1, q2] at this
    exact this.symm
  · exact List.perm_append_comm (l₁ := [x]) (l₂ := seg D a m)
/-- The state of the search for the cut. -/
structure CutAt (lt : Nat → Nat → Prop) (D : List Nat) (a m b s r : Nat) : Prop where
  sr : s ≤ r
  as : a ≤ s
  ns : (a + b) / 2 + m ≤ s + b
  rm : r ≤ m
  rd : r ≤ (a + b) / 2
  lo : s = a ∨ s + b = (a + b) / 2 + m ∨ ∃ y z, D[s - 1]? = some y ∧ D[(a + b) / 2 + m - s]? = some z ∧ lt y z
  hi : r = m ∨ r = (a + b) / 2 ∨ ∃ y z, D[r]? = some y ∧ D[(a + b) / 2 + m - 1 - r]? = some z ∧ lt z y
theorem CutAt.start {D : List Nat} {a m b : Nat} (hg : Mg lt D a m b) : if (a + b) / 2 < m then CutAt lt D a m b ((a + b) / 2 + m - b) ((a + b) / 2) else CutAt lt D a m b a m := by
  have gm := hg.am; have gb := hg.mb
  split
  · exact ⟨by omega, by omega, by omega, by omega, by omega, .inr (.inl (by omega)), .inr (.inl rfl)⟩
  · exact ⟨by omega, by omega, by omega, by omega, by omega, .inl rfl, .inl rfl⟩
theorem CutAt.up {D : List Nat} {a m b s r y z : Nat} (h : CutAt lt D a m b s r) (hsr : s < r) (hy : D[(s + r) / 2]? = some y) (hz : D[(a + b) / 2 + m - 1 - (s + r) / 2]? = some z) (hl : lt y z) : CutAt lt D a m b ((s + r) / 2 + 1) r := by
  have h1 := h.as; have h2 := h.ns
  refine ⟨by omega, by omega, by omega, h.rm, h.rd, .inr (.inr ⟨y, z, ?_, ?_, hl⟩), h.hi⟩
  · rw [show (s + r) / 2 + 1 - 1 = (s + r) / 2 by omega]; exact hy
  · rw [show (a + b) / 2 + m - ((s + r) / 2 + 1) = (a + b) / 2 + m - 1 - (s + r) / 2 by omega]; exact hz
theorem CutAt.down {D : List Nat} {a m b s r y z : Nat} (h : CutAt lt D a m b s r) (hsr : s < r) (hy : D[(s + r) / 2]? = some y) (hz : D[(a + b) / 2 + m - 1 - (s + r) / 2]? = some z) (hl : lt z y) : CutAt lt D a m b s ((s + r) / 2) := by
  have h1 := h.rm; have h2 := h.rd
  exact ⟨by omega, h.as, h.ns, by omega, by omega, h.lo, .inr (.inr ⟨y, z, hy, hz, hl⟩)⟩
theorem CutAt.done {D : List Nat} {a m b s : Nat} (hg : Mg lt D a m b) (h : CutAt lt D a m b s s) : Cut lt D a m b s ((a + b) / 2 + m - s) := by
  have gm := hg.am; have gb := hg.mb; have gl := hg.bl
  have h1 := h.rm; have h2 := h.rd; have h3 := h.as; have h4 := h.ns
  have get : ∀ {i y : Nat}, D[i]? = some y → ∃ hi : i < D.length, D[i] = y := fun {i y} hy => by
    rcases Nat.lt_or_ge i D.length with q | q
    · rw [List.getElem?_eq_getElem q] at hy; injection hy with hy; exact ⟨q, hy⟩
    · rw [List.getElem?_eq_none q] at hy; cases hy
  refine ⟨h3, h1, by omega, by omega, by omega, ?_, ?_⟩
  · rcases h.lo with q | q | ⟨y, z, hy, hz, hl⟩
    · exact .inl q
    · exact .inr (.inl (by omega))
    · obtain ⟨i1, e1⟩ := get hy
      obtain ⟨i2, e2⟩ := get hz
      exact .inr (.inr ⟨i1, i2, by rw [e1, e2]; exact hl⟩)
  · rcases h.hi with q | q | ⟨y, z, hy, hz, hl⟩
    · exact .inl q
    · exact .inr (.inl (by omega))
    · obtain ⟨i1, e1⟩ := get hy
      rw [show (a + b) / 2 + m - 1 - s = (a + b) / 2 + m - s - 1 by omega] at hz
      obtain ⟨i2, e2⟩ := get hz
      exact .inr (.inr ⟨i1, i2, by rw [e1, e2]; exact hl⟩)
theorem Kept.mem {D D' : List Nat} {a b : Nat} (h : Kept D a b D') (hab : a ≤ b) : ∀ x ∈ D', x ∈ D := by
  intro x hx
  rw [three D' hab, h.pre, h.suf] at hx
  rw [three D hab]
  rcases List.mem_append.1 hx with hx | hx
  · rcases List.mem_append.1 hx with hx | hx
    · exact List.mem_append.2 (.inl (List.mem_append.2 (.inl hx)))
    · exact List.mem_append.2 (.inl (List.mem_append.2 (.inr (h.perm.subset hx))))
  · exact List.mem_append.2 (.inr hx)
theorem Kept.whole {D D' : List Nat} {a b : Nat} (h : Kept D a b D') (hab : a ≤ b) : D'.Perm D := by
  have e1 := three D' hab
  have e2 := three D hab
  rw [h.pre, h.suf] at e1
  rw [e1]
  conv => rhs; rw [e2]
  exact (h.perm.append_left _).append_right _
theorem inc_seg {D : List Nat} (h : Inc D) (a b : Nat) : Inc (seg D a b) := List.Pairwise.sublist ((List.drop_sublist _ _).trans (List.take_sublist _ _)) h
theorem Runs.start (D : List Nat) (s : Nat) : Runs lt D D s 0 D := ⟨rfl, fun k hk => by omega, rfl⟩
theorem Runs.from {D0 Dp : List Nat} {s : Nat} (h : AllRuns lt D0 s Dp) (r : Nat) : Runs lt D0 Dp r 0 Dp := ⟨h.1, fun k hk => by omega, rfl⟩
end Sp
end Go.Proofs.YtannhfnpigiggaaGreatDoor
