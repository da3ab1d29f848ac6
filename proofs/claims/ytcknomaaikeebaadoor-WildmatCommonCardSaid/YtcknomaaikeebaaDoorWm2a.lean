/- Facts for the walks over the reading of classes. -/
import Derived.Test.YtcknomaaikeebaaDoorWm1
namespace Go.Proofs.YtcknomaaikeebaaDoor
set_option linter.unusedSimpArgs false
set_option linter.unusedVariables false
open Go.RowKit

/-- What items hands back. -/
def ItemsPost (L : Bs) (w : World) (e : Ending) (w' : World) : Prop := e = .returned (.tuple #[.string (ofL (itemsF 0 true L).1), .int .i64 ((itemsF 0 true L).2 : Nat)]) ∧ Below w.heap.size w w'
/-- How far the reading has come. -/
def ItemsAt (L X : Bs) (k : Nat) (f : Bool) : Prop := itemsF 0 true L = (X ++ (itemsF 0 f (L.drop k)).1, (itemsF 0 f (L.drop k)).2 + k)
theorem items_done {L X : Bs} {k : Nat} {f : Bool} (h : ItemsAt L X k f) (hd : itemsF 0 f (L.drop k) = ([], 0)) : itemsF 0 true L = (X, k) := by
  rw [h, hd]; simp
theorem items_post {L : Bs} {X : ByteArray} {k : Nat} {w w' : World} (h : itemsF 0 true L = (toL X, k)) (hb : Below w.heap.size w w') : ItemsPost L w (.returned (.tuple #[.string X, .int .i64 k])) w' := by
  refine ⟨?_, hb⟩
  rw [h]; simp [ofL_toL]
theorem plainC_num (f : Bool) (c : UInt8) : plainC f c = (isAl c || num c == 43 || num c == 95 || num c == 46 || (num c == 45 && f)) := by
  have h1 := byte_all (fun c => plainC true c == (isAl c || num c == 43 || num c == 95 || num c == 46 || (num c == 45 && true))) (by decide +kernel) c
  have h2 := byte_all (fun c => plainC false c == (isAl c || num c == 43 || num c == 95 || num c == 46 || (num c == 45 && false))) (by decide +kernel) c
  cases f
  · simpa using h2
  · simpa using h1
theorem isChar_num (c : UInt8) : isChar c = (isAl c || num c == 43 || num c == 45 || num c == 95 || num c == 46) := by
  have h1 := byte_all (fun c => isChar c == (isAl c || num c == 43 || num c == 45 || num c == 95 || num c == 46)) (by decide +kernel) c
  simpa using h1
theorem eq_num (c d : UInt8) : (num c == num d) = (c == d) := by
  rw [Bool.eq_iff_iff, beq_iff_eq, beq_iff_eq]
  constructor
  · intro h; exact UInt8.toNat_inj.1 (by simp only [num] at h; omega)
  · rintro rfl; rfl
theorem drop_at {L : Bs} {k : Nat} {c : UInt8} (h : L[k]? = some c) : L.drop k = c :: L.drop (k + 1) := by
  obtain ⟨hk, rfl⟩ := List.getElem?_eq_some_iff.1 h
  exact List.drop_eq_getElem_cons hk
theorem isRange_at (L : Bs) (k : Nat) (c d : UInt8) (hd : L[k + 1]? = some d) : isRange c (L.drop (k + 1)) = (isAl c && (num d == 45) && decide (k + 2 < L.length)) := by
  unfold isRange
  have e : (num d == 45) = (d == 45) := eq_num d 45
  rw [e]
  congr 1
  · congr 1
    simp [hd]
  · simp; omega
theorem isRange_end (L : Bs) (k : Nat) (c : UInt8) (h : ¬ k + 2 < L.length) : isRange c (L.drop (k + 1)) = false := by
  have : ¬ (1 < L.length - (k + 1)) := by omega
  simp [isRange, this]
theorem isRange_no (L : Bs) (c : UInt8) (h : isAl c = false) : isRange c L = false := by simp [isRange, h]
theorem items_one {L X : Bs} {k : Nat} {f : Bool} (h : ItemsAt L X k f) (c : UInt8) (hc : L[k]? = some c) (hr : isRange c (L.drop (k + 1)) = false) (hp : plainC f c = true) : ItemsAt L (X ++ [c]) (k + 1) false := by
  unfold ItemsAt at *
  rw [h, drop_at hc, itemsF_one f _ _ hr hp]
  simp; omega
theorem items_rng {L X : Bs} {k : Nat} {f : Bool} (h : ItemsAt L X k f) (c d : UInt8) (hc : L[k]? = some c) (hd : L[k + 2]? = some d) (hr : isRange c (L.drop (k + 1)) = true) (hp : okRange c d = true) : ItemsAt L (X ++ rangeB c d) (k + 3) false := by
  have e : (L.drop (k + 1)).getD 1 0 = d := by simp [List.getD, show k + 1 + 1 = k + 2 from rfl, hd]
  unfold ItemsAt at *
  rw [h, drop_at hc, itemsF_range f _ _ hr (by rw [e]; exact hp), e]
  simp [show k + 1 + 2 = k + 3 from rfl]; omega
theorem items_bad {L X : Bs} {k : Nat} {f : Bool} (h : ItemsAt L X k f) (c d : UInt8) (hc : L[k]? = some c) (hd : L[k + 2]? = some d) (hr : isRange c (L.drop (k + 1)) = true) (hp : okRange c d = false) : itemsF 0 true L = (X, k) := by
  have e : (L.drop (k + 1)).getD 1 0 = d := by simp [List.getD, show k + 1 + 1 = k + 2 from rfl, hd]
  refine items_done h ?_
  rw [drop_at hc, itemsF_bad f _ _ hr (by rw [e]; exact hp)]
theorem items_stop {L X : Bs} {k : Nat} {f : Bool} (h : ItemsAt L X k f) (c : UInt8) (hc : L[k]? = some c) (hr : isRange c (L.drop (k + 1)) = false) (hp : plainC f c = false) : itemsF 0 true L = (X, k) := by
  refine items_done h ?_
  rw [drop_at hc, itemsF_stop f _ _ hr hp]
theorem items_end {L X : Bs} {k : Nat} {f : Bool} (h : ItemsAt L X k f) (hk : L.length ≤ k) : itemsF 0 true L = (X, k) := by
  refine items_done h ?_
  rw [List.drop_eq_nil_of_le hk, itemsF_end]
/-- The bytes from c to before x. -/
def rangeTo (c : UInt8) (x : Nat) : Bs := (List.range (x - c.toNat)).map fun i => UInt8.ofNat (c.toNat + i)
theorem rangeTo_snoc (c : UInt8) (x : Nat) (h1 : c.toNat ≤ x) : rangeTo c (x + 1) = rangeTo c x ++ [UInt8.ofNat x] := by
  unfold rangeTo
  rw [show x + 1 - c.toNat = (x - c.toNat) + 1 by omega, List.range_succ, List.map_append, List.map_cons, List.map_nil, show c.toNat + (x - c.toNat) = x by omega]
theorem rangeTo_zero (c : UInt8) : rangeTo c c.toNat = [] := by simp [rangeTo]
theorem rangeTo_all (c d : UInt8) : rangeTo c (d.toNat + 1) = rangeB c d := rfl
theorem byte_at (s : ByteArray) (k : Nat) (h : k < s.size) : (toL s)[k]? = some (s[k]'h) := by
  rw [List.getElem?_eq_getElem (by rw [toL_length]; exact h), toL_getElem s k h]
theorem conv_one (T : TypeId) (hT : Tryd.prog.underlying T = some .string) (w : World) (c : UInt8) : (convert 69 T (.slice (some ⟨w.heap.size, 0, none⟩) 1 1)).run Tryd.prog (w.alloc (.cells #[.int .u8 (num c)] 5)) = .ok (.string ⟨#[c]⟩) (w.alloc (.cells #[.int .u8 (num c)] 5)) :=
  run_convert_bytes_back (P := Tryd.prog) _ 69 T 5 ⟨w.heap.size, 0, none⟩ 1 [c] Tryd.underlying69 Tryd.underlying5 hT (fun j hj => by
    obtain rfl : j = 0 := by simpa using hj
    simp [Addr.add])
theorem le_num (c d : UInt8) : decide (c.toNat ≤ d.toNat) = !decide (num d < num c) := by
  rw [Bool.eq_iff_iff]; simp only [num, decide_eq_true_eq, Bool.not_eq_true', decide_eq_false_iff_not]; omega
theorem okRange_parts {c d : UInt8} (ha : isAl c = true) (h : okRange c d = true) : decide (num d < num c) = false ∧ isLower (num d) = isLower (num c) ∧ isDigit (num d) = isDigit (num c) ∧ d.toNat ≤ 122 ∧ c.toNat ≤ d.toNat := by
  have hd := okRange_char ha h (x := d) (by simp only [okRange, Bool.and_eq_true, decide_eq_true_eq] at h; exact h.1.1) (Nat.le_refl _)
  simp only [okRange, Bool.and_eq_true, le_num, beq_iff_eq, Bool.not_eq_true'] at h
  refine ⟨h.1.1, h.1.2.symm, h.2.symm, ?_, ?_⟩
  · simp [isAl, isLower, isDigit] at hd; simp only [num] at hd; omega
  · have := h.1.1; simp at this; exact this
theorem bad_flags {c d : UInt8} (h : okRange c d = false) (h1 : decide (num d < num c) = false) (h2 : isLower (num d) = isLower (num c)) (h3 : isDigit (num d) = isDigit (num c)) : False := by
  have : okRange c d = true := by
    unfold okRange
    rw [le_num, h1, h2, h3]; simp
  rw [this] at h; cases h
theorem num_succ (x : UInt8) (h : x.toNat < 255) : num (x + 1) = num x + 1 := by
  simp only [num, UInt8.toNat_add]
  have : (1 : UInt8).toNat = 1 := rfl
  omega
theorem rangeTo_step (c x : UInt8) (h1 : c.toNat ≤ x.toNat) (h : x.toNat < 255) : rangeTo c (x + 1).toNat = rangeTo c x.toNat ++ [x] := by
  have : (x + 1).toNat = x.toNat + 1 := by have := num_succ x h; simp only [num] at this; omega
  rw [this, rangeTo_snoc c _ h1]; simp
theorem wrap_u8 (x : Int) (h0 : 0 ≤ x) (h1 : x < 256) : IntKind.u8.wrap x = x := IntWalk.u8_in x ⟨h0, by omega⟩
theorem toL_app (a b : ByteArray) : toL (a ++ b) = toL a ++ toL b := by simp [toL]

end Go.Proofs.YtcknomaaikeebaaDoor
