/- Plain: patterns, their elements and their reading. No program here. -/
import Derived.Test.YtcknomaaikeebaaDoorText
namespace Go.Proofs.YtcknomaaikeebaaDoor
set_option linter.unusedSimpArgs false
set_option linter.unusedVariables false

abbrev Bs := List UInt8
theorem byte_all (p : UInt8 → Bool) (h : (List.range 256).all (fun n => p (UInt8.ofNat n)) = true) (c : UInt8) : p c = true := by
  have h1 := List.all_eq_true.1 h c.toNat (List.mem_range.2 (UInt8.toNat_lt c))
  simpa using h1
def nameC : Bs := [43, 45, 46, 48, 49, 50, 51, 52, 53, 54, 55, 56, 57, 95, 97, 98, 99, 100, 101, 102, 103, 104, 105, 106, 107, 108, 109, 110, 111, 112, 113, 114, 115, 116, 117, 118, 119, 120, 121, 122]
def isAl (c : UInt8) : Bool := isLower (num c) || isDigit (num c)
/-- The bytes that names are made of. -/
def isChar (c : UInt8) : Bool := isAl c || c == 43 || c == 45 || c == 95 || c == 46
theorem nameC_has (c : UInt8) : nameC.contains c = isChar c := by
  have := byte_all (fun c => nameC.contains c == isChar c) (by decide +kernel) c
  simpa using this
theorem mem_nameC (c : UInt8) : c ∈ nameC ↔ isChar c = true := by
  rw [← nameC_has, List.contains_iff_mem]
theorem nameC_sorted : nameC.Pairwise (fun a b => a.toNat < b.toNat) := by decide +kernel
theorem char_lt (c : UInt8) (h : isChar c = true) : c.toNat < 128 := by
  have := byte_all (fun c => !isChar c || decide (c.toNat < 128)) (by decide +kernel) c
  simpa [h] using this

/-- The bytes from c to d. -/
def rangeB (c d : UInt8) : Bs := (List.range (d.toNat + 1 - c.toNat)).map fun i => UInt8.ofNat (c.toNat + i)
theorem mem_rangeB (c d x : UInt8) : x ∈ rangeB c d ↔ c.toNat ≤ x.toNat ∧ x.toNat ≤ d.toNat := by
  unfold rangeB
  rw [List.mem_map]
  constructor
  · rintro ⟨i, hi, rfl⟩
    have h1 := List.mem_range.1 hi
    have h2 := UInt8.toNat_lt d
    rw [UInt8.toNat_ofNat', Nat.mod_eq_of_lt (by omega)]
    omega
  · rintro ⟨h1, h2⟩
    refine ⟨x.toNat - c.toNat, List.mem_range.2 (by omega), ?_⟩
    rw [show c.toNat + (x.toNat - c.toNat) = x.toNat by omega]
    simp
def okRange (c d : UInt8) : Bool := decide (c.toNat ≤ d.toNat) && (isLower (num c) == isLower (num d)) && (isDigit (num c) == isDigit (num d))
def plainC (f : Bool) (c : UInt8) : Bool := isAl c || c == 43 || c == 95 || c == 46 || (c == 45 && f)
def isRange (c : UInt8) (r : Bs) : Bool := isAl c && (r[0]? == some 45) && decide (1 < r.length)
/-- The items of a class: what they list, and their length. The first number: how many bytes to pass over. -/
def itemsF : Nat → Bool → Bs → Bs × Nat
  | _, _, [] => ([], 0)
  | k + 1, f, _ :: r => ((itemsF k f r).1, (itemsF k f r).2 + 1)
  | 0, f, c :: r =>
    if isRange c r then (if okRange c (r.getD 1 0) then (rangeB c (r.getD 1 0) ++ (itemsF 2 false r).1, (itemsF 2 false r).2 + 1) else ([], 0))
    else if plainC f c then (c :: (itemsF 0 false r).1, (itemsF 0 false r).2 + 1) else ([], 0)
theorem itemsF_skip (l : Bs) : ∀ k f, k ≤ l.length → itemsF k f l = ((itemsF 0 f (l.drop k)).1, (itemsF 0 f (l.drop k)).2 + k) := by
  induction l with
  | nil => intro k f h; simp at h; subst h; simp
  | cons c r ih =>
    intro k f h
    cases k with
    | zero => simp
    | succ k =>
      rw [itemsF, ih k f (by simpa using h)]
      simp; omega
theorem itemsF_end (f : Bool) : itemsF 0 f [] = ([], 0) := by simp [itemsF]
theorem itemsF_range (f : Bool) (c : UInt8) (r : Bs) (h : isRange c r = true) (ho : okRange c (r.getD 1 0) = true) :
    itemsF 0 f (c :: r) = (rangeB c (r.getD 1 0) ++ (itemsF 0 false (r.drop 2)).1, (itemsF 0 false (r.drop 2)).2 + 3) := by
  have hl : 2 ≤ r.length := by simp [isRange] at h; omega
  rw [itemsF, if_pos h, if_pos ho, itemsF_skip r 2 false hl]
theorem itemsF_bad (f : Bool) (c : UInt8) (r : Bs) (h : isRange c r = true) (ho : okRange c (r.getD 1 0) = false) : itemsF 0 f (c :: r) = ([], 0) := by
  rw [itemsF, if_pos h, if_neg (by rw [ho]; simp)]
theorem itemsF_one (f : Bool) (c : UInt8) (r : Bs) (h : isRange c r = false) (ho : plainC f c = true) :
    itemsF 0 f (c :: r) = (c :: (itemsF 0 false r).1, (itemsF 0 false r).2 + 1) := by
  rw [itemsF, if_neg (by simp [h]), if_pos ho]
theorem itemsF_stop (f : Bool) (c : UInt8) (r : Bs) (h : isRange c r = false) (ho : plainC f c = false) : itemsF 0 f (c :: r) = ([], 0) := by
  rw [itemsF, if_neg (by simp [h]), if_neg (by simp [ho])]
/-- What items list is made of name characters; so is what they consume. -/
theorem okRange_char {c d x : UInt8} (hc : isAl c = true) (h : okRange c d = true) (h1 : c.toNat ≤ x.toNat) (h2 : x.toNat ≤ d.toNat) : isAl x = true := by
  simp [isAl, isLower, isDigit] at hc ⊢
  simp [okRange] at h
  obtain ⟨⟨h3, h4⟩, h5⟩ := h
  rw [Bool.eq_iff_iff] at h4 h5
  simp [isLower, isDigit] at h4 h5
  simp only [num] at *
  omega
theorem isAl_char {c : UInt8} (h : isAl c = true) : isChar c = true := by simp [isChar, h]
theorem plainC_char {f : Bool} {c : UInt8} (h : plainC f c = true) : isChar c = true := by
  simp [plainC] at h; simp [isChar]; rcases h with (((h | h) | h) | h) | h <;> simp [h]
theorem itemsF_chars : ∀ (n : Nat) (l : Bs), l.length ≤ n → ∀ f, (∀ c ∈ (itemsF 0 f l).1, isChar c = true) ∧ (∀ c ∈ l.take (itemsF 0 f l).2, isChar c = true) ∧ (itemsF 0 f l).2 ≤ l.length ∧ (itemsF 0 f l).1.length ≤ 256 * (itemsF 0 f l).2 := by
  intro n
  induction n with
  | zero => intro l h f; have : l = [] := List.eq_nil_of_length_eq_zero (by omega); subst this; simp [itemsF]
  | succ n ih =>
    intro l h f
    cases l with
    | nil => simp [itemsF]
    | cons c r =>
      simp at h
      by_cases hr : isRange c r = true
      · by_cases ho : okRange c (r.getD 1 0) = true
        · have h0 := hr
          simp [isRange] at h0
          obtain ⟨⟨ha, h45⟩, hl⟩ := h0
          obtain ⟨i1, i2, i3, i4⟩ := ih (r.drop 2) (by simp; omega) false
          rw [itemsF_range f c r hr ho]
          have hd := okRange_char ha ho (x := r.getD 1 0) (by simp only [okRange, Bool.and_eq_true, decide_eq_true_eq] at ho; exact ho.1.1) (Nat.le_refl _)
          refine ⟨fun x hx => ?_, ?_, ?_, ?_⟩
          · rcases List.mem_append.1 hx with hx | hx
            · obtain ⟨h1, h2⟩ := (mem_rangeB _ _ _).1 hx
              exact isAl_char (okRange_char ha ho h1 h2)
            · exact i1 x hx
          · match r, hl with
            | a :: b :: r', _ =>
              simp at h45 hd
              intro x hx
              simp at hx i2
              rcases hx with rfl | rfl | rfl | hx
              · exact isAl_char ha
              · subst h45; decide
              · exact isAl_char hd
              · exact i2 x hx
          · simp at i3 ⊢; omega
          · simp [rangeB] at i4 ⊢
            have := UInt8.toNat_lt (r[1]?.getD 0); omega
        · rw [itemsF_bad f c r hr (by simpa using ho)]; simp
      · by_cases hp : plainC f c = true
        · obtain ⟨i1, i2, i3, i4⟩ := ih r (by omega) false
          rw [itemsF_one f c r (by simpa using hr) hp]
          refine ⟨fun x hx => ?_, fun x hx => ?_, by simp; omega, by simp; omega⟩
          · rcases List.mem_cons.1 hx with rfl | hx
            · exact plainC_char hp
            · exact i1 x hx
          · simp at hx
            rcases hx with rfl | hx
            · exact plainC_char hp
            · exact i2 x hx
        · rw [itemsF_stop f c r (by simpa using hr) (by simpa using hp)]; simp

/-- A class at the head of a text: its characters, and its length. -/
def classF (l : Bs) : Option (Bs × Nat) :=
  let neg := l[1]? == some 94
  let fr := if neg then 2 else 1
  let x := itemsF 0 true (l.drop fr)
  if x.2 = 0 ∨ l[fr + x.2]? ≠ some 93 then none else some (nameC.filter (fun c => x.1.contains c != neg), fr + x.2 + 1)

/-- An element of a pattern. -/
inductive Em where
  | lit (c : UInt8)
  | single
  | star
  | cls (l : Bs)
deriving DecidableEq
def Em.chars : Em → Bs
  | .lit c => [c]
  | .single => nameC
  | .star => nameC
  | .cls l => l
def Em.isStar : Em → Bool
  | .star => true
  | _ => false
/-- The characters of an element are name characters, in increasing order. -/
def Em.Ok (e : Em) : Prop := ∃ p : UInt8 → Bool, e.chars = nameC.filter p
theorem Em.Ok.lit {c : UInt8} (h : isChar c = true) : (Em.lit c).Ok := by
  refine ⟨fun x => x == c, ?_⟩
  have := byte_all (fun c => !isChar c || (nameC.filter (fun x => x == c) == [c])) (by decide +kernel) c
  simp [h] at this
  simp [Em.chars, this]
theorem filter_true (l : Bs) : l.filter (fun _ => true) = l := by simp
theorem Em.Ok.single : Em.single.Ok := ⟨fun _ => true, (filter_true _).symm⟩
theorem Em.Ok.star : Em.star.Ok := ⟨fun _ => true, (filter_true _).symm⟩
theorem Em.Ok.char {e : Em} (h : e.Ok) {c : UInt8} (hc : c ∈ e.chars) : isChar c = true := by
  obtain ⟨p, hp⟩ := h
  rw [hp] at hc
  exact (mem_nameC c).1 (List.mem_filter.1 hc |>.1)
theorem Em.Ok.sorted {e : Em} (h : e.Ok) : e.chars.Pairwise (fun a b => a.toNat < b.toNat) := by
  obtain ⟨p, hp⟩ := h
  rw [hp]; exact nameC_sorted.filter p
theorem Em.Ok.len {e : Em} (h : e.Ok) : e.chars.length ≤ 40 := by
  obtain ⟨p, hp⟩ := h
  rw [hp]; exact List.length_filter_le _ _

/-- Reading elements. The first number: how many bytes to pass over; then: the offset, what has been read. -/
def compGo : Nat → Bs → Nat → List Em → List Em × Nat × Int
  | _, [], _, acc => (acc, 0, 0)
  | k + 1, _ :: r, i, acc => compGo k r (i + 1) acc
  | 0, c :: r, i, acc =>
    if c = 63 then compGo 0 r (i + 1) (acc ++ [.single])
    else if c = 42 then compGo 0 r (i + 1) (acc ++ [.star])
    else if c = 91 then (match classF (c :: r) with | none => ([], i, 3) | some x => compGo (x.2 - 1) r (i + 1) (acc ++ [.cls x.1]))
    else if isChar c then compGo 0 r (i + 1) (acc ++ [.lit c])
    else ([], i, 6)
def compF (l : Bs) : List Em × Nat × Int := if l.length = 0 then ([], 0, 4) else if 80 < l.length then ([], 80, 5) else compGo 0 l 0 []
theorem compGo_skip (l : Bs) : ∀ k i acc, k ≤ l.length → compGo k l i acc = compGo 0 (l.drop k) (i + k) acc := by
  induction l with
  | nil => intro k i acc h; simp at h; subst h; simp
  | cons c r ih =>
    intro k i acc h
    cases k with
    | zero => simp
    | succ k =>
      rw [compGo, ih k _ _ (by simpa using h)]
      simp [Nat.add_assoc, Nat.add_comm 1 k]
theorem compGo_end (i : Nat) (acc : List Em) : compGo 0 [] i acc = (acc, 0, 0) := by simp [compGo]
theorem compGo_any (r : Bs) (i : Nat) (acc : List Em) : compGo 0 (63 :: r) i acc = compGo 0 r (i + 1) (acc ++ [.single]) := by rw [compGo, if_pos rfl]
theorem compGo_star (r : Bs) (i : Nat) (acc : List Em) : compGo 0 (42 :: r) i acc = compGo 0 r (i + 1) (acc ++ [.star]) := by rw [compGo, if_neg (by decide), if_pos rfl]
theorem compGo_noclass (r : Bs) (i : Nat) (acc : List Em) (h : classF (91 :: r) = none) : compGo 0 (91 :: r) i acc = ([], i, 3) := by
  rw [compGo, if_neg (by decide), if_neg (by decide), if_pos rfl, h]
theorem compGo_class (r : Bs) (i : Nat) (acc : List Em) (x : Bs) (n : Nat) (h : classF (91 :: r) = some (x, n)) (h0 : 0 < n) (hn : n ≤ (91 :: r).length) : compGo 0 (91 :: r) i acc = compGo 0 ((91 :: r).drop n) (i + n) (acc ++ [.cls x]) := by
  rw [compGo, if_neg (by decide), if_neg (by decide), if_pos rfl, h]
  simp at hn
  show compGo (n - 1) r (i + 1) _ = _
  rw [compGo_skip r _ _ _ (by omega)]
  match n, h0 with
  | n + 1, _ => simp [Nat.add_assoc, Nat.add_comm 1 n]
theorem compGo_lit (c : UInt8) (r : Bs) (i : Nat) (acc : List Em) (h1 : c ≠ 63) (h2 : c ≠ 42) (h3 : c ≠ 91) (hc : isChar c = true) : compGo 0 (c :: r) i acc = compGo 0 r (i + 1) (acc ++ [.lit c]) := by
  rw [compGo, if_neg h1, if_neg h2, if_neg h3, if_pos hc]
theorem compGo_bad (c : UInt8) (r : Bs) (i : Nat) (acc : List Em) (h1 : c ≠ 63) (h2 : c ≠ 42) (h3 : c ≠ 91) (hc : isChar c = false) : compGo 0 (c :: r) i acc = ([], i, 6) := by
  rw [compGo, if_neg h1, if_neg h2, if_neg h3, if_neg (by simp [hc])]

theorem classF_range {l : Bs} {x : Bs} {n : Nat} (h : classF l = some (x, n)) : 2 < n ∧ n ≤ l.length ∧ (Em.cls x).Ok := by
  unfold classF at h
  simp only at h
  have hfr : 1 ≤ (if (l[1]? == some 94) = true then 2 else 1) := by split <;> omega
  generalize (if (l[1]? == some 94) = true then 2 else 1) = fr at h hfr
  by_cases hn : (itemsF 0 true (l.drop fr)).2 = 0 ∨ l[fr + (itemsF 0 true (l.drop fr)).2]? ≠ some 93
  · rw [if_pos hn] at h; cases h
  · rw [if_neg hn] at h
    simp only [Option.some.injEq, Prod.mk.injEq] at h
    obtain ⟨rfl, rfl⟩ := h
    simp only [not_or, Decidable.not_not] at hn
    obtain ⟨h1, h2⟩ := hn
    have h3 := (List.getElem?_eq_some_iff.1 h2).1
    exact ⟨by omega, by omega, ⟨_, by rw [Em.chars]⟩⟩

example : (compF [99, 111, 109, 112, 46, 42]).1.length = 6 := by decide +kernel
example : compF [97, 91, 98] = ([], 1, 3) := by decide +kernel
/-- All that is read is well formed. -/
theorem compGo_ok : ∀ (n : Nat) (l : Bs), l.length ≤ n → ∀ i acc, (∀ e ∈ acc, e.Ok) → ∀ e ∈ (compGo 0 l i acc).1, e.Ok := by
  intro n
  induction n with
  | zero => intro l h i acc ha; have : l = [] := List.eq_nil_of_length_eq_zero (by omega); subst this; simpa [compGo] using ha
  | succ n ih =>
    intro l h i acc ha
    have snoc : ∀ e : Em, e.Ok → ∀ x ∈ acc ++ [e], x.Ok := fun e he x hx => by
      rcases List.mem_append.1 hx with hx | hx
      · exact ha x hx
      · simp at hx; subst hx; exact he
    cases l with
    | nil => simpa [compGo] using ha
    | cons c r =>
      simp at h
      by_cases h1 : c = 63
      · subst h1; rw [compGo_any]; exact ih r h _ _ (snoc _ Em.Ok.single)
      by_cases h2 : c = 42
      · subst h2; rw [compGo_star]; exact ih r h _ _ (snoc _ Em.Ok.star)
      by_cases h3 : c = 91
      · subst h3
        cases hc : classF (91 :: r) with
        | none => rw [compGo_noclass _ _ _ hc]; simp
        | some y =>
          obtain ⟨x, m⟩ := y
          obtain ⟨g1, g2, g3⟩ := classF_range hc
          rw [compGo_class _ _ _ x m hc (by omega) g2]
          exact ih _ (by simp at g2 ⊢; omega) _ _ (snoc _ g3)
      by_cases hc : isChar c = true
      · rw [compGo_lit _ _ _ _ h1 h2 h3 hc]; exact ih r h _ _ (snoc _ (Em.Ok.lit hc))
      · rw [compGo_bad _ _ _ _ h1 h2 h3 (by simpa using hc)]; simp
theorem compF_ok (l : Bs) : ∀ e ∈ (compF l).1, e.Ok := by
  unfold compF
  split
  · simp
  · split
    · simp
    · exact compGo_ok _ l (Nat.le_refl _) _ _ (by simp)
/-- How many elements there are, and which errors. -/
theorem compGo_len : ∀ (n : Nat) (l : Bs), l.length ≤ n → ∀ i acc, (compGo 0 l i acc).1.length ≤ acc.length + l.length ∧ (compGo 0 l i acc).2.1 ≤ i + l.length ∧ ((compGo 0 l i acc).2.2 ≠ 0 → (compGo 0 l i acc).1 = []) ∧ 0 ≤ (compGo 0 l i acc).2.2 ∧ (compGo 0 l i acc).2.2 ≤ 6 := by
  intro n
  induction n with
  | zero => intro l h i acc; have : l = [] := List.eq_nil_of_length_eq_zero (by omega); subst this; simp [compGo]
  | succ n ih =>
    intro l h i acc
    cases l with
    | nil => simp [compGo]
    | cons c r =>
      simp at h
      have step : ∀ e : Em, compGo 0 (c :: r) i acc = compGo 0 r (i + 1) (acc ++ [e]) → _ := fun e he => by
        have := ih r h (i + 1) (acc ++ [e])
        rw [← he] at this
        simp at this
        exact (show (compGo 0 (c :: r) i acc).1.length ≤ acc.length + (c :: r).length ∧ (compGo 0 (c :: r) i acc).2.1 ≤ i + (c :: r).length ∧ ((compGo 0 (c :: r) i acc).2.2 ≠ 0 → (compGo 0 (c :: r) i acc).1 = []) ∧ 0 ≤ (compGo 0 (c :: r) i acc).2.2 ∧ (compGo 0 (c :: r) i acc).2.2 ≤ 6 from
          ⟨by simp; omega, by simp; omega, this.2.2.1, this.2.2.2.1, this.2.2.2.2⟩)
      by_cases h1 : c = 63
      · subst h1; exact step _ (compGo_any _ _ _)
      by_cases h2 : c = 42
      · subst h2; exact step _ (compGo_star _ _ _)
      by_cases h3 : c = 91
      · subst h3
        cases hc : classF (91 :: r) with
        | none => rw [compGo_noclass _ _ _ hc]; simp
        | some y =>
          obtain ⟨x, m⟩ := y
          obtain ⟨g1, g2, g3⟩ := classF_range hc
          rw [compGo_class _ _ _ x m hc (by omega) g2]
          have := ih ((91 :: r).drop m) (by simp at g2 ⊢; omega) (i + m) (acc ++ [.cls x])
          simp only [List.length_append, List.length_drop, List.length_cons, List.length_nil] at this g2 ⊢
          exact ⟨by omega, by omega, this.2.2.1, this.2.2.2.1, this.2.2.2.2⟩
      by_cases hc : isChar c = true
      · exact step _ (compGo_lit _ _ _ _ h1 h2 h3 hc)
      · rw [compGo_bad _ _ _ _ h1 h2 h3 (by simpa using hc)]; simp
theorem compF_len (l : Bs) : (compF l).1.length ≤ 80 ∧ (compF l).2.1 ≤ 80 ∧ ((compF l).2.2 ≠ 0 → (compF l).1 = []) ∧ 0 ≤ (compF l).2.2 ∧ (compF l).2.2 ≤ 6 := by
  unfold compF
  split
  · simp
  · split
    · simp
    · have := compGo_len _ l (Nat.le_refl _) 0 []
      simp only [List.length_nil] at this
      exact ⟨by omega, by omega, this.2.2⟩

end Go.Proofs.YtcknomaaikeebaaDoor
