/- Lemmas and walks, part 1. -/

namespace Go.Proofs.YtannhfnpigiggaaGreatDoor
set_option linter.unusedSimpArgs false
set_option linter.unusedVariables false

def isLower (c : Int) : Bool := decide (97 ≤ c) && decide (c ≤ 122)
def isUpper (c : Int) : Bool := decide (65 ≤ c) && decide (c ≤ 90)
def isLetter (c : Int) : Bool := isLower c || isUpper c
def isDigit (c : Int) : Bool := decide (48 ≤ c) && decide (c ≤ 57)
def isVisible (c : Int) : Bool := decide (33 ≤ c) && decide (c ≤ 126)
def isBlank (c : Int) : Bool := (c == 32) || (c == 9)

/-- A byte as the number that the walk shows. -/
abbrev num (c : UInt8) : Int := (c.toNat : Int)

def toL (s : ByteArray) : List UInt8 := s.data.toList
theorem toL_length (s : ByteArray) : (toL s).length = s.size := by simp [toL]
theorem toL_getElem (s : ByteArray) (k : Nat) (h : k < s.size) : (toL s)[k]'(by rw [toL_length]; exact h) = s[k] := by simp [toL]; rfl
theorem toL_inj {s t : ByteArray} (h : toL s = toL t) : s = t := by
  cases s with | mk a => cases t with | mk b => exact congrArg _ (Array.toList_inj.1 h)

/-- The first offset from k on whose byte is outside the class p. -/
def skipFrom (p : Int → Bool) (l : List UInt8) (k : Nat) : Nat := k + ((l.drop k).takeWhile fun c => p (num c)).length

theorem drop_cons (l : List UInt8) (k : Nat) (h : k < l.length) : l.drop k = l[k] :: l.drop (k + 1) := List.drop_eq_getElem_cons h

theorem skipFrom_end (p : Int → Bool) (l : List UInt8) (k : Nat) (h : l.length ≤ k) : skipFrom p l k = k := by
  simp [skipFrom, List.drop_eq_nil_of_le h]
theorem skipFrom_stop (p : Int → Bool) (l : List UInt8) (k : Nat) (h : k < l.length) (hp : p (num l[k]) = false) : skipFrom p l k = k := by
  rw [skipFrom, drop_cons l k h, List.takeWhile_cons, hp]; simp
theorem skipFrom_step (p : Int → Bool) (l : List UInt8) (k : Nat) (h : k < l.length) (hp : p (num l[k]) = true) : skipFrom p l k = skipFrom p l (k + 1) := by
  rw [skipFrom, skipFrom, drop_cons l k h, List.takeWhile_cons, hp]; simp; omega
theorem skipFrom_ge (p : Int → Bool) (l : List UInt8) (k : Nat) : k ≤ skipFrom p l k := by simp [skipFrom]
theorem skipFrom_le (p : Int → Bool) (l : List UInt8) (k : Nat) (h : k ≤ l.length) : skipFrom p l k ≤ l.length := by
  have h1 := (List.takeWhile_prefix (l := l.drop k) (fun c => p (num c))).length_le
  simp [skipFrom] at *; omega

end Go.Proofs.YtannhfnpigiggaaGreatDoor

namespace Go.Proofs.YtannhfnpigiggaaGreatDoor
set_option linter.unusedSimpArgs false
set_option linter.unusedVariables false

abbrev Bs := List UInt8
def ofL (l : List UInt8) : ByteArray := ⟨l.toArray⟩
theorem toL_ofL (l : List UInt8) : toL (ofL l) = l := rfl
theorem ofL_toL (s : ByteArray) : ofL (toL s) = s := toL_inj (toL_ofL _)
theorem ofL_size (l : List UInt8) : (ofL l).size = l.length := by rw [← toL_length, toL_ofL]

/-- The bytes from i to k. -/
def cutL (l : List UInt8) (i k : Nat) : List UInt8 := (l.drop i).take (k - i)
theorem extract_ofL (s : ByteArray) (i k : Nat) : s.extract i k = ofL (cutL (toL s) i k) := by
  apply toL_inj
  rw [toL_ofL]
  simp [toL, cutL, List.extract]
theorem cutL_length (l : List UInt8) (i k : Nat) (h : k ≤ l.length) : (cutL l i k).length = k - i := by simp [cutL]; omega

/-- The maximal runs of bytes that are no blanks; cur: what has been read of the current one. -/
def wordsAux : List UInt8 → List UInt8 → List (List UInt8)
  | [], cur => if cur = [] then [] else [cur]
  | c :: r, cur => if isBlank (num c) then (if cur = [] then wordsAux r [] else cur :: wordsAux r []) else wordsAux r (cur ++ [c])
def words (l : List UInt8) : List (List UInt8) := wordsAux l []

theorem wordsAux_run (l : List UInt8) : ∀ cur, cur ≠ [] → wordsAux l cur = (cur ++ l.takeWhile fun c => !isBlank (num c)) :: words (l.dropWhile fun c => !isBlank (num c)) := by
  induction l with
  | nil => intro cur h; simp [wordsAux, words, h]
  | cons c r ih =>
    intro cur h
    by_cases hb : isBlank (num c) = true
    · simp [wordsAux, hb, h, words]
    · have hb' : isBlank (num c) = false := by simpa using hb
      simp [wordsAux, hb', ih (cur ++ [c]) (by simp)]
theorem words_blanks (l : List UInt8) : words l = words (l.dropWhile fun c => isBlank (num c)) := by
  induction l with
  | nil => rfl
  | cons c r ih =>
    by_cases hb : isBlank (num c) = true
    · simp [words, wordsAux, hb] at ih ⊢; exact ih
    · have hb' : isBlank (num c) = false := by simpa using hb
      simp [hb']
theorem words_run (c : UInt8) (r : List UInt8) (h : isBlank (num c) = false) :
    words (c :: r) = ((c :: r).takeWhile fun c => !isBlank (num c)) :: words ((c :: r).dropWhile fun c => !isBlank (num c)) := by
  simp [words, wordsAux, h, wordsAux_run r [c] (by simp)]
theorem words_nil : words [] = [] := rfl

theorem dropWhile_eq_drop (p : UInt8 → Bool) (l : List UInt8) : l.dropWhile p = l.drop (l.takeWhile p).length := by
  induction l with
  | nil => rfl
  | cons c r ih => by_cases h : p c = true <;> simp [h, ih]
theorem takeWhile_eq_take (p : UInt8 → Bool) (l : List UInt8) : l.takeWhile p = l.take (l.takeWhile p).length := by
  induction l with
  | nil => rfl
  | cons c r ih => by_cases h : p c = true <;> simp [h]; exact ih

theorem drop_skip (p : Int → Bool) (l : List UInt8) (k : Nat) : l.drop (skipFrom p l k) = (l.drop k).dropWhile fun c => p (num c) := by
  rw [dropWhile_eq_drop, List.drop_drop, skipFrom]
theorem cut_skip (p : Int → Bool) (l : List UInt8) (k : Nat) : cutL l k (skipFrom p l k) = (l.drop k).takeWhile fun c => p (num c) := by
  rw [takeWhile_eq_take, cutL, skipFrom]; congr 1; omega

/-- One round of Words: the blanks, then the word. -/
theorem words_round (l : List UInt8) (k f t : Nat) (hf : f = skipFrom isBlank l k) (ht : t = skipFrom (fun c => !isBlank c) l f) :
    words (l.drop k) = (if f < t then [cutL l f t] else []) ++ words (l.drop t) := by
  rw [words_blanks (l.drop k), ← drop_skip isBlank l k, ← hf]
  cases e : l.drop f with
  | nil =>
    have h0 : t = f := by rw [ht]; simp [skipFrom, e]
    simp [h0, e, words_nil]
  | cons c r =>
    have hc : isBlank (num c) = false := by
      have := drop_skip isBlank l k
      rw [← hf, e] at this
      have h2 := List.head?_dropWhile_not (fun c => isBlank (num c)) (l.drop k)
      rw [← this] at h2
      simpa using h2
    have hlt : f < t := by rw [ht, skipFrom, e]; simp [hc]
    rw [if_pos hlt, words_run c r hc, ← e]
    have h1 := cut_skip (fun c => !isBlank c) l f
    have h2 := drop_skip (fun c => !isBlank c) l f
    rw [← ht] at h1 h2
    rw [← h1, ← h2]; rfl

theorem words_progress (l : List UInt8) (k f t : Nat) (hf : f = skipFrom isBlank l k) (ht : t = skipFrom (fun c => !isBlank c) l f) (hk : k < l.length) : k < t := by
  have h1 := skipFrom_ge isBlank l k
  have h2 := skipFrom_ge (fun c => !isBlank c) l f
  rw [← ht] at h2
  rw [← hf] at h1
  by_cases hb : isBlank (num l[k]) = true
  · have := skipFrom_step isBlank l k hk hb
    have h3 := skipFrom_ge isBlank l (k + 1)
    omega
  · have hb' : isBlank (num l[k]) = false := by simpa using hb
    have h4 := skipFrom_stop isBlank l k hk hb'
    have h5 : f = k := by omega
    subst h5
    have := skipFrom_step (fun c => !isBlank c) l f hk (by simp [hb'])
    have h6 := skipFrom_ge (fun c => !isBlank c) l (f + 1)
    omega

theorem wordsAux_sum (l : List UInt8) : ∀ cur, (wordsAux l cur).length ≤ l.length + 1 := by
  induction l with
  | nil => intro cur; simp [wordsAux]; split <;> simp
  | cons c r ih =>
    intro cur
    simp only [wordsAux]
    have h1 := ih []; have h2 := ih (cur ++ [c])
    split
    · split
      · simp; omega
      · simp; omega
    · simp; omega


/-- Words joined by single spaces. -/
def joinSp : List (List UInt8) → List UInt8
  | [] => []
  | [x] => x
  | x :: y :: r => x ++ 32 :: joinSp (y :: r)
theorem joinSp_inter (l : List (List UInt8)) : [32].intercalate l = joinSp l := by
  induction l with
  | nil => rfl
  | cons x r ih =>
    cases r with
    | nil => simp [joinSp, List.intercalate]
    | cons y r => simp [joinSp, ← ih, List.intercalate]
theorem joinSp_snoc (l : List (List UInt8)) (x : List UInt8) (h : l ≠ []) : joinSp (l ++ [x]) = joinSp l ++ [32] ++ x := by
  induction l with
  | nil => exact absurd rfl h
  | cons y r ih =>
    cases r with
    | nil => simp [joinSp]
    | cons z r =>
      have := ih (by simp)
      simp [joinSp] at this ⊢
      rw [this]
theorem joinSp_cons (x : List UInt8) (l : List (List UInt8)) (h : l ≠ []) : joinSp (x :: l) = x ++ 32 :: joinSp l := by
  cases l with
  | nil => exact absurd rfl h
  | cons y r => rfl
def squeeze (l : List UInt8) : List UInt8 := joinSp (words l)

theorem joinSp_wordsAux_le (l : List UInt8) : ∀ cur, (joinSp (wordsAux l cur)).length ≤ cur.length + l.length := by
  induction l with
  | nil => intro cur; simp only [wordsAux]; split <;> simp [joinSp]
  | cons c r ih =>
    intro cur
    simp only [wordsAux]
    split
    · split
      · have := ih []; simp at this ⊢; omega
      · have h := ih []
        by_cases e : wordsAux r [] = []
        · rw [e]; simp [joinSp]
        · rw [joinSp_cons _ _ e]; simp at h ⊢; omega
    · have := ih (cur ++ [c]); simp at this ⊢; omega
theorem squeeze_le (l : List UInt8) : (squeeze l).length ≤ l.length := by
  have := joinSp_wordsAux_le l []; simpa [squeeze, words] using this


theorem joinSp_take_le (l : List (List UInt8)) : ∀ k, (joinSp (l.take k)).length ≤ (joinSp l).length := by
  induction l with
  | nil => intro k; simp
  | cons x r ih =>
    intro k
    cases k with
    | zero => simp [joinSp]
    | succ k =>
      cases r with
      | nil => simp [joinSp]
      | cons y r =>
        have := ih k
        cases k with
        | zero => simp [joinSp]
        | succ k => simp [joinSp] at this ⊢; omega
theorem joinSp_mem_le (l : List (List UInt8)) (x : List UInt8) (h : x ∈ l) : x.length ≤ (joinSp l).length := by
  induction l with
  | nil => cases h
  | cons y r ih =>
    cases r with
    | nil => simp at h; subst h; simp [joinSp]
    | cons z r =>
      rcases List.mem_cons.1 h with rfl | h
      · simp [joinSp]
      · have := ih h; simp [joinSp] at this ⊢; omega
theorem joinSp_step (l : List (List UInt8)) (k : Nat) (h : k < l.length) (h0 : 0 < k) : joinSp (l.take (k + 1)) = joinSp (l.take k) ++ [32] ++ l[k] := by
  rw [List.take_succ_eq_append_getElem h, joinSp_snoc _ _ (fun e => by have h1 := congrArg List.length e; rw [List.length_take, List.length_nil] at h1; omega)]

end Go.Proofs.YtannhfnpigiggaaGreatDoor

namespace Go.Proofs.YtannhfnpigiggaaGreatDoor
set_option linter.unusedSimpArgs false
set_option linter.unusedVariables false

theorem byte_all (p : UInt8 → Bool) (h : (List.range 256).all (fun n => p (UInt8.ofNat n)) = true) (c : UInt8) : p c = true := by
  have h1 := List.all_eq_true.1 h c.toNat (List.mem_range.2 (UInt8.toNat_lt c))
  simpa using h1
def nameC : Bs := [43, 45, 46, 48, 49, 50, 51, 52, 53, 54, 55, 56, 57, 95, 97, 98, 99, 100, 101, 102, 103, 104, 105, 106, 107, 108, 109, 110, 111, 112, 113, 114, 115, 116, 117, 118, 119, 120, 121, 122]
def isAl (c : UInt8) : Bool := isLower (num c) || isDigit (num c)
/-- The bytes that names are made of. -/
def isChar (c : UInt8) : Bool := isAl c || c == 43 || c == 45 || c == 95 || c == 46
theorem nameC_has (c : UInt8) : nameC.contains c = isChar c := by
  have := byte_all (fun c => nameC.contains c == isChar c) (by decide +kernel) c
  simpa using this
theorem mem_nameC (c : UInt8) : c ∈ nameC ↔ isChar c = true := by
  rw [← nameC_has, List.contains_iff_mem]
theorem nameC_sorted : nameC.Pairwise (fun a b => a.toNat < b.toNat) := by decide +kernel
theorem char_lt (c : UInt8) (h : isChar c = true) : c.toNat < 128 := by
  have := byte_all (fun c => !isChar c || decide (c.toNat < 128)) (by decide +kernel) c
  simpa [h] using this

/-- The bytes from c to d. -/
def rangeB (c d : UInt8) : Bs := (List.range (d.toNat + 1 - c.toNat)).map fun i => UInt8.ofNat (c.toNat + i)
theorem mem_rangeB (c d x : UInt8) : x ∈ rangeB c d ↔ c.toNat ≤ x.toNat ∧ x.toNat ≤ d.toNat := by
  unfold rangeB
  rw [List.mem_map]
  constructor
  · rintro ⟨i, hi, rfl⟩
    have h1 := List.mem_range.1 hi
    have h2 := UInt8.toNat_lt d
    rw [UInt8.toNat_ofNat', Nat.mod_eq_of_lt (by omega)]
    omega
  · rintro ⟨h1, h2⟩
    refine ⟨x.toNat - c.toNat, List.mem_range.2 (by omega), ?_⟩
    rw [show c.toNat + (x.toNat - c.toNat) = x.toNat by omega]
    simp
def okRange (c d : UInt8) : Bool := decide (c.toNat ≤ d.toNat) && (isLower (num c) == isLower (num d)) && (isDigit (num c) == isDigit (num d))
def plainC (f : Bool) (c : UInt8) : Bool := isAl c || c == 43 || c == 95 || c == 46 || (c == 45 && f)
def isRange (c : UInt8) (r : Bs) : Bool := isAl c && (r[0]? == some 45) && decide (1 < r.length)
/-- The items of a class: what they list, and their length. The first number: how many bytes to pass over. -/
def itemsF : Nat → Bool → Bs → Bs × Nat
  | _, _, [] => ([], 0)
  | k + 1, f, _ :: r => ((itemsF k f r).1, (itemsF k f r).2 + 1)
  | 0, f, c :: r =>
    if isRange c r then (if okRange c (r.getD 1 0) then (rangeB c (r.getD 1 0) ++ (itemsF 2 false r).1, (itemsF 2 false r).2 + 1) else ([], 0))
    else if plainC f c then (c :: (itemsF 0 false r).1, (itemsF 0 false r).2 + 1) else ([], 0)
theorem itemsF_skip (l : Bs) : ∀ k f, k ≤ l.length → itemsF k f l = ((itemsF 0 f (l.drop k)).1, (itemsF 0 f (l.drop k)).2 + k) := by
  induction l with
  | nil => intro k f h; simp at h; subst h; simp
  | cons c r ih =>
    intro k f h
    cases k with
    | zero => simp
    | succ k =>
      rw [itemsF, ih k f (by simpa using h)]
      simp; omega
theorem itemsF_end (f : Bool) : itemsF 0 f [] = ([], 0) := by simp [itemsF]
theorem itemsF_range (f : Bool) (c : UInt8) (r : Bs) (h : isRange c r = true) (ho : okRange c (r.getD 1 0) = true) :
    itemsF 0 f (c :: r) = (rangeB c (r.getD 1 0) ++ (itemsF 0 false (r.drop 2)).1, (itemsF 0 false (r.drop 2)).2 + 3) := by
  have hl : 2 ≤ r.length := by simp [isRange] at h; omega
  rw [itemsF, if_pos h, if_pos ho, itemsF_skip r 2 false hl]
theorem itemsF_bad (f : Bool) (c : UInt8) (r : Bs) (h : isRange c r = true) (ho : okRange c (r.getD 1 0) = false) : itemsF 0 f (c :: r) = ([], 0) := by
  rw [itemsF, if_pos h, if_neg (by rw [ho]; simp)]
theorem itemsF_one (f : Bool) (c : UInt8) (r : Bs) (h : isRange c r = false) (ho : plainC f c = true) :
    itemsF 0 f (c :: r) = (c :: (itemsF 0 false r).1, (itemsF 0 false r).2 + 1) := by
  rw [itemsF, if_neg (by simp [h]), if_pos ho]
theorem itemsF_stop (f : Bool) (c : UInt8) (r : Bs) (h : isRange c r = false) (ho : plainC f c = false) : itemsF 0 f (c :: r) = ([], 0) := by
  rw [itemsF, if_neg (by simp [h]), if_neg (by simp [ho])]
/-- What items list is made of name characters; so is what they consume. -/
theorem okRange_char {c d x : UInt8} (hc : isAl c = true) (h : okRange c d = true) (h1 : c.toNat ≤ x.toNat) (h2 : x.toNat ≤ d.toNat) : isAl x = true := by
  simp [isAl, isLower, isDigit] at hc ⊢
  simp [okRange] at h
  obtain ⟨⟨h3, h4⟩, h5⟩ := h
  rw [Bool.eq_iff_iff] at h4 h5
  simp [isLower, isDigit] at h4 h5
  simp only [num] at *
  omega
theorem isAl_char {c : UInt8} (h : isAl c = true) : isChar c = true := by simp [isChar, h]
theorem plainC_char {f : Bool} {c : UInt8} (h : plainC f c = true) : isChar c = true := by
  simp [plainC] at h; simp [isChar]; rcases h with (((h | h) | h) | h) | h <;> simp [h]
theorem itemsF_chars : ∀ (n : Nat) (l : Bs), l.length ≤ n → ∀ f, (∀ c ∈ (itemsF 0 f l).1, isChar c = true) ∧ (∀ c ∈ l.take (itemsF 0 f l).2, isChar c = true) ∧ (itemsF 0 f l).2 ≤ l.length ∧ (itemsF 0 f l).1.length ≤ 256 * (itemsF 0 f l).2 := by
  intro n
  induction n with
  | zero => intro l h f; have : l = [] := List.eq_nil_of_length_eq_zero (by omega); subst this; simp [itemsF]
  | succ n ih =>
    intro l h f
    cases l with
    | nil => simp [itemsF]
    | cons c r =>
      simp at h
      by_cases hr : isRange c r = true
      · by_cases ho : okRange c (r.getD 1 0) = true
        · have h0 := hr
          simp [isRange] at h0
          obtain ⟨⟨ha, h45⟩, hl⟩ := h0
          obtain ⟨i1, i2, i3, i4⟩ := ih (r.drop 2) (by simp; omega) false
          rw [itemsF_range f c r hr ho]
          have hd := okRange_char ha ho (x := r.getD 1 0) (by simp only [okRange, Bool.and_eq_true, decide_eq_true_eq] at ho; exact ho.1.1) (Nat.le_refl _)
          refine ⟨fun x hx => ?_, ?_, ?_, ?_⟩
          · rcases List.mem_append.1 hx with hx | hx
            · obtain ⟨h1, h2⟩ := (mem_rangeB _ _ _).1 hx
              exact isAl_char (okRange_char ha ho h1 h2)
            · exact i1 x hx
          · match r, hl with
            | a :: b :: r', _ =>
              simp at h45 hd
              intro x hx
              simp at hx i2
              rcases hx with rfl | rfl | rfl | hx
              · exact isAl_char ha
              · subst h45; decide
              · exact isAl_char hd
              · exact i2 x hx
          · simp at i3 ⊢; omega
          · simp [rangeB] at i4 ⊢
            have := UInt8.toNat_lt (r[1]?.getD 0); omega
        · rw [itemsF_bad f c r hr (by simpa using ho)]; simp
      · by_cases hp : plainC f c = true
        · obtain ⟨i1, i2, i3, i4⟩ := ih r (by omega) false
          rw [itemsF_one f c r (by simpa using hr) hp]
          refine ⟨fun x hx => ?_, fun x hx => ?_, by simp; omega, by simp; omega⟩
          · rcases List.mem_cons.1 hx with rfl | hx
            · exact plainC_char hp
            · exact i1 x hx
          · simp at hx
            rcases hx with rfl | hx
            · exact plainC_char hp
            · exact i2 x hx
        · rw [itemsF_stop f c r (by simpa using hr) (by simpa using hp)]; simp

/-- A class at the head of a text: its characters, and its length. -/
def classF (l : Bs) : Option (Bs × Nat) :=
  let neg := l[1]? == some 94
  let fr := if neg then 2 else 1
  let x := itemsF 0 true (l.drop fr)
  if x.2 = 0 ∨ l[fr + x.2]? ≠ some 93 then none else some (nameC.filter (fun c => x.1.contains c != neg), fr + x.2 + 1)

/-- An element of a pattern. -/
inductive Em where
  | lit (c : UInt8)
  | single
  | star
  | cls (l : Bs)
deriving DecidableEq
def Em.chars : Em → Bs
  | .lit c => [c]
  | .single => nameC
  | .star => nameC
  | .cls l => l
def Em.isStar : Em → Bool
  | .star => true
  | _ => false
/-- The characters of an element are name characters, in increasing order. -/
def Em.Ok (e : Em) : Prop := ∃ p : UInt8 → Bool, e.chars = nameC.filter p
theorem Em.Ok.lit {c : UInt8} (h : isChar c = true) : (Em.lit c).Ok := by
  refine ⟨fun x => x == c, ?_⟩
  have := byte_all (fun c => !isChar c || (nameC.filter (fun x => x == c) == [c])) (by decide +kernel) c
  simp [h] at this
  simp [Em.chars, this]
theorem filter_true (l : Bs) : l.filter (fun _ => true) = l := by simp
theorem Em.Ok.single : Em.single.Ok := ⟨fun _ => true, (filter_true _).symm⟩
theorem Em.Ok.star : Em.star.Ok := ⟨fun _ => true, (filter_true _).symm⟩
theorem Em.Ok.char {e : Em} (h : e.Ok) {c : UInt8} (hc : c ∈ e.chars) : isChar c = true := by
  obtain ⟨p, hp⟩ := h
  rw [hp] at hc
  exact (mem_nameC c).1 (List.mem_filter.1 hc |>.1)
theorem Em.Ok.sorted {e : Em} (h : e.Ok) : e.chars.Pairwise (fun a b => a.toNat < b.toNat) := by
  obtain ⟨p, hp⟩ := h
  rw [hp]; exact nameC_sorted.filter p
theorem Em.Ok.len {e : Em} (h : e.Ok) : e.chars.length ≤ 40 := by
  obtain ⟨p, hp⟩ := h
  rw [hp]; exact List.length_filter_le _ _

/-- Reading elements. The first number: how many bytes to pass over; then: the offset, what has been read. -/
def compGo : Nat → Bs → Nat → List Em → List Em × Nat × Int
  | _, [], _, acc => (acc, 0, 0)
  | k + 1, _ :: r, i, acc => compGo k r (i + 1) acc
  | 0, c :: r, i, acc =>
    if c = 63 then compGo 0 r (i + 1) (acc ++ [.single])
    else if c = 42 then compGo 0 r (i + 1) (acc ++ [.star])
    else if c = 91 then (match classF (c :: r) with | none => ([], i, 3) | some x => compGo (x.2 - 1) r (i + 1) (acc ++ [.cls x.1]))
    else if isChar c then compGo 0 r (i + 1) (acc ++ [.lit c])
    else ([], i, 6)
def compF (l : Bs) : List Em × Nat × Int := if l.length = 0 then ([], 0, 4) else if 80 < l.length then ([], 80, 5) else compGo 0 l 0 []
theorem compGo_skip (l : Bs) : ∀ k i acc, k ≤ l.length → compGo k l i acc = compGo 0 (l.drop k) (i + k) acc := by
  induction l with
  | nil => intro k i acc h; simp at h; subst h; simp
  | cons c r ih =>
    intro k i acc h
    cases k with
    | zero => simp
    | succ k =>
      rw [compGo, ih k _ _ (by simpa using h)]
      simp [Nat.add_assoc, Nat.add_comm 1 k]
theorem compGo_end (i : Nat) (acc : List Em) : compGo 0 [] i acc = (acc, 0, 0) := by simp [compGo]
theorem compGo_any (r : Bs) (i : Nat) (acc : List Em) : compGo 0 (63 :: r) i acc = compGo 0 r (i + 1) (acc ++ [.single]) := by rw [compGo, if_pos rfl]
theorem compGo_star (r : Bs) (i : Nat) (acc : List Em) : compGo 0 (42 :: r) i acc = compGo 0 r (i + 1) (acc ++ [.star]) := by rw [compGo, if_neg (by decide), if_pos rfl]
theorem compGo_noclass (r : Bs) (i : Nat) (acc : List Em) (h : classF (91 :: r) = none) : compGo 0 (91 :: r) i acc = ([], i, 3) := by
  rw [compGo, if_neg (by decide), if_neg (by decide), if_pos rfl, h]
theorem compGo_class (r : Bs) (i : Nat) (acc : List Em) (x : Bs) (n : Nat) (h : classF (91 :: r) = some (x, n)) (h0 : 0 < n) (hn : n ≤ (91 :: r).length) : compGo 0 (91 :: r) i acc = compGo 0 ((91 :: r).drop n) (i + n) (acc ++ [.cls x]) := by
  rw [compGo, if_neg (by decide), if_neg (by decide), if_pos rfl, h]
  simp at hn
  show compGo (n - 1) r (i + 1) _ = _
  rw [compGo_skip r _ _ _ (by omega)]
  match n, h0 with
  | n + 1, _ => simp [Nat.add_assoc, Nat.add_comm 1 n]
theorem compGo_lit (c : UInt8) (r : Bs) (i : Nat) (acc : List Em) (h1 : c ≠ 63) (h2 : c ≠ 42) (h3 : c ≠ 91) (hc : isChar c = true) : compGo 0 (c :: r) i acc = compGo 0 r (i + 1) (acc ++ [.lit c]) := by
  rw [compGo, if_neg h1, if_neg h2, if_neg h3, if_pos hc]
theorem compGo_bad (c : UInt8) (r : Bs) (i : Nat) (acc : List Em) (h1 : c ≠ 63) (h2 : c ≠ 42) (h3 : c ≠ 91) (hc : isChar c = false) : compGo 0 (c :: r) i acc = ([], i, 6) := by
  rw [compGo, if_neg h1, if_neg h2, if_neg h3, if_neg (by simp [hc])]

theorem classF_range {l : Bs} {x : Bs} {n : Nat} (h : classF l = some (x, n)) : 2 < n ∧ n ≤ l.length ∧ (Em.cls x).Ok := by
  unfold classF at h
  simp only at h
  have hfr : 1 ≤ (if (l[1]? == some 94) = true then 2 else 1) := by split <;> omega
  generalize (if (l[1]? == some 94) = true then 2 else 1) = fr at h hfr
  by_cases hn : (itemsF 0 true (l.drop fr)).2 = 0 ∨ l[fr + (itemsF 0 true (l.drop fr)).2]? ≠ some 93
  · rw [if_pos hn] at h; cases h
  · rw [if_neg hn] at h
    simp only [Option.some.injEq, Prod.mk.injEq] at h
    obtain ⟨rfl, rfl⟩ := h
    simp only [not_or, Decidable.not_not] at hn
    obtain ⟨h1, h2⟩ := hn
    have h3 := (List.getElem?_eq_some_iff.1 h2).1
    exact ⟨by omega, by omega, ⟨_, by rw [Em.chars]⟩⟩

example : (compF [99, 111, 109, 112, 46, 42]).1.length = 6 := by decide +kernel
example : compF [97, 91, 98] = ([], 1, 3) := by decide +kernel
/-- All that is read is well formed. -/
theorem compGo_ok : ∀ (n : Nat) (l : Bs), l.length ≤ n → ∀ i acc, (∀ e ∈ acc, e.Ok) → ∀ e ∈ (compGo 0 l i acc).1, e.Ok := by
  intro n
  induction n with
  | zero => intro l h i acc ha; have : l = [] := List.eq_nil_of_length_eq_zero (by omega); subst this; simpa [compGo] using ha
  | succ n ih =>
    intro l h i acc ha
    have snoc : ∀ e : Em, e.Ok → ∀ x ∈ acc ++ [e], x.Ok := fun e he x hx => by
      rcases List.mem_append.1 hx with hx | hx
      · exact ha x hx
      · simp at hx; subst hx; exact he
    cases l with
    | nil => simpa [compGo] using ha
    | cons c r =>
      simp at h
      by_cases h1 : c = 63
      · subst h1; rw [compGo_any]; exact ih r h _ _ (snoc _ Em.Ok.single)
      by_cases h2 : c = 42
      · subst h2; rw [compGo_star]; exact ih r h _ _ (snoc _ Em.Ok.star)
      by_cases h3 : c = 91
      · subst h3
        cases hc : classF (91 :: r) with
        | none => rw [compGo_noclass _ _ _ hc]; simp
        | some y =>
          obtain ⟨x, m⟩ := y
          obtain ⟨g1, g2, g3⟩ := classF_range hc
          rw [compGo_class _ _ _ x m hc (by omega) g2]
          exact ih _ (by simp at g2 ⊢; omega) _ _ (snoc _ g3)
      by_cases hc : isChar c = true
      · rw [compGo_lit _ _ _ _ h1 h2 h3 hc]; exact ih r h _ _ (snoc _ (Em.Ok.lit hc))
      · rw [compGo_bad _ _ _ _ h1 h2 h3 (by simpa using hc)]; simp
theorem compF_ok (l : Bs) : ∀ e ∈ (compF l).1, e.Ok := by
  unfold compF
  split
  · simp
  · split
    · simp
    · exact compGo_ok _ l (Nat.le_refl _) _ _ (by simp)
/-- How many elements there are, and which errors. -/
theorem compGo_len : ∀ (n : Nat) (l : Bs), l.length ≤ n → ∀ i acc, (compGo 0 l i acc).1.length ≤ acc.length + l.length ∧ (compGo 0 l i acc).2.1 ≤ i + l.length ∧ ((compGo 0 l i acc).2.2 ≠ 0 → (compGo 0 l i acc).1 = []) ∧ 0 ≤ (compGo 0 l i acc).2.2 ∧ (compGo 0 l i acc).2.2 ≤ 6 := by
  intro n
  induction n with
  | zero => intro l h i acc; have : l = [] := List.eq_nil_of_length_eq_zero (by omega); subst this; simp [compGo]
  | succ n ih =>
    intro l h i acc
    cases l with
    | nil => simp [compGo]
    | cons c r =>
      simp at h
      have step : ∀ e : Em, compGo 0 (c :: r) i acc = compGo 0 r (i + 1) (acc ++ [e]) → _ := fun e he => by
        have := ih r h (i + 1) (acc ++ [e])
        rw [← he] at this
        simp at this
        exact (show (compGo 0 (c :: r) i acc).1.length ≤ acc.length + (c :: r).length ∧ (compGo 0 (c :: r) i acc).2.1 ≤ i + (c :: r).length ∧ ((compGo 0 (c :: r) i acc).2.2 ≠ 0 → (compGo 0 (c :: r) i acc).1 = []) ∧ 0 ≤ (compGo 0 (c :: r) i acc).2.2 ∧ (compGo 0 (c :: r) i acc).2.2 ≤ 6 from
          ⟨by simp; omega, by simp; omega, this.2.2.1, this.2.2.2.1, this.2.2.2.2⟩)
      by_cases h1 : c = 63
      · subst h1; exact step _ (compGo_any _ _ _)
      by_cases h2 : c = 42
      · subst h2; exact step _ (compGo_star _ _ _)
      by_cases h3 : c = 91
      · subst h3
        cases hc : classF (91 :: r) with
        | none => rw [compGo_noclass _ _ _ hc]; simp
        | some y =>
          obtain ⟨x, m⟩ := y
          obtain ⟨g1, g2, g3⟩ := classF_range hc
          rw [compGo_class _ _ _ x m hc (by omega) g2]
          have := ih ((91 :: r).drop m) (by simp at g2 ⊢; omega) (i + m) (acc ++ [.cls x])
          simp only [List.length_append, List.length_drop, List.length_cons, List.length_nil] at this g2 ⊢
          exact ⟨by omega, by omega, this.2.2.1, this.2.2.2.1, this.2.2.2.2⟩
      by_cases hc : isChar c = true
      · exact step _ (compGo_lit _ _ _ _ h1 h2 h3 hc)
      · rw [compGo_bad _ _ _ _ h1 h2 h3 (by simpa using hc)]; simp
theorem compF_len (l : Bs) : (compF l).1.length ≤ 80 ∧ (compF l).2.1 ≤ 80 ∧ ((compF l).2.2 ≠ 0 → (compF l).1 = []) ∧ 0 ≤ (compF l).2.2 ∧ (compF l).2.2 ≤ 6 := by
  unfold compF
  split
  · simp
  · split
    · simp
    · have := compGo_len _ l (Nat.le_refl _) 0 []
      simp only [List.length_nil] at this
      exact ⟨by omega, by omega, this.2.2⟩

end Go.Proofs.YtannhfnpigiggaaGreatDoor

namespace Go.Proofs.YtannhfnpigiggaaGreatDoor
set_option linter.unusedSimpArgs false
set_option linter.unusedVariables false

def starM (f : Bs → Bool) : Bs → Bool
  | [] => f []
  | c :: r => f (c :: r) || (isChar c && starM f r)
def oneM (cs : Bs) (f : Bs → Bool) : Bs → Bool
  | [] => false
  | c :: r => cs.contains c && f r
/-- Whether elements match a text. -/
def matchF : List Em → Bs → Bool
  | [] => fun l => l.isEmpty
  | e :: es => if e.isStar then starM (matchF es) else oneM e.chars (matchF es)
def Chars (l : Bs) : Prop := ∀ c ∈ l, isChar c = true
theorem starM_iff (f : Bs → Bool) (l : Bs) : starM f l = true ↔ ∃ u v, l = u ++ v ∧ Chars u ∧ f v = true := by
  induction l with
  | nil =>
    constructor
    · intro h; exact ⟨[], [], rfl, by simp [Chars], h⟩
    · rintro ⟨u, v, h, _, hf⟩
      have : u = [] ∧ v = [] := by simpa using h.symm
      rw [this.2] at hf; exact hf
  | cons c r ih =>
    rw [starM, Bool.or_eq_true, Bool.and_eq_true, ih]
    constructor
    · rintro (h | ⟨hc, u, v, rfl, hu, hf⟩)
      · exact ⟨[], c :: r, rfl, by simp [Chars], h⟩
      · exact ⟨c :: u, v, rfl, by simpa [Chars, hc] using hu, hf⟩
    · rintro ⟨u, v, h, hu, hf⟩
      cases u with
      | nil => left; simp at h; rw [h]; exact hf
      | cons a u =>
        simp at h
        obtain ⟨rfl, rfl⟩ := h
        right
        exact ⟨hu c (by simp), u, v, rfl, fun x hx => hu x (by simp [hx]), hf⟩
theorem oneM_iff (cs : Bs) (f : Bs → Bool) (l : Bs) : oneM cs f l = true ↔ ∃ c r, l = c :: r ∧ c ∈ cs ∧ f r = true := by
  cases l with
  | nil => simp [oneM]
  | cons c r =>
    simp only [oneM, Bool.and_eq_true, List.contains_iff_mem]
    constructor
    · rintro ⟨h1, h2⟩; exact ⟨c, r, rfl, h1, h2⟩
    · rintro ⟨c', r', h, h1, h2⟩
      simp at h; obtain ⟨rfl, rfl⟩ := h; exact ⟨h1, h2⟩
theorem snoc_ind {P : Bs → Prop} (h0 : P []) (hs : ∀ l c, P l → P (l ++ [c])) : ∀ l, P l := by
  suffices h : ∀ (n : Nat) (l : Bs), l.length = n → P l from fun l => h _ l rfl
  intro n
  induction n with
  | zero => intro l h; rw [List.eq_nil_of_length_eq_zero h]; exact h0
  | succ n ih =>
    intro l h
    rcases List.eq_nil_or_concat l with rfl | ⟨l, c, rfl⟩
    · exact h0
    · rw [List.concat_eq_append] at h ⊢
      exact hs l c (ih l (by simpa using h))
theorem matchF_append (a b : List Em) : ∀ l, matchF (a ++ b) l = true ↔ ∃ u v, l = u ++ v ∧ matchF a u = true ∧ matchF b v = true := by
  induction a with
  | nil =>
    intro l
    constructor
    · intro h; exact ⟨[], l, rfl, rfl, h⟩
    · rintro ⟨u, v, rfl, hu, hv⟩
      have : u = [] := by simpa [matchF] using hu
      subst this; exact hv
  | cons e es ih =>
    intro l
    by_cases he : e.isStar = true
    · simp only [List.cons_append, matchF, he, if_true, starM_iff]
      constructor
      · rintro ⟨u, v, rfl, hu, hv⟩
        obtain ⟨x, y, rfl, hx, hy⟩ := (ih v).1 hv
        exact ⟨u ++ x, y, by simp, ⟨u, x, rfl, hu, hx⟩, hy⟩
      · rintro ⟨u, v, rfl, ⟨x, y, rfl, hx, hy⟩, hv⟩
        exact ⟨x, y ++ v, by simp, hx, (ih _).2 ⟨y, v, rfl, hy, hv⟩⟩
    · have he' : e.isStar = false := by simpa using he
      simp only [List.cons_append, matchF, he', Bool.false_eq_true, if_false, oneM_iff]
      constructor
      · rintro ⟨c, r, rfl, hc, hr⟩
        obtain ⟨x, y, rfl, hx, hy⟩ := (ih r).1 hr
        exact ⟨c :: x, y, by simp, ⟨c, x, rfl, hc, hx⟩, hy⟩
      · rintro ⟨u, v, rfl, ⟨c, r, rfl, hc, hr⟩, hv⟩
        exact ⟨c, r ++ v, by simp, hc, (ih _).2 ⟨r, v, rfl, hr, hv⟩⟩
theorem matchF_star1 (e : Em) (he : e.isStar = true) (l : Bs) : matchF [e] l = true ↔ Chars l := by
  simp only [matchF, he, if_true, starM_iff]
  constructor
  · rintro ⟨u, v, rfl, hu, hv⟩
    have : v = [] := by simpa using hv
    subst this; simpa using hu
  · intro h; exact ⟨l, [], by simp, h, rfl⟩
theorem matchF_one1 (e : Em) (he : e.isStar = false) (l : Bs) : matchF [e] l = true ↔ ∃ c, l = [c] ∧ c ∈ e.chars := by
  simp only [matchF, he, Bool.false_eq_true, if_false, oneM_iff]
  constructor
  · rintro ⟨c, r, rfl, hc, hr⟩
    have : r = [] := by simpa using hr
    subst this; exact ⟨c, rfl, hc⟩
  · rintro ⟨c, rfl, hc⟩; exact ⟨c, [], rfl, hc, rfl⟩
theorem match_star_nil (es : List Em) (e : Em) (he : e.isStar = true) : matchF (es ++ [e]) [] = matchF es [] := by
  rw [Bool.eq_iff_iff, matchF_append]
  constructor
  · rintro ⟨u, v, h, hu, hv⟩
    have : u = [] ∧ v = [] := by simpa using h.symm
    rw [this.1] at hu; exact hu
  · intro h; exact ⟨[], [], rfl, h, (matchF_star1 e he _).2 (by simp [Chars])⟩
theorem match_star_snoc (es : List Em) (e : Em) (he : e.isStar = true) (l : Bs) (c : UInt8) : matchF (es ++ [e]) (l ++ [c]) = (matchF es (l ++ [c]) || (isChar c && matchF (es ++ [e]) l)) := by
  rw [Bool.eq_iff_iff, Bool.or_eq_true, Bool.and_eq_true, matchF_append, matchF_append]
  constructor
  · rintro ⟨u, v, h, hu, hv⟩
    rw [matchF_star1 e he] at hv
    rcases List.eq_nil_or_concat v with rfl | ⟨v, d, rfl⟩
    · left; simp at h; rw [h]; exact hu
    · right
      rw [List.concat_eq_append, ← List.append_assoc] at h
      have h1 := List.append_inj_left' h rfl
      have h2 := List.append_inj_right' h rfl
      simp at h2; subst h2
      exact ⟨hv c (by simp), u, v, h1, hu, (matchF_star1 e he _).2 (fun x hx => hv x (by simp [hx]))⟩
  · rintro (h | ⟨hc, u, v, rfl, hu, hv⟩)
    · exact ⟨l ++ [c], [], by simp, h, (matchF_star1 e he _).2 (by simp [Chars])⟩
    · refine ⟨u, v ++ [c], by simp, hu, (matchF_star1 e he _).2 ?_⟩
      rw [matchF_star1 e he] at hv
      intro x hx
      rcases List.mem_append.1 hx with hx | hx
      · exact hv x hx
      · simp at hx; subst hx; exact hc
theorem match_one_nil (es : List Em) (e : Em) (he : e.isStar = false) : matchF (es ++ [e]) [] = false := by
  rw [Bool.eq_false_iff, ne_eq, matchF_append]
  rintro ⟨u, v, h, hu, hv⟩
  obtain ⟨c, rfl, _⟩ := (matchF_one1 e he _).1 hv
  simp at h
theorem match_one_snoc (es : List Em) (e : Em) (he : e.isStar = false) (l : Bs) (c : UInt8) : matchF (es ++ [e]) (l ++ [c]) = (matchF es l && e.chars.contains c) := by
  rw [Bool.eq_iff_iff, Bool.and_eq_true, matchF_append, List.contains_iff_mem]
  constructor
  · rintro ⟨u, v, h, hu, hv⟩
    obtain ⟨d, rfl, hd⟩ := (matchF_one1 e he _).1 hv
    have h1 := List.append_inj_left' h rfl
    have h2 := List.append_inj_right' h rfl
    simp at h2; subst h1 h2
    exact ⟨hu, hd⟩
  · rintro ⟨h1, h2⟩
    exact ⟨l, [c], rfl, h1, (matchF_one1 e he _).2 ⟨c, rfl, h2⟩⟩
theorem match_nil_snoc (l : Bs) (c : UInt8) : matchF [] (l ++ [c]) = false := by simp [matchF]
/-- What is matched is made of name characters. -/
theorem matchF_chars (es : List Em) (hes : ∀ e ∈ es, e.Ok) : ∀ l, matchF es l = true → Chars l := by
  induction es with
  | nil => intro l h; have : l = [] := by simpa [matchF] using h
           subst this; simp [Chars]
  | cons e es ih =>
    intro l h
    have ih' := ih (fun e he => hes e (by simp [he]))
    by_cases he : e.isStar = true
    · simp only [matchF, he, if_true, starM_iff] at h
      obtain ⟨u, v, rfl, hu, hv⟩ := h
      intro x hx
      rcases List.mem_append.1 hx with hx | hx
      · exact hu x hx
      · exact ih' v hv x hx
    · have he' : e.isStar = false := by simpa using he
      simp only [matchF, he', Bool.false_eq_true, if_false, oneM_iff] at h
      obtain ⟨c, r, rfl, hc, hr⟩ := h
      intro x hx
      rcases List.mem_cons.1 hx with rfl | hx
      · exact (hes e (by simp)).char hc
      · exact ih' r hr x hx

/-! The program's way: marked positions. -/
def emAt (es : List Em) (k : Nat) : Em := es.getD k .single
def sprStep (es : List Em) (a : List Bool) (k : Nat) : List Bool := if a.getD k false && (emAt es k).isStar then a.set (k + 1) true else a
def spr (es : List Em) (m : List Bool) (k : Nat) : List Bool := (List.range k).foldl (sprStep es) m
theorem spr_zero (es : List Em) (m : List Bool) : spr es m 0 = m := rfl
theorem spr_succ (es : List Em) (m : List Bool) (k : Nat) : spr es m (k + 1) = sprStep es (spr es m k) k := by
  unfold spr; rw [List.range_succ, List.foldl_append]; rfl
theorem spr_length (es : List Em) (m : List Bool) (k : Nat) : (spr es m k).length = m.length := by
  induction k with
  | zero => rfl
  | succ k ih => rw [spr_succ, sprStep]; split <;> simp [ih]
def nxtStep (es : List Em) (m : List Bool) (c : UInt8) (a : List Bool) (k : Nat) : List Bool :=
  if !m.getD k false || !(emAt es k).chars.contains c then a else if (emAt es k).isStar then a.set k true else a.set (k + 1) true
def nxt (es : List Em) (m : List Bool) (c : UInt8) (k : Nat) : List Bool := (List.range k).foldl (nxtStep es m c) (List.replicate m.length false)
theorem nxt_zero (es : List Em) (m : List Bool) (c : UInt8) : nxt es m c 0 = List.replicate m.length false := rfl
theorem nxt_succ (es : List Em) (m : List Bool) (c : UInt8) (k : Nat) : nxt es m c (k + 1) = nxtStep es m c (nxt es m c k) k := by
  unfold nxt; rw [List.range_succ, List.foldl_append]; rfl
theorem nxt_length (es : List Em) (m : List Bool) (c : UInt8) (k : Nat) : (nxt es m c k).length = m.length := by
  induction k with
  | zero => simp [nxt_zero]
  | succ k ih => rw [nxt_succ, nxtStep]; split <;> (try split) <;> simp [ih]
/-- The marks behind a text. -/
def marks (es : List Em) (l : Bs) : List Bool := l.foldl (fun m c => spr es (nxt es m c es.length) es.length) (spr es (true :: List.replicate es.length false) es.length)
theorem marks_nil (es : List Em) : marks es [] = spr es (true :: List.replicate es.length false) es.length := rfl
theorem marks_snoc (es : List Em) (l : Bs) (c : UInt8) : marks es (l ++ [c]) = spr es (nxt es (marks es l) c es.length) es.length := by
  unfold marks; rw [List.foldl_append]; rfl
theorem marks_length (es : List Em) (l : Bs) : (marks es l).length = es.length + 1 := by
  induction l using snoc_ind with
  | h0 => rw [marks_nil, spr_length]; simp
  | hs l c ih => rw [marks_snoc, spr_length, nxt_length, ih]

theorem getD_set (a : List Bool) (k j : Nat) (h : k < a.length) : (a.set k true).getD j false = (decide (j = k) || a.getD j false) := by
  by_cases e : j = k
  · subst e; simp [List.getD, h]
  · have e' : ¬ k = j := fun h => e h.symm
    simp [List.getD, e, e', List.getElem?_set]
/-- What spreading marks. -/
def clo (es : List Em) (m : List Bool) : Nat → Bool
  | 0 => m.getD 0 false
  | k + 1 => m.getD (k + 1) false || (clo es m k && (emAt es k).isStar)
theorem spr_get (es : List Em) (m : List Bool) (hm : m.length = es.length + 1) : ∀ j, j ≤ es.length → ∀ k, (spr es m j).getD k false = if k ≤ j then clo es m k else m.getD k false := by
  intro j
  induction j with
  | zero =>
    intro _ k
    rw [spr_zero]
    by_cases hk : k = 0
    · subst hk; simp [clo]
    · rw [if_neg (by omega)]
  | succ j ih =>
    intro hj k
    have ih' := ih (by omega)
    rw [spr_succ, sprStep, ih' j, if_pos (Nat.le_refl _)]
    by_cases hs : (clo es m j && (emAt es j).isStar) = true
    · rw [if_pos hs, getD_set _ _ _ (by rw [spr_length]; omega), ih' k]
      by_cases hk : k = j + 1
      · subst hk; simp [clo, hs]
      · simp only [hk, decide_false, Bool.false_or]
        by_cases hk' : k ≤ j
        · rw [if_pos hk', if_pos (by omega)]
        · rw [if_neg hk', if_neg (by omega)]
    · rw [if_neg hs, ih' k]
      by_cases hk : k = j + 1
      · subst hk
        have hs' : (clo es m j && (emAt es j).isStar) = false := by simpa using hs
        rw [if_neg (by omega), if_pos (Nat.le_refl _), clo, hs', Bool.or_false]
      · by_cases hk' : k ≤ j
        · rw [if_pos hk', if_pos (by omega)]
        · rw [if_neg hk', if_neg (by omega)]
/-- What a character marks. -/
def via (es : List Em) (m : List Bool) (c : UInt8) (n k : Nat) : Bool :=
  (decide (k < n) && (m.getD k false && (emAt es k).chars.contains c) && (emAt es k).isStar) ||
  (decide (0 < k) && decide (k ≤ n) && (m.getD (k - 1) false && (emAt es (k - 1)).chars.contains c) && !(emAt es (k - 1)).isStar)
theorem nxt_get (es : List Em) (m : List Bool) (c : UInt8) (hm : m.length = es.length + 1) : ∀ j, j ≤ es.length → ∀ k, (nxt es m c j).getD k false = via es m c j k := by
  intro j
  induction j with
  | zero =>
    intro _ k
    rw [nxt_zero]
    by_cases hk : k = 0
    · subst hk; simp [via, List.getD]; cases m <;> simp
    · have : ¬ (k ≤ 0) := by omega
      simp [via, List.getD, List.getElem?_replicate, this]; split <;> simp
  | succ j ih =>
    intro hj k
    have ih' := ih (by omega)
    have hl := nxt_length es m c j
    rw [nxt_succ, nxtStep]
    by_cases hq : (m.getD j false && (emAt es j).chars.contains c) = true
    · have hq' : (!m.getD j false || !(emAt es j).chars.contains c) = false := by
        rw [← Bool.not_and, hq]; rfl
      rw [if_neg (by rw [hq']; simp)]
      by_cases hs : (emAt es j).isStar = true
      · rw [if_pos hs, getD_set _ _ _ (by omega), ih' k]
        by_cases hk : k = j
        · subst hk
          simp only [via, decide_true, Bool.true_or, hq, hs]
          simp
        · have e1 : decide (k < j + 1) = decide (k < j) := by simp; omega
          have e2 : (decide (0 < k) && decide (k ≤ j + 1) && (m.getD (k - 1) false && (emAt es (k - 1)).chars.contains c) && !(emAt es (k - 1)).isStar) = (decide (0 < k) && decide (k ≤ j) && (m.getD (k - 1) false && (emAt es (k - 1)).chars.contains c) && !(emAt es (k - 1)).isStar) := by
            by_cases hk2 : k = j + 1
            · subst hk2; simp [hs]
            · have : decide (k ≤ j + 1) = decide (k ≤ j) := by simp; omega
              rw [this]
          simp only [via, e1, e2, hk, decide_false, Bool.false_or]
      · have hs' : (emAt es j).isStar = false := by simpa using hs
        rw [if_neg hs, getD_set _ _ _ (by omega), ih' k]
        have e1 : (decide (k < j + 1) && (m.getD k false && (emAt es k).chars.contains c) && (emAt es k).isStar) = (decide (k < j) && (m.getD k false && (emAt es k).chars.contains c) && (emAt es k).isStar) := by
          by_cases hk2 : k = j
          · subst hk2; simp [hs']
          · have : decide (k < j + 1) = decide (k < j) := by simp; omega
            rw [this]
        by_cases hk : k = j + 1
        · subst hk
          simp only [via, decide_true, Bool.true_or, Nat.add_sub_cancel, hq, hs']
          simp
        · have : decide (k ≤ j + 1) = decide (k ≤ j) := by simp; omega
          simp only [via, e1, this, hk, decide_false, Bool.false_or]
    · have hq0 : (m.getD j false && (emAt es j).chars.contains c) = false := by simpa using hq
      have hq' : (!m.getD j false || !(emAt es j).chars.contains c) = true := by
        rw [← Bool.not_and, hq0]; rfl
      rw [if_pos hq', ih' k]
      have e1 : (decide (k < j + 1) && (m.getD k false && (emAt es k).chars.contains c) && (emAt es k).isStar) = (decide (k < j) && (m.getD k false && (emAt es k).chars.contains c) && (emAt es k).isStar) := by
        by_cases hk2 : k = j
        · subst hk2; rw [hq0]; simp
        · have : decide (k < j + 1) = decide (k < j) := by simp; omega
          rw [this]
      have e2 : (decide (0 < k) && decide (k ≤ j + 1) && (m.getD (k - 1) false && (emAt es (k - 1)).chars.contains c) && !(emAt es (k - 1)).isStar) = (decide (0 < k) && decide (k ≤ j) && (m.getD (k - 1) false && (emAt es (k - 1)).chars.contains c) && !(emAt es (k - 1)).isStar) := by
        by_cases hk2 : k = j + 1
        · subst hk2; rw [Nat.add_sub_cancel, hq0]; simp
        · have : decide (k ≤ j + 1) = decide (k ≤ j) := by simp; omega
          rw [this]
      simp only [via, e1, e2]
/-- What a mark says. -/
def reachF (es : List Em) (l : Bs) (k : Nat) : Bool := matchF (es.take (if k < es.length ∧ (emAt es k).isStar = true then k + 1 else k)) l
theorem take_em (es : List Em) (k : Nat) (h : k < es.length) : es.take (k + 1) = es.take k ++ [emAt es k] := by
  rw [List.take_succ_eq_append_getElem h]; simp [emAt, List.getD, h]
theorem reach_at (es : List Em) (l : Bs) (k : Nat) (h : k < es.length) (hs : (emAt es k).isStar = true) : reachF es l k = matchF (es.take (k + 1)) l := by
  unfold reachF; rw [if_pos ⟨h, hs⟩]
theorem reach_no (es : List Em) (l : Bs) (k : Nat) (hs : ¬ (k < es.length ∧ (emAt es k).isStar = true)) : reachF es l k = matchF (es.take k) l := by
  unfold reachF; rw [if_neg hs]
theorem reach_nil (es : List Em) (m : List Bool) (hm0 : m.getD 0 false = true) (hm : ∀ k, m.getD (k + 1) false = false) : ∀ k, k ≤ es.length → clo es m k = reachF es [] k := by
  have base : ∀ k, reachF es [] k = matchF (es.take k) [] := fun k => by
    by_cases h : k < es.length ∧ (emAt es k).isStar = true
    · rw [reach_at es _ k h.1 h.2, take_em es k h.1, match_star_nil _ _ h.2]
    · rw [reach_no es _ k h]
  intro k
  induction k with
  | zero => intro _; rw [base]; simp [clo, List.getD] at hm0 ⊢; rw [hm0]; rfl
  | succ k ih =>
    intro hk
    rw [clo, hm, Bool.false_or, ih (by omega), base, base, take_em es k (by omega)]
    rcases hs : (emAt es k).isStar with _ | _
    · rw [match_one_nil _ _ hs]; simp
    · rw [match_star_nil _ _ hs]; simp
theorem reach_snoc (es : List Em) (hes : ∀ e ∈ es, e.Ok) (m a : List Bool) (l : Bs) (c : UInt8) (hm : ∀ k, k ≤ es.length → m.getD k false = reachF es l k) (ha : ∀ k, a.getD k false = via es m c es.length k) :
    ∀ k, k ≤ es.length → clo es a k = reachF es (l ++ [c]) k := by
  have starhas : ∀ e : Em, e.isStar = true → e.chars.contains c = isChar c := fun e he => by
    cases e <;> simp [Em.isStar] at he
    exact nameC_has c
  -- what the elements before k match
  have main : ∀ k, k ≤ es.length → (clo es a k = true ↔ (matchF (es.take k) (l ++ [c]) = true ∨ (k < es.length ∧ (emAt es k).isStar = true ∧ isChar c = true ∧ reachF es l k = true))) ∧ (reachF es (l ++ [c]) k = true ↔ (matchF (es.take k) (l ++ [c]) = true ∨ (k < es.length ∧ (emAt es k).isStar = true ∧ isChar c = true ∧ reachF es l k = true))) := by
    intro k
    have R : k ≤ es.length → (reachF es (l ++ [c]) k = true ↔ (matchF (es.take k) (l ++ [c]) = true ∨ (k < es.length ∧ (emAt es k).isStar = true ∧ isChar c = true ∧ reachF es l k = true))) := by
      intro hk
      by_cases h : k < es.length ∧ (emAt es k).isStar = true
      · rw [reach_at es _ k h.1 h.2, reach_at es _ k h.1 h.2, take_em es k h.1, match_star_snoc _ _ h.2]
        simp [h.1, h.2]
      · rw [reach_no es _ k h]
        constructor
        · intro h; exact .inl h
        · rintro (h' | ⟨h1, h2, _⟩)
          · exact h'
          · exact absurd ⟨h1, h2⟩ h
    induction k with
    | zero =>
      intro hk
      refine ⟨?_, R hk⟩
      rw [clo, ha, List.take_zero, match_nil_snoc]
      simp only [via, Nat.lt_irrefl, decide_false, Bool.false_and, Bool.or_false, Bool.and_eq_true, decide_eq_true_eq, Bool.false_eq_true, false_or]
      constructor
      · rintro ⟨⟨h1, h2, h3⟩, h4⟩
        rw [starhas _ h4] at h3
        rw [hm 0 (by omega)] at h2
        exact ⟨h1, h4, h3, h2⟩
      · rintro ⟨h1, h2, h3, h4⟩
        exact ⟨⟨h1, by rw [hm 0 (by omega)]; exact h4, by rw [starhas _ h2]; exact h3⟩, h2⟩
    | succ k ih =>
      intro hk
      refine ⟨?_, R hk⟩
      have ih' := ih (fun _ => (by
        by_cases h : k < es.length ∧ (emAt es k).isStar = true
        · rw [reach_at es _ k h.1 h.2, reach_at es _ k h.1 h.2, take_em es k h.1, match_star_snoc _ _ h.2]
          simp [h.1, h.2]
        · rw [reach_no es _ k h]
          constructor
          · intro h; exact .inl h
          · rintro (h' | ⟨h1, h2, _⟩)
            · exact h'
            · exact absurd ⟨h1, h2⟩ h)) (by omega)
      have hkl : k < es.length := by omega
      rw [clo, ha, Bool.or_eq_true, Bool.and_eq_true]
      have hM : matchF (es.take (k + 1)) (l ++ [c]) = true ↔ ((emAt es k).isStar = true ∧ clo es a k = true) ∨ ((emAt es k).isStar = false ∧ reachF es l k = true ∧ (emAt es k).chars.contains c = true) := by
        rcases hs : (emAt es k).isStar with _ | _
        · rw [take_em es k hkl, match_one_snoc _ _ hs, Bool.and_eq_true, reach_no es l k (by simp [hs])]
          simp
        · rw [← reach_at es _ k hkl hs, ih'.2, ih'.1]
          simp
      rw [hM]
      have hV : via es a c es.length (k + 1) = true ∨ True := .inr trivial
      have hvia : via es m c es.length (k + 1) = true ↔ (k + 1 < es.length ∧ (emAt es (k + 1)).isStar = true ∧ isChar c = true ∧ reachF es l (k + 1) = true) ∨ ((emAt es k).isStar = false ∧ reachF es l k = true ∧ (emAt es k).chars.contains c = true) := by
        simp only [via, Nat.add_sub_cancel, Bool.or_eq_true, Bool.and_eq_true, decide_eq_true_eq, Bool.not_eq_true']
        constructor
        · rintro (⟨⟨h1, h2, h3⟩, h4⟩ | ⟨⟨⟨h0, h1⟩, h2, h3⟩, h4⟩)
          · left
            rw [starhas _ h4] at h3
            rw [hm _ hk] at h2
            exact ⟨h1, h4, h3, h2⟩
          · right
            rw [hm _ (by omega)] at h2
            exact ⟨h4, h2, h3⟩
        · rintro (⟨h1, h2, h3, h4⟩ | ⟨h1, h2, h3⟩)
          · exact .inl ⟨⟨h1, by rw [hm _ hk]; exact h4, by rw [starhas _ h2]; exact h3⟩, h2⟩
          · exact .inr ⟨⟨⟨by omega, by omega⟩, by rw [hm _ (by omega)]; exact h2, h3⟩, h1⟩
      rw [hvia]
      constructor
      · rintro ((h | h) | ⟨h1, h2⟩)
        · exact .inr h
        · exact .inl (.inr h)
        · exact .inl (.inl ⟨h2, h1⟩)
      · rintro ((⟨h1, h2⟩ | h) | h)
        · exact .inr ⟨h2, h1⟩
        · exact .inl (.inr h)
        · exact .inl (.inl h)
  intro k hk
  rw [Bool.eq_iff_iff, (main k hk).1, (main k hk).2]
theorem marks_get (es : List Em) (hes : ∀ e ∈ es, e.Ok) (l : Bs) : ∀ k, k ≤ es.length → (marks es l).getD k false = reachF es l k := by
  induction l using snoc_ind with
  | h0 =>
    intro k hk
    rw [marks_nil, spr_get es _ (by simp) _ (Nat.le_refl _), if_pos hk]
    refine reach_nil es _ (by simp) (fun k => ?_) k hk
    simp [List.getD, List.getElem?_replicate]; split <;> simp
  | hs l c ih =>
    intro k hk
    rw [marks_snoc, spr_get es _ (by rw [nxt_length, marks_length]) _ (Nat.le_refl _), if_pos hk]
    exact reach_snoc es hes (marks es l) _ l c ih (nxt_get es _ c (marks_length es l) _ (Nat.le_refl _)) k hk
theorem marks_match (es : List Em) (hes : ∀ e ∈ es, e.Ok) (l : Bs) : (marks es l).getD es.length false = matchF es l := by
  rw [marks_get es hes l _ (Nat.le_refl _), reach_no es l _ (by omega), List.take_length]
/-- Whether elements match nothing. -/
def emptyF (es : List Em) : Bool := es.any fun e => e.chars.isEmpty
theorem emptyF_match (es : List Em) (l : Bs) (h : matchF es l = true) : emptyF es = false := by
  induction es generalizing l with
  | nil => rfl
  | cons e es ih =>
    by_cases he : e.isStar = true
    · simp only [matchF, he, if_true, starM_iff] at h
      obtain ⟨u, v, rfl, hu, hv⟩ := h
      have := ih v hv
      have hc : e.chars.isEmpty = false := by cases e <;> simp [Em.isStar] at he; rfl
      simp only [emptyF, List.any_cons, hc, Bool.false_or]; exact this
    · have he' : e.isStar = false := by simpa using he
      simp only [matchF, he', Bool.false_eq_true, if_false, oneM_iff] at h
      obtain ⟨c, r, rfl, hc, hr⟩ := h
      have := ih r hr
      have hc : e.chars.isEmpty = false := by cases hh : e.chars <;> simp_all
      simp only [emptyF, List.any_cons, hc, Bool.false_or]; exact this
end Go.Proofs.YtannhfnpigiggaaGreatDoor

namespace Go.Proofs.YtannhfnpigiggaaGreatDoor
set_option linter.unusedSimpArgs false
set_option linter.unusedVariables false

/-- How long an encoding is that begins with c. -/
def lenU (c : UInt8) : Nat := if 240 ≤ c.toNat ∧ c.toNat ≤ 244 then 4 else if 224 ≤ c.toNat ∧ c.toNat ≤ 239 then 3 else if 194 ≤ c.toNat ∧ c.toNat ≤ 223 then 2 else if c.toNat ≤ 127 then 1 else 0
def lowU (f : UInt8) (i : Nat) : Nat := if i = 1 then (if f = 224 then 160 else if f = 240 then 144 else 128) else 128
def highU (f : UInt8) (i : Nat) : Nat := if i = 1 then (if f = 237 then 159 else if f = 244 then 143 else 191) else 191
/-- Whether c can stand at place i behind f. -/
def contU (f : UInt8) (i : Nat) (c : UInt8) : Bool := decide (lowU f i ≤ c.toNat) && decide (c.toNat ≤ highU f i)
/-- How many of the bytes from place i on continue. -/
def runU (f : UInt8) (size : Nat) : Nat → List UInt8 → Nat
  | _, [] => 0
  | i, c :: r => if i < size ∧ contU f i c = true then runU f size (i + 1) r + 1 else 0
def measU : List UInt8 → Nat
  | [] => 0
  | f :: r => if lenU f = 0 then 0 else runU f (lenU f) 1 r + 1
def leadU (c : UInt8) : Nat := if c.toNat < 128 then c.toNat else if c.toNat < 224 then c.toNat - 192 else if c.toNat < 240 then c.toNat - 224 else c.toNat - 240
def foldU (v : Nat) (l : List UInt8) : Nat := l.foldl (fun v c => 64 * v + (c.toNat - 128)) v
/-- The code point of an encoding. -/
def valU : List UInt8 → Nat
  | [] => 0
  | f :: r => foldU (leadU f) r
/-- The first code point, its length, and the error. -/
def decU (l : List UInt8) : Nat × Nat × Int :=
  match l with
  | [] => (0, 0, 1)
  | f :: _ => if measU l = lenU f ∧ lenU f ≠ 0 then (valU (l.take (measU l)), measU l, 0) else if measU l = 0 then (0, 0, 6) else if measU l = l.length then (0, 0, 23) else (0, 0, 3)
theorem runU_le (f : UInt8) (size : Nat) : ∀ (l : List UInt8) (i : Nat), runU f size i l ≤ l.length ∧ runU f size i l ≤ size - i
  | [], _ => by simp [runU]
  | c :: r, i => by
    rw [runU]
    have := runU_le f size r (i + 1)
    split
    · simp; omega
    · simp
theorem lenU_le (c : UInt8) : lenU c ≤ 4 := by unfold lenU; split <;> (try split) <;> (try split) <;> (try split) <;> omega
theorem measU_le (l : List UInt8) : measU l ≤ l.length ∧ measU l ≤ 4 := by
  cases l with
  | nil => simp [measU]
  | cons f r =>
    rw [measU]
    have := runU_le f (lenU f) r 1
    have := lenU_le f
    split
    · simp
    · simp; omega
theorem decU_ok {l : List UInt8} (h : (decU l).2.2 = 0) : 1 ≤ (decU l).2.1 ∧ (decU l).2.1 ≤ l.length := by
  cases l with
  | nil => simp [decU] at h
  | cons f r =>
    have hm := measU_le (f :: r)
    unfold decU at h ⊢
    by_cases h1 : measU (f :: r) = lenU f ∧ lenU f ≠ 0
    · simp only [if_pos h1]; omega
    · simp only [if_neg h1] at h
      exfalso
      split at h
      · simp at h
      · split at h <;> simp at h
theorem decU_err (l : List UInt8) : 0 ≤ (decU l).2.2 ∧ (decU l).2.2 ≤ 23 := by
  unfold decU
  cases l with
  | nil => simp
  | cons f r => dsimp only; split <;> (try split) <;> (try split) <;> simp
/-- Whether a code point is a control character. -/
def ctlU (r : Nat) : Bool := decide (r ≤ 31) || (decide (127 ≤ r) && decide (r ≤ 159)) || r == 8232 || r == 8233
/-- Where the first bad code point of a line lies, from place i on: the place, and what it is: a control character (none), or an error. -/
def badU : Nat → List UInt8 → Nat → Option (Nat × Option Int)
  | 0, _, _ => none
  | n + 1, l, i => match l with
    | [] => none
    | _ :: _ => if (decU l).2.2 ≠ 0 then some (i, some (decU l).2.2) else if ctlU (decU l).1 && (decU l).1 != 9 then some (i, none) else badU n (l.drop (decU l).2.1) (i + (decU l).2.1)
def badF (l : List UInt8) : Int := match badU (l.length + 1) l 0 with
  | none => -1
  | some x => (x.1 : Int)
/-- All code points and their offsets, up to the first error. -/
def allU : Nat → List UInt8 → Nat → List (Nat × Nat) × Option (Nat × Int)
  | 0, _, _ => ([], none)
  | n + 1, l, i => match l with
    | [] => ([], none)
    | _ :: _ => if (decU l).2.2 ≠ 0 then ([], some (i, (decU l).2.2)) else
        let x := allU n (l.drop (decU l).2.1) (i + (decU l).2.1)
        ((i, (decU l).1) :: x.1, x.2)
def hitU (r : Nat) : Bool := ctlU r && r != 9
theorem badU_all : ∀ (n : Nat) (l : List UInt8) (i : Nat), badU n l i = match (allU n l i).1.find? (fun x => hitU x.2) with
    | some x => some (x.1, none)
    | none => match (allU n l i).2 with
      | some y => some (y.1, some y.2)
      | none => none
  | 0, l, i => by simp [badU, allU]
  | n + 1, [], i => by simp [badU, allU]
  | n + 1, c :: r, i => by
    rw [badU, allU]
    by_cases h : (decU (c :: r)).2.2 ≠ 0
    · rw [if_pos h, if_pos h]; simp
    · rw [if_neg h, if_neg h]
      dsimp only
      rw [List.find?_cons]
      by_cases h2 : hitU (decU (c :: r)).1 = true
      · have h2' := h2
        unfold hitU at h2'
        rw [if_pos h2']; simp [h2]
      · have h2' := h2
        unfold hitU at h2'
        rw [if_neg h2', badU_all n]
        simp [h2]
end Go.Proofs.YtannhfnpigiggaaGreatDoor

namespace Go.Proofs.YtannhfnpigiggaaGreatDoor
set_option linter.unusedSimpArgs false
set_option linter.unusedVariables false

def leadN (c : UInt8) : Nat := if c.toNat < 128 then 1 else if 192 ≤ c.toNat ∧ c.toNat < 224 then 2 else if 224 ≤ c.toNat ∧ c.toNat < 240 then 3 else if 240 ≤ c.toNat ∧ c.toNat < 248 then 4 else 0
def leadV (c : UInt8) : Nat := if c.toNat < 128 then c.toNat else if 192 ≤ c.toNat ∧ c.toNat < 224 then c.toNat - 192 else if 224 ≤ c.toNat ∧ c.toNat < 240 then c.toNat - 224 else if 240 ≤ c.toNat ∧ c.toNat < 248 then c.toNat - 240 else 0
def leastU (n : Nat) : Nat := if n = 2 then 128 else if n = 3 then 2048 else if n = 4 then 65536 else 0
def mostU (n : Nat) : Nat := if n = 1 then 127 else if n = 2 then 2047 else if n = 3 then 65535 else if n = 4 then 1114111 else 0
/-- The value of the bytes behind the first; none: a byte that does not continue. -/
def contR (v : Nat) : List UInt8 → Option Nat
  | [] => some v
  | c :: r => if c.toNat < 128 ∨ 191 < c.toNat then none else contR (64 * v + (c.toNat - 128)) r
def lowR : Nat → Nat → Nat
  | 0, v => v
  | k + 1, v => lowR k (64 * v)
def highR : Nat → Nat → Nat
  | 0, v => v
  | k + 1, v => highR k (64 * v + 63)
def okR (n m v : Nat) : Bool :=
  !((decide (55296 ≤ max (lowR (n - m) v) (leastU n)) && decide (min (highR (n - m) v) (mostU n) ≤ 57343)) || decide (min (highR (n - m) v) (mostU n) < max (lowR (n - m) v) (leastU n)))
def begR : List UInt8 → Option (Nat × Nat)
  | [] => none
  | f :: r => if leadN f = 0 ∨ leadN f < r.length + 1 then none else match contR (leadV f) r with
    | none => none
    | some v => if okR (leadN f) (r.length + 1) v then some (leadN f, v) else none
def firstR (l : List UInt8) : Nat × Nat × Int := match begR (l.take 1) with
  | none => (0, 0, 6)
  | some x => if x.1 ≤ l.length then match begR (l.take x.1) with
      | some y => (y.2, x.1, 0)
      | none => (0, 0, 3)
    else match begR l with
      | some _ => (0, 0, 23)
      | none => (0, 0, 3)
/-- The four classes of a first byte. -/
theorem first_cases (a : UInt8) : (lenU a = 0 ∧ (128 ≤ a.toNat ∧ a.toNat < 194 ∨ 245 ≤ a.toNat)) ∨ (lenU a = 1 ∧ a.toNat < 128) ∨ (lenU a = 2 ∧ 194 ≤ a.toNat ∧ a.toNat < 224) ∨ (lenU a = 3 ∧ 224 ≤ a.toNat ∧ a.toNat < 240) ∨ (lenU a = 4 ∧ 240 ≤ a.toNat ∧ a.toNat < 245) := by
  unfold lenU
  have := a.toNat_lt
  split
  · omega
  · split
    · omega
    · split
      · omega
      · split <;> omega
theorem beg1_no {a : UInt8} (h : 128 ≤ a.toNat ∧ a.toNat < 194 ∨ 245 ≤ a.toNat) : begR [a] = none := by
  have ha := a.toNat_lt
  rw [begR]
  by_cases h0 : leadN a = 0 ∨ leadN a < ([] : List UInt8).length + 1
  · rw [if_pos h0]
  · rw [if_neg h0]
    simp only [contR]
    have h1 : okR (leadN a) (([] : List UInt8).length + 1) (leadV a) = false := by
      have e : (192 ≤ a.toNat ∧ a.toNat < 194) ∨ (245 ≤ a.toNat ∧ a.toNat < 248) := by
        unfold leadN at h0
        simp only [List.length_nil] at h0
        split at h0 <;> (try split at h0) <;> (try split at h0) <;> (try split at h0) <;> omega
      rcases e with e | e
      · have hn : leadN a = 2 := by unfold leadN; rw [if_neg (by omega), if_pos (by omega)]
        have hv : leadV a = a.toNat - 192 := by unfold leadV; rw [if_neg (by omega), if_pos (by omega)]
        rw [hn, hv]; simp [okR, lowR, highR, leastU, mostU]; omega
      · have hn : leadN a = 4 := by unfold leadN; rw [if_neg (by omega), if_neg (by omega), if_neg (by omega), if_pos (by omega)]
        have hv : leadV a = a.toNat - 240 := by unfold leadV; rw [if_neg (by omega), if_neg (by omega), if_neg (by omega), if_pos (by omega)]
        rw [hn, hv]; simp [okR, lowR, highR, leastU, mostU]; omega
    exact if_neg (by rw [h1]; decide)
theorem lead_is {a : UInt8} (h : lenU a ≠ 0) : leadN a = lenU a ∧ leadV a = leadU a := by
  have ha := a.toNat_lt
  rcases first_cases a with ⟨e, _⟩ | ⟨e, h1⟩ | ⟨e, h1, h2⟩ | ⟨e, h1, h2⟩ | ⟨e, h1, h2⟩
  · exact absurd e h
  · rw [e]; unfold leadN leadV leadU
    exact ⟨by rw [if_pos h1], by rw [if_pos h1, if_pos h1]⟩
  · rw [e]; unfold leadN leadV leadU
    exact ⟨by rw [if_neg (by omega), if_pos (by omega)], by rw [if_neg (by omega), if_pos (by omega), if_neg (by omega), if_pos (by omega)]⟩
  · rw [e]; unfold leadN leadV leadU
    exact ⟨by rw [if_neg (by omega), if_neg (by omega), if_pos (by omega)], by rw [if_neg (by omega), if_neg (by omega), if_pos (by omega), if_neg (by omega), if_neg (by omega), if_pos (by omega)]⟩
  · rw [e]; unfold leadN leadV leadU
    exact ⟨by rw [if_neg (by omega), if_neg (by omega), if_neg (by omega), if_pos (by omega)], by rw [if_neg (by omega), if_neg (by omega), if_neg (by omega), if_pos (by omega), if_neg (by omega), if_neg (by omega), if_neg (by omega)]⟩
theorem leadU_of {a : UInt8} : (a.toNat < 128 → leadU a = a.toNat) ∧ (128 ≤ a.toNat → a.toNat < 224 → leadU a = a.toNat - 192) ∧ (224 ≤ a.toNat → a.toNat < 240 → leadU a = a.toNat - 224) ∧ (240 ≤ a.toNat → leadU a = a.toNat - 240) := by
  unfold leadU
  exact ⟨fun h => by rw [if_pos h], fun h g => by rw [if_neg (by omega), if_pos g], fun h g => by rw [if_neg (by omega), if_neg (by omega), if_pos g], fun h => by rw [if_neg (by omega), if_neg (by omega), if_neg (by omega)]⟩
theorem cont_rest {f c : UInt8} {i : Nat} (hi : i ≠ 1) : contU f i c = decide (128 ≤ c.toNat ∧ c.toNat ≤ 191) := by
  unfold contU lowU highU; rw [if_neg hi, if_neg hi, Bool.eq_iff_iff]; simp
theorem begR_eq {f : UInt8} {r : List UInt8} (h : lenU f ≠ 0) : begR (f :: r) = if lenU f < r.length + 1 then none else match contR (leadU f) r with
    | none => none
    | some v => if okR (lenU f) (r.length + 1) v then some (lenU f, v) else none := by
  obtain ⟨h1, h2⟩ := lead_is h
  rw [begR, h1, h2]
  by_cases g : lenU f < r.length + 1
  · rw [if_pos (.inr g), if_pos g]
  · rw [if_neg (by omega), if_neg g]
theorem beg1 {a : UInt8} (h : lenU a ≠ 0) : begR [a] = some (lenU a, leadU a) := by
  rw [begR_eq h, if_neg (by simp; omega)]
  simp only [contR, List.length_nil]
  have hk : okR (lenU a) (0 + 1) (leadU a) = true := by
    obtain ⟨u1, u2, u3, u4⟩ := leadU_of (a := a)
    rcases first_cases a with ⟨e, _⟩ | ⟨e, h1⟩ | ⟨e, h1, h2⟩ | ⟨e, h1, h2⟩ | ⟨e, h1, h2⟩
    · exact absurd e h
    · rw [e, u1 h1]; simp [okR, lowR, highR, leastU, mostU]; omega
    · rw [e, u2 (by omega) h2]; simp [okR, lowR, highR, leastU, mostU]; omega
    · rw [e, u3 h1 h2]; simp [okR, lowR, highR, leastU, mostU]; omega
    · rw [e, u4 h1]; simp [okR, lowR, highR, leastU, mostU]; omega
  exact if_pos hk
theorem ea {a : UInt8} {n : Nat} (hn : n < 256) : (a = UInt8.ofNat n) ↔ a.toNat = n := by
  rw [← UInt8.toNat_inj, UInt8.toNat_ofNat', Nat.mod_eq_of_lt hn]
theorem cont1_iff (a b : UInt8) : contU a 1 b = true ↔ (128 ≤ b.toNat ∧ b.toNat ≤ 191 ∧ (a.toNat = 224 → 160 ≤ b.toNat) ∧ (a.toNat = 237 → b.toNat ≤ 159) ∧ (a.toNat = 240 → 144 ≤ b.toNat) ∧ (a.toNat = 244 → b.toNat ≤ 143)) := by
  have e224 : (a = 224) ↔ a.toNat = 224 := ea (n := 224) (by omega)
  have e237 : (a = 237) ↔ a.toNat = 237 := ea (n := 237) (by omega)
  have e240 : (a = 240) ↔ a.toNat = 240 := ea (n := 240) (by omega)
  have e244 : (a = 244) ↔ a.toNat = 244 := ea (n := 244) (by omega)
  unfold contU lowU highU
  simp only [if_true, e224, e237, e240, e244, Bool.and_eq_true, decide_eq_true_eq]
  by_cases h1 : a.toNat = 224
  · simp [h1]; omega
  by_cases h2 : a.toNat = 237
  · simp [h2]; omega
  by_cases h3 : a.toNat = 240
  · simp [h3]; omega
  by_cases h4 : a.toNat = 244
  · simp [h4]; omega
  simp [h1, h2, h3, h4]
theorem cont1_range {a b : UInt8} (h : contU a 1 b = true) : 128 ≤ b.toNat ∧ b.toNat ≤ 191 ∧ (a.toNat = 224 → 160 ≤ b.toNat) ∧ (a.toNat = 237 → b.toNat ≤ 159) ∧ (a.toNat = 240 → 144 ≤ b.toNat) ∧ (a.toNat = 244 → b.toNat ≤ 143) := (cont1_iff a b).1 h
theorem beg2 {a b : UInt8} (h : 2 ≤ lenU a) : begR [a, b] = if contU a 1 b then some (lenU a, 64 * leadU a + (b.toNat - 128)) else none := by
  have hb := b.toNat_lt
  rw [begR_eq (by omega), if_neg (by simp; omega)]
  simp only [contR, List.length_cons, List.length_nil]
  obtain ⟨u1, u2, u3, u4⟩ := leadU_of (a := a)
  by_cases hc : b.toNat < 128 ∨ 191 < b.toNat
  · rw [if_pos hc, if_neg (by rw [cont1_iff]; omega)]
  · rw [if_neg hc]
    have hk : okR (lenU a) (0 + 1 + 1) (64 * leadU a + (b.toNat - 128)) = contU a 1 b := by
      rw [Bool.eq_iff_iff, cont1_iff]
      rcases first_cases a with ⟨e, _⟩ | ⟨e, h1⟩ | ⟨e, h1, h2⟩ | ⟨e, h1, h2⟩ | ⟨e, h1, h2⟩
      · omega
      · omega
      · rw [e, u2 (by omega) h2]; simp [okR, lowR, highR, leastU, mostU]; omega
      · rw [e, u3 h1 h2]; simp [okR, lowR, highR, leastU, mostU]; omega
      · rw [e, u4 h1]; simp [okR, lowR, highR, leastU, mostU]; omega
    simp only [hk]
theorem beg3 {a b c : UInt8} (h : 3 ≤ lenU a) (hb : contU a 1 b = true) : begR [a, b, c] = if contU a 2 c then some (lenU a, 64 * (64 * leadU a + (b.toNat - 128)) + (c.toNat - 128)) else none := by
  rw [begR_eq (by omega), if_neg (by simp; omega)]
  obtain ⟨b1, b2, b3, b4, b5, b6⟩ := cont1_range hb
  simp only [contR, List.length_cons, List.length_nil]
  rw [if_neg (by omega), cont_rest (by omega)]
  obtain ⟨u1, u2, u3, u4⟩ := leadU_of (a := a)
  by_cases hc : c.toNat < 128 ∨ 191 < c.toNat
  · rw [if_pos hc, if_neg (by simp; omega)]
  · rw [if_neg hc, if_pos (by simp; omega)]
    have hk : okR (lenU a) (0 + 1 + 1 + 1) (64 * (64 * leadU a + (b.toNat - 128)) + (c.toNat - 128)) = true := by
      rcases first_cases a with ⟨e, _⟩ | ⟨e, h1⟩ | ⟨e, h1, h2⟩ | ⟨e, h1, h2⟩ | ⟨e, h1, h2⟩
      · omega
      · omega
      · omega
      · rw [e, u3 h1 h2]; simp [okR, lowR, highR, leastU, mostU]; omega
      · rw [e, u4 h1]; simp [okR, lowR, highR, leastU, mostU]; omega
    exact if_pos hk
theorem beg4 {a b c d : UInt8} (h : lenU a = 4) (hb : contU a 1 b = true) (hc : contU a 2 c = true) : begR [a, b, c, d] = if contU a 3 d then some (4, 64 * (64 * (64 * leadU a + (b.toNat - 128)) + (c.toNat - 128)) + (d.toNat - 128)) else none := by
  rw [begR_eq (by omega), if_neg (by simp; omega)]
  obtain ⟨b1, b2, b3, b4, b5, b6⟩ := cont1_range hb
  rw [cont_rest (by omega)] at hc
  simp only [decide_eq_true_eq] at hc
  simp only [contR, List.length_cons, List.length_nil]
  rw [if_neg (by omega), if_neg (by omega), cont_rest (by omega)]
  obtain ⟨u1, u2, u3, u4⟩ := leadU_of (a := a)
  by_cases hd : d.toNat < 128 ∨ 191 < d.toNat
  · rw [if_pos hd, if_neg (by simp; omega)]
  · rw [if_neg hd, if_pos (by simp; omega)]
    have hk : okR (lenU a) (0 + 1 + 1 + 1 + 1) (64 * (64 * (64 * leadU a + (b.toNat - 128)) + (c.toNat - 128)) + (d.toNat - 128)) = true := by
      rcases first_cases a with ⟨e, _⟩ | ⟨e, h1⟩ | ⟨e, h1, h2⟩ | ⟨e, h1, h2⟩ | ⟨e, h1, h2⟩
      · omega
      · omega
      · omega
      · omega
      · rw [e, u4 h1]; simp [okR, lowR, highR, leastU, mostU]; omega
    rw [h] at hk ⊢
    exact if_pos hk
theorem run_stop (f : UInt8) (size i : Nat) (l : List UInt8) (h : size ≤ i) : runU f size i l = 0 := by
  cases l with
  | nil => rfl
  | cons c r => rw [runU, if_neg (by omega)]
theorem first_0 {a : UInt8} {r : List UInt8} (h : lenU a = 0) : firstR (a :: r) = decU (a :: r) := by
  have h1 : begR [a] = none := beg1_no (by
    rcases first_cases a with ⟨_, e⟩ | ⟨e, _⟩ | ⟨e, _⟩ | ⟨e, _⟩ | ⟨e, _⟩ <;> omega)
  simp [firstR, h1, decU, measU, h]
theorem first_1 {a : UInt8} {r : List UInt8} (h : lenU a = 1) : firstR (a :: r) = decU (a :: r) := by
  have h1 : begR [a] = some (1, leadU a) := by rw [beg1 (by omega), h]
  have h2 : measU (a :: r) = 1 := by rw [measU, if_neg (by omega), h, run_stop _ _ _ _ (Nat.le_refl _)]
  simp [firstR, h1, decU, h2, h, valU, foldU]
theorem first_2 {a : UInt8} {r : List UInt8} (h : lenU a = 2) : firstR (a :: r) = decU (a :: r) := by
  have h1 : begR [a] = some (2, leadU a) := by rw [beg1 (by omega), h]
  cases r with
  | nil => simp [firstR, h1, decU, measU, runU, h]
  | cons b s =>
    have h2 := beg2 (a := a) (b := b) (by omega)
    rw [h] at h2
    rcases hb : contU a 1 b with _ | _
    · rw [hb, if_neg (by simp)] at h2
      have h3 : measU (a :: b :: s) = 1 := by rw [measU, if_neg (by omega), h, runU, if_neg (by simp [hb])]
      simp [firstR, h1, h2, decU, h3, h]
    · rw [hb, if_pos rfl] at h2
      have h3 : measU (a :: b :: s) = 2 := by rw [measU, if_neg (by omega), h, runU, if_pos (by simp [hb]), run_stop _ _ _ _ (by omega)]
      simp [firstR, h1, h2, decU, h3, h, valU, foldU]
theorem first_3 {a : UInt8} {r : List UInt8} (h : lenU a = 3) : firstR (a :: r) = decU (a :: r) := by
  have h1 : begR [a] = some (3, leadU a) := by rw [beg1 (by omega), h]
  cases r with
  | nil => simp [firstR, h1, decU, measU, runU, h]
  | cons b s =>
    have h2 := beg2 (a := a) (b := b) (by omega)
    rw [h] at h2
    rcases hb : contU a 1 b with _ | _
    · rw [hb, if_neg (by simp)] at h2
      have h3 : measU (a :: b :: s) = 1 := by rw [measU, if_neg (by omega), h, runU, if_neg (by simp [hb])]
      cases s with
      | nil => simp [firstR, h1, h2, decU, h3, h]
      | cons c u =>
        have h4 : begR [a, b, c] = none := by
          rw [begR_eq (by omega), if_neg (by simp; omega)]
          have hc : contR (leadU a) [b, c] = none ∨ ∃ v, contR (leadU a) [b, c] = some v ∧ okR (lenU a) 3 v = false := by
            have hb' := hb
            rw [Bool.eq_false_iff, ne_eq, cont1_iff] at hb'
            obtain ⟨_, _, u3, _⟩ := leadU_of (a := a)
            have ha : 224 ≤ a.toNat ∧ a.toNat < 240 := by
              rcases first_cases a with ⟨e, _⟩ | ⟨e, _⟩ | ⟨e, _⟩ | ⟨e, g⟩ | ⟨e, _⟩ <;> omega
            simp only [contR]
            by_cases g1 : b.toNat < 128 ∨ 191 < b.toNat
            · left; rw [if_pos g1]
            · rw [if_neg g1]
              by_cases g2 : c.toNat < 128 ∨ 191 < c.toNat
              · left; rw [if_pos g2]
              · rw [if_neg g2]
                right
                refine ⟨_, rfl, ?_⟩
                rw [h, u3 ha.1 ha.2]; simp [okR, lowR, highR, leastU, mostU]; omega
          rcases hc with hc | ⟨v, hc, hk⟩
          · rw [hc]
          · rw [hc]; exact if_neg (by rw [show ([b, c] : List UInt8).length + 1 = 3 from rfl, hk]; decide)
        simp [firstR, h1, h4, decU, h3, h]
    · rw [hb, if_pos rfl] at h2
      cases s with
      | nil =>
        have h3 : measU [a, b] = 2 := by rw [measU, if_neg (by omega), h, runU, if_pos (by simp [hb])]; rfl
        simp [firstR, h1, h2, decU, h3, h]
      | cons c u =>
        have h4 := beg3 (a := a) (b := b) (c := c) (by omega) hb
        rw [h] at h4
        rcases hc : contU a 2 c with _ | _
        · rw [hc, if_neg (by simp)] at h4
          have h3 : measU (a :: b :: c :: u) = 2 := by rw [measU, if_neg (by omega), h, runU, if_pos (by simp [hb]), runU, if_neg (by simp [hc])]
          simp [firstR, h1, h4, decU, h3, h]
        · rw [hc, if_pos rfl] at h4
          have h3 : measU (a :: b :: c :: u) = 3 := by rw [measU, if_neg (by omega), h, runU, if_pos (by simp [hb]), runU, if_pos (by simp [hc]), run_stop _ _ _ _ (by omega)]
          simp [firstR, h1, h4, decU, h3, h, valU, foldU]
theorem no4 {a b c d : UInt8} (h : lenU a = 4) (hn : ¬ (contU a 1 b = true ∧ contU a 2 c = true)) : begR [a, b, c, d] = none ∧ begR [a, b, c] = none := by
  obtain ⟨_, _, _, u4⟩ := leadU_of (a := a)
  have ha : 240 ≤ a.toNat ∧ a.toNat < 245 := by
    rcases first_cases a with ⟨e, _⟩ | ⟨e, _⟩ | ⟨e, _⟩ | ⟨e, _⟩ | ⟨e, g⟩ <;> omega
  rw [cont1_iff, cont_rest (by omega), decide_eq_true_eq] at hn
  have key : ∀ l : List UInt8, l = [b, c, d] ∨ l = [b, c] → begR (a :: l) = none := by
    intro l hl
    rw [begR_eq (by omega), if_neg (by rcases hl with rfl | rfl <;> (simp; omega))]
    have hc : contR (leadU a) l = none ∨ ∃ v, contR (leadU a) l = some v ∧ okR (lenU a) (l.length + 1) v = false := by
      rcases hl with rfl | rfl
      · simp only [contR]
        by_cases g1 : b.toNat < 128 ∨ 191 < b.toNat
        · left; rw [if_pos g1]
        · rw [if_neg g1]
          by_cases g2 : c.toNat < 128 ∨ 191 < c.toNat
          · left; rw [if_pos g2]
          · rw [if_neg g2]
            by_cases g3 : d.toNat < 128 ∨ 191 < d.toNat
            · left; rw [if_pos g3]
            · rw [if_neg g3]
              right
              refine ⟨_, rfl, ?_⟩
              rw [h, u4 ha.1]; simp [okR, lowR, highR, leastU, mostU]; omega
      · simp only [contR]
        by_cases g1 : b.toNat < 128 ∨ 191 < b.toNat
        · left; rw [if_pos g1]
        · rw [if_neg g1]
          by_cases g2 : c.toNat < 128 ∨ 191 < c.toNat
          · left; rw [if_pos g2]
          · rw [if_neg g2]
            right
            refine ⟨_, rfl, ?_⟩
            rw [h, u4 ha.1]; simp [okR, lowR, highR, leastU, mostU]; omega
    rcases hc with hc | ⟨v, hc, hk⟩
    · rw [hc]
    · rw [hc]; exact if_neg (by rw [hk]; decide)
  exact ⟨key _ (.inl rfl), key _ (.inr rfl)⟩
theorem first_4 {a : UInt8} {r : List UInt8} (h : lenU a = 4) : firstR (a :: r) = decU (a :: r) := by
  have h1 : begR [a] = some (4, leadU a) := by rw [beg1 (by omega), h]
  cases r with
  | nil => simp [firstR, h1, decU, measU, runU, h]
  | cons b s =>
    have h2 := beg2 (a := a) (b := b) (by omega)
    rw [h] at h2
    cases s with
    | nil =>
      rcases hb : contU a 1 b with _ | _
      · rw [hb, if_neg (by simp)] at h2
        have h3 : measU [a, b] = 1 := by rw [measU, if_neg (by omega), h, runU, if_neg (by simp [hb])]
        simp [firstR, h1, h2, decU, h3, h]
      · rw [hb, if_pos rfl] at h2
        have h3 : measU [a, b] = 2 := by rw [measU, if_neg (by omega), h, runU, if_pos (by simp [hb])]; rfl
        simp [firstR, h1, h2, decU, h3, h]
    | cons c u =>
      cases u with
      | nil =>
        rcases hb : contU a 1 b with _ | _
        · have h3 : measU [a, b, c] = 1 := by rw [measU, if_neg (by omega), h, runU, if_neg (by simp [hb])]
          have h4 := (no4 (d := c) h (by simp [hb] : ¬ (contU a 1 b = true ∧ contU a 2 c = true))).2
          simp [firstR, h1, h4, decU, h3, h]
        · have h4 := beg3 (a := a) (b := b) (c := c) (by omega) hb
          rw [h] at h4
          rcases hc : contU a 2 c with _ | _
          · rw [hc, if_neg (by simp)] at h4
            have h3 : measU [a, b, c] = 2 := by rw [measU, if_neg (by omega), h, runU, if_pos (by simp [hb]), runU, if_neg (by simp [hc])]
            simp [firstR, h1, h4, decU, h3, h]
          · rw [hc, if_pos rfl] at h4
            have h3 : measU [a, b, c] = 3 := by rw [measU, if_neg (by omega), h, runU, if_pos (by simp [hb]), runU, if_pos (by simp [hc])]; rfl
            simp [firstR, h1, h4, decU, h3, h]
      | cons d x =>
        rcases hb : contU a 1 b with _ | _
        · have h3 : measU (a :: b :: c :: d :: x) = 1 := by rw [measU, if_neg (by omega), h, runU, if_neg (by simp [hb])]
          have h4 := (no4 (d := d) h (by simp [hb] : ¬ (contU a 1 b = true ∧ contU a 2 c = true))).1
          simp [firstR, h1, h4, decU, h3, h]
        · rcases hc : contU a 2 c with _ | _
          · have h3 : measU (a :: b :: c :: d :: x) = 2 := by rw [measU, if_neg (by omega), h, runU, if_pos (by simp [hb]), runU, if_neg (by simp [hc])]
            have h4 := (no4 (d := d) h (by simp [hc] : ¬ (contU a 1 b = true ∧ contU a 2 c = true))).1
            simp [firstR, h1, h4, decU, h3, h]
          · have h4 := beg4 (a := a) (b := b) (c := c) (d := d) h hb hc
            rcases hd : contU a 3 d with _ | _
            · rw [hd, if_neg (by simp)] at h4
              have h3 : measU (a :: b :: c :: d :: x) = 3 := by rw [measU, if_neg (by omega), h, runU, if_pos (by simp [hb]), runU, if_pos (by simp [hc]), runU, if_neg (by simp [hd])]
              simp [firstR, h1, h4, decU, h3, h]
            · rw [hd, if_pos rfl] at h4
              have h3 : measU (a :: b :: c :: d :: x) = 4 := by rw [measU, if_neg (by omega), h, runU, if_pos (by simp [hb]), runU, if_pos (by simp [hc]), runU, if_pos (by simp [hd]), run_stop _ _ _ _ (by omega)]
              simp [firstR, h1, h4, decU, h3, h, valU, foldU]
/-- The reference's first code point is the program's. -/
theorem firstR_eq (a : UInt8) (r : List UInt8) : firstR (a :: r) = decU (a :: r) := by
  rcases first_cases a with ⟨e, _⟩ | ⟨e, _⟩ | ⟨e, _⟩ | ⟨e, _⟩ | ⟨e, _⟩
  · exact first_0 e
  · exact first_1 e
  · exact first_2 e
  · exact first_3 e
  · exact first_4 e
end Go.Proofs.YtannhfnpigiggaaGreatDoor

namespace Go.Proofs.YtannhfnpigiggaaGreatDoor
set_option linter.unusedSimpArgs false
set_option linter.unusedVariables false

/-- Where the first element lies that p accepts, or -1. -/
def findI {α : Type} (p : α → Bool) : List α → Nat → Int
  | [], _ => -1
  | x :: r, k => if p x then (k : Int) else findI p r (k + 1)

theorem findI_geq {α : Type} (p : α → Bool) (l : List α) : ∀ k : Nat, decide (0 ≤ findI p l k) = l.any p := by
  induction l with
  | nil => intro k; simp [findI]
  | cons x r ih => intro k; by_cases h : p x = true <;> simp [findI, h, ← ih (k + 1)]
theorem findI_range {α : Type} (p : α → Bool) (l : List α) : ∀ k : Nat, findI p l k = -1 ∨ (k ≤ findI p l k ∧ findI p l k < k + l.length) := by
  induction l with
  | nil => intro k; simp [findI]
  | cons x r ih =>
    intro k
    by_cases h : p x = true
    · simp [findI, h]; omega
    · have := ih (k + 1); simp [findI, h] at this ⊢; omega

end Go.Proofs.YtannhfnpigiggaaGreatDoor

namespace Go.Proofs.YtannhfnpigiggaaGreatDoor
set_option linter.unusedSimpArgs false
set_option linter.unusedVariables false

/-- Go's order of strings. -/
def lexB : Bs → Bs → Bool
  | [], [] => false
  | [], _ :: _ => true
  | _ :: _, [] => false
  | a :: x, b :: y => decide (a.toNat < b.toNat) || (a == b && lexB x y)
theorem lexB_irrefl (a : Bs) : lexB a a = false := by
  induction a with
  | nil => rfl
  | cons c r ih => simp [lexB, ih]
theorem lexB_trans : ∀ a b c : Bs, lexB a b = true → lexB b c = true → lexB a c = true
  | [], [], _, h, _ => by simp [lexB] at h
  | [], _ :: _, [], _, h => by simp [lexB] at h
  | [], _ :: _, _ :: _, _, _ => rfl
  | _ :: _, [], _, h, _ => by simp [lexB] at h
  | _ :: _, _ :: _, [], _, h => by simp [lexB] at h
  | a :: x, b :: y, c :: z, h, h' => by
    simp only [lexB, Bool.or_eq_true, decide_eq_true_eq, Bool.and_eq_true, beq_iff_eq] at h h' ⊢
    rcases h with h | ⟨rfl, h⟩
    · rcases h' with h' | ⟨rfl, h'⟩
      · exact .inl (by omega)
      · exact .inl h
    · rcases h' with h' | ⟨rfl, h'⟩
      · exact .inl h'
      · exact .inr ⟨rfl, lexB_trans x y z h h'⟩
theorem lexB_total : ∀ a b : Bs, a = b ∨ lexB a b = true ∨ lexB b a = true
  | [], [] => .inl rfl
  | [], _ :: _ => .inr (.inl rfl)
  | _ :: _, [] => .inr (.inr rfl)
  | a :: x, b :: y => by
    simp only [lexB, Bool.or_eq_true, decide_eq_true_eq, Bool.and_eq_true, beq_iff_eq]
    rcases Nat.lt_trichotomy a.toNat b.toNat with h | h | h
    · exact .inr (.inl (.inl h))
    · have : a = b := UInt8.toNat_inj.1 h
      subst this
      rcases lexB_total x y with rfl | h | h
      · exact .inl rfl
      · exact .inr (.inl (.inr ⟨rfl, h⟩))
      · exact .inr (.inr (.inr ⟨rfl, h⟩))
    · exact .inr (.inr (.inl h))
/-- Shorter, or as long and smaller. -/
def slB (a b : Bs) : Bool := decide (a.length < b.length) || (decide (a.length = b.length) && lexB a b)
theorem slB_irrefl (a : Bs) : slB a a = false := by simp [slB, lexB_irrefl]
theorem slB_trans {a b c : Bs} (h : slB a b = true) (h' : slB b c = true) : slB a c = true := by
  simp only [slB, Bool.or_eq_true, decide_eq_true_eq, Bool.and_eq_true] at h h' ⊢
  rcases h with h | ⟨e, h⟩
  · rcases h' with h' | ⟨e', h'⟩
    · exact .inl (by omega)
    · exact .inl (by omega)
  · rcases h' with h' | ⟨e', h'⟩
    · exact .inl (by omega)
    · exact .inr ⟨by omega, lexB_trans _ _ _ h h'⟩
theorem slB_total (a b : Bs) : a = b ∨ slB a b = true ∨ slB b a = true := by
  simp only [slB, Bool.or_eq_true, decide_eq_true_eq, Bool.and_eq_true]
  rcases Nat.lt_trichotomy a.length b.length with h | h | h
  · exact .inr (.inl (.inl h))
  · rcases lexB_total a b with rfl | g | g
    · exact .inl rfl
    · exact .inr (.inl (.inr ⟨h, g⟩))
    · exact .inr (.inr (.inr ⟨h.symm, g⟩))
  · exact .inr (.inr (.inl h))
def leS (a b : Bs) : Prop := slB b a = false
theorem leS_refl (a : Bs) : leS a a := slB_irrefl a
theorem leS_of_lt {a b : Bs} (h : slB a b = true) : leS a b := by
  unfold leS
  rcases h' : slB b a with _ | _
  · rfl
  · have := slB_trans h h'; rw [slB_irrefl] at this; cases this
theorem leS_trans {a b c : Bs} (h : leS a b) (h' : leS b c) : leS a c := by
  unfold leS at *
  rcases h2 : slB c a with _ | _
  · rfl
  · rcases slB_total a b with rfl | g | g
    · rw [h'] at h2; cases h2
    · have := slB_trans h2 g; rw [h'] at this; cases this
    · rw [h] at g; cases g
theorem leS_anti {a b : Bs} (h : leS a b) (h' : leS b a) : a = b := by
  unfold leS at *
  rcases slB_total a b with e | g | g
  · exact e
  · rw [h'] at g; cases g
  · rw [h] at g; cases g
theorem leS_len {a b : Bs} (h : a.length < b.length) : leS a b := leS_of_lt (by simp [slB, h])
theorem leS_cons (c : UInt8) {a b : Bs} (h : leS a b) : leS (c :: a) (c :: b) := by
  unfold leS slB at *; simp [lexB] at *; exact h
theorem leS_head {c d : UInt8} (h : c.toNat ≤ d.toNat) {a b : Bs} (hab : leS a b) : leS (c :: a) (d :: b) := by
  rcases Nat.lt_or_ge c.toNat d.toNat with h1 | h1
  · rcases slB_total a b with rfl | g | g
    · exact leS_of_lt (by simp [slB, lexB, h1])
    · simp only [slB, Bool.or_eq_true, decide_eq_true_eq, Bool.and_eq_true] at g
      rcases g with g | ⟨g, _⟩
      · exact leS_len (by simp; omega)
      · exact leS_of_lt (by simp [slB, lexB, h1, g])
    · unfold leS at hab; rw [hab] at g; cases g
  · have : c = d := UInt8.toNat_inj.1 (by omega)
    subst this; exact leS_cons c hab

/-- o is the least text of S, if there is one. -/
def Best (S : Bs → Prop) : Option Bs → Prop
  | none => ∀ t, ¬ S t
  | some s => S s ∧ ∀ t, S t → leS s t
theorem Best.unique {S : Bs → Prop} {a b : Option Bs} (ha : Best S a) (hb : Best S b) : a = b := by
  cases a with
  | none => cases b with
    | none => rfl
    | some b => exact absurd hb.1 (ha b)
  | some a => cases b with
    | none => exact absurd ha.1 (hb a)
    | some b => exact congrArg some (leS_anti (ha.2 b hb.1) (hb.2 a ha.1))
theorem Best.congr {S T : Bs → Prop} {a : Option Bs} (h : Best S a) (e : ∀ t, S t ↔ T t) : Best T a := by
  have : S = T := funext fun t => propext (e t)
  rw [← this]; exact h
/-- One trial: a text that begins so, if the rest is known. -/
def tryF (cur : Option Bs) (head : Bs) (r : Option Bs) : Option Bs :=
  match r with
  | none => cur
  | some t => match cur with
    | none => some (head ++ t)
    | some b => if slB (head ++ t) b then some (head ++ t) else some b
theorem best_or {A B : Bs → Prop} {a b : Option Bs} (ha : Best A a) (hb : Best B b) : Best (fun t => A t ∨ B t) (tryF a [] b) := by
  cases b with
  | none => cases a with
    | none => exact fun t ht => ht.elim (ha t) (hb t)
    | some a => exact ⟨.inl ha.1, fun t ht => ht.elim (ha.2 t) (fun h => absurd h (hb t))⟩
  | some b => cases a with
    | none => exact ⟨.inr hb.1, fun t ht => ht.elim (fun h => absurd h (ha t)) (hb.2 t)⟩
    | some a =>
      unfold tryF
      simp only [List.nil_append]
      by_cases h : slB b a = true
      · rw [if_pos h]
        exact ⟨.inr hb.1, fun t ht => ht.elim (fun h' => leS_trans (leS_of_lt h) (ha.2 t h')) (hb.2 t)⟩
      · rw [if_neg h]
        have h' : leS a b := by simpa [leS] using h
        exact ⟨.inl ha.1, fun t ht => ht.elim (ha.2 t) (fun h2 => leS_trans h' (hb.2 t h2))⟩
theorem tryF_head (cur : Option Bs) (h : UInt8) (r : Option Bs) : tryF cur [h] r = tryF cur [] (r.map (h :: ·)) := by
  cases r <;> cases cur <;> rfl
theorem tryF_none (r : Option Bs) : tryF none [] r = r := by cases r <;> rfl
theorem best_heads {B : Bs → Prop} {r : Option Bs} (hr : Best B r) (h : UInt8) (cs : UInt8 → Prop) (hh : cs h) (hmin : ∀ c, cs c → h.toNat ≤ c.toNat) : Best (fun t => ∃ c u, t = c :: u ∧ cs c ∧ B u) (r.map (h :: ·)) := by
  cases r with
  | none => rintro t ⟨c, u, rfl, _, hu⟩; exact hr u hu
  | some s =>
    refine ⟨⟨h, s, rfl, hh, hr.1⟩, ?_⟩
    rintro t ⟨c, u, rfl, hc, hu⟩
    exact leS_head (hmin c hc) (hr.2 u hu)
def smallF (x y : Em) : Option UInt8 := x.chars.find? fun c => y.chars.contains c
theorem smallF_some {x y : Em} (hx : x.Ok) {h : UInt8} (e : smallF x y = some h) : (h ∈ x.chars ∧ h ∈ y.chars) ∧ ∀ c, c ∈ x.chars ∧ c ∈ y.chars → h.toNat ≤ c.toNat := by
  unfold smallF at e
  obtain ⟨h1, as, bs, h2, h3⟩ := List.find?_eq_some_iff_append.1 e
  refine ⟨⟨by rw [h2]; simp, List.contains_iff_mem.1 h1⟩, ?_⟩
  rintro c ⟨hc, hcy⟩
  have hs := hx.sorted
  rw [h2] at hs hc
  rcases List.mem_append.1 hc with hc | hc
  · have := h3 c hc
    simp at this
    exact absurd hcy this
  · rcases List.mem_cons.1 hc with rfl | hc
    · exact Nat.le_refl _
    · have := (List.pairwise_append.1 hs).2.1
      have := (List.pairwise_cons.1 this).1 c hc
      omega
theorem smallF_none {x y : Em} (e : smallF x y = none) : ∀ c, ¬ (c ∈ x.chars ∧ c ∈ y.chars) := by
  unfold smallF at e
  rw [List.find?_eq_none] at e
  rintro c ⟨h1, h2⟩
  exact e c h1 (List.contains_iff_mem.2 h2)
/-- The best rest, out of those behind: a: past the first's element; b: past the second's; c: past both. -/
def restF (x y : Em) (a b c : Option Bs) : Option Bs :=
  let r1 := if x.isStar then tryF none [] a else none
  let r2 := if y.isStar then tryF r1 [] b else r1
  if x.isStar && y.isStar then r2 else match smallF x y with
    | none => r2
    | some h => tryF r2 [h] (if x.isStar then b else if y.isStar then a else c)
def comNil : List Em → Option Bs
  | [] => some []
  | y :: q => if y.isStar then tryF none [] (comNil q) else none
def comRow (x : Em) (f : List Em → Option Bs) : List Em → Option Bs
  | [] => if x.isStar then tryF none [] (f []) else none
  | y :: q => restF x y (f (y :: q)) (comRow x f q) (f q)
def comF : List Em → List Em → Option Bs
  | [] => comNil
  | x :: p => comRow x (comF p)
def Both (p q : List Em) (t : Bs) : Prop := matchF p t = true ∧ matchF q t = true

theorem match_star_cons (x : Em) (p : List Em) (h : x.isStar = true) (t : Bs) : matchF (x :: p) t = true ↔ matchF p t = true ∨ ∃ c r, t = c :: r ∧ isChar c = true ∧ matchF (x :: p) r = true := by
  simp only [matchF, h, if_true]
  cases t with
  | nil => simp [starM]
  | cons c r =>
    simp only [starM, Bool.or_eq_true, Bool.and_eq_true]
    constructor
    · rintro (h | ⟨h1, h2⟩)
      · exact .inl h
      · exact .inr ⟨c, r, rfl, h1, h2⟩
    · rintro (h | ⟨c', r', e, h1, h2⟩)
      · exact .inl h
      · simp at e; obtain ⟨rfl, rfl⟩ := e; exact .inr ⟨h1, h2⟩
theorem match_one_cons (x : Em) (p : List Em) (h : x.isStar = false) (t : Bs) : matchF (x :: p) t = true ↔ ∃ c r, t = c :: r ∧ c ∈ x.chars ∧ matchF p r = true := by
  simp only [matchF, h, Bool.false_eq_true, if_false, oneM_iff]
theorem star_chars {x : Em} (h : x.isStar = true) (c : UInt8) : c ∈ x.chars ↔ isChar c = true := by
  cases x <;> simp [Em.isStar] at h
  exact mem_nameC c
theorem comNil_best : ∀ q : List Em, Best (Both [] q) (comNil q) := by
  intro q
  induction q with
  | nil =>
    refine ⟨⟨rfl, rfl⟩, ?_⟩
    rintro t ⟨ht, _⟩
    have : t = [] := by simpa [matchF] using ht
    subst this; exact leS_refl _
  | cons y q ih =>
    rw [comNil]
    rcases h : y.isStar with _ | _
    · rw [if_neg (by simp)]
      rintro t ⟨ht, ht2⟩
      have : t = [] := by simpa [matchF] using ht
      subst this
      obtain ⟨c, r, e, _⟩ := (match_one_cons y q h _).1 ht2
      cases e
    · rw [if_pos rfl, tryF_none]
      refine ih.congr fun t => ?_
      constructor
      · rintro ⟨h1, h2⟩; exact ⟨h1, (match_star_cons y q h t).2 (.inl h2)⟩
      · rintro ⟨h1, h2⟩
        have : t = [] := by simpa [matchF] using h1
        subst this
        rcases (match_star_cons y q h _).1 h2 with h3 | ⟨c, r, e, _⟩
        · exact ⟨h1, h3⟩
        · cases e
theorem comRow_best (x : Em) (p : List Em) (f : List Em → Option Bs) (hx : x.Ok) (hf : ∀ q, (∀ e ∈ q, e.Ok) → Best (Both p q) (f q)) : ∀ q : List Em, (∀ e ∈ q, e.Ok) → Best (Both (x :: p) q) (comRow x f q) := by
  intro q
  induction q with
  | nil =>
    intro _
    rw [comRow]
    rcases h : x.isStar with _ | _
    · rw [if_neg (by simp)]
      rintro t ⟨ht, ht2⟩
      have : t = [] := by simpa [matchF] using ht2
      subst this
      obtain ⟨c, r, e, _⟩ := (match_one_cons x p h _).1 ht
      cases e
    · rw [if_pos rfl, tryF_none]
      refine (hf [] (by simp)).congr fun t => ?_
      constructor
      · rintro ⟨h1, h2⟩; exact ⟨(match_star_cons x p h t).2 (.inl h1), h2⟩
      · rintro ⟨h1, h2⟩
        have : t = [] := by simpa [matchF] using h2
        subst this
        rcases (match_star_cons x p h _).1 h1 with h3 | ⟨c, r, e, _⟩
        · exact ⟨h3, h2⟩
        · cases e
  | cons y q ih =>
    intro hq
    have hy := hq y (by simp)
    have hq' : ∀ e ∈ q, e.Ok := fun e he => hq e (by simp [he])
    have ih' := ih hq'
    have ha := hf (y :: q) hq
    have hc := hf q hq'
    rw [comRow]
    unfold restF
    rcases hxs : x.isStar with _ | _ <;> rcases hys : y.isStar with _ | _
    · -- neither
      simp only [Bool.false_eq_true, if_false, Bool.and_false]
      cases hs : smallF x y with
      | none =>
        rintro t ⟨h1, h2⟩
        obtain ⟨c, r, rfl, hc1, _⟩ := (match_one_cons x p hxs _).1 h1
        obtain ⟨c', r', e, hc2, _⟩ := (match_one_cons y q hys _).1 h2
        simp at e; obtain ⟨rfl, rfl⟩ := e
        exact smallF_none hs c ⟨hc1, hc2⟩
      | some h =>
        obtain ⟨g1, g2⟩ := smallF_some hx hs
        simp only [tryF_head, tryF_none]
        refine (best_heads hc h _ g1 g2).congr fun t => ?_
        constructor
        · rintro ⟨c, u, rfl, ⟨hc1, hc2⟩, hu1, hu2⟩
          exact ⟨(match_one_cons x p hxs _).2 ⟨c, u, rfl, hc1, hu1⟩, (match_one_cons y q hys _).2 ⟨c, u, rfl, hc2, hu2⟩⟩
        · rintro ⟨h1, h2⟩
          obtain ⟨c, r, rfl, hc1, hr1⟩ := (match_one_cons x p hxs _).1 h1
          obtain ⟨c', r', e, hc2, hr2⟩ := (match_one_cons y q hys _).1 h2
          simp at e; obtain ⟨rfl, rfl⟩ := e
          exact ⟨c, r, rfl, ⟨hc1, hc2⟩, hr1, hr2⟩
    · -- the second is a star
      simp only [Bool.false_eq_true, if_false, Bool.false_and, if_true, tryF_none]
      have key : ∀ t, Both (x :: p) (y :: q) t ↔ (Both (x :: p) q t ∨ ∃ c u, t = c :: u ∧ (c ∈ x.chars ∧ c ∈ y.chars) ∧ Both p (y :: q) u) := by
        intro t
        constructor
        · rintro ⟨h1, h2⟩
          rcases (match_star_cons y q hys t).1 h2 with h3 | ⟨c, r, rfl, h3, h4⟩
          · exact .inl ⟨h1, h3⟩
          · obtain ⟨c', r', e, hc1, hr1⟩ := (match_one_cons x p hxs _).1 h1
            simp at e; obtain ⟨rfl, rfl⟩ := e
            exact .inr ⟨c, r, rfl, ⟨hc1, (star_chars hys c).2 h3⟩, hr1, h4⟩
        · rintro (⟨h1, h2⟩ | ⟨c, u, rfl, ⟨hc1, hc2⟩, hu1, hu2⟩)
          · exact ⟨h1, (match_star_cons y q hys t).2 (.inl h2)⟩
          · exact ⟨(match_one_cons x p hxs _).2 ⟨c, u, rfl, hc1, hu1⟩, (match_star_cons y q hys _).2 (.inr ⟨c, u, rfl, (star_chars hys c).1 hc2, hu2⟩)⟩
      cases hs : smallF x y with
      | none =>
        refine ih'.congr fun t => ?_
        rw [key]
        constructor
        · exact .inl
        · rintro (h | ⟨c, u, rfl, hc1, _⟩)
          · exact h
          · exact absurd hc1 (smallF_none hs c)
      | some h =>
        obtain ⟨g1, g2⟩ := smallF_some hx hs
        simp only [tryF_head]
        exact (best_or ih' (best_heads ha h _ g1 g2)).congr fun t => (key t).symm
    · -- the first is a star
      simp only [Bool.false_eq_true, if_false, Bool.and_false, if_true, tryF_none]
      have key : ∀ t, Both (x :: p) (y :: q) t ↔ (Both p (y :: q) t ∨ ∃ c u, t = c :: u ∧ (c ∈ x.chars ∧ c ∈ y.chars) ∧ Both (x :: p) q u) := by
        intro t
        constructor
        · rintro ⟨h1, h2⟩
          rcases (match_star_cons x p hxs t).1 h1 with h3 | ⟨c, r, rfl, h3, h4⟩
          · exact .inl ⟨h3, h2⟩
          · obtain ⟨c', r', e, hc1, hr1⟩ := (match_one_cons y q hys _).1 h2
            simp at e; obtain ⟨rfl, rfl⟩ := e
            exact .inr ⟨c, r, rfl, ⟨(star_chars hxs c).2 h3, hc1⟩, h4, hr1⟩
        · rintro (⟨h1, h2⟩ | ⟨c, u, rfl, ⟨hc1, hc2⟩, hu1, hu2⟩)
          · exact ⟨(match_star_cons x p hxs t).2 (.inl h1), h2⟩
          · exact ⟨(match_star_cons x p hxs _).2 (.inr ⟨c, u, rfl, (star_chars hxs c).1 hc1, hu1⟩), (match_one_cons y q hys _).2 ⟨c, u, rfl, hc2, hu2⟩⟩
      cases hs : smallF x y with
      | none =>
        refine ha.congr fun t => ?_
        rw [key]
        constructor
        · exact .inl
        · rintro (h | ⟨c, u, rfl, hc1, _⟩)
          · exact h
          · exact absurd hc1 (smallF_none hs c)
      | some h =>
        obtain ⟨g1, g2⟩ := smallF_some hx hs
        simp only [tryF_head]
        exact (best_or ha (best_heads ih' h _ g1 g2)).congr fun t => (key t).symm
    · -- both
      simp only [Bool.and_true, if_true, tryF_none]
      have hor := best_or ha ih'
      have up : ∀ t, (Both p (y :: q) t ∨ Both (x :: p) q t) → Both (x :: p) (y :: q) t := by
        rintro t (⟨h1, h2⟩ | ⟨h1, h2⟩)
        · exact ⟨(match_star_cons x p hxs t).2 (.inl h1), h2⟩
        · exact ⟨h1, (match_star_cons y q hys t).2 (.inl h2)⟩
      have down : ∀ t, Both (x :: p) (y :: q) t → ∃ u, (Both p (y :: q) u ∨ Both (x :: p) q u) ∧ leS u t := by
        intro t
        induction t with
        | nil =>
          rintro ⟨h1, h2⟩
          rcases (match_star_cons x p hxs _).1 h1 with h3 | ⟨c, r, e, _⟩
          · exact ⟨[], .inl ⟨h3, h2⟩, leS_refl _⟩
          · cases e
        | cons c r iht =>
          rintro ⟨h1, h2⟩
          rcases (match_star_cons x p hxs _).1 h1 with h3 | ⟨c', r', e, h3, h4⟩
          · exact ⟨_, .inl ⟨h3, h2⟩, leS_refl _⟩
          · simp at e; obtain ⟨rfl, rfl⟩ := e
            rcases (match_star_cons y q hys _).1 h2 with h5 | ⟨c', r', e, h5, h6⟩
            · exact ⟨_, .inr ⟨h1, h5⟩, leS_refl _⟩
            · simp at e; obtain ⟨rfl, rfl⟩ := e
              obtain ⟨u, hu, hl⟩ := iht ⟨h4, h6⟩
              exact ⟨u, hu, leS_trans hl (leS_len (by simp))⟩
      cases hres : tryF (f (y :: q)) [] (comRow x f q) with
      | none =>
        rw [hres] at hor
        intro t ht
        obtain ⟨u, hu, _⟩ := down t ht
        exact hor u hu
      | some s =>
        rw [hres] at hor
        refine ⟨up s hor.1, fun t ht => ?_⟩
        obtain ⟨u, hu, hl⟩ := down t ht
        exact leS_trans (hor.2 u hu) hl
/-- The program's answer is the best common text. -/
theorem comF_best (p : List Em) : (∀ e ∈ p, e.Ok) → ∀ q, (∀ e ∈ q, e.Ok) → Best (Both p q) (comF p q) := by
  induction p with
  | nil => intro _ q _; exact comNil_best q
  | cons x p ih =>
    intro hp q hq
    exact comRow_best x p (comF p) (hp x (by simp)) (ih (fun e he => hp e (by simp [he]))) q hq
theorem comF_comm (p q : List Em) (hp : ∀ e ∈ p, e.Ok) (hq : ∀ e ∈ q, e.Ok) : comF p q = comF q p :=
  (comF_best p hp q hq).unique ((comF_best q hq p hp).congr fun t => ⟨fun h => ⟨h.2, h.1⟩, fun h => ⟨h.2, h.1⟩⟩)
/-- How long a common text is. -/
theorem tryF_len (cur : Option Bs) (h : Bs) (r : Option Bs) (n : Nat) (hc : ∀ s, cur = some s → s.length ≤ n) (hr : ∀ s, r = some s → h.length + s.length ≤ n) : ∀ s, tryF cur h r = some s → s.length ≤ n := by
  intro s hs
  cases r with
  | none => exact hc s hs
  | some t =>
    have := hr t rfl
    cases cur with
    | none => simp [tryF] at hs; subst hs; simp; omega
    | some b =>
      have hb := hc b rfl
      simp only [tryF] at hs
      split at hs
      · simp at hs; subst hs; simp; omega
      · simp at hs; subst hs; exact hb
theorem comNil_len (q : List Em) : ∀ s, comNil q = some s → s.length ≤ q.length := by
  induction q with
  | nil => intro s h; simp [comNil] at h; subst h; simp
  | cons y q ih =>
    intro s h
    rw [comNil] at h
    split at h
    · rw [tryF_none] at h; have := ih s h; simp; omega
    · cases h
theorem comRow_len (x : Em) (f : List Em → Option Bs) (n : Nat) (hf : ∀ q s, f q = some s → s.length ≤ n + q.length) : ∀ q s, comRow x f q = some s → s.length ≤ n + 1 + q.length := by
  intro q
  induction q with
  | nil =>
    intro s h
    rw [comRow] at h
    split at h
    · rw [tryF_none] at h; have := hf _ s h; simp at this ⊢; omega
    · cases h
  | cons y q ih =>
    have ha := hf (y :: q)
    have hc := hf q
    rw [comRow]
    unfold restF
    simp only [List.length_cons] at ha ⊢
    have h1 : ∀ s, (if x.isStar = true then tryF none [] (f (y :: q)) else none) = some s → s.length ≤ n + 1 + (q.length + 1) := fun s hs => by
      split at hs
      · rw [tryF_none] at hs; have := ha s hs; omega
      · cases hs
    have h2 : ∀ s, (if y.isStar = true then tryF (if x.isStar = true then tryF none [] (f (y :: q)) else none) [] (comRow x f q) else (if x.isStar = true then tryF none [] (f (y :: q)) else none)) = some s → s.length ≤ n + 1 + (q.length + 1) := fun s hs => by
      split at hs
      · exact tryF_len _ _ _ _ h1 (fun t ht => by have := ih t ht; simp; omega) s hs
      · exact h1 s hs
    intro s hs
    split at hs
    · exact h2 s hs
    · cases hsm : smallF x y with
      | none => rw [hsm] at hs; exact h2 s hs
      | some h =>
        rw [hsm] at hs
        refine tryF_len _ _ _ _ h2 (fun t ht => ?_) s hs
        split at ht
        · have := ih t ht; simp; omega
        · split at ht
          · have := ha t ht; simp; omega
          · have := hc t ht; simp; omega
theorem comF_len (p : List Em) : ∀ q s, comF p q = some s → s.length ≤ p.length + q.length := by
  induction p with
  | nil => intro q s h; have := comNil_len q s h; simpa using this
  | cons x p ih => intro q s h; have := comRow_len x (comF p) p.length ih q s h; simpa using this
end Go.Proofs.YtannhfnpigiggaaGreatDoor
