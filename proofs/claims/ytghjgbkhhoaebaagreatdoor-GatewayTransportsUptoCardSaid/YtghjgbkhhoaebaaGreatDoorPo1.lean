/- Lemmas and walks, part 1. -/

namespace Go.Proofs.YtghjgbkhhoaebaaGreatDoor
set_option linter.unusedSimpArgs false
set_option linter.unusedVariables false

def isLower (c : Int) : Bool := decide (97 ≤ c) && decide (c ≤ 122)
def isUpper (c : Int) : Bool := decide (65 ≤ c) && decide (c ≤ 90)
def isLetter (c : Int) : Bool := isLower c || isUpper c
def isDigit (c : Int) : Bool := decide (48 ≤ c) && decide (c ≤ 57)
def isVisible (c : Int) : Bool := decide (33 ≤ c) && decide (c ≤ 126)
def isBlank (c : Int) : Bool := (c == 32) || (c == 9)

/-- A byte as the number that the walk shows. -/
abbrev num (c : UInt8) : Int := (c.toNat : Int)

def toL (s : ByteArray) : List UInt8 := s.data.toList
theorem toL_length (s : ByteArray) : (toL s).length = s.size := by simp [toL]
theorem toL_getElem (s : ByteArray) (k : Nat) (h : k < s.size) : (toL s)[k]'(by rw [toL_length]; exact h) = s[k] := by simp [toL]; rfl
theorem toL_inj {s t : ByteArray} (h : toL s = toL t) : s = t := by
  cases s with | mk a => cases t with | mk b => exact congrArg _ (Array.toList_inj.1 h)

/-- The first offset from k on whose byte is outside the class p. -/
def skipFrom (p : Int → Bool) (l : List UInt8) (k : Nat) : Nat := k + ((l.drop k).takeWhile fun c => p (num c)).length

theorem drop_cons (l : List UInt8) (k : Nat) (h : k < l.length) : l.drop k = l[k] :: l.drop (k + 1) := List.drop_eq_getElem_cons h

theorem skipFrom_end (p : Int → Bool) (l : List UInt8) (k : Nat) (h : l.length ≤ k) : skipFrom p l k = k := by
  simp [skipFrom, List.drop_eq_nil_of_le h]
theorem skipFrom_stop (p : Int → Bool) (l : List UInt8) (k : Nat) (h : k < l.length) (hp : p (num l[k]) = false) : skipFrom p l k = k := by
  rw [skipFrom, drop_cons l k h, List.takeWhile_cons, hp]; simp
theorem skipFrom_step (p : Int → Bool) (l : List UInt8) (k : Nat) (h : k < l.length) (hp : p (num l[k]) = true) : skipFrom p l k = skipFrom p l (k + 1) := by
  rw [skipFrom, skipFrom, drop_cons l k h, List.takeWhile_cons, hp]; simp; omega
theorem skipFrom_ge (p : Int → Bool) (l : List UInt8) (k : Nat) : k ≤ skipFrom p l k := by simp [skipFrom]
theorem skipFrom_le (p : Int → Bool) (l : List UInt8) (k : Nat) (h : k ≤ l.length) : skipFrom p l k ≤ l.length := by
  have h1 := (List.takeWhile_prefix (l := l.drop k) (fun c => p (num c))).length_le
  simp [skipFrom] at *; omega

end Go.Proofs.YtghjgbkhhoaebaaGreatDoor

namespace Go.Proofs.YtghjgbkhhoaebaaGreatDoor
set_option linter.unusedSimpArgs false
set_option linter.unusedVariables false

abbrev Bs := List UInt8
def ofL (l : List UInt8) : ByteArray := ⟨l.toArray⟩
theorem toL_ofL (l : List UInt8) : toL (ofL l) = l := rfl
theorem ofL_toL (s : ByteArray) : ofL (toL s) = s := toL_inj (toL_ofL _)
theorem ofL_size (l : List UInt8) : (ofL l).size = l.length := by rw [← toL_length, toL_ofL]

/-- The bytes from i to k. -/
def cutL (l : List UInt8) (i k : Nat) : List UInt8 := (l.drop i).take (k - i)
theorem extract_ofL (s : ByteArray) (i k : Nat) : s.extract i k = ofL (cutL (toL s) i k) := by
  apply toL_inj
  rw [toL_ofL]
  simp [toL, cutL, List.extract]
theorem cutL_length (l : List UInt8) (i k : Nat) (h : k ≤ l.length) : (cutL l i k).length = k - i := by simp [cutL]; omega

/-- The maximal runs of bytes that are no blanks; cur: what has been read of the current one. -/
def wordsAux : List UInt8 → List UInt8 → List (List UInt8)
  | [], cur => if cur = [] then [] else [cur]
  | c :: r, cur => if isBlank (num c) then (if cur = [] then wordsAux r [] else cur :: wordsAux r []) else wordsAux r (cur ++ [c])
def words (l : List UInt8) : List (List UInt8) := wordsAux l []

theorem wordsAux_run (l : List UInt8) : ∀ cur, cur ≠ [] → wordsAux l cur = (cur ++ l.takeWhile fun c => !isBlank (num c)) :: words (l.dropWhile fun c => !isBlank (num c)) := by
  induction l with
  | nil => intro cur h; simp [wordsAux, words, h]
  | cons c r ih =>
    intro cur h
    by_cases hb : isBlank (num c) = true
    · simp [wordsAux, hb, h, words]
    · have hb' : isBlank (num c) = false := by simpa using hb
      simp [wordsAux, hb', ih (cur ++ [c]) (by simp)]
theorem words_blanks (l : List UInt8) : words l = words (l.dropWhile fun c => isBlank (num c)) := by
  induction l with
  | nil => rfl
  | cons c r ih =>
    by_cases hb : isBlank (num c) = true
    · simp [words, wordsAux, hb] at ih ⊢; exact ih
    · have hb' : isBlank (num c) = false := by simpa using hb
      simp [hb']
theorem words_run (c : UInt8) (r : List UInt8) (h : isBlank (num c) = false) :
    words (c :: r) = ((c :: r).takeWhile fun c => !isBlank (num c)) :: words ((c :: r).dropWhile fun c => !isBlank (num c)) := by
  simp [words, wordsAux, h, wordsAux_run r [c] (by simp)]
theorem words_nil : words [] = [] := rfl

theorem dropWhile_eq_drop (p : UInt8 → Bool) (l : List UInt8) : l.dropWhile p = l.drop (l.takeWhile p).length := by
  induction l with
  | nil => rfl
  | cons c r ih => by_cases h : p c = true <;> simp [h, ih]
theorem takeWhile_eq_take (p : UInt8 → Bool) (l : List UInt8) : l.takeWhile p = l.take (l.takeWhile p).length := by
  induction l with
  | nil => rfl
  | cons c r ih => by_cases h : p c = true <;> simp [h]; exact ih

theorem drop_skip (p : Int → Bool) (l : List UInt8) (k : Nat) : l.drop (skipFrom p l k) = (l.drop k).dropWhile fun c => p (num c) := by
  rw [dropWhile_eq_drop, List.drop_drop, skipFrom]
theorem cut_skip (p : Int → Bool) (l : List UInt8) (k : Nat) : cutL l k (skipFrom p l k) = (l.drop k).takeWhile fun c => p (num c) := by
  rw [takeWhile_eq_take, cutL, skipFrom]; congr 1; omega

/-- One round of Words: the blanks, then the word. -/
theorem words_round (l : List UInt8) (k f t : Nat) (hf : f = skipFrom isBlank l k) (ht : t = skipFrom (fun c => !isBlank c) l f) :
    words (l.drop k) = (if f < t then [cutL l f t] else []) ++ words (l.drop t) := by
  rw [words_blanks (l.drop k), ← drop_skip isBlank l k, ← hf]
  cases e : l.drop f with
  | nil =>
    have h0 : t = f := by rw [ht]; simp [skipFrom, e]
    simp [h0, e, words_nil]
  | cons c r =>
    have hc : isBlank (num c) = false := by
      have := drop_skip isBlank l k
      rw [← hf, e] at this
      have h2 := List.head?_dropWhile_not (fun c => isBlank (num c)) (l.drop k)
      rw [← this] at h2
      simpa using h2
    have hlt : f < t := by rw [ht, skipFrom, e]; simp [hc]
    rw [if_pos hlt, words_run c r hc, ← e]
    have h1 := cut_skip (fun c => !isBlank c) l f
    have h2 := drop_skip (fun c => !isBlank c) l f
    rw [← ht] at h1 h2
    rw [← h1, ← h2]; rfl

theorem words_progress (l : List UInt8) (k f t : Nat) (hf : f = skipFrom isBlank l k) (ht : t = skipFrom (fun c => !isBlank c) l f) (hk : k < l.length) : k < t := by
  have h1 := skipFrom_ge isBlank l k
  have h2 := skipFrom_ge (fun c => !isBlank c) l f
  rw [← ht] at h2
  rw [← hf] at h1
  by_cases hb : isBlank (num l[k]) = true
  · have := skipFrom_step isBlank l k hk hb
    have h3 := skipFrom_ge isBlank l (k + 1)
    omega
  · have hb' : isBlank (num l[k]) = false := by simpa using hb
    have h4 := skipFrom_stop isBlank l k hk hb'
    have h5 : f = k := by omega
    subst h5
    have := skipFrom_step (fun c => !isBlank c) l f hk (by simp [hb'])
    have h6 := skipFrom_ge (fun c => !isBlank c) l (f + 1)
    omega

theorem wordsAux_sum (l : List UInt8) : ∀ cur, (wordsAux l cur).length ≤ l.length + 1 := by
  induction l with
  | nil => intro cur; simp [wordsAux]; split <;> simp
  | cons c r ih =>
    intro cur
    simp only [wordsAux]
    have h1 := ih []; have h2 := ih (cur ++ [c])
    split
    · split
      · simp; omega
      · simp; omega
    · simp; omega


/-- Words joined by single spaces. -/
def joinSp : List (List UInt8) → List UInt8
  | [] => []
  | [x] => x
  | x :: y :: r => x ++ 32 :: joinSp (y :: r)
theorem joinSp_inter (l : List (List UInt8)) : [32].intercalate l = joinSp l := by
  induction l with
  | nil => rfl
  | cons x r ih =>
    cases r with
    | nil => simp [joinSp, List.intercalate]
    | cons y r => simp [joinSp, ← ih, List.intercalate]
theorem joinSp_snoc (l : List (List UInt8)) (x : List UInt8) (h : l ≠ []) : joinSp (l ++ [x]) = joinSp l ++ [32] ++ x := by
  induction l with
  | nil => exact absurd rfl h
  | cons y r ih =>
    cases r with
    | nil => simp [joinSp]
    | cons z r =>
      have := ih (by simp)
      simp [joinSp] at this ⊢
      rw [this]
theorem joinSp_cons (x : List UInt8) (l : List (List UInt8)) (h : l ≠ []) : joinSp (x :: l) = x ++ 32 :: joinSp l := by
  cases l with
  | nil => exact absurd rfl h
  | cons y r => rfl
def squeeze (l : List UInt8) : List UInt8 := joinSp (words l)

theorem joinSp_wordsAux_le (l : List UInt8) : ∀ cur, (joinSp (wordsAux l cur)).length ≤ cur.length + l.length := by
  induction l with
  | nil => intro cur; simp only [wordsAux]; split <;> simp [joinSp]
  | cons c r ih =>
    intro cur
    simp only [wordsAux]
    split
    · split
      · have := ih []; simp at this ⊢; omega
      · have h := ih []
        by_cases e : wordsAux r [] = []
        · rw [e]; simp [joinSp]
        · rw [joinSp_cons _ _ e]; simp at h ⊢; omega
    · have := ih (cur ++ [c]); simp at this ⊢; omega
theorem squeeze_le (l : List UInt8) : (squeeze l).length ≤ l.length := by
  have := joinSp_wordsAux_le l []; simpa [squeeze, words] using this


theorem joinSp_take_le (l : List (List UInt8)) : ∀ k, (joinSp (l.take k)).length ≤ (joinSp l).length := by
  induction l with
  | nil => intro k; simp
  | cons x r ih =>
    intro k
    cases k with
    | zero => simp [joinSp]
    | succ k =>
      cases r with
      | nil => simp [joinSp]
      | cons y r =>
        have := ih k
        cases k with
        | zero => simp [joinSp]
        | succ k => simp [joinSp] at this ⊢; omega
theorem joinSp_mem_le (l : List (List UInt8)) (x : List UInt8) (h : x ∈ l) : x.length ≤ (joinSp l).length := by
  induction l with
  | nil => cases h
  | cons y r ih =>
    cases r with
    | nil => simp at h; subst h; simp [joinSp]
    | cons z r =>
      rcases List.mem_cons.1 h with rfl | h
      · simp [joinSp]
      · have := ih h; simp [joinSp] at this ⊢; omega
theorem joinSp_step (l : List (List UInt8)) (k : Nat) (h : k < l.length) (h0 : 0 < k) : joinSp (l.take (k + 1)) = joinSp (l.take k) ++ [32] ++ l[k] := by
  rw [List.take_succ_eq_append_getElem h, joinSp_snoc _ _ (fun e => by have h1 := congrArg List.length e; rw [List.length_take, List.length_nil] at h1; omega)]

end Go.Proofs.YtghjgbkhhoaebaaGreatDoor

namespace Go.Proofs.YtghjgbkhhoaebaaGreatDoor
set_option linter.unusedSimpArgs false
set_option linter.unusedVariables false

/-- How long an encoding is that begins with c. -/
def lenU (c : UInt8) : Nat := if 240 ≤ c.toNat ∧ c.toNat ≤ 244 then 4 else if 224 ≤ c.toNat ∧ c.toNat ≤ 239 then 3 else if 194 ≤ c.toNat ∧ c.toNat ≤ 223 then 2 else if c.toNat ≤ 127 then 1 else 0
def lowU (f : UInt8) (i : Nat) : Nat := if i = 1 then (if f = 224 then 160 else if f = 240 then 144 else 128) else 128
def highU (f : UInt8) (i : Nat) : Nat := if i = 1 then (if f = 237 then 159 else if f = 244 then 143 else 191) else 191
/-- Whether c can stand at place i behind f. -/
def contU (f : UInt8) (i : Nat) (c : UInt8) : Bool := decide (lowU f i ≤ c.toNat) && decide (c.toNat ≤ highU f i)
/-- How many of the bytes from place i on continue. -/
def runU (f : UInt8) (size : Nat) : Nat → List UInt8 → Nat
  | _, [] => 0
  | i, c :: r => if i < size ∧ contU f i c = true then runU f size (i + 1) r + 1 else 0
def measU : List UInt8 → Nat
  | [] => 0
  | f :: r => if lenU f = 0 then 0 else runU f (lenU f) 1 r + 1
def leadU (c : UInt8) : Nat := if c.toNat < 128 then c.toNat else if c.toNat < 224 then c.toNat - 192 else if c.toNat < 240 then c.toNat - 224 else c.toNat - 240
def foldU (v : Nat) (l : List UInt8) : Nat := l.foldl (fun v c => 64 * v + (c.toNat - 128)) v
/-- The code point of an encoding. -/
def valU : List UInt8 → Nat
  | [] => 0
  | f :: r => foldU (leadU f) r
/-- The first code point, its length, and the error. -/
def decU (l : List UInt8) : Nat × Nat × Int :=
  match l with
  | [] => (0, 0, 1)
  | f :: _ => if measU l = lenU f ∧ lenU f ≠ 0 then (valU (l.take (measU l)), measU l, 0) else if measU l = 0 then (0, 0, 6) else if measU l = l.length then (0, 0, 23) else (0, 0, 3)
theorem runU_le (f : UInt8) (size : Nat) : ∀ (l : List UInt8) (i : Nat), runU f size i l ≤ l.length ∧ runU f size i l ≤ size - i
  | [], _ => by simp [runU]
  | c :: r, i => by
    rw [runU]
    have := runU_le f size r (i + 1)
    split
    · simp; omega
    · simp
theorem lenU_le (c : UInt8) : lenU c ≤ 4 := by unfold lenU; split <;> (try split) <;> (try split) <;> (try split) <;> omega
theorem measU_le (l : List UInt8) : measU l ≤ l.length ∧ measU l ≤ 4 := by
  cases l with
  | nil => simp [measU]
  | cons f r =>
    rw [measU]
    have := runU_le f (lenU f) r 1
    have := lenU_le f
    split
    · simp
    · simp; omega
theorem decU_ok {l : List UInt8} (h : (decU l).2.2 = 0) : 1 ≤ (decU l).2.1 ∧ (decU l).2.1 ≤ l.length := by
  cases l with
  | nil => simp [decU] at h
  | cons f r =>
    have hm := measU_le (f :: r)
    unfold decU at h ⊢
    by_cases h1 : measU (f :: r) = lenU f ∧ lenU f ≠ 0
    · simp only [if_pos h1]; omega
    · simp only [if_neg h1] at h
      exfalso
      split at h
      · simp at h
      · split at h <;> simp at h
theorem decU_err (l : List UInt8) : 0 ≤ (decU l).2.2 ∧ (decU l).2.2 ≤ 23 := by
  unfold decU
  cases l with
  | nil => simp
  | cons f r => dsimp only; split <;> (try split) <;> (try split) <;> simp
/-- Whether a code point is a control character. -/
def ctlU (r : Nat) : Bool := decide (r ≤ 31) || (decide (127 ≤ r) && decide (r ≤ 159)) || r == 8232 || r == 8233
/-- Where the first bad code point of a line lies, from place i on: the place, and what it is: a control character (none), or an error. -/
def badU : Nat → List UInt8 → Nat → Option (Nat × Option Int)
  | 0, _, _ => none
  | n + 1, l, i => match l with
    | [] => none
    | _ :: _ => if (decU l).2.2 ≠ 0 then some (i, some (decU l).2.2) else if ctlU (decU l).1 && (decU l).1 != 9 then some (i, none) else badU n (l.drop (decU l).2.1) (i + (decU l).2.1)
def badF (l : List UInt8) : Int := match badU (l.length + 1) l 0 with
  | none => -1
  | some x => (x.1 : Int)
/-- All code points and their offsets, up to the first error. -/
def allU : Nat → List UInt8 → Nat → List (Nat × Nat) × Option (Nat × Int)
  | 0, _, _ => ([], none)
  | n + 1, l, i => match l with
    | [] => ([], none)
    | _ :: _ => if (decU l).2.2 ≠ 0 then ([], some (i, (decU l).2.2)) else
        let x := allU n (l.drop (decU l).2.1) (i + (decU l).2.1)
        ((i, (decU l).1) :: x.1, x.2)
def hitU (r : Nat) : Bool := ctlU r && r != 9
theorem badU_all : ∀ (n : Nat) (l : List UInt8) (i : Nat), badU n l i = match (allU n l i).1.find? (fun x => hitU x.2) with
    | some x => some (x.1, none)
    | none => match (allU n l i).2 with
      | some y => some (y.1, some y.2)
      | none => none
  | 0, l, i => by simp [badU, allU]
  | n + 1, [], i => by simp [badU, allU]
  | n + 1, c :: r, i => by
    rw [badU, allU]
    by_cases h : (decU (c :: r)).2.2 ≠ 0
    · rw [if_pos h, if_pos h]; simp
    · rw [if_neg h, if_neg h]
      dsimp only
      rw [List.find?_cons]
      by_cases h2 : hitU (decU (c :: r)).1 = true
      · have h2' := h2
        unfold hitU at h2'
        rw [if_pos h2']; simp [h2]
      · have h2' := h2
        unfold hitU at h2'
        rw [if_neg h2', badU_all n]
        simp [h2]
end Go.Proofs.YtghjgbkhhoaebaaGreatDoor

namespace Go.Proofs.YtghjgbkhhoaebaaGreatDoor
set_option linter.unusedSimpArgs false
set_option linter.unusedVariables false

def leadN (c : UInt8) : Nat := if c.toNat < 128 then 1 else if 192 ≤ c.toNat ∧ c.toNat < 224 then 2 else if 224 ≤ c.toNat ∧ c.toNat < 240 then 3 else if 240 ≤ c.toNat ∧ c.toNat < 248 then 4 else 0
def leadV (c : UInt8) : Nat := if c.toNat < 128 then c.toNat else if 192 ≤ c.toNat ∧ c.toNat < 224 then c.toNat - 192 else if 224 ≤ c.toNat ∧ c.toNat < 240 then c.toNat - 224 else if 240 ≤ c.toNat ∧ c.toNat < 248 then c.toNat - 240 else 0
def leastU (n : Nat) : Nat := if n = 2 then 128 else if n = 3 then 2048 else if n = 4 then 65536 else 0
def mostU (n : Nat) : Nat := if n = 1 then 127 else if n = 2 then 2047 else if n = 3 then 65535 else if n = 4 then 1114111 else 0
/-- The value of the bytes behind the first; none: a byte that does not continue. -/
def contR (v : Nat) : List UInt8 → Option Nat
  | [] => some v
  | c :: r => if c.toNat < 128 ∨ 191 < c.toNat then none else contR (64 * v + (c.toNat - 128)) r
def lowR : Nat → Nat → Nat
  | 0, v => v
  | k + 1, v => lowR k (64 * v)
def highR : Nat → Nat → Nat
  | 0, v => v
  | k + 1, v => highR k (64 * v + 63)
def okR (n m v : Nat) : Bool :=
  !((decide (55296 ≤ max (lowR (n - m) v) (leastU n)) && decide (min (highR (n - m) v) (mostU n) ≤ 57343)) || decide (min (highR (n - m) v) (mostU n) < max (lowR (n - m) v) (leastU n)))
def begR : List UInt8 → Option (Nat × Nat)
  | [] => none
  | f :: r => if leadN f = 0 ∨ leadN f < r.length + 1 then none else match contR (leadV f) r with
    | none => none
    | some v => if okR (leadN f) (r.length + 1) v then some (leadN f, v) else none
def firstR (l : List UInt8) : Nat × Nat × Int := match begR (l.take 1) with
  | none => (0, 0, 6)
  | some x => if x.1 ≤ l.length then match begR (l.take x.1) with
      | some y => (y.2, x.1, 0)
      | none => (0, 0, 3)
    else match begR l with
      | some _ => (0, 0, 23)
      | none => (0, 0, 3)
/-- The four classes of a first byte. -/
theorem first_cases (a : UInt8) : (lenU a = 0 ∧ (128 ≤ a.toNat ∧ a.toNat < 194 ∨ 245 ≤ a.toNat)) ∨ (lenU a = 1 ∧ a.toNat < 128) ∨ (lenU a = 2 ∧ 194 ≤ a.toNat ∧ a.toNat < 224) ∨ (lenU a = 3 ∧ 224 ≤ a.toNat ∧ a.toNat < 240) ∨ (lenU a = 4 ∧ 240 ≤ a.toNat ∧ a.toNat < 245) := by
  unfold lenU
  have := a.toNat_lt
  split
  · omega
  · split
    · omega
    · split
      · omega
      · split <;> omega
theorem beg1_no {a : UInt8} (h : 128 ≤ a.toNat ∧ a.toNat < 194 ∨ 245 ≤ a.toNat) : begR [a] = none := by
  have ha := a.toNat_lt
  rw [begR]
  by_cases h0 : leadN a = 0 ∨ leadN a < ([] : List UInt8).length + 1
  · rw [if_pos h0]
  · rw [if_neg h0]
    simp only [contR]
    have h1 : okR (leadN a) (([] : List UInt8).length + 1) (leadV a) = false := by
      have e : (192 ≤ a.toNat ∧ a.toNat < 194) ∨ (245 ≤ a.toNat ∧ a.toNat < 248) := by
        unfold leadN at h0
        simp only [List.length_nil] at h0
        split at h0 <;> (try split at h0) <;> (try split at h0) <;> (try split at h0) <;> omega
      rcases e with e | e
      · have hn : leadN a = 2 := by unfold leadN; rw [if_neg (by omega), if_pos (by omega)]
        have hv : leadV a = a.toNat - 192 := by unfold leadV; rw [if_neg (by omega), if_pos (by omega)]
        rw [hn, hv]; simp [okR, lowR, highR, leastU, mostU]; omega
      · have hn : leadN a = 4 := by unfold leadN; rw [if_neg (by omega), if_neg (by omega), if_neg (by omega), if_pos (by omega)]
        have hv : leadV a = a.toNat - 240 := by unfold leadV; rw [if_neg (by omega), if_neg (by omega), if_neg (by omega), if_pos (by omega)]
        rw [hn, hv]; simp [okR, lowR, highR, leastU, mostU]; omega
    exact if_neg (by rw [h1]; decide)
theorem lead_is {a : UInt8} (h : lenU a ≠ 0) : leadN a = lenU a ∧ leadV a = leadU a := by
  have ha := a.toNat_lt
  rcases first_cases a with ⟨e, _⟩ | ⟨e, h1⟩ | ⟨e, h1, h2⟩ | ⟨e, h1, h2⟩ | ⟨e, h1, h2⟩
  · exact absurd e h
  · rw [e]; unfold leadN leadV leadU
    exact ⟨by rw [if_pos h1], by rw [if_pos h1, if_pos h1]⟩
  · rw [e]; unfold leadN leadV leadU
    exact ⟨by rw [if_neg (by omega), if_pos (by omega)], by rw [if_neg (by omega), if_pos (by omega), if_neg (by omega), if_pos (by omega)]⟩
  · rw [e]; unfold leadN leadV leadU
    exact ⟨by rw [if_neg (by omega), if_neg (by omega), if_pos (by omega)], by rw [if_neg (by omega), if_neg (by omega), if_pos (by omega), if_neg (by omega), if_neg (by omega), if_pos (by omega)]⟩
  · rw [e]; unfold leadN leadV leadU
    exact ⟨by rw [if_neg (by omega), if_neg (by omega), if_neg (by omega), if_pos (by omega)], by rw [if_neg (by omega), if_neg (by omega), if_neg (by omega), if_pos (by omega), if_neg (by omega), if_neg (by omega), if_neg (by omega)]⟩
theorem leadU_of {a : UInt8} : (a.toNat < 128 → leadU a = a.toNat) ∧ (128 ≤ a.toNat → a.toNat < 224 → leadU a = a.toNat - 192) ∧ (224 ≤ a.toNat → a.toNat < 240 → leadU a = a.toNat - 224) ∧ (240 ≤ a.toNat → leadU a = a.toNat - 240) := by
  unfold leadU
  exact ⟨fun h => by rw [if_pos h], fun h g => by rw [if_neg (by omega), if_pos g], fun h g => by rw [if_neg (by omega), if_neg (by omega), if_pos g], fun h => by rw [if_neg (by omega), if_neg (by omega), if_neg (by omega)]⟩
theorem cont_rest {f c : UInt8} {i : Nat} (hi : i ≠ 1) : contU f i c = decide (128 ≤ c.toNat ∧ c.toNat ≤ 191) := by
  unfold contU lowU highU; rw [if_neg hi, if_neg hi, Bool.eq_iff_iff]; simp
theorem begR_eq {f : UInt8} {r : List UInt8} (h : lenU f ≠ 0) : begR (f :: r) = if lenU f < r.length + 1 then none else match contR (leadU f) r with
    | none => none
    | some v => if okR (lenU f) (r.length + 1) v then some (lenU f, v) else none := by
  obtain ⟨h1, h2⟩ := lead_is h
  rw [begR, h1, h2]
  by_cases g : lenU f < r.length + 1
  · rw [if_pos (.inr g), if_pos g]
  · rw [if_neg (by omega), if_neg g]
theorem beg1 {a : UInt8} (h : lenU a ≠ 0) : begR [a] = some (lenU a, leadU a) := by
  rw [begR_eq h, if_neg (by simp; omega)]
  simp only [contR, List.length_nil]
  have hk : okR (lenU a) (0 + 1) (leadU a) = true := by
    obtain ⟨u1, u2, u3, u4⟩ := leadU_of (a := a)
    rcases first_cases a with ⟨e, _⟩ | ⟨e, h1⟩ | ⟨e, h1, h2⟩ | ⟨e, h1, h2⟩ | ⟨e, h1, h2⟩
    · exact absurd e h
    · rw [e, u1 h1]; simp [okR, lowR, highR, leastU, mostU]; omega
    · rw [e, u2 (by omega) h2]; simp [okR, lowR, highR, leastU, mostU]; omega
    · rw [e, u3 h1 h2]; simp [okR, lowR, highR, leastU, mostU]; omega
    · rw [e, u4 h1]; simp [okR, lowR, highR, leastU, mostU]; omega
  exact if_pos hk
theorem ea {a : UInt8} {n : Nat} (hn : n < 256) : (a = UInt8.ofNat n) ↔ a.toNat = n := by
  rw [← UInt8.toNat_inj, UInt8.toNat_ofNat', Nat.mod_eq_of_lt hn]
theorem cont1_iff (a b : UInt8) : contU a 1 b = true ↔ (128 ≤ b.toNat ∧ b.toNat ≤ 191 ∧ (a.toNat = 224 → 160 ≤ b.toNat) ∧ (a.toNat = 237 → b.toNat ≤ 159) ∧ (a.toNat = 240 → 144 ≤ b.toNat) ∧ (a.toNat = 244 → b.toNat ≤ 143)) := by
  have e224 : (a = 224) ↔ a.toNat = 224 := ea (n := 224) (by omega)
  have e237 : (a = 237) ↔ a.toNat = 237 := ea (n := 237) (by omega)
  have e240 : (a = 240) ↔ a.toNat = 240 := ea (n := 240) (by omega)
  have e244 : (a = 244) ↔ a.toNat = 244 := ea (n := 244) (by omega)
  unfold contU lowU highU
  simp only [if_true, e224, e237, e240, e244, Bool.and_eq_true, decide_eq_true_eq]
  by_cases h1 : a.toNat = 224
  · simp [h1]; omega
  by_cases h2 : a.toNat = 237
  · simp [h2]; omega
  by_cases h3 : a.toNat = 240
  · simp [h3]; omega
  by_cases h4 : a.toNat = 244
  · simp [h4]; omega
  simp [h1, h2, h3, h4]
theorem cont1_range {a b : UInt8} (h : contU a 1 b = true) : 128 ≤ b.toNat ∧ b.toNat ≤ 191 ∧ (a.toNat = 224 → 160 ≤ b.toNat) ∧ (a.toNat = 237 → b.toNat ≤ 159) ∧ (a.toNat = 240 → 144 ≤ b.toNat) ∧ (a.toNat = 244 → b.toNat ≤ 143) := (cont1_iff a b).1 h
theorem beg2 {a b : UInt8} (h : 2 ≤ lenU a) : begR [a, b] = if contU a 1 b then some (lenU a, 64 * leadU a + (b.toNat - 128)) else none := by
  have hb := b.toNat_lt
  rw [begR_eq (by omega), if_neg (by simp; omega)]
  simp only [contR, List.length_cons, List.length_nil]
  obtain ⟨u1, u2, u3, u4⟩ := leadU_of (a := a)
  by_cases hc : b.toNat < 128 ∨ 191 < b.toNat
  · rw [if_pos hc, if_neg (by rw [cont1_iff]; omega)]
  · rw [if_neg hc]
    have hk : okR (lenU a) (0 + 1 + 1) (64 * leadU a + (b.toNat - 128)) = contU a 1 b := by
      rw [Bool.eq_iff_iff, cont1_iff]
      rcases first_cases a with ⟨e, _⟩ | ⟨e, h1⟩ | ⟨e, h1, h2⟩ | ⟨e, h1, h2⟩ | ⟨e, h1, h2⟩
      · omega
      · omega
      · rw [e, u2 (by omega) h2]; simp [okR, lowR, highR, leastU, mostU]; omega
      · rw [e, u3 h1 h2]; simp [okR, lowR, highR, leastU, mostU]; omega
      · rw [e, u4 h1]; simp [okR, lowR, highR, leastU, mostU]; omega
    simp only [hk]
theorem beg3 {a b c : UInt8} (h : 3 ≤ lenU a) (hb : contU a 1 b = true) : begR [a, b, c] = if contU a 2 c then some (lenU a, 64 * (64 * leadU a + (b.toNat - 128)) + (c.toNat - 128)) else none := by
  rw [begR_eq (by omega), if_neg (by simp; omega)]
  obtain ⟨b1, b2, b3, b4, b5, b6⟩ := cont1_range hb
  simp only [contR, List.length_cons, List.length_nil]
  rw [if_neg (by omega), cont_rest (by omega)]
  obtain ⟨u1, u2, u3, u4⟩ := leadU_of (a := a)
  by_cases hc : c.toNat < 128 ∨ 191 < c.toNat
  · rw [if_pos hc, if_neg (by simp; omega)]
  · rw [if_neg hc, if_pos (by simp; omega)]
    have hk : okR (lenU a) (0 + 1 + 1 + 1) (64 * (64 * leadU a + (b.toNat - 128)) + (c.toNat - 128)) = true := by
      rcases first_cases a with ⟨e, _⟩ | ⟨e, h1⟩ | ⟨e, h1, h2⟩ | ⟨e, h1, h2⟩ | ⟨e, h1, h2⟩
      · omega
      · omega
      · omega
      · rw [e, u3 h1 h2]; simp [okR, lowR, highR, leastU, mostU]; omega
      · rw [e, u4 h1]; simp [okR, lowR, highR, leastU, mostU]; omega
    exact if_pos hk
theorem beg4 {a b c d : UInt8} (h : lenU a = 4) (hb : contU a 1 b = true) (hc : contU a 2 c = true) : begR [a, b, c, d] = if contU a 3 d then some (4, 64 * (64 * (64 * leadU a + (b.toNat - 128)) + (c.toNat - 128)) + (d.toNat - 128)) else none := by
  rw [begR_eq (by omega), if_neg (by simp; omega)]
  obtain ⟨b1, b2, b3, b4, b5, b6⟩ := cont1_range hb
  rw [cont_rest (by omega)] at hc
  simp only [decide_eq_true_eq] at hc
  simp only [contR, List.length_cons, List.length_nil]
  rw [if_neg (by omega), if_neg (by omega), cont_rest (by omega)]
  obtain ⟨u1, u2, u3, u4⟩ := leadU_of (a := a)
  by_cases hd : d.toNat < 128 ∨ 191 < d.toNat
  · rw [if_pos hd, if_neg (by simp; omega)]
  · rw [if_neg hd, if_pos (by simp; omega)]
    have hk : okR (lenU a) (0 + 1 + 1 + 1 + 1) (64 * (64 * (64 * leadU a + (b.toNat - 128)) + (c.toNat - 128)) + (d.toNat - 128)) = true := by
      rcases first_cases a with ⟨e, _⟩ | ⟨e, h1⟩ | ⟨e, h1, h2⟩ | ⟨e, h1, h2⟩ | ⟨e, h1, h2⟩
      · omega
      · omega
      · omega
      · omega
      · rw [e, u4 h1]; simp [okR, lowR, highR, leastU, mostU]; omega
    rw [h] at hk ⊢
    exact if_pos hk
theorem run_stop (f : UInt8) (size i : Nat) (l : List UInt8) (h : size ≤ i) : runU f size i l = 0 := by
  cases l with
  | nil => rfl
  | cons c r => rw [runU, if_neg (by omega)]
theorem first_0 {a : UInt8} {r : List UInt8} (h : lenU a = 0) : firstR (a :: r) = decU (a :: r) := by
  have h1 : begR [a] = none := beg1_no (by
    rcases first_cases a with ⟨_, e⟩ | ⟨e, _⟩ | ⟨e, _⟩ | ⟨e, _⟩ | ⟨e, _⟩ <;> omega)
  simp [firstR, h1, decU, measU, h]
theorem first_1 {a : UInt8} {r : List UInt8} (h : lenU a = 1) : firstR (a :: r) = decU (a :: r) := by
  have h1 : begR [a] = some (1, leadU a) := by rw [beg1 (by omega), h]
  have h2 : measU (a :: r) = 1 := by rw [measU, if_neg (by omega), h, run_stop _ _ _ _ (Nat.le_refl _)]
  simp [firstR, h1, decU, h2, h, valU, foldU]
theorem first_2 {a : UInt8} {r : List UInt8} (h : lenU a = 2) : firstR (a :: r) = decU (a :: r) := by
  have h1 : begR [a] = some (2, leadU a) := by rw [beg1 (by omega), h]
  cases r with
  | nil => simp [firstR, h1, decU, measU, runU, h]
  | cons b s =>
    have h2 := beg2 (a := a) (b := b) (by omega)
    rw [h] at h2
    rcases hb : contU a 1 b with _ | _
    · rw [hb, if_neg (by simp)] at h2
      have h3 : measU (a :: b :: s) = 1 := by rw [measU, if_neg (by omega), h, runU, if_neg (by simp [hb])]
      simp [firstR, h1, h2, decU, h3, h]
    · rw [hb, if_pos rfl] at h2
      have h3 : measU (a :: b :: s) = 2 := by rw [measU, if_neg (by omega), h, runU, if_pos (by simp [hb]), run_stop _ _ _ _ (by omega)]
      simp [firstR, h1, h2, decU, h3, h, valU, foldU]
theorem first_3 {a : UInt8} {r : List UInt8} (h : lenU a = 3) : firstR (a :: r) = decU (a :: r) := by
  have h1 : begR [a] = some (3, leadU a) := by rw [beg1 (by omega), h]
  cases r with
  | nil => simp [firstR, h1, decU, measU, runU, h]
  | cons b s =>
    have h2 := beg2 (a := a) (b := b) (by omega)
    rw [h] at h2
    rcases hb : contU a 1 b with _ | _
    · rw [hb, if_neg (by simp)] at h2
      have h3 : measU (a :: b :: s) = 1 := by rw [measU, if_neg (by omega), h, runU, if_neg (by simp [hb])]
      cases s with
      | nil => simp [firstR, h1, h2, decU, h3, h]
      | cons c u =>
        have h4 : begR [a, b, c] = none := by
          rw [begR_eq (by omega), if_neg (by simp; omega)]
          have hc : contR (leadU a) [b, c] = none ∨ ∃ v, contR (leadU a) [b, c] = some v ∧ okR (lenU a) 3 v = false := by
            have hb' := hb
            rw [Bool.eq_false_iff, ne_eq, cont1_iff] at hb'
            obtain ⟨_, _, u3, _⟩ := leadU_of (a := a)
            have ha : 224 ≤ a.toNat ∧ a.toNat < 240 := by
              rcases first_cases a with ⟨e, _⟩ | ⟨e, _⟩ | ⟨e, _⟩ | ⟨e, g⟩ | ⟨e, _⟩ <;> omega
            simp only [contR]
            by_cases g1 : b.toNat < 128 ∨ 191 < b.toNat
            · left; rw [if_pos g1]
            · rw [if_neg g1]
              by_cases g2 : c.toNat < 128 ∨ 191 < c.toNat
              · left; rw [if_pos g2]
              · rw [if_neg g2]
                right
                refine ⟨_, rfl, ?_⟩
                rw [h, u3 ha.1 ha.2]; simp [okR, lowR, highR, leastU, mostU]; omega
          rcases hc with hc | ⟨v, hc, hk⟩
          · rw [hc]
          · rw [hc]; exact if_neg (by rw [show ([b, c] : List UInt8).length + 1 = 3 from rfl, hk]; decide)
        simp [firstR, h1, h4, decU, h3, h]
    · rw [hb, if_pos rfl] at h2
      cases s with
      | nil =>
        have h3 : measU [a, b] = 2 := by rw [measU, if_neg (by omega), h, runU, if_pos (by simp [hb])]; rfl
        simp [firstR, h1, h2, decU, h3, h]
      | cons c u =>
        have h4 := beg3 (a := a) (b := b) (c := c) (by omega) hb
        rw [h] at h4
        rcases hc : contU a 2 c with _ | _
        · rw [hc, if_neg (by simp)] at h4
          have h3 : measU (a :: b :: c :: u) = 2 := by rw [measU, if_neg (by omega), h, runU, if_pos (by simp [hb]), runU, if_neg (by simp [hc])]
          simp [firstR, h1, h4, decU, h3, h]
        · rw [hc, if_pos rfl] at h4
          have h3 : measU (a :: b :: c :: u) = 3 := by rw [measU, if_neg (by omega), h, runU, if_pos (by simp [hb]), runU, if_pos (by simp [hc]), run_stop _ _ _ _ (by omega)]
          simp [firstR, h1, h4, decU, h3, h, valU, foldU]
theorem no4 {a b c d : UInt8} (h : lenU a = 4) (hn : ¬ (contU a 1 b = true ∧ contU a 2 c = true)) : begR [a, b, c, d] = none ∧ begR [a, b, c] = none := by
  obtain ⟨_, _, _, u4⟩ := leadU_of (a := a)
  have ha : 240 ≤ a.toNat ∧ a.toNat < 245 := by
    rcases first_cases a with ⟨e, _⟩ | ⟨e, _⟩ | ⟨e, _⟩ | ⟨e, _⟩ | ⟨e, g⟩ <;> omega
  rw [cont1_iff, cont_rest (by omega), decide_eq_true_eq] at hn
  have key : ∀ l : List UInt8, l = [b, c, d] ∨ l = [b, c] → begR (a :: l) = none := by
    intro l hl
    rw [begR_eq (by omega), if_neg (by rcases hl with rfl | rfl <;> (simp; omega))]
    have hc : contR (leadU a) l = none ∨ ∃ v, contR (leadU a) l = some v ∧ okR (lenU a) (l.length + 1) v = false := by
      rcases hl with rfl | rfl
      · simp only [contR]
        by_cases g1 : b.toNat < 128 ∨ 191 < b.toNat
        · left; rw [if_pos g1]
        · rw [if_neg g1]
          by_cases g2 : c.toNat < 128 ∨ 191 < c.toNat
          · left; rw [if_pos g2]
          · rw [if_neg g2]
            by_cases g3 : d.toNat < 128 ∨ 191 < d.toNat
            · left; rw [if_pos g3]
            · rw [if_neg g3]
              right
              refine ⟨_, rfl, ?_⟩
              rw [h, u4 ha.1]; simp [okR, lowR, highR, leastU, mostU]; omega
      · simp only [contR]
        by_cases g1 : b.toNat < 128 ∨ 191 < b.toNat
        · left; rw [if_pos g1]
        · rw [if_neg g1]
          by_cases g2 : c.toNat < 128 ∨ 191 < c.toNat
          · left; rw [if_pos g2]
          · rw [if_neg g2]
            right
            refine ⟨_, rfl, ?_⟩
            rw [h, u4 ha.1]; simp [okR, lowR, highR, leastU, mostU]; omega
    rcases hc with hc | ⟨v, hc, hk⟩
    · rw [hc]
    · rw [hc]; exact if_neg (by rw [hk]; decide)
  exact ⟨key _ (.inl rfl), key _ (.inr rfl)⟩
theorem first_4 {a : UInt8} {r : List UInt8} (h : lenU a = 4) : firstR (a :: r) = decU (a :: r) := by
  have h1 : begR [a] = some (4, leadU a) := by rw [beg1 (by omega), h]
  cases r with
  | nil => simp [firstR, h1, decU, measU, runU, h]
  | cons b s =>
    have h2 := beg2 (a := a) (b := b) (by omega)
    rw [h] at h2
    cases s with
    | nil =>
      rcases hb : contU a 1 b with _ | _
      · rw [hb, if_neg (by simp)] at h2
        have h3 : measU [a, b] = 1 := by rw [measU, if_neg (by omega), h, runU, if_neg (by simp [hb])]
        simp [firstR, h1, h2, decU, h3, h]
      · rw [hb, if_pos rfl] at h2
        have h3 : measU [a, b] = 2 := by rw [measU, if_neg (by omega), h, runU, if_pos (by simp [hb])]; rfl
        simp [firstR, h1, h2, decU, h3, h]
    | cons c u =>
      cases u with
      | nil =>
        rcases hb : contU a 1 b with _ | _
        · have h3 : measU [a, b, c] = 1 := by rw [measU, if_neg (by omega), h, runU, if_neg (by simp [hb])]
          have h4 := (no4 (d := c) h (by simp [hb] : ¬ (contU a 1 b = true ∧ contU a 2 c = true))).2
          simp [firstR, h1, h4, decU, h3, h]
        · have h4 := beg3 (a := a) (b := b) (c := c) (by omega) hb
          rw [h] at h4
          rcases hc : contU a 2 c with _ | _
          · rw [hc, if_neg (by simp)] at h4
            have h3 : measU [a, b, c] = 2 := by rw [measU, if_neg (by omega), h, runU, if_pos (by simp [hb]), runU, if_neg (by simp [hc])]
            simp [firstR, h1, h4, decU, h3, h]
          · rw [hc, if_pos rfl] at h4
            have h3 : measU [a, b, c] = 3 := by rw [measU, if_neg (by omega), h, runU, if_pos (by simp [hb]), runU, if_pos (by simp [hc])]; rfl
            simp [firstR, h1, h4, decU, h3, h]
      | cons d x =>
        rcases hb : contU a 1 b with _ | _
        · have h3 : measU (a :: b :: c :: d :: x) = 1 := by rw [measU, if_neg (by omega), h, runU, if_neg (by simp [hb])]
          have h4 := (no4 (d := d) h (by simp [hb] : ¬ (contU a 1 b = true ∧ contU a 2 c = true))).1
          simp [firstR, h1, h4, decU, h3, h]
        · rcases hc : contU a 2 c with _ | _
          · have h3 : measU (a :: b :: c :: d :: x) = 2 := by rw [measU, if_neg (by omega), h, runU, if_pos (by simp [hb]), runU, if_neg (by simp [hc])]
            have h4 := (no4 (d := d) h (by simp [hc] : ¬ (contU a 1 b = true ∧ contU a 2 c = true))).1
            simp [firstR, h1, h4, decU, h3, h]
          · have h4 := beg4 (a := a) (b := b) (c := c) (d := d) h hb hc
            rcases hd : contU a 3 d with _ | _
            · rw [hd, if_neg (by simp)] at h4
              have h3 : measU (a :: b :: c :: d :: x) = 3 := by rw [measU, if_neg (by omega), h, runU, if_pos (by simp [hb]), runU, if_pos (by simp [hc]), runU, if_neg (by simp [hd])]
              simp [firstR, h1, h4, decU, h3, h]
            · rw [hd, if_pos rfl] at h4
              have h3 : measU (a :: b :: c :: d :: x) = 4 := by rw [measU, if_neg (by omega), h, runU, if_pos (by simp [hb]), runU, if_pos (by simp [hc]), runU, if_pos (by simp [hd]), run_stop _ _ _ _ (by omega)]
              simp [firstR, h1, h4, decU, h3, h, valU, foldU]
/-- The reference's first code point is the program's. -/
theorem firstR_eq (a : UInt8) (r : List UInt8) : firstR (a :: r) = decU (a :: r) := by
  rcases first_cases a with ⟨e, _⟩ | ⟨e, _⟩ | ⟨e, _⟩ | ⟨e, _⟩ | ⟨e, _⟩
  · exact first_0 e
  · exact first_1 e
  · exact first_2 e
  · exact first_3 e
  · exact first_4 e
end Go.Proofs.YtghjgbkhhoaebaaGreatDoor

namespace Go.Proofs.YtghjgbkhhoaebaaGreatDoor
set_option linter.unusedSimpArgs false
set_option linter.unusedVariables false

/-- Where the first element lies that p accepts, or -1. -/
def findI {α : Type} (p : α → Bool) : List α → Nat → Int
  | [], _ => -1
  | x :: r, k => if p x then (k : Int) else findI p r (k + 1)

theorem findI_geq {α : Type} (p : α → Bool) (l : List α) : ∀ k : Nat, decide (0 ≤ findI p l k) = l.any p := by
  induction l with
  | nil => intro k; simp [findI]
  | cons x r ih => intro k; by_cases h : p x = true <;> simp [findI, h, ← ih (k + 1)]
theorem findI_range {α : Type} (p : α → Bool) (l : List α) : ∀ k : Nat, findI p l k = -1 ∨ (k ≤ findI p l k ∧ findI p l k < k + l.length) := by
  induction l with
  | nil => intro k; simp [findI]
  | cons x r ih =>
    intro k
    by_cases h : p x = true
    · simp [findI, h]; omega
    · have := ih (k + 1); simp [findI, h] at this ⊢; omega

end Go.Proofs.YtghjgbkhhoaebaaGreatDoor

namespace Go.Proofs.YtghjgbkhhoaebaaGreatDoor
set_option linter.unusedSimpArgs false
set_option linter.unusedVariables false

/-- The lines of a field: the current line, and the words that are still to come. -/
def foldW : List (List UInt8) → Bool → List UInt8 → List UInt8
  | [], _, line => line ++ [10]
  | x :: r, first, line => if first = true ∨ line.length + 1 + x.length ≤ 78 then foldW r false (line ++ ([32] ++ x)) else line ++ [10] ++ foldW r false ([32] ++ x)
def foldF (name body : List UInt8) : List UInt8 := foldW (words body) true (name ++ [58])

def wsum (ws : List (List UInt8)) : Nat := (ws.map fun x => x.length + 2).sum
theorem foldW_le (ws : List (List UInt8)) : ∀ f line, (foldW ws f line).length ≤ line.length + 1 + wsum ws := by
  induction ws with
  | nil => intro f line; simp [foldW, wsum]
  | cons x r ih =>
    intro f line
    simp only [foldW]
    split
    · have := ih false (line ++ ([32] ++ x)); simp [wsum] at this ⊢; omega
    · have := ih false ([32] ++ x); simp [wsum] at this ⊢; omega
theorem foldW_ge (ws : List (List UInt8)) : ∀ f line, line.length + 1 ≤ (foldW ws f line).length := by
  induction ws with
  | nil => intro f line; simp [foldW]
  | cons x r ih =>
    intro f line
    simp only [foldW]
    split
    · have := ih false (line ++ ([32] ++ x)); simp at this ⊢; omega
    · simp
theorem foldW_ge2 (x : List UInt8) (r : List (List UInt8)) (f : Bool) (line : List UInt8) : line.length + x.length + 2 ≤ (foldW (x :: r) f line).length := by
  simp only [foldW]
  split
  · have := foldW_ge r false (line ++ ([32] ++ x)); simp at this ⊢; omega
  · have := foldW_ge r false ([32] ++ x); simp at this ⊢; omega
theorem wsum_joinSp (ws : List (List UInt8)) : wsum ws ≤ (joinSp ws).length + 1 + ws.length := by
  induction ws with
  | nil => simp [wsum]
  | cons x r ih =>
    cases r with
    | nil => simp [wsum, joinSp]
    | cons y r => simp [wsum, joinSp] at ih ⊢; omega
theorem foldF_le (name body : List UInt8) : (foldF name body).length ≤ name.length + 2 * body.length + 5 := by
  have h1 := foldW_le (words body) true (name ++ [58])
  have h2 := wsum_joinSp (words body)
  have h3 := squeeze_le body
  have h4 := wordsAux_sum body []
  unfold squeeze at h3
  rw [← words] at h4
  simp [foldF] at h1 ⊢
  omega

/-- What has been written, and what is still to come. -/
def FoldAt (F : List UInt8) (ws : List (List UInt8)) (k : Nat) (out line : List UInt8) : Prop := F = out ++ foldW (ws.drop k) (decide (k = 0)) line
theorem FoldAt.start (name body : List UInt8) : FoldAt (foldF name body) (words body) 0 [] (name ++ [58]) := by simp [FoldAt, foldF]
theorem FoldAt.len {F : List UInt8} {ws : List (List UInt8)} {k : Nat} {out line : List UInt8} (h : FoldAt F ws k out line) : out.length + line.length + 1 ≤ F.length := by
  rw [h]; have := foldW_ge (ws.drop k) (decide (k = 0)) line; simp; omega
theorem FoldAt.len2 {F : List UInt8} {ws : List (List UInt8)} {k : Nat} {out line : List UInt8} (h : FoldAt F ws k out line) (hk : k < ws.length) : out.length + line.length + ws[k].length + 2 ≤ F.length := by
  have := foldW_ge2 ws[k] (ws.drop (k + 1)) (decide (k = 0)) line
  rw [← List.drop_eq_getElem_cons hk] at this
  rw [h]; simp only [List.length_append]; omega
theorem FoldAt.fits {F : List UInt8} {ws : List (List UInt8)} {k : Nat} {out line : List UInt8} (h : FoldAt F ws k out line) (hk : k < ws.length) (hc : k = 0 ∨ line.length + 1 + ws[k].length ≤ 78) : FoldAt F ws (k + 1) out (line ++ ([32] ++ ws[k])) := by
  unfold FoldAt at *
  rw [h, List.drop_eq_getElem_cons hk, foldW, if_pos (by simpa using hc)]; simp
theorem FoldAt.turns {F : List UInt8} {ws : List (List UInt8)} {k : Nat} {out line : List UInt8} (h : FoldAt F ws k out line) (hk : k < ws.length) (h0 : 0 < k) (hc : ¬ line.length + 1 + ws[k].length ≤ 78) : FoldAt F ws (k + 1) (out ++ (line ++ [10])) ([32] ++ ws[k]) := by
  unfold FoldAt at *
  rw [h, List.drop_eq_getElem_cons hk, foldW, if_neg (by simp; omega)]; simp
theorem FoldAt.done {F : List UInt8} {ws : List (List UInt8)} {k : Nat} {out line : List UInt8} (h : FoldAt F ws k out line) (hk : ws.length ≤ k) : out ++ (line ++ [10]) = F := by
  rw [h, List.drop_eq_nil_of_le hk, foldW]

end Go.Proofs.YtghjgbkhhoaebaaGreatDoor

namespace Go.Proofs.YtghjgbkhhoaebaaGreatDoor
set_option linter.unusedSimpArgs false
set_option linter.unusedVariables false

/-- A field: its name and its body. -/
abbrev Fd := List UInt8 × List UInt8

end Go.Proofs.YtghjgbkhhoaebaaGreatDoor
