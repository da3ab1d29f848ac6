/- Plain functions on texts: words. No program here. -/
import Derived.Test.YtcknomaaikeebaaDoorBytes
namespace Go.Proofs.YtcknomaaikeebaaDoor
set_option linter.unusedSimpArgs false
set_option linter.unusedVariables false

def ofL (l : List UInt8) : ByteArray := ⟨l.toArray⟩
theorem toL_ofL (l : List UInt8) : toL (ofL l) = l := rfl
theorem ofL_toL (s : ByteArray) : ofL (toL s) = s := toL_inj (toL_ofL _)
theorem ofL_size (l : List UInt8) : (ofL l).size = l.length := by rw [← toL_length, toL_ofL]

/-- The bytes from i to k. -/
def cutL (l : List UInt8) (i k : Nat) : List UInt8 := (l.drop i).take (k - i)
theorem extract_ofL (s : ByteArray) (i k : Nat) : s.extract i k = ofL (cutL (toL s) i k) := by
  apply toL_inj
  rw [toL_ofL]
  simp [toL, cutL, List.extract]
theorem cutL_length (l : List UInt8) (i k : Nat) (h : k ≤ l.length) : (cutL l i k).length = k - i := by simp [cutL]; omega

/-- The maximal runs of bytes that are no blanks; cur: what has been read of the current one. -/
def wordsAux : List UInt8 → List UInt8 → List (List UInt8)
  | [], cur => if cur = [] then [] else [cur]
  | c :: r, cur => if isBlank (num c) then (if cur = [] then wordsAux r [] else cur :: wordsAux r []) else wordsAux r (cur ++ [c])
def words (l : List UInt8) : List (List UInt8) := wordsAux l []

theorem wordsAux_run (l : List UInt8) : ∀ cur, cur ≠ [] → wordsAux l cur = (cur ++ l.takeWhile fun c => !isBlank (num c)) :: words (l.dropWhile fun c => !isBlank (num c)) := by
  induction l with
  | nil => intro cur h; simp [wordsAux, words, h]
  | cons c r ih =>
    intro cur h
    by_cases hb : isBlank (num c) = true
    · simp [wordsAux, hb, h, words]
    · have hb' : isBlank (num c) = false := by simpa using hb
      simp [wordsAux, hb', ih (cur ++ [c]) (by simp)]
theorem words_blanks (l : List UInt8) : words l = words (l.dropWhile fun c => isBlank (num c)) := by
  induction l with
  | nil => rfl
  | cons c r ih =>
    by_cases hb : isBlank (num c) = true
    · simp [words, wordsAux, hb] at ih ⊢; exact ih
    · have hb' : isBlank (num c) = false := by simpa using hb
      simp [hb']
theorem words_run (c : UInt8) (r : List UInt8) (h : isBlank (num c) = false) :
    words (c :: r) = ((c :: r).takeWhile fun c => !isBlank (num c)) :: words ((c :: r).dropWhile fun c => !isBlank (num c)) := by
  simp [words, wordsAux, h, wordsAux_run r [c] (by simp)]
theorem words_nil : words [] = [] := rfl

theorem dropWhile_eq_drop (p : UInt8 → Bool) (l : List UInt8) : l.dropWhile p = l.drop (l.takeWhile p).length := by
  induction l with
  | nil => rfl
  | cons c r ih => by_cases h : p c = true <;> simp [h, ih]
theorem takeWhile_eq_take (p : UInt8 → Bool) (l : List UInt8) : l.takeWhile p = l.take (l.takeWhile p).length := by
  induction l with
  | nil => rfl
  | cons c r ih => by_cases h : p c = true <;> simp [h]; exact ih

theorem drop_skip (p : Int → Bool) (l : List UInt8) (k : Nat) : l.drop (skipFrom p l k) = (l.drop k).dropWhile fun c => p (num c) := by
  rw [dropWhile_eq_drop, List.drop_drop, skipFrom]
theorem cut_skip (p : Int → Bool) (l : List UInt8) (k : Nat) : cutL l k (skipFrom p l k) = (l.drop k).takeWhile fun c => p (num c) := by
  rw [takeWhile_eq_take, cutL, skipFrom]; congr 1; omega

/-- One round of Words: the blanks, then the word. -/
theorem words_round (l : List UInt8) (k f t : Nat) (hf : f = skipFrom isBlank l k) (ht : t = skipFrom (fun c => !isBlank c) l f) :
    words (l.drop k) = (if f < t then [cutL l f t] else []) ++ words (l.drop t) := by
  rw [words_blanks (l.drop k), ← drop_skip isBlank l k, ← hf]
  cases e : l.drop f with
  | nil =>
    have h0 : t = f := by rw [ht]; simp [skipFrom, e]
    simp [h0, e, words_nil]
  | cons c r =>
    have hc : isBlank (num c) = false := by
      have := drop_skip isBlank l k
      rw [← hf, e] at this
      have h2 := List.head?_dropWhile_not (fun c => isBlank (num c)) (l.drop k)
      rw [← this] at h2
      simpa using h2
    have hlt : f < t := by rw [ht, skipFrom, e]; simp [hc]
    rw [if_pos hlt, words_run c r hc, ← e]
    have h1 := cut_skip (fun c => !isBlank c) l f
    have h2 := drop_skip (fun c => !isBlank c) l f
    rw [← ht] at h1 h2
    rw [← h1, ← h2]; rfl

theorem words_progress (l : List UInt8) (k f t : Nat) (hf : f = skipFrom isBlank l k) (ht : t = skipFrom (fun c => !isBlank c) l f) (hk : k < l.length) : k < t := by
  have h1 := skipFrom_ge isBlank l k
  have h2 := skipFrom_ge (fun c => !isBlank c) l f
  rw [← ht] at h2
  rw [← hf] at h1
  by_cases hb : isBlank (num l[k]) = true
  · have := skipFrom_step isBlank l k hk hb
    have h3 := skipFrom_ge isBlank l (k + 1)
    omega
  · have hb' : isBlank (num l[k]) = false := by simpa using hb
    have h4 := skipFrom_stop isBlank l k hk hb'
    have h5 : f = k := by omega
    subst h5
    have := skipFrom_step (fun c => !isBlank c) l f hk (by simp [hb'])
    have h6 := skipFrom_ge (fun c => !isBlank c) l (f + 1)
    omega

theorem wordsAux_sum (l : List UInt8) : ∀ cur, (wordsAux l cur).length ≤ l.length + 1 := by
  induction l with
  | nil => intro cur; simp [wordsAux]; split <;> simp
  | cons c r ih =>
    intro cur
    simp only [wordsAux]
    have h1 := ih []; have h2 := ih (cur ++ [c])
    split
    · split
      · simp; omega
      · simp; omega
    · simp; omega


/-- Words joined by single spaces. -/
def joinSp : List (List UInt8) → List UInt8
  | [] => []
  | [x] => x
  | x :: y :: r => x ++ 32 :: joinSp (y :: r)
theorem joinSp_inter (l : List (List UInt8)) : [32].intercalate l = joinSp l := by
  induction l with
  | nil => rfl
  | cons x r ih =>
    cases r with
    | nil => simp [joinSp, List.intercalate]
    | cons y r => simp [joinSp, ← ih, List.intercalate]
theorem joinSp_snoc (l : List (List UInt8)) (x : List UInt8) (h : l ≠ []) : joinSp (l ++ [x]) = joinSp l ++ [32] ++ x := by
  induction l with
  | nil => exact absurd rfl h
  | cons y r ih =>
    cases r with
    | nil => simp [joinSp]
    | cons z r =>
      have := ih (by simp)
      simp [joinSp] at this ⊢
      rw [this]
theorem joinSp_cons (x : List UInt8) (l : List (List UInt8)) (h : l ≠ []) : joinSp (x :: l) = x ++ 32 :: joinSp l := by
  cases l with
  | nil => exact absurd rfl h
  | cons y r => rfl
def squeeze (l : List UInt8) : List UInt8 := joinSp (words l)

theorem joinSp_wordsAux_le (l : List UInt8) : ∀ cur, (joinSp (wordsAux l cur)).length ≤ cur.length + l.length := by
  induction l with
  | nil => intro cur; simp only [wordsAux]; split <;> simp [joinSp]
  | cons c r ih =>
    intro cur
    simp only [wordsAux]
    split
    · split
      · have := ih []; simp at this ⊢; omega
      · have h := ih []
        by_cases e : wordsAux r [] = []
        · rw [e]; simp [joinSp]
        · rw [joinSp_cons _ _ e]; simp at h ⊢; omega
    · have := ih (cur ++ [c]); simp at this ⊢; omega
theorem squeeze_le (l : List UInt8) : (squeeze l).length ≤ l.length := by
  have := joinSp_wordsAux_le l []; simpa [squeeze, words] using this


theorem joinSp_take_le (l : List (List UInt8)) : ∀ k, (joinSp (l.take k)).length ≤ (joinSp l).length := by
  induction l with
  | nil => intro k; simp
  | cons x r ih =>
    intro k
    cases k with
    | zero => simp [joinSp]
    | succ k =>
      cases r with
      | nil => simp [joinSp]
      | cons y r =>
        have := ih k
        cases k with
        | zero => simp [joinSp]
        | succ k => simp [joinSp] at this ⊢; omega
theorem joinSp_mem_le (l : List (List UInt8)) (x : List UInt8) (h : x ∈ l) : x.length ≤ (joinSp l).length := by
  induction l with
  | nil => cases h
  | cons y r ih =>
    cases r with
    | nil => simp at h; subst h; simp [joinSp]
    | cons z r =>
      rcases List.mem_cons.1 h with rfl | h
      · simp [joinSp]
      · have := ih h; simp [joinSp] at this ⊢; omega
theorem joinSp_step (l : List (List UInt8)) (k : Nat) (h : k < l.length) (h0 : 0 < k) : joinSp (l.take (k + 1)) = joinSp (l.take k) ++ [32] ++ l[k] := by
  rw [List.take_succ_eq_append_getElem h, joinSp_snoc _ _ (fun e => by have h1 := congrArg List.length e; rw [List.length_take, List.length_nil] at h1; omega)]

end Go.Proofs.YtcknomaaikeebaaDoor
