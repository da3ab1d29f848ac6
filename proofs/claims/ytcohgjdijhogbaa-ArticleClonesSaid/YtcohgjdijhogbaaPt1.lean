/- Lemmas and walks, part 1. -/

namespace Go.Proofs.Ytcohgjdijhogbaa
set_option linter.unusedSimpArgs false
set_option linter.unusedVariables false

def isLower (c : Int) : Bool := decide (97 ≤ c) && decide (c ≤ 122)
def isUpper (c : Int) : Bool := decide (65 ≤ c) && decide (c ≤ 90)
def isLetter (c : Int) : Bool := isLower c || isUpper c
def isDigit (c : Int) : Bool := decide (48 ≤ c) && decide (c ≤ 57)
def isVisible (c : Int) : Bool := decide (33 ≤ c) && decide (c ≤ 126)
def isBlank (c : Int) : Bool := (c == 32) || (c == 9)

/-- A byte as the number that the walk shows. -/
abbrev num (c : UInt8) : Int := (c.toNat : Int)

def toL (s : ByteArray) : List UInt8 := s.data.toList
theorem toL_length (s : ByteArray) : (toL s).length = s.size := by simp [toL]
theorem toL_getElem (s : ByteArray) (k : Nat) (h : k < s.size) : (toL s)[k]'(by rw [toL_length]; exact h) = s[k] := by simp [toL]; rfl
theorem toL_inj {s t : ByteArray} (h : toL s = toL t) : s = t := by
  cases s with | mk a => cases t with | mk b => exact congrArg _ (Array.toList_inj.1 h)

/-- The first offset from k on whose byte is outside the class p. -/
def skipFrom (p : Int → Bool) (l : List UInt8) (k : Nat) : Nat := k + ((l.drop k).takeWhile fun c => p (num c)).length

theorem drop_cons (l : List UInt8) (k : Nat) (h : k < l.length) : l.drop k = l[k] :: l.drop (k + 1) := List.drop_eq_getElem_cons h

theorem skipFrom_end (p : Int → Bool) (l : List UInt8) (k : Nat) (h : l.length ≤ k) : skipFrom p l k = k := by
  simp [skipFrom, List.drop_eq_nil_of_le h]
theorem skipFrom_stop (p : Int → Bool) (l : List UInt8) (k : Nat) (h : k < l.length) (hp : p (num l[k]) = false) : skipFrom p l k = k := by
  rw [skipFrom, drop_cons l k h, List.takeWhile_cons, hp]; simp
theorem skipFrom_step (p : Int → Bool) (l : List UInt8) (k : Nat) (h : k < l.length) (hp : p (num l[k]) = true) : skipFrom p l k = skipFrom p l (k + 1) := by
  rw [skipFrom, skipFrom, drop_cons l k h, List.takeWhile_cons, hp]; simp; omega
theorem skipFrom_ge (p : Int → Bool) (l : List UInt8) (k : Nat) : k ≤ skipFrom p l k := by simp [skipFrom]
theorem skipFrom_le (p : Int → Bool) (l : List UInt8) (k : Nat) (h : k ≤ l.length) : skipFrom p l k ≤ l.length := by
  have h1 := (List.takeWhile_prefix (l := l.drop k) (fun c => p (num c))).length_le
  simp [skipFrom] at *; omega

end Go.Proofs.Ytcohgjdijhogbaa

namespace Go.Proofs.Ytcohgjdijhogbaa
set_option linter.unusedSimpArgs false
set_option linter.unusedVariables false

def ofL (l : List UInt8) : ByteArray := ⟨l.toArray⟩
theorem toL_ofL (l : List UInt8) : toL (ofL l) = l := rfl
theorem ofL_toL (s : ByteArray) : ofL (toL s) = s := toL_inj (toL_ofL _)
theorem ofL_size (l : List UInt8) : (ofL l).size = l.length := by rw [← toL_length, toL_ofL]

/-- The bytes from i to k. -/
def cutL (l : List UInt8) (i k : Nat) : List UInt8 := (l.drop i).take (k - i)
theorem extract_ofL (s : ByteArray) (i k : Nat) : s.extract i k = ofL (cutL (toL s) i k) := by
  apply toL_inj
  rw [toL_ofL]
  simp [toL, cutL, List.extract]
theorem cutL_length (l : List UInt8) (i k : Nat) (h : k ≤ l.length) : (cutL l i k).length = k - i := by simp [cutL]; omega

/-- The maximal runs of bytes that are no blanks; cur: what has been read of the current one. -/
def wordsAux : List UInt8 → List UInt8 → List (List UInt8)
  | [], cur => if cur = [] then [] else [cur]
  | c :: r, cur => if isBlank (num c) then (if cur = [] then wordsAux r [] else cur :: wordsAux r []) else wordsAux r (cur ++ [c])
def words (l : List UInt8) : List (List UInt8) := wordsAux l []

theorem wordsAux_run (l : List UInt8) : ∀ cur, cur ≠ [] → wordsAux l cur = (cur ++ l.takeWhile fun c => !isBlank (num c)) :: words (l.dropWhile fun c => !isBlank (num c)) := by
  induction l with
  | nil => intro cur h; simp [wordsAux, words, h]
  | cons c r ih =>
    intro cur h
    by_cases hb : isBlank (num c) = true
    · simp [wordsAux, hb, h, words]
    · have hb' : isBlank (num c) = false := by simpa using hb
      simp [wordsAux, hb', ih (cur ++ [c]) (by simp)]
theorem words_blanks (l : List UInt8) : words l = words (l.dropWhile fun c => isBlank (num c)) := by
  induction l with
  | nil => rfl
  | cons c r ih =>
    by_cases hb : isBlank (num c) = true
    · simp [words, wordsAux, hb] at ih ⊢; exact ih
    · have hb' : isBlank (num c) = false := by simpa using hb
      simp [hb']
theorem words_run (c : UInt8) (r : List UInt8) (h : isBlank (num c) = false) :
    words (c :: r) = ((c :: r).takeWhile fun c => !isBlank (num c)) :: words ((c :: r).dropWhile fun c => !isBlank (num c)) := by
  simp [words, wordsAux, h, wordsAux_run r [c] (by simp)]
theorem words_nil : words [] = [] := rfl

theorem dropWhile_eq_drop (p : UInt8 → Bool) (l : List UInt8) : l.dropWhile p = l.drop (l.takeWhile p).length := by
  induction l with
  | nil => rfl
  | cons c r ih => by_cases h : p c = true <;> simp [h, ih]
theorem takeWhile_eq_take (p : UInt8 → Bool) (l : List UInt8) : l.takeWhile p = l.take (l.takeWhile p).length := by
  induction l with
  | nil => rfl
  | cons c r ih => by_cases h : p c = true <;> simp [h]; exact ih

theorem drop_skip (p : Int → Bool) (l : List UInt8) (k : Nat) : l.drop (skipFrom p l k) = (l.drop k).dropWhile fun c => p (num c) := by
  rw [dropWhile_eq_drop, List.drop_drop, skipFrom]
theorem cut_skip (p : Int → Bool) (l : List UInt8) (k : Nat) : cutL l k (skipFrom p l k) = (l.drop k).takeWhile fun c => p (num c) := by
  rw [takeWhile_eq_take, cutL, skipFrom]; congr 1; omega

/-- One round of Words: the blanks, then the word. -/
theorem words_round (l : List UInt8) (k f t : Nat) (hf : f = skipFrom isBlank l k) (ht : t = skipFrom (fun c => !isBlank c) l f) :
    words (l.drop k) = (if f < t then [cutL l f t] else []) ++ words (l.drop t) := by
  rw [words_blanks (l.drop k), ← drop_skip isBlank l k, ← hf]
  cases e : l.drop f with
  | nil =>
    have h0 : t = f := by rw [ht]; simp [skipFrom, e]
    simp [h0, e, words_nil]
  | cons c r =>
    have hc : isBlank (num c) = false := by
      have := drop_skip isBlank l k
      rw [← hf, e] at this
      have h2 := List.head?_dropWhile_not (fun c => isBlank (num c)) (l.drop k)
      rw [← this] at h2
      simpa using h2
    have hlt : f < t := by rw [ht, skipFrom, e]; simp [hc]
    rw [if_pos hlt, words_run c r hc, ← e]
    have h1 := cut_skip (fun c => !isBlank c) l f
    have h2 := drop_skip (fun c => !isBlank c) l f
    rw [← ht] at h1 h2
    rw [← h1, ← h2]; rfl

theorem words_progress (l : List UInt8) (k f t : Nat) (hf : f = skipFrom isBlank l k) (ht : t = skipFrom (fun c => !isBlank c) l f) (hk : k < l.length) : k < t := by
  have h1 := skipFrom_ge isBlank l k
  have h2 := skipFrom_ge (fun c => !isBlank c) l f
  rw [← ht] at h2
  rw [← hf] at h1
  by_cases hb : isBlank (num l[k]) = true
  · have := skipFrom_step isBlank l k hk hb
    have h3 := skipFrom_ge isBlank l (k + 1)
    omega
  · have hb' : isBlank (num l[k]) = false := by simpa using hb
    have h4 := skipFrom_stop isBlank l k hk hb'
    have h5 : f = k := by omega
    subst h5
    have := skipFrom_step (fun c => !isBlank c) l f hk (by simp [hb'])
    have h6 := skipFrom_ge (fun c => !isBlank c) l (f + 1)
    omega

theorem wordsAux_sum (l : List UInt8) : ∀ cur, (wordsAux l cur).length ≤ l.length + 1 := by
  induction l with
  | nil => intro cur; simp [wordsAux]; split <;> simp
  | cons c r ih =>
    intro cur
    simp only [wordsAux]
    have h1 := ih []; have h2 := ih (cur ++ [c])
    split
    · split
      · simp; omega
      · simp; omega
    · simp; omega


/-- Words joined by single spaces. -/
def joinSp : List (List UInt8) → List UInt8
  | [] => []
  | [x] => x
  | x :: y :: r => x ++ 32 :: joinSp (y :: r)
theorem joinSp_inter (l : List (List UInt8)) : [32].intercalate l = joinSp l := by
  induction l with
  | nil => rfl
  | cons x r ih =>
    cases r with
    | nil => simp [joinSp, List.intercalate]
    | cons y r => simp [joinSp, ← ih, List.intercalate]
theorem joinSp_snoc (l : List (List UInt8)) (x : List UInt8) (h : l ≠ []) : joinSp (l ++ [x]) = joinSp l ++ [32] ++ x := by
  induction l with
  | nil => exact absurd rfl h
  | cons y r ih =>
    cases r with
    | nil => simp [joinSp]
    | cons z r =>
      have := ih (by simp)
      simp [joinSp] at this ⊢
      rw [this]
theorem joinSp_cons (x : List UInt8) (l : List (List UInt8)) (h : l ≠ []) : joinSp (x :: l) = x ++ 32 :: joinSp l := by
  cases l with
  | nil => exact absurd rfl h
  | cons y r => rfl
def squeeze (l : List UInt8) : List UInt8 := joinSp (words l)

theorem joinSp_wordsAux_le (l : List UInt8) : ∀ cur, (joinSp (wordsAux l cur)).length ≤ cur.length + l.length := by
  induction l with
  | nil => intro cur; simp only [wordsAux]; split <;> simp [joinSp]
  | cons c r ih =>
    intro cur
    simp only [wordsAux]
    split
    · split
      · have := ih []; simp at this ⊢; omega
      · have h := ih []
        by_cases e : wordsAux r [] = []
        · rw [e]; simp [joinSp]
        · rw [joinSp_cons _ _ e]; simp at h ⊢; omega
    · have := ih (cur ++ [c]); simp at this ⊢; omega
theorem squeeze_le (l : List UInt8) : (squeeze l).length ≤ l.length := by
  have := joinSp_wordsAux_le l []; simpa [squeeze, words] using this


theorem joinSp_take_le (l : List (List UInt8)) : ∀ k, (joinSp (l.take k)).length ≤ (joinSp l).length := by
  induction l with
  | nil => intro k; simp
  | cons x r ih =>
    intro k
    cases k with
    | zero => simp [joinSp]
    | succ k =>
      cases r with
      | nil => simp [joinSp]
      | cons y r =>
        have := ih k
        cases k with
        | zero => simp [joinSp]
        | succ k => simp [joinSp] at this ⊢; omega
theorem joinSp_mem_le (l : List (List UInt8)) (x : List UInt8) (h : x ∈ l) : x.length ≤ (joinSp l).length := by
  induction l with
  | nil => cases h
  | cons y r ih =>
    cases r with
    | nil => simp at h; subst h; simp [joinSp]
    | cons z r =>
      rcases List.mem_cons.1 h with rfl | h
      · simp [joinSp]
      · have := ih h; simp [joinSp] at this ⊢; omega
theorem joinSp_step (l : List (List UInt8)) (k : Nat) (h : k < l.length) (h0 : 0 < k) : joinSp (l.take (k + 1)) = joinSp (l.take k) ++ [32] ++ l[k] := by
  rw [List.take_succ_eq_append_getElem h, joinSp_snoc _ _ (fun e => by have h1 := congrArg List.length e; rw [List.length_take, List.length_nil] at h1; omega)]

end Go.Proofs.Ytcohgjdijhogbaa

namespace Go.Proofs.Ytcohgjdijhogbaa
set_option linter.unusedSimpArgs false
set_option linter.unusedVariables false

/-- Where the first element lies that p accepts, or -1. -/
def findI {α : Type} (p : α → Bool) : List α → Nat → Int
  | [], _ => -1
  | x :: r, k => if p x then (k : Int) else findI p r (k + 1)

theorem findI_geq {α : Type} (p : α → Bool) (l : List α) : ∀ k : Nat, decide (0 ≤ findI p l k) = l.any p := by
  induction l with
  | nil => intro k; simp [findI]
  | cons x r ih => intro k; by_cases h : p x = true <;> simp [findI, h, ← ih (k + 1)]
theorem findI_range {α : Type} (p : α → Bool) (l : List α) : ∀ k : Nat, findI p l k = -1 ∨ (k ≤ findI p l k ∧ findI p l k < k + l.length) := by
  induction l with
  | nil => intro k; simp [findI]
  | cons x r ih =>
    intro k
    by_cases h : p x = true
    · simp [findI, h]; omega
    · have := ih (k + 1); simp [findI, h] at this ⊢; omega

end Go.Proofs.Ytcohgjdijhogbaa

namespace Go.Proofs.Ytcohgjdijhogbaa
set_option linter.unusedSimpArgs false
set_option linter.unusedVariables false

/-- The lines of a field: the current line, and the words that are still to come. -/
def foldW : List (List UInt8) → Bool → List UInt8 → List UInt8
  | [], _, line => line ++ [10]
  | x :: r, first, line => if first = true ∨ line.length + 1 + x.length ≤ 78 then foldW r false (line ++ ([32] ++ x)) else line ++ [10] ++ foldW r false ([32] ++ x)
def foldF (name body : List UInt8) : List UInt8 := foldW (words body) true (name ++ [58])

def wsum (ws : List (List UInt8)) : Nat := (ws.map fun x => x.length + 2).sum
theorem foldW_le (ws : List (List UInt8)) : ∀ f line, (foldW ws f line).length ≤ line.length + 1 + wsum ws := by
  induction ws with
  | nil => intro f line; simp [foldW, wsum]
  | cons x r ih =>
    intro f line
    simp only [foldW]
    split
    · have := ih false (line ++ ([32] ++ x)); simp [wsum] at this ⊢; omega
    · have := ih false ([32] ++ x); simp [wsum] at this ⊢; omega
theorem foldW_ge (ws : List (List UInt8)) : ∀ f line, line.length + 1 ≤ (foldW ws f line).length := by
  induction ws with
  | nil => intro f line; simp [foldW]
  | cons x r ih =>
    intro f line
    simp only [foldW]
    split
    · have := ih false (line ++ ([32] ++ x)); simp at this ⊢; omega
    · simp
theorem foldW_ge2 (x : List UInt8) (r : List (List UInt8)) (f : Bool) (line : List UInt8) : line.length + x.length + 2 ≤ (foldW (x :: r) f line).length := by
  simp only [foldW]
  split
  · have := foldW_ge r false (line ++ ([32] ++ x)); simp at this ⊢; omega
  · have := foldW_ge r false ([32] ++ x); simp at this ⊢; omega
theorem wsum_joinSp (ws : List (List UInt8)) : wsum ws ≤ (joinSp ws).length + 1 + ws.length := by
  induction ws with
  | nil => simp [wsum]
  | cons x r ih =>
    cases r with
    | nil => simp [wsum, joinSp]
    | cons y r => simp [wsum, joinSp] at ih ⊢; omega
theorem foldF_le (name body : List UInt8) : (foldF name body).length ≤ name.length + 2 * body.length + 5 := by
  have h1 := foldW_le (words body) true (name ++ [58])
  have h2 := wsum_joinSp (words body)
  have h3 := squeeze_le body
  have h4 := wordsAux_sum body []
  unfold squeeze at h3
  rw [← words] at h4
  simp [foldF] at h1 ⊢
  omega

/-- What has been written, and what is still to come. -/
def FoldAt (F : List UInt8) (ws : List (List UInt8)) (k : Nat) (out line : List UInt8) : Prop := F = out ++ foldW (ws.drop k) (decide (k = 0)) line
theorem FoldAt.start (name body : List UInt8) : FoldAt (foldF name body) (words body) 0 [] (name ++ [58]) := by simp [FoldAt, foldF]
theorem FoldAt.len {F : List UInt8} {ws : List (List UInt8)} {k : Nat} {out line : List UInt8} (h : FoldAt F ws k out line) : out.length + line.length + 1 ≤ F.length := by
  rw [h]; have := foldW_ge (ws.drop k) (decide (k = 0)) line; simp; omega
theorem FoldAt.len2 {F : List UInt8} {ws : List (List UInt8)} {k : Nat} {out line : List UInt8} (h : FoldAt F ws k out line) (hk : k < ws.length) : out.length + line.length + ws[k].length + 2 ≤ F.length := by
  have := foldW_ge2 ws[k] (ws.drop (k + 1)) (decide (k = 0)) line
  rw [← List.drop_eq_getElem_cons hk] at this
  rw [h]; simp only [List.length_append]; omega
theorem FoldAt.fits {F : List UInt8} {ws : List (List UInt8)} {k : Nat} {out line : List UInt8} (h : FoldAt F ws k out line) (hk : k < ws.length) (hc : k = 0 ∨ line.length + 1 + ws[k].length ≤ 78) : FoldAt F ws (k + 1) out (line ++ ([32] ++ ws[k])) := by
  unfold FoldAt at *
  rw [h, List.drop_eq_getElem_cons hk, foldW, if_pos (by simpa using hc)]; simp
theorem FoldAt.turns {F : List UInt8} {ws : List (List UInt8)} {k : Nat} {out line : List UInt8} (h : FoldAt F ws k out line) (hk : k < ws.length) (h0 : 0 < k) (hc : ¬ line.length + 1 + ws[k].length ≤ 78) : FoldAt F ws (k + 1) (out ++ (line ++ [10])) ([32] ++ ws[k]) := by
  unfold FoldAt at *
  rw [h, List.drop_eq_getElem_cons hk, foldW, if_neg (by simp; omega)]; simp
theorem FoldAt.done {F : List UInt8} {ws : List (List UInt8)} {k : Nat} {out line : List UInt8} (h : FoldAt F ws k out line) (hk : ws.length ≤ k) : out ++ (line ++ [10]) = F := by
  rw [h, List.drop_eq_nil_of_le hk, foldW]

end Go.Proofs.Ytcohgjdijhogbaa

namespace Go.Proofs.Ytcohgjdijhogbaa
set_option linter.unusedSimpArgs false
set_option linter.unusedVariables false

/-- A field: its name and its body. -/
abbrev Fd := List UInt8 × List UInt8

end Go.Proofs.Ytcohgjdijhogbaa

namespace Go.Proofs.Ytcohgjdijhogbaa
set_option linter.unusedSimpArgs false
set_option linter.unusedVariables false

structure PSt where
  frm : Nat
  to : Nat
  at_ : Nat
  fields : List Fd
  e : Int

def pFail (st : PSt) (a : Nat) (c : Int) : PSt := if st.e = 0 then { st with at_ := a, e := c } else st
def forbidden (c : Int) : Bool := !isVisible c && !isBlank c
/-- The length of the line at an offset, or -1. -/
def lineLen (l : List UInt8) (frm : Nat) : Int := findI (fun c => c == (10 : UInt8)) (l.drop frm) 0
def pLine (l : List UInt8) (st : PSt) (frm : Nat) : PSt :=
  if st.e ≠ 0 then st
  else if lineLen l frm < 0 then pFail st l.length 4
  else
    let n := (lineLen l frm).toNat
    let st1 : PSt := { st with frm := frm, to := frm + n, at_ := frm }
    if 998 < n then pFail st1 (frm + 998) 5
    else
      let i := findI (fun c => forbidden (num c)) (cutL l frm (frm + n)) 0
      if 0 ≤ i then pFail st1 (frm + i.toNat) 6 else st1

theorem lineLen_range (l : List UInt8) (frm : Nat) (h : frm ≤ l.length) : lineLen l frm = -1 ∨ (0 ≤ lineLen l frm ∧ frm + (lineLen l frm).toNat < l.length) := by
  have := findI_range (fun c => c == (10 : UInt8)) (l.drop frm) 0
  unfold lineLen
  simp at this
  omega


/-- The line begins with a blank: it continues a field. -/
def moreLine (x : List UInt8) : Bool := match x with | [] => false | c :: _ => isBlank (num c)
def pName (vn : List UInt8 → Bool) (l : List UInt8) (st : PSt) : PSt :=
  if st.e ≠ 0 then st
  else if moreLine (cutL l st.frm st.to) = true then (if st.fields.length = 0 then pFail st st.frm 3 else st)
  else if findI (fun c => c == (58 : UInt8)) (cutL l st.frm st.to) 0 < 0 then pFail st st.frm 3
  else if vn ((cutL l st.frm st.to).take (findI (fun c => c == (58 : UInt8)) (cutL l st.frm st.to) 0).toNat) = false then pFail st st.frm 12
  else if st.fields.length = 64 then pFail st st.frm 9
  else { st with fields := st.fields ++ [((cutL l st.frm st.to).take (findI (fun c => c == (58 : UInt8)) (cutL l st.frm st.to) 0).toNat, [])], at_ := st.frm + (findI (fun c => c == (58 : UInt8)) (cutL l st.frm st.to) 0).toNat + 1 }


/-- The first offset from a on and before t whose byte is outside the class q, or t. -/
def skipTo (q : Int → Bool) (l : List UInt8) (a t : Nat) : Nat := a + ((cutL l a t).takeWhile fun c => q (num c)).length
theorem cutL_cons (l : List UInt8) (a t : Nat) (h : a < t) (ht : t ≤ l.length) : cutL l a t = l[a] :: cutL l (a + 1) t := by
  unfold cutL
  rw [drop_cons l a (by omega), show t - a = (t - (a + 1)) + 1 from by omega, List.take_succ_cons]
theorem skipTo_end (q : Int → Bool) (l : List UInt8) (a t : Nat) (h : t ≤ a) : skipTo q l a t = a := by
  simp [skipTo, cutL, show t - a = 0 from by omega]
theorem skipTo_stop (q : Int → Bool) (l : List UInt8) (a t : Nat) (h : a < t) (ht : t ≤ l.length) (hq : q (num l[a]) = false) : skipTo q l a t = a := by
  rw [skipTo, cutL_cons l a t h ht, List.takeWhile_cons, hq]; simp
theorem skipTo_step (q : Int → Bool) (l : List UInt8) (a t : Nat) (h : a < t) (ht : t ≤ l.length) (hq : q (num l[a]) = true) : skipTo q l a t = skipTo q l (a + 1) t := by
  rw [skipTo, skipTo, cutL_cons l a t h ht, List.takeWhile_cons, hq]; simp; omega
theorem skipTo_ge (q : Int → Bool) (l : List UInt8) (a t : Nat) : a ≤ skipTo q l a t := by simp [skipTo]
theorem skipTo_le (q : Int → Bool) (l : List UInt8) (a t : Nat) (h : a ≤ t) (ht : t ≤ l.length) : skipTo q l a t ≤ t := by
  have h1 := (List.takeWhile_prefix (l := cutL l a t) (fun c => q (num c))).length_le
  rw [cutL_length _ _ _ ht] at h1
  unfold skipTo; omega

/-- The fields with another body in the last one. -/
def setLast (l : List Fd) (b : List UInt8) : List Fd := match l.getLast? with | none => [] | some f => l.dropLast ++ [(f.1, b)]
def lastBody (l : List Fd) : List UInt8 := match l.getLast? with | none => [] | some f => f.2
def addWord (b x : List UInt8) : List UInt8 := (if b = [] then b else b ++ [32]) ++ x

def pWord (l : List UInt8) (st : PSt) : Bool × PSt :=
  if st.e ≠ 0 then (false, st)
  else if skipTo isBlank l st.at_ st.to = st.to then (false, { st with at_ := st.to })
  else if 900 < skipTo (fun c => !isBlank c) l (skipTo isBlank l st.at_ st.to) st.to - skipTo isBlank l st.at_ st.to then (false, pFail { st with at_ := skipTo isBlank l st.at_ st.to } (skipTo isBlank l st.at_ st.to) 5)
  else (true, { st with at_ := skipTo (fun c => !isBlank c) l (skipTo isBlank l st.at_ st.to) st.to, fields := setLast st.fields (addWord (lastBody st.fields) (cutL l (skipTo isBlank l st.at_ st.to) (skipTo (fun c => !isBlank c) l (skipTo isBlank l st.at_ st.to) st.to))) })


end Go.Proofs.Ytcohgjdijhogbaa

namespace Go.Proofs.Ytcohgjdijhogbaa
set_option linter.unusedSimpArgs false
set_option linter.unusedVariables false

def pWords : Nat → List UInt8 → PSt → PSt
  | 0, _, st => st
  | n + 1, l, st => if (pWord l st).1 = true then pWords n l (pWord l st).2 else (pWord l st).2
def pBody (l : List UInt8) (st : PSt) : PSt :=
  if (pWords (l.length + 1) l st).e = 0 ∧ 8192 < (lastBody (pWords (l.length + 1) l st).fields).length then pFail (pWords (l.length + 1) l st) (pWords (l.length + 1) l st).frm 5 else pWords (l.length + 1) l st

theorem setLast_length (l : List Fd) (b : List UInt8) : (setLast l b).length = l.length := by
  unfold setLast
  cases h : l.getLast? with
  | none => simp at h; simp [h]
  | some f =>
    have : l ≠ [] := fun e => by simp [e] at h
    have := List.length_pos_iff.2 this
    simp; omega
theorem lastBody_setLast (l : List Fd) (b : List UInt8) (h : l ≠ []) : lastBody (setLast l b) = b := by
  unfold setLast
  cases e : l.getLast? with
  | none => simp at e; exact absurd e h
  | some f => simp [lastBody]
theorem addWord_length (b x : List UInt8) : (addWord b x).length ≤ b.length + 1 + x.length := by
  unfold addWord; split <;> simp <;> omega

/-- What a word that was found leaves. -/
theorem pWord_true (l : List UInt8) (st : PSt) (hat : st.at_ ≤ st.to) (hto : st.to ≤ l.length) (hne : st.fields ≠ []) (h : (pWord l st).1 = true) :
    st.e = 0 ∧ (pWord l st).2.e = 0 ∧ (pWord l st).2.to = st.to ∧ (pWord l st).2.frm = st.frm ∧ st.at_ < (pWord l st).2.at_ ∧ (pWord l st).2.at_ ≤ st.to ∧ (pWord l st).2.fields.length = st.fields.length ∧
      (lastBody (pWord l st).2.fields).length ≤ (lastBody st.fields).length + 2 * ((pWord l st).2.at_ - st.at_) := by
  have h1 := skipTo_ge isBlank l st.at_ st.to
  have h2 := skipTo_le isBlank l st.at_ st.to hat hto
  have h3 := skipTo_ge (fun c => !isBlank c) l (skipTo isBlank l st.at_ st.to) st.to
  have h4 := skipTo_le (fun c => !isBlank c) l (skipTo isBlank l st.at_ st.to) st.to h2 hto
  have h5 : skipTo isBlank l st.at_ st.to ≠ st.to → skipTo isBlank l st.at_ st.to < skipTo (fun c => !isBlank c) l (skipTo isBlank l st.at_ st.to) st.to := by
    intro hn
    have hlt : skipTo isBlank l st.at_ st.to < st.to := by omega
    have hb : isBlank (num (l[skipTo isBlank l st.at_ st.to]'(by omega))) = false := by
      have hd := List.head?_dropWhile_not (fun c => isBlank (num c)) (cutL l st.at_ st.to)
      rw [dropWhile_eq_drop] at hd
      have : (cutL l st.at_ st.to).drop ((cutL l st.at_ st.to).takeWhile fun c => isBlank (num c)).length = cutL l (skipTo isBlank l st.at_ st.to) st.to := by
        unfold skipTo cutL
        rw [List.drop_take, List.drop_drop]
        congr 1; omega
      rw [this, cutL_cons _ _ _ hlt hto] at hd
      simpa using hd
    have := skipTo_step (fun c => !isBlank c) l (skipTo isBlank l st.at_ st.to) st.to hlt hto (by simp [hb])
    have := skipTo_ge (fun c => !isBlank c) l (skipTo isBlank l st.at_ st.to + 1) st.to
    omega
  unfold pWord at h ⊢
  by_cases he : st.e = 0
  · rw [if_neg (by simp [he])] at h ⊢
    by_cases hc : skipTo isBlank l st.at_ st.to = st.to
    · rw [if_pos hc] at h; simp at h
    · rw [if_neg hc] at h ⊢
      have h6 := h5 hc
      split at h
      · simp at h
      · rename_i h9
        rw [if_neg h9]
        have hb := addWord_length (lastBody st.fields) (cutL l (skipTo isBlank l st.at_ st.to) (skipTo (fun c => !isBlank c) l (skipTo isBlank l st.at_ st.to) st.to))
        rw [cutL_length _ _ _ (by omega)] at hb
        refine ⟨he, he, rfl, rfl, by simp; omega, by simpa using h4, setLast_length _ _, ?_⟩
        simp only
        rw [lastBody_setLast _ _ hne]
        omega
  · rw [if_pos he] at h; simp at h

/-- What the end of a line leaves. -/
theorem pWord_false (l : List UInt8) (st : PSt) (h : (pWord l st).1 = false) : (pWord l st).2.fields = st.fields ∧ (pWord l st).2.to = st.to ∧ (pWord l st).2.frm = st.frm := by
  unfold pWord at h ⊢
  split
  · exact ⟨rfl, rfl, rfl⟩
  · split
    · exact ⟨rfl, rfl, rfl⟩
    · split
      · unfold pFail; split <;> exact ⟨rfl, rfl, rfl⟩
      · rename_i h1 h2 h3
        rw [if_neg h1, if_neg h2, if_neg h3] at h; simp at h


theorem pWords_bad (n : Nat) (l : List UInt8) (st : PSt) (h : st.e ≠ 0) : pWords n l st = st := by
  cases n with
  | zero => rfl
  | succ n => simp [pWords, pWord, h]
theorem pBody_bad (l : List UInt8) (st : PSt) (h : st.e ≠ 0) : pBody l st = st := by
  unfold pBody; rw [pWords_bad _ _ _ h, if_neg (fun k => h k.1)]

def pStep (vn : List UInt8 → Bool) (l : List UInt8) (st : PSt) (frm : Nat) : PSt := pBody l (pName vn l (pLine l st frm))
def pLoop (vn : List UInt8 → Bool) : Nat → List UInt8 → PSt → Nat → PSt
  | 0, _, st, _ => st
  | n + 1, l, st, frm => if frm < l.length ∧ st.e = 0 then pLoop vn n l (pStep vn l st frm) ((pStep vn l st frm).to + 1) else st
def pInit : PSt := { frm := 0, to := 0, at_ := 0, fields := [], e := 0 }
def parseV (vn : List UInt8 → Bool) (l : List UInt8) : List Fd × Int × Int :=
  if 65536 < l.length then ([], 65536, 5)
  else if (pLoop vn (l.length + 1) l pInit 0).e ≠ 0 then ([], (pLoop vn (l.length + 1) l pInit 0).at_, (pLoop vn (l.length + 1) l pInit 0).e)
  else ((pLoop vn (l.length + 1) l pInit 0).fields, 0, 0)

theorem pFail_keep (st : PSt) (a : Nat) (c : Int) : (pFail st a c).fields = st.fields ∧ (pFail st a c).to = st.to ∧ (pFail st a c).frm = st.frm := by
  unfold pFail; split <;> exact ⟨rfl, rfl, rfl⟩
theorem pFail_e (st : PSt) (a : Nat) (c : Int) (hc : c ≠ 0) : (pFail st a c).e ≠ 0 := by
  unfold pFail; split
  · exact hc
  · assumption

theorem pLine_to (l : List UInt8) (st : PSt) (frm : Nat) (hf : frm ≤ l.length) (ht : st.to ≤ l.length) : (pLine l st frm).to ≤ l.length ∧ (pLine l st frm).fields = st.fields := by
  have hr := lineLen_range l frm hf
  unfold pLine
  split
  · exact ⟨ht, rfl⟩
  · split
    · have := pFail_keep st l.length 4; exact ⟨by omega, this.1⟩
    · rename_i h1 h2
      have h3 : frm + (lineLen l frm).toNat < l.length := by omega
      simp only
      split
      · have := pFail_keep { st with frm := frm, to := frm + (lineLen l frm).toNat, at_ := frm } (frm + 998) 5
        exact ⟨by rw [this.2.1]; simp only; omega, this.1⟩
      · split
        · have := pFail_keep { st with frm := frm, to := frm + (lineLen l frm).toNat, at_ := frm } (frm + (findI (fun c => forbidden (num c)) (cutL l frm (frm + (lineLen l frm).toNat)) 0).toNat) 6
          exact ⟨by rw [this.2.1]; simp only; omega, this.1⟩
        · exact ⟨by simp only; omega, rfl⟩
theorem pLine_ok (l : List UInt8) (st : PSt) (frm : Nat) (hf : frm ≤ l.length) (h : (pLine l st frm).e = 0) :
    st.e = 0 ∧ 0 ≤ lineLen l frm ∧ frm + (lineLen l frm).toNat < l.length ∧ pLine l st frm = { st with frm := frm, to := frm + (lineLen l frm).toNat, at_ := frm } := by
  have hr := lineLen_range l frm hf
  unfold pLine at h ⊢
  by_cases he : st.e = 0
  · rw [if_neg (by simp [he])] at h ⊢
    by_cases hn : lineLen l frm < 0
    · rw [if_pos hn] at h; exact absurd h (pFail_e _ _ _ (by decide))
    · rw [if_neg hn] at h ⊢
      simp only at h ⊢
      by_cases h9 : 998 < (lineLen l frm).toNat
      · rw [if_pos h9] at h; exact absurd h (pFail_e _ _ _ (by decide))
      · rw [if_neg h9] at h ⊢
        by_cases hi : 0 ≤ findI (fun c => forbidden (num c)) (cutL l frm (frm + (lineLen l frm).toNat)) 0
        · rw [if_pos hi] at h; exact absurd h (pFail_e _ _ _ (by decide))
        · rw [if_neg hi]; exact ⟨he, by omega, by omega, rfl⟩
  · rw [if_pos he] at h; exact absurd h he
theorem pName_to (vn : List UInt8 → Bool) (l : List UInt8) (st : PSt) : (pName vn l st).to = st.to := by
  unfold pName
  split
  · rfl
  · split
    · split
      · exact (pFail_keep _ _ _).2.1
      · rfl
    · split
      · exact (pFail_keep _ _ _).2.1
      · split
        · exact (pFail_keep _ _ _).2.1
        · split
          · exact (pFail_keep _ _ _).2.1
          · rfl
theorem pName_ok (vn : List UInt8 → Bool) (l : List UInt8) (st : PSt) (hft : st.frm ≤ st.to) (hto : st.to ≤ l.length) (hat : st.at_ ≤ st.to) (hn : st.fields.length ≤ 64) (hb : (lastBody st.fields).length ≤ 8192) (h : (pName vn l st).e = 0) :
    (pName vn l st).frm = st.frm ∧ (pName vn l st).at_ ≤ st.to ∧ (pName vn l st).fields ≠ [] ∧ (pName vn l st).fields.length ≤ 64 ∧ (lastBody (pName vn l st).fields).length ≤ 8192 := by
  have hir := findI_range (fun c => c == (58 : UInt8)) (cutL l st.frm st.to) 0
  rw [cutL_length _ _ _ hto] at hir
  unfold pName at h ⊢
  by_cases he : st.e = 0
  · rw [if_neg (by simp [he])] at h ⊢
    by_cases hm : moreLine (cutL l st.frm st.to) = true
    · rw [if_pos hm] at h ⊢
      by_cases h0 : st.fields.length = 0
      · rw [if_pos h0] at h; exact absurd h (pFail_e _ _ _ (by decide))
      · rw [if_neg h0]
        exact ⟨rfl, hat, fun e => h0 (by rw [e]; rfl), hn, hb⟩
    · rw [if_neg hm] at h ⊢
      by_cases hc : findI (fun c => c == (58 : UInt8)) (cutL l st.frm st.to) 0 < 0
      · rw [if_pos hc] at h; exact absurd h (pFail_e _ _ _ (by decide))
      · rw [if_neg hc] at h ⊢
        split at h
        · exact absurd h (pFail_e _ _ _ (by decide))
        · rename_i hv
          rw [if_neg hv]
          by_cases h6 : st.fields.length = 64
          · rw [if_pos h6] at h; exact absurd h (pFail_e _ _ _ (by decide))
          · rw [if_neg h6]
            refine ⟨rfl, by simp only; omega, by simp, by simp; omega, by simp [lastBody]⟩
  · rw [if_pos he] at h; exact absurd h he
theorem pWords_keep (l : List UInt8) : ∀ (n : Nat) (st : PSt), st.at_ ≤ st.to → st.to ≤ l.length → st.fields ≠ [] → (pWords n l st).to = st.to ∧ (pWords n l st).fields.length = st.fields.length ∧ (pWords n l st).frm = st.frm := by
  intro n
  induction n with
  | zero => intro st _ _ _; exact ⟨rfl, rfl, rfl⟩
  | succ n ih =>
    intro st h1 h2 h3
    simp only [pWords]
    split
    · rename_i hw
      obtain ⟨_, _, a, a2, _, b, c, _⟩ := pWord_true l st h1 h2 h3 hw
      have := ih (pWord l st).2 (by omega) (by omega) (fun e => by rw [e] at c; exact h3 (List.eq_nil_of_length_eq_zero c.symm))
      omega
    · rename_i hw
      have := pWord_false l st (by simpa using hw)
      exact ⟨this.2.1, by rw [this.1], this.2.2⟩
theorem pBody_keep (l : List UInt8) (st : PSt) (h1 : st.at_ ≤ st.to) (h2 : st.to ≤ l.length) (h3 : st.fields ≠ []) : (pBody l st).to = st.to ∧ (pBody l st).fields.length = st.fields.length ∧ (pBody l st).frm = st.frm ∧ ((pBody l st).e = 0 → (lastBody (pBody l st).fields).length ≤ 8192) := by
  have h := pWords_keep l (l.length + 1) st h1 h2 h3
  unfold pBody
  split
  · have := pFail_keep (pWords (l.length + 1) l st) (pWords (l.length + 1) l st).frm 5
    exact ⟨by rw [this.2.1]; exact h.1, by rw [this.1]; exact h.2.1, by rw [this.2.2]; exact h.2.2, fun e => absurd e (pFail_e _ _ _ (by decide))⟩
  · rename_i hn
    exact ⟨h.1, h.2.1, h.2.2, fun e => by
      rcases Nat.lt_or_ge 8192 (lastBody (pWords (l.length + 1) l st).fields).length with h' | h'
      · exact absurd ⟨e, h'⟩ hn
      · exact h'⟩

end Go.Proofs.Ytcohgjdijhogbaa

namespace Go.Proofs.Ytcohgjdijhogbaa
set_option linter.unusedSimpArgs false
set_option linter.unusedVariables false

/-- How long an encoding is that begins with c. -/
def lenU (c : UInt8) : Nat := if 240 ≤ c.toNat ∧ c.toNat ≤ 244 then 4 else if 224 ≤ c.toNat ∧ c.toNat ≤ 239 then 3 else if 194 ≤ c.toNat ∧ c.toNat ≤ 223 then 2 else if c.toNat ≤ 127 then 1 else 0
def lowU (f : UInt8) (i : Nat) : Nat := if i = 1 then (if f = 224 then 160 else if f = 240 then 144 else 128) else 128
def highU (f : UInt8) (i : Nat) : Nat := if i = 1 then (if f = 237 then 159 else if f = 244 then 143 else 191) else 191
/-- Whether c can stand at place i behind f. -/
def contU (f : UInt8) (i : Nat) (c : UInt8) : Bool := decide (lowU f i ≤ c.toNat) && decide (c.toNat ≤ highU f i)
/-- How many of the bytes from place i on continue. -/
def runU (f : UInt8) (size : Nat) : Nat → List UInt8 → Nat
  | _, [] => 0
  | i, c :: r => if i < size ∧ contU f i c = true then runU f size (i + 1) r + 1 else 0
def measU : List UInt8 → Nat
  | [] => 0
  | f :: r => if lenU f = 0 then 0 else runU f (lenU f) 1 r + 1
def leadU (c : UInt8) : Nat := if c.toNat < 128 then c.toNat else if c.toNat < 224 then c.toNat - 192 else if c.toNat < 240 then c.toNat - 224 else c.toNat - 240
def foldU (v : Nat) (l : List UInt8) : Nat := l.foldl (fun v c => 64 * v + (c.toNat - 128)) v
/-- The code point of an encoding. -/
def valU : List UInt8 → Nat
  | [] => 0
  | f :: r => foldU (leadU f) r
/-- The first code point, its length, and the error. -/
def decU (l : List UInt8) : Nat × Nat × Int :=
  match l with
  | [] => (0, 0, 1)
  | f :: _ => if measU l = lenU f ∧ lenU f ≠ 0 then (valU (l.take (measU l)), measU l, 0) else if measU l = 0 then (0, 0, 6) else if measU l = l.length then (0, 0, 23) else (0, 0, 3)
theorem runU_le (f : UInt8) (size : Nat) : ∀ (l : List UInt8) (i : Nat), runU f size i l ≤ l.length ∧ runU f size i l ≤ size - i
  | [], _ => by simp [runU]
  | c :: r, i => by
    rw [runU]
    have := runU_le f size r (i + 1)
    split
    · simp; omega
    · simp
theorem lenU_le (c : UInt8) : lenU c ≤ 4 := by unfold lenU; split <;> (try split) <;> (try split) <;> (try split) <;> omega
theorem measU_le (l : List UInt8) : measU l ≤ l.length ∧ measU l ≤ 4 := by
  cases l with
  | nil => simp [measU]
  | cons f r =>
    rw [measU]
    have := runU_le f (lenU f) r 1
    have := lenU_le f
    split
    · simp
    · simp; omega
theorem decU_ok {l : List UInt8} (h : (decU l).2.2 = 0) : 1 ≤ (decU l).2.1 ∧ (decU l).2.1 ≤ l.length := by
  cases l with
  | nil => simp [decU] at h
  | cons f r =>
    have hm := measU_le (f :: r)
    unfold decU at h ⊢
    by_cases h1 : measU (f :: r) = lenU f ∧ lenU f ≠ 0
    · simp only [if_pos h1]; omega
    · simp only [if_neg h1] at h
      exfalso
      split at h
      · simp at h
      · split at h <;> simp at h
theorem decU_err (l : List UInt8) : 0 ≤ (decU l).2.2 ∧ (decU l).2.2 ≤ 23 := by
  unfold decU
  cases l with
  | nil => simp
  | cons f r => dsimp only; split <;> (try split) <;> (try split) <;> simp
/-- Whether a code point is a control character. -/
def ctlU (r : Nat) : Bool := decide (r ≤ 31) || (decide (127 ≤ r) && decide (r ≤ 159)) || r == 8232 || r == 8233
/-- Where the first bad code point of a line lies, from place i on: the place, and what it is: a control character (none), or an error. -/
def badU : Nat → List UInt8 → Nat → Option (Nat × Option Int)
  | 0, _, _ => none
  | n + 1, l, i => match l with
    | [] => none
    | _ :: _ => if (decU l).2.2 ≠ 0 then some (i, some (decU l).2.2) else if ctlU (decU l).1 && (decU l).1 != 9 then some (i, none) else badU n (l.drop (decU l).2.1) (i + (decU l).2.1)
def badF (l : List UInt8) : Int := match badU (l.length + 1) l 0 with
  | none => -1
  | some x => (x.1 : Int)
/-- All code points and their offsets, up to the first error. -/
def allU : Nat → List UInt8 → Nat → List (Nat × Nat) × Option (Nat × Int)
  | 0, _, _ => ([], none)
  | n + 1, l, i => match l with
    | [] => ([], none)
    | _ :: _ => if (decU l).2.2 ≠ 0 then ([], some (i, (decU l).2.2)) else
        let x := allU n (l.drop (decU l).2.1) (i + (decU l).2.1)
        ((i, (decU l).1) :: x.1, x.2)
def hitU (r : Nat) : Bool := ctlU r && r != 9
theorem badU_all : ∀ (n : Nat) (l : List UInt8) (i : Nat), badU n l i = match (allU n l i).1.find? (fun x => hitU x.2) with
    | some x => some (x.1, none)
    | none => match (allU n l i).2 with
      | some y => some (y.1, some y.2)
      | none => none
  | 0, l, i => by simp [badU, allU]
  | n + 1, [], i => by simp [badU, allU]
  | n + 1, c :: r, i => by
    rw [badU, allU]
    by_cases h : (decU (c :: r)).2.2 ≠ 0
    · rw [if_pos h, if_pos h]; simp
    · rw [if_neg h, if_neg h]
      dsimp only
      rw [List.find?_cons]
      by_cases h2 : hitU (decU (c :: r)).1 = true
      · have h2' := h2
        unfold hitU at h2'
        rw [if_pos h2']; simp [h2]
      · have h2' := h2
        unfold hitU at h2'
        rw [if_neg h2', badU_all n]
        simp [h2]
end Go.Proofs.Ytcohgjdijhogbaa
