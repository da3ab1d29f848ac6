/- What the classes of bytes answer, as plain functions, and plain facts on lists of bytes. No program here. -/
namespace Go.Proofs.YtcknomaaikeebaaDoor
set_option linter.unusedSimpArgs false
set_option linter.unusedVariables false

def isLower (c : Int) : Bool := decide (97 ≤ c) && decide (c ≤ 122)
def isUpper (c : Int) : Bool := decide (65 ≤ c) && decide (c ≤ 90)
def isLetter (c : Int) : Bool := isLower c || isUpper c
def isDigit (c : Int) : Bool := decide (48 ≤ c) && decide (c ≤ 57)
def isVisible (c : Int) : Bool := decide (33 ≤ c) && decide (c ≤ 126)
def isBlank (c : Int) : Bool := (c == 32) || (c == 9)

/-- A byte as the number that the walk shows. -/
abbrev num (c : UInt8) : Int := (c.toNat : Int)

def toL (s : ByteArray) : List UInt8 := s.data.toList
theorem toL_length (s : ByteArray) : (toL s).length = s.size := by simp [toL]
theorem toL_getElem (s : ByteArray) (k : Nat) (h : k < s.size) : (toL s)[k]'(by rw [toL_length]; exact h) = s[k] := by simp [toL]; rfl
theorem toL_inj {s t : ByteArray} (h : toL s = toL t) : s = t := by
  cases s with | mk a => cases t with | mk b => exact congrArg _ (Array.toList_inj.1 h)

/-- The first offset from k on whose byte is outside the class p. -/
def skipFrom (p : Int → Bool) (l : List UInt8) (k : Nat) : Nat := k + ((l.drop k).takeWhile fun c => p (num c)).length

theorem drop_cons (l : List UInt8) (k : Nat) (h : k < l.length) : l.drop k = l[k] :: l.drop (k + 1) := List.drop_eq_getElem_cons h

theorem skipFrom_end (p : Int → Bool) (l : List UInt8) (k : Nat) (h : l.length ≤ k) : skipFrom p l k = k := by
  simp [skipFrom, List.drop_eq_nil_of_le h]
theorem skipFrom_stop (p : Int → Bool) (l : List UInt8) (k : Nat) (h : k < l.length) (hp : p (num l[k]) = false) : skipFrom p l k = k := by
  rw [skipFrom, drop_cons l k h, List.takeWhile_cons, hp]; simp
theorem skipFrom_step (p : Int → Bool) (l : List UInt8) (k : Nat) (h : k < l.length) (hp : p (num l[k]) = true) : skipFrom p l k = skipFrom p l (k + 1) := by
  rw [skipFrom, skipFrom, drop_cons l k h, List.takeWhile_cons, hp]; simp; omega
theorem skipFrom_ge (p : Int → Bool) (l : List UInt8) (k : Nat) : k ≤ skipFrom p l k := by simp [skipFrom]
theorem skipFrom_le (p : Int → Bool) (l : List UInt8) (k : Nat) (h : k ≤ l.length) : skipFrom p l k ≤ l.length := by
  have h1 := (List.takeWhile_prefix (l := l.drop k) (fun c => p (num c))).length_le
  simp [skipFrom] at *; omega

end Go.Proofs.YtcknomaaikeebaaDoor
