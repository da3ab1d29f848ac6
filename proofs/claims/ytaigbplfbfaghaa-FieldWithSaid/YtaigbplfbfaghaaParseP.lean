/- The parser of headers as plain functions on its state. No program here. -/
import Derived.Test.YtaigbplfbfaghaaText
import Derived.Test.YtaigbplfbfaghaaFindP
import Derived.Test.YtaigbplfbfaghaaFdP
namespace Go.Proofs.Ytaigbplfbfaghaa
set_option linter.unusedSimpArgs false
set_option linter.unusedVariables false

structure PSt where
  frm : Nat
  to : Nat
  at_ : Nat
  fields : List Fd
  e : Int

def pFail (st : PSt) (a : Nat) (c : Int) : PSt := if st.e = 0 then { st with at_ := a, e := c } else st
def forbidden (c : Int) : Bool := !isVisible c && !isBlank c
/-- The length of the line at an offset, or -1. -/
def lineLen (l : List UInt8) (frm : Nat) : Int := findI (fun c => c == (10 : UInt8)) (l.drop frm) 0
def pLine (l : List UInt8) (st : PSt) (frm : Nat) : PSt :=
  if st.e ≠ 0 then st
  else if lineLen l frm < 0 then pFail st l.length 4
  else
    let n := (lineLen l frm).toNat
    let st1 : PSt := { st with frm := frm, to := frm + n, at_ := frm }
    if 998 < n then pFail st1 (frm + 998) 5
    else
      let i := findI (fun c => forbidden (num c)) (cutL l frm (frm + n)) 0
      if 0 ≤ i then pFail st1 (frm + i.toNat) 6 else st1

theorem lineLen_range (l : List UInt8) (frm : Nat) (h : frm ≤ l.length) : lineLen l frm = -1 ∨ (0 ≤ lineLen l frm ∧ frm + (lineLen l frm).toNat < l.length) := by
  have := findI_range (fun c => c == (10 : UInt8)) (l.drop frm) 0
  unfold lineLen
  simp at this
  omega


/-- The line begins with a blank: it continues a field. -/
def moreLine (x : List UInt8) : Bool := match x with | [] => false | c :: _ => isBlank (num c)
def pName (vn : List UInt8 → Bool) (l : List UInt8) (st : PSt) : PSt :=
  if st.e ≠ 0 then st
  else if moreLine (cutL l st.frm st.to) = true then (if st.fields.length = 0 then pFail st st.frm 3 else st)
  else if findI (fun c => c == (58 : UInt8)) (cutL l st.frm st.to) 0 < 0 then pFail st st.frm 3
  else if vn ((cutL l st.frm st.to).take (findI (fun c => c == (58 : UInt8)) (cutL l st.frm st.to) 0).toNat) = false then pFail st st.frm 12
  else if st.fields.length = 64 then pFail st st.frm 9
  else { st with fields := st.fields ++ [((cutL l st.frm st.to).take (findI (fun c => c == (58 : UInt8)) (cutL l st.frm st.to) 0).toNat, [])], at_ := st.frm + (findI (fun c => c == (58 : UInt8)) (cutL l st.frm st.to) 0).toNat + 1 }


/-- The first offset from a on and before t whose byte is outside the class q, or t. -/
def skipTo (q : Int → Bool) (l : List UInt8) (a t : Nat) : Nat := a + ((cutL l a t).takeWhile fun c => q (num c)).length
theorem cutL_cons (l : List UInt8) (a t : Nat) (h : a < t) (ht : t ≤ l.length) : cutL l a t = l[a] :: cutL l (a + 1) t := by
  unfold cutL
  rw [drop_cons l a (by omega), show t - a = (t - (a + 1)) + 1 from by omega, List.take_succ_cons]
theorem skipTo_end (q : Int → Bool) (l : List UInt8) (a t : Nat) (h : t ≤ a) : skipTo q l a t = a := by
  simp [skipTo, cutL, show t - a = 0 from by omega]
theorem skipTo_stop (q : Int → Bool) (l : List UInt8) (a t : Nat) (h : a < t) (ht : t ≤ l.length) (hq : q (num l[a]) = false) : skipTo q l a t = a := by
  rw [skipTo, cutL_cons l a t h ht, List.takeWhile_cons, hq]; simp
theorem skipTo_step (q : Int → Bool) (l : List UInt8) (a t : Nat) (h : a < t) (ht : t ≤ l.length) (hq : q (num l[a]) = true) : skipTo q l a t = skipTo q l (a + 1) t := by
  rw [skipTo, skipTo, cutL_cons l a t h ht, List.takeWhile_cons, hq]; simp; omega
theorem skipTo_ge (q : Int → Bool) (l : List UInt8) (a t : Nat) : a ≤ skipTo q l a t := by simp [skipTo]
theorem skipTo_le (q : Int → Bool) (l : List UInt8) (a t : Nat) (h : a ≤ t) (ht : t ≤ l.length) : skipTo q l a t ≤ t := by
  have h1 := (List.takeWhile_prefix (l := cutL l a t) (fun c => q (num c))).length_le
  rw [cutL_length _ _ _ ht] at h1
  unfold skipTo; omega

/-- The fields with another body in the last one. -/
def setLast (l : List Fd) (b : List UInt8) : List Fd := match l.getLast? with | none => [] | some f => l.dropLast ++ [(f.1, b)]
def lastBody (l : List Fd) : List UInt8 := match l.getLast? with | none => [] | some f => f.2
def addWord (b x : List UInt8) : List UInt8 := (if b = [] then b else b ++ [32]) ++ x

def pWord (l : List UInt8) (st : PSt) : Bool × PSt :=
  if st.e ≠ 0 then (false, st)
  else if skipTo isBlank l st.at_ st.to = st.to then (false, { st with at_ := st.to })
  else if 900 < skipTo (fun c => !isBlank c) l (skipTo isBlank l st.at_ st.to) st.to - skipTo isBlank l st.at_ st.to then (false, pFail { st with at_ := skipTo isBlank l st.at_ st.to } (skipTo isBlank l st.at_ st.to) 5)
  else (true, { st with at_ := skipTo (fun c => !isBlank c) l (skipTo isBlank l st.at_ st.to) st.to, fields := setLast st.fields (addWord (lastBody st.fields) (cutL l (skipTo isBlank l st.at_ st.to) (skipTo (fun c => !isBlank c) l (skipTo isBlank l st.at_ st.to) st.to))) })


end Go.Proofs.Ytaigbplfbfaghaa
