/- What one round of the parser comes to, case by case. No program here. -/
import Derived.Test.YtcohgjdijhogbaaGreatParseR
namespace Go.Proofs.YtcohgjdijhogbaaGreat
set_option linter.unusedSimpArgs false
set_option linter.unusedVariables false

def isLF (c : UInt8) : Bool := c == (10 : UInt8)
def isColon (c : UInt8) : Bool := c == (58 : UInt8)
def isForb (c : UInt8) : Bool := forbidden (num c)

section
variable (vn : List UInt8 → Bool) (l : List UInt8) (st : PSt) (a : Nat)

theorem pName_bad' (s : PSt) (h : s.e ≠ 0) : pName vn l s = s := by unfold pName; rw [if_pos h]
theorem pStep_line_bad (h : (pLine l st a).e ≠ 0) : pStep vn l st a = pLine l st a := by
  unfold pStep; rw [pName_bad' vn l _ h, pBody_bad _ _ h]

theorem step_short (he : st.e = 0) (h : lineLen l a < 0) : (pStep vn l st a).e = 4 ∧ (pStep vn l st a).at_ = l.length := by
  have hl : pLine l st a = { st with at_ := l.length, e := 4 } := by unfold pLine; rw [if_neg (by simp [he]), if_pos h]; simp [pFail, he]
  rw [pStep_line_bad vn l st a (by rw [hl]; simp), hl]
  exact ⟨rfl, rfl⟩
theorem step_long (he : st.e = 0) (n : Nat) (h : lineLen l a = n) (h9 : 998 < n) : (pStep vn l st a).e = 5 ∧ (pStep vn l st a).at_ = a + 998 := by
  have hl : pLine l st a = { st with frm := a, to := a + n, at_ := a + 998, e := 5 } := by
    unfold pLine; rw [if_neg (by simp [he]), if_neg (by omega), h]; simp [pFail, he, h9]
  rw [pStep_line_bad vn l st a (by rw [hl]; simp), hl]
  exact ⟨rfl, rfl⟩
theorem step_byte (he : st.e = 0) (n : Nat) (h : lineLen l a = n) (h9 : ¬ 998 < n) (i : Nat) (hi : findI isForb (cutL l a (a + n)) 0 = i) : (pStep vn l st a).e = 6 ∧ (pStep vn l st a).at_ = a + i := by
  have hi' : findI (fun c => forbidden (num c)) (cutL l a (a + n)) 0 = i := hi
  have hl : pLine l st a = { st with frm := a, to := a + n, at_ := a + i, e := 6 } := by
    unfold pLine; rw [if_neg (by simp [he]), if_neg (by omega), h]
    simp only [Int.toNat_natCast]
    rw [if_neg h9, hi', if_pos (by omega)]; simp [pFail, he]
  rw [pStep_line_bad vn l st a (by rw [hl]; simp), hl]
  exact ⟨rfl, rfl⟩
theorem line_fine (he : st.e = 0) (n : Nat) (h : lineLen l a = n) (h9 : ¬ 998 < n) (hi : findI isForb (cutL l a (a + n)) 0 < 0) : pLine l st a = { st with frm := a, to := a + n, at_ := a } := by
  have hi' : ¬ 0 ≤ findI (fun c => forbidden (num c)) (cutL l a (a + n)) 0 := by
    have : findI (fun c => forbidden (num c)) (cutL l a (a + n)) 0 < 0 := hi
    omega
  unfold pLine; rw [if_neg (by simp [he]), if_neg (by omega), h]
  simp only [Int.toNat_natCast]
  rw [if_neg h9, if_neg hi']
theorem pStep_name_bad (h : (pName vn l (pLine l st a)).e ≠ 0) : pStep vn l st a = pName vn l (pLine l st a) := by unfold pStep; rw [pBody_bad _ _ h]

variable {vn l st a} (he : st.e = 0) {n : Nat} (hl : pLine l st a = { st with frm := a, to := a + n, at_ := a })
include he hl
theorem step_lone (hm : moreLine (cutL l a (a + n)) = true) (h0 : st.fields.length = 0) : (pStep vn l st a).e = 3 ∧ (pStep vn l st a).at_ = a := by
  have hn : pName vn l (pLine l st a) = { st with frm := a, to := a + n, at_ := a, e := 3 } := by
    rw [hl]; unfold pName; rw [if_neg (by simp [he])]; simp only; rw [if_pos hm, if_pos h0]; simp [pFail, he]
  rw [pStep_name_bad vn l st a (by rw [hn]; simp), hn]
  exact ⟨rfl, rfl⟩
theorem step_nocolon (hm : moreLine (cutL l a (a + n)) = false) (hc : findI isColon (cutL l a (a + n)) 0 < 0) : (pStep vn l st a).e = 3 ∧ (pStep vn l st a).at_ = a := by
  have hn : pName vn l (pLine l st a) = { st with frm := a, to := a + n, at_ := a, e := 3 } := by
    rw [hl]; unfold pName; rw [if_neg (by simp [he])]; simp only; rw [if_neg (by simp [hm]), if_pos (show findI (fun c => c == (58 : UInt8)) (cutL l a (a + n)) 0 < 0 from hc)]; simp [pFail, he]
  rw [pStep_name_bad vn l st a (by rw [hn]; simp), hn]
  exact ⟨rfl, rfl⟩
theorem step_name (hm : moreLine (cutL l a (a + n)) = false) (c : Nat) (hc : findI isColon (cutL l a (a + n)) 0 = c) (hv : vn ((cutL l a (a + n)).take c) = false) : (pStep vn l st a).e = 12 ∧ (pStep vn l st a).at_ = a := by
  have hc' : findI (fun c => c == (58 : UInt8)) (cutL l a (a + n)) 0 = c := hc
  have hn : pName vn l (pLine l st a) = { st with frm := a, to := a + n, at_ := a, e := 12 } := by
    rw [hl]; unfold pName; rw [if_neg (by simp [he])]; simp only; rw [if_neg (by simp [hm]), hc', if_neg (by omega)]; simp only [Int.toNat_natCast]; rw [if_pos hv]; simp [pFail, he]
  rw [pStep_name_bad vn l st a (by rw [hn]; simp), hn]
  exact ⟨rfl, rfl⟩
theorem step_limit (hm : moreLine (cutL l a (a + n)) = false) (c : Nat) (hc : findI isColon (cutL l a (a + n)) 0 = c) (hv : vn ((cutL l a (a + n)).take c) = true) (h6 : st.fields.length = 64) : (pStep vn l st a).e = 9 ∧ (pStep vn l st a).at_ = a := by
  have hc' : findI (fun c => c == (58 : UInt8)) (cutL l a (a + n)) 0 = c := hc
  have hn : pName vn l (pLine l st a) = { st with frm := a, to := a + n, at_ := a, e := 9 } := by
    rw [hl]; unfold pName; rw [if_neg (by simp [he])]; simp only; rw [if_neg (by simp [hm]), hc', if_neg (by omega)]; simp only [Int.toNat_natCast]; rw [if_neg (by simp [hv]), if_pos h6]; simp [pFail, he]
  rw [pStep_name_bad vn l st a (by rw [hn]; simp), hn]
  exact ⟨rfl, rfl⟩
theorem name_more (hm : moreLine (cutL l a (a + n)) = true) (h0 : ¬ st.fields.length = 0) : pName vn l (pLine l st a) = { st with frm := a, to := a + n, at_ := a } := by
  rw [hl]; unfold pName; rw [if_neg (by simp [he])]; simp only; rw [if_pos hm, if_neg h0]
theorem name_new (hm : moreLine (cutL l a (a + n)) = false) (c : Nat) (hc : findI isColon (cutL l a (a + n)) 0 = c) (hv : vn ((cutL l a (a + n)).take c) = true) (h6 : ¬ st.fields.length = 64) :
    pName vn l (pLine l st a) = { st with frm := a, to := a + n, at_ := a + c + 1, fields := st.fields ++ [((cutL l a (a + n)).take c, [])] } := by
  have hc' : findI (fun c => c == (58 : UInt8)) (cutL l a (a + n)) 0 = c := hc
  rw [hl]; unfold pName; rw [if_neg (by simp [he])]; simp only; rw [if_neg (by simp [hm]), hc', if_neg (by omega)]; simp only [Int.toNat_natCast]; rw [if_neg (by simp [hv]), if_neg h6]
end

section
variable {vn : List UInt8 → Bool} {l : List UInt8} {st st2 : PSt} {a : Nat} (hn : pName vn l (pLine l st a) = st2) (he : st2.e = 0) (hat : st2.at_ ≤ st2.to) (hto : st2.to ≤ l.length) (hne : st2.fields ≠ [])
include hn he hat hto hne
theorem step_bad (b : List UInt8) (bad : Nat) (h : addGo (l.length + 1) l st2.at_ st2.to (lastBody st2.fields) = (b, (bad : Int))) : (pStep vn l st a).e = 5 ∧ (pStep vn l st a).at_ = bad := by
  have hw := pWords_addGo l (l.length + 1) st2 he hat hto hne (by omega)
  rw [h] at hw
  simp only at hw
  rw [if_neg (by omega)] at hw
  unfold pStep
  rw [hn]
  unfold pBody
  rw [hw]
  simp
theorem step_body (b : List UInt8) (h : addGo (l.length + 1) l st2.at_ st2.to (lastBody st2.fields) = (b, -1)) (h8 : 8192 < b.length) : (pStep vn l st a).e = 5 ∧ (pStep vn l st a).at_ = st2.frm := by
  have hw := pWords_addGo l (l.length + 1) st2 he hat hto hne (by omega)
  rw [h] at hw
  simp only at hw
  rw [if_pos (by omega)] at hw
  unfold pStep
  rw [hn]
  unfold pBody
  rw [hw]
  simp only
  rw [lastBody_setLast _ _ hne, if_pos ⟨he, h8⟩]
  simp [pFail, he]
theorem step_fine (b : List UInt8) (h : addGo (l.length + 1) l st2.at_ st2.to (lastBody st2.fields) = (b, -1)) (h8 : ¬ 8192 < b.length) : pStep vn l st a = { st2 with at_ := st2.to, fields := setLast st2.fields b } := by
  have hw := pWords_addGo l (l.length + 1) st2 he hat hto hne (by omega)
  rw [h] at hw
  simp only at hw
  rw [if_pos (by omega)] at hw
  unfold pStep
  rw [hn]
  unfold pBody
  rw [hw]
  simp only
  rw [lastBody_setLast _ _ hne, if_neg (fun h => h8 h.2)]
end

theorem addGo_body_le (l : List UInt8) : ∀ (n a t : Nat) (b : List UInt8), a ≤ t → t ≤ l.length → (addGo n l a t b).1.length ≤ b.length + 2 * (t - a) := by
  intro n
  induction n with
  | zero => intro a t b _ _; simp [addGo]
  | succ n ih =>
    intro a t b hat ht
    have h1 := skipTo_ge isBlank l a t
    have h2 := skipTo_le isBlank l a t hat ht
    have h3 := skipTo_ge (fun c => !isBlank c) l (skipTo isBlank l a t) t
    have h4 := skipTo_le (fun c => !isBlank c) l (skipTo isBlank l a t) t h2 ht
    rw [addGo]
    split
    · simp
    · rename_i hc
      split
      · simp
      · have h5 := ih (skipTo (fun c => !isBlank c) l (skipTo isBlank l a t) t) t (addWord b (cutL l (skipTo isBlank l a t) (skipTo (fun c => !isBlank c) l (skipTo isBlank l a t) t))) h4 ht
        have h6 := addWord_length b (cutL l (skipTo isBlank l a t) (skipTo (fun c => !isBlank c) l (skipTo isBlank l a t) t))
        rw [cutL_length _ _ _ (by omega)] at h6
        by_cases hz : skipTo (fun c => !isBlank c) l (skipTo isBlank l a t) t = skipTo isBlank l a t
        · have hlt : skipTo isBlank l a t < t := by omega
          have hb : isBlank (num (l[skipTo isBlank l a t]'(by omega))) = false := by
            have hd := List.head?_dropWhile_not (fun c => isBlank (num c)) (cutL l a t)
            rw [dropWhile_eq_drop] at hd
            have : (cutL l a t).drop ((cutL l a t).takeWhile fun c => isBlank (num c)).length = cutL l (skipTo isBlank l a t) t := by
              unfold skipTo cutL
              rw [List.drop_take, List.drop_drop]
              congr 1; omega
            rw [this, cutL_cons _ _ _ hlt ht] at hd
            simpa using hd
          have := skipTo_step (fun c => !isBlank c) l (skipTo isBlank l a t) t hlt ht (by simp [hb])
          have := skipTo_ge (fun c => !isBlank c) l (skipTo isBlank l a t + 1) t
          omega
        · omega

end Go.Proofs.YtcohgjdijhogbaaGreat
