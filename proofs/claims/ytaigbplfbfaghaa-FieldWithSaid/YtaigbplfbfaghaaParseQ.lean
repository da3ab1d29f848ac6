/- The parser of headers as plain functions: the words of a line. No program here. -/
import Derived.Test.YtaigbplfbfaghaaParseP
namespace Go.Proofs.Ytaigbplfbfaghaa
set_option linter.unusedSimpArgs false
set_option linter.unusedVariables false

def pWords : Nat → List UInt8 → PSt → PSt
  | 0, _, st => st
  | n + 1, l, st => if (pWord l st).1 = true then pWords n l (pWord l st).2 else (pWord l st).2
def pBody (l : List UInt8) (st : PSt) : PSt :=
  if (pWords (l.length + 1) l st).e = 0 ∧ 8192 < (lastBody (pWords (l.length + 1) l st).fields).length then pFail (pWords (l.length + 1) l st) (pWords (l.length + 1) l st).frm 5 else pWords (l.length + 1) l st

theorem setLast_length (l : List Fd) (b : List UInt8) : (setLast l b).length = l.length := by
  unfold setLast
  cases h : l.getLast? with
  | none => simp at h; simp [h]
  | some f =>
    have : l ≠ [] := fun e => by simp [e] at h
    have := List.length_pos_iff.2 this
    simp; omega
theorem lastBody_setLast (l : List Fd) (b : List UInt8) (h : l ≠ []) : lastBody (setLast l b) = b := by
  unfold setLast
  cases e : l.getLast? with
  | none => simp at e; exact absurd e h
  | some f => simp [lastBody]
theorem addWord_length (b x : List UInt8) : (addWord b x).length ≤ b.length + 1 + x.length := by
  unfold addWord; split <;> simp <;> omega

/-- What a word that was found leaves. -/
theorem pWord_true (l : List UInt8) (st : PSt) (hat : st.at_ ≤ st.to) (hto : st.to ≤ l.length) (hne : st.fields ≠ []) (h : (pWord l st).1 = true) :
    st.e = 0 ∧ (pWord l st).2.e = 0 ∧ (pWord l st).2.to = st.to ∧ (pWord l st).2.frm = st.frm ∧ st.at_ < (pWord l st).2.at_ ∧ (pWord l st).2.at_ ≤ st.to ∧ (pWord l st).2.fields.length = st.fields.length ∧
      (lastBody (pWord l st).2.fields).length ≤ (lastBody st.fields).length + 2 * ((pWord l st).2.at_ - st.at_) := by
  have h1 := skipTo_ge isBlank l st.at_ st.to
  have h2 := skipTo_le isBlank l st.at_ st.to hat hto
  have h3 := skipTo_ge (fun c => !isBlank c) l (skipTo isBlank l st.at_ st.to) st.to
  have h4 := skipTo_le (fun c => !isBlank c) l (skipTo isBlank l st.at_ st.to) st.to h2 hto
  have h5 : skipTo isBlank l st.at_ st.to ≠ st.to → skipTo isBlank l st.at_ st.to < skipTo (fun c => !isBlank c) l (skipTo isBlank l st.at_ st.to) st.to := by
    intro hn
    have hlt : skipTo isBlank l st.at_ st.to < st.to := by omega
    have hb : isBlank (num (l[skipTo isBlank l st.at_ st.to]'(by omega))) = false := by
      have hd := List.head?_dropWhile_not (fun c => isBlank (num c)) (cutL l st.at_ st.to)
      rw [dropWhile_eq_drop] at hd
      have : (cutL l st.at_ st.to).drop ((cutL l st.at_ st.to).takeWhile fun c => isBlank (num c)).length = cutL l (skipTo isBlank l st.at_ st.to) st.to := by
        unfold skipTo cutL
        rw [List.drop_take, List.drop_drop]
        congr 1; omega
      rw [this, cutL_cons _ _ _ hlt hto] at hd
      simpa using hd
    have := skipTo_step (fun c => !isBlank c) l (skipTo isBlank l st.at_ st.to) st.to hlt hto (by simp [hb])
    have := skipTo_ge (fun c => !isBlank c) l (skipTo isBlank l st.at_ st.to + 1) st.to
    omega
  unfold pWord at h ⊢
  by_cases he : st.e = 0
  · rw [if_neg (by simp [he])] at h ⊢
    by_cases hc : skipTo isBlank l st.at_ st.to = st.to
    · rw [if_pos hc] at h; simp at h
    · rw [if_neg hc] at h ⊢
      have h6 := h5 hc
      split at h
      · simp at h
      · rename_i h9
        rw [if_neg h9]
        have hb := addWord_length (lastBody st.fields) (cutL l (skipTo isBlank l st.at_ st.to) (skipTo (fun c => !isBlank c) l (skipTo isBlank l st.at_ st.to) st.to))
        rw [cutL_length _ _ _ (by omega)] at hb
        refine ⟨he, he, rfl, rfl, by simp; omega, by simpa using h4, setLast_length _ _, ?_⟩
        simp only
        rw [lastBody_setLast _ _ hne]
        omega
  · rw [if_pos he] at h; simp at h

/-- What the end of a line leaves. -/
theorem pWord_false (l : List UInt8) (st : PSt) (h : (pWord l st).1 = false) : (pWord l st).2.fields = st.fields ∧ (pWord l st).2.to = st.to ∧ (pWord l st).2.frm = st.frm := by
  unfold pWord at h ⊢
  split
  · exact ⟨rfl, rfl, rfl⟩
  · split
    · exact ⟨rfl, rfl, rfl⟩
    · split
      · unfold pFail; split <;> exact ⟨rfl, rfl, rfl⟩
      · rename_i h1 h2 h3
        rw [if_neg h1, if_neg h2, if_neg h3] at h; simp at h


theorem pWords_bad (n : Nat) (l : List UInt8) (st : PSt) (h : st.e ≠ 0) : pWords n l st = st := by
  cases n with
  | zero => rfl
  | succ n => simp [pWords, pWord, h]
theorem pBody_bad (l : List UInt8) (st : PSt) (h : st.e ≠ 0) : pBody l st = st := by
  unfold pBody; rw [pWords_bad _ _ _ h, if_neg (fun k => h k.1)]

def pStep (vn : List UInt8 → Bool) (l : List UInt8) (st : PSt) (frm : Nat) : PSt := pBody l (pName vn l (pLine l st frm))
def pLoop (vn : List UInt8 → Bool) : Nat → List UInt8 → PSt → Nat → PSt
  | 0, _, st, _ => st
  | n + 1, l, st, frm => if frm < l.length ∧ st.e = 0 then pLoop vn n l (pStep vn l st frm) ((pStep vn l st frm).to + 1) else st
def pInit : PSt := { frm := 0, to := 0, at_ := 0, fields := [], e := 0 }
def parseV (vn : List UInt8 → Bool) (l : List UInt8) : List Fd × Int × Int :=
  if 65536 < l.length then ([], 65536, 5)
  else if (pLoop vn (l.length + 1) l pInit 0).e ≠ 0 then ([], (pLoop vn (l.length + 1) l pInit 0).at_, (pLoop vn (l.length + 1) l pInit 0).e)
  else ((pLoop vn (l.length + 1) l pInit 0).fields, 0, 0)

theorem pFail_keep (st : PSt) (a : Nat) (c : Int) : (pFail st a c).fields = st.fields ∧ (pFail st a c).to = st.to ∧ (pFail st a c).frm = st.frm := by
  unfold pFail; split <;> exact ⟨rfl, rfl, rfl⟩
theorem pFail_e (st : PSt) (a : Nat) (c : Int) (hc : c ≠ 0) : (pFail st a c).e ≠ 0 := by
  unfold pFail; split
  · exact hc
  · assumption

theorem pLine_to (l : List UInt8) (st : PSt) (frm : Nat) (hf : frm ≤ l.length) (ht : st.to ≤ l.length) : (pLine l st frm).to ≤ l.length ∧ (pLine l st frm).fields = st.fields := by
  have hr := lineLen_range l frm hf
  unfold pLine
  split
  · exact ⟨ht, rfl⟩
  · split
    · have := pFail_keep st l.length 4; exact ⟨by omega, this.1⟩
    · rename_i h1 h2
      have h3 : frm + (lineLen l frm).toNat < l.length := by omega
      simp only
      split
      · have := pFail_keep { st with frm := frm, to := frm + (lineLen l frm).toNat, at_ := frm } (frm + 998) 5
        exact ⟨by rw [this.2.1]; simp only; omega, this.1⟩
      · split
        · have := pFail_keep { st with frm := frm, to := frm + (lineLen l frm).toNat, at_ := frm } (frm + (findI (fun c => forbidden (num c)) (cutL l frm (frm + (lineLen l frm).toNat)) 0).toNat) 6
          exact ⟨by rw [this.2.1]; simp only; omega, this.1⟩
        · exact ⟨by simp only; omega, rfl⟩
theorem pLine_ok (l : List UInt8) (st : PSt) (frm : Nat) (hf : frm ≤ l.length) (h : (pLine l st frm).e = 0) :
    st.e = 0 ∧ 0 ≤ lineLen l frm ∧ frm + (lineLen l frm).toNat < l.length ∧ pLine l st frm = { st with frm := frm, to := frm + (lineLen l frm).toNat, at_ := frm } := by
  have hr := lineLen_range l frm hf
  unfold pLine at h ⊢
  by_cases he : st.e = 0
  · rw [if_neg (by simp [he])] at h ⊢
    by_cases hn : lineLen l frm < 0
    · rw [if_pos hn] at h; exact absurd h (pFail_e _ _ _ (by decide))
    · rw [if_neg hn] at h ⊢
      simp only at h ⊢
      by_cases h9 : 998 < (lineLen l frm).toNat
      · rw [if_pos h9] at h; exact absurd h (pFail_e _ _ _ (by decide))
      · rw [if_neg h9] at h ⊢
        by_cases hi : 0 ≤ findI (fun c => forbidden (num c)) (cutL l frm (frm + (lineLen l frm).toNat)) 0
        · rw [if_pos hi] at h; exact absurd h (pFail_e _ _ _ (by decide))
        · rw [if_neg hi]; exact ⟨he, by omega, by omega, rfl⟩
  · rw [if_pos he] at h; exact absurd h he
theorem pName_to (vn : List UInt8 → Bool) (l : List UInt8) (st : PSt) : (pName vn l st).to = st.to := by
  unfold pName
  split
  · rfl
  · split
    · split
      · exact (pFail_keep _ _ _).2.1
      · rfl
    · split
      · exact (pFail_keep _ _ _).2.1
      · split
        · exact (pFail_keep _ _ _).2.1
        · split
          · exact (pFail_keep _ _ _).2.1
          · rfl
theorem pName_ok (vn : List UInt8 → Bool) (l : List UInt8) (st : PSt) (hft : st.frm ≤ st.to) (hto : st.to ≤ l.length) (hat : st.at_ ≤ st.to) (hn : st.fields.length ≤ 64) (hb : (lastBody st.fields).length ≤ 8192) (h : (pName vn l st).e = 0) :
    (pName vn l st).frm = st.frm ∧ (pName vn l st).at_ ≤ st.to ∧ (pName vn l st).fields ≠ [] ∧ (pName vn l st).fields.length ≤ 64 ∧ (lastBody (pName vn l st).fields).length ≤ 8192 := by
  have hir := findI_range (fun c => c == (58 : UInt8)) (cutL l st.frm st.to) 0
  rw [cutL_length _ _ _ hto] at hir
  unfold pName at h ⊢
  by_cases he : st.e = 0
  · rw [if_neg (by simp [he])] at h ⊢
    by_cases hm : moreLine (cutL l st.frm st.to) = true
    · rw [if_pos hm] at h ⊢
      by_cases h0 : st.fields.length = 0
      · rw [if_pos h0] at h; exact absurd h (pFail_e _ _ _ (by decide))
      · rw [if_neg h0]
        exact ⟨rfl, hat, fun e => h0 (by rw [e]; rfl), hn, hb⟩
    · rw [if_neg hm] at h ⊢
      by_cases hc : findI (fun c => c == (58 : UInt8)) (cutL l st.frm st.to) 0 < 0
      · rw [if_pos hc] at h; exact absurd h (pFail_e _ _ _ (by decide))
      · rw [if_neg hc] at h ⊢
        split at h
        · exact absurd h (pFail_e _ _ _ (by decide))
        · rename_i hv
          rw [if_neg hv]
          by_cases h6 : st.fields.length = 64
          · rw [if_pos h6] at h; exact absurd h (pFail_e _ _ _ (by decide))
          · rw [if_neg h6]
            refine ⟨rfl, by simp only; omega, by simp, by simp; omega, by simp [lastBody]⟩
  · rw [if_pos he] at h; exact absurd h he
theorem pWords_keep (l : List UInt8) : ∀ (n : Nat) (st : PSt), st.at_ ≤ st.to → st.to ≤ l.length → st.fields ≠ [] → (pWords n l st).to = st.to ∧ (pWords n l st).fields.length = st.fields.length ∧ (pWords n l st).frm = st.frm := by
  intro n
  induction n with
  | zero => intro st _ _ _; exact ⟨rfl, rfl, rfl⟩
  | succ n ih =>
    intro st h1 h2 h3
    simp only [pWords]
    split
    · rename_i hw
      obtain ⟨_, _, a, a2, _, b, c, _⟩ := pWord_true l st h1 h2 h3 hw
      have := ih (pWord l st).2 (by omega) (by omega) (fun e => by rw [e] at c; exact h3 (List.eq_nil_of_length_eq_zero c.symm))
      omega
    · rename_i hw
      have := pWord_false l st (by simpa using hw)
      exact ⟨this.2.1, by rw [this.1], this.2.2⟩
theorem pBody_keep (l : List UInt8) (st : PSt) (h1 : st.at_ ≤ st.to) (h2 : st.to ≤ l.length) (h3 : st.fields ≠ []) : (pBody l st).to = st.to ∧ (pBody l st).fields.length = st.fields.length ∧ (pBody l st).frm = st.frm ∧ ((pBody l st).e = 0 → (lastBody (pBody l st).fields).length ≤ 8192) := by
  have h := pWords_keep l (l.length + 1) st h1 h2 h3
  unfold pBody
  split
  · have := pFail_keep (pWords (l.length + 1) l st) (pWords (l.length + 1) l st).frm 5
    exact ⟨by rw [this.2.1]; exact h.1, by rw [this.1]; exact h.2.1, by rw [this.2.2]; exact h.2.2, fun e => absurd e (pFail_e _ _ _ (by decide))⟩
  · rename_i hn
    exact ⟨h.1, h.2.1, h.2.2, fun e => by
      rcases Nat.lt_or_ge 8192 (lastBody (pWords (l.length + 1) l st).fields).length with h' | h'
      · exact absurd ⟨e, h'⟩ hn
      · exact h'⟩

end Go.Proofs.Ytaigbplfbfaghaa
