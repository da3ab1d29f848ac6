/- The words of a line, as the reference adds them, against the parser's own. No program here. -/
import Derived.Test.YtcohgjdijhogbaaGreatPt1
namespace Go.Proofs.YtcohgjdijhogbaaGreat
set_option linter.unusedSimpArgs false
set_option linter.unusedVariables false

def addGo : Nat → List UInt8 → Nat → Nat → List UInt8 → List UInt8 × Int
  | 0, _, _, _, b => (b, -1)
  | n + 1, l, a, t, b =>
    if skipTo isBlank l a t = t then (b, -1)
    else if 900 < skipTo (fun c => !isBlank c) l (skipTo isBlank l a t) t - skipTo isBlank l a t then (b, (skipTo isBlank l a t : Int))
    else addGo n l (skipTo (fun c => !isBlank c) l (skipTo isBlank l a t) t) t (addWord b (cutL l (skipTo isBlank l a t) (skipTo (fun c => !isBlank c) l (skipTo isBlank l a t) t)))

theorem setLast_self (l : List Fd) (h : l ≠ []) : setLast l (lastBody l) = l := by
  rcases List.eq_nil_or_concat l with e | ⟨dl, f, e⟩
  · exact absurd e h
  · rw [List.concat_eq_append] at e
    subst e
    simp [setLast, lastBody]
theorem setLast_twice (l : List Fd) (a b : List UInt8) (h : l ≠ []) : setLast (setLast l a) b = setLast l b := by
  rcases List.eq_nil_or_concat l with e | ⟨dl, f, e⟩
  · exact absurd e h
  · rw [List.concat_eq_append] at e
    subst e
    simp [setLast]
theorem setLast_ne (l : List Fd) (a : List UInt8) (h : l ≠ []) : setLast l a ≠ [] := fun e => by
  have := setLast_length l a
  rw [e] at this
  exact h (List.eq_nil_of_length_eq_zero this.symm)

theorem pWords_addGo (l : List UInt8) : ∀ (n : Nat) (st : PSt), st.e = 0 → st.at_ ≤ st.to → st.to ≤ l.length → st.fields ≠ [] → st.to - st.at_ < n →
    pWords n l st = if (addGo n l st.at_ st.to (lastBody st.fields)).2 < 0 then { st with at_ := st.to, fields := setLast st.fields (addGo n l st.at_ st.to (lastBody st.fields)).1 }
      else { st with at_ := (addGo n l st.at_ st.to (lastBody st.fields)).2.toNat, fields := setLast st.fields (addGo n l st.at_ st.to (lastBody st.fields)).1, e := 5 } := by
  intro n
  induction n with
  | zero => intro st _ _ _ _ h; omega
  | succ n ih =>
    intro st he hat hto hne hn
    have h1 := skipTo_ge isBlank l st.at_ st.to
    have h2 := skipTo_le isBlank l st.at_ st.to hat hto
    rw [pWords]
    by_cases hc : skipTo isBlank l st.at_ st.to = st.to
    · have hw : pWord l st = (false, { st with at_ := st.to }) := by unfold pWord; rw [if_neg (by simp [he]), if_pos hc]
      have ha : addGo (n + 1) l st.at_ st.to (lastBody st.fields) = (lastBody st.fields, -1) := by rw [addGo, if_pos hc]
      rw [hw, ha]
      simp [setLast_self _ hne]
    · by_cases h9 : 900 < skipTo (fun c => !isBlank c) l (skipTo isBlank l st.at_ st.to) st.to - skipTo isBlank l st.at_ st.to
      · have hw : pWord l st = (false, { st with at_ := skipTo isBlank l st.at_ st.to, e := 5 }) := by
          unfold pWord; rw [if_neg (by simp [he]), if_neg hc, if_pos h9]; simp [pFail, he]
        have ha : addGo (n + 1) l st.at_ st.to (lastBody st.fields) = (lastBody st.fields, (skipTo isBlank l st.at_ st.to : Int)) := by rw [addGo, if_neg hc, if_pos h9]
        rw [hw, ha]
        have h0 : ¬ ((skipTo isBlank l st.at_ st.to : Nat) : Int) < 0 := by omega
        simp only [Bool.false_eq_true, if_false, if_neg h0, setLast_self _ hne, Int.toNat_natCast]
      · have ht : (pWord l st).1 = true := by unfold pWord; rw [if_neg (by simp [he]), if_neg hc, if_neg h9]
        have hp := pWord_true l st hat hto hne ht
        have hw : pWord l st = (true, { st with at_ := skipTo (fun c => !isBlank c) l (skipTo isBlank l st.at_ st.to) st.to, fields := setLast st.fields (addWord (lastBody st.fields) (cutL l (skipTo isBlank l st.at_ st.to) (skipTo (fun c => !isBlank c) l (skipTo isBlank l st.at_ st.to) st.to))) }) := by
          unfold pWord; rw [if_neg (by simp [he]), if_neg hc, if_neg h9]
        have ha : addGo (n + 1) l st.at_ st.to (lastBody st.fields) = addGo n l (skipTo (fun c => !isBlank c) l (skipTo isBlank l st.at_ st.to) st.to) st.to (addWord (lastBody st.fields) (cutL l (skipTo isBlank l st.at_ st.to) (skipTo (fun c => !isBlank c) l (skipTo isBlank l st.at_ st.to) st.to))) := by
          rw [addGo, if_neg hc, if_neg h9]
        rw [hw] at hp ⊢
        rw [if_pos rfl, ih _ hp.2.1 hp.2.2.2.2.2.1 hto (setLast_ne _ _ hne) (by have := hp.2.2.2.2.1; simp only at this ⊢; omega)]
        simp only at ⊢
        rw [lastBody_setLast _ _ hne, setLast_twice _ _ _ hne, ha]

/-- A round that fails ends the loop with its error. -/
theorem pLoop_fail (vn : List UInt8 → Bool) (n : Nat) (l : List UInt8) (st : PSt) (frm : Nat) (hf : frm < l.length) (he : st.e = 0) (hs : (pStep vn l st frm).e ≠ 0) : pLoop vn (n + 1) l st frm = pStep vn l st frm := by
  rw [pLoop, if_pos ⟨hf, he⟩]
  cases n with
  | zero => rfl
  | succ n => rw [pLoop, if_neg (fun h => hs h.2)]


theorem addGo_blank (n : Nat) (l : List UInt8) (a t : Nat) (b : List UInt8) (hn : 0 < n) (h : a < t) (ht : t ≤ l.length) (hb : isBlank (num l[a]) = true) : addGo n l a t b = addGo n l (a + 1) t b := by
  obtain ⟨m, rfl⟩ : ∃ m, n = m + 1 := ⟨n - 1, by omega⟩
  rw [addGo, addGo, skipTo_step isBlank l a t h ht hb]
theorem addGo_end (n : Nat) (l : List UInt8) (a t : Nat) (b : List UInt8) (h : t = a) : addGo n l a t b = (b, -1) := by
  cases n with
  | zero => rfl
  | succ n => rw [addGo, if_pos (by rw [skipTo_end _ _ _ _ (by omega)]; exact h.symm)]
theorem addGo_long (n : Nat) (l : List UInt8) (a t g : Nat) (b : List UInt8) (hn : 0 < n) (h : a < t) (ht : t ≤ l.length) (hb : isBlank (num l[a]) = false) (hg : skipTo (fun c => !isBlank c) l a t = g) (h9 : 900 < g - a) : addGo n l a t b = (b, (a : Int)) := by
  obtain ⟨m, rfl⟩ : ∃ m, n = m + 1 := ⟨n - 1, by omega⟩
  have hs := skipTo_stop isBlank l a t h ht hb
  rw [addGo, hs, if_neg (by omega), hg, if_pos h9]
theorem addGo_word (n : Nat) (l : List UInt8) (a t g : Nat) (b : List UInt8) (h : a < t) (ht : t ≤ l.length) (hb : isBlank (num l[a]) = false) (hg : skipTo (fun c => !isBlank c) l a t = g) (h9 : ¬ 900 < g - a) : addGo (n + 1) l a t b = addGo n l g t (addWord b (cutL l a g)) := by
  have hs := skipTo_stop isBlank l a t h ht hb
  rw [addGo, hs, if_neg (by omega), hg, if_neg h9]

end Go.Proofs.YtcohgjdijhogbaaGreat
