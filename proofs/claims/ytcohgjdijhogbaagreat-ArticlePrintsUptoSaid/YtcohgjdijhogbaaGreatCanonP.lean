/- What was parsed is valid, and its text is at most twice as long. No walk here. -/
import Derived.Test.YtcohgjdijhogbaaGreatPP
import Derived.Test.YtcohgjdijhogbaaGreatPt10
namespace Go.Proofs.YtcohgjdijhogbaaGreat
set_option linter.unusedSimpArgs false
set_option linter.unusedVariables false

theorem skipTo_idem (l : List UInt8) (a t : Nat) (hlt : skipTo isBlank l a t < t) (ht : t ≤ l.length) : isBlank (num (l[skipTo isBlank l a t]'(by omega))) = false := by
  have hd := List.head?_dropWhile_not (fun c => isBlank (num c)) (cutL l a t)
  rw [dropWhile_eq_drop] at hd
  have e2 : (cutL l a t).drop ((cutL l a t).takeWhile fun c => isBlank (num c)).length = cutL l (skipTo isBlank l a t) t := by
    unfold skipTo cutL
    rw [List.drop_take, List.drop_drop]
    congr 1; omega
  rw [e2, cutL_cons _ _ _ hlt ht] at hd
  simpa using hd

theorem addGo_ok (l : List UInt8) : ∀ (n a t : Nat) (b : List UInt8), a ≤ t → t ≤ l.length → t - a < n → (addGo n l a t b).2 < 0 → ∀ x ∈ words (cutL l a t), x.length ≤ 900 := by
  intro n
  induction n with
  | zero => intro a t b _ _ h; omega
  | succ n ih =>
    intro a t b hat ht hn hw
    have h1 := skipTo_ge isBlank l a t
    have h2 := skipTo_le isBlank l a t hat ht
    have h3 := skipTo_ge (fun c => !isBlank c) l (skipTo isBlank l a t) t
    have h4 := skipTo_le (fun c => !isBlank c) l (skipTo isBlank l a t) t h2 ht
    have hr := words_round (l.take t) a (skipTo isBlank l a t) (skipTo (fun c => !isBlank c) l (skipTo isBlank l a t) t) (skipTo_take _ _ _ _) (skipTo_take _ _ _ _)
    rw [← cutL_drop, ← cutL_drop, cutL_take _ _ _ _ h4] at hr
    rw [addGo] at hw
    by_cases hc : skipTo isBlank l a t = t
    · have hg : skipTo (fun c => !isBlank c) l (skipTo isBlank l a t) t = t := by omega
      rw [hg, hc] at hr
      have : words (cutL l a t) = [] := by rw [hr]; simp [cutL, words_nil]
      rw [this]; intro x hx; cases hx
    · rw [if_neg hc] at hw
      have hlt : skipTo isBlank l a t < t := by omega
      have hfg : skipTo isBlank l a t < skipTo (fun c => !isBlank c) l (skipTo isBlank l a t) t := by
        have := skipTo_step (fun c => !isBlank c) l (skipTo isBlank l a t) t hlt ht (by simp [skipTo_idem l a t hlt ht])
        have := skipTo_ge (fun c => !isBlank c) l (skipTo isBlank l a t + 1) t
        omega
      rw [if_pos hfg] at hr
      by_cases h9 : 900 < skipTo (fun c => !isBlank c) l (skipTo isBlank l a t) t - skipTo isBlank l a t
      · rw [if_pos h9] at hw; simp only at hw; omega
      · rw [if_neg h9] at hw
        have hrest := ih _ _ _ h4 ht (by omega) hw
        rw [hr]
        intro x hx
        rcases List.mem_append.1 hx with hx | hx
        · simp at hx; subst hx; rw [cutL_length _ _ _ (by omega)]; omega
        · exact hrest x hx

theorem addGo_neg (l : List UInt8) : ∀ (n a t : Nat) (b : List UInt8), (addGo n l a t b).2 < 0 → (addGo n l a t b).2 = -1 := by
  intro n
  induction n with
  | zero => intro a t b _; rfl
  | succ n ih =>
    intro a t b h
    rw [addGo] at h ⊢
    split
    · rfl
    · rename_i h1
      rw [if_neg h1] at h
      split
      · rename_i h2
        rw [if_pos h2] at h; simp only at h; omega
      · rename_i h2
        rw [if_neg h2] at h
        exact ih _ _ _ h

/-- What the fields take in a source, at least. -/
def fsum (l : List Fd) : Nat := (l.map fun f => f.1.length + f.2.length + 2).sum
theorem fsum_snoc (l : List Fd) (f : Fd) : fsum (l ++ [f]) = fsum l + (f.1.length + f.2.length + 2) := by simp [fsum]

theorem joinSp_append_le (d ws : List (List UInt8)) : (joinSp (d ++ ws)).length ≤ (joinSp d).length + 1 + (joinSp ws).length := by
  induction d with
  | nil => simp [joinSp]
  | cons x r ih =>
    cases r with
    | nil =>
      cases ws with
      | nil => simp [joinSp]
      | cons y r => simp [joinSp]; omega
    | cons y r => simp [joinSp] at ih ⊢; omega

theorem line_words (l : List UInt8) (a t : Nat) (h9 : ∀ x ∈ words (cutL l a t), x.length ≤ 900) (hf : ∀ c ∈ cutL l a t, isForb c = false) : ∀ x ∈ words (cutL l a t), Proper x := by
  intro x hx
  obtain ⟨m1, m2⟩ := words_mem _ x hx
  refine ⟨m1, h9 x hx, fun c hc => ?_⟩
  obtain ⟨k1, k2⟩ := m2 c hc
  have := hf c k2
  unfold isForb forbidden at this
  simp [k1] at this
  exact this

theorem findI_nowhere {q : UInt8 → Bool} {x : List UInt8} (h : findI q x 0 < 0) : ∀ d ∈ x, q d = false := by
  have := findI_geq q x 0
  have h2 : ¬ 0 ≤ findI q x 0 := by omega
  rw [decide_eq_false h2] at this
  have := this.symm
  rw [List.any_eq_false] at this
  intro d hd
  simpa using this d hd

/-- One round keeps the fields valid and pays for them. -/
theorem step_good (l : List UInt8) (st : PSt) (a : Nat) (ha : a < l.length) (he : st.e = 0) (hg : ∀ f ∈ st.fields, GoodF f) (hs : fsum st.fields ≤ a) (h : (pStep validName l st a).e = 0) :
    (∀ f ∈ (pStep validName l st a).fields, GoodF f) ∧ fsum (pStep validName l st a).fields ≤ (pStep validName l st a).to + 1 ∧ (pStep validName l st a).to < l.length := by
  have hrng := lineLen_range l a (by omega)
  by_cases hlen : lineLen l a < 0
  · have := (step_short validName l st a he hlen).1; omega
  obtain ⟨n, hn⟩ : ∃ n : Nat, lineLen l a = n := ⟨(lineLen l a).toNat, by omega⟩
  have han : a + n < l.length := by omega
  by_cases h9 : 998 < n
  · have := (step_long validName l st a he n hn h9).1; omega
  by_cases hfb : findI isForb (cutL l a (a + n)) 0 < 0
  · have hline := line_fine l st a he n hn h9 hfb
    have hfine := findI_nowhere hfb
    rcases hm : moreLine (cutL l a (a + n)) with _ | _
    · -- a new field
      by_cases hc : findI isColon (cutL l a (a + n)) 0 < 0
      · have := (step_nocolon (vn := validName) he hline hm hc).1; omega
      obtain ⟨c, hc'⟩ : ∃ c : Nat, findI isColon (cutL l a (a + n)) 0 = c := ⟨(findI isColon (cutL l a (a + n)) 0).toNat, by omega⟩
      have hcr := findI_range isColon (cutL l a (a + n)) 0
      rw [cutL_length _ _ _ (by omega)] at hcr
      have hcn : c < n := by omega
      rcases hv : validName ((cutL l a (a + n)).take c) with _ | _
      · have := (step_name he hline hm c hc' hv).1; omega
      by_cases h6 : st.fields.length = 64
      · have := (step_limit he hline hm c hc' hv h6).1; omega
      have hname := name_new he hline hm c hc' hv h6
      generalize hst2 : ({ st with frm := a, to := a + n, at_ := a + c + 1, fields := st.fields ++ [((cutL l a (a + n)).take c, [])] } : PSt) = st2 at hname
      have e1 : st2.at_ = a + c + 1 := by rw [← hst2]
      have e2 : st2.to = a + n := by rw [← hst2]
      have e3 : st2.fields = st.fields ++ [((cutL l a (a + n)).take c, [])] := by rw [← hst2]
      have e4 : st2.e = 0 := by rw [← hst2]; exact he
      have hne : st2.fields ≠ [] := by rw [e3]; simp
      have hlb : lastBody st2.fields = [] := by rw [e3]; simp [lastBody]
      obtain ⟨⟨b, k⟩, hbk⟩ : ∃ r, addGo (l.length + 1) l st2.at_ st2.to (lastBody st2.fields) = r := ⟨_, rfl⟩
      by_cases hk : k < 0
      · have hk1 : k = -1 := by have := addGo_neg l (l.length + 1) st2.at_ st2.to (lastBody st2.fields); rw [hbk] at this; exact this hk
        subst hk1
        by_cases h8 : 8192 < b.length
        · have := (step_body hname e4 (by omega) (by omega) hne b hbk h8).1; omega
        · have hstep := step_fine hname e4 (by omega) (by omega) hne b hbk h8
          have h900 := addGo_ok l (l.length + 1) st2.at_ st2.to (lastBody st2.fields) (by omega) (by omega) (by omega) (by rw [hbk]; simp)
          have hsub : ∀ d ∈ cutL l st2.at_ st2.to, isForb d = false := by
            intro d hd
            apply hfine
            rw [e1, e2] at hd
            have : cutL l (a + c + 1) (a + n) = (cutL l a (a + n)).drop (c + 1) := by
              unfold cutL; rw [List.drop_take, List.drop_drop]; congr 1; omega
            rw [this] at hd
            exact List.mem_of_mem_drop hd
          have hprop := line_words l _ _ h900 hsub
          have hw := addGo_words l (l.length + 1) st2.at_ st2.to (lastBody st2.fields) (by omega) (by omega) (by omega) h900
          have hfold := foldl_addWord (words (cutL l st2.at_ st2.to)) hprop [] (by simp)
          rw [hbk, hlb] at hw
          have hb : b = joinSp (words (cutL l st2.at_ st2.to)) := by
            have := congrArg Prod.fst hw
            simp only at this
            rw [this]; simpa [joinSp] using hfold
          have hble : b.length ≤ n - c - 1 := by
            rw [hb]
            have := squeeze_le (cutL l st2.at_ st2.to)
            rw [cutL_length _ _ _ (by omega), e1, e2] at this
            unfold squeeze at this; rw [e1, e2]; omega
          have hset : setLast st2.fields b = st.fields ++ [((cutL l a (a + n)).take c, b)] := by rw [e3]; simp [setLast]
          rw [hstep]
          simp only [hset]
          refine ⟨fun f hf => ?_, ?_, by omega⟩
          · rcases List.mem_append.1 hf with hf | hf
            · exact hg f hf
            · simp at hf; subst hf
              exact ⟨hv, by simp only; omega, _, hb, hprop⟩
          · rw [fsum_snoc]
            simp only [List.length_take, cutL_length l a (a + n) (by omega)]
            omega
      · obtain ⟨bad, rfl⟩ : ∃ m : Nat, k = m := ⟨k.toNat, by omega⟩
        have := (step_bad hname e4 (by omega) (by omega) hne b bad hbk).1; omega
    · -- more of the last field
      by_cases h0 : st.fields.length = 0
      · have := (step_lone (vn := validName) he hline hm h0).1; omega
      have hname := name_more (vn := validName) he hline hm h0
      generalize hst2 : ({ st with frm := a, to := a + n, at_ := a } : PSt) = st2 at hname
      have e1 : st2.at_ = a := by rw [← hst2]
      have e2 : st2.to = a + n := by rw [← hst2]
      have e3 : st2.fields = st.fields := by rw [← hst2]
      have e4 : st2.e = 0 := by rw [← hst2]; exact he
      have hne : st2.fields ≠ [] := by rw [e3]; exact fun e => h0 (by rw [e]; rfl)
      rcases List.eq_nil_or_concat st.fields with e | ⟨dl, f, e⟩
      · exact absurd e (by rw [← e3]; exact hne)
      rw [List.concat_eq_append] at e
      have hlb : lastBody st2.fields = f.2 := by rw [e3, e]; simp [lastBody]
      obtain ⟨hfn, hfl, ds, hds, hdp⟩ := hg f (by rw [e]; simp)
      obtain ⟨⟨b, k⟩, hbk⟩ : ∃ r, addGo (l.length + 1) l st2.at_ st2.to (lastBody st2.fields) = r := ⟨_, rfl⟩
      by_cases hk : k < 0
      · have hk1 : k = -1 := by have := addGo_neg l (l.length + 1) st2.at_ st2.to (lastBody st2.fields); rw [hbk] at this; exact this hk
        subst hk1
        by_cases h8 : 8192 < b.length
        · have := (step_body hname e4 (by omega) (by omega) hne b hbk h8).1; omega
        · have hstep := step_fine hname e4 (by omega) (by omega) hne b hbk h8
          have h900 := addGo_ok l (l.length + 1) st2.at_ st2.to (lastBody st2.fields) (by omega) (by omega) (by omega) (by rw [hbk]; simp)
          have hprop := line_words l st2.at_ st2.to h900 (by rw [e1, e2]; exact hfine)
          have hw := addGo_words l (l.length + 1) st2.at_ st2.to (lastBody st2.fields) (by omega) (by omega) (by omega) h900
          have hfold := foldl_addWord (words (cutL l st2.at_ st2.to)) hprop ds hdp
          rw [hbk, hlb, hds] at hw
          have hb : b = joinSp (ds ++ words (cutL l st2.at_ st2.to)) := by
            have := congrArg Prod.fst hw
            simp only at this
            rw [this]; exact hfold
          have hble : b.length ≤ f.2.length + n := by
            rw [hb, hds]
            have h1 := joinSp_append_le ds (words (cutL l st2.at_ st2.to))
            have hn0 : 0 < n := by
              rcases Nat.eq_zero_or_pos n with rfl | h
              · simp [cutL, moreLine] at hm
              · exact h
            have hcons := cutL_cons l a (a + n) (by omega) (by omega)
            have hbl : isBlank (num (l[a]'ha)) = true := by rw [hcons] at hm; exact hm
            have h2 : words (cutL l st2.at_ st2.to) = words (cutL l (a + 1) (a + n)) := by
              rw [e1, e2, hcons, words_blanks, words_blanks (cutL l (a + 1) (a + n)), List.dropWhile_cons, hbl]; simp
            have h3 := squeeze_le (cutL l (a + 1) (a + n))
            rw [cutL_length _ _ _ (by omega)] at h3
            unfold squeeze at h3
            rw [h2] at h1 ⊢
            omega
          have hset : setLast st2.fields b = dl ++ [(f.1, b)] := by rw [e3, e]; simp [setLast]
          rw [hstep]
          simp only [hset]
          refine ⟨fun g hg' => ?_, ?_, by omega⟩
          · rcases List.mem_append.1 hg' with hg' | hg'
            · exact hg g (by rw [e]; simp [hg'])
            · simp at hg'; subst hg'
              refine ⟨hfn, by simp only; omega, _, hb, fun x hx => ?_⟩
              rcases List.mem_append.1 hx with hx | hx
              · exact hdp x hx
              · exact hprop x hx
          · rw [e, fsum_snoc] at hs
            rw [fsum_snoc]
            simp only
            omega
      · obtain ⟨bad, rfl⟩ : ∃ m : Nat, k = m := ⟨k.toNat, by omega⟩
        have := (step_bad hname e4 (by omega) (by omega) hne b bad hbk).1; omega
  · have := (step_byte validName l st a he n hn h9 (findI isForb (cutL l a (a + n)) 0).toNat (by omega)).1; omega

theorem loop_good (l : List UInt8) : ∀ (n : Nat) (st : PSt) (a : Nat), a ≤ l.length → st.e = 0 → (∀ f ∈ st.fields, GoodF f) → fsum st.fields ≤ a → (pLoop validName n l st a).e = 0 →
    (∀ f ∈ (pLoop validName n l st a).fields, GoodF f) ∧ fsum (pLoop validName n l st a).fields ≤ l.length := by
  intro n
  induction n with
  | zero => intro st a ha he hg hs _; exact ⟨hg, by simp only [pLoop]; omega⟩
  | succ n ih =>
    intro st a ha he hg hs h
    rw [pLoop] at h ⊢
    by_cases hc : a < l.length ∧ st.e = 0
    · rw [if_pos hc] at h ⊢
      by_cases hs0 : (pStep validName l st a).e = 0
      · obtain ⟨g1, g2, g3⟩ := step_good l st a hc.1 he hg hs hs0
        exact ih _ _ (by omega) hs0 g1 g2 h
      · exfalso
        apply hs0
        cases n with
        | zero => exact h
        | succ n => rw [pLoop, if_neg (fun k => hs0 k.2)] at h; exact h
    · rw [if_neg hc]; exact ⟨hg, by omega⟩

theorem parse_good (l : List UInt8) (h : (parseF l).2.2 = 0) : (∀ f ∈ (parseF l).1, GoodF f) ∧ fsum (parseF l).1 ≤ l.length := by
  unfold parseF parseV at h ⊢
  split at h
  · simp at h
  · rename_i h1
    rw [if_neg h1]
    split at h
    · rename_i h2; exact absurd h h2
    · rename_i h2
      rw [if_neg h2]
      exact loop_good l (l.length + 1) pInit 0 (by omega) rfl (by simp [pInit]) (by simp [pInit, fsum]) (by simpa using h2)
theorem parse_bad (l : List UInt8) (h : (parseF l).2.2 ≠ 0) : (parseF l).1 = [] := by
  unfold parseF parseV at h ⊢
  split
  · rfl
  · rename_i h1
    rw [if_neg h1] at h
    split
    · rfl
    · rename_i h2
      rw [if_neg h2] at h; simp at h

theorem validName_ne {n : List UInt8} (h : validName n = true) : 0 < n.length := by
  cases n with
  | nil => simp [validName] at h
  | cons c r => simp
theorem foldF_sum (l : List Fd) (hg : ∀ f ∈ l, GoodF f) : (l.flatMap fun f => foldF f.1 f.2).length ≤ 2 * fsum l := by
  induction l with
  | nil => simp
  | cons f r ih =>
    have h1 := ih (fun g h => hg g (by simp [h]))
    have h2 := foldF_le f.1 f.2
    have h3 := validName_ne (hg f (by simp)).name
    simp [fsum] at h1 ⊢
    omega
theorem printGo_good (l : List Fd) : ∀ out, (∀ f ∈ l, GoodF f) → printGo l out = if 65536 < (out ++ (l.flatMap fun f => foldF f.1 f.2)).length then ([], 5) else (out ++ (l.flatMap fun f => foldF f.1 f.2), 0) := by
  induction l with
  | nil => intro out _; simp [printGo]
  | cons f r ih =>
    intro out hg
    rw [printGo, if_neg (by simp [good_check f.1 f.2 (hg f (by simp))]), ih _ (fun g h => hg g (by simp [h]))]
    simp
/-- Printing what was parsed fails only when the source was long. -/
theorem print_parsed (s : List UInt8) (h : (parseF s).2.2 = 0) (h6 : (parseF s).1.length ≤ 64) : (printF (parseF s).1).2 = 0 ∨ ((printF (parseF s).1).2 = 5 ∧ 32768 < s.length) := by
  obtain ⟨h1, h2⟩ := parse_good s h
  have h3 := foldF_sum _ h1
  unfold printF
  rw [if_neg (by omega), printGo_good _ _ h1]
  split
  · rename_i h5
    simp at h5
    exact .inr ⟨rfl, by simp at h3; omega⟩
  · exact .inl rfl

end Go.Proofs.YtcohgjdijhogbaaGreat
