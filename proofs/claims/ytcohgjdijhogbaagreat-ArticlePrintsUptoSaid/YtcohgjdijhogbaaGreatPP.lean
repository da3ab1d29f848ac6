/- Parsing what was printed gives the fields back. No walk here. -/
import Derived.Test.YtcohgjdijhogbaaGreatGood2
namespace Go.Proofs.YtcohgjdijhogbaaGreat
set_option linter.unusedSimpArgs false
set_option linter.unusedVariables false

/-- From state st at offset p the loop comes to st' at p'. -/
def Reach (T : List UInt8) (st : PSt) (p : Nat) (st' : PSt) (p' : Nat) : Prop := p ≤ p' ∧ (p ≤ T.length → p' ≤ T.length) ∧ ∃ k, k ≤ p' - p ∧ ∀ m, pLoop validName (k + m) T st p = pLoop validName m T st' p'
theorem Reach.refl (T : List UInt8) (st : PSt) (p : Nat) : Reach T st p st p := ⟨Nat.le_refl _, id, 0, by omega, fun m => by rw [Nat.zero_add]⟩
theorem Reach.trans {T : List UInt8} {a b c : PSt} {p q r : Nat} (h : Reach T a p b q) (k : Reach T b q c r) : Reach T a p c r := by
  obtain ⟨h1, h0, i, h2, h3⟩ := h
  obtain ⟨k1, k0, j, k2, k3⟩ := k
  exact ⟨by omega, fun h => k0 (h0 h), i + j, by omega, fun m => by rw [Nat.add_assoc, h3, k3]⟩
theorem Reach.step {T : List UInt8} {st st' : PSt} {p : Nat} (hp : p < T.length) (he : st.e = 0) (hs : pStep validName T st p = st') (ht : p ≤ st'.to) (ht2 : st'.to < T.length) : Reach T st p st' (st'.to + 1) := by
  refine ⟨by omega, fun _ => by omega, 1, by omega, fun m => ?_⟩
  rw [Nat.add_comm, pLoop, if_pos ⟨hp, he⟩, hs]

theorem findI_at {q : UInt8 → Bool} {x r : List UInt8} {c : UInt8} (hx : ∀ d ∈ x, q d = false) (hc : q c = true) : ∀ k : Nat, findI q (x ++ c :: r) k = ((k + x.length : Nat) : Int) := by
  induction x with
  | nil => intro k; simp [findI, hc]
  | cons d x ih =>
    intro k
    rw [List.cons_append, findI, if_neg (by simp [hx d (by simp)]), ih (fun d hd => hx d (by simp [hd]))]
    simp; omega
theorem findI_no {q : UInt8 → Bool} {x : List UInt8} (hx : ∀ d ∈ x, q d = false) : ∀ k : Nat, findI q x k = -1 := by
  induction x with
  | nil => intro k; rfl
  | cons d x ih => intro k; rw [findI, if_neg (by simp [hx d (by simp)]), ih (fun d hd => hx d (by simp [hd]))]

/-- A line of the text: no line feed and no forbidden byte. -/
structure PLine (P : List UInt8) : Prop where
  lf : ∀ d ∈ P, isLF d = false
  ok : ∀ d ∈ P, isForb d = false
  len : P.length ≤ 998

theorem drop_len {T P r : List UInt8} {p : Nat} (h : T.drop p = P ++ 10 :: r) : p + P.length < T.length := by
  have := congrArg List.length h
  simp at this; omega
theorem line_cut {T P r : List UInt8} {p : Nat} (h : T.drop p = P ++ 10 :: r) : cutL T p (p + P.length) = P := by
  unfold cutL
  rw [h, Nat.add_sub_cancel_left, List.take_left']
  rfl
theorem cut_mid {T A B r : List UInt8} {p : Nat} (h : T.drop p = (A ++ B) ++ 10 :: r) : cutL T (p + A.length) (p + (A ++ B).length) = B := by
  unfold cutL
  rw [← List.drop_drop, h, List.append_assoc, List.drop_left' rfl]
  rw [show p + (A ++ B).length - (p + A.length) = B.length from by simp; omega, List.take_left']
  rfl
theorem line_at {T P r : List UInt8} {p : Nat} {st : PSt} (h : T.drop p = P ++ 10 :: r) (hP : PLine P) (he : st.e = 0) : pLine T st p = { st with frm := p, to := p + P.length, at_ := p } := by
  have hl : lineLen T p = (P.length : Int) := by
    have : lineLen T p = findI isLF (T.drop p) 0 := rfl
    rw [this, h, findI_at hP.lf rfl]; simp
  exact line_fine T st p he P.length hl (by have := hP.len; omega) (by rw [line_cut h, findI_no hP.ok]; decide)

theorem spaced_vis {fit : List (List UInt8)} (h : ∀ x ∈ fit, Proper x) {d : UInt8} (hd : d ∈ spaced fit) : d = 32 ∨ isVisible (num d) = true := by
  simp only [spaced, List.mem_flatMap] at hd
  obtain ⟨x, hx, hd⟩ := hd
  rcases List.mem_cons.1 hd with rfl | hd
  · exact .inl rfl
  · exact .inr ((h x hx).vis d hd)
theorem fine_byte {d : UInt8} (h : d = 32 ∨ isVisible (num d) = true) : isLF d = false ∧ isForb d = false := by
  rcases h with rfl | h
  · exact ⟨rfl, rfl⟩
  · exact ⟨vis_noLF h, vis_fine h⟩

theorem name_byte {d : UInt8} (h : notName (num d) = false) : isVisible (num d) = true ∧ isColon d = false := by
  unfold notName isLetter isLower isUpper isDigit at h
  have hr : (45 ≤ (num d) ∧ num d ≤ 57) ∨ (65 ≤ num d ∧ num d ≤ 122) := by
    simp at h; omega
  constructor
  · unfold isVisible; simp; omega
  · unfold isColon; rw [beq_eq_false_iff_ne]; rintro rfl
    have : num (58 : UInt8) = 58 := rfl
    omega
theorem name_bytes {n : List UInt8} (h : validName n = true) : n ≠ [] ∧ n.length ≤ 40 ∧ (∀ d ∈ n, isVisible (num d) = true ∧ isColon d = false) := by
  cases n with
  | nil => simp [validName] at h
  | cons c r =>
    simp only [validName, Bool.and_eq_true, decide_eq_true_eq, Bool.not_eq_true', List.any_eq_false] at h
    refine ⟨by simp, by simp; omega, fun d hd => name_byte (by simpa using h.2 d hd)⟩

/-- The first line of a field. -/
theorem first_line {T r : List UInt8} {p : Nat} {st : PSt} {n : List UInt8} {fit : List (List UInt8)} (h : T.drop p = (n ++ [58] ++ spaced fit) ++ 10 :: r) (hn : validName n = true) (hf : ∀ x ∈ fit, Proper x)
    (hl : (n ++ [58] ++ spaced fit).length ≤ 998) (he : st.e = 0) (h6 : st.fields.length < 64) (hb : (joinSp fit).length ≤ 8192) :
    ∃ st', Reach T st p st' (p + (n ++ [58] ++ spaced fit).length + 1) ∧ st'.e = 0 ∧ st'.fields = st.fields ++ [(n, joinSp fit)] := by
  obtain ⟨hn0, hn1, hn2⟩ := name_bytes hn
  have hP : PLine (n ++ [58] ++ spaced fit) := by
    have hall : ∀ d ∈ n ++ [58] ++ spaced fit, d = 32 ∨ isVisible (num d) = true := by
      intro d hd
      rcases List.mem_append.1 hd with hd | hd
      · rcases List.mem_append.1 hd with hd | hd
        · exact .inr (hn2 d hd).1
        · simp at hd; subst hd; exact .inr rfl
      · exact spaced_vis hf hd
    exact ⟨fun d hd => (fine_byte (hall d hd)).1, fun d hd => (fine_byte (hall d hd)).2, hl⟩
  have hlen := drop_len h
  have hcut := line_cut h
  have hline := line_at h hP he
  have hmore : moreLine (cutL T p (p + (n ++ [58] ++ spaced fit).length)) = false := by
    rw [hcut]
    cases n with
    | nil => exact absurd rfl hn0
    | cons c n' => exact vis_nonblank (hn2 c (by simp)).1
  have hcol : findI isColon (cutL T p (p + (n ++ [58] ++ spaced fit).length)) 0 = n.length := by
    rw [hcut, List.append_assoc]
    have := findI_at (q := isColon) (x := n) (r := spaced fit) (c := 58) (fun d hd => (hn2 d hd).2) rfl 0
    simpa using this
  have htk : (cutL T p (p + (n ++ [58] ++ spaced fit).length)).take n.length = n := by rw [hcut, List.append_assoc, List.take_left']; rfl
  have hname := name_new (vn := validName) he hline hmore n.length hcol (by rw [htk]; exact hn) (by omega)
  rw [htk] at hname
  have hmid : cutL T (p + n.length + 1) (p + (n ++ [58] ++ spaced fit).length) = spaced fit := by
    have := cut_mid (A := n ++ [58]) (B := spaced fit) (by rw [h])
    simpa [Nat.add_assoc] using this
  have hws := words_spaced fit hf
  have hadd : addGo (T.length + 1) T (p + n.length + 1) (p + (n ++ [58] ++ spaced fit).length) [] = (joinSp fit, -1) := by
    rw [addGo_words T _ _ _ _ (by simp; omega) (by omega) (by omega) (by rw [hmid, hws]; exact fun x hx => (hf x hx).len), hmid, hws]
    have := foldl_addWord fit hf [] (by simp)
    simpa [joinSp] using this
  have hst := step_fine (b := joinSp fit) hname he (by simp only [List.length_append, List.length_cons, List.length_nil]; omega) (by simp only; omega) (by simp) (by simp only [lastBody, List.getLast?_append, List.getLast?_singleton, Option.or_some, Option.getD]; exact hadd) (by omega)
  refine ⟨_, Reach.step (by omega) he hst (by simp only; omega) (by simp only; omega), he, ?_⟩
  simp [setLast]


/-- A line that continues a field. -/
theorem next_line {T r : List UInt8} {p : Nat} {st : PSt} {F : List Fd} {n x : List UInt8} {done fit : List (List UInt8)} (h : T.drop p = spaced (x :: fit) ++ 10 :: r) (hd : ∀ x ∈ done, Proper x) (hf : ∀ y ∈ x :: fit, Proper y)
    (hl : (spaced (x :: fit)).length ≤ 998) (he : st.e = 0) (hst : st.fields = F ++ [(n, joinSp done)]) (hb : (joinSp (done ++ x :: fit)).length ≤ 8192) :
    ∃ st', Reach T st p st' (p + (spaced (x :: fit)).length + 1) ∧ st'.e = 0 ∧ st'.fields = F ++ [(n, joinSp (done ++ x :: fit))] := by
  have hP : PLine (spaced (x :: fit)) := ⟨fun d hd => (fine_byte (spaced_vis hf hd)).1, fun d hd => (fine_byte (spaced_vis hf hd)).2, hl⟩
  have hlen := drop_len h
  have hcut := line_cut h
  have hline := line_at h hP he
  have hmore : moreLine (cutL T p (p + (spaced (x :: fit)).length)) = true := by rw [hcut]; rfl
  have hname := name_more (vn := validName) he hline hmore (by rw [hst]; simp)
  have hws := words_spaced (x :: fit) hf
  have hadd : addGo (T.length + 1) T p (p + (spaced (x :: fit)).length) (joinSp done) = (joinSp (done ++ x :: fit), -1) := by
    rw [addGo_words T _ _ _ _ (by omega) (by omega) (by omega) (by rw [hcut, hws]; exact fun y hy => (hf y hy).len), hcut, hws, foldl_addWord _ hf done hd]
  have hs := step_fine (b := joinSp (done ++ x :: fit)) hname he (by simp only; omega) (by simp only; omega) (by simp only; rw [hst]; simp) (by simp only [hst, lastBody, List.getLast?_append, List.getLast?_singleton, Option.or_some, Option.getD]; exact hadd) (by omega)
  refine ⟨_, Reach.step (by omega) he hs (by simp only; omega) (by simp only; omega), he, ?_⟩
  simp [setLast, hst]

theorem drop_more {T A r : List UInt8} {p : Nat} (h : T.drop p = A ++ 10 :: r) : T.drop (p + A.length + 1) = r := by
  rw [Nat.add_assoc, ← List.drop_drop, h, ← List.singleton_append, ← List.append_assoc, List.drop_left']
  simp
theorem joinSp_left_le (a b : List (List UInt8)) : (joinSp a).length ≤ (joinSp (a ++ b)).length := by
  have := joinSp_take_le (a ++ b) a.length
  rwa [List.take_left'] at this
  rfl

/-- The lines that continue a field, all of them. -/
theorem rest_lines {T more : List UInt8} {F : List Fd} {n : List UInt8} : ∀ (k : Nat) (rest done : List (List UInt8)) (st : PSt) (p : Nat), rest.length ≤ k → (∀ x ∈ done, Proper x) → (∀ x ∈ rest, Proper x) →
    T.drop p = (if rest = [] then [] else foldW rest true []) ++ more → st.e = 0 → st.fields = F ++ [(n, joinSp done)] → (joinSp (done ++ rest)).length ≤ 8192 →
    ∃ st' p', Reach T st p st' p' ∧ T.drop p' = more ∧ st'.e = 0 ∧ st'.fields = F ++ [(n, joinSp (done ++ rest))] := by
  intro k
  induction k with
  | zero =>
    intro rest done st p hk hd hr h he hst hb
    have e : rest = [] := List.eq_nil_of_length_eq_zero (by omega)
    subst e
    exact ⟨st, p, Reach.refl _ _ _, by simpa using h, he, by simpa using hst⟩
  | succ k ih =>
    intro rest done st p hk hd hr h he hst hb
    cases rest with
    | nil => exact ⟨st, p, Reach.refl _ _ _, by simpa using h, he, by simpa using hst⟩
    | cons x r =>
      rw [if_neg (by simp)] at h
      obtain ⟨fit, rest', h1, h2, h3⟩ := fold_first x r []
      have hsub : ∀ y ∈ x :: fit, Proper y := fun y hy => hr y (by rw [h1]; exact List.mem_append_left _ hy)
      have hsub2 : ∀ y ∈ rest', Proper y := fun y hy => hr y (by rw [h1]; exact List.mem_append_right _ hy)
      have hxl := (hr x (by simp)).len
      rw [h2, List.nil_append, List.append_assoc, List.cons_append] at h
      have hb1 : (joinSp (done ++ x :: fit)).length ≤ 8192 := by
        have := joinSp_left_le (done ++ x :: fit) rest'
        rw [List.append_assoc, ← h1] at this
        omega
      obtain ⟨st1, r1, e1, f1⟩ := next_line (F := F) (n := n) h hd hsub (by simp at h3; omega) he hst hb1
      have hdr := drop_more h
      have hlen : rest'.length ≤ k := by
        have := congrArg List.length h1
        simp at this hk; omega
      obtain ⟨st2, p2, r2, d2, e2, f2⟩ := ih rest' (done ++ x :: fit) st1 _ hlen (fun y hy => by
        rcases List.mem_append.1 hy with hy | hy
        · exact hd y hy
        · exact hsub y hy) hsub2 hdr e1 f1 (by rw [List.append_assoc, ← h1]; exact hb)
      exact ⟨st2, p2, r1.trans r2, d2, e2, by rw [f2, List.append_assoc, ← h1]⟩

/-- A whole field. -/
theorem one_field {T more : List UInt8} {st : PSt} {p : Nat} {f : Fd} (hg : GoodF f) (h : T.drop p = foldF f.1 f.2 ++ more) (he : st.e = 0) (h6 : st.fields.length < 64) :
    ∃ st' p', Reach T st p st' p' ∧ T.drop p' = more ∧ st'.e = 0 ∧ st'.fields = st.fields ++ [f] := by
  obtain ⟨n, b⟩ := f
  obtain ⟨h1, h2, ws, h3, h4⟩ := hg
  simp only at h1 h2 h3 h
  have hw : words b = ws := by rw [h3, words_joinSp ws h4]
  obtain ⟨hn0, hn1, hn2⟩ := name_bytes h1
  unfold foldF at h
  rw [hw] at h
  rw [h3] at h2 ⊢
  cases ws with
  | nil =>
    have h' : T.drop p = (n ++ [58] ++ spaced []) ++ 10 :: more := by rw [h]; simp [foldW, spaced]
    obtain ⟨st1, r1, e1, f1⟩ := first_line h' h1 (by simp) (by simp [spaced]; omega) he h6 (by simp [joinSp])
    exact ⟨st1, _, r1, drop_more h', e1, f1⟩
  | cons x r =>
    obtain ⟨fit, rest, g1, g2, g3⟩ := fold_first x r (n ++ [58])
    have hsub : ∀ y ∈ x :: fit, Proper y := fun y hy => h4 y (by rw [g1]; exact List.mem_append_left _ hy)
    have hsub2 : ∀ y ∈ rest, Proper y := fun y hy => h4 y (by rw [g1]; exact List.mem_append_right _ hy)
    have hxl := (h4 x (by simp)).len
    rw [g2, List.append_assoc, List.cons_append] at h
    have hb1 : (joinSp (x :: fit)).length ≤ 8192 := by
      have := joinSp_left_le (x :: fit) rest
      rw [← g1] at this
      omega
    obtain ⟨st1, r1, e1, f1⟩ := first_line h h1 hsub (by simp at g3 ⊢; omega) he h6 hb1
    obtain ⟨st2, p2, r2, d2, e2, f2⟩ := rest_lines (F := st.fields) (n := n) rest.length rest (x :: fit) st1 _ (Nat.le_refl _) hsub hsub2 (drop_more h) e1 f1 (by rw [← g1]; exact h2)
    exact ⟨st2, p2, r1.trans r2, d2, e2, by rw [f2, ← g1]⟩

theorem all_fields {T : List UInt8} : ∀ (l : List Fd) (st : PSt) (p : Nat) (more : List UInt8), (∀ f ∈ l, GoodF f) → T.drop p = (l.flatMap fun f => foldF f.1 f.2) ++ more → st.e = 0 → st.fields.length + l.length ≤ 64 →
    ∃ st' p', Reach T st p st' p' ∧ T.drop p' = more ∧ st'.e = 0 ∧ st'.fields = st.fields ++ l := by
  intro l
  induction l with
  | nil => intro st p more _ h he _; exact ⟨st, p, Reach.refl _ _ _, by simpa using h, he, by simp⟩
  | cons f r ih =>
    intro st p more hg h he h6
    rw [List.flatMap_cons, List.append_assoc] at h
    obtain ⟨st1, p1, r1, d1, e1, f1⟩ := one_field (hg f (by simp)) h he (by simp at h6; omega)
    obtain ⟨st2, p2, r2, d2, e2, f2⟩ := ih st1 p1 more (fun f hf => hg f (by simp [hf])) d1 e1 (by rw [f1]; simp at h6 ⊢; omega)
    exact ⟨st2, p2, r1.trans r2, d2, e2, by rw [f2, f1]; simp⟩

/-- Parsing what was printed. -/
theorem parse_print (l : List Fd) (hg : ∀ f ∈ l, GoodF f) (h6 : l.length ≤ 64) (hl : (l.flatMap fun f => foldF f.1 f.2).length ≤ 65536) : parseF (l.flatMap fun f => foldF f.1 f.2) = (l, 0, 0) := by
  obtain ⟨st, p, ⟨hp, hpT, k, hk, hloop⟩, hd, he, hf⟩ := all_fields (T := l.flatMap fun f => foldF f.1 f.2) l pInit 0 [] hg (by simp) rfl (by simp [pInit]; exact h6)
  have hpl : (l.flatMap fun f => foldF f.1 f.2).length ≤ p := List.drop_eq_nil_iff.1 hd
  generalize (l.flatMap fun f => foldF f.1 f.2) = T at *
  have hpT' := hpT (by omega)
  have hfin : pLoop validName (T.length + 1) T pInit 0 = st := by
    have := hloop (T.length + 1 - k)
    rw [show k + (T.length + 1 - k) = T.length + 1 from by omega] at this
    rw [this, show T.length + 1 - k = (T.length - k) + 1 from by omega, pLoop, if_neg (fun h => by omega)]
  unfold parseF parseV
  rw [if_neg (by omega), hfin, if_neg (by simp [he]), hf]
  simp [pInit]

end Go.Proofs.YtcohgjdijhogbaaGreat
