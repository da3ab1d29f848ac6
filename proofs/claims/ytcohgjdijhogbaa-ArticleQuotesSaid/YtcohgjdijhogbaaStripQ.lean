/- Plain: what Quote gives back, as a body. -/
import Derived.Test.YtcohgjdijhogbaaPt17
import Derived.Test.YtcohgjdijhogbaaPt15
namespace Go.Proofs.Ytcohgjdijhogbaa
set_option linter.unusedSimpArgs false
set_option linter.unusedVariables false

/-- The lines of a text, by its parts. -/
def linU : Nat → List UInt8 → List (List UInt8)
  | 0, _ => []
  | n + 1, L => if L = [] then [] else L.takeWhile (· != 10) :: linU n (L.drop ((L.takeWhile (· != 10)).length + 1))
theorem linU_rest (L : List UInt8) : ∀ (n i : Nat), (spansU n L i).map (fun x => cutL L x.1 x.2) = linU n (L.drop i)
  | 0, _ => rfl
  | n + 1, i => by
    rw [spansU, linU]
    by_cases h : i < L.length
    · have hne : L.drop i ≠ [] := fun e => by have := congrArg List.length e; rw [List.length_drop] at this; simp at this; omega
      have hc : cutL L i (endF L i) = (L.drop i).takeWhile (· != 10) := by
        unfold cutL endF; rw [Nat.add_sub_cancel_left]; exact (takeWhile_eq_take _ _).symm
      have hd : L.drop (endF L i + 1) = (L.drop i).drop (((L.drop i).takeWhile (· != 10)).length + 1) := by
        rw [List.drop_drop]; unfold endF; rw [Nat.add_assoc]
      rw [if_pos h, if_neg hne, List.map_cons, linU_rest L n, hc, hd]
    · rw [if_neg h, List.drop_eq_nil_of_le (by omega), if_pos rfl]; rfl
theorem linU_fuel : ∀ (n m : Nat) (L : List UInt8), L.length < n → L.length < m → linU n L = linU m L
  | 0, _, _, h, _ => by omega
  | _, 0, _, _, h => by omega
  | n + 1, m + 1, L, h1, h2 => by
    rw [linU, linU]
    by_cases h : L = []
    · rw [if_pos h, if_pos h]
    · have : 0 < L.length := List.length_pos_iff.2 h
      rw [if_neg h, if_neg h, linU_fuel n m _ (by rw [List.length_drop]; omega) (by rw [List.length_drop]; omega)]
theorem linesF_lin (L : List UInt8) (n : Nat) (h : L.length < n) : linesF L = linU n L := by
  unfold linesF spans
  rw [linU_rest L _ 0, List.drop_zero]
  exact linU_fuel _ _ _ (by omega) h
theorem linesF_nil : linesF [] = [] := rfl
theorem linesF_step (y r : List UInt8) (h : ∀ c ∈ y, c ≠ 10) : linesF (y ++ 10 :: r) = y :: linesF r := by
  have ht : (y ++ 10 :: r).takeWhile (· != 10) = y := by
    rw [List.takeWhile_append_of_pos (fun c hc => by simpa using h c hc)]; simp
  have hl : (y ++ 10 :: r).length = y.length + 1 + r.length := by simp; omega
  rw [linesF_lin (y ++ 10 :: r) (y.length + 1 + r.length + 1) (by omega), linU, if_neg (by simp), ht, linesF_lin r (y.length + 1 + r.length) (by omega)]
  congr 2
  rw [List.drop_append]; simp
theorem linU_no : ∀ (n : Nat) (L x : List UInt8), x ∈ linU n L → ∀ c ∈ x, c ≠ 10
  | 0, _, _, h => by simp [linU] at h
  | n + 1, L, x, h => by
    rw [linU] at h
    split at h
    · cases h
    · rcases List.mem_cons.1 h with rfl | h
      · intro c hc
        have := List.all_takeWhile (p := (· != 10)) (l := L)
        rw [List.all_eq_true] at this
        simpa using this c hc
      · exact linU_no n _ x h
theorem lines_no {L x : List UInt8} (h : x ∈ linesF L) : ∀ c ∈ x, c ≠ 10 := by
  rw [linesF_lin L (L.length + 1) (by omega)] at h
  exact linU_no _ _ _ h
theorem linU_sum : ∀ (n : Nat) (L : List UInt8), sumL (linU n L) ≤ L.length + 1
  | 0, _ => by simp [linU, sumL]
  | n + 1, L => by
    rw [linU]
    split
    · simp [sumL]
    · have e : sumL (L.takeWhile (· != 10) :: linU n (L.drop ((L.takeWhile (· != 10)).length + 1))) = (L.takeWhile (· != 10)).length + 1 + sumL (linU n (L.drop ((L.takeWhile (· != 10)).length + 1))) := by simp [sumL]
      have h1 : (L.takeWhile (· != 10)).length ≤ L.length := (List.takeWhile_sublist _).length_le
      have h2 := linU_sum n (L.drop ((L.takeWhile (· != 10)).length + 1))
      rw [List.length_drop] at h2
      rw [e]
      by_cases hh : (L.takeWhile (· != 10)).length + 1 ≤ L.length
      · omega
      · have h3 : L.drop ((L.takeWhile (· != 10)).length + 1) = [] := List.drop_eq_nil_of_le (by omega)
        have h4 : sumL (linU n (L.drop ((L.takeWhile (· != 10)).length + 1))) = 0 := by
          rw [h3]; cases n with
          | zero => rfl
          | succ n => rw [linU, if_pos rfl]; rfl
        omega
theorem lines_sum (L : List UInt8) : sumL (linesF L) ≤ L.length + 1 := by
  rw [linesF_lin L (L.length + 1) (by omega)]; exact linU_sum _ _
theorem quoL_no {x : List UInt8} (h : ∀ c ∈ x, c ≠ 10) : ∀ c ∈ quoL x, c ≠ 10 := by
  unfold quoL
  split
  · intro c hc; rcases List.mem_cons.1 hc with rfl | hc
    · decide
    · exact h c hc
  · intro c hc; rcases List.mem_cons.1 hc with rfl | hc
    · decide
    · rcases List.mem_cons.1 hc with rfl | hc
      · decide
      · exact h c hc
theorem lines_quo : ∀ (ls : List (List UInt8)), (∀ x ∈ ls, ∀ c ∈ x, c ≠ 10) → linesF (quoT ls) = ls.map quoL
  | [], _ => linesF_nil
  | x :: r, h => by
    have e : quoT (x :: r) = quoL x ++ 10 :: quoT r := by simp [quoT]
    rw [e, linesF_step _ _ (quoL_no (h x (by simp))), lines_quo r (fun y hy => h y (by simp [hy]))]; rfl
theorem quoT_sum (ls : List (List UInt8)) : (quoT ls).length ≤ sumL ls + 2 * ls.length := by
  induction ls with
  | nil => simp [quoT, sumL]
  | cons x r ih =>
    have e : quoT (x :: r) = (quoL x ++ [10]) ++ quoT r := rfl
    have e2 : sumL (x :: r) = x.length + 1 + sumL r := by simp [sumL]
    have := quoL_le x
    rw [e, e2, List.length_append, List.length_append]; simp; omega

/-- The level of a quoted line, and what is behind the marks. -/
theorem lev_quo (x : List UInt8) : levN (quoL x) = levN x + 1 ∧ levR (quoL x) = levR x := by
  unfold quoL
  by_cases h : x = [] ∨ 0 < levN x
  · rw [if_pos h]
    have h1 : levN (62 :: x) = levN x + 1 := by simp [levN]
    refine ⟨h1, ?_⟩
    unfold levR
    rw [h1]
    rcases h with rfl | h
    · rfl
    · simp only [List.drop_succ_cons]
      have e1 : (0 < levN x + 1 ∧ (x.drop (levN x))[0]? = some 32) ↔ (0 < levN x ∧ (x.drop (levN x))[0]? = some 32) := ⟨fun hh => ⟨h, hh.2⟩, fun hh => ⟨by omega, hh.2⟩⟩
      by_cases hc : 0 < levN x ∧ (x.drop (levN x))[0]? = some 32
      · rw [if_pos (e1.2 hc), if_pos hc]
      · rw [if_neg (fun hh => hc (e1.1 hh)), if_neg hc]
  · rw [if_neg h]
    have h0 : levN x = 0 := by omega
    have h1 : levN (62 :: 32 :: x) = 1 := by simp [levN]
    rw [h0]
    refine ⟨h1, ?_⟩
    unfold levR
    rw [h1, h0]
    simp

theorem allU_shift : ∀ (n : Nat) (l : List UInt8) (i : Nat), (allU n l (i + 1)).1 = (allU n l i).1.map (fun x => (x.1 + 1, x.2)) ∧ (allU n l (i + 1)).2 = (allU n l i).2.map (fun x => (x.1 + 1, x.2))
  | 0, l, i => by simp [allU]
  | n + 1, [], i => by simp [allU]
  | n + 1, c :: r, i => by
    rw [allU, allU]
    by_cases h : (decU (c :: r)).2.2 ≠ 0
    · rw [if_pos h, if_pos h]; simp
    · rw [if_neg h, if_neg h]
      obtain ⟨h1, h2⟩ := allU_shift n ((c :: r).drop (decU (c :: r)).2.1) (i + (decU (c :: r)).2.1)
      rw [show i + 1 + (decU (c :: r)).2.1 = i + (decU (c :: r)).2.1 + 1 from by omega]
      simp only [h1, h2, List.map_cons]; trivial
def fineL (L : List UInt8) : Prop := (allF L 0).1.find? hitP2 = none ∧ (allF L 0).2 = none
theorem bad_fine (L : List UInt8) : badG L < 0 ↔ fineL L := by
  unfold badG fineL
  cases h1 : (allF L 0).1.find? hitP2 with
  | some x => simp
  | none => cases h2 : (allF L 0).2 with
    | some y => simp
    | none => simp
theorem dec_ascii (c : UInt8) (r : List UInt8) (h : c.toNat ≤ 127) : decU (c :: r) = (c.toNat, 1, 0) := by
  have hl : lenU c = 1 := by unfold lenU; rw [if_neg (by omega), if_neg (by omega), if_neg (by omega), if_pos h]
  have hm : measU (c :: r) = 1 := by rw [measU, hl, if_neg (by omega), run_stop _ _ _ _ (by omega)]
  have hv : leadU c = c.toNat := by unfold leadU; rw [if_pos (by omega)]
  simp [decU, hm, hl, valU, foldU, hv]
theorem fine_cons {c : UInt8} {x : List UInt8} (h : c.toNat ≤ 127) (hc : hitU c.toNat = false) (hx : fineL x) : fineL (c :: x) := by
  have hd := dec_ascii c x h
  have ha := allF_ok (l := c :: x) (by simp) 0 (by rw [hd])
  rw [hd] at ha
  simp only [Nat.zero_add, List.drop_succ_cons, List.drop_zero] at ha
  obtain ⟨s1, s2⟩ := allU_shift (x.length + 1) x 0
  have e1 : (allF x 1).1 = (allF x 0).1.map (fun x => (x.1 + 1, x.2)) := s1
  have e2 : (allF x 1).2 = (allF x 0).2.map (fun x => (x.1 + 1, x.2)) := s2
  have ef : ∀ (l : List (Nat × Nat)), l.find? hitP2 = none → (l.map fun x => (x.1 + 1, x.2)).find? hitP2 = none := by
    intro l
    induction l with
    | nil => intro _; rfl
    | cons y r ih =>
      intro hh
      rw [List.find?_cons] at hh
      rw [List.map_cons, List.find?_cons]
      have e : hitP2 (y.1 + 1, y.2) = hitP2 y := rfl
      rw [e]
      cases hy : hitP2 y
      · rw [hy] at hh; exact ih hh
      · rw [hy] at hh; cases hh
  unfold fineL
  rw [ha]
  refine ⟨?_, ?_⟩
  · simp only
    rw [List.find?_cons]
    have : hitP2 (0, c.toNat) = false := hc
    rw [this, e1]
    exact ef _ hx.1
  · simp only
    rw [e2, hx.2]; rfl
theorem quoL_fine {x : List UInt8} (h : badG x < 0) : badG (quoL x) < 0 := by
  rw [bad_fine] at *
  unfold quoL
  split
  · exact fine_cons (by decide) (by decide) h
  · exact fine_cons (by decide) (by decide) (fine_cons (by decide) (by decide) h)

theorem chk_fine : ∀ (N i : Nat) (ls : List (List UInt8)), (chkGo N i ls).2 = 0 → ∀ x ∈ ls, badG x < 0
  | _, _, [], _, x, hx => by cases hx
  | N, i, y :: r, h, x, hx => by
    rw [chkGo] at h
    split at h
    · simp at h
    · split at h
      · simp at h
      · split at h
        · simp at h
        · rcases List.mem_cons.1 hx with rfl | hx
          · omega
          · exact chk_fine N _ r h x hx
theorem chk_quo : ∀ (ls : List (List UInt8)) (i N : Nat), N = i + (quoT ls).length → (∀ x ∈ ls, badG x < 0) → (∀ x ∈ ls, (quoL x).length ≤ 998) → chkGo N i (ls.map quoL) = (0, 0)
  | [], _, _, _, _, _ => rfl
  | x :: r, i, N, hN, h1, h2 => by
    have e : quoT (x :: r) = (quoL x ++ [10]) ++ quoT r := rfl
    rw [e, List.length_append, List.length_append] at hN
    simp only [List.length_cons, List.length_nil] at hN
    have h3 := quoL_fine (h1 x (by simp))
    have h4 := h2 x (by simp)
    rw [List.map_cons, chkGo, if_neg (by omega), if_neg (by omega), if_neg (by omega)]
    exact chk_quo r _ N (by omega) (fun y hy => h1 y (by simp [hy])) (fun y hy => h2 y (by simp [hy]))
theorem quoGo_ok : ∀ (ls : List (List UInt8)) (out : List UInt8), (quoGo ls out).2 = 0 → (∀ x ∈ ls, (quoL x).length ≤ 998) ∧ (quoGo ls out).1 = out ++ quoT ls ∧ (quoGo ls out).1.length ≤ 65536
  | [], out, h => by
    rw [quoGo] at h ⊢
    split at h
    · simp at h
    · rename_i hl; rw [if_neg hl]; exact ⟨by simp, by simp [quoT], by simpa using hl⟩
  | x :: r, out, h => by
    rw [quoGo] at h ⊢
    split at h
    · simp at h
    · rename_i hl
      rw [if_neg hl]
      obtain ⟨h1, h2, h3⟩ := quoGo_ok r _ h
      refine ⟨fun y hy => ?_, ?_, h3⟩
      · rcases List.mem_cons.1 hy with rfl | hy
        · omega
        · exact h1 y hy
      · rw [h2]; simp [quoT]
/-- What Quote gives back without an error: a body whose lines are the quoted lines. -/
theorem quo_ok {L : List UInt8} (h : (quoF L).2 = 0) : (quoF L).1 = quoT (linesF L) ∧ linesF (quoF L).1 = (linesF L).map quoL ∧ bodyF (quoF L).1 = (0, 0) ∧ (quoF L).1.length ≤ 3 * L.length + 3 := by
  unfold quoF at h ⊢
  by_cases hb : (bodyF L).2 ≠ 0
  · rw [if_pos hb] at h; exact absurd h hb
  · rw [if_neg hb] at h ⊢
    obtain ⟨h1, h2, h3⟩ := quoGo_ok _ _ h
    rw [h2, List.nil_append]
    have hl := lines_quo (linesF L) (fun x hx => lines_no hx)
    have hf := chk_fine L.length 0 (linesF L) (by rw [← chk_body]; omega)
    refine ⟨rfl, hl, ?_, ?_⟩
    · rw [chk_body, hl]
      exact chk_quo _ 0 _ (by omega) hf h1
    · have := quoT_sum (linesF L)
      have h4 := lines_sum L
      have h5 : (linesF L).length ≤ sumL (linesF L) := by
        generalize linesF L = ls
        induction ls with
        | nil => simp
        | cons y r ih => have e2 : sumL (y :: r) = y.length + 1 + sumL r := by simp [sumL]
                         rw [e2, List.length_cons]; omega
      omega
theorem strip_quo {L : List UInt8} (h : (quoF L).2 = 0) : strF (quoF L).1 1 = ([], 0) := by
  obtain ⟨h1, h2, h3, _⟩ := quo_ok h
  unfold strF
  rw [if_neg (by omega), h3, if_neg (by simp), h2]
  have : strL 1 ((linesF L).map quoL) = [] := by
    unfold strL
    rw [List.flatMap_eq_nil_iff]
    intro x hx
    obtain ⟨y, _, rfl⟩ := List.mem_map.1 hx
    rw [(lev_quo y).1, if_neg (by omega)]
  rw [this]
theorem quoGo_err : ∀ (ls : List (List UInt8)) (out : List UInt8), (quoGo ls out).2 ≠ 0 → (quoGo ls out).1 = []
  | [], out, h => by
    rw [quoGo] at h ⊢
    split
    · rfl
    · rename_i hl; rw [if_neg hl] at h; exact absurd rfl h
  | x :: r, out, h => by
    rw [quoGo] at h ⊢
    split
    · rfl
    · rename_i hl; rw [if_neg hl] at h; exact quoGo_err r _ h
theorem quo_err {L : List UInt8} (h : (quoF L).2 ≠ 0) : (quoF L).1 = [] := by
  unfold quoF at h ⊢
  by_cases hb : (bodyF L).2 ≠ 0
  · rw [if_pos hb]
  · rw [if_neg hb] at h ⊢; exact quoGo_err _ _ h
theorem quo_len (L : List UInt8) : (quoF L).1.length ≤ 3 * L.length + 3 := by
  by_cases h : (quoF L).2 = 0
  · exact (quo_ok h).2.2.2
  · rw [quo_err h]; simp
end Go.Proofs.Ytcohgjdijhogbaa
