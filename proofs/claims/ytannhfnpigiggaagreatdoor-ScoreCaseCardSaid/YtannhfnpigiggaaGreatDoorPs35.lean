/- Lemmas and walks, part 35. -/
import Derived.Test.YtannhfnpigiggaaGreatDoorPs28
import Derived.Test.YtannhfnpigiggaaGreatDoorPs17
import Derived.Test.YtannhfnpigiggaaGreatDoorPs34
namespace Go.Proofs.YtannhfnpigiggaaGreatDoor
set_option linter.unusedSimpArgs false
set_option linter.unusedVariables false

/-- What ends a token: nothing, a blank, a parenthesis. -/
def Dlm (X : Bs) : Prop := ∀ c r, X = c :: r → c = 32 ∨ c = 40 ∨ c = 41
theorem dlm_nil : Dlm [] := fun c r h => by cases h
theorem dlm_blank (r : Bs) : Dlm (32 :: r) := fun c r' h => by injection h with h; exact .inl h.symm
theorem dlm_lp (r : Bs) : Dlm (40 :: r) := fun c r' h => by injection h with h; exact .inr (.inl h.symm)
theorem dlm_rp (r : Bs) : Dlm (41 :: r) := fun c r' h => by injection h with h; exact .inr (.inr h.symm)
theorem takeWhile_stop {P : UInt8 → Bool} {X : Bs} (hX : ∀ c r, X = c :: r → P c = false) : ∀ L : Bs, (L ++ X).takeWhile P = L.takeWhile P
  | [] => by
    cases X with
    | nil => rfl
    | cons c r => simp [List.takeWhile_cons, hX c r rfl]
  | c :: r => by
    rw [List.cons_append, List.takeWhile_cons, List.takeWhile_cons, takeWhile_stop hX r]
theorem Dlm.low {X : Bs} (h : Dlm X) : ∀ c r, X = c :: r → lowS c = false := fun c r e => by
  rcases h c r e with rfl | rfl | rfl <;> rfl
theorem Dlm.dig {X : Bs} (h : Dlm X) : ∀ c r, X = c :: r → digB c = false := fun c r e => by
  rcases h c r e with rfl | rfl | rfl <;> rfl
theorem endQ_app (X : Bs) : ∀ (n : Nat) (L : Bs) (i e : Nat), L.length ≤ n → endQ L i = some e → endQ (L ++ X) i = some e ∧ e < i + L.length
  | _, [], i, e, _, h => by cases h
  | 0, c :: r, i, e, hn, h => by simp at hn
  | n + 1, c :: r, i, e, hn, h => by
    simp only [List.length_cons] at hn
    unfold endQ at h
    rw [List.cons_append]
    unfold endQ
    split at h
    · rename_i h1
      rw [if_pos h1]
      injection h with h
      exact ⟨by rw [h], by simp only [List.length_cons]; omega⟩
    · rename_i h1
      rw [if_neg h1]
      split at h
      · rename_i h2
        rw [if_pos h2]
        cases r with
        | nil => cases h
        | cons d r' =>
          simp only at h
          have := endQ_app X n r' (i + 2) e (by simp only [List.length_cons] at hn; omega) h
          simp only [List.cons_append, List.length_cons]
          exact ⟨this.1, by omega⟩
      · rename_i h2
        rw [if_neg h2]
        have := endQ_app X n r (i + 1) e (by omega) h
        simp only [List.length_cons]
        exact ⟨this.1, by omega⟩
theorem sym_pre {X : Bs} (hX : Dlm X) (c : UInt8) (r : Bs) : ∀ s ∈ syms, s.isPrefixOf (c :: r ++ X) = s.isPrefixOf (c :: r) := by
  intro s hs
  have two : ∀ a b : UInt8, b = 61 → List.isPrefixOf [a, b] (c :: r ++ X) = List.isPrefixOf [a, b] (c :: r) := by
    intro a b hb
    cases r with
    | nil =>
      cases X with
      | nil => rfl
      | cons d X =>
        have hd : (b == d) = false := by
          subst hb
          rcases hX d X rfl with rfl | rfl | rfl <;> rfl
        simp [List.isPrefixOf, hd]
    | cons d r => simp [List.isPrefixOf]
  have one : ∀ a : UInt8, List.isPrefixOf [a] (c :: r ++ X) = List.isPrefixOf [a] (c :: r) := by
    intro a; simp [List.isPrefixOf]
  simp only [syms, List.mem_cons, List.not_mem_nil, or_false] at hs
  rcases hs with rfl | rfl | rfl | rfl | rfl | rfl | rfl | rfl | rfl | rfl
  · exact two _ _ rfl
  · exact two _ _ rfl
  · exact two _ _ rfl
  all_goals exact one _
theorem find_eq {f g : Bs → Bool} : ∀ l : List Bs, (∀ s ∈ l, f s = g s) → l.find? f = l.find? g
  | [], _ => rfl
  | s :: r, h => by
    rw [List.find?_cons, List.find?_cons, h s (by simp), find_eq r (fun x hx => h x (by simp [hx]))]
theorem tokT_app {L X : Bs} {col : Nat} {x : Tok × Nat} (h : tokT L col = .ok x) (hX : Dlm X) (col' : Nat) : ∃ t, tokT (L ++ X) col' = .ok (t, x.2) ∧ ess t = ess x.1 := by
  cases L with
  | nil => cases h
  | cons c r =>
    unfold tokT at h
    simp only at h
    rw [List.cons_append]
    unfold tokT
    simp only
    split at h
    · rename_i h1
      injection h with h; subst h
      rw [if_pos h1, ← List.cons_append, takeWhile_stop hX.low]
      exact ⟨_, rfl, rfl⟩
    · rename_i h1
      rw [if_neg h1]
      split at h
      · rename_i h2
        rw [if_pos h2, ← List.cons_append, takeWhile_stop hX.dig]
        split at h
        · cases h
        · rename_i h3
          rw [if_neg h3]
          injection h with h; subst h
          exact ⟨_, rfl, rfl⟩
      · rename_i h2
        rw [if_neg h2]
        split at h
        · rename_i h3
          rw [if_pos h3]
          unfold strT at h ⊢
          split at h
          · cases h
          · rename_i e he
            obtain ⟨e1, e2⟩ := endQ_app X _ _ _ _ (Nat.le_refl _) he
            simp only [List.drop_succ_cons, List.drop_zero] at e1 e2 h ⊢
            rw [e1]
            simp only
            have ht : (c :: (r ++ X)).take e = (c :: r).take e := by
              rw [← List.cons_append, List.take_append_of_le_length]
              simp only [List.length_cons]; omega
            rw [ht]
            split at h
            · cases h
            · rename_i h4
              split at h
              · cases h
              · rename_i h5
                rw [if_neg h5]
                split at h
                · cases h
                · rename_i h6
                  rw [if_neg h6]
                  injection h with h; subst h
                  exact ⟨_, rfl, rfl⟩
        · rename_i h3
          rw [if_neg h3]
          unfold symT at h ⊢
          have hf := find_eq syms (f := fun s => s.isPrefixOf (c :: (r ++ X))) (g := fun s => s.isPrefixOf (c :: r)) (sym_pre hX c r)
          rw [hf]
          split at h
          · rename_i s hs
            injection h with h; subst h
            exact ⟨_, rfl, rfl⟩
          · cases h
theorem toksG_blank {c : UInt8} (h : blkS c = true) (g : Nat) (r : Bs) (i : Nat) : toksG (g + 1) (c :: r) i = toksG g r (i + 1) := by
  conv => lhs; unfold toksG
  simp only [h, if_true]
theorem toksG_step {c : UInt8} {r : Bs} {i : Nat} {x : Tok × Nat} (h : blkS c = false) (ht : tokT (c :: r) (i + 1) = .ok x) {g : Nat} {lx : List Tok} (hl : toksG g ((c :: r).drop x.2) (i + x.2) = .ok lx) : toksG (g + 1) (c :: r) i = .ok (x.1 :: lx) := by
  conv => lhs; unfold toksG
  simp only [h, ht, hl]
  simp
/-- The tokens of a text, and of the same text with something behind it. -/
theorem toksG_app {X : Bs} (hX : Dlm X) : ∀ (g : Nat) (L : Bs) (i : Nat) (l : List Tok), L.length < g → toksG g L i = .ok l →
    ∃ l0 e, l = l0 ++ [e] ∧ e.kind = 0 ∧ (∀ x ∈ l0, x.kind ≠ 0) ∧ ∀ (g' i' : Nat), (L ++ X).length < g' → ∃ l1, l1.map ess = l0.map ess ∧ ∀ lx, toksG (X.length + 1) X (i' + L.length) = .ok lx → toksG g' (L ++ X) i' = .ok (l1 ++ lx)
  | 0, L, i, l, hg, h => by omega
  | g + 1, [], i, l, hg, h => by
    unfold toksG at h
    injection h with h; subst h
    refine ⟨[], _, rfl, rfl, by simp, fun g' i' hg' => ⟨[], rfl, fun lx hx => ?_⟩⟩
    simp only [List.nil_append, List.length_nil, Nat.add_zero] at hx hg' ⊢
    rw [toksG_fuel g' (X.length + 1) X i' hg' (by omega)]
    exact hx
  | g + 1, c :: r, i, l, hg, h => by
    simp only [List.length_cons] at hg
    unfold toksG at h
    simp only at h
    split at h
    · rename_i hb
      obtain ⟨l0, e, e1, e2, e3, e4⟩ := toksG_app hX g r (i + 1) l (by omega) h
      refine ⟨l0, e, e1, e2, e3, fun g' i' hg' => ?_⟩
      cases g' with
      | zero => omega
      | succ g' =>
        obtain ⟨l1, f1, f2⟩ := e4 g' (i' + 1) (by simp only [List.cons_append, List.length_cons] at hg'; omega)
        refine ⟨l1, f1, fun lx hx => ?_⟩
        rw [List.cons_append, toksG_blank hb]
        exact f2 lx (by rw [← hx]; congr 1; simp only [List.length_cons]; omega)
    · rename_i hb
      have hb : blkS c = false := by simpa using hb
      split at h
      · cases h
      · rename_i t n ht
        split at h
        · cases h
        · rename_i l2 hl2
          injection h with h; subst h
          have hl := tok_len ht
          have hk := (tok_ok ht).1
          simp only [List.length_cons] at hl hk
          obtain ⟨l0, e, e1, e2, e3, e4⟩ := toksG_app hX g ((c :: r).drop n) (i + n) l2 (by rw [List.length_drop, List.length_cons]; omega) hl2
          refine ⟨t :: l0, e, by rw [e1]; rfl, e2, ?_, fun g' i' hg' => ?_⟩
          · intro x hx
            rcases List.mem_cons.1 hx with rfl | hx
            · exact hk
            · exact e3 x hx
          · cases g' with
            | zero => omega
            | succ g' =>
              obtain ⟨t', ht', hee⟩ := tokT_app ht hX (i' + 1)
              have hd : (c :: (r ++ X)).drop n = (c :: r).drop n ++ X := by
                rw [← List.cons_append, List.drop_append_of_le_length (by simp only [List.length_cons]; omega)]
              obtain ⟨l1, f1, f2⟩ := e4 g' (i' + n) (by
                rw [List.length_append, List.length_drop]
                simp only [List.cons_append, List.length_cons, List.length_append] at hg' ⊢; omega)
              refine ⟨t' :: l1, by simp only [List.map_cons, f1]; rw [hee], fun lx hx => ?_⟩
              rw [List.cons_append, List.cons_append] at *
              refine toksG_step (x := (t', n)) hb ht' ?_
              simp only
              rw [hd]
              exact f2 lx (by rw [← hx]; congr 1; rw [List.length_drop, List.length_cons]; omega)
/-- The rules of a text. -/
def parseG (L : Bs) : Except (Nat × Nat × Int) (List RuleS) := if 65536 < L.length then .error (0, 0, 5) else rulesG (linesM L) 0 0
end Go.Proofs.YtannhfnpigiggaaGreatDoor

namespace Go.Proofs.YtannhfnpigiggaaGreatDoor
set_option linter.unusedSimpArgs false
set_option linter.unusedVariables false
open Go.Lib (decDigits)

theorem decI_len {m : Int} (h : -10000 ≤ m ∧ m ≤ 10000) : (decI m).length ≤ 6 := by
  unfold decI
  split
  · have := dec_len_lt 4 m.natAbs (by omega); simp only [List.length_cons]; omega
  · have := dec_len_lt 4 m.toNat (by omega); omega
/-- The steps of a rule that was read. -/
theorem ruleF_steps {ts : List Tok} {r : RuleS} (h : ruleF ts = .ok r) : ∃ a m u c, oneF actsL ts = .ok a ∧ amtF a.1 a.2 = .ok m ∧ tilF m.2 = .ok u ∧ ifF u.2 = .ok c ∧ endT c.2 = true ∧ r = ⟨a.1, m.1, u.1, c.1⟩ := by
  unfold ruleF at h
  obtain ⟨a, h1, h⟩ := bindE_ok h
  obtain ⟨m, h2, h⟩ := bindE_ok h
  obtain ⟨u, h3, h⟩ := bindE_ok h
  obtain ⟨c, h4, h⟩ := bindE_ok h
  split at h
  · rename_i he
    injection h with h
    exact ⟨a, m, u, c, h1, h2, h3, h4, he, h.symm⟩
  · cases h
theorem amtF_ok {x : Bs} {ts : List Tok} {m : Int × List Tok} (h : amtF x ts = .ok m) : -10000 ≤ m.1 ∧ m.1 ≤ 10000 ∧ wtL m.2 ≤ wtL ts ∧ (x = yPlus ∨ x = yMinus ∨ x = yEq → wtL m.2 + 16 ≤ wtL ts) ∧ (¬(x = yPlus ∨ x = yMinus ∨ x = yEq) → m.1 = 0) ∧ (x ≠ yEq → 0 ≤ m.1) := by
  unfold amtF at h
  split at h
  · rename_i hx
    obtain ⟨n, h1, h⟩ := bindE_ok h
    obtain ⟨t, e1, _, e2, _⟩ := numF_cons h1
    injection h with h; subst h
    rw [e1]; simp only [wtL, wtT]
    exact ⟨by omega, by omega, by omega, fun _ => by omega, fun hn => absurd (hx.elim .inl (fun g => .inr (.inl g))) hn, fun _ => by omega⟩
  · split at h
    · rename_i hx
      split at h
      · rename_i hm
        obtain ⟨n, h1, h⟩ := bindE_ok h
        obtain ⟨t, e1, _, e2, _⟩ := numF_cons h1
        have e3 := isT_tail hm
        rw [e1] at e3
        injection h with h; subst h
        simp only [wtL, wtT] at e3 ⊢
        exact ⟨by omega, by omega, by omega, fun _ => by omega, fun hn => absurd (.inr (.inr hx)) hn, fun hn => absurd hx hn⟩
      · obtain ⟨n, h1, h⟩ := bindE_ok h
        obtain ⟨t, e1, _, e2, _⟩ := numF_cons h1
        injection h with h; subst h
        rw [e1]; simp only [wtL, wtT]
        exact ⟨by omega, by omega, by omega, fun _ => by omega, fun hn => absurd (.inr (.inr hx)) hn, fun hn => absurd hx hn⟩
    · rename_i h1 h2
      injection h with h; subst h
      dsimp only
      exact ⟨by omega, by omega, by omega, fun hh => by rcases hh with hh | hh | hh; exact absurd (.inl hh) h1; exact absurd (.inr hh) h1; exact absurd hh h2, fun _ => rfl, fun _ => by omega⟩
theorem tilF_ok {ts : List Tok} {u : Option Nat × List Tok} (h : tilF ts = .ok u) : (u = (none, ts) ∧ isT wUntil ts = false) ∨ ∃ n, isT wUntil ts = true ∧ numF 105190559 ts.tail = .ok n ∧ n.1 ≤ 105190559 ∧ u = (some n.1, n.2) := by
  unfold tilF at h
  split at h
  · rename_i hu
    obtain ⟨n, h1, h⟩ := bindE_ok h
    obtain ⟨t, e1, _, e2, _⟩ := numF_cons h1
    injection h with h
    exact .inr ⟨n, hu, h1, e2, h.symm⟩
  · rename_i hu
    injection h with h
    exact .inl ⟨h.symm, by simpa using hu⟩
theorem ifF_ok {ts : List Tok} {u : Option Cond × List Tok} (h : ifF ts = .ok u) : (u = (none, ts) ∧ isT wIf ts = false) ∨ ∃ c, isT wIf ts = true ∧ condF 32 ts.tail = .ok c ∧ u = (some c.1, c.2) := by
  unfold ifF at h
  split at h
  · rename_i hu
    obtain ⟨n, h1, h⟩ := bindE_ok h
    injection h with h
    exact .inr ⟨n, hu, h1, h.symm⟩
  · rename_i hu
    injection h with h
    exact .inl ⟨h.symm, by simpa using hu⟩
theorem acts_len {o : Bs} (h : o ∈ actsL) : o.length ≤ 5 := by
  have : ∀ x ∈ actsL, x.length ≤ 5 := by decide
  exact this o h
def tilL (u : Option Nat) : Bs := match u with
  | none => []
  | some n => [32, 117, 110, 116, 105, 108, 32] ++ decDigits n
def condL (c : Option Cond) : Bs := match c with
  | none => []
  | some c => [32, 105, 102, 32] ++ printF c
theorem printR_eq (r : RuleS) : printR r = r.act ++ ((if r.act = yPlus ∨ r.act = yMinus ∨ r.act = yEq then decI r.amt else []) ++ (tilL r.til ++ condL r.cond)) := rfl
theorem ruleF_wt {ts : List Tok} {r : RuleS} (h : ruleF ts = .ok r) : (printR r).length + 1 ≤ wtL ts ∧ r.til.getD 0 ≤ 105190559 ∧ -10000 ≤ r.amt ∧ r.amt ≤ 10000 ∧ r.act ∈ actsL ∧ ∀ c, r.cond = some c → (printF c).length ≤ wtL ts := by
  obtain ⟨a, m, u, c, h1, h2, h3, h4, h5, rfl⟩ := ruleF_steps h
  obtain ⟨t0, a1, a2, a3, _⟩ := oneF_cons h1
  obtain ⟨b1, b2, b3, b4, b5, _⟩ := amtF_ok h2
  have la := acts_len a3
  have ld := decI_len ⟨b1, b2⟩
  have hc : (condL c.1).length + 1 ≤ 1 + wtL u.2 ∧ ∀ x, c.1 = some x → (printF x).length ≤ wtL u.2 := by
    rcases ifF_ok h4 with ⟨rfl, _⟩ | ⟨x, g1, g2, rfl⟩
    · exact ⟨by simp [condL], fun x e => by cases e⟩
    · have e3 := isT_tail g1
      have e4 := cond_wt _ _ _ g2
      have l1 : wIf.length = 2 := rfl
      simp only [condL, List.length_append, List.length_cons, List.length_nil]
      refine ⟨by omega, fun y e => ?_⟩
      injection e with e; subst e; omega
  have hu : (tilL u.1).length + wtL u.2 ≤ wtL m.2 ∧ u.1.getD 0 ≤ 105190559 := by
    rcases tilF_ok h3 with ⟨rfl, _⟩ | ⟨n, g1, g2, g3, rfl⟩
    · exact ⟨by simp [tilL], by simp⟩
    · have e3 := isT_tail g1
      obtain ⟨t, e1, _⟩ := numF_cons g2
      rw [e1] at e3
      have d := dec_len_lt 8 n.1 (by omega)
      have l1 : wUntil.length = 5 := rfl
      simp only [wtL, wtT] at e3
      simp only [tilL, List.length_append, List.length_cons, List.length_nil, Option.getD_some]
      exact ⟨by omega, g3⟩
  rw [a1]
  simp only [wtL, wtT, a2]
  refine ⟨?_, hu.2, b1, b2, a3, fun x e => by have := hc.2 x e; omega⟩
  rw [printR_eq]
  simp only [List.length_append]
  have h6 : (if a.1 = yPlus ∨ a.1 = yMinus ∨ a.1 = yEq then decI m.1 else []).length + wtL m.2 ≤ wtL a.2 := by
    by_cases hx : a.1 = yPlus ∨ a.1 = yMinus ∨ a.1 = yEq
    · have := b4 hx
      rw [if_pos hx]; omega
    · rw [if_neg hx]; simpa using b3
  omega
theorem unescQ_len : ∀ (n : Nat) (L : Bs) (i : Nat), L.length ≤ n → (unescQ L i).1.length ≤ L.length
  | _, [], i, _ => by simp [unescQ]
  | 0, c :: r, i, h => by simp at h
  | n + 1, c :: r, i, h => by
    simp only [List.length_cons] at h
    unfold unescQ
    split
    · split
      · simp
      · rename_i d r'
        split
        · have := unescQ_len n r' (i + 2) (by simp only [List.length_cons] at h; omega)
          simp only [List.length_cons]; omega
        · simp
    · have := unescQ_len n r (i + 1) (by omega)
      simp only [List.length_cons]; omega
theorem tok_wt {L : Bs} {col : Nat} {x : Tok × Nat} (h : tokT L col = .ok x) : wtT x.1 ≤ 18 * x.2 := by
  have hl := tok_len h
  cases L with
  | nil => cases h
  | cons c r =>
    unfold tokT at h
    simp only at h
    split at h
    · injection h with h; subst h
      simp only [wtT] at hl ⊢; omega
    · split at h
      · split at h
        · cases h
        · injection h with h; subst h
          simp only [wtT, List.length_nil] at hl ⊢; omega
      · split at h
        · unfold strT at h
          split at h
          · cases h
          · rename_i e he
            simp only at h
            split at h
            · cases h
            · split at h
              · cases h
              · split at h
                · cases h
                · injection h with h; subst h
                  have := unescQ_len _ (((c :: r).take e).drop 1) 1 (Nat.le_refl _)
                  have h2 : (((c :: r).take e).drop 1).length ≤ e := by rw [List.length_drop, List.length_take]; omega
                  simp only [wtT] at hl ⊢
                  omega
        · unfold symT at h
          split at h
          · rename_i s hs
            injection h with h; subst h
            simp only [wtT] at hl ⊢; omega
          · cases h
theorem toksG_wt : ∀ (g : Nat) (rest : Bs) (i : Nat) (l : List Tok), toksG g rest i = .ok l → wtL l ≤ 18 * rest.length + 16
  | 0, rest, i, l, h => by
    unfold toksG at h
    injection h with h; subst h; simp [wtL, wtT]
  | g + 1, [], i, l, h => by
    unfold toksG at h
    injection h with h; subst h; simp [wtL, wtT]
  | g + 1, c :: r, i, l, h => by
    unfold toksG at h
    simp only at h
    split at h
    · have := toksG_wt g r (i + 1) l h
      simp only [List.length_cons]; omega
    · split at h
      · cases h
      · rename_i t n ht
        split at h
        · cases h
        · rename_i l2 hl2
          injection h with h; subst h
          have hl := tok_len ht
          have hw := tok_wt ht
          have := toksG_wt g _ _ _ hl2
          simp only [List.length_cons] at hl
          simp only [wtL, List.length_drop, List.length_cons] at this hw ⊢
          omega
/-- A rule that was read from a line. -/
theorem lineF_ok {L : Bs} {n : Nat} {r : RuleS} (h : lineF L n = .ok r) : n < 200 ∧ ∃ ts, toksF L = .ok ts ∧ ruleF ts = .ok r := by
  unfold lineF at h
  obtain ⟨ts, h1, h⟩ := bindE_ok h
  split at h
  · cases h
  · exact ⟨by omega, ts, h1, h⟩
theorem lineF_wt {L : Bs} {n : Nat} {r : RuleS} (h : lineF L n = .ok r) : (printR r).length + 1 ≤ 18 * L.length + 16 := by
  obtain ⟨_, ts, h1, h2⟩ := lineF_ok h
  have := toksG_wt _ _ _ _ h1
  have := ruleF_wt h2
  omega
def lensL : List Bs → Nat
  | [] => 0
  | x :: r => x.length + 1 + lensL r
theorem rulesG_wt : ∀ (ls : List Bs) (i n : Nat) (l : List RuleS), rulesG ls i n = .ok l → (printRs l).length ≤ 18 * lensL ls
  | [], i, n, l, h => by unfold rulesG at h; injection h with h; subst h; simp [printRs]
  | x :: r, i, n, l, h => by
    unfold rulesG at h
    split at h
    · have := rulesG_wt r (i + 1) n l h
      simp only [lensL]; omega
    · split at h
      · cases h
      · rename_i a ha
        split at h
        · cases h
        · rename_i l2 hl2
          injection h with h; subst h
          have h1 := rulesG_wt r (i + 1) (n + 1) l2 hl2
          have h2 := lineF_wt ha
          have e : printRs (a :: l2) = (printR a ++ [10]) ++ printRs l2 := by simp [printRs]
          rw [e]
          simp only [lensL, List.length_append, List.length_cons, List.length_nil] at h1 h2 ⊢
          omega
theorem rulesG_few : ∀ (ls : List Bs) (i n : Nat) (l : List RuleS), n ≤ 200 → rulesG ls i n = .ok l → n + l.length ≤ 200
  | [], i, n, l, hn, h => by unfold rulesG at h; injection h with h; subst h; simpa using hn
  | x :: r, i, n, l, hn, h => by
    unfold rulesG at h
    split at h
    · exact rulesG_few r (i + 1) n l hn h
    · split at h
      · cases h
      · rename_i a ha
        split at h
        · cases h
        · rename_i l2 hl2
          injection h with h; subst h
          have h1 := rulesG_few r (i + 1) (n + 1) l2 (by have := (lineF_ok ha).1; omega) hl2
          simp only [List.length_cons]; omega
end Go.Proofs.YtannhfnpigiggaaGreatDoor

namespace Go.Proofs.YtannhfnpigiggaaGreatDoor
set_option linter.unusedSimpArgs false
set_option linter.unusedVariables false

theorem bindE_err {α β : Type} {x : Except Fl α} {k : α → Except Fl β} {f : Fl} (h : bindE x k = .error f) : x = .error f ∨ ∃ a, x = .ok a ∧ k a = .error f := by
  cases x with
  | error g => exact .inl (by injection h with h; rw [h])
  | ok a => exact .inr ⟨a, rfl, h⟩
def Nz {α : Type} (p : Pr α) : Prop := ∀ ts f, p ts = .error f → f.2 ≠ 0
theorem nz_one (l : List Bs) : Nz (oneF l) := by
  intro ts f h
  cases ts with
  | nil => injection h with h; subst h; simp
  | cons t r =>
    unfold oneF at h
    simp only at h
    split at h
    · cases h
    · injection h with h; subst h; simp
theorem nz_num (m : Nat) : Nz (numF m) := by
  intro ts f h
  cases ts with
  | nil => injection h with h; subst h; simp
  | cons t r =>
    unfold numF at h
    simp only at h
    split at h
    · injection h with h; subst h; simp
    · split at h
      · injection h with h; subst h; simp
      · cases h
theorem nz_quo : Nz quoF := by
  intro ts f h
  cases ts with
  | nil => injection h with h; subst h; simp
  | cons t r =>
    unfold quoF at h
    simp only at h
    split at h
    · injection h with h; subst h; simp
    · cases h
theorem nz_who : Nz whoF := by
  intro ts f h
  rw [whoF_eq] at h
  rcases bindE_err h with h | ⟨a, _, h⟩
  · exact nz_one _ _ _ h
  rcases bindE_err h with h | ⟨b, _, h⟩
  · exact nz_one _ _ _ h
  rcases bindE_err h with h | ⟨c, _, h⟩
  · exact nz_quo _ _ h
  split at h
  · split at h
    · injection h with h; subst h; simp
    · cases h
  · split at h
    · cases h
    · injection h with h; subst h; simp
theorem nz_test : Nz testF := by
  intro ts f h
  cases ts with
  | nil => injection h with h; subst h; simp
  | cons t r =>
    unfold testF at h
    simp only at h
    split at h
    · injection h with h; subst h; simp
    · split at h
      · rcases bindE_err h with h | ⟨a, _, h⟩
        · exact nz_one _ _ _ h
        rcases bindE_err h with h | ⟨b, _, h⟩
        · exact nz_num _ _ _ h
        cases h
      · split at h
        · rcases bindE_err h with h | ⟨a, _, h⟩
          · exact nz_one _ _ _ h
          rcases bindE_err h with h | ⟨b, _, h⟩
          · exact nz_quo _ _ h
          cases h
        · exact nz_who _ _ h
theorem nz_more (word : Bs) {p : Pr Cond} (hp : Nz p) : ∀ g, Nz (moreF word p g)
  | 0, ts, f, h => by unfold moreF at h; cases h
  | g + 1, ts, f, h => by
    unfold moreF at h
    split at h
    · rcases bindE_err h with h | ⟨a, _, h⟩
      · exact hp _ _ h
      rcases bindE_err h with h | ⟨b, _, h⟩
      · exact nz_more word hp g _ _ h
      cases h
    · cases h
theorem nz_list (word : Bs) (mk : List Cond → Cond) {p : Pr Cond} (hp : Nz p) : Nz (listC word mk p) := by
  intro ts f h
  unfold listC at h
  rcases bindE_err h with h | ⟨a, _, h⟩
  · exact hp _ _ h
  rcases bindE_err h with h | ⟨b, _, h⟩
  · exact nz_more word hp _ _ _ h
  cases h
theorem nz_single : ∀ n, Nz (singleF n)
  | n, ts, f, h => by
    unfold singleF at h
    split at h
    · exact nz_test _ _ h
    · cases n with
      | zero => injection h with h; subst h; simp
      | succ n =>
        simp only at h
        split at h
        · rcases bindE_err h with h | ⟨a, _, h⟩
          · exact nz_single n _ _ h
          cases h
        · rcases bindE_err h with h | ⟨a, _, h⟩
          · exact nz_list _ _ (nz_list _ _ (nz_single n)) _ _ h
          rcases bindE_err h with h | ⟨b, _, h⟩
          · exact nz_one _ _ _ h
          cases h
theorem nz_rule : ∀ ts f, ruleF ts = .error f → f.2 ≠ 0 := by
  intro ts f h
  unfold ruleF at h
  rcases bindE_err h with h | ⟨a, _, h⟩
  · exact nz_one _ _ _ h
  rcases bindE_err h with h | ⟨b, _, h⟩
  · unfold amtF at h
    split at h
    · rcases bindE_err h with h | ⟨c, _, h⟩
      · exact nz_num _ _ _ h
      cases h
    · split at h
      · split at h
        · rcases bindE_err h with h | ⟨c, _, h⟩
          · exact nz_num _ _ _ h
          cases h
        · rcases bindE_err h with h | ⟨c, _, h⟩
          · exact nz_num _ _ _ h
          cases h
      · cases h
  rcases bindE_err h with h | ⟨c, _, h⟩
  · unfold tilF at h
    split at h
    · rcases bindE_err h with h | ⟨d, _, h⟩
      · exact nz_num _ _ _ h
      cases h
    · cases h
  rcases bindE_err h with h | ⟨d, _, h⟩
  · unfold ifF at h
    split at h
    · rcases bindE_err h with h | ⟨e, _, h⟩
      · exact nz_list _ _ (nz_list _ _ (nz_single 32)) _ _ h
      cases h
    · cases h
  split at h
  · cases h
  · injection h with h; subst h; simp
theorem nz_tok {L : Bs} {col : Nat} {f : Fl} (h : tokT L col = .error f) : f.2 ≠ 0 := by
  unfold tokT at h
  split at h
  · injection h with h; subst h; simp
  · split at h
    · cases h
    · split at h
      · split at h
        · rename_i hn
          injection h with h; subst h; exact hn
        · cases h
      · split at h
        · unfold strT at h
          split at h
          · injection h with h; subst h; simp
          · simp only at h
            split at h
            · injection h with h; subst h; simp
            · split at h
              · injection h with h; subst h; simp
              · split at h
                · injection h with h; subst h; simp
                · cases h
        · unfold symT at h
          split at h
          · cases h
          · injection h with h; subst h; simp
theorem nz_toks : ∀ (g : Nat) (L : Bs) (i : Nat) (f : Fl), toksG g L i = .error f → f.2 ≠ 0
  | 0, L, i, f, h => by unfold toksG at h; cases h
  | g + 1, [], i, f, h => by unfold toksG at h; cases h
  | g + 1, c :: r, i, f, h => by
    unfold toksG at h
    simp only at h
    split at h
    · exact nz_toks g r (i + 1) f h
    · split at h
      · rename_i ht
        injection h with h; subst h; exact nz_tok ht
      · split at h
        · rename_i hh
          injection h with h; subst h; exact nz_toks g _ _ _ hh
        · cases h
theorem nz_line {L : Bs} {n : Nat} {f : Fl} (h : lineF L n = .error f) : f.2 ≠ 0 := by
  unfold lineF at h
  rcases bindE_err h with h | ⟨ts, _, h⟩
  · exact nz_toks _ _ _ _ h
  · split at h
    · injection h with h; subst h; simp
    · exact nz_rule _ _ h
end Go.Proofs.YtannhfnpigiggaaGreatDoor

namespace Go.Proofs.YtannhfnpigiggaaGreatDoor
set_option linter.unusedSimpArgs false
set_option linter.unusedVariables false
open Go.Lib (decDigits)

def kT1 : Bs := [43, 49, 48, 32, 105, 102, 32, 115, 117, 98, 106, 101, 99, 116, 32, 104, 97, 115, 32, 34, 103, 111, 34, 32, 97, 110, 100, 32, 110, 111, 116, 32, 40, 97, 103, 101, 32, 62, 32, 49, 52, 52, 48, 32, 111, 114, 32, 108, 105, 110, 101, 115, 32, 60, 32, 51, 41, 10]
def kT2 : Bs := [107, 105, 108, 108, 32, 105, 102, 32, 40, 40, 110, 97, 109, 101, 32, 105, 115, 32, 34, 120, 34, 41, 41]
def kT3 : Bs := [10, 35, 32, 120, 10, 107, 105, 108]
def kT4 : Bs := [43, 53, 32, 105, 102]
def kP2 : Bs := [107, 105, 108, 108, 32, 105, 102, 32, 110, 97, 109, 101, 32, 105, 115, 32, 34, 120, 34, 10]
def kL1 : List RuleS := [⟨[43], 10, none, some (.both [.txt wSubject wHas [103, 111], .neg (.either [.cmp wAge [62] 1440, .cmp wLines [60] 3])])⟩]
def kL2 : List RuleS := [⟨wKill, 0, none, some (.txt wName wIs [120])⟩]
def kX : InS := ⟨[], [71, 111, 112, 104, 101, 114, 115], [], List.replicate 16 0, [], 5, 0, 9, 0, 0⟩
theorem kn1 : parseG kT1 = .ok kL1 := by kernel_rfl
theorem kn2 : parseG kT2 = .ok kL2 := by kernel_rfl
theorem kn3 : parseG kT3 = .error (3, 1, 29) := by kernel_rfl
theorem kn4 : parseG kT4 = .error (1, 6, 29) := by kernel_rfl
theorem kd10 : decDigits 10 = [49, 48] := dec_val [49, 48] (by decide)
theorem kd1440 : decDigits 1440 = [49, 52, 52, 48] := dec_val [49, 52, 52, 48] (by decide)
theorem kd3 : decDigits 3 = [51] := dec_val [51] (by decide)
theorem kpr1 : printRs kL1 = kT1 := by
  have e : printRs kL1 = printR kL1[0] ++ [10] := by simp [printRs, kL1]
  rw [e]
  simp [kL1, printR, printF, printAnd, printOr, isOr, isList, decI, kd10, kd1440, kd3]
  decide
theorem kpr2 : printRs kL2 = kP2 := by kernel_rfl
theorem krt : rateF kL1 kX = ⟨10, false, false, 1⟩ := by kernel_rfl
end Go.Proofs.YtannhfnpigiggaaGreatDoor
