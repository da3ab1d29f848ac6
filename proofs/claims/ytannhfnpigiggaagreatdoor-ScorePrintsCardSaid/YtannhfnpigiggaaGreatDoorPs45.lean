/- Lemmas and walks, part 45. -/
import Derived.Test.YtannhfnpigiggaaGreatDoorPs35
namespace Go.Proofs.YtannhfnpigiggaaGreatDoor
set_option linter.unusedSimpArgs false
set_option linter.unusedVariables false

mutual
theorem tks_print : ∀ c : Cond, Gd c → Tks (printF c) (tC c)
  | .either l, h => by
    rw [Gd] at h
    rw [printF, tC]
    exact tks_printO l h.2 (by intro e; rw [e] at h; simp at h)
  | .both l, h => by
    rw [Gd] at h
    rw [printF, tC]
    exact tks_printA l h.2 (by intro e; rw [e] at h; simp at h)
  | .neg c, h => by
    rw [Gd] at h
    have ih := tks_print c h
    rw [printF, tC]
    cases e : isList c
    · simp only [Bool.false_eq_true, if_false]
      exact tks_not.app (dlm_blank _) ih.blank
    · simp only [if_true]
      exact tks_not.app (dlm_blank _) ((ih.app (dlm_rp []) tks_rp).lp).blank
  | .cmp f op n, h => by
    rw [Gd] at h
    rw [printF, tC]
    exact (tks_numf h.1).app (dlm_blank _) (((tks_op h.2.1).app (dlm_blank _) (tks_num h.2.2).blank).blank)
  | .txt f m t, h => by
    rw [Gd] at h
    rw [printF, tC]
    exact (tks_txtf h.1).app (dlm_blank _) (((tks_mode h.2.1).app (dlm_blank _) (tks_quote h.2.2).blank).blank)
  | .auth t, h => by
    rw [Gd] at h
    rw [printF, tC]
    exact tks_author.app (dlm_blank _) ((tks_is.app (dlm_blank _) (tks_quote h.2).blank).blank)
  | .grp t, h => by
    rw [Gd] at h
    rw [printF, tC]
    exact tks_group.app (dlm_blank _) ((tks_is.app (dlm_blank _) (tks_quote h.2).blank).blank)
theorem tks_printO : ∀ l : List Cond, GdL l → l ≠ [] → Tks (printOr l) (tO l)
  | [], _, h => absurd rfl h
  | [c], h, _ => by
    rw [GdL] at h
    rw [printOr, tO, tOr, List.append_nil]
    exact tks_print c h.1
  | c :: d :: r, h, _ => by
    rw [GdL] at h
    have ih := tks_printO (d :: r) h.2 (by simp)
    rw [tO] at ih
    rw [printOr, tO, tOr]
    exact (tks_print c h.1).app (dlm_blank _) ((tks_or.app (dlm_blank _) ih.blank).blank)
theorem tks_printA : ∀ l : List Cond, GdL l → l ≠ [] → Tks (printAnd l) (tA l)
  | [], _, h => absurd rfl h
  | c :: r, h, _ => by
    rw [GdL] at h
    have hp : Tks (pieceA c) (if isOr c then eLp :: (tC c ++ [eRp]) else tC c) := by
      have ih := tks_print c h.1
      unfold pieceA
      cases e : isOr c
      · simp only [Bool.false_eq_true, if_false]; exact ih
      · simp only [if_true]; exact (ih.app (dlm_rp []) tks_rp).lp
    rw [printAnd_cons, tA]
    cases r with
    | nil => rw [if_pos rfl, tAr, List.append_nil, List.append_nil]; exact hp
    | cons d r =>
      have ih := tks_printA (d :: r) h.2 (by simp)
      rw [tA] at ih
      rw [if_neg (show ¬(d :: r = []) from by simp), tAr]
      exact hp.app (dlm_blank _) ((tks_and.app (dlm_blank _) ih.blank).blank)
end
end Go.Proofs.YtannhfnpigiggaaGreatDoor

namespace Go.Proofs.YtannhfnpigiggaaGreatDoor
set_option linter.unusedSimpArgs false
set_option linter.unusedVariables false

theorem cond_back {n : Nat} {ts : List Tok} {a : Cond × List Tok} (h : condF n ts = .ok a) (ht : TkG ts) : Gd a.1 ∧ Tks (printF a.1) (tC (nfC a.1)) ∧ Rd (condF n) NoO tC (nfC a.1) := by
  have h1 := (cond_po n ts a ht h).1
  have h2 := gd_nf a.1 h1.1
  refine ⟨h1.1, ?_, (rd_all _ h2 (flat_nf a.1) n (by rw [dep_nf]; exact h1.2)).any⟩
  rw [← print_nf a.1 h1.1]
  exact tks_print _ h2
theorem unesc_sub : ∀ (n : Nat) (L : Bs) (i : Nat), L.length ≤ n → ∀ c ∈ (unescQ L i).1, c ∈ L
  | _, [], i, _, c, hc => by unfold unescQ at hc; cases hc
  | 0, d :: r, i, hn, c, hc => by simp at hn
  | n + 1, d :: r, i, hn, c, hc => by
    simp only [List.length_cons] at hn
    unfold unescQ at hc
    split at hc
    · cases r with
      | nil => cases hc
      | cons e r' =>
        simp only at hc
        split at hc
        · rcases List.mem_cons.1 hc with rfl | hc
          · simp
          · have := unesc_sub n r' (i + 2) (by simp only [List.length_cons] at hn; omega) c hc
            simp [this]
        · cases hc
    · rcases List.mem_cons.1 hc with rfl | hc
      · simp
      · have := unesc_sub n r (i + 1) (by omega) c hc
        simp [this]
theorem tokT_g {L : Bs} (hL : ∀ c ∈ L, c ≠ 10) {col : Nat} {x : Tok × Nat} (h : tokT L col = .ok x) : x.1.kind = 3 → TxtOk x.1.text := by
  cases L with
  | nil => cases h
  | cons c r =>
    unfold tokT at h
    simp only at h
    split at h
    · injection h with h; subst h; intro e; cases e
    · split at h
      · split at h
        · cases h
        · injection h with h; subst h; intro e; cases e
      · split at h
        · unfold strT at h
          split at h
          · cases h
          · simp only at h
            split at h
            · cases h
            · split at h
              · cases h
              · split at h
                · cases h
                · rename_i h1 h2
                  injection h with h; subst h
                  intro _
                  exact ⟨by simp only; omega, by simpa using h2, fun d hd => hL d (List.mem_of_mem_take (List.mem_of_mem_drop (unesc_sub _ _ _ (Nat.le_refl _) d hd)))⟩
        · unfold symT at h
          split at h
          · injection h with h; subst h; intro e; cases e
          · cases h
theorem toksG_g : ∀ (g : Nat) (rest : Bs) (i : Nat) (l : List Tok), (∀ c ∈ rest, c ≠ 10) → toksG g rest i = .ok l → TkG l
  | 0, rest, i, l, hr, h => by
    unfold toksG at h
    injection h with h; subst h
    intro t ht e
    simp only [List.mem_singleton] at ht; subst ht; cases e
  | g + 1, [], i, l, hr, h => by
    unfold toksG at h
    injection h with h; subst h
    intro t ht e
    simp only [List.mem_singleton] at ht; subst ht; cases e
  | g + 1, c :: r, i, l, hr, h => by
    unfold toksG at h
    simp only at h
    split at h
    · exact toksG_g g _ _ _ (fun x hx => hr x (List.mem_cons_of_mem _ hx)) h
    · split at h
      · cases h
      · rename_i t n ht
        split at h
        · cases h
        · rename_i l2 hl
          injection h with h; subst h
          intro x hx e
          rcases List.mem_cons.1 hx with rfl | hx
          · exact tokT_g hr ht e
          · exact toksG_g g _ _ _ (fun y hy => hr y (List.mem_of_mem_drop hy)) hl x hx e
end Go.Proofs.YtannhfnpigiggaaGreatDoor

namespace Go.Proofs.YtannhfnpigiggaaGreatDoor
open Go.Lib (decDigits)
set_option linter.unusedSimpArgs false
set_option linter.unusedVariables false

def sgnA (a : Bs) : Prop := a = yPlus ∨ a = yMinus ∨ a = yEq
instance (a : Bs) : Decidable (sgnA a) := by unfold sgnA; infer_instance
/-- A rule as the parser makes it. -/
structure RuOk (r : RuleS) : Prop where
  act : r.act ∈ actsL
  lo : -10000 ≤ r.amt
  hi : r.amt ≤ 10000
  pos : r.act ≠ yEq → 0 ≤ r.amt
  zero : ¬ sgnA r.act → r.amt = 0
  til : ∀ u, r.til = some u → u ≤ 105190559
  cond : ∀ c, r.cond = some c → Gd c ∧ depC c ≤ 32
theorem amtF_tk {x : Bs} {ts : List Tok} {m : Int × List Tok} (h : amtF x ts = .ok m) (ht : TkG ts) : TkG m.2 := by
  unfold amtF at h
  split at h
  · obtain ⟨n, h1, h⟩ := bindE_ok h
    have := (numF_tk _ _ ht h1).2
    injection h with h; subst h; exact this
  · split at h
    · split at h
      · obtain ⟨n, h1, h⟩ := bindE_ok h
        have := (numF_tk _ _ ht.tail h1).2
        injection h with h; subst h; exact this
      · obtain ⟨n, h1, h⟩ := bindE_ok h
        have := (numF_tk _ _ ht h1).2
        injection h with h; subst h; exact this
    · injection h with h; subst h; exact ht
theorem rule_ok {ts : List Tok} {r : RuleS} (h : ruleF ts = .ok r) (ht : TkG ts) : RuOk r := by
  obtain ⟨a, m, u, c, h1, h2, h3, h4, h5, rfl⟩ := ruleF_steps h
  have g1 := oneF_tk _ _ ht h1
  have g2 := amtF_tk h2 g1.2
  obtain ⟨b1, b2, _, _, b5, b6⟩ := amtF_ok h2
  have g3 : TkG u.2 ∧ ∀ n, u.1 = some n → n ≤ 105190559 := by
    rcases tilF_ok h3 with ⟨rfl, _⟩ | ⟨n, k1, k2, k3, rfl⟩
    · exact ⟨g2, fun n e => by cases e⟩
    · exact ⟨(numF_tk _ _ g2.tail k2).2, fun n e => by injection e with e; subst e; exact k3⟩
  refine ⟨g1.1, b1, b2, b6, b5, g3.2, fun x e => ?_⟩
  rcases ifF_ok h4 with ⟨rfl, _⟩ | ⟨y, k1, k2, rfl⟩
  · cases e
  · injection e with e; subst e
    exact (cond_po 32 _ _ g3.1.tail k2).1
def nfR (r : RuleS) : RuleS := { r with cond := r.cond.map nfC }
theorem nfR_print {r : RuleS} (h : RuOk r) : printR (nfR r) = printR r := by
  rw [printR_eq, printR_eq]
  have : condL (nfR r).cond = condL r.cond := by
    unfold nfR
    cases e : r.cond with
    | none => rfl
    | some c => simp only [Option.map_some, condL]; rw [print_nf c (h.cond c e).1]
  rw [this]; rfl
theorem nfR_ok {r : RuleS} (h : RuOk r) : RuOk (nfR r) :=
  ⟨h.act, h.lo, h.hi, h.pos, h.zero, h.til, fun c e => by
    unfold nfR at e
    cases e2 : r.cond with
    | none => rw [e2] at e; cases e
    | some d =>
      rw [e2] at e; injection e with e; subst e
      have := h.cond d e2
      exact ⟨gd_nf d this.1, by rw [dep_nf]; exact this.2⟩⟩
theorem nfR_flat (r : RuleS) : ∀ c, (nfR r).cond = some c → Flat c := fun c e => by
  unfold nfR at e
  cases e2 : r.cond with
  | none => rw [e2] at e; cases e
  | some d => rw [e2] at e; injection e with e; subst e; exact flat_nf d
def tAct (a : Bs) : Es := if sgnA a then (4, a, 0) else (1, a, 0)
def tAmt (a : Bs) (m : Int) : List Es := if sgnA a then (if m < 0 then [(4, yMinus, 0), (2, [], m.natAbs)] else [(2, [], m.toNat)]) else []
def tTil : Option Nat → List Es
  | none => []
  | some u => [eW wUntil, (2, [], u)]
def tIf : Option Cond → List Es
  | none => []
  | some c => eW wIf :: tC c
def tR (r : RuleS) : List Es := tAct r.act :: (tAmt r.act r.amt ++ (tTil r.til ++ tIf r.cond))
theorem tks_until : Tks wUntil [eW wUntil] := fun i => ⟨[⟨1, wUntil, 0, i + 1⟩], ⟨0, [], 0, _⟩, rfl, rfl, rfl⟩
theorem tks_if : Tks wIf [eW wIf] := fun i => ⟨[⟨1, wIf, 0, i + 1⟩], ⟨0, [], 0, _⟩, rfl, rfl, rfl⟩
theorem tks_nil : Tks [] [] := fun i => ⟨[], ⟨0, [], 0, i + 1⟩, rfl, rfl, rfl⟩
theorem Tks.plus {X : Bs} {b : List Es} (h : Tks X b) : Tks (43 :: X) ((4, yPlus, 0) :: b) := fun i => by
  obtain ⟨l, e, h1, h2, h3⟩ := h (i + 1)
  refine ⟨⟨4, yPlus, 0, i + 1⟩ :: l, e, ?_, h2, by rw [List.map_cons, h3]; rfl⟩
  rw [List.length_cons]
  exact toksG_step (x := (⟨4, yPlus, 0, i + 1⟩, 1)) rfl rfl h1
theorem Tks.minus {X : Bs} {b : List Es} (h : Tks X b) : Tks (45 :: X) ((4, yMinus, 0) :: b) := fun i => by
  obtain ⟨l, e, h1, h2, h3⟩ := h (i + 1)
  refine ⟨⟨4, yMinus, 0, i + 1⟩ :: l, e, ?_, h2, by rw [List.map_cons, h3]; rfl⟩
  rw [List.length_cons]
  exact toksG_step (x := (⟨4, yMinus, 0, i + 1⟩, 1)) rfl rfl h1
theorem Tks.equal {X : Bs} {b : List Es} (h : Tks X b) : Tks (61 :: X) ((4, yEq, 0) :: b) := fun i => by
  obtain ⟨l, e, h1, h2, h3⟩ := h (i + 1)
  refine ⟨⟨4, yEq, 0, i + 1⟩ :: l, e, ?_, h2, by rw [List.map_cons, h3]; rfl⟩
  rw [List.length_cons]
  exact toksG_step (x := (⟨4, yEq, 0, i + 1⟩, 1)) rfl rfl h1
theorem tks_tail {r : RuleS} (h : RuOk r) : Tks (tilL r.til ++ condL r.cond) (tTil r.til ++ tIf r.cond) ∧ Dlm (tilL r.til ++ condL r.cond) := by
  have h1 : Tks (condL r.cond) (tIf r.cond) ∧ Dlm (condL r.cond) := by
    cases e : r.cond with
    | none => exact ⟨tks_nil, dlm_nil⟩
    | some c => exact ⟨(tks_if.app (dlm_blank _) (tks_print c (h.cond c e).1).blank).blank, dlm_blank _⟩
  cases e : r.til with
  | none => exact h1
  | some u =>
    refine ⟨?_, dlm_blank _⟩
    have h2 := h.til u e
    exact (tks_until.app (dlm_blank _) ((tks_num (n := u) (by omega)).app h1.2 h1.1).blank).blank
theorem tks_rule {r : RuleS} (h : RuOk r) : Tks (printR r) (tR r) := by
  obtain ⟨h1, h2⟩ := tks_tail h
  rw [printR_eq]
  unfold tR
  have hlo := h.lo
  have hhi := h.hi
  have hm : sgnA r.act → Tks (decI r.amt ++ (tilL r.til ++ condL r.cond)) (tAmt r.act r.amt ++ (tTil r.til ++ tIf r.cond)) := fun hs => by
    unfold tAmt decI
    rw [if_pos hs]
    split
    · exact ((tks_num (n := r.amt.natAbs) (by omega)).app h2 h1).minus
    · exact (tks_num (n := r.amt.toNat) (by omega)).app h2 h1
  have ha := h.act
  by_cases hs : sgnA r.act
  · have hm := hm hs
    have hs' := hs
    unfold sgnA at hs'
    rw [if_pos hs']
    unfold tAct
    rw [if_pos hs]
    generalize decI r.amt ++ (tilL r.til ++ condL r.cond) = X at *
    rcases hs' with e | e | e
    · rw [e] at hm ⊢; exact hm.plus
    · rw [e] at hm ⊢; exact hm.minus
    · rw [e] at hm ⊢; exact hm.equal
  · have hs' := hs
    unfold sgnA at hs'
    rw [if_neg hs']
    unfold tAct tAmt
    rw [if_neg hs, if_neg hs]
    have hw : Tks r.act [(1, r.act, 0)] := fun i => by
      simp only [actsL, List.mem_cons, List.not_mem_nil, or_false] at ha
      rcases ha with e | e | e | e | e | e
      · exact absurd (.inl e) hs'
      · exact absurd (.inr (.inl e)) hs'
      · exact absurd (.inr (.inr e)) hs'
      all_goals (rw [e]; exact ⟨[⟨1, _, 0, i + 1⟩], ⟨0, [], 0, _⟩, rfl, rfl, rfl⟩)
    exact hw.app h2 h1
theorem isT_end {x : Bs} {e : Tok} (he : e.kind = 0) : isT x [e] = false := by unfold isT; simp only; rw [he]; rfl
theorem if_rd {c : Option Cond} (hc : ∀ x, c = some x → Gd x ∧ Flat x ∧ depC x ≤ 32) {us : List Tok} {e : Tok} (hu : us.map ess = tIf c) (he : e.kind = 0) : ifF (us ++ [e]) = .ok (c, [e]) ∧ isT wUntil (us ++ [e]) = false := by
  cases c with
  | none =>
    have : us = [] := by simpa [tIf] using hu
    subst this
    unfold ifF
    rw [List.nil_append, isT_end he, isT_end he]
    exact ⟨rfl, rfl⟩
  | some c =>
    obtain ⟨t, u, rfl, e1, hu⟩ := ess_cons hu
    obtain ⟨h1, h2, h3⟩ := hc c rfl
    have h4 := (rd_all c h1 h2 32 h3).any u [e] hu ⟨isT_end he, isT_end he⟩
    unfold ifF
    rw [List.cons_append, isT_word e1, isT_word e1, if_pos (by simp), List.tail_cons]
    refine ⟨?_, by decide⟩
    rw [bindE_is (show condF 32 (u ++ [e]) = _ from h4)]
theorem til_rd {u : Option Nat} (hu : ∀ n, u = some n → n ≤ 105190559) {us r : List Tok} (h : us.map ess = tTil u) (hr : isT wUntil r = false) : tilF (us ++ r) = .ok (u, r) := by
  cases u with
  | none =>
    have : us = [] := by simpa [tTil] using h
    subst this
    unfold tilF
    rw [List.nil_append, hr]; rfl
  | some n =>
    obtain ⟨t, u1, rfl, e1, h⟩ := ess_cons h
    obtain ⟨t2, u2, rfl, e2, h⟩ := ess_cons h
    have : u2 = [] := by simpa using h
    subst this
    unfold tilF
    simp only [List.cons_append, List.nil_append]
    rw [isT_word e1, if_pos (by simp), List.tail_cons, bindE_is (num_rd r e2 (hu n rfl))]
theorem amt_rd {a : Bs} {m : Int} (hlo : -10000 ≤ m) (hhi : m ≤ 10000) (hp : a ≠ yEq → 0 ≤ m) (hz : ¬ sgnA a → m = 0) {us r : List Tok} (h : us.map ess = tAmt a m) : amtF a (us ++ r) = .ok (m, r) := by
  unfold tAmt at h
  by_cases hs : sgnA a
  · rw [if_pos hs] at h
    by_cases hm : m < 0
    · have ha : a = yEq := by
        rcases Decidable.em (a = yEq) with e | e
        · exact e
        · have := hp e; omega
      subst ha
      rw [if_pos hm] at h
      obtain ⟨t, u1, rfl, e1, h⟩ := ess_cons h
      obtain ⟨t2, u2, rfl, e2, h⟩ := ess_cons h
      have : u2 = [] := by simpa using h
      subst this
      unfold amtF
      simp only [List.cons_append, List.nil_append]
      rw [if_neg (by decide), if_pos trivial, isT_sym e1, if_pos (by simp), List.tail_cons, bindE_is (num_rd r e2 (by omega))]
      simp only
      congr 2; omega
    · rw [if_neg hm] at h
      obtain ⟨t, u1, rfl, e1, h⟩ := ess_cons h
      have : u1 = [] := by simpa using h
      subst this
      have hn := num_rd (m := 10000) r e1 (by omega)
      have hi : isT yMinus (t :: r) = false := by
        obtain ⟨k1, _, _⟩ := ess_parts e1
        unfold isT; simp only; rw [k1]; rfl
      unfold amtF
      simp only [List.cons_append, List.nil_append]
      split
      · rw [bindE_is hn]; simp only; congr 2; omega
      · rename_i h1
        have ha : a = yEq := by rcases hs with e | e | e; exact absurd (.inl e) h1; exact absurd (.inr e) h1; exact e
        rw [if_pos ha, hi, if_neg (by simp), bindE_is hn]; simp only; congr 2; omega
  · rw [if_neg hs] at h
    have : us = [] := by simpa using h
    subst this
    unfold amtF
    rw [List.nil_append, if_neg (fun g => hs (g.elim .inl (fun x => .inr (.inl x)))), if_neg (fun g => hs (.inr (.inr g))), hz hs]
theorem rule_rd {r : RuleS} (h : RuOk r) (hf : ∀ c, r.cond = some c → Flat c) {us : List Tok} {e : Tok} (hu : us.map ess = tR r) (he : e.kind = 0) : ruleF (us ++ [e]) = .ok r := by
  unfold tR at hu
  obtain ⟨t, u, rfl, e1, hu⟩ := ess_cons hu
  obtain ⟨u1, u2, rfl, hu1, hu⟩ := ess_app hu
  obtain ⟨u3, u4, rfl, hu3, hu4⟩ := ess_app hu
  have h4 := if_rd (fun x hx => ⟨(h.cond x hx).1, hf x hx, (h.cond x hx).2⟩) hu4 he
  have h3 := til_rd h.til hu3 h4.2
  have h2 := amt_rd h.lo h.hi h.pos h.zero hu1 (r := u3 ++ (u4 ++ [e]))
  have h1 : oneF actsL (t :: (u1 ++ (u3 ++ (u4 ++ [e])))) = .ok (r.act, u1 ++ (u3 ++ (u4 ++ [e]))) := by
    unfold tAct at e1
    split at e1
    · exact one_rd _ e1 (.inr rfl) h.act
    · exact one_rd _ e1 (.inl rfl) h.act
  unfold ruleF
  simp only [List.cons_append, List.append_assoc]
  rw [bindE_is h1]
  simp only
  rw [bindE_is h2]
  simp only
  rw [bindE_is h3]
  simp only
  rw [bindE_is h4.1]
  simp only
  rw [if_pos (by unfold endT; simp only; rw [he]; rfl)]
end Go.Proofs.YtannhfnpigiggaaGreatDoor

namespace Go.Proofs.YtannhfnpigiggaaGreatDoor
open Go.Lib (decDigits)
set_option linter.unusedSimpArgs false
set_option linter.unusedVariables false

def NoNl (L : Bs) : Prop := ∀ c ∈ L, isNl c = false
theorem NoNl.app {L M : Bs} (h : NoNl L) (g : NoNl M) : NoNl (L ++ M) := fun c hc => (List.mem_append.1 hc).elim (h c) (g c)
theorem NoNl.cons {c : UInt8} {L : Bs} (h : isNl c = false) (g : NoNl L) : NoNl (c :: L) := fun d hd => by
  rcases List.mem_cons.1 hd with rfl | hd
  · exact h
  · exact g d hd
theorem nonl_nil : NoNl [] := fun c h => by cases h
theorem nonl_dec (n : Nat) : NoNl (decDigits n) := fun c hc => by
  have := (dec_dig n).1 c hc
  simp [isNl]; intro e; subst e; simp at this
theorem nonl_in {l : List Bs} (h : ∀ x ∈ l, ∀ c ∈ x, isNl c = false) {x : Bs} (hx : x ∈ l) : NoNl x := h x hx
theorem nonl_esc : ∀ t : Bs, NoNl t → NoNl (escL t)
  | [], _ => nonl_nil
  | c :: t, h => by
    have ih := nonl_esc t (fun x hx => h x (List.mem_cons_of_mem _ hx))
    have hc := h c (by simp)
    unfold escL at ih ⊢
    rw [List.flatMap_cons]
    split
    · exact (NoNl.cons rfl (NoNl.cons hc nonl_nil)).app ih
    · exact (NoNl.cons hc nonl_nil).app ih
theorem nonl_txt {t : Bs} (h : TxtOk t) : NoNl (quoteL t) := by
  have h1 : NoNl t := fun c hc => by
    have h2 := h.2.2 c hc
    simp [isNl, h2]
  unfold quoteL
  exact NoNl.cons rfl ((nonl_esc t h1).app (NoNl.cons rfl nonl_nil))
theorem nonl_words : ∀ x ∈ ([wNot, wOr, wAnd, wUntil, wIf, wIs, wAuthor, wGroup] : List Bs), NoNl x := by
  unfold NoNl; decide +kernel
theorem nonl_fix {l : List Bs} (h : l.all (fun x => x.all fun c => !isNl c) = true) {x : Bs} (hx : x ∈ l) : NoNl x := fun c hc => by
  have h1 := List.all_eq_true.1 (List.all_eq_true.1 h x hx) c hc
  simpa using h1
theorem nonl_num {x : Bs} (h : x ∈ numFs) : NoNl x := nonl_fix (by decide +kernel) h
theorem nonl_txf {x : Bs} (h : x ∈ txtFs) : NoNl x := nonl_fix (by decide +kernel) h
theorem nonl_op {x : Bs} (h : x ∈ cmpOps) : NoNl x := nonl_fix (by decide +kernel) h
theorem nonl_mode {x : Bs} (h : x ∈ modesL) : NoNl x := nonl_fix (by decide +kernel) h
theorem nonl_act {x : Bs} (h : x ∈ actsL) : NoNl x := nonl_fix (by decide +kernel) h
theorem nonl_lit {x : Bs} (h : (x.all fun c => !isNl c) = true) : NoNl x := nonl_fix (l := [x]) (by simpa using h) (by simp)
mutual
theorem nonl_print : ∀ c : Cond, Gd c → NoNl (printF c)
  | .either l, h => by
    unfold Gd at h; unfold printF
    exact nonl_or l h.2
  | .both l, h => by
    unfold Gd at h; unfold printF
    exact nonl_and l h.2
  | .neg c, h => by
    unfold Gd at h; unfold printF
    have ih := nonl_print c h
    split
    · exact (nonl_lit (by decide +kernel)).app ((nonl_lit (by decide +kernel)).app (ih.app (nonl_lit (by decide +kernel))))
    · exact (nonl_lit (by decide +kernel)).app (NoNl.cons rfl ih)
  | .cmp f op n, h => by
    unfold Gd at h; unfold printF
    exact (nonl_num h.1).app (NoNl.cons rfl ((nonl_op h.2.1).app (NoNl.cons rfl (nonl_dec n))))
  | .txt f m t, h => by
    unfold Gd at h; unfold printF
    exact (nonl_txf h.1).app (NoNl.cons rfl ((nonl_mode h.2.1).app (NoNl.cons rfl (nonl_txt h.2.2))))
  | .auth t, h => by
    unfold Gd at h; unfold printF
    exact (nonl_lit (by decide +kernel)).app (NoNl.cons rfl ((nonl_lit (by decide +kernel)).app (NoNl.cons rfl (nonl_txt h.2))))
  | .grp t, h => by
    unfold Gd at h; unfold printF
    exact (nonl_lit (by decide +kernel)).app (NoNl.cons rfl ((nonl_lit (by decide +kernel)).app (NoNl.cons rfl (nonl_txt h.2))))
theorem nonl_or : ∀ l : List Cond, GdL l → NoNl (printOr l)
  | [], h => by unfold printOr; exact nonl_nil
  | [c], h => by
    unfold GdL at h; unfold printOr
    exact nonl_print c h.1
  | c :: d :: r, h => by
    unfold GdL at h; unfold printOr
    exact (nonl_print c h.1).app ((nonl_lit (by decide +kernel)).app (nonl_or (d :: r) h.2))
theorem nonl_and : ∀ l : List Cond, GdL l → NoNl (printAnd l)
  | [], h => by unfold printAnd; exact nonl_nil
  | [c], h => by
    unfold GdL at h; unfold printAnd
    have ih := nonl_print c h.1
    split
    · exact NoNl.cons rfl (ih.app (nonl_lit (by decide +kernel)))
    · exact ih
  | c :: d :: r, h => by
    unfold GdL at h; unfold printAnd
    have ih := nonl_print c h.1
    have hr := (nonl_lit (x := [32, 97, 110, 100, 32]) (by decide +kernel)).app (nonl_and (d :: r) h.2)
    split
    · exact NoNl.app (NoNl.cons rfl (ih.app (nonl_lit (by decide +kernel)))) hr
    · exact NoNl.app ih hr
end
theorem nonl_decI (n : Int) : NoNl (decI n) := by
  unfold decI
  split
  · exact NoNl.cons rfl (nonl_dec _)
  · exact nonl_dec _
theorem nonl_rule {r : RuleS} (h : RuOk r) : NoNl (printR r) := by
  rw [printR_eq]
  refine (nonl_act h.act).app (NoNl.app ?_ (NoNl.app ?_ ?_))
  · split
    · exact nonl_decI _
    · exact nonl_nil
  · cases r.til with
    | none => exact nonl_nil
    | some u => exact (nonl_lit (by decide +kernel)).app (nonl_dec u)
  · cases e : r.cond with
    | none => exact nonl_nil
    | some c => exact (nonl_lit (by decide +kernel)).app (nonl_print c (h.cond c e).1)
theorem idle_rule {r : RuleS} (h : RuOk r) : idleF (printR r) = false := by
  rw [printR_eq]
  generalize ((if r.act = yPlus ∨ r.act = yMinus ∨ r.act = yEq then decI r.amt else []) ++ (tilL r.til ++ condL r.cond)) = X
  have ha := h.act
  simp only [actsL, List.mem_cons, List.not_mem_nil, or_false] at ha
  rcases ha with e | e | e | e | e | e <;> (rw [e]; rfl)
theorem line_rule {r : RuleS} (h : RuOk r) {n : Nat} (hn : n < 200) : lineF (printR r) n = .ok (nfR r) := by
  have h1 := tks_rule (nfR_ok h)
  rw [nfR_print h] at h1
  obtain ⟨l, e, h2, h3, h4⟩ := h1 0
  have h5 := rule_rd (nfR_ok h) (nfR_flat r) h4 h3
  unfold lineF
  rw [bindE_is (show toksF (printR r) = .ok (l ++ [e]) from h2), if_neg (by omega)]
  exact h5
theorem lines_rules : ∀ l : List RuleS, (∀ r ∈ l, RuOk r) → linesM (printRs l) = l.map printR ++ [[]]
  | [], _ => rfl
  | r :: l, h => by
    have e : printRs (r :: l) = printR r ++ 10 :: printRs l := by simp [printRs]
    rw [e, lines_some _ _ (nonl_rule (h r (by simp))), lines_rules l (fun x hx => h x (by simp [hx]))]
    rfl
theorem rules_back : ∀ (l : List RuleS) (i n : Nat), (∀ r ∈ l, RuOk r) → n + l.length ≤ 200 → rulesG (l.map printR ++ [[]]) i n = .ok (l.map nfR)
  | [], i, n, _, _ => rfl
  | r :: l, i, n, h, hn => by
    simp only [List.length_cons] at hn
    have hr := h r (by simp)
    rw [List.map_cons, List.cons_append]
    unfold rulesG
    rw [idle_rule hr, if_neg (by simp), line_rule hr (by omega)]
    simp only
    rw [rules_back l (i + 1) (n + 1) (fun x hx => h x (by simp [hx])) (by omega)]
    rfl
theorem lines_nonl (L : Bs) : ∀ cur, NoNl cur → ∀ x ∈ splitNa L cur, NoNl x := by
  induction L with
  | nil =>
    intro cur hc x hx
    simp only [splitNa, List.mem_singleton] at hx; subst hx; exact hc
  | cons c r ih =>
    intro cur hc x hx
    rw [splitNa] at hx
    split at hx
    · rcases List.mem_cons.1 hx with rfl | hx
      · exact hc
      · exact ih [] nonl_nil x hx
    · rename_i hn
      exact ih _ (hc.app (NoNl.cons (by simpa using hn) nonl_nil)) x hx
theorem rulesG_all : ∀ (ls : List Bs) (i n : Nat) (l : List RuleS), (∀ x ∈ ls, NoNl x) → rulesG ls i n = .ok l → ∀ r ∈ l, RuOk r
  | [], i, n, l, hl, h => by unfold rulesG at h; injection h with h; subst h; simp
  | x :: r, i, n, l, hl, h => by
    unfold rulesG at h
    split at h
    · exact rulesG_all r (i + 1) n l (fun y hy => hl y (by simp [hy])) h
    · split at h
      · cases h
      · rename_i a ha
        split at h
        · cases h
        · rename_i l2 hl2
          injection h with h; subst h
          intro y hy
          rcases List.mem_cons.1 hy with rfl | hy
          · obtain ⟨_, ts, h1, h2⟩ := lineF_ok ha
            refine rule_ok h2 (toksG_g _ _ _ _ (fun c hc => ?_) h1)
            have := hl x (by simp) c hc
            unfold isNl at this
            simpa using this
          · exact rulesG_all r (i + 1) (n + 1) l2 (fun y hy => hl y (by simp [hy])) hl2 y hy
theorem lens_split (L : Bs) : ∀ cur, lensL (splitNa L cur) = cur.length + L.length + 1 := by
  induction L with
  | nil => intro cur; simp [splitNa, lensL]
  | cons c r ih =>
    intro cur
    rw [splitNa]
    split
    · simp only [lensL, ih, List.length_cons, List.length_nil]; omega
    · rw [ih]; simp only [List.length_append, List.length_cons, List.length_nil]; omega
theorem print_nfRs : ∀ l : List RuleS, (∀ r ∈ l, RuOk r) → printRs (l.map nfR) = printRs l
  | [], _ => rfl
  | r :: l, h => by
    have e : ∀ (r : RuleS) l, printRs (r :: l) = printR r ++ 10 :: printRs l := fun r l => by simp [printRs]
    rw [List.map_cons, e, e, nfR_print (h r (by simp)), print_nfRs l (fun x hx => h x (by simp [hx]))]
/-- What was read from a short text: good rules, few of them, with a short print, that is read again. -/
theorem parse_back {L : Bs} {l : List RuleS} (hL : L.length ≤ 3000) (h : parseG L = .ok l) : (∀ r ∈ l, RuOk r) ∧ l.length ≤ 200 ∧ (printRs l).length ≤ 65536 ∧ parseG (printRs l) = .ok (l.map nfR) ∧ printRs (l.map nfR) = printRs l := by
  unfold parseG at h
  rw [if_neg (by omega)] at h
  have h1 := rulesG_all _ _ _ _ (lines_nonl L [] nonl_nil) h
  have h2 := rulesG_few _ _ _ _ (by omega) h
  have h3 := rulesG_wt _ _ _ _ h
  have h4 : lensL (linesM L) = L.length + 1 := by unfold linesM; rw [lens_split]; simp
  refine ⟨h1, by omega, by omega, ?_, print_nfRs l h1⟩
  unfold parseG
  rw [if_neg (by omega), lines_rules l h1]
  exact rules_back l 0 0 h1 h2
end Go.Proofs.YtannhfnpigiggaaGreatDoor
