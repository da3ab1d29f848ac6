/- Plain: common ends. No program here. -/
import Derived.Test.YtgfgjkafkdfjpaaDoorRouteP
namespace Go.Proofs.YtgfgjkafkdfjpaaDoor
set_option linter.unusedSimpArgs false
set_option linter.unusedVariables false

theorem seekN_below (p : Nat → Bool) (n : Nat) : ∀ k i, k ≤ i → i < seekN p n k → i < n → p i = false := by
  intro k i hk hi hn
  obtain ⟨d, hd⟩ : ∃ d, d = n - k := ⟨_, rfl⟩
  induction d generalizing k with
  | zero => rw [seekN_end p n k (by omega)] at hi; omega
  | succ d ih =>
    cases hp : p k with
    | true => rw [seekN_stop p n k (by omega) hp] at hi; omega
    | false =>
      rw [seekN_step p n k (by omega) hp] at hi
      rcases Nat.lt_or_ge k i with h | h
      · exact ih (k + 1) (by omega) hi (by omega)
      · obtain rfl : i = k := by omega
        exact hp
theorem seekN_at (p : Nat → Bool) (n : Nat) : ∀ k, k ≤ n → seekN p n k < n → p (seekN p n k) = true := by
  intro k hk hs
  obtain ⟨d, hd⟩ : ∃ d, d = n - k := ⟨_, rfl⟩
  induction d generalizing k with
  | zero => rw [seekN_end p n k (by omega)] at hs; omega
  | succ d ih =>
    cases hp : p k with
    | true => rw [seekN_stop p n k (by omega) hp]; exact hp
    | false =>
      rw [seekN_step p n k (by omega) hp] at hs ⊢
      exact ih (k + 1) (by omega) hs (by omega)

def lastAt (l : List Bs) (n : Nat) : Bs := l.getD (l.length - 1 - n) []
/-- n is how many of the last names agree. -/
structure IsCommon (a b : List Bs) (n : Nat) : Prop where
  la : n ≤ a.length
  lb : n ≤ b.length
  agree : ∀ i, i < n → lastAt a i = lastAt b i
  stop : n = a.length ∨ n = b.length ∨ lastAt a n ≠ lastAt b n
theorem common_is (a b : List Bs) : IsCommon a b (commonN a b) := by
  have hle := seekN_le (fun n => decide (b.length ≤ n) || !decide (lastAt a n = lastAt b n)) a.length 0 (by omega)
  have hbel := fun i h1 h2 => seekN_below (fun n => decide (b.length ≤ n) || !decide (lastAt a n = lastAt b n)) a.length 0 i (by omega) h1 h2
  have hat := seekN_at (fun n => decide (b.length ≤ n) || !decide (lastAt a n = lastAt b n)) a.length 0 (by omega)
  have e : commonN a b = seekN (fun n => decide (b.length ≤ n) || !decide (lastAt a n = lastAt b n)) a.length 0 := rfl
  rw [← e] at hle hbel hat
  generalize commonN a b = n at *
  have hlb : n ≤ b.length := by
    rcases Nat.lt_or_ge b.length n with h | h
    · have := hbel b.length h (by omega)
      simp at this
    · exact h
  refine ⟨hle, hlb, fun i hi => ?_, ?_⟩
  · have := hbel i hi (by omega)
    simp at this; exact this.2
  · rcases Nat.lt_or_ge n a.length with h | h
    · have := hat h
      simp at this
      rcases this with h1 | h1
      · exact .inr (.inl (by omega))
      · exact .inr (.inr h1)
    · exact .inl (by omega)
theorem IsCommon.symm {a b : List Bs} {n : Nat} (h : IsCommon a b n) : IsCommon b a n :=
  ⟨h.lb, h.la, fun i hi => (h.agree i hi).symm, by rcases h.stop with h | h | h; exact .inr (.inl h); exact .inl h; exact .inr (.inr (Ne.symm h))⟩
theorem IsCommon.uniq {a b : List Bs} {n m : Nat} (h : IsCommon a b n) (k : IsCommon a b m) : n = m := by
  have key : ∀ {n m : Nat}, IsCommon a b n → IsCommon a b m → ¬ n < m := fun {n m} h k hlt => by
    rcases h.stop with h1 | h1 | h1
    · have := k.la; omega
    · have := k.lb; omega
    · exact h1 (k.agree n hlt)
  have h1 := key h k; have h2 := key k h; omega
theorem IsCommon.drop {a b : List Bs} {n : Nat} (h : IsCommon a b n) : a.drop (a.length - n) = b.drop (b.length - n) := by
  have h1 := h.la; have h2 := h.lb
  apply List.ext_getElem
  · simp; omega
  · intro j hj1 hj2
    simp at hj1 hj2
    have := h.agree (n - 1 - j) (by omega)
    unfold lastAt at this
    rw [List.getD, List.getD, List.getElem?_eq_getElem (by omega), List.getElem?_eq_getElem (by omega)] at this
    simp only [Option.getD_some] at this
    rw [List.getElem_drop, List.getElem_drop]
    have e1 : a.length - 1 - (n - 1 - j) = a.length - n + j := by omega
    have e2 : b.length - 1 - (n - 1 - j) = b.length - n + j := by omega
    simp only [e1, e2] at this
    exact this
theorem common_symm (a b : List Bs) : commonR b a = commonR a b := by
  have h := common_is a b
  have e : commonN b a = commonN a b := (common_is b a).uniq h.symm
  rw [commonR, commonR, e]; exact h.drop.symm
theorem common_self (a : List Bs) : commonR a a = a := by
  have e : commonN a a = a.length := (common_is a a).uniq ⟨by omega, by omega, fun _ _ => rfl, .inl rfl⟩
  rw [commonR, e]; simp
theorem common_len (a b : List Bs) : (commonR a b).length ≤ a.length := by rw [commonR, List.length_drop]; omega

end Go.Proofs.YtgfgjkafkdfjpaaDoor
