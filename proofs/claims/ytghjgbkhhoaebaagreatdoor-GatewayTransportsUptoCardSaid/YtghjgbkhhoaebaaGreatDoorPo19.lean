/- Lemmas and walks, part 19. -/
import Derived.Test.YtghjgbkhhoaebaaGreatDoorPo10
namespace Go.Proofs.YtghjgbkhhoaebaaGreatDoor
set_option linter.unusedSimpArgs false
set_option linter.unusedVariables false
open Go.RowKit Go.Shelf
attribute [local go_sem] Oper.semAt_some

theorem allLn_len {M : Nat} {L : List UInt8} {xs : List (LnT M)} (h : AllLn L xs) : xs.length = (linesF L).length := by
  have := congrArg List.length h
  rwa [List.length_map, numL_length] at this
end Go.Proofs.YtghjgbkhhoaebaaGreatDoor

namespace Go.Proofs.YtghjgbkhhoaebaaGreatDoor
set_option linter.unusedSimpArgs false
set_option linter.unusedVariables false

/-- The last divider: where it begins, and where what follows it begins. -/
def divGo (N : Nat) : Nat → List (List UInt8) → Option (Nat × Nat) → Option (Nat × Nat)
  | _, [], r => r
  | i, x :: l, r => divGo N (min (i + x.length + 1) N) l (if x = [45, 45, 32] then some (i, min (i + x.length + 1) N) else r)
def divF (L : List UInt8) : List UInt8 × List UInt8 := match divGo L.length 0 (linesF L) none with
  | none => (L, [])
  | some x => (L.take x.1, L.drop x.2)
/-- The state behind some lines: the next offset, and the last divider. -/
def divS (N : Nat) (l : List (List UInt8)) : Nat × Option (Nat × Nat) := l.foldl (fun s x => (min (s.1 + x.length + 1) N, if x = [45, 45, 32] then some (s.1, min (s.1 + x.length + 1) N) else s.2)) (0, none)
theorem divS_snoc (N : Nat) (l : List (List UInt8)) (x : List UInt8) : divS N (l ++ [x]) = (min ((divS N l).1 + x.length + 1) N, if x = [45, 45, 32] then some ((divS N l).1, min ((divS N l).1 + x.length + 1) N) else (divS N l).2) := by
  unfold divS; rw [List.foldl_append]; rfl
theorem divS_go (N : Nat) : ∀ (l : List (List UInt8)) (s : Nat × Option (Nat × Nat)), divGo N s.1 l s.2 = (l.foldl (fun s x => (min (s.1 + x.length + 1) N, if x = [45, 45, 32] then some (s.1, min (s.1 + x.length + 1) N) else s.2)) s).2
  | [], s => rfl
  | x :: l, s => by rw [divGo, List.foldl_cons, ← divS_go N l]
theorem divS_le (N : Nat) (l : List (List UInt8)) : (divS N l).1 ≤ N ∧ ∀ x, (divS N l).2 = some x → x.1 ≤ N ∧ x.2 ≤ N := by
  unfold divS
  suffices h : ∀ (l : List (List UInt8)) (s : Nat × Option (Nat × Nat)), s.1 ≤ N → (∀ x, s.2 = some x → x.1 ≤ N ∧ x.2 ≤ N) → (l.foldl (fun s x => (min (s.1 + x.length + 1) N, if x = [45, 45, 32] then some (s.1, min (s.1 + x.length + 1) N) else s.2)) s).1 ≤ N ∧ ∀ x, (l.foldl (fun s x => (min (s.1 + x.length + 1) N, if x = [45, 45, 32] then some (s.1, min (s.1 + x.length + 1) N) else s.2)) s).2 = some x → x.1 ≤ N ∧ x.2 ≤ N from
    h l (0, none) (Nat.zero_le _) (fun x h => by cases h)
  intro l
  induction l with
  | nil => intro s h1 h2; exact ⟨h1, h2⟩
  | cons y r ih =>
    intro s h1 h2
    rw [List.foldl_cons]
    refine ih _ (Nat.min_le_right _ _) (fun x hx => ?_)
    dsimp only at hx
    split at hx
    · injection hx with hx; subst hx; exact ⟨h1, Nat.min_le_right _ _⟩
    · exact h2 x hx
/-- The two parts at a state. -/
def cutAt (L : List UInt8) (o : Option (Nat × Nat)) : List UInt8 × List UInt8 := match o with
  | none => (L, [])
  | some x => (L.take x.1, L.drop x.2)
theorem divF_eq (L : List UInt8) : divF L = cutAt L (divS L.length (linesF L)).2 := by
  unfold divF divS
  rw [divS_go L.length (linesF L) (0, none)]; rfl


/-- The reference's state: the offset i of a line, and the last divider before it. -/
def DivOn (L : List UInt8) (i : Nat) (o : Option (Nat × Nat)) : Prop := divGo L.length 0 (linesF L) none = divGo L.length (min i L.length) (restL L i) o
theorem DivOn.zero (L : List UInt8) : DivOn L 0 none := by unfold DivOn; rw [Nat.zero_min]; rfl
theorem DivOn.next {L : List UInt8} {i : Nat} {o : Option (Nat × Nat)} (h : DivOn L i o) (hi : i < L.length) : DivOn L (endF L i + 1) (if cutL L i (endF L i) = [45, 45, 32] then some (i, min (endF L i + 1) L.length) else o) := by
  have h1 := endF_ge L i
  have h2 := endF_le L i (by omega)
  have hc := cutL_length L i (endF L i) h2
  unfold DivOn at *
  rw [h, restL_step hi, divGo, hc, show min i L.length = i from by omega, show i + (endF L i - i) + 1 = endF L i + 1 from by omega]
theorem DivOn.done {L : List UInt8} {i : Nat} {o : Option (Nat × Nat)} (h : DivOn L i o) (hi : L.length ≤ i) : divF L = cutAt L o := by
  unfold DivOn at h
  rw [restL_end hi] at h
  unfold divF
  rw [h]; rfl
theorem div_len (L : List UInt8) : (divF L).1.length ≤ L.length ∧ (divF L).2.length ≤ L.length := by
  unfold divF
  cases divGo L.length 0 (linesF L) none with
  | none => simp
  | some x => simp only [List.length_take, List.length_drop]; omega
theorem endF_nl {L : List UInt8} {i : Nat} (h : endF L i < L.length) : ∃ r, L.drop (endF L i) = 10 :: r := by
  have h1 : L.drop (endF L i) = (L.drop i).dropWhile (· != 10) := by
    rw [dropWhile_eq_drop, List.drop_drop]; rfl
  have h2 := List.head?_dropWhile_not (· != 10) (L.drop i)
  rw [← h1] at h2
  cases hd : L.drop (endF L i) with
  | nil => have := congrArg List.length hd; rw [List.length_drop] at this; simp at this; omega
  | cons c r =>
    rw [hd] at h2
    have : c = 10 := by simpa using h2
    exact ⟨r, by rw [this]⟩
def GoodDiv (L : List UInt8) (o : Option (Nat × Nat)) : Prop := ∀ x, o = some x → (L.take x.1 ++ [45, 45, 32, 10] ++ L.drop x.2 = L) ∨ (L.take x.1 ++ [45, 45, 32] = L ∧ L.drop x.2 = [])
theorem good_step {L : List UInt8} {i : Nat} (hi : i < L.length) (hc : cutL L i (endF L i) = [45, 45, 32]) : GoodDiv L (some (i, min (endF L i + 1) L.length)) := by
  intro x hx
  injection hx with hx
  subst hx
  have h1 := endF_ge L i
  have h2 := endF_le L i (by omega)
  have e1 : L = L.take i ++ (cutL L i (endF L i) ++ L.drop (endF L i)) := by
    have h3 : L.drop i = cutL L i (endF L i) ++ L.drop (endF L i) := by
      have : L.drop (endF L i) = (L.drop i).drop (endF L i - i) := by rw [List.drop_drop]; congr 1; omega
      rw [this]; unfold cutL; exact (List.take_append_drop _ _).symm
    rw [← h3, List.take_append_drop]
  rw [hc] at e1
  by_cases h : endF L i < L.length
  · obtain ⟨r, hr⟩ := endF_nl h
    have hm : min (endF L i + 1) L.length = endF L i + 1 := by omega
    have h4 : L.drop (endF L i + 1) = r := by
      have : L.drop (endF L i + 1) = (L.drop (endF L i)).drop 1 := by rw [List.drop_drop]
      rw [this, hr]; rfl
    refine .inl ?_
    simp only [hm, h4]
    rw [hr] at e1
    rw [List.append_assoc]
    exact e1.symm
  · have h5 : endF L i = L.length := by omega
    have hm : min (endF L i + 1) L.length = L.length := by omega
    refine .inr ⟨?_, ?_⟩
    · rw [h5, List.drop_length, List.append_nil] at e1
      exact e1.symm
    · simp only [hm, List.drop_length]
theorem good_go (L : List UInt8) : ∀ (n i : Nat) (o : Option (Nat × Nat)), GoodDiv L o → GoodDiv L (divGo L.length (min i L.length) ((spansU n L i).map fun x => cutL L x.1 x.2) o)
  | 0, _, _, h => by simpa [spansU, divGo] using h
  | n + 1, i, o, h => by
    rw [spansU]
    by_cases hi : i < L.length
    · have h1 := endF_ge L i
      have h2 := endF_le L i (by omega)
      have hc := cutL_length L i (endF L i) h2
      rw [if_pos hi, List.map_cons, divGo]
      simp only
      rw [hc, show min i L.length = i from by omega, show i + (endF L i - i) + 1 = endF L i + 1 from by omega]
      refine good_go L n _ _ ?_
      by_cases hd : cutL L i (endF L i) = [45, 45, 32]
      · rw [if_pos hd]; exact good_step hi hd
      · rw [if_neg hd]; exact h
    · rw [if_neg hi]; simpa [divGo] using h
theorem div_parts (L : List UInt8) : divF L = (L, []) ∨ ((divF L).1 ++ [45, 45, 32, 10] ++ (divF L).2 = L) ∨ ((divF L).1 ++ [45, 45, 32] = L ∧ (divF L).2 = []) := by
  have hg := good_go L (L.length + 1) 0 none (fun x h => by cases h)
  rw [Nat.zero_min] at hg
  have hg' : GoodDiv L (divGo L.length 0 (linesF L) none) := hg
  unfold divF
  cases h : divGo L.length 0 (linesF L) none with
  | none => exact .inl rfl
  | some x => exact .inr (hg' x h)
end Go.Proofs.YtghjgbkhhoaebaaGreatDoor
