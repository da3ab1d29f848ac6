/- Plain: the first empty line, found line by line or as two line feeds. -/
import Derived.Test.YtcohgjdijhogbaaGreatPt18
import Derived.Lib.IndexMore
namespace Go.Proofs.YtcohgjdijhogbaaGreat
set_option linter.unusedSimpArgs false
set_option linter.unusedVariables false

theorem tw_in (p : UInt8 → Bool) : ∀ (l : List UInt8) (k : Nat), k < (l.takeWhile p).length → ∃ c, l[k]? = some c ∧ p c = true
  | [], k, h => by simp at h
  | a :: r, k, h => by
    by_cases ha : p a = true
    · rw [List.takeWhile_cons_of_pos ha] at h
      cases k with
      | zero => exact ⟨a, rfl, ha⟩
      | succ k => exact tw_in p r k (by simpa using h)
    · rw [List.takeWhile_cons_of_neg ha] at h; simp at h
theorem tw_out (p : UInt8 → Bool) : ∀ (l : List UInt8) (c : UInt8), l[(l.takeWhile p).length]? = some c → p c = false
  | [], c, h => by simp at h
  | a :: r, c, h => by
    by_cases ha : p a = true
    · rw [List.takeWhile_cons_of_pos ha] at h
      exact tw_out p r c (by simpa using h)
    · rw [List.takeWhile_cons_of_neg ha] at h
      simp at h; subst h; simpa using ha
theorem endF_in {L : List UInt8} {i j : Nat} (h1 : i ≤ j) (h2 : j < endF L i) : L[j]? ≠ some 10 := by
  unfold endF at h2
  obtain ⟨c, hc, hp⟩ := tw_in (· != 10) (L.drop i) (j - i) (by omega)
  rw [List.getElem?_drop, show i + (j - i) = j from by omega] at hc
  rw [hc]; intro e; injection e with e; subst e; simp at hp
theorem endF_out {L : List UInt8} {i : Nat} (h : endF L i < L.length) : L[endF L i]? = some 10 := by
  obtain ⟨c, hc⟩ : ∃ c, L[endF L i]? = some c := ⟨_, List.getElem?_eq_getElem h⟩
  have := tw_out (· != 10) (L.drop i) c (by rw [List.getElem?_drop]; exact hc)
  simp at this; rw [hc, this]
/-- An empty line begins at j, in a text whose lines begin at i. -/
def Empt (L : List UInt8) (i j : Nat) : Prop := L[j]? = some 10 ∧ (j = i ∨ L[j - 1]? = some 10)
def hdF (L : List UInt8) : Option (Nat × Nat) := (spans L 0).find? fun x => x.1 == x.2
theorem hd_go (L : List UInt8) : ∀ (n i : Nat), L.length < n + i →
    ((spansU n L i).find? (fun x => x.1 == x.2) = none ∧ ∀ j, i ≤ j → ¬ Empt L i j) ∨ (∃ h, (spansU n L i).find? (fun x => x.1 == x.2) = some (h, h) ∧ i ≤ h ∧ Empt L i h ∧ ∀ j, i ≤ j → j < h → ¬ Empt L i j)
  | 0, i, hn => .inl ⟨rfl, fun j hj he => by have := he.1; rw [List.getElem?_eq_none (by omega)] at this; simp at this⟩
  | n + 1, i, hn => by
    rw [spansU]
    by_cases hi : i < L.length
    · rw [if_pos hi, List.find?_cons]
      have hge := endF_ge L i
      by_cases he : i = endF L i
      · have : (i == endF L i) = true := by rw [beq_iff_eq]; exact he
        simp only [this]
        refine .inr ⟨i, by rw [← he], Nat.le_refl _, ⟨?_, .inl rfl⟩, fun j h1 h2 => by omega⟩
        have := endF_out (L := L) (i := i) (by omega)
        rw [← he] at this; exact this
      · have : (i == endF L i) = false := by rw [beq_eq_false_iff_ne]; exact he
        simp only [this]
        have low : ∀ j, i ≤ j → j ≤ endF L i → ¬ Empt L i j := by
          intro j h1 h2 hE
          by_cases hj : j < endF L i
          · exact endF_in h1 hj hE.1
          · have hj' : j = endF L i := by omega
            subst hj'
            rcases hE.2 with h | h
            · omega
            · exact endF_in (i := i) (j := endF L i - 1) (by omega) (by omega) h
        have conv : ∀ j, endF L i + 1 ≤ j → (Empt L i j ↔ Empt L (endF L i + 1) j) := by
          intro j hj
          unfold Empt
          constructor
          · rintro ⟨h1, h2⟩
            refine ⟨h1, ?_⟩
            rcases h2 with h | h
            · omega
            · exact .inr h
          · rintro ⟨h1, h2⟩
            refine ⟨h1, .inr ?_⟩
            rcases h2 with h | h
            · subst h
              rw [Nat.add_sub_cancel]
              refine endF_out ?_
              have : endF L i + 1 < L.length := by
                rcases Nat.lt_or_ge (endF L i + 1) L.length with g | g
                · exact g
                · rw [List.getElem?_eq_none g] at h1; simp at h1
              omega
            · exact h
        rcases hd_go L n (endF L i + 1) (by omega) with ⟨h1, h2⟩ | ⟨h, h1, h2, h3, h4⟩
        · refine .inl ⟨h1, fun j hj hE => ?_⟩
          by_cases hj2 : j ≤ endF L i
          · exact low j hj hj2 hE
          · exact h2 j (by omega) ((conv j (by omega)).1 hE)
        · refine .inr ⟨h, h1, by omega, (conv h h2).2 h3, fun j hj hjh hE => ?_⟩
          by_cases hj2 : j ≤ endF L i
          · exact low j hj hj2 hE
          · exact h4 j (by omega) hjh ((conv j (by omega)).1 hE)
    · rw [if_neg hi]
      exact .inl ⟨rfl, fun j hj he => by have := he.1; rw [List.getElem?_eq_none (by omega)] at this; simp at this⟩
theorem occ_two (L : List UInt8) (i : Nat) : Lib.occAt L [10, 10] i = true ↔ L[i]? = some 10 ∧ L[i + 1]? = some 10 := by
  unfold Lib.occAt
  have h0 : L[i]? = (L.drop i)[0]? := by rw [List.getElem?_drop, Nat.add_zero]
  have h1 : L[i + 1]? = (L.drop i)[1]? := by rw [List.getElem?_drop]
  rw [h0, h1]
  generalize L.drop i = d
  match d with
  | [] => simp [List.isPrefixOf]
  | [a] => simp [List.isPrefixOf]
  | a :: b :: r =>
    simp [List.isPrefixOf]
    exact ⟨fun h => ⟨h.1.symm, h.2.symm⟩, fun h => ⟨h.1.symm, h.2.symm⟩⟩
/-- Both ways find the same line. -/
theorem newF_hd (L : List UInt8) : newF L = match hdF L with | some x => (L.take x.1, (x.1 : Int) + 1) | none => (L, -1) := by
  unfold newF hdF spans
  rcases hd_go L (L.length + 1) 0 (by omega) with ⟨h1, h2⟩ | ⟨h, h1, h2, h3, h4⟩
  · rw [h1]
    have a0 : ¬ L[0]? = some 10 := fun e => h2 0 (Nat.le_refl _) ⟨e, .inl rfl⟩
    rw [if_neg a0]
    have ai : Lib.index L [10, 10] = -1 := by
      apply Lib.index_none
      intro j hj
      rw [Bool.eq_false_iff]
      intro e
      obtain ⟨e1, e2⟩ := (occ_two L j).1 e
      exact h2 (j + 1) (by omega) ⟨e2, .inr e1⟩
    rw [ai, if_neg (by omega)]
  · rw [h1]
    by_cases a0 : L[0]? = some 10
    · rw [if_pos a0]
      have : h = 0 := by
        rcases Nat.eq_zero_or_pos h with g | g
        · exact g
        · exact absurd ⟨a0, .inl rfl⟩ (h4 0 (Nat.le_refl _) g)
      subst this; rfl
    · rw [if_neg a0]
      have hpos : 0 < h := by
        rcases Nat.eq_zero_or_pos h with g | g
        · subst g; exact absurd h3.1 a0
        · exact g
      have hp : L[h - 1]? = some 10 := by
        rcases h3.2 with g | g
        · omega
        · exact g
      have hlen : h - 1 < L.length := by
        rcases Nat.lt_or_ge (h - 1) L.length with g | g
        · exact g
        · rw [List.getElem?_eq_none g] at hp; simp at hp
      have ai : Lib.index L [10, 10] = ((h - 1 : Nat) : Int) := by
        refine Lib.index_first (by omega) ((occ_two L _).2 ⟨hp, by rw [show h - 1 + 1 = h from by omega]; exact h3.1⟩) ?_
        intro j hj
        rw [Bool.eq_false_iff]
        intro e
        obtain ⟨e1, e2⟩ := (occ_two L j).1 e
        exact h4 (j + 1) (by omega) (by omega) ⟨e2, .inr e1⟩
      rw [ai, if_pos (by omega), Int.toNat_natCast, show h - 1 + 1 = h from by omega, show ((h - 1 : Nat) : Int) + 2 = (h : Int) + 1 from by omega]
end Go.Proofs.YtcohgjdijhogbaaGreat
