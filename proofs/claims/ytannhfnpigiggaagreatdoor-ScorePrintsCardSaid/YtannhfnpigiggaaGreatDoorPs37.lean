/- Lemmas and walks, part 37. -/
import Derived.Test.YtannhfnpigiggaaGreatDoorPs1
import Derived.Lib.Replace
import Derived.Lib.CountLaws
import Derived.Lib.IndexBytes
namespace Go.Proofs.YtannhfnpigiggaaGreatDoor
set_option linter.unusedSimpArgs false
set_option linter.unusedVariables false

def repL (old new s : List UInt8) : List UInt8 := Lib.replaceK old new (Lib.count s old) s
theorem repL_nil {old new : List UInt8} (ho : old ≠ []) : repL old new [] = [] := by
  have h : Lib.index [] old = -1 := by
    cases old with
    | nil => exact absurd rfl ho
    | cons => rfl
  unfold repL; rw [Lib.count_miss h]; rfl
theorem repL_miss {old new : List UInt8} (ho : old ≠ []) (c : UInt8) (s : List UInt8) (h : old.isPrefixOf (c :: s) = false) : repL old new (c :: s) = c :: repL old new s := by
  have hi : Lib.index (c :: s) old = if Lib.index s old == -1 then -1 else Lib.index s old + 1 := by rw [Lib.index, h]; rfl
  by_cases hm : Lib.index s old = -1
  · have h2 : Lib.index (c :: s) old = -1 := by rw [hi, hm]; rfl
    unfold repL
    rw [Lib.count_miss h2, Lib.count_miss hm]; rfl
  · have hg := Lib.index_ge s old
    obtain ⟨i, hi2⟩ : ∃ i : Nat, Lib.index s old = (i : Int) := ⟨_, (Int.toNat_of_nonneg (by omega)).symm⟩
    have h2 : Lib.index (c :: s) old = ((i + 1 : Nat) : Int) := by
      rw [hi, hi2, if_neg (by simp)]; rfl
    unfold repL
    rw [Lib.count_hit ho h2, Lib.count_hit ho hi2, Nat.add_comm 1, Nat.add_comm 1, Lib.replaceK_hit _ _ _ _ _ h2, Lib.replaceK_hit _ _ _ _ _ hi2]
    rw [show i + 1 + old.length = (i + old.length) + 1 from by omega]
    simp
theorem repL_hit {old new : List UInt8} (ho : old ≠ []) (s : List UInt8) (h : old.isPrefixOf s = true) : repL old new s = new ++ repL old new (s.drop old.length) := by
  have hi : Lib.index s old = ((0 : Nat) : Int) := by
    cases s with
    | nil => cases old with
      | nil => exact absurd rfl ho
      | cons => simp at h
    | cons c r => rw [Lib.index, h]; rfl
  unfold repL
  rw [Lib.count_hit ho hi, Nat.add_comm 1, Lib.replaceK_hit _ _ _ _ _ hi]
  simp
def crlf : List UInt8 → List UInt8
  | [] => []
  | c :: r => if c = 10 then 13 :: 10 :: crlf r else c :: crlf r
def uncr (L : List UInt8) : List UInt8 := L.filter (· != 13)
theorem rep_crlf : ∀ L : List UInt8, repL [10] [13, 10] L = crlf L
  | [] => repL_nil (by simp)
  | c :: r => by
    rw [crlf]
    by_cases h : c = 10
    · rw [if_pos h, repL_hit (by simp) _ (by simp [h, List.isPrefixOf])]
      simp [rep_crlf r]
    · rw [if_neg h, repL_miss (by simp) _ _ (by simp [List.isPrefixOf]; exact fun e => h e.symm), rep_crlf r]
theorem rep_uncr : ∀ (n : Nat) (L : List UInt8), L.length ≤ n → (∀ i : Nat, L[i]? = some 13 → L[i + 1]? = some 10) → repL [13, 10] [10] L = uncr L
  | _, [], _, _ => repL_nil (by simp)
  | 0, c :: r, h, _ => by simp at h
  | n + 1, c :: r, hn, h => by
    simp only [List.length_cons] at hn
    by_cases hc : c = 13
    · have h1 := h 0 (by simp [hc])
      cases r with
      | nil => simp at h1
      | cons d r =>
        have hd : d = 10 := by simpa using h1
        subst hc; subst hd
        simp only [List.length_cons] at hn
        rw [repL_hit (by simp) _ (by simp [List.isPrefixOf])]
        have := rep_uncr n r (by omega) (fun i hi => by have := h (i + 2) (by simpa using hi); simpa using this)
        simp [uncr] at this ⊢
        exact this
    · rw [repL_miss (by simp) _ _ (by simp [List.isPrefixOf]; intro e; exact absurd e.symm hc)]
      rw [rep_uncr n r (by omega) (fun i hi => by have := h (i + 1) (by simpa using hi); simpa using this)]
      simp [uncr, hc]
/-- The first place at which a line end is broken; p: the byte before is a carriage return. -/
def fbL (p : Bool) (i : Nat) : List UInt8 → Option Nat
  | [] => none
  | c :: r => if (c = 13 ∧ r.head? ≠ some 10) ∨ (c = 10 ∧ p = false) then some i else fbL (c == 13) (i + 1) r
theorem fb_next : ∀ (p : Bool) (i : Nat) (L : List UInt8), fbL p i L = none → ∀ k : Nat, L[k]? = some 13 → L[k + 1]? = some 10
  | _, _, [], _, k, hk => by simp at hk
  | p, i, c :: r, h, 0, hk => by
    have hc : c = 13 := by simpa using hk
    rw [fbL] at h
    split at h
    · cases h
    · rename_i hn
      have : r.head? = some 10 := by
        by_cases e : r.head? = some 10
        · exact e
        · exact absurd (.inl ⟨hc, e⟩) hn
      cases r with
      | nil => simp at this
      | cons d r => simpa using this
  | p, i, c :: r, h, k + 1, hk => by
    rw [fbL] at h
    split at h
    · cases h
    · have := fb_next _ _ r h k (by simpa using hk)
      simpa using this
theorem fb_crlf : ∀ (M : List UInt8) (p : Bool) (i : Nat), (∀ c ∈ M, c ≠ 13) → fbL p i (crlf M) = none
  | [], _, _, _ => rfl
  | c :: r, p, i, h => by
    rw [crlf]
    by_cases hc : c = 10
    · rw [if_pos hc, fbL, if_neg (by simp), fbL, if_neg (by simp)]
      exact fb_crlf r _ _ (fun d hd => h d (by simp [hd]))
    · have h13 := h c (by simp)
      rw [if_neg hc, fbL, if_neg (by rintro (e | e); exact h13 e.1; exact hc e.1)]
      exact fb_crlf r _ _ (fun d hd => h d (by simp [hd]))
theorem uncr_crlf : ∀ (M : List UInt8), (∀ c ∈ M, c ≠ 13) → uncr (crlf M) = M
  | [], _ => rfl
  | c :: r, h => by
    have ih := uncr_crlf r (fun d hd => h d (by simp [hd]))
    have h13 := h c (by simp)
    rw [crlf]
    unfold uncr at *
    by_cases hc : c = 10
    · rw [if_pos hc]; simp [ih, hc]
    · rw [if_neg hc]; simp [ih, h13]
theorem crlf_uncr : ∀ (n : Nat) (L : List UInt8) (i : Nat), L.length ≤ n → fbL false i L = none → crlf (uncr L) = L
  | _, [], _, _, _ => rfl
  | 0, c :: r, _, h, _ => by simp at h
  | n + 1, c :: r, i, hn, h => by
    simp only [List.length_cons] at hn
    rw [fbL] at h
    split at h
    · cases h
    · rename_i hb
      by_cases hc : c = 13
      · cases r with
        | nil => exact absurd (.inl ⟨hc, by simp⟩) hb
        | cons d r =>
          have hd : d = 10 := by
            by_cases e : d = 10
            · exact e
            · exact absurd (.inl ⟨hc, by simpa using e⟩) hb
          subst hc; subst hd
          simp only [List.length_cons] at hn
          rw [fbL] at h
          split at h
          · cases h
          · have ih := crlf_uncr n r _ (by omega) h
            have e : uncr (13 :: 10 :: r) = 10 :: uncr r := by simp [uncr]
            rw [e, crlf, if_pos rfl, ih]
      · have h10 : c ≠ 10 := fun e => hb (.inr ⟨e, rfl⟩)
        rw [show (c == 13) = false from by simpa using hc] at h
        have ih := crlf_uncr n r _ (by omega) h
        have e : uncr (c :: r) = c :: uncr r := by simp [uncr, hc]
        rw [e, crlf, if_neg h10, ih]
theorem crlf_len (L : List UInt8) : (crlf L).length ≤ 2 * L.length := by
  induction L with
  | nil => simp [crlf]
  | cons c r ih => rw [crlf]; split <;> simp <;> omega
theorem uncr_len (L : List UInt8) : (uncr L).length ≤ L.length := List.length_filter_le _ _
def lastOk (L : List UInt8) : Bool := match L.getLast? with
  | none => true
  | some c => c == 10
theorem last_crlf : ∀ L : List UInt8, (crlf L).getLast? = L.getLast?
  | [] => rfl
  | [c] => by rw [crlf]; split <;> simp_all [crlf]
  | c :: d :: r => by
    have ih := last_crlf (d :: r)
    have hne : crlf (d :: r) ≠ [] := by rw [crlf]; split <;> simp
    rw [crlf, List.getLast?_cons_cons, ← ih]
    split
    · rw [List.getLast?_cons_cons, List.getLast?_cons_of_ne_nil hne]
    · rw [List.getLast?_cons_of_ne_nil hne]
def tlF (L : List UInt8) : List UInt8 × Int := if 65536 < L.length then ([], 5) else if L.contains 13 then ([], 6) else if lastOk L = false then ([], 4) else (crlf L, 0)
structure FlR where
  text : List UInt8
  at_ : Nat
  e : Int
def flF (L : List UInt8) : FlR :=
  if 131072 < L.length then ⟨[], 131072, 5⟩ else match fbL false 0 L with
  | some i => ⟨[], i, 3⟩
  | none => if lastOk L = false then ⟨[], L.length, 4⟩ else if 65536 < (uncr L).length then ⟨[], 0, 5⟩ else ⟨uncr L, 0, 0⟩
theorem tl_fl {L : List UInt8} (h : (tlF L).2 = 0) : (flF (tlF L).1) = ⟨L, 0, 0⟩ := by
  unfold tlF at h ⊢
  by_cases h1 : 65536 < L.length
  · rw [if_pos h1] at h; simp at h
  · rw [if_neg h1] at h ⊢
    by_cases h2 : L.contains 13 = true
    · rw [if_pos h2] at h; simp at h
    · rw [if_neg h2] at h ⊢
      by_cases h3 : lastOk L = false
      · rw [if_pos h3] at h; simp at h
      · rw [if_neg h3]
        have hno : ∀ c ∈ L, c ≠ 13 := fun c hc e => h2 (by rw [List.contains_iff_mem]; exact e ▸ hc)
        have hl := crlf_len L
        have h4 : lastOk (crlf L) = lastOk L := by unfold lastOk; rw [last_crlf]
        unfold flF
        simp only
        rw [if_neg (by omega), fb_crlf L false 0 hno]
        simp only
        rw [h4, if_neg h3, uncr_crlf L hno, if_neg (by omega)]
theorem fl_tl {L : List UInt8} (h : (flF L).e = 0) : tlF (flF L).text = (L, 0) := by
  unfold flF at h ⊢
  by_cases h1 : 131072 < L.length
  · rw [if_pos h1] at h; simp at h
  · rw [if_neg h1] at h ⊢
    cases hf : fbL false 0 L with
    | some i => rw [hf] at h; simp at h
    | none =>
      rw [hf] at h
      simp only at h ⊢
      by_cases h3 : lastOk L = false
      · rw [if_pos h3] at h; simp at h
      · rw [if_neg h3] at h ⊢
        by_cases h4 : 65536 < (uncr L).length
        · rw [if_pos h4] at h; simp at h
        · rw [if_neg h4]
          have hc := crlf_uncr L.length L 0 (Nat.le_refl _) hf
          have h5 : lastOk (uncr L) = lastOk L := by
            have := last_crlf (uncr L)
            rw [hc] at this
            unfold lastOk; rw [this]
          unfold tlF
          simp only
          rw [if_neg h4, if_neg (by rw [List.contains_iff_mem]; unfold uncr; simp), h5, if_neg h3, hc]
end Go.Proofs.YtannhfnpigiggaaGreatDoor
