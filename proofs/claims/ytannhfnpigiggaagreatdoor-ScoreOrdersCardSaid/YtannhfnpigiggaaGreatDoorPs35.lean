/- Lemmas and walks, part 35. -/
import Derived.Test.YtannhfnpigiggaaGreatDoorPs28
import Derived.Test.YtannhfnpigiggaaGreatDoorPs17
import Derived.Test.YtannhfnpigiggaaGreatDoorPs34
namespace Go.Proofs.YtannhfnpigiggaaGreatDoor
set_option linter.unusedSimpArgs false
set_option linter.unusedVariables false

/-- The rules of a text. -/
def parseG (L : Bs) : Except (Nat × Nat × Int) (List RuleS) := if 65536 < L.length then .error (0, 0, 5) else rulesG (linesM L) 0 0
end Go.Proofs.YtannhfnpigiggaaGreatDoor

namespace Go.Proofs.YtannhfnpigiggaaGreatDoor
set_option linter.unusedSimpArgs false
set_option linter.unusedVariables false
open Go.Lib (decDigits)

theorem decI_len {m : Int} (h : -10000 ≤ m ∧ m ≤ 10000) : (decI m).length ≤ 6 := by
  unfold decI
  split
  · have := dec_len_lt 4 m.natAbs (by omega); simp only [List.length_cons]; omega
  · have := dec_len_lt 4 m.toNat (by omega); omega
theorem acts_len {o : Bs} (h : o ∈ actsL) : o.length ≤ 5 := by
  have : ∀ x ∈ actsL, x.length ≤ 5 := by decide
  exact this o h
def tilL (u : Option Nat) : Bs := match u with
  | none => []
  | some n => [32, 117, 110, 116, 105, 108, 32] ++ decDigits n
def condL (c : Option Cond) : Bs := match c with
  | none => []
  | some c => [32, 105, 102, 32] ++ printF c
theorem printR_eq (r : RuleS) : printR r = r.act ++ ((if r.act = yPlus ∨ r.act = yMinus ∨ r.act = yEq then decI r.amt else []) ++ (tilL r.til ++ condL r.cond)) := rfl
/-- A rule that was read from a line. -/
theorem lineF_ok {L : Bs} {n : Nat} {r : RuleS} (h : lineF L n = .ok r) : n < 200 ∧ ∃ ts, toksF L = .ok ts ∧ ruleF ts = .ok r := by
  unfold lineF at h
  obtain ⟨ts, h1, h⟩ := bindE_ok h
  split at h
  · cases h
  · exact ⟨by omega, ts, h1, h⟩
end Go.Proofs.YtannhfnpigiggaaGreatDoor

namespace Go.Proofs.YtannhfnpigiggaaGreatDoor
set_option linter.unusedSimpArgs false
set_option linter.unusedVariables false

theorem bindE_err {α β : Type} {x : Except Fl α} {k : α → Except Fl β} {f : Fl} (h : bindE x k = .error f) : x = .error f ∨ ∃ a, x = .ok a ∧ k a = .error f := by
  cases x with
  | error g => exact .inl (by injection h with h; rw [h])
  | ok a => exact .inr ⟨a, rfl, h⟩
def Nz {α : Type} (p : Pr α) : Prop := ∀ ts f, p ts = .error f → f.2 ≠ 0
theorem nz_one (l : List Bs) : Nz (oneF l) := by
  intro ts f h
  cases ts with
  | nil => injection h with h; subst h; simp
  | cons t r =>
    unfold oneF at h
    simp only at h
    split at h
    · cases h
    · injection h with h; subst h; simp
theorem nz_num (m : Nat) : Nz (numF m) := by
  intro ts f h
  cases ts with
  | nil => injection h with h; subst h; simp
  | cons t r =>
    unfold numF at h
    simp only at h
    split at h
    · injection h with h; subst h; simp
    · split at h
      · injection h with h; subst h; simp
      · cases h
theorem nz_quo : Nz quoF := by
  intro ts f h
  cases ts with
  | nil => injection h with h; subst h; simp
  | cons t r =>
    unfold quoF at h
    simp only at h
    split at h
    · injection h with h; subst h; simp
    · cases h
theorem nz_who : Nz whoF := by
  intro ts f h
  rw [whoF_eq] at h
  rcases bindE_err h with h | ⟨a, _, h⟩
  · exact nz_one _ _ _ h
  rcases bindE_err h with h | ⟨b, _, h⟩
  · exact nz_one _ _ _ h
  rcases bindE_err h with h | ⟨c, _, h⟩
  · exact nz_quo _ _ h
  split at h
  · split at h
    · injection h with h; subst h; simp
    · cases h
  · split at h
    · cases h
    · injection h with h; subst h; simp
theorem nz_test : Nz testF := by
  intro ts f h
  cases ts with
  | nil => injection h with h; subst h; simp
  | cons t r =>
    unfold testF at h
    simp only at h
    split at h
    · injection h with h; subst h; simp
    · split at h
      · rcases bindE_err h with h | ⟨a, _, h⟩
        · exact nz_one _ _ _ h
        rcases bindE_err h with h | ⟨b, _, h⟩
        · exact nz_num _ _ _ h
        cases h
      · split at h
        · rcases bindE_err h with h | ⟨a, _, h⟩
          · exact nz_one _ _ _ h
          rcases bindE_err h with h | ⟨b, _, h⟩
          · exact nz_quo _ _ h
          cases h
        · exact nz_who _ _ h
theorem nz_more (word : Bs) {p : Pr Cond} (hp : Nz p) : ∀ g, Nz (moreF word p g)
  | 0, ts, f, h => by unfold moreF at h; cases h
  | g + 1, ts, f, h => by
    unfold moreF at h
    split at h
    · rcases bindE_err h with h | ⟨a, _, h⟩
      · exact hp _ _ h
      rcases bindE_err h with h | ⟨b, _, h⟩
      · exact nz_more word hp g _ _ h
      cases h
    · cases h
theorem nz_list (word : Bs) (mk : List Cond → Cond) {p : Pr Cond} (hp : Nz p) : Nz (listC word mk p) := by
  intro ts f h
  unfold listC at h
  rcases bindE_err h with h | ⟨a, _, h⟩
  · exact hp _ _ h
  rcases bindE_err h with h | ⟨b, _, h⟩
  · exact nz_more word hp _ _ _ h
  cases h
theorem nz_single : ∀ n, Nz (singleF n)
  | n, ts, f, h => by
    unfold singleF at h
    split at h
    · exact nz_test _ _ h
    · cases n with
      | zero => injection h with h; subst h; simp
      | succ n =>
        simp only at h
        split at h
        · rcases bindE_err h with h | ⟨a, _, h⟩
          · exact nz_single n _ _ h
          cases h
        · rcases bindE_err h with h | ⟨a, _, h⟩
          · exact nz_list _ _ (nz_list _ _ (nz_single n)) _ _ h
          rcases bindE_err h with h | ⟨b, _, h⟩
          · exact nz_one _ _ _ h
          cases h
theorem nz_rule : ∀ ts f, ruleF ts = .error f → f.2 ≠ 0 := by
  intro ts f h
  unfold ruleF at h
  rcases bindE_err h with h | ⟨a, _, h⟩
  · exact nz_one _ _ _ h
  rcases bindE_err h with h | ⟨b, _, h⟩
  · unfold amtF at h
    split at h
    · rcases bindE_err h with h | ⟨c, _, h⟩
      · exact nz_num _ _ _ h
      cases h
    · split at h
      · split at h
        · rcases bindE_err h with h | ⟨c, _, h⟩
          · exact nz_num _ _ _ h
          cases h
        · rcases bindE_err h with h | ⟨c, _, h⟩
          · exact nz_num _ _ _ h
          cases h
      · cases h
  rcases bindE_err h with h | ⟨c, _, h⟩
  · unfold tilF at h
    split at h
    · rcases bindE_err h with h | ⟨d, _, h⟩
      · exact nz_num _ _ _ h
      cases h
    · cases h
  rcases bindE_err h with h | ⟨d, _, h⟩
  · unfold ifF at h
    split at h
    · rcases bindE_err h with h | ⟨e, _, h⟩
      · exact nz_list _ _ (nz_list _ _ (nz_single 32)) _ _ h
      cases h
    · cases h
  split at h
  · cases h
  · injection h with h; subst h; simp
theorem nz_tok {L : Bs} {col : Nat} {f : Fl} (h : tokT L col = .error f) : f.2 ≠ 0 := by
  unfold tokT at h
  split at h
  · injection h with h; subst h; simp
  · split at h
    · cases h
    · split at h
      · split at h
        · rename_i hn
          injection h with h; subst h; exact hn
        · cases h
      · split at h
        · unfold strT at h
          split at h
          · injection h with h; subst h; simp
          · simp only at h
            split at h
            · injection h with h; subst h; simp
            · split at h
              · injection h with h; subst h; simp
              · split at h
                · injection h with h; subst h; simp
                · cases h
        · unfold symT at h
          split at h
          · cases h
          · injection h with h; subst h; simp
theorem nz_toks : ∀ (g : Nat) (L : Bs) (i : Nat) (f : Fl), toksG g L i = .error f → f.2 ≠ 0
  | 0, L, i, f, h => by unfold toksG at h; cases h
  | g + 1, [], i, f, h => by unfold toksG at h; cases h
  | g + 1, c :: r, i, f, h => by
    unfold toksG at h
    simp only at h
    split at h
    · exact nz_toks g r (i + 1) f h
    · split at h
      · rename_i ht
        injection h with h; subst h; exact nz_tok ht
      · split at h
        · rename_i hh
          injection h with h; subst h; exact nz_toks g _ _ _ hh
        · cases h
theorem nz_line {L : Bs} {n : Nat} {f : Fl} (h : lineF L n = .error f) : f.2 ≠ 0 := by
  unfold lineF at h
  rcases bindE_err h with h | ⟨ts, _, h⟩
  · exact nz_toks _ _ _ _ h
  · split at h
    · injection h with h; subst h; simp
    · exact nz_rule _ _ h
end Go.Proofs.YtannhfnpigiggaaGreatDoor

namespace Go.Proofs.YtannhfnpigiggaaGreatDoor
set_option linter.unusedSimpArgs false
set_option linter.unusedVariables false
open Go.Lib (decDigits)

def kT1 : Bs := [43, 49, 48, 32, 105, 102, 32, 115, 117, 98, 106, 101, 99, 116, 32, 104, 97, 115, 32, 34, 103, 111, 34, 32, 97, 110, 100, 32, 110, 111, 116, 32, 40, 97, 103, 101, 32, 62, 32, 49, 52, 52, 48, 32, 111, 114, 32, 108, 105, 110, 101, 115, 32, 60, 32, 51, 41, 10]
def kT2 : Bs := [107, 105, 108, 108, 32, 105, 102, 32, 40, 40, 110, 97, 109, 101, 32, 105, 115, 32, 34, 120, 34, 41, 41]
def kT3 : Bs := [10, 35, 32, 120, 10, 107, 105, 108]
def kT4 : Bs := [43, 53, 32, 105, 102]
def kP2 : Bs := [107, 105, 108, 108, 32, 105, 102, 32, 110, 97, 109, 101, 32, 105, 115, 32, 34, 120, 34, 10]
def kL1 : List RuleS := [⟨[43], 10, none, some (.both [.txt wSubject wHas [103, 111], .neg (.either [.cmp wAge [62] 1440, .cmp wLines [60] 3])])⟩]
def kL2 : List RuleS := [⟨wKill, 0, none, some (.txt wName wIs [120])⟩]
def kX : InS := ⟨[], [71, 111, 112, 104, 101, 114, 115], [], List.replicate 16 0, [], 5, 0, 9, 0, 0⟩
theorem kn1 : parseG kT1 = .ok kL1 := by kernel_rfl
theorem kn2 : parseG kT2 = .ok kL2 := by kernel_rfl
theorem kn3 : parseG kT3 = .error (3, 1, 29) := by kernel_rfl
theorem kn4 : parseG kT4 = .error (1, 6, 29) := by kernel_rfl
theorem kd10 : decDigits 10 = [49, 48] := dec_val [49, 48] (by decide)
theorem kd1440 : decDigits 1440 = [49, 52, 52, 48] := dec_val [49, 52, 52, 48] (by decide)
theorem kd3 : decDigits 3 = [51] := dec_val [51] (by decide)
theorem kpr1 : printRs kL1 = kT1 := by
  have e : printRs kL1 = printR kL1[0] ++ [10] := by simp [printRs, kL1]
  rw [e]
  simp [kL1, printR, printF, printAnd, printOr, isOr, isList, decI, kd10, kd1440, kd3]
  decide
theorem kpr2 : printRs kL2 = kP2 := by kernel_rfl
theorem krt : rateF kL1 kX = ⟨10, false, false, 1⟩ := by kernel_rfl
end Go.Proofs.YtannhfnpigiggaaGreatDoor
