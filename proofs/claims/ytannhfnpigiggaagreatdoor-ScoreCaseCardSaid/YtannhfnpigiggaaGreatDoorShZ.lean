/- What the laws over texts and an input share. -/
import Derived.Test.YtannhfnpigiggaaGreatDoorPs40
import Derived.Test.YtannhfnpigiggaaGreatDoorShY
import Derived.Deep.RegionHeld3
namespace Go.Proofs.YtannhfnpigiggaaGreatDoor
set_option linter.unusedSimpArgs false
set_option linter.unusedVariables false
open Go.RowKit

theorem nz_rules : ∀ (ls : List Bs) (i n : Nat) (f : Nat × Nat × Int), rulesG ls i n = .error f → f.2.2 ≠ 0
  | [], i, n, f, h => by unfold rulesG at h; cases h
  | x :: r, i, n, f, h => by
    unfold rulesG at h
    split at h
    · exact nz_rules r (i + 1) n f h
    · split at h
      · rename_i g hg
        injection h with h; subst h; exact nz_line hg
      · split at h
        · rename_i g hg
          injection h with h; subst h; exact nz_rules r (i + 1) (n + 1) _ hg
        · cases h
theorem nz_parse {L : Bs} {f : Nat × Nat × Int} (h : parseG L = .error f) : f.2.2 ≠ 0 := by
  unfold parseG at h
  split at h
  · injection h with h; subst h; simp
  · exact nz_rules _ _ _ _ h
theorem pa_any (s : ByteArray) (w : World) (hsh : w.ShapedOpen Tryz.prog) : Calls Tryz.prog 11 #[.string s] w fun e w' => ∃ (p : Option Addr) (i j k : Int), e = .returned (.tuple #[.pointer p, .int .i64 i, .int .i64 j, .int .i64 k]) ∧ Below w.heap.size w w' := by
  refine (sc_parse s w hsh).mono fun e w' hp => ?_
  have hr := hp.res
  cases h : parseG (toL s) with
  | error f => rw [h] at hr; exact ⟨_, _, _, _, hr, hp.bel⟩
  | ok l => rw [h] at hr; obtain ⟨rb, h1, _⟩ := hr; exact ⟨_, _, _, _, h1, hp.bel⟩
theorem parse_few {L : Bs} {l : List RuleS} (h : parseG L = .ok l) : l.length ≤ 200 := by
  unfold parseG at h
  split at h
  · cases h
  · have := rulesG_few _ _ _ _ (Nat.zero_le 200) h; omega
theorem fld_res2 (a b c d : Value) (w : World) : (Instr.field 39 (.agg #[a, b, c, d]) 2).run Tryz.prog w = .ok c w := by kernel_rfl
end Go.Proofs.YtannhfnpigiggaaGreatDoor
