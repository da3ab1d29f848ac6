/- Lemmas and walks, part 24. -/
import Derived.Test.YtghjgbkhhoaebaaGreatDoorPo20
import Derived.Laws.EntriesVeiled
namespace Go.Proofs.YtghjgbkhhoaebaaGreatDoor
set_option linter.unusedSimpArgs false
set_option linter.unusedVariables false
open Go.RowKit Go.Shelf
attribute [local go_sem] Oper.semAt_some

theorem quo_cat1 (x : ByteArray) : (⟨#[62]⟩ : ByteArray) ++ x = ofL (62 :: toL x) := by rw [← ofL_toL x, show (⟨#[62]⟩ : ByteArray) = ofL [62] from rfl, ofL_append, toL_ofL]; rfl
theorem quo_cat2 (x : ByteArray) : (⟨#[62, 32]⟩ : ByteArray) ++ x = ofL (62 :: 32 :: toL x) := by rw [← ofL_toL x, show (⟨#[62, 32]⟩ : ByteArray) = ofL [62, 32] from rfl, ofL_append, toL_ofL]; rfl
structure QuX (b : Nat) (c : Code) (pre : List (LnT 10000)) (W : World) : Prop where
  ret : c = .ret
  stop : QuoEnd (txL pre)
  r1 : Boxed W b 9 (.string ⟨#[]⟩)
  r2 : Boxed W (b + 1) 28 (.int .i64 5)
theorem QuX.own (b : Nat) (c : Code) : Own (QuX b c) := fun _ _ _ _ hs hg hr => ⟨hs.ret, hs.stop, bx_own hs.r1 hg hr, bx_own hs.r2 hg hr⟩
end Go.Proofs.YtghjgbkhhoaebaaGreatDoor

namespace Go.Proofs.YtghjgbkhhoaebaaGreatDoor
set_option linter.unusedSimpArgs false
set_option linter.unusedVariables false
open Go.RowKit

theorem lines_len (L : List UInt8) : (linesF L).length ≤ L.length + 1 := by
  unfold linesF spans; rw [List.length_map]; exact spans_len _ _ _
theorem cut_le (L : List UInt8) (a b : Nat) : (cutL L a b).length ≤ L.length := by
  unfold cutL; rw [List.length_take, List.length_drop]; omega
theorem line_le {L x : List UInt8} (h : x ∈ linesF L) : x.length ≤ L.length := by
  unfold linesF at h
  obtain ⟨p, _, rfl⟩ := List.mem_map.1 h
  exact cut_le _ _ _
end Go.Proofs.YtghjgbkhhoaebaaGreatDoor
