/- Lemmas and walks, part 28. -/
import Derived.Test.YtghjgbkhhoaebaaGreatDoorPo27
import Derived.Test.YtghjgbkhhoaebaaGreatDoorShelf
import Derived.Test.YtghjgbkhhoaebaaGreatDoorPo4
namespace Go.Proofs.YtghjgbkhhoaebaaGreatDoor
set_option linter.unusedSimpArgs false
set_option linter.unusedVariables false
open Go.RowKit

def okPrint (c : Int) : Bool := isVisible c || (c == 32)
/-- Where the first byte lies that is neither visible nor a space, or -1. -/
def printable (l : List UInt8) : Int := findI (fun c => !okPrint (num c)) l 0

theorem findI_skip (p : Int → Bool) (l : List UInt8) : ∀ k : Nat, findI (fun c => !p (num c)) l k = if (l.takeWhile fun c => p (num c)).length = l.length then -1 else ((k + (l.takeWhile fun c => p (num c)).length : Nat) : Int) := by
  induction l with
  | nil => intro k; simp [findI]
  | cons c r ih =>
    intro k
    by_cases h : p (num c) = true
    · simp only [findI, h, Bool.not_true, Bool.false_eq_true, if_false, ih (k + 1), List.takeWhile_cons, if_true, List.length_cons]
      split
      · rw [if_pos (by omega)]
      · rw [if_neg (by omega)]; congr 1; omega
    · have h' : p (num c) = false := by simpa using h
      simp [findI, h']
theorem printable_skip (l : List UInt8) : printable l = if skipFrom okPrint l 0 = l.length then -1 else (skipFrom okPrint l 0 : Int) := by
  rw [printable, findI_skip, skipFrom]; simp

end Go.Proofs.YtghjgbkhhoaebaaGreatDoor

namespace Go.Proofs.YtghjgbkhhoaebaaGreatDoor
set_option linter.unusedSimpArgs false
set_option linter.unusedVariables false
open Go.RowKit

/-- A function value that answers p of a string; it may make memory, but turns nothing that was there. -/
structure StrPred (f : Nat) (caps : Array Value) (p : List UInt8 → Bool) (I : World → Prop) : Prop where
  enters : ∀ args w, (callFunc f args).run Tryz.prog w = .ok (.enter f args) w
  calls : ∀ (s : ByteArray) (w : World), I w → s.size ≤ maxLen → Calls Tryz.prog f (#[.string s] ++ caps) w fun e w' => e = .returned (.bool (p (toL s))) ∧ Below w.heap.size w w'
  keeps : ∀ w w', I w → Below w.heap.size w w' → I w'

set_option maxHeartbeats 1000000 in
theorem sl_indexFunc_str (f : Nat) (caps : Array Value) (p : List UInt8 → Bool) (I : World → Prop) (hf : StrPred f caps p I) (A : Option Addr) (l : List (List UInt8)) (c : Nat) (w : World) (hl : l.length ≤ 10000000) (hr : Row w A (strsL l)) (hI : I w) (hle : ∀ x ∈ l, x.length ≤ maxLen) :
    Calls Tryz.prog 95 #[.slice A l.length c, .func (.func f) #[] caps] w fun e w' => e = .returned (.int .i64 (findI p l 0)) ∧ Below w.heap.size w w' := by
  have he := hf.enters
  have HLE := Lib.hid hle; clear hle
  have HR := Lib.hid hr; clear hr
  have HI := Lib.hid hI; clear hI
  go_enter Tryz.func95, Tryz.ntmps95
  go_wp2_with fail
  go_loopw [8, 5] (fun v _ wr => ∃ k : Nat, k ≤ l.length ∧ findI p l 0 = findI p (l.drop k) k ∧ v = .int .i64 k ∧ Below w.heap.size w wr) (fun v _ _ => l.length - (intOf v).toNat)
  case atStart => exact ⟨0, by omega, rfl, rfl, Below.refl _ _⟩
  case round =>
    obtain ⟨k, hk, heq, rfl, hb⟩ := hrel
    by_cases hlt : k < l.length
    · obtain ⟨b, off, rfl, hc⟩ := (HR.out.below hb).cell (k := k) (by simpa using hlt)
      rw [List.getElem_map] at hc
      rw [List.drop_eq_getElem_cons hlt, findI] at heq
      have HQ := Lib.hid heq; clear heq
      have hx : (ofL l[k]).size ≤ maxLen := by rw [ofL_size]; exact HLE.out _ (List.getElem_mem hlt)
      rcases hp : p l[k] with _ | _
      · go_wp2_with fail
        refine (hf.calls (ofL l[k]) wr (hf.keeps _ _ HI.out hb) hx).mono ?_
        rintro e w2 ⟨rfl, hb2⟩
        rw [toL_ofL]
        go_wp2_with fail
        go_roundw
        case rel => exact ⟨k + 1, by omega, by rw [HQ.out, if_neg (by simp [hp])], by go_num, hb.trans (hb2.mono hb.size)⟩
        case measure => simp [intOf] <;> omega
      · go_wp2_with fail
        refine (hf.calls (ofL l[k]) wr (hf.keeps _ _ HI.out hb) hx).mono ?_
        rintro e w2 ⟨rfl, hb2⟩
        rw [toL_ofL]
        go_wp2_with fail
        go_ret
        exact ⟨ret_int (by rw [HQ.out, if_pos hp]), hb.trans (hb2.mono hb.size)⟩
    · have hd : l.drop k = [] := List.drop_eq_nil_of_le (by omega)
      rw [hd, findI] at heq
      have HQ := Lib.hid heq; clear heq hd
      go_wp2_with fail
      go_ret
      exact ⟨ret_int (by rw [HQ.out]), hb⟩

set_option maxHeartbeats 400000 in
theorem sl_containsFunc_str (f : Nat) (caps : Array Value) (p : List UInt8 → Bool) (I : World → Prop) (hf : StrPred f caps p I) (A : Option Addr) (l : List (List UInt8)) (c : Nat) (w : World) (hl : l.length ≤ 10000000) (hr : Row w A (strsL l)) (hI : I w) (hle : ∀ x ∈ l, x.length ≤ maxLen) :
    Calls Tryz.prog 58 #[.slice A l.length c, .func (.func f) #[] caps] w fun e w' => e = .returned (.bool (l.any p)) ∧ Below w.heap.size w w' := by
  have H := Lib.hid (sl_indexFunc_str f caps p I hf A l c w hl hr hI hle)
  clear hr hI hle
  go_enter Tryz.func58, Tryz.ntmps58
  go_wp2_with (refine H.out.mono ?_; rintro e w' ⟨rfl, hb⟩)
  go_ret
  exact ⟨ret_bool (findI_geq _ _ _), hb⟩

end Go.Proofs.YtghjgbkhhoaebaaGreatDoor

namespace Go.Proofs.YtghjgbkhhoaebaaGreatDoor
set_option linter.unusedSimpArgs false
set_option linter.unusedVariables false
open Go.RowKit

/-- The first error of a field. -/
def checkF (name body : List UInt8) : Int :=
  if validName name = false then 12
  else if 0 ≤ printable body then 6
  else if squeeze body ≠ body then 3
  else if 8192 < body.length ∨ (words body).any (fun x => decide (900 < x.length)) = true then 5
  else 0

theorem words_mem_le (l x : List UInt8) (h : x ∈ words l) : x.length ≤ l.length := by
  have h1 := joinSp_mem_le _ _ h
  have h2 := squeeze_le l
  unfold squeeze at h2; omega

theorem any_drop_step {p : List UInt8 → Bool} {l : List (List UInt8)} {k : Nat} (h : k < l.length) (hp : p l[k] = false) (hq : l.any p = (l.drop k).any p) : l.any p = (l.drop (k + 1)).any p := by
  rw [hq, List.drop_eq_getElem_cons h, List.any_cons, hp]; simp
theorem any_drop_hit {p : List UInt8 → Bool} {l : List (List UInt8)} {k : Nat} (h : k < l.length) (hp : p l[k] = true) : l.any p = true :=
  List.any_eq_true.2 ⟨_, List.getElem_mem h, hp⟩

end Go.Proofs.YtghjgbkhhoaebaaGreatDoor
