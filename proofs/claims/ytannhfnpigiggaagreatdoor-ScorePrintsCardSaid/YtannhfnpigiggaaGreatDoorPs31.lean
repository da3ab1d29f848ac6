/- Lemmas and walks, part 31. -/
import Derived.Test.YtannhfnpigiggaaGreatDoorPs30
import Derived.Test.YtannhfnpigiggaaGreatDoorShelf
namespace Go.Proofs.YtannhfnpigiggaaGreatDoor
set_option linter.unusedSimpArgs false
set_option linter.unusedVariables false
open Go.RowKit

theorem join_call (v : Value) (l : List (List UInt8)) (w : World) (base : Nat) (hown : w.ownsRow base 9 1 v l.length (strsL l)) (hl : l.length ≤ 10000000) (hj : (joinSp l).length ≤ 10000000) :
    Calls Tryz.prog 112 #[v, .string ⟨#[32]⟩] w fun e w' => e = .returned (.string (ofL (joinSp l))) ∧ Below w.heap.size w w' := by
  rcases own_form hown with ⟨rfl, h0⟩ | ⟨g, cap, rfl, hg, hlt, hcap, hc⟩
  · have e : l = [] := List.eq_nil_of_length_eq_zero h0
    subst e
    refine (Tryz.strings_Join_none none 0 ⟨#[32]⟩ w).mono ?_
    rintro e w' ⟨rfl, rfl⟩
    exact ⟨rfl, Below.refl _ _⟩
  · by_cases h0 : l = []
    · subst h0
      refine (Tryz.strings_Join_none (some ⟨g, 0, none⟩) cap ⟨#[32]⟩ w).mono ?_
      rintro e w' ⟨rfl, rfl⟩
      exact ⟨rfl, Below.refl _ _⟩
    · have hjn : Lib.join ((l.map ofL).map (fun x => x.data.toList)) ((ByteArray.mk #[32]).data.toList) = joinSp l := by
        rw [List.map_map, ← joinSp_inter]
        have : ((fun x : ByteArray => x.data.toList) ∘ ofL) = id := rfl
        rw [this, List.map_id]; rfl
      have h := Tryz.strings_Join g 0 cap (l.map ofL) ⟨#[32]⟩ w (fun j x hx => by
          rw [Nat.zero_add]
          refine hc j _ ?_
          rw [List.getElem?_map] at hx ⊢
          cases hlj : l[j]? with
          | none => rw [hlj] at hx; cases hx
          | some y => rw [hlj] at hx; simp at hx; subst hx; rfl) hlt (by rw [List.length_map]; omega) (by rw [List.length_map]; exact hcap) (by rw [hjn]; omega)
      rw [hjn, List.length_map] at h
      exact h

def okPrint (c : Int) : Bool := isVisible c || (c == 32)
/-- Where the first byte lies that is neither visible nor a space, or -1. -/
def printable (l : List UInt8) : Int := findI (fun c => !okPrint (num c)) l 0

theorem findI_skip (p : Int → Bool) (l : List UInt8) : ∀ k : Nat, findI (fun c => !p (num c)) l k = if (l.takeWhile fun c => p (num c)).length = l.length then -1 else ((k + (l.takeWhile fun c => p (num c)).length : Nat) : Int) := by
  induction l with
  | nil => intro k; simp [findI]
  | cons c r ih =>
    intro k
    by_cases h : p (num c) = true
    · simp only [findI, h, Bool.not_true, Bool.false_eq_true, if_false, ih (k + 1), List.takeWhile_cons, if_true, List.length_cons]
      split
      · rw [if_pos (by omega)]
      · rw [if_neg (by omega)]; congr 1; omega
    · have h' : p (num c) = false := by simpa using h
      simp [findI, h']
theorem printable_skip (l : List UInt8) : printable l = if skipFrom okPrint l 0 = l.length then -1 else (skipFrom okPrint l 0 : Int) := by
  rw [printable, findI_skip, skipFrom]; simp

end Go.Proofs.YtannhfnpigiggaaGreatDoor

namespace Go.Proofs.YtannhfnpigiggaaGreatDoor
set_option linter.unusedSimpArgs false
set_option linter.unusedVariables false
open Go.RowKit

/-- A function value that answers p of a string; it may make memory, but turns nothing that was there. -/
structure StrPred (f : Nat) (caps : Array Value) (p : List UInt8 → Bool) (I : World → Prop) : Prop where
  enters : ∀ args w, (callFunc f args).run Tryz.prog w = .ok (.enter f args) w
  calls : ∀ (s : ByteArray) (w : World), I w → s.size ≤ maxLen → Calls Tryz.prog f (#[.string s] ++ caps) w fun e w' => e = .returned (.bool (p (toL s))) ∧ Below w.heap.size w w'
  keeps : ∀ w w', I w → Below w.heap.size w w' → I w'

set_option maxHeartbeats 1000000 in
theorem sl_indexFunc_str (f : Nat) (caps : Array Value) (p : List UInt8 → Bool) (I : World → Prop) (hf : StrPred f caps p I) (A : Option Addr) (l : List (List UInt8)) (c : Nat) (w : World) (hl : l.length ≤ 10000000) (hr : Row w A (strsL l)) (hI : I w) (hle : ∀ x ∈ l, x.length ≤ maxLen) :
    Calls Tryz.prog 126 #[.slice A l.length c, .func (.func f) #[] caps] w fun e w' => e = .returned (.int .i64 (findI p l 0)) ∧ Below w.heap.size w w' := by
  have he := hf.enters
  have HLE := Lib.hid hle; clear hle
  have HR := Lib.hid hr; clear hr
  have HI := Lib.hid hI; clear hI
  go_enter Tryz.func126, Tryz.ntmps126
  go_wp2_with fail
  go_loopw [8, 5] (fun v _ wr => ∃ k : Nat, k ≤ l.length ∧ findI p l 0 = findI p (l.drop k) k ∧ v = .int .i64 k ∧ Below w.heap.size w wr) (fun v _ _ => l.length - (intOf v).toNat)
  case atStart => exact ⟨0, by omega, rfl, rfl, Below.refl _ _⟩
  case round =>
    obtain ⟨k, hk, heq, rfl, hb⟩ := hrel
    by_cases hlt : k < l.length
    · obtain ⟨b, off, rfl, hc⟩ := (HR.out.below hb).cell (k := k) (by simpa using hlt)
      rw [List.getElem_map] at hc
      rw [List.drop_eq_getElem_cons hlt, findI] at heq
      have HQ := Lib.hid heq; clear heq
      have hx : (ofL l[k]).size ≤ maxLen := by rw [ofL_size]; exact HLE.out _ (List.getElem_mem hlt)
      rcases hp : p l[k] with _ | _
      · go_wp2_with fail
        refine (hf.calls (ofL l[k]) wr (hf.keeps _ _ HI.out hb) hx).mono ?_
        rintro e w2 ⟨rfl, hb2⟩
        rw [toL_ofL]
        go_wp2_with fail
        go_roundw
        case rel => exact ⟨k + 1, by omega, by rw [HQ.out, if_neg (by simp [hp])], by go_num, hb.trans (hb2.mono hb.size)⟩
        case measure => simp [intOf] <;> omega
      · go_wp2_with fail
        refine (hf.calls (ofL l[k]) wr (hf.keeps _ _ HI.out hb) hx).mono ?_
        rintro e w2 ⟨rfl, hb2⟩
        rw [toL_ofL]
        go_wp2_with fail
        go_ret
        exact ⟨ret_int (by rw [HQ.out, if_pos hp]), hb.trans (hb2.mono hb.size)⟩
    · have hd : l.drop k = [] := List.drop_eq_nil_of_le (by omega)
      rw [hd, findI] at heq
      have HQ := Lib.hid heq; clear heq hd
      go_wp2_with fail
      go_ret
      exact ⟨ret_int (by rw [HQ.out]), hb⟩

set_option maxHeartbeats 400000 in
theorem sl_containsFunc_str (f : Nat) (caps : Array Value) (p : List UInt8 → Bool) (I : World → Prop) (hf : StrPred f caps p I) (A : Option Addr) (l : List (List UInt8)) (c : Nat) (w : World) (hl : l.length ≤ 10000000) (hr : Row w A (strsL l)) (hI : I w) (hle : ∀ x ∈ l, x.length ≤ maxLen) :
    Calls Tryz.prog 108 #[.slice A l.length c, .func (.func f) #[] caps] w fun e w' => e = .returned (.bool (l.any p)) ∧ Below w.heap.size w w' := by
  have H := Lib.hid (sl_indexFunc_str f caps p I hf A l c w hl hr hI hle)
  clear hr hI hle
  go_enter Tryz.func108, Tryz.ntmps108
  go_wp2_with (refine H.out.mono ?_; rintro e w' ⟨rfl, hb⟩)
  go_ret
  exact ⟨ret_bool (findI_geq _ _ _), hb⟩

end Go.Proofs.YtannhfnpigiggaaGreatDoor
