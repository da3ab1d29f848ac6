/- Lemmas and walks, part 8. -/
import Derived.Test.YtcohgjdijhogbaaPt7
import Derived.Test.YtcohgjdijhogbaaShelf
import Derived.Test.YtcohgjdijhogbaaPt4
namespace Go.Proofs.Ytcohgjdijhogbaa
set_option linter.unusedSimpArgs false
set_option linter.unusedVariables false
open Go.RowKit

theorem join_call (v : Value) (l : List (List UInt8)) (w : World) (base : Nat) (hown : w.ownsRow base 9 1 v l.length (strsL l)) (hl : l.length ≤ 10000000) (hj : (joinSp l).length ≤ 10000000) :
    Calls Try.prog 107 #[v, .string ⟨#[32]⟩] w fun e w' => e = .returned (.string (ofL (joinSp l))) ∧ Below w.heap.size w w' := by
  rcases own_form hown with ⟨rfl, h0⟩ | ⟨g, cap, rfl, hg, hlt, hcap, hc⟩
  · have e : l = [] := List.eq_nil_of_length_eq_zero h0
    subst e
    refine (Try.strings_Join_none none 0 ⟨#[32]⟩ w).mono ?_
    rintro e w' ⟨rfl, rfl⟩
    exact ⟨rfl, Below.refl _ _⟩
  · by_cases h0 : l = []
    · subst h0
      refine (Try.strings_Join_none (some ⟨g, 0, none⟩) cap ⟨#[32]⟩ w).mono ?_
      rintro e w' ⟨rfl, rfl⟩
      exact ⟨rfl, Below.refl _ _⟩
    · have hjn : Lib.join ((l.map ofL).map (fun x => x.data.toList)) ((ByteArray.mk #[32]).data.toList) = joinSp l := by
        rw [List.map_map, ← joinSp_inter]
        have : ((fun x : ByteArray => x.data.toList) ∘ ofL) = id := rfl
        rw [this, List.map_id]; rfl
      have h := Try.strings_Join g 0 cap (l.map ofL) ⟨#[32]⟩ w (fun j x hx => by
          rw [Nat.zero_add]
          refine hc j _ ?_
          rw [List.getElem?_map] at hx ⊢
          cases hlj : l[j]? with
          | none => rw [hlj] at hx; cases hx
          | some y => rw [hlj] at hx; simp at hx; subst hx; rfl) hlt (by rw [List.length_map]; omega) (by rw [List.length_map]; exact hcap) (by rw [hjn]; omega)
      rw [hjn, List.length_map] at h
      exact h

set_option maxHeartbeats 400000 in
theorem asc_squeeze (s : ByteArray) (w : World) (hs : s.size ≤ 1100000) :
    Calls Try.prog 95 #[.string s] w fun e w' => e = .returned (.string (ofL (squeeze (toL s)))) ∧ Below w.heap.size w w' := by
  have h1 := wordsAux_sum (toL s) []
  have h2 := squeeze_le (toL s)
  rw [toL_length] at h1 h2
  go_enter Try.func95, Try.ntmps95
  go_wp2_with fail
  refine (asc_words s w hs).mono ?_
  rintro e w1 ⟨v, rfl, hown, hb⟩
  go_wp2_with fail
  refine (join_call v _ w1 _ hown (by unfold words; omega) (by unfold squeeze at h2; omega)).mono ?_
  rintro e w2 ⟨rfl, hb2⟩
  go_wp2_with fail
  go_ret
  exact ⟨rfl, hb.trans (hb2.mono hb.size)⟩


def okPrint (c : Int) : Bool := isVisible c || (c == 32)
/-- Where the first byte lies that is neither visible nor a space, or -1. -/
def printable (l : List UInt8) : Int := findI (fun c => !okPrint (num c)) l 0

theorem findI_skip (p : Int → Bool) (l : List UInt8) : ∀ k : Nat, findI (fun c => !p (num c)) l k = if (l.takeWhile fun c => p (num c)).length = l.length then -1 else ((k + (l.takeWhile fun c => p (num c)).length : Nat) : Int) := by
  induction l with
  | nil => intro k; simp [findI]
  | cons c r ih =>
    intro k
    by_cases h : p (num c) = true
    · simp only [findI, h, Bool.not_true, Bool.false_eq_true, if_false, ih (k + 1), List.takeWhile_cons, if_true, List.length_cons]
      split
      · rw [if_pos (by omega)]
      · rw [if_neg (by omega)]; congr 1; omega
    · have h' : p (num c) = false := by simpa using h
      simp [findI, h']
theorem printable_skip (l : List UInt8) : printable l = if skipFrom okPrint l 0 = l.length then -1 else (skipFrom okPrint l 0 : Int) := by
  rw [printable, findI_skip, skipFrom]; simp

set_option maxHeartbeats 400000 in
theorem asc_okPrint (c : Int) (w : World) :
    Calls Try.prog 106 #[.int .u8 c] w fun e w' => e = .returned (.bool (okPrint c)) ∧ w = w' := by
  rcases h : isVisible c with _ | _
  all_goals
    go_enter Try.func106, Try.ntmps106
    go_wp2_with (go_at_call 88; refine (asc_isVisible _ _).mono ?_; rintro e w' ⟨rfl, rfl⟩)
    go_ret
    exact ⟨ret_bool (by simp [okPrint, h]), rfl⟩
theorem class_okPrint : ClassIs 106 okPrint := ⟨Try.call106, asc_okPrint⟩

set_option maxHeartbeats 400000 in
theorem asc_printable (s : ByteArray) (w : World) (hs : s.size ≤ 1100000) :
    Calls Try.prog 94 #[.string s] w fun e w' => e = .returned (.int .i64 (printable (toL s))) ∧ w = w' := by
  have H := Lib.hid (printable_skip (toL s))
  rw [toL_length] at H
  go_enter Try.func94, Try.ntmps94
  go_wp2_with fail
  refine (asc_skip 106 okPrint class_okPrint s 0 w (by unfold maxLen; omega) (by omega)).mono ?_
  rintro e w' ⟨rfl, rfl⟩
  generalize skipFrom okPrint (toL s) 0 = k at H ⊢
  by_cases hk : k = s.size
  · have hd : ((k : Int) == (s.size : Int)) = true := by simp [hk]
    have H2 := Lib.hid (H.out.trans (if_pos hk))
    clear hk
    go_wp2_with fail
    go_ret
    exact ⟨ret_int H2.out.symm, rfl⟩
  · have hd : ((k : Int) == (s.size : Int)) = false := beq_eq_false_iff_ne.2 (by omega)
    have H2 := Lib.hid (H.out.trans (if_neg hk))
    go_wp2_with fail
    go_ret
    exact ⟨ret_int H2.out.symm, rfl⟩

end Go.Proofs.Ytcohgjdijhogbaa

namespace Go.Proofs.Ytcohgjdijhogbaa
set_option linter.unusedSimpArgs false
set_option linter.unusedVariables false
open Go.RowKit

/-- A function value that answers p of a string; it may make memory, but turns nothing that was there. -/
structure StrPred (f : Nat) (caps : Array Value) (p : List UInt8 → Bool) (I : World → Prop) : Prop where
  enters : ∀ args w, (callFunc f args).run Try.prog w = .ok (.enter f args) w
  calls : ∀ (s : ByteArray) (w : World), I w → s.size ≤ maxLen → Calls Try.prog f (#[.string s] ++ caps) w fun e w' => e = .returned (.bool (p (toL s))) ∧ Below w.heap.size w w'
  keeps : ∀ w w', I w → Below w.heap.size w w' → I w'

set_option maxHeartbeats 1000000 in
theorem sl_indexFunc_str (f : Nat) (caps : Array Value) (p : List UInt8 → Bool) (I : World → Prop) (hf : StrPred f caps p I) (A : Option Addr) (l : List (List UInt8)) (c : Nat) (w : World) (hl : l.length ≤ 10000000) (hr : Row w A (strsL l)) (hI : I w) (hle : ∀ x ∈ l, x.length ≤ maxLen) :
    Calls Try.prog 108 #[.slice A l.length c, .func (.func f) #[] caps] w fun e w' => e = .returned (.int .i64 (findI p l 0)) ∧ Below w.heap.size w w' := by
  have he := hf.enters
  have HLE := Lib.hid hle; clear hle
  have HR := Lib.hid hr; clear hr
  have HI := Lib.hid hI; clear hI
  go_enter Try.func108, Try.ntmps108
  go_wp2_with fail
  go_loopw [8, 5] (fun v _ wr => ∃ k : Nat, k ≤ l.length ∧ findI p l 0 = findI p (l.drop k) k ∧ v = .int .i64 k ∧ Below w.heap.size w wr) (fun v _ _ => l.length - (intOf v).toNat)
  case atStart => exact ⟨0, by omega, rfl, rfl, Below.refl _ _⟩
  case round =>
    obtain ⟨k, hk, heq, rfl, hb⟩ := hrel
    by_cases hlt : k < l.length
    · obtain ⟨b, off, rfl, hc⟩ := (HR.out.below hb).cell (k := k) (by simpa using hlt)
      rw [List.getElem_map] at hc
      rw [List.drop_eq_getElem_cons hlt, findI] at heq
      have HQ := Lib.hid heq; clear heq
      have hx : (ofL l[k]).size ≤ maxLen := by rw [ofL_size]; exact HLE.out _ (List.getElem_mem hlt)
      rcases hp : p l[k] with _ | _
      · go_wp2_with fail
        refine (hf.calls (ofL l[k]) wr (hf.keeps _ _ HI.out hb) hx).mono ?_
        rintro e w2 ⟨rfl, hb2⟩
        rw [toL_ofL]
        go_wp2_with fail
        go_roundw
        case rel => exact ⟨k + 1, by omega, by rw [HQ.out, if_neg (by simp [hp])], by go_num, hb.trans (hb2.mono hb.size)⟩
        case measure => simp [intOf] <;> omega
      · go_wp2_with fail
        refine (hf.calls (ofL l[k]) wr (hf.keeps _ _ HI.out hb) hx).mono ?_
        rintro e w2 ⟨rfl, hb2⟩
        rw [toL_ofL]
        go_wp2_with fail
        go_ret
        exact ⟨ret_int (by rw [HQ.out, if_pos hp]), hb.trans (hb2.mono hb.size)⟩
    · have hd : l.drop k = [] := List.drop_eq_nil_of_le (by omega)
      rw [hd, findI] at heq
      have HQ := Lib.hid heq; clear heq hd
      go_wp2_with fail
      go_ret
      exact ⟨ret_int (by rw [HQ.out]), hb⟩

set_option maxHeartbeats 400000 in
theorem sl_containsFunc_str (f : Nat) (caps : Array Value) (p : List UInt8 → Bool) (I : World → Prop) (hf : StrPred f caps p I) (A : Option Addr) (l : List (List UInt8)) (c : Nat) (w : World) (hl : l.length ≤ 10000000) (hr : Row w A (strsL l)) (hI : I w) (hle : ∀ x ∈ l, x.length ≤ maxLen) :
    Calls Try.prog 96 #[.slice A l.length c, .func (.func f) #[] caps] w fun e w' => e = .returned (.bool (l.any p)) ∧ Below w.heap.size w w' := by
  have H := Lib.hid (sl_indexFunc_str f caps p I hf A l c w hl hr hI hle)
  clear hr hI hle
  go_enter Try.func96, Try.ntmps96
  go_wp2_with (refine H.out.mono ?_; rintro e w' ⟨rfl, hb⟩)
  go_ret
  exact ⟨ret_bool (findI_geq _ _ _), hb⟩

end Go.Proofs.Ytcohgjdijhogbaa

namespace Go.Proofs.Ytcohgjdijhogbaa
set_option linter.unusedSimpArgs false
set_option linter.unusedVariables false
open Go.RowKit

/-- The first error of a field. -/
def checkF (name body : List UInt8) : Int :=
  if validName name = false then 12
  else if 0 ≤ printable body then 6
  else if squeeze body ≠ body then 3
  else if 8192 < body.length ∨ (words body).any (fun x => decide (900 < x.length)) = true then 5
  else 0

theorem words_mem_le (l x : List UInt8) (h : x ∈ words l) : x.length ≤ l.length := by
  have h1 := joinSp_mem_le _ _ h
  have h2 := squeeze_le l
  unfold squeeze at h2; omega

set_option maxHeartbeats 400000 in
theorem fld_tooLong (s : ByteArray) (w : World) :
    Calls Try.prog 93 #[.string s] w fun e w' => e = .returned (.bool (decide (900 < (toL s).length))) ∧ Below w.heap.size w w' := by
  have H := Lib.hid (toL_length s)
  go_enter Try.func93, Try.ntmps93
  go_wp2_with fail
  go_ret
  exact ⟨ret_bool (by rw [H.out, decide_eq_decide]; omega), Below.refl _ _⟩
theorem pred_tooLong : StrPred 93 #[] (fun x => decide (900 < x.length)) (fun _ => True) :=
  ⟨Try.call93, fun s w _ _ => fld_tooLong s w, fun _ _ _ _ => trivial⟩

set_option maxHeartbeats 1000000 in
set_option maxRecDepth 100000 in
theorem fld_check (n b : ByteArray) (w : World) (hn : n.size ≤ 1100000) (hb : b.size ≤ 1100000) :
    Calls Try.prog 74 #[.agg #[.string n, .string b]] w fun e w' => e = .returned (.int .i64 (checkF (toL n) (toL b))) ∧ Below w.heap.size w w' := by
  rcases h1 : validName (toL n) with _ | _
  · have H := Lib.hid (show checkF (toL n) (toL b) = 12 by simp [checkF, h1])
    go_enter Try.func74, Try.ntmps74
    go_wp2_with fail
    refine (fld_validName n _ (by unfold maxLen; omega)).mono ?_
    rintro e w1 ⟨rfl, hb1⟩
    go_wp2_with fail
    go_ret
    exact ⟨ret_int H.out.symm, ((Below.refl _ _).alloc (Nat.le_refl _) _).trans (hb1.mono (by simp))⟩
  · go_enter Try.func74, Try.ntmps74
    go_wp2_with fail
    refine (fld_validName n _ (by unfold maxLen; omega)).mono ?_
    rintro e w1 ⟨rfl, hb1⟩
    have hbw : Below w.heap.size w w1 := ((Below.refl _ _).alloc (Nat.le_refl _) _).trans (hb1.mono (by simp))
    have hc1 : w1.cell? ⟨w.heap.size, 1, none⟩ = some (.string b) := by rw [hb1.cell (p := ⟨w.heap.size, 1, none⟩) (by simp)]; simp
    have hz1 : w.heap.size < w1.heap.size := by have := hb1.size; simp at this; omega
    clear hb1
    by_cases h2 : 0 ≤ printable (toL b)
    · have H := Lib.hid (show checkF (toL n) (toL b) = 6 by simp [checkF, h1, h2])
      have h2' : decide (0 ≤ printable (toL b)) = true := by simpa using h2
      go_wp2_with (go_at_call 94; refine (asc_printable b _ hb).mono ?_; rintro e w2 ⟨rfl, rfl⟩)
      go_ret
      exact ⟨ret_int H.out.symm, hbw⟩
    · have h2f : decide (0 ≤ printable (toL b)) = false := by simpa using h2
      have H2 := Lib.hid (Int.not_le.1 h2)
      clear h2
      go_wp2_with (go_at_call 94; refine (asc_printable b _ hb).mono ?_; rintro e w2 ⟨rfl, rfl⟩)
      by_cases h3 : squeeze (toL b) = toL b
      · have h3' : ((ofL (squeeze (toL b))).toList == b.toList) = true := by rw [neq_ofL]; simpa using h3
        have H3 := Lib.hid h3; clear h3
        go_region_held3 (fun w' => w'.cell? ⟨w.heap.size, 1, none⟩ = some (.string b))
          (first
            | go_keep
            | ((rw [hb2.cell (p := ⟨w.heap.size, 1, none⟩) (by simp; omega)]; assumption)))
          (first | (go_at_call 95; refine (asc_squeeze b _ hb).mono ?_; rintro e w2 ⟨rfl, hb2⟩))
        have hbw2 : Below w.heap.size w w2 := hbw.trans ((below_undrew hb2).mono hbw.size)
        have hz2 : w.heap.size < w2.heap.size := by have := (below_undrew hb2).size; omega
        clear hb2
        by_cases h4 : 8192 < b.size
        · have h4' : decide ((8192 : Int) < (b.size : Int)) = true := by simp; omega
          have H := Lib.hid (show checkF (toL n) (toL b) = 5 by simp only [checkF]; rw [if_neg (by simp [h1]), if_neg (Int.not_le.2 H2.out), if_neg (by simp [H3.out]), if_pos (.inl (by rw [toL_length]; exact h4))])
          go_wp2_with fail
          go_ret
          exact ⟨ret_int H.out.symm, hbw2⟩
        · have h4' : decide ((8192 : Int) < (b.size : Int)) = false := by simp; omega
          go_wp2_with fail
          refine (asc_words b _ hb).mono ?_
          rintro e w3 ⟨v, rfl, hown, hb3⟩
          obtain ⟨A, c, rfl, hrow⟩ := own_row hown
          have hw1 := wordsAux_sum (toL b) []
          rw [toL_length] at hw1
          have HC := Lib.hid (sl_containsFunc_str 93 #[] _ _ pred_tooLong A (words (toL b)) c w3 (by unfold words; omega) hrow trivial (fun x hx => by have := words_mem_le _ _ hx; rw [toL_length] at this; unfold maxLen; omega))
          clear hrow hown
          rcases h5 : (words (toL b)).any (fun x => decide (900 < x.length)) with _ | _
          · have H := Lib.hid (show checkF (toL n) (toL b) = 0 by simp only [checkF]; rw [if_neg (by simp [h1]), if_neg (Int.not_le.2 H2.out), if_neg (by simp [H3.out]), if_neg (by rw [h5, toL_length]; simp; omega)])
            rw [h5] at HC
            clear h5
            go_wp2_with (go_at_call 96; refine HC.out.mono ?_; rintro e w4 ⟨rfl, hb4⟩)
            go_ret
            exact ⟨ret_int H.out.symm, (hbw2.trans (hb3.mono hbw2.size)).trans (hb4.mono (hbw2.trans (hb3.mono hbw2.size)).size)⟩
          · have H := Lib.hid (show checkF (toL n) (toL b) = 5 by simp only [checkF]; rw [if_neg (by simp [h1]), if_neg (Int.not_le.2 H2.out), if_neg (by simp [H3.out]), if_pos (.inr h5)])
            rw [h5] at HC
            clear h5
            go_wp2_with (go_at_call 96; refine HC.out.mono ?_; rintro e w4 ⟨rfl, hb4⟩)
            go_ret
            exact ⟨ret_int H.out.symm, (hbw2.trans (hb3.mono hbw2.size)).trans (hb4.mono (hbw2.trans (hb3.mono hbw2.size)).size)⟩
      · have h3' : ((ofL (squeeze (toL b))).toList == b.toList) = false := by rw [neq_ofL]; simpa using h3
        have H := Lib.hid (show checkF (toL n) (toL b) = 3 by simp only [checkF]; rw [if_neg (by simp [h1]), if_neg (Int.not_le.2 H2.out), if_pos h3])
        clear h3
        go_region_held3 (fun w' => w'.cell? ⟨w.heap.size, 1, none⟩ = some (.string b))
          (first
            | go_keep
            | ((rw [hb2.cell (p := ⟨w.heap.size, 1, none⟩) (by simp; omega)]; assumption)))
          (first | (go_at_call 95; refine (asc_squeeze b _ hb).mono ?_; rintro e w2 ⟨rfl, hb2⟩))
        go_wp2_with fail
        go_ret
        exact ⟨ret_int H.out.symm, hbw.trans ((below_undrew hb2).mono hbw.size)⟩


theorem any_drop_step {p : List UInt8 → Bool} {l : List (List UInt8)} {k : Nat} (h : k < l.length) (hp : p l[k] = false) (hq : l.any p = (l.drop k).any p) : l.any p = (l.drop (k + 1)).any p := by
  rw [hq, List.drop_eq_getElem_cons h, List.any_cons, hp]; simp
theorem any_drop_hit {p : List UInt8 → Bool} {l : List (List UInt8)} {k : Nat} (h : k < l.length) (hp : p l[k] = true) : l.any p = true :=
  List.any_eq_true.2 ⟨_, List.getElem_mem h, hp⟩

end Go.Proofs.Ytcohgjdijhogbaa
