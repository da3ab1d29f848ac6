/- Walks over ascii.Squeeze, ascii.Printable and their references. -/
import Derived.Test.YtaigbplfbfaghaaWords
import Derived.Test.YtaigbplfbfaghaaShelf
namespace Go.Proofs.Ytaigbplfbfaghaa
set_option linter.unusedSimpArgs false
set_option linter.unusedVariables false
open Go.RowKit

theorem join_call (v : Value) (l : List (List UInt8)) (w : World) (base : Nat) (hown : w.ownsRow base 9 1 v l.length (strsL l)) (hl : l.length ≤ 10000000) (hj : (joinSp l).length ≤ 10000000) :
    Calls Try.prog 80 #[v, .string ⟨#[32]⟩] w fun e w' => e = .returned (.string (ofL (joinSp l))) ∧ Below w.heap.size w w' := by
  rcases own_form hown with ⟨rfl, h0⟩ | ⟨g, cap, rfl, hg, hlt, hcap, hc⟩
  · have e : l = [] := List.eq_nil_of_length_eq_zero h0
    subst e
    refine (Try.strings_Join_none none 0 ⟨#[32]⟩ w).mono ?_
    rintro e w' ⟨rfl, rfl⟩
    exact ⟨rfl, Below.refl _ _⟩
  · by_cases h0 : l = []
    · subst h0
      refine (Try.strings_Join_none (some ⟨g, 0, none⟩) cap ⟨#[32]⟩ w).mono ?_
      rintro e w' ⟨rfl, rfl⟩
      exact ⟨rfl, Below.refl _ _⟩
    · have hjn : Lib.join ((l.map ofL).map (fun x => x.data.toList)) ((ByteArray.mk #[32]).data.toList) = joinSp l := by
        rw [List.map_map, ← joinSp_inter]
        have : ((fun x : ByteArray => x.data.toList) ∘ ofL) = id := rfl
        rw [this, List.map_id]; rfl
      have h := Try.strings_Join g 0 cap (l.map ofL) ⟨#[32]⟩ w (fun j x hx => by
          rw [Nat.zero_add]
          refine hc j _ ?_
          rw [List.getElem?_map] at hx ⊢
          cases hlj : l[j]? with
          | none => rw [hlj] at hx; cases hx
          | some y => rw [hlj] at hx; simp at hx; subst hx; rfl) hlt (by rw [List.length_map]; omega) (by rw [List.length_map]; exact hcap) (by rw [hjn]; omega)
      rw [hjn, List.length_map] at h
      exact h

set_option maxHeartbeats 400000 in
theorem asc_squeeze (s : ByteArray) (w : World) (hs : s.size ≤ 1000000) :
    Calls Try.prog 51 #[.string s] w fun e w' => e = .returned (.string (ofL (squeeze (toL s)))) ∧ Below w.heap.size w w' := by
  have h1 := wordsAux_sum (toL s) []
  have h2 := squeeze_le (toL s)
  rw [toL_length] at h1 h2
  go_enter Try.func51, Try.ntmps51
  go_wp2_with fail
  refine (asc_words s w hs).mono ?_
  rintro e w1 ⟨v, rfl, hown, hb⟩
  go_wp2_with fail
  refine (join_call v _ w1 _ hown (by unfold words; omega) (by unfold squeeze at h2; omega)).mono ?_
  rintro e w2 ⟨rfl, hb2⟩
  go_wp2_with fail
  go_ret
  exact ⟨rfl, hb.trans (hb2.mono hb.size)⟩


set_option maxHeartbeats 1000000 in
set_option maxRecDepth 100000 in
theorem ref_squeeze (s : ByteArray) (w : World) (hs : s.size ≤ 1000000) :
    Calls Try.prog 48 #[.string s] w fun e w' => e = .returned (.string (ofL (squeeze (toL s)))) ∧ Below w.heap.size w w' := by
  have h1 := wordsAux_sum (toL s) []
  have h2 := squeeze_le (toL s)
  rw [toL_length] at h1 h2
  go_enter Try.func48, Try.ntmps48
  go_wp2_with fail
  refine (ref_words s w hs).mono ?_
  rintro e w1 ⟨v, rfl, hown, hb⟩
  rw [← words] at h1
  obtain ⟨l, hl⟩ : ∃ l, words (toL s) = l := ⟨_, rfl⟩
  have HF := Lib.hid (show squeeze (toL s) = joinSp l by rw [squeeze, hl])
  rw [hl] at hown h1
  clear hl
  have hcase : ∀ k, k < l.length → ∃ g cap, v = .slice (some ⟨g, 0, none⟩) l.length cap ∧ w1.cell? ⟨g, k, none⟩ = some (.string (ofL (l.getD k []))) := fun k hk => by
    rcases own_form hown with ⟨rfl, h0⟩ | ⟨g, cap, rfl, hg, hlt, hcap, hc⟩
    · omega
    · exact ⟨g, cap, rfl, hc k _ (by simp [hk])⟩
  obtain ⟨A, c, rfl⟩ : ∃ A c, v = .slice A l.length c := by
    rcases own_form hown with ⟨rfl, h0⟩ | ⟨g, cap, rfl, _⟩
    · exact ⟨none, 0, by rw [h0]⟩
    · exact ⟨_, _, rfl⟩
  have HC := Lib.hid hcase; clear hcase hown
  go_wp2_with fail
  go_loop [3, 5] (fun o i => ∃ k : Nat, k ≤ l.length ∧ i = .int .i64 k ∧ o = .string (ofL (joinSp (l.take k)))) (fun _ i => l.length - (intOf i).toNat)
  case atStart => exact ⟨0, by omega, rfl, rfl⟩
  case round =>
    obtain ⟨k, hk, rfl, rfl⟩ := hrel
    by_cases hlt : k < l.length
    · obtain ⟨g, cap, hv, hcell⟩ := HC.out k hlt
      obtain ⟨rfl, rfl⟩ : A = some ⟨g, 0, none⟩ ∧ c = cap := by injection hv with a b c; exact ⟨a, c⟩
      clear hv
      have hA : (ofL (joinSp (l.take k))).size ≤ 1000000 := by have := joinSp_take_le l k; rw [ofL_size]; rw [HF.out] at h2; omega
      have hB : (ofL l[k]).size ≤ 1000000 := by have := joinSp_mem_le l l[k] (List.getElem_mem hlt); rw [ofL_size]; rw [HF.out] at h2; omega
      by_cases hz : k = 0
      · subst hz
        have hA' : (ofL (joinSp [])).size = 0 := rfl
        clear hA
        go_wp2_with fail
        go_round
        case rel =>
          refine ⟨1, by omega, rfl, ?_⟩
          rw [ofL_append, List.take_succ_eq_append_getElem hlt]; rfl
        case measure => simp [intOf] <;> omega
      · have hz' : 0 < k := by omega
        have HS := Lib.hid (joinSp_step l k hlt hz')
        go_wp2_with fail
        go_round
        case rel =>
          refine ⟨k + 1, by omega, by go_num, ?_⟩
          rw [HS.out, ← ofL_append, ← ofL_append]; rfl
        case measure => simp [intOf] <;> omega
    · go_wp2_with fail
      go_ret
      rw [List.take_of_length_le (by omega), HF.out]
      exact ⟨rfl, hb⟩


def okPrint (c : Int) : Bool := isVisible c || (c == 32)
/-- Where the first byte lies that is neither visible nor a space, or -1. -/
def printable (l : List UInt8) : Int := findI (fun c => !okPrint (num c)) l 0

theorem findI_skip (p : Int → Bool) (l : List UInt8) : ∀ k : Nat, findI (fun c => !p (num c)) l k = if (l.takeWhile fun c => p (num c)).length = l.length then -1 else ((k + (l.takeWhile fun c => p (num c)).length : Nat) : Int) := by
  induction l with
  | nil => intro k; simp [findI]
  | cons c r ih =>
    intro k
    by_cases h : p (num c) = true
    · simp only [findI, h, Bool.not_true, Bool.false_eq_true, if_false, ih (k + 1), List.takeWhile_cons, if_true, List.length_cons]
      split
      · rw [if_pos (by omega)]
      · rw [if_neg (by omega)]; congr 1; omega
    · have h' : p (num c) = false := by simpa using h
      simp [findI, h']
theorem printable_skip (l : List UInt8) : printable l = if skipFrom okPrint l 0 = l.length then -1 else (skipFrom okPrint l 0 : Int) := by
  rw [printable, findI_skip, skipFrom]; simp

set_option maxHeartbeats 400000 in
theorem asc_okPrint (c : Int) (w : World) :
    Calls Try.prog 78 #[.int .u8 c] w fun e w' => e = .returned (.bool (okPrint c)) ∧ w = w' := by
  rcases h : isVisible c with _ | _
  all_goals
    go_enter Try.func78, Try.ntmps78
    go_wp2_with (go_at_call 79; refine (asc_isVisible _ _).mono ?_; rintro e w' ⟨rfl, rfl⟩)
    go_ret
    exact ⟨ret_bool (by simp [okPrint, h]), rfl⟩
theorem class_okPrint : ClassIs 78 okPrint := ⟨Try.call78, asc_okPrint⟩

set_option maxHeartbeats 400000 in
theorem asc_printable (s : ByteArray) (w : World) (hs : s.size ≤ 1000000) :
    Calls Try.prog 50 #[.string s] w fun e w' => e = .returned (.int .i64 (printable (toL s))) ∧ w = w' := by
  have H := Lib.hid (printable_skip (toL s))
  rw [toL_length] at H
  go_enter Try.func50, Try.ntmps50
  go_wp2_with fail
  refine (asc_skip 78 okPrint class_okPrint s 0 w (by unfold maxLen; omega) (by omega)).mono ?_
  rintro e w' ⟨rfl, rfl⟩
  generalize skipFrom okPrint (toL s) 0 = k at H ⊢
  by_cases hk : k = s.size
  · have hd : ((k : Int) == (s.size : Int)) = true := by simp [hk]
    have H2 := Lib.hid (H.out.trans (if_pos hk))
    clear hk
    go_wp2_with fail
    go_ret
    exact ⟨ret_int H2.out.symm, rfl⟩
  · have hd : ((k : Int) == (s.size : Int)) = false := beq_eq_false_iff_ne.2 (by omega)
    have H2 := Lib.hid (H.out.trans (if_neg hk))
    go_wp2_with fail
    go_ret
    exact ⟨ret_int H2.out.symm, rfl⟩

set_option maxHeartbeats 400000 in
theorem ref_printable (s : ByteArray) (w : World) (hs : s.size ≤ 1000000) :
    Calls Try.prog 47 #[.string s] w fun e w' => e = .returned (.int .i64 (printable (toL s))) ∧ w = w' := by
  go_enter Try.func47, Try.ntmps47
  go_wp2_with fail
  go_loop [3] (fun v => ∃ k : Nat, k ≤ s.size ∧ printable (toL s) = findI (fun c => !okPrint (num c)) ((toL s).drop k) k ∧ v = .int .i64 k) (fun v => s.size - (intOf v).toNat)
  case atStart => exact ⟨0, by omega, rfl, rfl⟩
  case round =>
    obtain ⟨k, hk, heq, rfl⟩ := hrel
    by_cases hlt : k < s.size
    · rw [drop_cons (toL s) k (by rw [toL_length]; exact hlt), findI, toL_getElem s k hlt] at heq
      have HQ := Lib.hid heq; clear heq
      rcases h1 : isVisible (num s[k]) with _ | _
      · rcases h2 : (num s[k] != 32) with _ | _
        · go_wp2_with (go_at_call 58; refine (ref_visible _ _).mono ?_; rintro e w' ⟨rfl, rfl⟩)
          go_round
          case rel =>
            refine ⟨k + 1, by omega, ?_, by go_num⟩
            rw [HQ.out, if_neg]
            have h3 : num s[k] = 32 := by simpa using h2
            simp [okPrint, h3]
          case measure => simp [intOf] <;> omega
        · go_wp2_with (go_at_call 58; refine (ref_visible _ _).mono ?_; rintro e w' ⟨rfl, rfl⟩)
          go_ret
          have h3 : (num s[k] == 32) = false := by simpa [bne] using h2
          exact ⟨ret_int (by rw [HQ.out, if_pos (by simp only [okPrint, h1, h3]; rfl)]), rfl⟩
      · go_wp2_with (go_at_call 58; refine (ref_visible _ _).mono ?_; rintro e w' ⟨rfl, rfl⟩)
        go_round
        case rel =>
          refine ⟨k + 1, by omega, ?_, by go_num⟩
          rw [HQ.out, if_neg (by simp [okPrint, h1])]
        case measure => simp [intOf] <;> omega
    · rw [List.drop_eq_nil_of_le (by rw [toL_length]; omega)] at heq
      have HQ := Lib.hid heq; clear heq
      go_wp2_with fail
      go_ret
      exact ⟨ret_int (by rw [HQ.out]; rfl), rfl⟩

end Go.Proofs.Ytaigbplfbfaghaa
