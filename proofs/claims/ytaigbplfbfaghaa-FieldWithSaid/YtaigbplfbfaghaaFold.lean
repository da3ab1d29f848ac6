/- Walks over field.Field.Fold and its reference. -/
import Derived.Test.YtaigbplfbfaghaaCheck
import Derived.Test.YtaigbplfbfaghaaBuilder
import Derived.Test.YtaigbplfbfaghaaFoldP
namespace Go.Proofs.Ytaigbplfbfaghaa
set_option linter.unusedSimpArgs false
set_option linter.unusedVariables false
open Go.RowKit

theorem isBuilder_below {T e : TypeId} {B b : Nat} {bs : List Value} {w w' : World} (h : Lib.IsBuilder T e B b bs w) (hb : Below w.heap.size w w') : Lib.IsBuilder T e B b bs w' := by
  have hh : ∀ p, Lib.BuilderAt T e B b p bs w → Lib.BuilderAt T e B b p bs w' := by
    rintro p ⟨hB, v, hk, hown, hne⟩
    exact ⟨hB, v, (hb.block b (heap_lt hk)).trans hk, own_below hown hb, hne⟩
  rcases h with h | h
  · exact .inl (hh _ h)
  · exact .inr (hh _ h)

structure FoldWr (n b : ByteArray) (w wr : World) (b0 k : Nat) (A : Option Addr) (c : Nat) (line : ByteArray) : Prop where
  ex : ∃ out, Lib.IsBuilder 67 5 b0 b0 (Lib.byteCells out) wr ∧ b0 ≤ wr.heap.size ∧ w.heap.size ≤ b0 ∧ Below w.heap.size w wr ∧
    wr.ownsRow w.heap.size 9 1 (.slice A (words (toL b)).length c) (words (toL b)).length (strsL (words (toL b))) ∧ FoldAt (foldF (toL n) (toL b)) (words (toL b)) k out (toL line)

set_option maxHeartbeats 2000000 in
set_option maxRecDepth 100000 in
theorem fld_fold_bad (n b : ByteArray) (w : World) (hn : n.size ≤ 1000000) (hb : b.size ≤ 1000000) (hc : checkF (toL n) (toL b) ≠ 0) :
    Calls Try.prog 15 #[.agg #[.string n, .string b]] w fun e w' => e = .returned (.tuple #[.string ⟨#[]⟩, .int .i64 (checkF (toL n) (toL b))]) ∧ Below w.heap.size w w' := by
  have h1 : (checkF (toL n) (toL b) != 0) = true := by simpa using hc
  clear hc
  go_enter Try.func15, Try.ntmps15
  go_wp2_with (go_at_call 17; refine (fld_check n b _ hn hb).mono ?_; rintro e w1 ⟨rfl, hb1⟩)
  go_ret2
  exact ⟨rfl, ((Below.refl _ _).alloc (Nat.le_refl _) _).trans (hb1.mono (by simp))⟩

set_option maxHeartbeats 2000000 in
set_option maxRecDepth 100000 in
theorem fld_fold_ok (n b : ByteArray) (w : World) (hn : n.size ≤ 1000000) (hb : b.size ≤ 1000000) (hc : checkF (toL n) (toL b) = 0) :
    Calls Try.prog 15 #[.agg #[.string n, .string b]] w fun e w' => e = .returned (.tuple #[.string (ofL (foldF (toL n) (toL b))), .int .i64 0]) ∧ Below w.heap.size w w' := by
  have HF := Lib.hid (foldF_le (toL n) (toL b))
  rw [toL_length, toL_length] at HF
  go_enter Try.func15, Try.ntmps15
  go_wp2_with fail
  refine (fld_check n b _ hn hb).mono ?_
  rintro e w1 ⟨rfl, hb1⟩
  have hbw : Below w.heap.size w w1 := ((Below.refl _ _).alloc (Nat.le_refl _) _).trans (hb1.mono (by simp))
  have hc0 : w1.cell? ⟨w.heap.size, 0, none⟩ = some (.string n) := by rw [hb1.cell (p := ⟨w.heap.size, 0, none⟩) (by simp)]; simp
  have hc1 : w1.cell? ⟨w.heap.size, 1, none⟩ = some (.string b) := by rw [hb1.cell (p := ⟨w.heap.size, 1, none⟩) (by simp)]; simp
  have hz1 : w.heap.size < w1.heap.size := by have := hb1.size; simp at this; omega
  clear hb1
  rw [hc]
  clear hc
  have hnn : n.size + 1 ≤ 9223372036854775807 := by omega
  go_wp2_with fail
  refine (asc_words b _ hb).mono ?_
  rintro e w2 ⟨v, rfl, hown, hb2⟩
  obtain ⟨A, c, rfl, hrow⟩ := own_row hown
  clear hrow
  have hbld := (Lib.fresh_isBuilder 67 5 w1)
  have hst : FoldWr n b w w2 w1.heap.size 0 A c (n ++ ⟨#[58]⟩) := by
    refine ⟨[], isBuilder_below hbld hb2, ?_, by omega, ?_, own_mono hown (by simp; omega), ?_⟩
    · have := hb2.size; simp at this; omega
    · exact (hbw.alloc hbw.size _).trans (hb2.mono (by simp; omega))
    · have : toL (n ++ ⟨#[58]⟩) = toL n ++ [58] := by simp [toL]
      rw [this]; exact FoldAt.start _ _
  clear hb2 hown hbld hbw hc0 hc1
  generalize w1.heap.size = b0 at *
  generalize n ++ ⟨#[58]⟩ = line0 at *
  go_wp2_with fail
  go_loopw [6, 7, 9, 22] (fun ln cn _ ix wr => ∃ (k : Nat) (line : ByteArray), k ≤ (words (toL b)).length ∧ ix = .int .i64 k ∧ cn = .int .i64 k ∧ ln = .string line ∧ FoldWr n b w wr b0 k A c line) (fun _ _ _ ix _ => (words (toL b)).length - (intOf ix).toNat)
  case atStart => exact ⟨0, line0, by omega, rfl, rfl, rfl, hst⟩
  case round =>
    obtain ⟨k, line, hk, rfl, rfl, rfl, ⟨out, hbd, hb0, hb00, hbel, hown, hat⟩⟩ := hrel
    have hws := wordsAux_sum (toL b) []
    rw [← words, toL_length] at hws
    have hlen := hat.len
    rw [toL_length] at hlen
    by_cases hlt : k < (words (toL b)).length
    · have hlen2 := hat.len2 hlt
      have HF2 := HF.out
      rw [toL_length] at hlen2
      obtain ⟨A', c', he, hrow⟩ := own_row hown
      obtain ⟨rfl, rfl⟩ : A = A' ∧ c = c' := by injection he with a _ c; exact ⟨a, c⟩
      clear he
      obtain ⟨g, off, rfl, hcell⟩ := hrow.cell (k := k) (by simpa using hlt)
      rw [List.getElem_map] at hcell
      obtain ⟨x, hx⟩ : ∃ x, ofL (words (toL b))[k] = x := ⟨_, rfl⟩
      have hxL : (words (toL b))[k] = toL x := by rw [← hx, toL_ofL]
      have HXL := Lib.hid hxL
      rw [hx] at hcell
      rw [hxL, toL_length] at hlen2
      clear hrow hx hxL
      have hfit := fun hc => hat.fits hlt hc
      have hturn := fun h0 hc => hat.turns hlt h0 hc
      rw [HXL.out, toL_length, toL_length] at hfit hturn
      have HFIT := Lib.hid hfit; have HTURN := Lib.hid hturn
      clear hfit hturn
      have hs1 : line.size + 1 + x.size ≤ 4000000 := by omega
      have hs2 : 1 + x.size ≤ 4000000 := by omega
      have hs3 : line.size + (1 + x.size) ≤ 4000000 := by omega
      have hs4 : line.size + 1 ≤ 4000000 := by omega
      have hs5 : out.length + (line.size + 1) ≤ 100000000 := by omega
      clear hlen hlen2 HF2
      have hW : Lib.IsBuilder 67 5 b0 b0 (Lib.byteCells out) wr := hbd
      by_cases hz : k = 0
      · subst hz
        rw [Nat.add_zero] at hcell
        go_wp2_with fail
        go_roundw
        case rel =>
          refine ⟨1, line ++ (⟨#[32]⟩ ++ x), by omega, rfl, rfl, rfl, ⟨out, hbd, hb0, hb00, hbel, hown, ?_⟩⟩
          have := HFIT.out (.inl rfl)
          simpa [toL] using this
        case measure => simp [intOf] <;> omega
      · have hz' : decide ((0 : Int) < (k : Int)) = true := by simp; omega
        by_cases hf : line.size + 1 + x.size ≤ 78
        · have hf' : decide ((78 : Int) < (line.size : Int) + 1 + (x.size : Int)) = false := by simp; omega
          go_wp2_with fail
          go_roundw
          case rel =>
            refine ⟨k + 1, line ++ (⟨#[32]⟩ ++ x), by omega, by go_num, by go_num, rfl, ⟨out, hbd, hb0, hb00, hbel, hown, ?_⟩⟩
            have := HFIT.out (.inr hf)
            simpa [toL] using this
          case measure => simp [intOf] <;> omega
        · have hf' : decide ((78 : Int) < (line.size : Int) + 1 + (x.size : Int)) = true := by simp; omega
          go_wp2_with fail
          (with_reducible refine (bld_write b0 b0 out _ wr hbd ?hlen hb0).mono ?_)
          case hlen => rw [app_size]; show _ + (line.size + 1) ≤ _; omega
          rintro e w3 ⟨rfl, hbd3, hb3, hk3⟩
          go_wp2_with fail
          go_roundw
          case rel =>
            refine ⟨k + 1, ⟨#[32]⟩ ++ x, by omega, by go_num, by go_num, congrArg Value.string (toL_inj (by simp [toL])), ⟨out ++ toL (line ++ ⟨#[10]⟩), hbd3, by have := hb3.size; omega, hb00, hbel.trans (hb3.mono hb00), own_keeps hown hk3 (by decide) (by decide), ?_⟩⟩
            have := HTURN.out (by omega) hf
            simpa [toL] using this
          case measure => simp [intOf] <;> omega
    · have HD := Lib.hid (hat.done (by omega))
      have HF2 := HF.out
      have hs4 : line.size + 1 ≤ 4000000 := by omega
      have hs5 : out.length + (line.size + 1) ≤ 100000000 := by omega
      clear hlen HF2
      go_wp2_with fail
      (with_reducible refine (bld_write b0 b0 out _ wr hbd ?hlen hb0).mono ?_)
      case hlen => rw [app_size]; show _ + (line.size + 1) ≤ _; omega
      rintro e w3 ⟨rfl, hbd3, hb3, hk3⟩
      go_wp2_with fail
      refine (Try.Builder_String_any b0 b0 _ w3 hbd3 (by have := hb3.size; omega)).mono ?_
      rintro e w4 ⟨rfl, hb4⟩
      go_wp2_with fail
      go_ret2
      refine ⟨?_, hbel.trans ((hb3.trans hb4).mono hb00)⟩
      rw [← HD.out]
      simp [toL, ofL]


set_option maxHeartbeats 2000000 in
set_option maxRecDepth 100000 in
theorem ref_fold (n b : ByteArray) (w : World) (hn : n.size ≤ 1000000) (hb : b.size ≤ 1000000) :
    Calls Try.prog 18 #[.agg #[.string n, .string b]] w fun e w' => e = .returned (.string (ofL (foldF (toL n) (toL b)))) ∧ Below w.heap.size w w' := by
  have HF := Lib.hid (foldF_le (toL n) (toL b))
  rw [toL_length, toL_length] at HF
  have hnn : n.size + 1 ≤ 9223372036854775807 := by omega
  go_enter Try.func18, Try.ntmps18
  go_wp2_with fail
  (with_reducible refine (ref_words b _ hb).mono ?_)
  rintro e w2 ⟨v, rfl, hown, hb2⟩
  have hbw : Below w.heap.size w w2 := ((Below.refl _ _).alloc (Nat.le_refl _) _).trans (hb2.mono (by simp))
  obtain ⟨A, c, rfl, hrow⟩ := own_row hown
  have HROW := Lib.hid hrow
  clear hrow hown hb2
  have hst : FoldAt (foldF (toL n) (toL b)) (words (toL b)) 0 (toL ⟨#[]⟩) (toL (n ++ ⟨#[58]⟩)) := by
    have : toL (n ++ ⟨#[58]⟩) = toL n ++ [58] := by simp [toL]
    rw [this]; exact FoldAt.start _ _
  go_wp2_with fail
  generalize n ++ ⟨#[58]⟩ = line0 at *
  go_loop [3, 4, 6] (fun o ln ix => ∃ (k : Nat) (out line : ByteArray), k ≤ (words (toL b)).length ∧ ix = .int .i64 k ∧ o = .string out ∧ ln = .string line ∧ FoldAt (foldF (toL n) (toL b)) (words (toL b)) k (toL out) (toL line)) (fun _ _ ix => (words (toL b)).length - (intOf ix).toNat)
  case atStart => exact ⟨0, ⟨#[]⟩, line0, by omega, rfl, rfl, rfl, hst⟩
  case round =>
    obtain ⟨k, out, line, hk, rfl, rfl, rfl, hat⟩ := hrel
    have hws := wordsAux_sum (toL b) []
    rw [← words, toL_length] at hws
    have hlen := hat.len
    rw [toL_length, toL_length] at hlen
    by_cases hlt : k < (words (toL b)).length
    · have hlen2 := hat.len2 hlt
      have HF2 := HF.out
      rw [toL_length, toL_length] at hlen2
      obtain ⟨g, off, rfl, hcell⟩ := HROW.out.cell (k := k) (by simpa using hlt)
      rw [List.getElem_map] at hcell
      obtain ⟨x, hx⟩ : ∃ x, ofL (words (toL b))[k] = x := ⟨_, rfl⟩
      have hxL : (words (toL b))[k] = toL x := by rw [← hx, toL_ofL]
      have HXL := Lib.hid hxL
      rw [hx] at hcell
      rw [hxL, toL_length] at hlen2
      clear hx hxL
      have hfit := fun hc => hat.fits hlt hc
      have hturn := fun h0 hc => hat.turns hlt h0 hc
      rw [HXL.out, toL_length, toL_length] at hfit hturn
      have HFIT := Lib.hid hfit; have HTURN := Lib.hid hturn
      clear hfit hturn
      have hs1 : line.size + 1 + x.size ≤ 4000000 := by omega
      have hs2 : 1 + x.size ≤ 4000000 := by omega
      have hs3 : out.size + line.size ≤ 4000000 := by omega
      have hs4 : line.size + 1 ≤ 4000000 := by omega
      have hs5 : out.size + line.size + 1 ≤ 4000000 := by omega
      clear hlen hlen2 HF2
      by_cases hz : k = 0
      · subst hz
        rw [Nat.add_zero] at hcell
        go_wp2_with fail
        go_round
        case rel =>
          refine ⟨1, out, line ++ ⟨#[32]⟩ ++ x, by omega, rfl, rfl, rfl, ?_⟩
          have := HFIT.out (.inl rfl)
          simpa [toL] using this
        case measure => simp [intOf] <;> omega
      · have hz' : ((k : Int) == 0) = false := beq_eq_false_iff_ne.2 (by omega)
        by_cases hf : line.size + 1 + x.size ≤ 78
        · have hf' : decide ((line.size : Int) + 1 + (x.size : Int) ≤ 78) = true := by simp; omega
          go_wp2_with fail
          go_round
          case rel =>
            refine ⟨k + 1, out, line ++ ⟨#[32]⟩ ++ x, by omega, by go_num, rfl, rfl, ?_⟩
            have := HFIT.out (.inr hf)
            simpa [toL] using this
          case measure => simp [intOf] <;> omega
        · have hf' : decide ((line.size : Int) + 1 + (x.size : Int) ≤ 78) = false := by simp; omega
          go_wp2_with fail
          go_round
          case rel =>
            refine ⟨k + 1, out ++ line ++ ⟨#[10]⟩, ⟨#[32]⟩ ++ x, by omega, by go_num, rfl, rfl, ?_⟩
            have := HTURN.out (by omega) hf
            simpa [toL] using this
          case measure => simp [intOf] <;> omega
    · have HD := Lib.hid (hat.done (by omega))
      have HF2 := HF.out
      have hs3 : out.size + line.size ≤ 4000000 := by omega
      have hs5 : out.size + line.size + 1 ≤ 4000000 := by omega
      clear hlen HF2
      go_wp2_with fail
      go_ret
      refine ⟨?_, hbw⟩
      rw [← HD.out]
      exact congrArg (fun x => Ending.returned (.string x)) (toL_inj (by simp [toL, ofL]))

end Go.Proofs.Ytaigbplfbfaghaa
