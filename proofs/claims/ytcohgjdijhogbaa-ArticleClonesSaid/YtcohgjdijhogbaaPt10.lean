/- Lemmas and walks, part 10. -/
import Derived.Test.YtcohgjdijhogbaaPt8
import Derived.Test.YtcohgjdijhogbaaPt9
import Derived.Test.YtcohgjdijhogbaaPt1
namespace Go.Proofs.Ytcohgjdijhogbaa
set_option linter.unusedSimpArgs false
set_option linter.unusedVariables false
open Go.RowKit

theorem isBuilder_below {T e : TypeId} {B b : Nat} {bs : List Value} {w w' : World} (h : Lib.IsBuilder T e B b bs w) (hb : Below w.heap.size w w') : Lib.IsBuilder T e B b bs w' := by
  have hh : ∀ p, Lib.BuilderAt T e B b p bs w → Lib.BuilderAt T e B b p bs w' := by
    rintro p ⟨hB, v, hk, hown, hne⟩
    exact ⟨hB, v, (hb.block b (heap_lt hk)).trans hk, own_below hown hb, hne⟩
  rcases h with h | h
  · exact .inl (hh _ h)
  · exact .inr (hh _ h)

structure FoldWr (n b : ByteArray) (w wr : World) (b0 k : Nat) (A : Option Addr) (c : Nat) (line : ByteArray) : Prop where
  ex : ∃ out, Lib.IsBuilder 72 5 b0 b0 (Lib.byteCells out) wr ∧ b0 ≤ wr.heap.size ∧ w.heap.size ≤ b0 ∧ Below w.heap.size w wr ∧
    wr.ownsRow w.heap.size 9 1 (.slice A (words (toL b)).length c) (words (toL b)).length (strsL (words (toL b))) ∧ FoldAt (foldF (toL n) (toL b)) (words (toL b)) k out (toL line)

set_option maxHeartbeats 2000000 in
set_option maxRecDepth 100000 in
theorem fld_fold_bad (n b : ByteArray) (w : World) (hn : n.size ≤ 1100000) (hb : b.size ≤ 1100000) (hc : checkF (toL n) (toL b) ≠ 0) :
    Calls Try.prog 64 #[.agg #[.string n, .string b]] w fun e w' => e = .returned (.tuple #[.string ⟨#[]⟩, .int .i64 (checkF (toL n) (toL b))]) ∧ Below w.heap.size w w' := by
  have h1 : (checkF (toL n) (toL b) != 0) = true := by simpa using hc
  clear hc
  go_enter Try.func64, Try.ntmps64
  go_wp2_with (go_at_call 74; refine (fld_check n b _ hn hb).mono ?_; rintro e w1 ⟨rfl, hb1⟩)
  go_ret2
  exact ⟨rfl, ((Below.refl _ _).alloc (Nat.le_refl _) _).trans (hb1.mono (by simp))⟩

set_option maxHeartbeats 2000000 in
set_option maxRecDepth 100000 in
theorem fld_fold_ok (n b : ByteArray) (w : World) (hn : n.size ≤ 1100000) (hb : b.size ≤ 1100000) (hc : checkF (toL n) (toL b) = 0) :
    Calls Try.prog 64 #[.agg #[.string n, .string b]] w fun e w' => e = .returned (.tuple #[.string (ofL (foldF (toL n) (toL b))), .int .i64 0]) ∧ Below w.heap.size w w' := by
  have HF := Lib.hid (foldF_le (toL n) (toL b))
  rw [toL_length, toL_length] at HF
  go_enter Try.func64, Try.ntmps64
  go_wp2_with fail
  refine (fld_check n b _ hn hb).mono ?_
  rintro e w1 ⟨rfl, hb1⟩
  have hbw : Below w.heap.size w w1 := ((Below.refl _ _).alloc (Nat.le_refl _) _).trans (hb1.mono (by simp))
  have hc0 : w1.cell? ⟨w.heap.size, 0, none⟩ = some (.string n) := by rw [hb1.cell (p := ⟨w.heap.size, 0, none⟩) (by simp)]; simp
  have hc1 : w1.cell? ⟨w.heap.size, 1, none⟩ = some (.string b) := by rw [hb1.cell (p := ⟨w.heap.size, 1, none⟩) (by simp)]; simp
  have hz1 : w.heap.size < w1.heap.size := by have := hb1.size; simp at this; omega
  clear hb1
  rw [hc]
  clear hc
  have hnn : n.size + 1 ≤ 9223372036854775807 := by omega
  go_wp2_with fail
  refine (asc_words b _ hb).mono ?_
  rintro e w2 ⟨v, rfl, hown, hb2⟩
  obtain ⟨A, c, rfl, hrow⟩ := own_row hown
  clear hrow
  have hbld := (Lib.fresh_isBuilder 72 5 w1)
  have hst : FoldWr n b w w2 w1.heap.size 0 A c (n ++ ⟨#[58]⟩) := by
    refine ⟨[], isBuilder_below hbld hb2, ?_, by omega, ?_, own_mono hown (by simp; omega), ?_⟩
    · have := hb2.size; simp at this; omega
    · exact (hbw.alloc hbw.size _).trans (hb2.mono (by simp; omega))
    · have : toL (n ++ ⟨#[58]⟩) = toL n ++ [58] := by simp [toL]
      rw [this]; exact FoldAt.start _ _
  clear hb2 hown hbld hbw hc0 hc1
  generalize w1.heap.size = b0 at *
  generalize n ++ ⟨#[58]⟩ = line0 at *
  go_wp2_with fail
  go_loopw [6, 7, 9, 22] (fun ln cn _ ix wr => ∃ (k : Nat) (line : ByteArray), k ≤ (words (toL b)).length ∧ ix = .int .i64 k ∧ cn = .int .i64 k ∧ ln = .string line ∧ FoldWr n b w wr b0 k A c line) (fun _ _ _ ix _ => (words (toL b)).length - (intOf ix).toNat)
  case atStart => exact ⟨0, line0, by omega, rfl, rfl, rfl, hst⟩
  case round =>
    obtain ⟨k, line, hk, rfl, rfl, rfl, ⟨out, hbd, hb0, hb00, hbel, hown, hat⟩⟩ := hrel
    have hws := wordsAux_sum (toL b) []
    rw [← words, toL_length] at hws
    have hlen := hat.len
    rw [toL_length] at hlen
    by_cases hlt : k < (words (toL b)).length
    · have hlen2 := hat.len2 hlt
      have HF2 := HF.out
      rw [toL_length] at hlen2
      obtain ⟨A', c', he, hrow⟩ := own_row hown
      obtain ⟨rfl, rfl⟩ : A = A' ∧ c = c' := by injection he with a _ c; exact ⟨a, c⟩
      clear he
      obtain ⟨g, off, rfl, hcell⟩ := hrow.cell (k := k) (by simpa using hlt)
      rw [List.getElem_map] at hcell
      obtain ⟨x, hx⟩ : ∃ x, ofL (words (toL b))[k] = x := ⟨_, rfl⟩
      have hxL : (words (toL b))[k] = toL x := by rw [← hx, toL_ofL]
      have HXL := Lib.hid hxL
      rw [hx] at hcell
      rw [hxL, toL_length] at hlen2
      clear hrow hx hxL
      have hfit := fun hc => hat.fits hlt hc
      have hturn := fun h0 hc => hat.turns hlt h0 hc
      rw [HXL.out, toL_length, toL_length] at hfit hturn
      have HFIT := Lib.hid hfit; have HTURN := Lib.hid hturn
      clear hfit hturn
      have hs1 : line.size + 1 + x.size ≤ 4000000 := by omega
      have hs2 : 1 + x.size ≤ 4000000 := by omega
      have hs3 : line.size + (1 + x.size) ≤ 4000000 := by omega
      have hs4 : line.size + 1 ≤ 4000000 := by omega
      have hs5 : out.length + (line.size + 1) ≤ 100000000 := by omega
      clear hlen hlen2 HF2
      have hW : Lib.IsBuilder 72 5 b0 b0 (Lib.byteCells out) wr := hbd
      by_cases hz : k = 0
      · subst hz
        rw [Nat.add_zero] at hcell
        go_wp2_with fail
        go_roundw
        case rel =>
          refine ⟨1, line ++ (⟨#[32]⟩ ++ x), by omega, rfl, rfl, rfl, ⟨out, hbd, hb0, hb00, hbel, hown, ?_⟩⟩
          have := HFIT.out (.inl rfl)
          simpa [toL] using this
        case measure => simp [intOf] <;> omega
      · have hz' : decide ((0 : Int) < (k : Int)) = true := by simp; omega
        by_cases hf : line.size + 1 + x.size ≤ 78
        · have hf' : decide ((78 : Int) < (line.size : Int) + 1 + (x.size : Int)) = false := by simp; omega
          go_wp2_with fail
          go_roundw
          case rel =>
            refine ⟨k + 1, line ++ (⟨#[32]⟩ ++ x), by omega, by go_num, by go_num, rfl, ⟨out, hbd, hb0, hb00, hbel, hown, ?_⟩⟩
            have := HFIT.out (.inr hf)
            simpa [toL] using this
          case measure => simp [intOf] <;> omega
        · have hf' : decide ((78 : Int) < (line.size : Int) + 1 + (x.size : Int)) = true := by simp; omega
          go_wp2_with fail
          (with_reducible refine (bld_write b0 b0 out _ wr hbd ?hlen hb0).mono ?_)
          case hlen => rw [app_size]; show _ + (line.size + 1) ≤ _; omega
          rintro e w3 ⟨rfl, hbd3, hb3, hk3⟩
          go_wp2_with fail
          go_roundw
          case rel =>
            refine ⟨k + 1, ⟨#[32]⟩ ++ x, by omega, by go_num, by go_num, congrArg Value.string (toL_inj (by simp [toL])), ⟨out ++ toL (line ++ ⟨#[10]⟩), hbd3, by have := hb3.size; omega, hb00, hbel.trans (hb3.mono hb00), own_keeps hown hk3 (by decide) (by decide), ?_⟩⟩
            have := HTURN.out (by omega) hf
            simpa [toL] using this
          case measure => simp [intOf] <;> omega
    · have HD := Lib.hid (hat.done (by omega))
      have HF2 := HF.out
      have hs4 : line.size + 1 ≤ 4000000 := by omega
      have hs5 : out.length + (line.size + 1) ≤ 100000000 := by omega
      clear hlen HF2
      go_wp2_with fail
      (with_reducible refine (bld_write b0 b0 out _ wr hbd ?hlen hb0).mono ?_)
      case hlen => rw [app_size]; show _ + (line.size + 1) ≤ _; omega
      rintro e w3 ⟨rfl, hbd3, hb3, hk3⟩
      go_wp2_with fail
      refine (Try.Builder_String_any b0 b0 _ w3 hbd3 (by have := hb3.size; omega)).mono ?_
      rintro e w4 ⟨rfl, hb4⟩
      go_wp2_with fail
      go_ret2
      refine ⟨?_, hbel.trans ((hb3.trans hb4).mono hb00)⟩
      rw [← HD.out]
      simp [toL, ofL]


end Go.Proofs.Ytcohgjdijhogbaa

namespace Go.Proofs.Ytcohgjdijhogbaa
set_option linter.unusedSimpArgs false
set_option linter.unusedVariables false
open Go.RowKit

abbrev fldsV (l : List Fd) : List Value := l.flatMap fun f => [.string (ofL f.1), .string (ofL f.2)]
theorem fldsV_length (l : List Fd) : (fldsV l).length = l.length * 2 := by
  induction l with
  | nil => rfl
  | cons x r ih => simp [fldsV] at ih ⊢; omega
theorem fldsV_at (l : List Fd) (k : Nat) (h : k < l.length) : (fldsV l)[k * 2]? = some (.string (ofL l[k].1)) ∧ (fldsV l)[k * 2 + 1]? = some (.string (ofL l[k].2)) := by
  induction l generalizing k with
  | nil => simp at h
  | cons x r ih =>
    cases k with
    | zero => simp [fldsV]
    | succ k =>
      have := ih k (by simpa using h)
      simp only [fldsV, List.flatMap_cons] at this ⊢
      rw [show (k + 1) * 2 = k * 2 + 2 from by omega, List.getElem?_append_right (by simp), List.getElem?_append_right (by simp)]
      simpa using this

/-- The two cells of element k. -/
theorem Row.field {w : World} {A : Option Addr} {l : List Fd} (h : Row w A (fldsV l)) {k : Nat} (hk : k < l.length) :
    ∃ b off, A = some ⟨b, off, none⟩ ∧ w.cell? ⟨b, off + k * 2, none⟩ = some (.string (ofL l[k].1)) ∧ w.cell? ⟨b, off + k * 2 + 1, none⟩ = some (.string (ofL l[k].2)) := by
  obtain ⟨b, off, e, _, hc⟩ := h.at (k := 0) (by rw [fldsV_length]; omega)
  obtain ⟨h1, h2⟩ := fldsV_at l k hk
  exact ⟨b, off, e, hc _ _ h1, by rw [Nat.add_assoc]; exact hc _ _ h2⟩

theorem Row.field' {w : World} {bb off : Nat} {l : List Fd} (h : Row w (some ⟨bb, off, none⟩) (fldsV l)) {k : Nat} (hk : k < l.length) {n b : ByteArray} (hn : ofL l[k].1 = n) (hb : ofL l[k].2 = b) :
    w.cell? ⟨bb, off + k * 2, none⟩ = some (.string n) ∧ w.cell? ⟨bb, off + k * 2 + 1, none⟩ = some (.string b) := by
  obtain ⟨b', off', e, h1, h2⟩ := h.field hk
  injection e with e; injection e with e1 e2
  subst e1; subst e2; subst hn; subst hb
  exact ⟨h1, h2⟩

/-- Texts that no step makes too long. -/
def Mild (l : List Fd) : Prop := l.length ≤ 1000 ∧ ∀ f ∈ l, f.1.length ≤ 1100000 ∧ f.2.length ≤ 1100000

/-- The text of the first fields, or the first error. -/
def printGo : List Fd → List UInt8 → List UInt8 × Int
  | [], out => if 65536 < out.length then ([], 5) else (out, 0)
  | f :: r, out => if checkF f.1 f.2 ≠ 0 then ([], checkF f.1 f.2) else printGo r (out ++ foldF f.1 f.2)
def printF (l : List Fd) : List UInt8 × Int := if 64 < l.length then ([], 9) else printGo l []

set_option maxHeartbeats 2000000 in
set_option maxRecDepth 100000 in
theorem fld_print (A : Option Addr) (l : List Fd) (c : Nat) (w : World) (hr : Row w A (fldsV l)) (hl : Mild l) :
    Calls Try.prog 54 #[.slice A l.length c] w fun e w' => e = .returned (.tuple #[.string (ofL (printF l).1), .int .i64 (printF l).2]) ∧ Below w.heap.size w w' := by
  obtain ⟨hl1, hl2⟩ := hl
  have HL2 := Lib.hid hl2; have HR := Lib.hid hr; clear hl2 hr
  by_cases h64 : 64 < l.length
  · have h64' : decide ((64 : Int) < (l.length : Int)) = true := by simp; omega
    have H := Lib.hid (show printF l = ([], 9) by simp [printF, h64])
    go_enter Try.func54, Try.ntmps54
    go_wp2_with fail
    go_ret2
    rw [H.out]
    exact ⟨rfl, Below.refl _ _⟩
  · have h64' : decide ((64 : Int) < (l.length : Int)) = false := by simp; omega
    have H := Lib.hid (show printF l = printGo l [] by simp [printF, h64])
    go_enter Try.func54, Try.ntmps54
    go_wp2_with fail
    go_loopw [6, 7, 8, 14] (fun _ _ _ ix wr => ∃ (k : Nat) (out : List UInt8), k ≤ l.length ∧ ix = .int .i64 k ∧ Lib.IsBuilder 72 5 w.heap.size w.heap.size (Lib.byteCells out) wr ∧ printF l = printGo (l.drop k) out ∧ out.length ≤ k * 4000000 ∧ Below w.heap.size w wr) (fun _ _ _ ix _ => l.length - (intOf ix).toNat)
    case atStart => exact ⟨0, [], by omega, rfl, Lib.fresh_isBuilder _ _ w, H.out, Nat.zero_le _, (Below.refl _ _).alloc (Nat.le_refl _) _⟩
    case round =>
      obtain ⟨k, out, hk, rfl, hbd, hp, hsz, hbel⟩ := hrel
      by_cases hlt : k < l.length
      · rw [List.drop_eq_getElem_cons hlt, printGo] at hp
        have HP := Lib.hid hp; clear hp
        obtain ⟨bb, off, rfl, _⟩ := HR.out.at (k := 0) (by rw [fldsV_length]; omega)
        have hm := HL2.out _ (List.getElem_mem hlt)
        obtain ⟨n, hn⟩ : ∃ n, ofL l[k].1 = n := ⟨_, rfl⟩
        obtain ⟨b, hb⟩ : ∃ b, ofL l[k].2 = b := ⟨_, rfl⟩
        have hnL : l[k].1 = toL n := by rw [← hn, toL_ofL]
        have hbL : l[k].2 = toL b := by rw [← hb, toL_ofL]
        obtain ⟨hc1, hc2⟩ := (HR.out.below hbel).field' hlt hn hb
        rw [hnL, hbL] at HP hm
        rw [toL_length, toL_length] at hm
        clear hn hb hnL hbL
        obtain ⟨hm1, hm2⟩ := hm
        by_cases hcf : checkF (toL n) (toL b) = 0
        · have HP2 := Lib.hid (HP.out.trans (if_neg (by simp [hcf])))
          have HCF := Lib.hid hcf
          clear hcf
          have hf := foldF_le (toL n) (toL b)
          rw [toL_length, toL_length] at hf
          go_wp2_with fail
          (with_reducible refine (fld_fold_ok n b _ hm1 hm2 HCF.out).mono ?_)
          rintro e w1 ⟨rfl, hb1⟩
          have hb1' : Below wr.heap.size wr w1 := ((Below.refl _ _).alloc (Nat.le_refl _) _).trans (hb1.mono (by simp))
          have hbw1 := hbel.trans (hb1'.mono hbel.size)
          have hbd1 := isBuilder_below hbd hb1'
          obtain ⟨x, hx⟩ : ∃ x, ofL (foldF (toL n) (toL b)) = x := ⟨_, rfl⟩
          have HX := Lib.hid (show foldF (toL n) (toL b) = toL x by rw [← hx, toL_ofL])
          rw [HX.out, toL_length] at hf
          rw [hx]
          clear hx hb1 hbd
          go_wp2_with fail
          (with_reducible refine (bld_write _ _ out x w1 hbd1 ?hlen hbw1.size).mono ?_)
          case hlen => omega
          rintro e w2 ⟨rfl, hbd2, hb2, _⟩
          go_wp2_with fail
          go_roundw
          case rel =>
            refine ⟨k + 1, out ++ toL x, by omega, by go_num, hbd2, ?_, by rw [List.length_append, toL_length]; omega, hbw1.trans hb2⟩
            rw [HP2.out, HX.out]
          case measure => simp [intOf] <;> omega
        · have hcf' : (checkF (toL n) (toL b) != 0) = true := by simpa using hcf
          have HP2 := Lib.hid (HP.out.trans (if_pos hcf))
          have HCF := Lib.hid hcf
          clear hcf
          go_wp2_with fail
          (with_reducible refine (fld_fold_bad n b _ hm1 hm2 HCF.out).mono ?_)
          rintro e w1 ⟨rfl, hb1⟩
          have hb1' : Below wr.heap.size wr w1 := ((Below.refl _ _).alloc (Nat.le_refl _) _).trans (hb1.mono (by simp))
          have hbw1 := hbel.trans (hb1'.mono hbel.size)
          clear hb1
          go_wp2_with fail
          go_ret2
          rw [HP2.out]
          exact ⟨rfl, hbw1⟩
      · rw [List.drop_eq_nil_of_le (by omega), printGo] at hp
        have HP := Lib.hid hp; clear hp
        have HBL := Lib.hid (Lib.byteCells_length out)
        by_cases h5 : 65536 < out.length
        · have h5' : decide ((65536 : Int) < (out.length : Int)) = true := by simp; omega
          have HP2 := Lib.hid (HP.out.trans (if_pos h5))
          go_wp2_with fail
          (with_reducible refine (Try.Builder_Len _ _ _ wr hbd).mono ?_)
          rintro e w1 ⟨rfl, rfl⟩
          rw [HBL.out]
          go_wp2_with fail
          go_ret2
          rw [HP2.out]
          exact ⟨rfl, hbel⟩
        · have h5' : decide ((65536 : Int) < (out.length : Int)) = false := by simp; omega
          have HP2 := Lib.hid (HP.out.trans (if_neg h5))
          go_wp2_with fail
          (with_reducible refine (Try.Builder_Len _ _ _ wr hbd).mono ?_)
          rintro e w1 ⟨rfl, rfl⟩
          rw [HBL.out]
          go_wp2_with fail
          (with_reducible refine (Try.Builder_String_any _ _ _ _ hbd hbel.size).mono ?_)
          rintro e w2 ⟨rfl, hb2⟩
          go_wp2_with fail
          go_ret2
          rw [HP2.out]
          exact ⟨rfl, hbel.trans hb2⟩

end Go.Proofs.Ytcohgjdijhogbaa
