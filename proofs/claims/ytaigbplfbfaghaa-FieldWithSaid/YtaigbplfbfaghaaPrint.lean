/- Walks over field.Print and its reference. -/
import Derived.Test.YtaigbplfbfaghaaFold
import Derived.Test.YtaigbplfbfaghaaFdP
namespace Go.Proofs.Ytaigbplfbfaghaa
set_option linter.unusedSimpArgs false
set_option linter.unusedVariables false
open Go.RowKit

abbrev fldsV (l : List Fd) : List Value := l.flatMap fun f => [.string (ofL f.1), .string (ofL f.2)]
theorem fldsV_length (l : List Fd) : (fldsV l).length = l.length * 2 := by
  induction l with
  | nil => rfl
  | cons x r ih => simp [fldsV] at ih ⊢; omega
theorem fldsV_at (l : List Fd) (k : Nat) (h : k < l.length) : (fldsV l)[k * 2]? = some (.string (ofL l[k].1)) ∧ (fldsV l)[k * 2 + 1]? = some (.string (ofL l[k].2)) := by
  induction l generalizing k with
  | nil => simp at h
  | cons x r ih =>
    cases k with
    | zero => simp [fldsV]
    | succ k =>
      have := ih k (by simpa using h)
      simp only [fldsV, List.flatMap_cons] at this ⊢
      rw [show (k + 1) * 2 = k * 2 + 2 from by omega, List.getElem?_append_right (by simp), List.getElem?_append_right (by simp)]
      simpa using this

/-- The two cells of element k. -/
theorem Row.field {w : World} {A : Option Addr} {l : List Fd} (h : Row w A (fldsV l)) {k : Nat} (hk : k < l.length) :
    ∃ b off, A = some ⟨b, off, none⟩ ∧ w.cell? ⟨b, off + k * 2, none⟩ = some (.string (ofL l[k].1)) ∧ w.cell? ⟨b, off + k * 2 + 1, none⟩ = some (.string (ofL l[k].2)) := by
  obtain ⟨b, off, e, _, hc⟩ := h.at (k := 0) (by rw [fldsV_length]; omega)
  obtain ⟨h1, h2⟩ := fldsV_at l k hk
  exact ⟨b, off, e, hc _ _ h1, by rw [Nat.add_assoc]; exact hc _ _ h2⟩

theorem Row.field' {w : World} {bb off : Nat} {l : List Fd} (h : Row w (some ⟨bb, off, none⟩) (fldsV l)) {k : Nat} (hk : k < l.length) {n b : ByteArray} (hn : ofL l[k].1 = n) (hb : ofL l[k].2 = b) :
    w.cell? ⟨bb, off + k * 2, none⟩ = some (.string n) ∧ w.cell? ⟨bb, off + k * 2 + 1, none⟩ = some (.string b) := by
  obtain ⟨b', off', e, h1, h2⟩ := h.field hk
  injection e with e; injection e with e1 e2
  subst e1; subst e2; subst hn; subst hb
  exact ⟨h1, h2⟩

/-- Texts that no step makes too long. -/
def Mild (l : List Fd) : Prop := l.length ≤ 1000 ∧ ∀ f ∈ l, f.1.length ≤ 1000000 ∧ f.2.length ≤ 1000000

/-- The text of the first fields, or the first error. -/
def printGo : List Fd → List UInt8 → List UInt8 × Int
  | [], out => if 65536 < out.length then ([], 5) else (out, 0)
  | f :: r, out => if checkF f.1 f.2 ≠ 0 then ([], checkF f.1 f.2) else printGo r (out ++ foldF f.1 f.2)
def printF (l : List Fd) : List UInt8 × Int := if 64 < l.length then ([], 9) else printGo l []

set_option maxHeartbeats 2000000 in
set_option maxRecDepth 100000 in
theorem ref_print (A : Option Addr) (l : List Fd) (c : Nat) (w : World) (hr : Row w A (fldsV l)) (hl : Mild l) :
    Calls Try.prog 22 #[.slice A l.length c] w fun e w' => e = .returned (.tuple #[.string (ofL (printF l).1), .int .i64 (printF l).2]) ∧ Below w.heap.size w w' := by
  obtain ⟨hl1, hl2⟩ := hl
  have HL2 := Lib.hid hl2; have HR := Lib.hid hr; clear hl2 hr
  by_cases h64 : 64 < l.length
  · have h64' : decide ((64 : Int) < (l.length : Int)) = true := by simp; omega
    have H := Lib.hid (show printF l = ([], 9) by simp [printF, h64])
    go_enter Try.func22, Try.ntmps22
    go_wp2_with fail
    go_ret2
    rw [H.out]
    exact ⟨rfl, Below.refl _ _⟩
  · have h64' : decide ((64 : Int) < (l.length : Int)) = false := by simp; omega
    have H := Lib.hid (show printF l = printGo l [] by simp [printF, h64])
    go_enter Try.func22, Try.ntmps22
    go_wp2_with fail
    go_loopw [4, 5, 6] (fun o ix _ wr => ∃ (k : Nat) (out : ByteArray), k ≤ l.length ∧ ix = .int .i64 k ∧ o = .string out ∧ printF l = printGo (l.drop k) (toL out) ∧ out.size ≤ k * 4000000 ∧ Below w.heap.size w wr) (fun _ ix _ _ => l.length - (intOf ix).toNat)
    case atStart => exact ⟨0, ⟨#[]⟩, by omega, rfl, rfl, H.out, Nat.zero_le _, Below.refl _ _⟩
    case round =>
      obtain ⟨k, out, hk, rfl, rfl, hp, hsz, hbel⟩ := hrel
      by_cases hlt : k < l.length
      · rw [List.drop_eq_getElem_cons hlt, printGo] at hp
        have HP := Lib.hid hp; clear hp
        obtain ⟨bb, off, rfl, _⟩ := HR.out.at (k := 0) (by rw [fldsV_length]; omega)
        have hm := HL2.out _ (List.getElem_mem hlt)
        obtain ⟨n, hn⟩ : ∃ n, ofL l[k].1 = n := ⟨_, rfl⟩
        obtain ⟨b, hb⟩ : ∃ b, ofL l[k].2 = b := ⟨_, rfl⟩
        have hnL : l[k].1 = toL n := by rw [← hn, toL_ofL]
        have hbL : l[k].2 = toL b := by rw [← hb, toL_ofL]
        have HC := Lib.hid (fun wx (hx : Below w.heap.size w wx) => (HR.out.below hx).field' hlt hn hb)
        obtain ⟨hc1, hc2⟩ := HC.out wr hbel
        rw [hnL, hbL] at HP hm
        rw [toL_length, toL_length] at hm
        clear hn hb hnL hbL
        obtain ⟨hm1, hm2⟩ := hm
        go_wp2_with fail
        (with_reducible refine (ref_check n b _ hm1 hm2).mono ?_)
        rintro e w1 ⟨rfl, hb1⟩
        have hbw1 := hbel.trans (hb1.mono hbel.size)
        clear hc1 hc2
        obtain ⟨hc1, hc2⟩ := HC.out w1 hbw1
        by_cases hcf : checkF (toL n) (toL b) = 0
        · rw [hcf]
          have HP2 := Lib.hid (HP.out.trans (if_neg (by simp [hcf])))
          clear hcf
          go_wp2_with fail
          (with_reducible refine (ref_fold n b _ hm1 hm2).mono ?_)
          rintro e w2 ⟨rfl, hb2⟩
          have hf := foldF_le (toL n) (toL b)
          rw [toL_length, toL_length] at hf
          obtain ⟨x, hx⟩ : ∃ x, ofL (foldF (toL n) (toL b)) = x := ⟨_, rfl⟩
          have HX := Lib.hid (show foldF (toL n) (toL b) = toL x by rw [← hx, toL_ofL])
          rw [HX.out, toL_length] at hf
          rw [hx]
          clear hx
          have hsum : out.size + x.size ≤ 9223372036854775807 := by omega
          go_wp2_with fail
          go_roundw
          case rel =>
            refine ⟨k + 1, out ++ x, by omega, by go_num, rfl, ?_, by rw [app_size]; omega, hbw1.trans (hb2.mono hbw1.size)⟩
            rw [HP2.out, HX.out]
            exact congrArg _ (by simp [toL])
          case measure => simp [intOf] <;> omega
        · have hcf' : (checkF (toL n) (toL b) != 0) = true := by simpa using hcf
          have HP2 := Lib.hid (HP.out.trans (if_pos hcf))
          clear hcf
          go_wp2_with fail
          go_ret2
          rw [HP2.out]
          exact ⟨rfl, hbw1⟩
      · rw [List.drop_eq_nil_of_le (by omega), printGo, toL_length] at hp
        have HP := Lib.hid hp; clear hp
        by_cases h5 : 65536 < out.size
        · have h5' : decide ((65536 : Int) < (out.size : Int)) = true := by simp; omega
          have HP2 := Lib.hid (HP.out.trans (if_pos h5))
          go_wp2_with fail
          go_ret2
          rw [HP2.out]
          exact ⟨rfl, hbel⟩
        · have h5' : decide ((65536 : Int) < (out.size : Int)) = false := by simp; omega
          have HP2 := Lib.hid (HP.out.trans (if_neg h5))
          go_wp2_with fail
          go_ret2
          rw [HP2.out, ofL_toL]
          exact ⟨rfl, hbel⟩


set_option maxHeartbeats 2000000 in
set_option maxRecDepth 100000 in
theorem fld_print (A : Option Addr) (l : List Fd) (c : Nat) (w : World) (hr : Row w A (fldsV l)) (hl : Mild l) :
    Calls Try.prog 20 #[.slice A l.length c] w fun e w' => e = .returned (.tuple #[.string (ofL (printF l).1), .int .i64 (printF l).2]) ∧ Below w.heap.size w w' := by
  obtain ⟨hl1, hl2⟩ := hl
  have HL2 := Lib.hid hl2; have HR := Lib.hid hr; clear hl2 hr
  by_cases h64 : 64 < l.length
  · have h64' : decide ((64 : Int) < (l.length : Int)) = true := by simp; omega
    have H := Lib.hid (show printF l = ([], 9) by simp [printF, h64])
    go_enter Try.func20, Try.ntmps20
    go_wp2_with fail
    go_ret2
    rw [H.out]
    exact ⟨rfl, Below.refl _ _⟩
  · have h64' : decide ((64 : Int) < (l.length : Int)) = false := by simp; omega
    have H := Lib.hid (show printF l = printGo l [] by simp [printF, h64])
    go_enter Try.func20, Try.ntmps20
    go_wp2_with fail
    go_loopw [6, 7, 8, 14] (fun _ _ _ ix wr => ∃ (k : Nat) (out : List UInt8), k ≤ l.length ∧ ix = .int .i64 k ∧ Lib.IsBuilder 67 5 w.heap.size w.heap.size (Lib.byteCells out) wr ∧ printF l = printGo (l.drop k) out ∧ out.length ≤ k * 4000000 ∧ Below w.heap.size w wr) (fun _ _ _ ix _ => l.length - (intOf ix).toNat)
    case atStart => exact ⟨0, [], by omega, rfl, Lib.fresh_isBuilder _ _ w, H.out, Nat.zero_le _, (Below.refl _ _).alloc (Nat.le_refl _) _⟩
    case round =>
      obtain ⟨k, out, hk, rfl, hbd, hp, hsz, hbel⟩ := hrel
      by_cases hlt : k < l.length
      · rw [List.drop_eq_getElem_cons hlt, printGo] at hp
        have HP := Lib.hid hp; clear hp
        obtain ⟨bb, off, rfl, _⟩ := HR.out.at (k := 0) (by rw [fldsV_length]; omega)
        have hm := HL2.out _ (List.getElem_mem hlt)
        obtain ⟨n, hn⟩ : ∃ n, ofL l[k].1 = n := ⟨_, rfl⟩
        obtain ⟨b, hb⟩ : ∃ b, ofL l[k].2 = b := ⟨_, rfl⟩
        have hnL : l[k].1 = toL n := by rw [← hn, toL_ofL]
        have hbL : l[k].2 = toL b := by rw [← hb, toL_ofL]
        obtain ⟨hc1, hc2⟩ := (HR.out.below hbel).field' hlt hn hb
        rw [hnL, hbL] at HP hm
        rw [toL_length, toL_length] at hm
        clear hn hb hnL hbL
        obtain ⟨hm1, hm2⟩ := hm
        by_cases hcf : checkF (toL n) (toL b) = 0
        · have HP2 := Lib.hid (HP.out.trans (if_neg (by simp [hcf])))
          have HCF := Lib.hid hcf
          clear hcf
          have hf := foldF_le (toL n) (toL b)
          rw [toL_length, toL_length] at hf
          go_wp2_with fail
          (with_reducible refine (fld_fold_ok n b _ hm1 hm2 HCF.out).mono ?_)
          rintro e w1 ⟨rfl, hb1⟩
          have hb1' : Below wr.heap.size wr w1 := ((Below.refl _ _).alloc (Nat.le_refl _) _).trans (hb1.mono (by simp))
          have hbw1 := hbel.trans (hb1'.mono hbel.size)
          have hbd1 := isBuilder_below hbd hb1'
          obtain ⟨x, hx⟩ : ∃ x, ofL (foldF (toL n) (toL b)) = x := ⟨_, rfl⟩
          have HX := Lib.hid (show foldF (toL n) (toL b) = toL x by rw [← hx, toL_ofL])
          rw [HX.out, toL_length] at hf
          rw [hx]
          clear hx hb1 hbd
          go_wp2_with fail
          (with_reducible refine (bld_write _ _ out x w1 hbd1 ?hlen hbw1.size).mono ?_)
          case hlen => omega
          rintro e w2 ⟨rfl, hbd2, hb2, _⟩
          go_wp2_with fail
          go_roundw
          case rel =>
            refine ⟨k + 1, out ++ toL x, by omega, by go_num, hbd2, ?_, by rw [List.length_append, toL_length]; omega, hbw1.trans hb2⟩
            rw [HP2.out, HX.out]
          case measure => simp [intOf] <;> omega
        · have hcf' : (checkF (toL n) (toL b) != 0) = true := by simpa using hcf
          have HP2 := Lib.hid (HP.out.trans (if_pos hcf))
          have HCF := Lib.hid hcf
          clear hcf
          go_wp2_with fail
          (with_reducible refine (fld_fold_bad n b _ hm1 hm2 HCF.out).mono ?_)
          rintro e w1 ⟨rfl, hb1⟩
          have hb1' : Below wr.heap.size wr w1 := ((Below.refl _ _).alloc (Nat.le_refl _) _).trans (hb1.mono (by simp))
          have hbw1 := hbel.trans (hb1'.mono hbel.size)
          clear hb1
          go_wp2_with fail
          go_ret2
          rw [HP2.out]
          exact ⟨rfl, hbw1⟩
      · rw [List.drop_eq_nil_of_le (by omega), printGo] at hp
        have HP := Lib.hid hp; clear hp
        have HBL := Lib.hid (Lib.byteCells_length out)
        by_cases h5 : 65536 < out.length
        · have h5' : decide ((65536 : Int) < (out.length : Int)) = true := by simp; omega
          have HP2 := Lib.hid (HP.out.trans (if_pos h5))
          go_wp2_with fail
          (with_reducible refine (Try.Builder_Len _ _ _ wr hbd).mono ?_)
          rintro e w1 ⟨rfl, rfl⟩
          rw [HBL.out]
          go_wp2_with fail
          go_ret2
          rw [HP2.out]
          exact ⟨rfl, hbel⟩
        · have h5' : decide ((65536 : Int) < (out.length : Int)) = false := by simp; omega
          have HP2 := Lib.hid (HP.out.trans (if_neg h5))
          go_wp2_with fail
          (with_reducible refine (Try.Builder_Len _ _ _ wr hbd).mono ?_)
          rintro e w1 ⟨rfl, rfl⟩
          rw [HBL.out]
          go_wp2_with fail
          (with_reducible refine (Try.Builder_String_any _ _ _ _ hbd hbel.size).mono ?_)
          rintro e w2 ⟨rfl, hb2⟩
          go_wp2_with fail
          go_ret2
          rw [HP2.out]
          exact ⟨rfl, hbel.trans hb2⟩

end Go.Proofs.Ytaigbplfbfaghaa
