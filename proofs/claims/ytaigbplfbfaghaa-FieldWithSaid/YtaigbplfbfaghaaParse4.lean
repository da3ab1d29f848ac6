/- Walks over the methods of field.parser: body. -/
import Derived.Test.YtaigbplfbfaghaaParse3
import Derived.Test.YtaigbplfbfaghaaParseQ
namespace Go.Proofs.Ytaigbplfbfaghaa
set_option linter.unusedSimpArgs false
set_option linter.unusedVariables false
open Go.RowKit

theorem pWords_succ (n : Nat) (l : List UInt8) (st : PSt) : pWords (n + 1) l st = if (pWord l st).1 = true then pWords n l (pWord l st).2 else (pWord l st).2 := rfl
theorem PLeft.trans {w w' w'' : World} {p : Nat} {s : ByteArray} {st st' : PSt} (h : PLeft w w' p s st) (k : PLeft w' w'' p s st') : PLeft w w'' p s st' := ⟨k.at_, h.below.trans k.below⟩

set_option maxHeartbeats 4000000 in
set_option maxRecDepth 100000 in
theorem prs_body_bad (p : Nat) (s : ByteArray) (st : PSt) (w : World) (h : PAt w p s st) (he : st.e ≠ 0) :
    Calls Try.prog 57 #[.pointer (some ⟨p, 0, none⟩)] w fun e w' => e = .returned (.tuple #[]) ∧ PLeft w w' p s st := by
  have he' : (st.e == 0) = false := by simpa using he
  go_enter Try.func57, Try.ntmps57
  go_wp2_with fail
  go_loopg [2] 1 (fun _ _ wr => PAt wr p s st ∧ Below p w wr)
  case atStart => exact ⟨h, Below.refl _ _⟩
  case round =>
    obtain ⟨hP, hB⟩ := hrel
    have HE := Lib.hid he
    clear he
    go_wp2_with fail
    (with_reducible refine (prs_word_bad p s st _ hP HE.out).mono ?_)
    rintro e w1 ⟨rfl, hl⟩
    obtain ⟨hc0, hc1, hc2, hc3, hc5⟩ := hl.at_.cells
    go_wp2_with fail
    go_quiet (fail)
    go_wp2_with fail
    go_end0
    exact ⟨rfl, hl.at_.drewN _, below_drewN (hB.trans hl.below) _⟩

set_option maxHeartbeats 4000000 in
set_option maxRecDepth 100000 in
theorem prs_body_ok (p : Nat) (s : ByteArray) (st : PSt) (w : World) (h : PAt w p s st) (he : st.e = 0) (hs : s.size ≤ 1000000) (hat : st.at_ ≤ st.to) (hto : st.to ≤ s.size) (hne : st.fields ≠ []) (hn64 : st.fields.length ≤ 64) (hlb : (lastBody st.fields).length ≤ 900000) :
    Calls Try.prog 57 #[.pointer (some ⟨p, 0, none⟩)] w fun e w' => e = .returned (.tuple #[]) ∧ PLeft w w' p s (pBody (toL s) st) := by
  have HL := Lib.hid (toL_length s)
  go_enter Try.func57, Try.ntmps57
  go_wp2_with fail
  go_loopg [2] (s.size + 1) (fun g _ wr => ∃ st', pWords (s.size + 1) (toL s) st = pWords g (toL s) st' ∧ st'.e = 0 ∧ st'.at_ ≤ st'.to ∧ st'.to = st.to ∧ st'.fields.length = st.fields.length ∧ (lastBody st'.fields).length ≤ 900000 + 2 * st'.at_ ∧ st'.to - st'.at_ < g ∧ PAt wr p s st' ∧ Below p w wr)
  case atStart => exact ⟨st, rfl, he, hat, rfl, rfl, by omega, by omega, h, Below.refl _ _⟩
  case round =>
    obtain ⟨st', hq, he1, ha1, ht1, hf1, hb1, hm, hP, hB⟩ := hrel
    obtain ⟨m, rfl⟩ : ∃ m, gk = m + 1 := ⟨gk - 1, by omega⟩
    have hne1 : st'.fields ≠ [] := fun e => by rw [e] at hf1; exact hne (List.eq_nil_of_length_eq_zero hf1.symm)
    have HW := Lib.hid (prs_word_ok p s st' wr hP he1 hs ha1 (by omega) hne1 (by omega) (by omega))
    rw [pWords_succ m (toL s) st'] at hq
    have HQ := Lib.hid hq
    have hft := pWord_true (toL s) st' ha1 (by rw [HL.out]; omega) hne1
    have hff := pWord_false (toL s) st'
    generalize pWord (toL s) st' = r at *
    obtain ⟨r1, r2⟩ := r
    have HT := Lib.hid hft; have HFF := Lib.hid hff
    have HX := Lib.hid (And.intro (And.intro he1 ht1) (And.intro hf1 hb1))
    clear hft hff hq he1 ht1 hf1 hb1 he
    rcases r1 with _ | _
    · obtain ⟨hr1, hr2, hr3⟩ := HFF.out rfl
      simp only at hr1 hr2 hr3
      have HR := Lib.hid (And.intro hr1 (And.intro hr2 hr3))
      clear hr1 hr2 hr3
      go_wp2_with fail
      (with_reducible refine HW.out.mono ?_)
      rintro e w1 ⟨rfl, hl⟩
      have HB := Lib.hid (show pBody (toL s) st = if r2.e = 0 ∧ 8192 < (lastBody r2.fields).length then pFail r2 r2.frm 5 else r2 by
        have := HQ.out.trans (if_neg (by simp))
        unfold pBody; rw [HL.out, this])
      obtain ⟨hr1, hr2, hr3⟩ := HR.out
      have hner : r2.fields ≠ [] := by rw [hr1]; exact hne1
      have hnl : r2.fields.length ≤ 64 := by rw [hr1, HX.out.2.1]; exact hn64
      have hl0 : 0 < r2.fields.length := List.length_pos_iff.2 hner
      have hlr : (lastBody r2.fields).length ≤ 3000000 := by rw [hr1]; have := HX.out.2.2; have := HX.out.1.2; omega
      clear hr1 hr2 hr3
      have hP1 := hl.at_
      have hB1 := hB.trans hl.below
      clear hl hP hB
      obtain ⟨hc0, hc1, hc2, hc3, hc5⟩ := hP1.cells
      obtain ⟨g, c, hd4, hdb, hdf, hpg, hgl, hput⟩ := hP1.last hner
      obtain ⟨b, hbb⟩ : ∃ b, ofL (lastBody r2.fields) = b := ⟨_, rfl⟩
      have HBB := Lib.hid (show lastBody r2.fields = toL b by rw [← hbb, toL_ofL])
      rw [hbb] at hdb
      rw [HBB.out, toL_length] at hlr HB
      clear hbb hput
      by_cases her : r2.e = 0
      · have her' : (r2.e == 0) = true := by simpa using her
        have n1 : (0 : Int) ≤ (r2.fields.length : Int) - 1 := by omega
        have n2 : (r2.fields.length : Int) - 1 < (r2.fields.length : Int) := by omega
        have n3 : ((r2.fields.length : Int) - 1).toNat = r2.fields.length - 1 := by omega
        have n4 : (1 : Int) ≤ (r2.fields.length : Int) := by omega
        have n5 : IntKind.i64.wrap ((r2.fields.length : Int) - 1) = (r2.fields.length : Int) - 1 := IntWalk.i64_in _ (by omega)
        by_cases h8 : 8192 < b.size
        · have h8' : decide ((8192 : Int) < (b.size : Int)) = true := by simp; omega
          have HB2 := Lib.hid (HB.out.trans (if_pos ⟨her, h8⟩))
          clear her
          go_wp2_with fail
          go_quiet (fail)
          have hP2 := hP1.drewN nq
          have hB2 := below_drewN hB1 nq
          have hc1' : (w1.drewN nq).cell? ⟨p, 1, none⟩ = some (.int .i64 r2.frm) := hc1
          generalize w1.drewN nq = w2 at hP2 hB2 hc1' ⊢
          clear n1 n2 n3 n4 n5
          go_wp2_with fail
          (with_reducible refine (prs_fail p s r2 _ _ _ hP2 (by omega)).mono ?_)
          rintro e w3 ⟨rfl, hl⟩
          rw [Int.toNat_natCast] at hl
          go_wp2_with fail
          go_end0
          rw [HB2.out]
          exact ⟨rfl, hl.at_, hB2.trans hl.below⟩
        · have h8' : decide ((8192 : Int) < (b.size : Int)) = false := by simp; omega
          have HB2 := Lib.hid (HB.out.trans (if_neg (fun h => h8 h.2)))
          clear her
          go_wp2_with fail
          go_quiet (fail)
          have hP2 := hP1.drewN nq
          have hB2 := below_drewN hB1 nq
          clear n1 n2 n3 n4 n5
          go_wp2_with fail
          go_end0
          rw [HB2.out]
          exact ⟨rfl, hP2, hB2⟩
      · have her' : (r2.e == 0) = false := by simpa using her
        have HB2 := Lib.hid (HB.out.trans (if_neg (fun h => her h.1)))
        clear her
        go_wp2_with fail
        go_quiet (fail)
        go_wp2_with fail
        go_end0
        rw [HB2.out]
        exact ⟨rfl, hP1.drewN _, below_drewN hB1 _⟩
    · obtain ⟨_, hr1, hr2, hr3, hr4, hr5, hr6, hr7⟩ := HT.out rfl
      simp only at hr1 hr2 hr3 hr4 hr5 hr6 hr7
      have HR := Lib.hid (And.intro hr1 (And.intro hr2 (And.intro hr3 (And.intro hr4 (And.intro hr5 (And.intro hr6 hr7))))))
      clear hr1 hr2 hr3 hr4 hr5 hr6 hr7
      go_wp2_with fail
      (with_reducible refine HW.out.mono ?_)
      rintro e w1 ⟨rfl, hl⟩
      go_wp2_with fail
      go_roundg m
      case measure => omega
      case rel =>
        obtain ⟨hr1, hr2, hr3, hr4, hr5, hr6, hr7⟩ := HR.out
        obtain ⟨⟨he1, ht1⟩, hf1, hb1⟩ := HX.out
        have := HQ.out.trans (if_pos (by simp))
        exact ⟨r2, this, hr1, by omega, by omega, by omega, by omega, by omega, hl.at_, hB.trans hl.below⟩

end Go.Proofs.Ytaigbplfbfaghaa
