/- Walks over the methods of field.parser: name. -/
import Derived.Test.YtaigbplfbfaghaaParse
import Derived.Deep.RegionLaw
namespace Go.Proofs.Ytaigbplfbfaghaa
set_option linter.unusedSimpArgs false
set_option linter.unusedVariables false
open Go.RowKit

theorem PAt.drewN {w : World} {p : Nat} {s : ByteArray} {st : PSt} (h : PAt w p s st) (n : Nat) : PAt (w.drewN n) p s st := by
  obtain ⟨v, hh, hown⟩ := h
  exact ⟨v, hh, hown⟩
theorem more_nil {x : ByteArray} (h : x.size = 0) : moreLine (toL x) = false := by rw [toL_nil h]; rfl
theorem more_cons {x : ByteArray} (h : 0 < x.size) : moreLine (toL x) = isBlank (num x[0]) := by
  obtain ⟨r, e, _⟩ := toL_first h
  rw [e]; rfl

theorem info_field : (Try.prog.info? 28).map (fun i => (i.zero, i.size, i.bytes)) = some (some (.agg #[.string ⟨#[]⟩, .string ⟨#[]⟩]), 2, 32) := by kernel_rfl

set_option maxHeartbeats 2000000 in
set_option maxRecDepth 100000 in
theorem prs_name (p : Nat) (s : ByteArray) (st : PSt) (w : World) (h : PAt w p s st) (hs : s.size ≤ 1000000) (hpre : st.e = 0 → st.frm ≤ st.to ∧ st.to ≤ s.size ∧ st.fields.length ≤ 64) :
    Calls Try.prog 56 #[.pointer (some ⟨p, 0, none⟩)] w fun e w' => e = .returned (.tuple #[]) ∧ PLeft w w' p s (pName validName (toL s) st) := by
  obtain ⟨hc0, hc1, hc2, hc3, hc5⟩ := h.cells
  by_cases he : st.e = 0
  · obtain ⟨hft, hto, hn64⟩ := hpre he
    clear hpre
    have he' : (st.e != 0) = false := by simpa using he
    have HP := Lib.hid (show pName validName (toL s) st = _ from (by unfold pName; rw [if_neg (by simp [he])]))
    rw [← extract_toL] at HP
    clear he
    have i1 : (0 : Int) ≤ (st.frm : Int) := by omega
    have i2 : (st.frm : Int) ≤ (st.to : Int) := by omega
    have i3 : (st.to : Int) ≤ (s.size : Int) := by omega
    go_enter Try.func56, Try.ntmps56
    go_wp2_with fail
    go_quiet (fail)
    have hP1 := h.drewN nq
    have hB1 := below_drewN (Below.refl p w) nq
    obtain ⟨w1, hw1⟩ : ∃ w1, w1 = w.drewN nq := ⟨_, rfl⟩
    rw [← hw1] at hP1 hB1 ⊢
    clear hw1 hc0 hc1 hc2 hc3 hc5
    obtain ⟨hc0, hc1, hc2, hc3, hc5⟩ := hP1.cells
    have hxs := extract_size s st.frm st.to hto
    generalize s.extract st.frm st.to = x at *
    have hx1 : x.size ≤ 1000000 := by omega
    clear hxs
    obtain ⟨v, hh, hown⟩ := hP1
    obtain ⟨A, c, rfl, _⟩ := own_row hown
    have hP1 : PAt w1 p s st := ⟨_, hh, hown⟩
    have hc4 : w1.cell? ⟨p, 4, none⟩ = some (.slice A st.fields.length c) := by rw [Lib.cell_of_heap hh]; rfl
    have HH := Lib.hid hh
    clear hh
    by_cases hx0 : x.size = 0
    · have hxe : x.toList = [] := toList_nil hx0
      have hcol : findI (fun c => c == (58 : UInt8)) (toL x) 0 = -1 := by rw [toL_nil hx0]; rfl
      have HP2 := Lib.hid (HP.out.trans ((if_neg (by simp [more_nil hx0])).trans (if_pos (by rw [hcol]; decide))))
      have HC := Lib.hid hcol
      clear hx0 hcol
      go_wp2_with fail
      (with_reducible refine (idx_call _ _ _).mono ?_)
      rintro e w2 ⟨rfl, rfl⟩
      rw [show ((58 : Int).toNat.toUInt8) = (58 : UInt8) from rfl, HC.out]
      go_wp2_with fail
      (with_reducible refine (prs_fail p s st _ _ _ hP1 (by omega)).mono ?_)
      rw [Int.toNat_natCast]
      rintro e w2 ⟨rfl, hl⟩
      go_wp2_with fail
      go_end0
      rw [HP2.out]
      exact ⟨rfl, hl.at_, hB1.trans hl.below⟩
    · have hxe : x.toList.isEmpty = false := toList_cons hx0
      have hx2 : 0 < x.size := by omega
      have hmore := more_cons hx2
      clear hx0
      rcases hb : isBlank (num x[0]) with _ | _
      · rw [hb] at hmore
        have HP2 := Lib.hid (HP.out.trans (if_neg (by simp [hmore])))
        clear hmore
        have hir := findI_range (fun c => c == (58 : UInt8)) (toL x) 0
        rw [toL_length] at hir
        go_wp2_with (first | (go_at_call 75; refine (asc_isBlank _ _).mono ?_; rintro e w' ⟨rfl, rfl⟩))
        (with_reducible refine (idx_call _ _ _).mono ?_)
        rintro e w2 ⟨rfl, rfl⟩
        rw [show ((58 : Int).toNat.toUInt8) = (58 : UInt8) from rfl]
        generalize findI (fun c => c == (58 : UInt8)) (toL x) 0 = ii at *
        by_cases hneg : ii < 0
        · have hneg' : decide (ii < 0) = true := by simpa using hneg
          have HP3 := Lib.hid (HP2.out.trans (if_pos hneg))
          go_wp2_with fail
          (with_reducible refine (prs_fail p s st _ _ _ hP1 (by omega)).mono ?_)
          rw [Int.toNat_natCast]
          rintro e w2 ⟨rfl, hl⟩
          go_wp2_with fail
          go_end0
          rw [HP3.out]
          exact ⟨rfl, hl.at_, hB1.trans hl.below⟩
        · obtain ⟨k, rfl⟩ : ∃ k : Nat, ii = k := ⟨ii.toNat, by omega⟩
          have hneg' : decide ((k : Int) < 0) = false := by simp
          have HP3 := Lib.hid (HP2.out.trans (if_neg hneg))
          rw [Int.toNat_natCast] at HP3
          have hk : k < x.size := by omega
          clear hneg hir
          go_wp2_with fail
          (with_reducible refine (fld_validName _ _ ?hsz).mono ?_)
          case hsz => rw [extract_size _ _ _ (by omega)]; unfold maxLen; omega
          rintro e w2 ⟨rfl, hb2⟩
          have htk : toL (x.extract 0 k) = (toL x).take k := by rw [extract_toL]; simp [cutL]
          rw [htk]
          have HTK := Lib.hid htk
          have hP2 := hP1.keep hb2
          have hB2 := hB1.trans (hb2.mono (Nat.le_of_lt hP1.lt))
          clear hc0 hc1 hc2 hc3 hc5 hc4 htk
          obtain ⟨hc0, hc1, hc2, hc3, hc5⟩ := hP2.cells
          have hh2 := (hb2.block p hP1.lt).trans HH.out
          have hown2 := own_below hown hb2
          have hc4 : w2.cell? ⟨p, 4, none⟩ = some (.slice A st.fields.length c) := by rw [Lib.cell_of_heap hh2]; rfl
          have HH2 := Lib.hid hh2
          clear hh2 HH hP1 hB1 hown hb2
          rcases hv : validName ((toL x).take k) with _ | _
          · have HP4 := Lib.hid (HP3.out.trans (if_pos hv))
            clear hv
            go_wp2_with fail
            (with_reducible refine (prs_fail p s st _ _ _ hP2 (by omega)).mono ?_)
            rw [Int.toNat_natCast]
            rintro e w3 ⟨rfl, hl⟩
            go_wp2_with fail
            go_end0
            rw [HP4.out]
            exact ⟨rfl, hl.at_, hB2.trans hl.below⟩
          · have HP4 := Lib.hid (HP3.out.trans (if_neg (by simp [hv])))
            clear hv
            by_cases h64 : st.fields.length = 64
            · have h64' : ((st.fields.length : Int) == 64) = true := by simp [h64]
              have HP5 := Lib.hid (HP4.out.trans (if_pos h64))
              clear h64
              go_wp2_with fail
              (with_reducible refine (prs_fail p s st _ _ _ hP2 (by omega)).mono ?_)
              rw [Int.toNat_natCast]
              rintro e w3 ⟨rfl, hl⟩
              go_wp2_with fail
              go_end0
              rw [HP5.out]
              exact ⟨rfl, hl.at_, hB2.trans hl.below⟩
            · have h64' : ((st.fields.length : Int) == 64) = false := beq_eq_false_iff_ne.2 (by omega)
              have HP5 := Lib.hid (HP4.out.trans (if_neg h64))
              clear h64
              obtain ⟨i0, hi0, hz0, hz1, hz2⟩ := info_parts info_field
              have plt := hP2.lt
              have aw : (Value.slice A st.fields.length c).ownBlock ≠ some p := fun e => by have := (hown2.lt _ e).1; omega
              have j1 : (0 : Int) ≤ (k : Int) := by omega
              have j2 : (k : Int) ≤ (x.size : Int) := by omega
              go_wp2_with fail
              go_region_law
                ((refine step_append_lies _ (by rfl) _ _ _ (by rfl) (p + 1) 28 i0 _ 2 32 Try.underlying39 hi0 hz0 hz1 hz2 rfl (by omega) (.slice A st.fields.length c) _ (fldsV st.fields) (by rfl) ((hown2.alloc _).drew)
                    ⟨w2.heap.size, 0, none⟩ 1 1 [.string (x.extract 0 k), .string ⟨#[]⟩] (by rfl) (by rfl) (World.news_of_block (cs := #[.string (x.extract 0 k), .string ⟨#[]⟩]) (t := 28) (fr := (0, 0)) (heap_alloc_new w2 _)) (by simp [Value.oneCell'])
                    (by omega) (by unfold maxLen; omega) (by omega) (by simp; omega) (w2.heap.size + 1) (by simp) ?_
                  intro gg cap w3 hown3 hgrow hat hlt
                  have HB := Lib.hid ((hgrow.block p (by simp; omega) (Ne.symm aw)).trans ((Lib.alloc_old w2 _ p plt).trans HH2.out))
                  have hcz : w3.cell? ⟨p, 4, none⟩ = some (.slice A st.fields.length c) := by rw [Lib.cell_of_heap HB.out]; rfl
                  have hfz : w3.frozen? ⟨p, 4, none⟩ = false := Lib.frozen_of_heap HB.out 4))
              all_goals
                have hP4 : PAt (w3.setCell ⟨p, 4, none⟩ (.slice (some ⟨gg, 0, none⟩) (st.fields.length + 1) cap)) p s { st with fields := st.fields ++ [((toL x).take k, [])] } := by
                  refine ⟨_, heap_set HB.out _, ?_⟩
                  have := ownsRow_setCell_below (a := ⟨p, 4, none⟩) hown3 (by simp) (.slice (some ⟨gg, 0, none⟩) (st.fields.length + 1) cap)
                  rw [← HTK.out]
                  simpa [fldsV, ofL_toL, show ofL [] = ⟨#[]⟩ from rfl] using this
                have hB4 : Below p w (w3.setCell ⟨p, 4, none⟩ (.slice (some ⟨gg, 0, none⟩) (st.fields.length + 1) cap)) :=
                  hB2.trans (((((Below.refl p w2).alloc (by omega) _).drew).grown hgrow (by simp; omega) (fun g hg => by have := (hown2.lt g hg).1; omega)).setCell (p := ⟨p, 4, none⟩) (Nat.le_refl _) _)
                generalize (w3.setCell ⟨p, 4, none⟩ (.slice (some ⟨gg, 0, none⟩) (st.fields.length + 1) cap)) = w4 at hP4 hB4 ⊢
                clear hc0 hc1 hc2 hc3 hc5 hc4 HB hcz hfz hgrow hown3 hat hlt HH2 hown2 hP2 hB2
                obtain ⟨hc0, hc1, hc2, hc3, hc5⟩ := hP4.cells
                have hf3 := hP4.free 3
                have s1 : st.frm + k + 1 ≤ 9223372036854775807 := by omega
                go_wp2_with fail
                go_end0
                rw [HP5.out]
                refine ⟨rfl, hP4.set rfl (fun _ => ?_), hB4.setCell (p := ⟨p, 3, none⟩) (Nat.le_refl _) _⟩
                simp
      · rw [hb] at hmore
        have HP2 := Lib.hid (HP.out.trans (if_pos hmore))
        clear hmore
        by_cases h0 : st.fields.length = 0
        · have h0' : ((st.fields.length : Int) == 0) = true := by simpa using h0
          have HP3 := Lib.hid (HP2.out.trans (if_pos h0))
          clear h0
          go_wp2_with (first | (go_at_call 75; refine (asc_isBlank _ _).mono ?_; rintro e w' ⟨rfl, rfl⟩))
          (with_reducible refine (prs_fail p s st _ _ _ hP1 (by omega)).mono ?_)
          rw [Int.toNat_natCast]
          rintro e w2 ⟨rfl, hl⟩
          go_wp2_with fail
          refine bodyPost_ret (results_none rfl _ _ _) rfl ?_
          rw [HP3.out]
          exact ⟨rfl, hl.at_, hB1.trans hl.below⟩
        · have h0' : ((st.fields.length : Int) == 0) = false := beq_eq_false_iff_ne.2 (by omega)
          have HP3 := Lib.hid (HP2.out.trans (if_neg h0))
          clear h0
          go_wp2_with (first | (go_at_call 75; refine (asc_isBlank _ _).mono ?_; rintro e w' ⟨rfl, rfl⟩))
          refine bodyPost_ret (results_none rfl _ _ _) rfl ?_
          rw [HP3.out]
          exact ⟨rfl, hP1, hB1⟩
  · clear hpre
    have he' : (st.e != 0) = true := by simpa using he
    have HP := Lib.hid (show pName validName (toL s) st = st by simp [pName, he])
    clear he
    go_enter Try.func56, Try.ntmps56
    go_wp2_with fail
    refine bodyPost_ret (results_none rfl _ _ _) rfl ?_
    rw [HP.out]
    exact ⟨rfl, h, Below.refl _ _⟩

end Go.Proofs.Ytaigbplfbfaghaa
