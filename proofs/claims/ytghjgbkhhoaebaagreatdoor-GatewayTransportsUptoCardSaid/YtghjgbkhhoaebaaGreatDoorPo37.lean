/- Lemmas and walks, part 37. -/
import Derived.Test.YtghjgbkhhoaebaaGreatDoorPo35
import Derived.Test.YtghjgbkhhoaebaaGreatDoorPo36
import Derived.Test.YtghjgbkhhoaebaaGreatDoorPo33
import Derived.Deep.RegionHeld3
import Derived.Deep.AppendLies
import Derived.Deep.QuietTactic
import Derived.BigQuiet
import Derived.BigRegion
namespace Go.Proofs.YtghjgbkhhoaebaaGreatDoor
set_option linter.unusedSimpArgs false
set_option linter.unusedVariables false
open Go.RowKit

/-- What Read answers, and what it leaves. -/
def rdE (d : Int) (id : List Int) (read : List (List Int)) : Int := if minB d = false then 2 else if id ∈ read then 7 else 0
def rdL (d : Int) (own : List UInt8) (id : List Int) (made read : List (List Int)) (Nm S B : List UInt8) : List Ln := if rdE d id read = 0 ∧ id ∉ made then (txtF Nm S B).map fun t => ⟨d.toNat, own, t⟩ else []
def rdR (d : Int) (id : List Int) (read : List (List Int)) : List (List Int) := if rdE d id read = 0 then read ++ [id] else read
structure RdPost (n : Nat) (A : Nat → Prop) (b : Nat) (R G N : ByteArray) (ls : List Ln) (last : Int) (made read : List (List Int)) (f : Nat → Int) (Nm S B : ByteArray) (d : Int) (w : World) (e : Ending) (w' : World) : Prop where
  ret : ∃ v, e = .returned (.tuple #[v, .int .i64 (rdE d (idN f) read)]) ∧ w'.ownsRow w.heap.size 39 3 v (rdL d (toL N) (idN f) made read (toL Nm) (toL S) (toL B)).length (lnsV (rdL d (toL N) (idN f) made read (toL Nm) (toL S) (toL B)))
  st : GwX n A w' b R G N ls last made (rdR d (idN f) read)
  fr : Fr n A w w'
set_option maxHeartbeats 8000000 in
set_option maxRecDepth 100000 in
theorem gw_read {n : Nat} {A : Nat → Prop} {w : World} {b : Nat} {R G N : ByteArray} {ls : List Ln} {last : Int} {made read : List (List Int)} (h : GwX n A w b R G N ls last made read) (hn : n ≤ w.heap.size) (hba : Base n w)
    (f : Nat → Int) (Nm S B : ByteArray) (d : Int) (hNm : Nm.size ≤ 1100000) (hS : S.size ≤ 1100000) (hB : B.size ≤ 1100000) :
    Calls Tryz.prog 12 #[.pointer (some ⟨b, 0, none⟩), postV f Nm S B d] w (RdPost n A b R G N ls last made read f Nm S B d w) := by
  obtain ⟨v, m1, m2, h⟩ := h
  have HG := Lib.hid h
  have HM := Lib.hid (fun wx => gw_isMinute d wx)
  have HN := Lib.hid hn
  have HBA := Lib.hid hba
  have hbw := heap_lt h.at_.box
  have g6 : w.cell? ⟨b, 6, none⟩ = some (.map (some m2)) := by rw [Lib.cell_of_heap h.at_.box]; rfl
  clear h hn hba
  rcases h1 : minB d with _ | _
  · rw [h1] at HM
    have HE := Lib.hid (show rdE d (idN f) read = 2 from by unfold rdE; rw [if_pos h1])
    clear h1
    go_enter Tryz.func12, Tryz.ntmps12
    go_wp2_with ((go_at_call 34; (with_reducible refine (HM.out _).mono ?_); rintro e w' ⟨rfl, rfl⟩))
    have HB := Lib.hid (show Below w.heap.size w (w.alloc (.cells (postC f Nm S B d) 25)) from alloc_bel _ _)
    go_ret2
    refine ⟨⟨.slice none 0 0, by rw [HE.out]; rfl, ?_⟩, ?_, Fr.of HB.out HN.out⟩
    · rw [show rdL d (toL N) (idN f) made read (toL Nm) (toL S) (toL B) = [] from by unfold rdL; rw [if_neg (by rw [HE.out]; simp)]]
      exact World.ownsRow_nil _ _ _ _
    · rw [show rdR d (idN f) read = read from by unfold rdR; rw [if_neg (by rw [HE.out]; decide)]]
      exact ⟨v, m1, m2, HG.out.below HB.out⟩
  · rw [h1] at HM
    go_enter Tryz.func12, Tryz.ntmps12
    go_upto_region 5 with ((go_at_call 34; (with_reducible refine (HM.out _).mono ?_); rintro e w' ⟨rfl, rfl⟩))
    have HBX := Lib.hid (show (w.alloc (.cells (postC f Nm S B d) 25)).heap[w.heap.size]? = some (.cells (postC f Nm S B d) 25 (0, 0)) from heap_alloc_new _ _)
    have HB0 := Lib.hid (show Below w.heap.size w (w.alloc (.cells (postC f Nm S B d) 25)) from alloc_bel _ _)
    have HG0 := Lib.hid (HG.out.below HB0.out)
    have HZ0 := Lib.hid (show (w.alloc (.cells (postC f Nm S B d) 25)).heap.size = w.heap.size + 1 from by simp)
    clear g6
    generalize w.alloc (.cells (postC f Nm S B d) 25) = W0 at *
    have g6 : W0.cell? ⟨b, 6, none⟩ = some (.map (some m2)) := by rw [Lib.cell_of_heap HG0.out.at_.box]; rfl
    have HLD := Lib.hid (show ∀ wx, (∃ k, wx = W0.drewN k) → (Instr.loadAt 23 (.pointer (some ⟨w.heap.size, 0, none⟩))).run Tryz.prog wx = .ok (idA f) wx from fun wx ⟨k, e⟩ => by subst e; exact load_id (W := W0.drewN k) HBX.out)
    have hmn := fun wx => map_nil 69 wx m2 map_ids
    by_cases hr : idN f ∈ read
    · have HE := Lib.hid (show rdE d (idN f) read = 7 from by unfold rdE; rw [if_neg (by rw [h1]; decide), if_pos hr])
      have hlk : ∀ k, (Instr.lookup 69 (.map (some m2)) (idA f) false).run Tryz.prog (W0.drewN k) = .ok (.bool true) (W0.drewN k) := fun k => by
        have h := look_id (w := W0.drewN k) (b := m2) (ps := read) HG0.out.mr f
        rw [decide_eq_true hr] at h; exact h
      refine wp_region_quiet_lit (by kernel_rfl) (by kernel_rfl) ?_
      repeat (first | (refine wpQuiet_load rfl 23 _ rfl rfl HLD.out ?_; simp only [Act.put, List.setIfInBounds_toArray, List.set_cons_zero, List.set_cons_succ]) | (go_big_quiet_step (fail)))
      refine wpQuiet_nil ?_
      intro _ hw'
      obtain ⟨nq, hw''⟩ := hw'
      subst hw''
      go_wp2_with fail
      have HB1 := Lib.hid (below_drewN HB0.out nq)
      go_ret2
      refine ⟨⟨.slice none 0 0, by rw [HE.out]; rfl, ?_⟩, ?_, Fr.of HB1.out HN.out⟩
      · rw [show rdL d (toL N) (idN f) made read (toL Nm) (toL S) (toL B) = [] from by unfold rdL; rw [if_neg (by rw [HE.out]; simp)]]
        exact World.ownsRow_nil _ _ _ _
      · rw [show rdR d (idN f) read = read from by unfold rdR; rw [if_neg (by rw [HE.out]; decide)]]
        exact ⟨v, m1, m2, HG.out.below HB1.out⟩
    · have HE := Lib.hid (show rdE d (idN f) read = 0 from by unfold rdE; rw [if_neg (by rw [h1]; decide), if_neg hr])
      have hlk : ∀ k, (Instr.lookup 69 (.map (some m2)) (idA f) false).run Tryz.prog (W0.drewN k) = .ok (.bool false) (W0.drewN k) := fun k => by
        have h := look_id (w := W0.drewN k) (b := m2) (ps := read) HG0.out.mr f
        rw [decide_eq_false hr] at h; exact h
      refine wp_region_quiet_lit (by kernel_rfl) (by kernel_rfl) ?_
      repeat (first | (refine wpQuiet_load rfl 23 _ rfl rfl HLD.out ?_; simp only [Act.put, List.setIfInBounds_toArray, List.set_cons_zero, List.set_cons_succ]) | (go_big_quiet_step (fail)))
      refine wpQuiet_nil ?_
      intro _ hw'
      obtain ⟨nq, hw''⟩ := hw'
      subst hw''
      have HB1 := Lib.hid (below_drewN HB0.out nq)
      have HX1 := Lib.hid (show (W0.drewN nq).heap[w.heap.size]? = some (.cells (postC f Nm S B d) 25 (0, 0)) from HBX.out)
      have HZ1 := Lib.hid (show (W0.drewN nq).heap.size = w.heap.size + 1 from HZ0.out)
      clear g6 hlk HLD HBX HB0 HG0 HZ0
      generalize W0.drewN nq = W1 at *
      have HG1 := Lib.hid (HG.out.below HB1.out)
      have g6 : W1.cell? ⟨b, 6, none⟩ = some (.map (some m2)) := by rw [Lib.cell_of_heap HG1.out.at_.box]; rfl
      go_upto_region 9 with fail
      obtain ⟨W9, hup, hm9, hg9, hz9⟩ := put_id (w := W1.drew) (b := m2) (ps := read) HG1.out.mr f hr
      have hra : W1.drew.rangeAt w.heap.size 0 (idC (idN f)) := range_id (W := W1.drew) HX1.out
      have hty := Tryz.underlying23
      have hsz := size_Id
      have hbm2 : b ≠ m2 := fun e => by
        have h1 := HG1.out.at_.box
        obtain ⟨es, ck, h2, _⟩ := HG1.out.mr
        rw [e, h2] at h1; cases h1
      have hpm2 : w.heap.size ≠ m2 := fun e => by
        have h1 := HX1.out
        obtain ⟨es, ck, h2, _⟩ := HG1.out.mr
        rw [e, h2] at h1; cases h1
      have g9 : W9.cell? ⟨b, 6, none⟩ = some (.map (some m2)) := (hg9.cell_far ⟨b, 6, none⟩ (Nat.lt_of_lt_of_le hbw HB1.out.size) (fun e => hbm2 (by injection e))).trans g6
      have hx9 : W9.heap[w.heap.size]? = some (.cells (postC f Nm S B d) 25 (0, 0)) := (hg9.block w.heap.size (by show w.heap.size < W1.heap.size; rw [HZ1.out]; omega) (fun e => hpm2 (by injection e))).trans HX1.out
      have hra9 := range_id hx9
      have HX9 := Lib.hid hx9
      have HS9 := Lib.hid (GwS.put2 (HG1.out.below ((Below.refl W1.heap.size W1).drew)) hm9 hg9 hz9)
      have HF9 := Lib.hid (show Fr n A w W9 from (Fr.of (HB1.out.drew) HN.out).grown hg9 HN.out (fun j e => by injection e with e; subst e; exact ⟨HG1.out.lo _ HG1.out.in2, .inl HG1.out.in2⟩))
      have HZ9 := Lib.hid (show W9.heap.size = w.heap.size + 1 from hz9.trans HZ1.out)
      clear hg9 hm9 hx9 hz9
      go_region_held3 (fun w' => w'.cell? ⟨b, 6, none⟩ = some (.map (some m2)) ∧ w'.rangeAt w.heap.size 0 (idC (idN f)))
        (first
          | exact ⟨g6, hra⟩
          | exact ⟨g9, hra9⟩
          | go_keep)
        (fail)
      rename_i _ _ _
      clear hup hra hra9 g9 g6 hbm2 hpm2 hty hsz HB1 HX1 HZ1 HG1
      have g5 : W9.cell? ⟨b, 5, none⟩ = some (.map (some m1)) := by rw [Lib.cell_of_heap HS9.out.at_.box]; rfl
      have HLD := Lib.hid (show ∀ wx, (∃ k, wx = W9.drewN k) → (Instr.loadAt 23 (.pointer (some ⟨w.heap.size, 0, none⟩))).run Tryz.prog wx = .ok (idA f) wx from fun wx ⟨k, e⟩ => by subst e; exact load_id (W := W9.drewN k) HX9.out)
      have HRR := Lib.hid (show rdR d (idN f) read = read ++ [idN f] from by unfold rdR; rw [if_pos HE.out])
      go_upto_region 10 with fail
      by_cases hmd : idN f ∈ made
      · have hlk : ∀ k, (Instr.lookup 69 (.map (some m1)) (idA f) false).run Tryz.prog (W9.drewN k) = .ok (.bool true) (W9.drewN k) := fun k => by
          have h := look_id (w := W9.drewN k) (b := m1) (ps := made) HS9.out.mm f
          rw [decide_eq_true hmd] at h; exact h
        refine wp_region_quiet_lit (by kernel_rfl) (by kernel_rfl) ?_
        repeat (first | (refine wpQuiet_load rfl 23 _ rfl rfl HLD.out ?_; simp only [Act.put, List.setIfInBounds_toArray, List.set_cons_zero, List.set_cons_succ]) | (go_big_quiet_step (fail)))
        refine wpQuiet_nil ?_
        intro _ hw'
        obtain ⟨nr, hw''⟩ := hw'
        subst hw''
        go_wp2_with fail
        have HB2 := Lib.hid (below_drewN (Below.refl W9.heap.size W9) nr)
        go_ret2
        refine ⟨⟨.slice none 0 0, by rw [HE.out]; rfl, ?_⟩, ?_, HF9.out.below HB2.out HN.out⟩
        · rw [show rdL d (toL N) (idN f) made read (toL Nm) (toL S) (toL B) = [] from by unfold rdL; rw [if_neg (fun h => h.2 hmd)]]
          exact World.ownsRow_nil _ _ _ _
        · rw [HRR.out]
          exact ⟨v, m1, m2, HS9.out.below HB2.out⟩
      · have HLL := Lib.hid (show rdL d (toL N) (idN f) made read (toL Nm) (toL S) (toL B) = (txtF (toL Nm) (toL S) (toL B)).map fun t => ⟨d.toNat, toL N, t⟩ from by unfold rdL; rw [if_pos ⟨HE.out, hmd⟩])
        have hlk : ∀ k, (Instr.lookup 69 (.map (some m1)) (idA f) false).run Tryz.prog (W9.drewN k) = .ok (.bool false) (W9.drewN k) := fun k => by
          have h := look_id (w := W9.drewN k) (b := m1) (ps := made) HS9.out.mm f
          rw [decide_eq_false hmd] at h; exact h
        refine wp_region_quiet_lit (by kernel_rfl) (by kernel_rfl) ?_
        repeat (first | (refine wpQuiet_load rfl 23 _ rfl rfl HLD.out ?_; simp only [Act.put, List.setIfInBounds_toArray, List.set_cons_zero, List.set_cons_succ]) | (go_big_quiet_step (fail)))
        refine wpQuiet_nil ?_
        intro _ hw'
        obtain ⟨nr, hw''⟩ := hw'
        subst hw''
        have HS10 := Lib.hid (show GwS n A (W9.drewN nr) b R G N ls last made (read ++ [idN f]) v m1 m2 from HS9.out.below (below_drewN (Below.refl W9.heap.size W9) nr))
        have HF10 := Lib.hid (show Fr n A w (W9.drewN nr) from HF9.out.below (below_drewN (Below.refl W9.heap.size W9) nr) HN.out)
        have HX10 := Lib.hid (show (W9.drewN nr).heap[w.heap.size]? = some (.cells (postC f Nm S B d) 25 (0, 0)) from HX9.out)
        have HZ10 := Lib.hid (show (W9.drewN nr).heap.size = w.heap.size + 1 from HZ9.out)
        have hdd : ((d.toNat : Nat) : Int) = d := by unfold minB at h1; simp at h1; omega
        clear g5 hlk HLD HS9 HF9 HX9 HZ9 h1 hmn HM
        generalize W9.drewN nr = W2 at *
        generalize d.toNat = D at *
        subst hdd
        have HBA2 := Lib.hid (HBA.out.step HF10.out.bel)
        have HTX := Lib.hid (gw_texts f Nm S B (D : Int) W2 HBA2.out.shaped HBA2.out.tabB HBA2.out.tabN hNm hS hB)
        have hcl : (txtF (toL Nm) (toL S) (toL B)).length ≤ 50 := capT_len _
        generalize txtF (toL Nm) (toL S) (toL B) = T1 at *
        go_wp2_with (first
          | (refine wpList_loadAt rfl 25 _ rfl rfl (load_post HX10.out) ?_; simp only [Act.put, List.setIfInBounds_toArray, List.set_cons_zero, List.set_cons_succ])
          | (go_at_call 35; (with_reducible refine HTX.out.mono ?_); rintro e wc ⟨vt, rfl, hvt⟩; have hob := hvt.bel; obtain ⟨A8, c8, rfl, hr8⟩ := own_row hvt.own; have HR8 := Lib.hid hr8; have HOB := Lib.hid hob; clear hr8 hob hvt))
        have hwc : w.heap.size < W2.heap.size := by rw [HZ10.out]; omega
        have hzc := HOB.out.size
        have hbz := HS10.out.hi _ HS10.out.inb
        have hcd : wc.cell? ⟨w.heap.size, 35, none⟩ = some (.int .i64 (D : Int)) := by rw [Lib.cell_of_heap ((HOB.out.block _ hwc).trans HX10.out)]; rfl
        have hcn : wc.cell? ⟨b, 2, none⟩ = some (.string N) := by rw [Lib.cell_of_heap ((HOB.out.block _ hbz).trans HS10.out.at_.box)]; rfl
        go_loopw [6, 50] (fun v6 v50 wr => ∃ k : Nat, k ≤ T1.length ∧ v50 = .int .i64 (k : Int) ∧ LnsOwn wc wr v6 ((T1.take k).map fun t => ⟨D, toL N, t⟩)) (fun _ v50 _ => T1.length - (intOf v50).toNat)
        case atStart => exact ⟨0, by omega, rfl, LnsOwn.nil _⟩
        case round =>
          obtain ⟨k, hk, rfl, hL⟩ := hrel
          have HL := Lib.hid hL
          have k0 : (0 : Int) ≤ (k : Int) := by omega
          by_cases hlt : k < T1.length
          · have k1 : (k : Int) < (T1.length : Int) := by omega
            obtain ⟨bb, off, rfl, hbl, hcA⟩ := HR8.out.at (k := k) (by simpa using hlt)
            have hcw : wc.cell? ⟨bb, off + k, none⟩ = some (.string (ofL T1[k])) := hcA k _ (by simp [strsL, List.getElem?_map, List.getElem?_eq_getElem hlt])
            have hc : wr.cell? ⟨bb, off + k, none⟩ = some (.string (ofL T1[k])) := (HL.out.bel.cell (p := ⟨bb, off + k, none⟩) hbl).trans hcw
            have hdr := (HL.out.bel.cell (p := ⟨w.heap.size, 35, none⟩) (by show w.heap.size < wc.heap.size; omega)).trans hcd
            have hnr := (HL.out.bel.cell (p := ⟨b, 2, none⟩) (by show b < wc.heap.size; omega)).trans hcn
            have HTS := Lib.hid (show (T1.take (k + 1)).map (fun t => (⟨D, toL N, t⟩ : Ln)) = (T1.take k).map (fun t => (⟨D, toL N, t⟩ : Ln)) ++ [⟨D, toL N, T1[k]⟩] from by rw [List.take_succ_eq_append_getElem hlt, List.map_append]; rfl)
            have hown := HL.out.own
            have hbs := HL.out.bel.size
            have hlen : ((T1.take k).map (fun t => (⟨D, toL N, t⟩ : Ln))).length ≤ 50 := by rw [List.length_map, List.length_take]; omega
            have HOW := Lib.hid (ofL_toL N)
            clear hcA hL hcw
            generalize T1[k] = t at *
            generalize (T1.take k).map (fun t => (⟨D, toL N, t⟩ : Ln)) = acc at *
            obtain ⟨i0, z, hi0, hz0, hz1, hz2, hzs⟩ := el_Line.info
            have ag : ∀ g, _ = some g → wc.heap.size ≤ g := fun g hg => (hown.lt g hg).1
            have AG := Lib.hid ag; clear ag
            go_wp2_with fail
            go_region_held3 (fun w' => w'.cell? ⟨w.heap.size, 35, none⟩ = some (.int .i64 (D : Int)) ∧ w'.cell? ⟨b, 2, none⟩ = some (.string N))
              (first
                | exact ⟨(hgrow.cell_far ⟨w.heap.size, 35, none⟩ (by simp; omega) (fun e => by have := AG.out w.heap.size e.symm; omega)).trans ((World.cell?_of_block (Lib.alloc_old wr _ w.heap.size (by omega))).trans hdr), (hgrow.cell_far ⟨b, 2, none⟩ (by simp; omega) (fun e => by have := AG.out b e.symm; omega)).trans ((World.cell?_of_block (Lib.alloc_old wr _ b (by omega))).trans hnr)⟩
                | go_keep)
              ((refine step_append_lies _ (by rfl) _ _ _ (by rfl) wc.heap.size 39 i0 _ 3 _ el_Line.under hi0 hz0 hz1 hz2 hzs (by omega) _ _ _ (by rfl) ((hown.alloc _).drew)
                    ⟨wr.heap.size, 0, none⟩ 1 1 [.int .i64 (D : Int), .string N, .string (ofL t)] (by rfl) (by rfl) (World.news_of_block (cs := #[.int .i64 (D : Int), .string N, .string (ofL t)]) (t := 39) (fr := (0, 0)) (heap_alloc_new wr _)) (by simp [Value.oneCell'])
                    (by omega) (by unfold maxLen; omega) (by omega) (by simp; omega) (wr.heap.size + 1) (by simp) ?_; intro g cap w9 hown9 hgrow hat hlt1))
            have HF9 := Lib.hid (LnsOwn.pushA (x := ⟨D, toL N, t⟩) HL.out (by rw [HOW.out]; exact hown9) hgrow)
            clear hown9 hgrow hat hlt1
            go_wp2_with fail
            go_roundw
            case rel => exact ⟨k + 1, by omega, by go_num, by rw [HTS.out]; exact HF9.out⟩
            case measure => simp [intOf] <;> omega
          · have k1 : (T1.length : Int) ≤ (k : Int) := by omega
            have htk : T1.take k = T1 := List.take_of_length_le (by omega)
            rw [htk] at HL
            have HBL := Lib.hid (HOB.out.trans (HL.out.bel.mono hzc))
            go_wp2_with fail
            go_ret2
            refine ⟨⟨u6, by rw [HE.out]; rfl, ?_⟩, ?_, HF10.out.below HBL.out HN.out⟩
            · rw [HLL.out]
              exact own_mono HL.out.own (by omega)
            · rw [HRR.out]
              exact ⟨v, m1, m2, HS10.out.below HBL.out⟩
end Go.Proofs.YtghjgbkhhoaebaaGreatDoor
