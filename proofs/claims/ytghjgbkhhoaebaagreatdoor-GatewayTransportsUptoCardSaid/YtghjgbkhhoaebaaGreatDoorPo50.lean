/- Lemmas and walks, part 50. -/
import Derived.Test.YtghjgbkhhoaebaaGreatDoorPo49
import Derived.Test.YtghjgbkhhoaebaaGreatDoorPo30
import Derived.Deep.DeepCutAuto
import Derived.Deep.WholeRow
import Derived.Laws.Tables
import Derived.Test.YtghjgbkhhoaebaaGreatDoorPo32
import Derived.Test.YtghjgbkhhoaebaaGreatDoorPo45
namespace Go.Proofs.YtghjgbkhhoaebaaGreatDoor
set_option linter.unusedSimpArgs false
set_option linter.unusedVariables false
open Go.RowKit

theorem post_one (f : Nat → Int) (N S B : ByteArray) (d : Int) : (postC f N S B d).all (·.oneCell') = true := by
  simp [Value.oneCell']
theorem post_sz (f : Nat → Int) (N S B : ByteArray) (d : Int) : (Tryz.prog.info? 25).map (·.size) = some (postC f N S B d).size := size_Post
theorem rdL_len (d : Int) (own : List UInt8) (id : List Int) (made read : List (List Int)) (Nm S B : List UInt8) : (rdL d own id made read Nm S B).length ≤ 50 := by
  unfold rdL; split
  · rw [List.length_map]; exact capT_len _
  · simp
theorem rdR_le (d : Int) (id : List Int) (read : List (List Int)) : (rdR d id read).length ≤ read.length + 1 := by
  unfold rdR; split
  · simp
  · omega
attribute [local go_sem ↓] wp_load_id wp_load_post
set_option maxHeartbeats 16000000 in
set_option maxRecDepth 100000 in
theorem do_read {n q : Nat} {w : World} {b c : Nat} {ls : List Ln} {last : Int} {made read : List (List Int)} (h : Duo n w b c ls last made read) (hi : OpI q ls last made read) (hq : q ≤ 100) (hn : n ≤ w.heap.size) (hba : Base n w)
    (k m : Int) (nk t : ByteArray) (f : Nat → Int) (Nm S B : ByteArray) (d r : Int) (hNm : Nm.size ≤ maxLen) (hS : S.size ≤ maxLen) (hB : B.size ≤ maxLen) (hk : k.tmod 8 = 6) :
    Calls Tryz.prog 42 #[.pointer (some ⟨b, 0, none⟩), .pointer (some ⟨c, 0, none⟩), opV k m nk t f Nm S B d r] w (DoPost n q b c w) := by
  obtain ⟨A, A', hg, hmd, hd⟩ := h
  have HI := Lib.hid hi
  have HN := Lib.hid hn
  have HD := Lib.hid hd
  have HBA := Lib.hid hba
  have HB := Lib.hid (alloc_bel w (.cells (opA k m nk t f Nm S B d r) 60))
  have HX := Lib.hid (show (w.alloc (.cells (opA k m nk t f Nm S B d r) 60)).heap[w.heap.size]? = some (.cells (opA k m nk t f Nm S B d r) 60 (0, 0)) from heap_alloc_new _ _)
  have HG := Lib.hid hg
  have HM := Lib.hid hmd
  have hn1 := hi.nm
  have hn2 := hi.nr
  have HS1 := Lib.hid (fun wx => lw_short Nm hNm 500 500 rfl wx (by omega))
  have HS2 := Lib.hid (fun wx => lw_short S hS 500 500 rfl wx (by omega))
  have HS3 := Lib.hid (fun wx => lw_short B hB 2000 2000 rfl wx (by omega))
  have hx1 := short_size Nm 500
  have hx2 := short_size S 500
  have hx3 := short_size B 2000
  clear hi hn hba hd hg hmd hNm hS hB
  generalize Nm.extract 0 (min Nm.size 500) = X1 at *
  generalize S.extract 0 (min S.size 500) = X2 at *
  generalize B.extract 0 (min B.size 2000) = X3 at *
  go_enter Tryz.func42, Tryz.ntmps42
  go_upto_region 7 with fail
  generalize w.alloc (.cells (opA k m nk t f Nm S B d r) 60) = W0 at *
  obtain ⟨o1, e1⟩ := post_of (op_post (W := W0) HX.out)
  go_upto_region 8 with ((refine wpList_store_row rfl 25 _ _ rfl W0.heap.size (postC f Nm S B d) rfl rfl 25 _ (heap_alloc_new W0 _) (post_sz f Nm S B d) rfl (post_one f Nm S B d) ?_; rw [World.setRow_alloc_new]; simp only [Act.put, List.setIfInBounds_toArray, List.set_cons_zero, List.set_cons_succ]))
  have HP0 := Lib.hid (show (W0.alloc (.cells (postC f Nm S B d) 25)).heap[W0.heap.size]? = some (.cells (postC f Nm S B d) 25 (0, 0)) from heap_alloc_new _ _)
  have HB1 := Lib.hid (HB.out.alloc HB.out.size (.cells (postC f Nm S B d) 25))
  have HZ0 := Lib.hid HB.out.size
  clear o1 e1 HX HB
  obtain ⟨px, hpx⟩ : ∃ px, W0.heap.size = px := ⟨_, rfl⟩
  rw [hpx] at HP0 HZ0
  simp only [hpx]
  generalize W0.alloc (.cells (postC f Nm S B d) 25) = W1 at *
  obtain ⟨t1, t2, t3, t4⟩ := post_text HP0.out
  have hf1 := Lib.frozen_of_heap HP0.out 32
  have hf2 := Lib.frozen_of_heap HP0.out 33
  have hf3 := Lib.frozen_of_heap HP0.out 34
  have hz0 := heap_lt HP0.out
  go_cut [13] (fun s13 wx => s13 = .pointer (some ⟨px, 0, none⟩) ∧ wx = (((W1.setCell ⟨px, 32, none⟩ (.string X1)).setCell ⟨px, 33, none⟩ (.string X2)).setCell ⟨px, 34, none⟩ (.string X3)).drew)
  case first =>
    as_aux_lemma =>
      go_region_with (first
        | (go_at_call 9; (with_reducible refine (HS1.out _).mono ?_); rintro e w' ⟨rfl, rfl⟩)
        | (go_at_call 9; (with_reducible refine (HS2.out _).mono ?_); rintro e w' ⟨rfl, rfl⟩)
        | (go_at_call 9; (with_reducible refine (HS3.out _).mono ?_); rintro e w' ⟨rfl, rfl⟩))
      all_goals
        as_aux_lemma =>
          go_wp2_with fail
          go_meet
          case rel => exact ⟨rfl, rfl⟩
  case rest =>
    as_aux_lemma =>
      obtain ⟨rfl, hwc⟩ := hcut
      have HX1 := Lib.hid (show wc.heap[px]? = some (.cells (postC f X1 X2 X3 d) 25 (0, 0)) from by
        rw [hwc]
        exact heap_set (heap_set (heap_set HP0.out _) _) _)
      have HBW := Lib.hid (show Below w.heap.size w wc from by
        rw [hwc]
        exact (((HB1.out.setCell (p := ⟨px, 32, none⟩) HZ0.out _).setCell (p := ⟨px, 33, none⟩) HZ0.out _).setCell (p := ⟨px, 34, none⟩) HZ0.out _).drew)
      clear hwc t1 t2 t3 t4 hf1 hf2 hf3 hz0 HP0 HB1 HS1 HS2 HS3 hpx
      have HGc := Lib.hid (HG.out.below HBW.out)
      have HMc := Lib.hid (HM.out.below HBW.out)
      have hnc := Nat.le_trans HN.out HBW.out.size
      have hxz := heap_lt HX1.out
      have HAp := Lib.hid (show ¬ A px ∧ ∀ g, A' g → g < wc.heap.size ∧ g < w.heap.size from ⟨fun ha => by have := HG.out.lt.2 px ha; have := HZ0.out; omega, fun g hg => ⟨Nat.lt_of_lt_of_le (HM.out.lt.2 g hg) HBW.out.size, HM.out.lt.2 g hg⟩⟩)
      have HRG := Lib.hid (gw_read HGc.out hnc (HBA.out.step (HBW.out.mono HN.out)) f X1 X2 X3 d (by omega) (by omega) (by omega))
      have HRM := Lib.hid (fun wx (hx : MdX n A' wx c kR kG kN ls last made read) hz => lw_read hx hz f X1 X2 X3 d (by omega) (by omega) (by omega) (by omega) (by omega))
      obtain ⟨o1, e1⟩ := post_of (load_post (W := wc) HX1.out)
      go_upto_region 10 with ((go_at_call 12; (with_reducible refine HRG.out.mono ?_); rintro e w2 ⟨⟨v2, rfl, ho2⟩, hg2, hf2⟩; have HO2 := Lib.hid ho2; have HG2 := Lib.hid (hg2.ext hnc); have HF2 := Lib.hid hf2; have HM2 := Lib.hid (md_behind HMc.out HD.out hf2); have hz2 := hf2.size; have HX2 := Lib.hid ((hf2.oth px hxz HAp.out.1).trans HX1.out); clear hg2 hf2 ho2))
      obtain ⟨o2, e2⟩ := post_of (load_post (W := w2) HX2.out)
      go_upto_region 11 with ((go_at_call 87; (with_reducible refine (HRM.out _ HM2.out (Nat.le_trans hnc hz2)).mono ?_); rintro e w3 ⟨⟨v3, rfl, ho3⟩, hm3, hf3⟩; have HO3 := Lib.hid ho3; have HM3 := Lib.hid hm3; have HF3 := Lib.hid hf3; clear hm3 hf3 ho3))
      have hL := rdL_len d (toL kN) (idN f) made read (toL X1) (toL X2) (toL X3)
      have hR := rdR_le d (idN f) read
      have HO23 := Lib.hid (own_oth HO2.out (w' := w3) fun g hg => HF3.out.oth g (HO2.out.lt g hg).2 (fun ha => by have := (HO2.out.lt g hg).1; have := (HAp.out.2 g ha).1; omega))
      generalize rdL d (toL kN) (idN f) made read (toL X1) (toL X2) (toL X3) = L at *
      generalize rdE d (idN f) read = E1 at *
      generalize rdR d (idN f) read = R1 at *
      obtain ⟨A2, c2, rfl, hr2⟩ := own_row HO23.out
      obtain ⟨A3, c3, rfl, hr3⟩ := own_row HO3.out
      have HSM := Lib.hid (lw_same A2 A3 L c2 c3 w3 hr2 hr3 (by omega))
      clear hr2 hr3
      go_wp2_with ((go_at_call 14; (with_reducible refine HSM.out.mono ?_); rintro e w4 ⟨rfl, hb4⟩))
      go_ret
      refine ⟨rfl, ?_, ls, last, made, R1, (duo_both HGc.out HMc.out HD.out HG2.out HF2.out (Below.refl _ _) HM3.out HF3.out).below hb4, ⟨HI.out.ok, HI.out.lo, HI.out.hi, by have := HI.out.nl; omega, by have := HI.out.nm; omega, by have := HI.out.nr; omega⟩⟩
      exact (HBW.out.mono HN.out).trans (HF2.out.bel.trans (HF3.out.bel.trans (hb4.mono (Nat.le_trans hnc (Nat.le_trans hz2 HF3.out.size)))))
end Go.Proofs.YtghjgbkhhoaebaaGreatDoor

namespace Go.Proofs.YtghjgbkhhoaebaaGreatDoor
set_option linter.unusedSimpArgs false
set_option linter.unusedVariables false
open Go.RowKit

theorem do_all {n q : Nat} {w : World} {b c : Nat} {ls : List Ln} {last : Int} {made read : List (List Int)} (h : Duo n w b c ls last made read) (hi : OpI q ls last made read) (hq : q ≤ 100) (hn : n ≤ w.heap.size) (hba : Base n w) (o : OpR) (ho : OpOk o) :
    Calls Tryz.prog 42 #[.pointer (some ⟨b, 0, none⟩), .pointer (some ⟨c, 0, none⟩), opV o.k o.m o.n o.t o.f o.N o.S o.B o.d o.r] w (DoPost n q b c w) := by
  by_cases h5 : o.k.tmod 8 = 5
  · exact do_take h hi hq hn hba _ _ _ _ _ _ _ _ _ _ ho.m h5
  by_cases h6 : o.k.tmod 8 = 6
  · exact do_read h hi hq hn hba _ _ _ _ _ _ _ _ _ _ ho.N ho.S ho.B h6
  by_cases h7 : o.k.tmod 8 = 7
  · exact do_post h hi hq hn hba _ _ _ _ _ _ _ _ _ _ h7
  exact do_hear h hi hq hn hba _ _ _ _ _ _ _ _ _ _ ho.n ho.t ho.r h5 h6 h7
/-- What the load of an operation yields, as one word. -/
def OkOp (w : World) (v : Value) : Prop := ∃ u, (Instr.loadAt 60 v).run Tryz.prog w = .ok u w
noncomputable def opOf (w : World) (v : Value) : Value := by
  classical exact if h : OkOp w v then h.choose else undef
theorem op_of {w : World} {v u : Value} (h : (Instr.loadAt 60 v).run Tryz.prog w = .ok u w) : OkOp w v ∧ opOf w v = u := by
  have hk : OkOp w v := ⟨u, h⟩
  refine ⟨hk, ?_⟩
  have h2 := h.symm.trans hk.choose_spec
  unfold opOf
  rw [dif_pos hk]
  injection h2 with h2 _
  exact h2.symm
theorem wp_load_op {d : Option Tmp} {ty : TypeId} {pos : String} {af : Array Edge} {x : Operand} {a : Act} {w : World} {K : Act → World → Prop} {Q : Exit → Act → World → Prop} {g : Option (Nat × Bool)} (h : OkOp w (a.eval x)) :
    Oper.wp Tryz.prog { dst := d, op := .load 60 x, type := ty, pos := pos, after := af, guard := g } a w K Q = K (a.put d (opOf w (a.eval x))) w := by
  obtain ⟨u, hu⟩ := h
  rw [(op_of hu).2]
  unfold Oper.wp execOp
  simp only [hu, Sem.run_bind, Sem.run_pure, Result.andThen_ok]
  rfl
theorem size_Op : (Tryz.prog.info? 60).map (·.size) = some 41 := by kernel_rfl
theorem op_row {w : World} {A : Option Addr} {l : List OpR} (hr : Row w A (l.flatMap opC)) {k : Nat} (hk : k < l.length) : ∃ bb off, A = some ⟨bb, off, none⟩ ∧ bb < w.heap.size ∧ ∀ wx, wx.heap[bb]? = w.heap[bb]? → (Instr.loadAt 60 (.pointer (some ⟨bb, off + k * 41, none⟩))).run Tryz.prog wx = .ok (opV l[k].k l[k].m l[k].n l[k].t l[k].f l[k].N l[k].S l[k].B l[k].d l[k].r) wx := by
  have hl : (l.flatMap opC).length = l.length * 41 := flat_len opC 41 opC_len l
  rcases hr with h | ⟨b, off, e1, hb, hc⟩
  · rw [h] at hl; simp at hl; omega
  · refine ⟨b, off, e1, hb, fun wx hx => ?_⟩
    have hra : wx.rangeAt b (off + k * 41) (opC l[k]) := fun j v hv => by
      have hj : j < 41 := by have := (List.getElem?_eq_some_iff.1 hv).1; rwa [opC_len] at this
      rw [World.cell?_of_block hx]
      have := hc (k * 41 + j) v (by rw [flat_at opC 41 opC_len l k hk j hj]; exact hv)
      rw [Nat.add_assoc]; exact this
    exact range_load (T := 60) hra Tryz.underlying60 rfl size_Op
/-- The fresh pair. -/
theorem duo_new {w w1 : World} {b : Nat} (hg : GwX w.heap.size (fun k => w.heap.size ≤ k ∧ k < w1.heap.size) w1 b kR kG kN [] 0 [] []) (hz : w.heap.size ≤ w1.heap.size) :
    Duo w.heap.size (w1.alloc (.cells #[.string kR, .string kG, .string kN, .slice none 0 0, .int .i64 0, .slice none 0 0, .slice none 0 0] 49)) b w1.heap.size [] 0 [] [] := by
  refine ⟨fun k => w.heap.size ≤ k ∧ k < w1.heap.size, fun k => k = w1.heap.size, hg.below (alloc_bel _ _), ⟨.slice none 0 0, .slice none 0 0, .slice none 0 0, ⟨heap_alloc_new _ _, World.ownsRow_nil _ _ _ _, World.ownsRow_nil _ _ _ _, World.ownsRow_nil _ _ _ _, (by intro x h; cases h), (by intro x h; cases h), (by intro k h; cases h), (by intro h; cases h), (by intro h; cases h), (by intro h; cases h), (by intro k h; cases h), (by intro k h; cases h), rfl, (by intro k h; cases h), (by intro k h; cases h), (by intro k h; cases h), (by intro k h; omega), (by intro k h; simp; omega)⟩⟩, fun k h e => by omega⟩
attribute [local go_sem ↓] wp_load_op
set_option maxHeartbeats 16000000 in
set_option maxRecDepth 100000 in
theorem lw_play (A : Option Addr) (l : List OpR) (cp N : Nat) (hN : N ≤ 100) (w : World) (hr : Row w A (l.flatMap opC)) (hl : l.length ≤ maxLen) (hok : ∀ o ∈ l, OpOk o) (hba : Base w.heap.size w) :
    Calls Tryz.prog 17 #[.slice A l.length cp, .int .i64 (N : Int)] w fun e w' => ∃ b c, e = .returned (.tuple #[.pointer (some ⟨b, 0, none⟩), .pointer (some ⟨c, 0, none⟩), .bool true]) ∧ Below w.heap.size w w' ∧ ∃ ls last made read, Duo w.heap.size w' b c ls last made read ∧ OpI N ls last made read := by
  have HR := Lib.hid hr
  have HOK := Lib.hid hok
  have HBA := Lib.hid hba
  have HNW := Lib.hid (gw_newS kR kG kN w hba.shaped (by decide) (by decide) (by decide) (by decide +kernel) (by decide +kernel) (by decide +kernel))
  have hl2 : l.length ≤ 9223372036854775807 := by unfold maxLen at hl; omega
  clear hr hok hba hl
  go_enter Tryz.func17, Tryz.ntmps17
  go_wp2_with ((go_at_call 10; (with_reducible refine HNW.out.mono ?_); rintro e w1 ⟨b, rfl, hgx, hb1⟩; have HGX := Lib.hid hgx; have HB1 := Lib.hid hb1; clear hgx hb1))
  have HD0 := Lib.hid (duo_new HGX.out HB1.out.size)
  have HB2 := Lib.hid (HB1.out.alloc HB1.out.size (.cells #[.string kR, .string kG, .string kN, .slice none 0 0, .int .i64 0, .slice none 0 0, .slice none 0 0] 49))
  obtain ⟨c, hc⟩ : ∃ c, w1.heap.size = c := ⟨_, rfl⟩
  rw [hc] at HD0
  simp only [hc]
  clear hc HGX HB1 HNW
  generalize w1.alloc (.cells #[.string kR, .string kG, .string kN, .slice none 0 0, .int .i64 0, .slice none 0 0, .slice none 0 0] 49) = W2 at *
  go_loopw [10] (fun ix wr => ∃ i : Nat, i ≤ l.length ∧ i ≤ N ∧ ix = .int .i64 (i : Int) ∧ Below w.heap.size w wr ∧ ∃ ls last made read, Duo w.heap.size wr b c ls last made read ∧ OpI i ls last made read) (fun ix _ => N - (intOf ix).toNat)
  case atStart => exact ⟨0, by omega, by omega, rfl, HB2.out, [], 0, [], [], HD0.out, ⟨by simp, by omega, by omega, by simp, by simp, by simp⟩⟩
  case round =>
    obtain ⟨i, hi, hiN, rfl, hB, ls, last, made, read, hD, hI⟩ := hrel
    have HB := Lib.hid hB
    have HD := Lib.hid hD
    have HI := Lib.hid hI
    have hz := hB.size
    clear hB hD hI
    have i0 : (0 : Int) ≤ (i : Int) := by omega
    by_cases hlt : i < l.length
    · have i1 : (i : Int) < (l.length : Int) := by omega
      by_cases hltN : i < N
      · have i2 : (i : Int) < (N : Int) := by omega
        obtain ⟨bb, off, rfl, hbb, hld⟩ := op_row HR.out hlt
        have hbr := HB.out.block bb hbb
        obtain ⟨o1, e1⟩ := op_of (w := wr.drew) (hld wr.drew hbr)
        have HDO := Lib.hid (do_all (HD.out.below (Below.refl wr.heap.size wr).drew) HI.out (by omega) (show w.heap.size ≤ wr.drew.heap.size from hz) (HBA.out.step HB.out.drew) l[i] (HOK.out l[i] (List.getElem_mem hlt)))
        generalize opV l[i].k l[i].m l[i].n l[i].t l[i].f l[i].N l[i].S l[i].B l[i].d l[i].r = ov at *
        clear hld
        go_upto_region 6 with fail
        go_region_law (first
          | (go_simp; go_at_call 42; (with_reducible refine HDO.out.mono ?_); rintro e w2 ⟨rfl, hb2, ls2, last2, made2, read2, ⟨A1, A1', ⟨v1, m1, m2, hgs⟩, ⟨v3, vm, vr, hms⟩, hd1⟩, hi2⟩; have hl60 := hi2.nl; obtain ⟨A3, c3, rfl, hr3⟩ := own_row hms.own; obtain ⟨_, _, k3, _, _, _⟩ := md_cells hms; have HGS := Lib.hid hgs; have HMS := Lib.hid hms; have HD2 := Lib.hid hd1; have HI2 := Lib.hid hi2; have HB2 := Lib.hid hb2; have HR3 := Lib.hid hr3; clear hgs hms hd1 hi2 hb2 hr3; dsimp only)
          | (go_simp; go_at_call 19; (with_reducible refine (gw_waiting HGS.out.at_ (by omega)).mono ?_); rintro e w3 ⟨A2, c2, rfl, ho3, hb3⟩; have HO3 := Lib.hid ho3; have HB3 := Lib.hid hb3; have k33 : w3.cell? ⟨c, 3, none⟩ = some (.slice A3 ls2.length c3) := (hb3.cell (World.block_lt_of_cell? _ _ k3)).trans k3; clear ho3 hb3; dsimp only)
          | (go_simp; go_at_call 14; (with_reducible refine (lw_same A2 A3 ls2 c2 c3 w3 (own_row_isS HO3.out) (HR3.out.below HB3.out) (by omega)).mono ?_); rintro e w4 ⟨rfl, hb4⟩; have HB4 := Lib.hid hb4; clear hb4; dsimp only))
        all_goals
          go_wp2_with fail
          go_roundw
          case rel =>
            have hB34 := HB3.out.trans (HB4.out.mono HB3.out.size)
            exact ⟨i + 1, by omega, by omega, by go_num, HB.out.drew.trans (HB2.out.trans (hB34.mono (Nat.le_trans hz HB2.out.size))), ls2, last2, made2, read2, Duo.below ⟨A1, A1', ⟨_, _, _, HGS.out⟩, ⟨_, _, _, HMS.out⟩, HD2.out⟩ hB34, HI2.out⟩
          case measure => simp [intOf] <;> omega
      · have i2 : (N : Int) ≤ (i : Int) := by omega
        go_wp2_with fail
        go_ret3
        exact ⟨b, c, rfl, HB.out, ls, last, made, read, HD.out, ⟨HI.out.ok, HI.out.lo, HI.out.hi, by have := HI.out.nl; omega, by have := HI.out.nm; omega, by have := HI.out.nr; omega⟩⟩
    · have i1 : (l.length : Int) ≤ (i : Int) := by omega
      go_wp2_with fail
      go_ret3
      exact ⟨b, c, rfl, HB.out, ls, last, made, read, HD.out, ⟨HI.out.ok, HI.out.lo, HI.out.hi, by have := HI.out.nl; omega, by have := HI.out.nm; omega, by have := HI.out.nr; omega⟩⟩
end Go.Proofs.YtghjgbkhhoaebaaGreatDoor
