/- Lemmas and walks, part 47. -/
import Derived.Test.YtghjgbkhhoaebaaGreatDoorPo46
import Derived.Test.YtghjgbkhhoaebaaGreatDoorPo33
import Derived.Test.YtghjgbkhhoaebaaGreatDoorPo37
import Derived.Deep.RegionWith
namespace Go.Proofs.YtghjgbkhhoaebaaGreatDoor
set_option linter.unusedSimpArgs false
set_option linter.unusedVariables false
open Go.RowKit

/-- What the load of an article yields, as one word. -/
def OkPost (w : World) (v : Value) : Prop := ∃ u, (Instr.loadAt 25 v).run Tryz.prog w = .ok u w
noncomputable def postOf (w : World) (v : Value) : Value := by
  classical exact if h : OkPost w v then h.choose else undef
theorem post_of {w : World} {v u : Value} (h : (Instr.loadAt 25 v).run Tryz.prog w = .ok u w) : OkPost w v ∧ postOf w v = u := by
  have hk : OkPost w v := ⟨u, h⟩
  refine ⟨hk, ?_⟩
  have h2 := h.symm.trans hk.choose_spec
  unfold postOf
  rw [dif_pos hk]
  injection h2 with h2 _
  exact h2.symm
theorem wp_load_post {d : Option Tmp} {ty : TypeId} {pos : String} {af : Array Edge} {x : Operand} {a : Act} {w : World} {K : Act → World → Prop} {Q : Exit → Act → World → Prop} {g : Option (Nat × Bool)} (h : OkPost w (a.eval x)) :
    Oper.wp Tryz.prog { dst := d, op := .load 25 x, type := ty, pos := pos, after := af, guard := g } a w K Q = K (a.put d (postOf w (a.eval x))) w := by
  obtain ⟨u, hu⟩ := h
  rw [(post_of hu).2]
  unfold Oper.wp execOp
  simp only [hu, Sem.run_bind, Sem.run_pure, Result.andThen_ok]
  rfl
def MrPost (n : Nat) (A : Nat → Prop) (b : Nat) (R G N : ByteArray) (ls : List Ln) (last : Int) (made read : List (List Int)) (f : Nat → Int) (Nm S B : ByteArray) (d : Int) (w : World) (e : Ending) (w' : World) : Prop :=
  (∃ v, e = .returned (.tuple #[v, .int .i64 (rdE d (idN f) read)]) ∧ w'.ownsRow w.heap.size 39 3 v (rdL d (toL N) (idN f) made read (toL Nm) (toL S) (toL B)).length (lnsV (rdL d (toL N) (idN f) made read (toL Nm) (toL S) (toL B)))) ∧
  MdX n (Ext A w w') w' b R G N ls last made (rdR d (idN f) read) ∧ Fr n A w w'
attribute [local go_sem ↓] wp_load_id wp_load_post
set_option maxHeartbeats 16000000 in
set_option maxRecDepth 100000 in
theorem lw_read {n : Nat} {A : Nat → Prop} {w : World} {b : Nat} {R G N : ByteArray} {ls : List Ln} {last : Int} {made read : List (List Int)} (h : MdX n A w b R G N ls last made read) (hn : n ≤ w.heap.size)
    (f : Nat → Int) (Nm S B : ByteArray) (d : Int) (hNm : Nm.size ≤ 6000) (hS : S.size ≤ 6000) (hB : B.size ≤ 10000) (hm : made.length ≤ 1000) (hrl : read.length ≤ 1000) :
    Calls Tryz.prog 87 #[.pointer (some ⟨b, 0, none⟩), postV f Nm S B d] w (MrPost n A b R G N ls last made read f Nm S B d w) := by
  obtain ⟨v, vm, vr, h⟩ := h
  have HN := Lib.hid hn
  have HO := Lib.hid h
  have HM := Lib.hid (fun wx => lw_minute d wx)
  have HW0 := Lib.hid (alloc_bel w (.cells (postC f Nm S B d) 25))
  have HX0 := Lib.hid (show (w.alloc (.cells (postC f Nm S B d) 25)).heap[w.heap.size]? = some (.cells (postC f Nm S B d) 25 (0, 0)) from heap_alloc_new _ _)
  have HZ0 := Lib.hid (show (w.alloc (.cells (postC f Nm S B d) 25)).heap.size = w.heap.size + 1 from by simp)
  have HS0 := Lib.hid (h.below HW0.out)
  clear h hn
  rcases h1 : minB d with _ | _
  · rw [h1] at HM
    have HE := Lib.hid (show rdE d (idN f) read = 2 from by unfold rdE; rw [if_pos h1])
    clear h1
    go_enter Tryz.func87, Tryz.ntmps87
    go_wp2_with ((go_at_call 13; (with_reducible refine (HM.out _).mono ?_); rintro e w' ⟨rfl, rfl⟩))
    go_ret2
    refine ⟨⟨.slice none 0 0, by rw [HE.out]; rfl, ?_⟩, ?_, Fr.of HW0.out HN.out⟩
    · rw [show rdL d (toL N) (idN f) made read (toL Nm) (toL S) (toL B) = [] from by unfold rdL; rw [if_neg (by rw [HE.out]; simp)]]
      exact World.ownsRow_nil _ _ _ _
    · rw [show rdR d (idN f) read = read from by unfold rdR; rw [if_neg (by rw [HE.out]; decide)]]
      exact MdX.ext ⟨_, _, _, HS0.out⟩ HN.out
  · obtain ⟨D, rfl⟩ : ∃ D : Nat, d = (D : Int) := ⟨d.toNat, by unfold minB at h1; simp at h1; omega⟩
    rw [h1] at HM
    have HH1 := Lib.hid h1
    go_enter Tryz.func87, Tryz.ntmps87
    go_upto_region 3 with ((go_at_call 13; (with_reducible refine (HM.out _).mono ?_); rintro e w' ⟨rfl, rfl⟩))
    clear HM
    generalize w.alloc (.cells (postC f Nm S B (D : Int)) 25) = W0 at *
    obtain ⟨A6, c6, rfl, hr6⟩ := own_row HS0.out.or_
    obtain ⟨_, _, _, _, _, k6⟩ := md_cells HS0.out
    have hra : W0.rangeAt w.heap.size 0 (idKL f) := range_id HX0.out
    have hty := Tryz.underlying23
    have hsz := size_Id
    have HK := Lib.hid (show PoP W0 b 6 w.heap.size (.slice A6 read.length c6) f W0.drew from PoP.of k6 hra ((Below.refl _ _).drew))
    by_cases hrd : idN f ∈ read
    · have HE := Lib.hid (show rdE (D : Int) (idN f) read = 7 from by unfold rdE; rw [if_neg (by rw [h1]; decide), if_pos hrd])
      have HH := Lib.hid (fun wx (hx : PoP W0 b 6 w.heap.size (.slice A6 read.length c6) f wx) => show Calls Tryz.prog 18 #[.slice A6 read.length c6, idA f] wx fun e w' => e = .returned (.bool true) ∧ Below wx.heap.size wx w' from by
        have h := lw_has A6 read c6 f wx (hr6.below hx.2.2) HS0.out.ar (by omega)
        rwa [decide_eq_true hrd] at h)
      clear hrd hr6
      go_region_held3 (fun w' => w'.cell? ⟨b, 6, none⟩ = some (.slice A6 read.length c6) ∧ w'.rangeAt w.heap.size 0 (idKL f) ∧ Below W0.heap.size W0 w')
        (first | exact HK.out | exact PoP.later (by assumption) hb5)
        ((go_at_call 18; (with_reducible refine (HH.out _ ?hh).mono ?_); (case hh => assumption); rintro e w5 ⟨rfl, hb5⟩))
      rename_i hS
      have HB := Lib.hid (HW0.out.trans (hS.2.2.mono HW0.out.size))
      go_wp2_with fail
      go_ret2
      refine ⟨⟨.slice none 0 0, by rw [HE.out]; rfl, ?_⟩, ?_, Fr.of HB.out HN.out⟩
      · rw [show rdL (D : Int) (toL N) (idN f) made read (toL Nm) (toL S) (toL B) = [] from by unfold rdL; rw [if_neg (by rw [HE.out]; simp)]]
        exact World.ownsRow_nil _ _ _ _
      · rw [show rdR (D : Int) (idN f) read = read from by unfold rdR; rw [if_neg (by rw [HE.out]; decide)]]
        exact MdX.ext ⟨_, _, _, HO.out.below HB.out⟩ HN.out
    · have HE := Lib.hid (show rdE (D : Int) (idN f) read = 0 from by unfold rdE; rw [if_neg (by rw [h1]; decide), if_neg hrd])
      have HRR := Lib.hid (show rdR (D : Int) (idN f) read = read ++ [idN f] from by unfold rdR; rw [if_pos HE.out])
      have HH := Lib.hid (fun wx (hx : PoP W0 b 6 w.heap.size (.slice A6 read.length c6) f wx) => show Calls Tryz.prog 18 #[.slice A6 read.length c6, idA f] wx fun e w' => e = .returned (.bool false) ∧ Below wx.heap.size wx w' from by
        have h := lw_has A6 read c6 f wx (hr6.below hx.2.2) HS0.out.ar (by omega)
        rwa [decide_eq_false hrd] at h)
      clear hrd hr6
      go_region_held3 (fun w' => w'.cell? ⟨b, 6, none⟩ = some (.slice A6 read.length c6) ∧ w'.rangeAt w.heap.size 0 (idKL f) ∧ Below W0.heap.size W0 w')
        (first | exact HK.out | exact PoP.later (by assumption) hb5)
        ((go_at_call 18; (with_reducible refine (HH.out _ ?hh).mono ?_); (case hh => assumption); rintro e w5 ⟨rfl, hb5⟩))
      rename_i hS
      have HB := Lib.hid (HW0.out.trans (hS.2.2.mono HW0.out.size))
      have HS1 := Lib.hid (HS0.out.below hS.2.2)
      have HX1 := Lib.hid ((hS.2.2.block w.heap.size (by rw [HZ0.out]; omega)).trans HX0.out)
      have HN1 := Lib.hid (Nat.le_trans HN.out HB.out.size)
      clear k6 hra hb5 hS HK HH
      go_upto_region 5 with fail
      obtain ⟨_, _, _, _, _, k6⟩ := md_cells HS1.out
      have f6 := Lib.frozen_of_heap HS1.out.box 6
      obtain ⟨o1, e1⟩ := row_of (w := w5.drew) (v := .pointer (some ⟨w.heap.size, 0, none⟩)) (u := idA f) (load_id (W := w5.drew) HX1.out)
      have HOE := Lib.hid (fun (X : Obj) => row_of (w := (w5.alloc X).drew) (v := .pointer (some ⟨w.heap.size, 0, none⟩)) (u := idA f) (load_id (W := (w5.alloc X).drew) ((Lib.alloc_old w5 X w.heap.size (heap_lt HX1.out)).trans HX1.out)))
      have o2 := fun X => (HOE.out X).1
      have e2 := fun X => (HOE.out X).2
      have hown := HS1.out.or_
      have hbz := heap_lt HS1.out.box
      have hxz := heap_lt HX1.out
      have hxb : w.heap.size ≠ b := fun e => by have := HO.out.hi b HO.out.inb; omega
      have HXR := Lib.hid (show (Value.slice A6 read.length c6).ownBlock ≠ some w.heap.size from fun e => by have := HO.out.hi _ (HO.out.inr _ e); omega)
      go_region_law
        ((refine step_pour el_Id (by rfl) _ _ (by rfl) ((hown.alloc _).drew) (by rfl) (A := some ⟨w5.heap.size, 0, none⟩) (m := 1) (c := 1) (news := idKL f) (by rfl) (row_block (cs := idK f) (t := 23) (fr := (0, 0)) (heap_alloc_new w5 _)) (by rfl) (idK_one f) (by intro h; cases h) (by omega) (by unfold maxLen; omega) (by simp; exact Nat.le_succ_of_le HN1.out) ?_
          intro v4 w4 hown4 hg4 hat4
          obtain ⟨A4, c4, rfl, _⟩ := own_row hown4
          have HB4 := Lib.hid ((hg4.block b (by simp; omega) (fun e => HS1.out.br e.symm)).trans ((Lib.alloc_old w5 _ b hbz).trans HS1.out.box))
          have HX4 := Lib.hid ((hg4.block w.heap.size (by simp; omega) (fun e => HXR.out e.symm)).trans ((Lib.alloc_old w5 _ w.heap.size hxz).trans HX1.out))
          have hc4 : w4.cell? ⟨b, 6, none⟩ = some (.slice A6 read.length c6) := by rw [Lib.cell_of_heap HB4.out]; rfl
          have hf4 : w4.frozen? ⟨b, 6, none⟩ = false := Lib.frozen_of_heap HB4.out 6))
      all_goals
        have HP := Lib.hid (HS1.out.pushR HN1.out (p := idN f) rfl hown4 hg4 hat4)
        have HX6 := Lib.hid (show (w4.setCell ⟨b, 6, none⟩ (.slice A4 (read.length + 1) c4)).heap[w.heap.size]? = _ from (heap_set_ne _ hxb).trans HX4.out)
        have HF6 := Lib.hid ((Fr.of (S := A) HB.out HN.out).trans HP.out.2 (fun i hi => .inl hi))
        have HZ6 := Lib.hid HP.out.2.size
        clear k6 f6 o1 e1 o2 e2 HOE hown hbz hxz HXR HB4 HX4 hc4 hf4 hown4 hg4 hat4
        generalize w4.setCell ⟨b, 6, none⟩ (.slice A4 (read.length + 1) c4) = W6 at *
        have HS6 := Lib.hid HP.out.1
        go_upto_region 6 with fail
        obtain ⟨A5, c5, hvm, hr5⟩ := own_row HS6.out.om
        subst hvm
        obtain ⟨_, k2, _, _, k5, _⟩ := md_cells HS6.out
        have hra : W6.rangeAt w.heap.size 0 (idKL f) := range_id HX6.out
        have HK := Lib.hid (show PoP W6 b 5 w.heap.size (.slice A5 made.length c5) f W6.drew from PoP.of k5 hra ((Below.refl _ _).drew))
        have HHH := Lib.hid (fun wx (hx : PoP W6 b 5 w.heap.size (.slice A5 made.length c5) f wx) => lw_has A5 made c5 f wx (hr5.below hx.2.2) HS6.out.am (by omega))
        clear hr5
        by_cases hmd : idN f ∈ made
        · rw [decide_eq_true hmd] at HHH
          have HL := Lib.hid (show rdL (D : Int) (toL N) (idN f) made read (toL Nm) (toL S) (toL B) = [] from by unfold rdL; rw [if_neg (fun h => h.2 hmd)])
          clear hmd
          go_region_held3 (fun w' => w'.cell? ⟨b, 5, none⟩ = some (.slice A5 made.length c5) ∧ w'.rangeAt w.heap.size 0 (idKL f) ∧ Below W6.heap.size W6 w')
            (first | exact HK.out | exact PoP.later (by assumption) hb7)
            ((go_at_call 18; (with_reducible refine (HHH.out _ ?hh).mono ?_); (case hh => assumption); rintro e w7 ⟨rfl, hb7⟩))
          rename_i hS
          have HB7 := Lib.hid hS.2.2
          go_wp2_with fail
          go_ret2
          have hX : MdX n (Ext A w5 W6) w7 b R G N ls last made (read ++ [idN f]) := ⟨_, _, _, HS6.out.below HB7.out⟩
          have hF7 := HF6.out.below HB7.out HN.out
          refine ⟨⟨.slice none 0 0, by rw [HE.out]; rfl, ?_⟩, ?_, hF7⟩
          · rw [HL.out]; exact World.ownsRow_nil _ _ _ _
          · rw [HRR.out]
            exact hX.more (fun g hg => hg.elim .inl (fun h => .inr ⟨Nat.le_trans HB.out.size h.1, Nat.lt_of_lt_of_le h.2 HB7.out.size⟩)) (fun g hg => hg.elim (fun h => HO.out.lo g h) (fun h => Nat.le_trans HN.out h.1)) (fun g hg => hg.elim (fun h => Nat.lt_of_lt_of_le (HO.out.hi g h) hF7.size) (fun h => h.2))
        · rw [decide_eq_false hmd] at HHH
          have HL := Lib.hid (show rdL (D : Int) (toL N) (idN f) made read (toL Nm) (toL S) (toL B) = (txtF (toL Nm) (toL S) (toL B)).map fun t => ⟨D, toL N, t⟩ from by unfold rdL; rw [if_pos ⟨HE.out, hmd⟩]; rfl)
          clear hmd
          go_region_held3 (fun w' => w'.cell? ⟨b, 5, none⟩ = some (.slice A5 made.length c5) ∧ w'.rangeAt w.heap.size 0 (idKL f) ∧ Below W6.heap.size W6 w')
            (first | exact HK.out | exact PoP.later (by assumption) hb7)
            ((go_at_call 18; (with_reducible refine (HHH.out _ ?hh).mono ?_); (case hh => assumption); rintro e w7 ⟨rfl, hb7⟩))
          rename_i hS
          have HB7 := Lib.hid hS.2.2
          have HX7 := Lib.hid ((HB7.out.block w.heap.size (heap_lt HX6.out)).trans HX6.out)
          have k27 : w7.cell? ⟨b, 2, none⟩ = some (.string N) := (HB7.out.cell (World.block_lt_of_cell? _ _ k2)).trans k2
          clear k5 k2 hra hb7 hS HK HHH
          obtain ⟨o3, e3⟩ := post_of (w := w7.drew) (v := .pointer (some ⟨w.heap.size, 0, none⟩)) (u := postV f Nm S B (D : Int)) (load_post (W := w7.drew) HX7.out)
          have HSP := Lib.hid (lw_spoken f Nm S B N D w7.drew hNm hS hB)
          generalize ((txtF (toL Nm) (toL S) (toL B)).map fun t => (⟨D, toL N, t⟩ : Ln)) = L at *
          go_upto_region 8 with fail
          go_region_law ((go_simp; go_at_call 15; (with_reducible refine HSP.out.mono ?_); rintro e w8 ⟨v8, rfl, ho8⟩; obtain ⟨A8, c8, rfl, _⟩ := own_row ho8.own; have HO8 := Lib.hid ho8; clear ho8; dsimp only))
          all_goals
            have HB8 := Lib.hid (show Below W6.heap.size W6 w8 from HB7.out.trans (below_undrew (HO8.out.bel.mono HB7.out.size)))
            go_wp2_with fail
            go_ret2
            have hX : MdX n (Ext A w5 W6) w8 b R G N ls last made (read ++ [idN f]) := ⟨_, _, _, HS6.out.below HB8.out⟩
            have hF7 := HF6.out.below HB8.out HN.out
            have hz7 : w.heap.size ≤ w7.heap.size := Nat.le_trans HF6.out.size HB7.out.size
            refine ⟨⟨.slice A8 L.length c8, by rw [HE.out]; rfl, ?_⟩, ?_, hF7⟩
            · rw [HL.out]; exact own_mono HO8.out.own hz7
            · rw [HRR.out]
              exact hX.more (fun g hg => hg.elim .inl (fun h => .inr ⟨Nat.le_trans HB.out.size h.1, Nat.lt_of_lt_of_le h.2 HB8.out.size⟩)) (fun g hg => hg.elim (fun h => HO.out.lo g h) (fun h => Nat.le_trans HN.out h.1)) (fun g hg => hg.elim (fun h => Nat.lt_of_lt_of_le (HO.out.hi g h) hF7.size) (fun h => h.2))
end Go.Proofs.YtghjgbkhhoaebaaGreatDoor
