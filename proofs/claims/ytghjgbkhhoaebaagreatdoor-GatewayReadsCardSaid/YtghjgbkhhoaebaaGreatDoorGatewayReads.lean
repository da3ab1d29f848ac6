/- For every article, GatewayReads returns true: the chapter's examples hold, and Read returns the lines of the model, all of which pass Check. No condition. -/
import Derived.Test.YtghjgbkhhoaebaaGreatDoorPt37
import Derived.Test.YtghjgbkhhoaebaaGreatDoorPt32
import Derived.Test.YtghjgbkhhoaebaaGreatDoorPt45
import Derived.Test.YtghjgbkhhoaebaaGreatDoorGxF
import Derived.Test.YtghjgbkhhoaebaaGreatDoorPt38
import Derived.Test.YtghjgbkhhoaebaaGreatDoorPt44
namespace Go.Proofs.YtghjgbkhhoaebaaGreatDoor
set_option linter.unusedSimpArgs false
set_option linter.unusedVariables false
open Go.ChangeShapes Go.WideShapes Go.ChangeAt Go.RowKit
open Go.ChangeMaps (open_string shut_string)

theorem new_relay (w : World) (hsh : w.ShapedOpen Tryz.prog) : Calls Tryz.prog 10 #[.string ⟨#[35, 103, 111]⟩, .string ⟨#[97, 46, 98]⟩, .string ⟨#[114, 101, 108, 97, 121]⟩] w fun e w' => ∃ b, e = .returned (.tuple #[.pointer (some ⟨b, 0, none⟩), .int .i64 0]) ∧ GwX w.heap.size (fun k => w.heap.size ≤ k ∧ k < w'.heap.size) w' b ⟨#[35, 103, 111]⟩ ⟨#[97, 46, 98]⟩ ⟨#[114, 101, 108, 97, 121]⟩ [] 0 [] [] ∧ Below w.heap.size w w' :=
  gw_newS _ _ _ w hsh (by decide) (by decide) (by decide) (by decide +kernel) (by decide +kernel) (by decide +kernel)
theorem rd_first {n : Nat} {A : Nat → Prop} {b : Nat} {R G N : ByteArray} {f : Nat → Int} {Nm S B : ByteArray} {D : Nat} {w w' : World} {e : Ending} (h1 : minB (D : Int) = true) (h : RdPost n A b R G N [] 0 [] [] f Nm S B (D : Int) w e w') :
    ∃ L A1 c1, L = ((txtF (toL Nm) (toL S) (toL B)).map fun t => (⟨D, toL N, t⟩ : Ln)) ∧ e = .returned (.tuple #[.slice A1 L.length c1, .int .i64 0]) ∧ Row w' A1 (lnsV L) ∧ GwX n A w' b R G N [] 0 [] [idN f] ∧ Fr n A w w' := by
  obtain ⟨⟨v, rfl, ho⟩, hst, hfr⟩ := h
  have hE : rdE (D : Int) (idN f) [] = 0 := by unfold rdE; rw [if_neg (by rw [h1]; decide), if_neg (by simp)]
  have hL : rdL (D : Int) (toL N) (idN f) [] [] (toL Nm) (toL S) (toL B) = (txtF (toL Nm) (toL S) (toL B)).map fun t => (⟨D, toL N, t⟩ : Ln) := by
    unfold rdL; rw [if_pos ⟨hE, by simp⟩]; rfl
  have hR : rdR (D : Int) (idN f) [] = [idN f] := by unfold rdR; rw [if_pos hE]; rfl
  rw [hE]
  rw [hL] at ho
  rw [hR] at hst
  obtain ⟨A1, c1, rfl, hr⟩ := own_row ho
  exact ⟨_, A1, c1, rfl, rfl, hr, hst, hfr⟩
theorem rd_again {n : Nat} {A : Nat → Prop} {b : Nat} {R G N : ByteArray} {f : Nat → Int} {Nm S B : ByteArray} {d : Int} {w w' : World} {e : Ending} (h1 : minB d = true) (h : RdPost n A b R G N [] 0 [] [idN f] f Nm S B d w e w') :
    ∃ v, e = .returned (.tuple #[v, .int .i64 7]) ∧ Fr n A w w' := by
  obtain ⟨⟨v, rfl, ho⟩, hst, hfr⟩ := h
  have hE : rdE d (idN f) [idN f] = 7 := by unfold rdE; rw [if_neg (by rw [h1]; decide), if_pos (by simp)]
  exact ⟨v, by rw [hE], hfr⟩
theorem rd_range {n : Nat} {A : Nat → Prop} {b : Nat} {R G N : ByteArray} {f : Nat → Int} {Nm S B : ByteArray} {d : Int} {w w' : World} {e : Ending} (h1 : minB d = false) (h : RdPost n A b R G N [] 0 [] [] f Nm S B d w e w') :
    ∃ A1 c1, e = .returned (.tuple #[.slice A1 0 c1, .int .i64 2]) ∧ Fr n A w w' := by
  obtain ⟨⟨v, rfl, ho⟩, hst, hfr⟩ := h
  have hE : rdE d (idN f) [] = 2 := by unfold rdE; rw [if_pos h1]
  have hL : rdL d (toL N) (idN f) [] [] (toL Nm) (toL S) (toL B) = [] := by
    unfold rdL; rw [if_neg (by rw [hE]; simp)]
  rw [hE]
  rw [hL] at ho
  obtain ⟨A1, c1, rfl, hr⟩ := own_row ho
  exact ⟨A1, c1, rfl, hfr⟩
theorem relay_nick : nickB (toL ⟨#[114, 101, 108, 97, 121]⟩) = true := by decide +kernel
set_option maxHeartbeats 8000000 in
set_option maxRecDepth 100000 in
theorem GatewayReads_walk (f : Nat → Int) (Nm S B : ByteArray) (d : Int) (hNm : Nm.size ≤ maxLen) (hS : S.size ≤ maxLen) (hB : B.size ≤ maxLen) (w : World) (hba : Base w.heap.size w) :
    Calls Tryz.prog 3 #[postV f Nm S B d] w fun e w' => e = .returned (.bool true) ∧ Below w.heap.size w w' := by
  have HBA := Lib.hid hba
  have HS1 := Lib.hid (fun wx => lw_short Nm hNm 600 600 rfl wx (by omega))
  have HS2 := Lib.hid (fun wx => lw_short S hS 600 600 rfl wx (by omega))
  have HS3 := Lib.hid (fun wx => lw_short B hB 4000 4000 rfl wx (by omega))
  have hx1 := short_size Nm 600
  have hx2 := short_size S 600
  have hx3 := short_size B 4000
  clear hNm hS hB hba
  generalize Nm.extract 0 (min Nm.size 600) = X1 at *
  generalize S.extract 0 (min S.size 600) = X2 at *
  generalize B.extract 0 (min B.size 4000) = X3 at *
  go_enter Tryz.func3, Tryz.ntmps3
  go_upto_region 1 with fail
  have HBX := Lib.hid (show (w.alloc (.cells (postC f Nm S B d) 25)).heap[w.heap.size]? = some (.cells (postC f Nm S B d) 25 (0, 0)) from heap_alloc_new _ _)
  have HB0 := Lib.hid (show Below w.heap.size w (w.alloc (.cells (postC f Nm S B d) 25)) from alloc_bel _ _)
  generalize w.alloc (.cells (postC f Nm S B d) 25) = W0 at *
  obtain ⟨t1, t2, t3, t4⟩ := post_text HBX.out
  have hf1 := Lib.frozen_of_heap HBX.out 32
  have hf2 := Lib.frozen_of_heap HBX.out 33
  have hf3 := Lib.frozen_of_heap HBX.out 34
  have hz0 := heap_lt HBX.out
  go_cut [2] from 10 (fun v2 wx => v2 = .bool false ∧ wx = (((W0.setCell ⟨w.heap.size, 32, none⟩ (.string X1)).setCell ⟨w.heap.size, 33, none⟩ (.string X2)).setCell ⟨w.heap.size, 34, none⟩ (.string X3)).drew)
  case first =>
    go_region_with (first
      | (go_at_call 9; (with_reducible refine (HS1.out _).mono ?_); rintro e w' ⟨rfl, rfl⟩)
      | (go_at_call 9; (with_reducible refine (HS2.out _).mono ?_); rintro e w' ⟨rfl, rfl⟩)
      | (go_at_call 9; (with_reducible refine (HS3.out _).mono ?_); rintro e w' ⟨rfl, rfl⟩))
    all_goals
      go_wp2_with fail
      go_meet
      case rel => exact ⟨rfl, rfl⟩
  case rest =>
    obtain ⟨rfl, hwc⟩ := hcut
    have HX1 := Lib.hid (show wc.heap[w.heap.size]? = some (.cells (postC f X1 X2 X3 d) 25 (0, 0)) from by
      rw [hwc]
      exact heap_set (heap_set (heap_set HBX.out _) _) _)
    have HB1 := Lib.hid (show Below w.heap.size w wc from by
      rw [hwc]
      exact (((HB0.out.setCell (p := ⟨w.heap.size, 32, none⟩) (Nat.le_refl _) _).setCell (p := ⟨w.heap.size, 33, none⟩) (Nat.le_refl _) _).setCell (p := ⟨w.heap.size, 34, none⟩) (Nat.le_refl _) _).drew)
    clear hwc t1 t2 t3 t4 hf1 hf2 hf3 hz0 HBX HB0 HS1 HS2 HS3
    have hzw := HB1.out.size
    have hzx := heap_lt HX1.out
    have HBA1 := Lib.hid (HBA.out.step HB1.out)
    have HNW := Lib.hid (new_relay wc HBA1.out.shaped)
    have HLM := Lib.hid (fun wx => lw_minute d wx)
    rcases h1 : minB d with _ | _
    · rw [h1] at HLM
      go_wp2_with (first
        | (go_at_call 10; (with_reducible refine HNW.out.mono ?_); rintro e w2 ⟨b, rfl, hgx, hb2⟩; have HGX := Lib.hid hgx; have HB2 := Lib.hid hb2; clear hgx hb2)
        | (go_at_call 11; (with_reducible refine (gw_known w2 (HBA1.out.step (HB2.out.mono hzw)).shaped (HBA1.out.step (HB2.out.mono hzw)).tabN).mono ?_); rintro e w3 ⟨rfl, hb3⟩; have HB3 := Lib.hid (HB2.out.trans (hb3.mono HB2.out.size)); have HGX3 := Lib.hid (HGX.out.below hb3); have HX3 := Lib.hid ((HB3.out.block _ hzx).trans HX1.out); clear hb3)
        | (refine wpList_loadAt rfl 25 _ rfl rfl (load_post HX3.out) ?_; simp only [Act.put, List.setIfInBounds_toArray, List.set_cons_zero, List.set_cons_succ])
        | (go_at_call 12; (with_reducible refine (gw_read HGX3.out HB3.out.size ((HBA1.out.step (HB3.out.mono hzw)).mono hzw) f X1 X2 X3 d (by omega) (by omega) (by omega)).mono ?_); intro e w4 h4; obtain ⟨A1, c1, rfl, hf4⟩ := rd_range h1 h4; have HB4 := Lib.hid (HB3.out.trans hf4.bel); have HX4 := Lib.hid ((HB4.out.block _ hzx).trans HX1.out); obtain ⟨_, _, _, p4⟩ := post_text HX4.out; clear h4 hf4)
        | (go_at_call 13; (with_reducible refine (HLM.out _).mono ?_); rintro e w' ⟨rfl, rfl⟩))
      go_ret
      exact ⟨rfl, HB1.out.trans (HB4.out.mono hzw)⟩
    · rw [h1] at HLM
      obtain ⟨D, rfl⟩ : ∃ D : Nat, d = (D : Int) := ⟨d.toNat, by unfold minB at h1; simp at h1; omega⟩
      have hcl : (txtF (toL X1) (toL X2) (toL X3)).length ≤ 50 := capT_len _
      have HOK := Lib.hid (txt_ok (toL X1) (toL X2) (toL X3) (by rw [toL_length]; omega))
      have HH1 := Lib.hid h1
      go_upto_region 8 with (first
        | (go_at_call 10; (with_reducible refine HNW.out.mono ?_); rintro e w2 ⟨b, rfl, hgx, hb2⟩; have HGX := Lib.hid hgx; have HB2 := Lib.hid hb2; clear hgx hb2)
        | (go_at_call 11; (with_reducible refine (gw_known w2 (HBA1.out.step (HB2.out.mono hzw)).shaped (HBA1.out.step (HB2.out.mono hzw)).tabN).mono ?_); rintro e w3 ⟨rfl, hb3⟩; have HB3 := Lib.hid (HB2.out.trans (hb3.mono HB2.out.size)); have HGX3 := Lib.hid (HGX.out.below hb3); have HX3 := Lib.hid ((HB3.out.block _ hzx).trans HX1.out); clear hb3)
        | (refine wpList_loadAt rfl 25 _ rfl rfl (load_post HX3.out) ?_; simp only [Act.put, List.setIfInBounds_toArray, List.set_cons_zero, List.set_cons_succ])
        | (go_at_call 12; (with_reducible refine (gw_read HGX3.out HB3.out.size ((HBA1.out.step (HB3.out.mono hzw)).mono hzw) f X1 X2 X3 (D : Int) (by omega) (by omega) (by omega)).mono ?_); intro e w4 h4; obtain ⟨L, A1, c1, hLe, rfl, hr4, hg4, hf4⟩ := rd_first HH1.out h4; have HLE := Lib.hid hLe; clear hLe; have HR4 := Lib.hid hr4; have HG4 := Lib.hid hg4; have HB4 := Lib.hid (HB3.out.trans hf4.bel); have HX4 := Lib.hid ((HB4.out.block _ hzx).trans HX1.out); obtain ⟨_, _, _, p4⟩ := post_text HX4.out; clear h4 hf4 hr4 hg4)
        | (go_at_call 13; (with_reducible refine (HLM.out _).mono ?_); rintro e w' ⟨rfl, rfl⟩))
      have hlm : L.length ≤ 50 := by rw [HLE.out, List.length_map]; exact hcl
      have HSP := Lib.hid (lw_spoken f X1 X2 X3 ⟨#[114, 101, 108, 97, 121]⟩ D w4 (by omega) (by omega) (by omega))
      rw [← HLE.out] at HSP
      have HOL := Lib.hid (show ∀ x ∈ L, lineE (x.min : Int) x.nick x.text = 0 ∧ x.nick.length ≤ 20 ∧ x.text.length ≤ 400 from by
        intro x hx
        rw [HLE.out] at hx
        obtain ⟨t, ht, rfl⟩ := List.mem_map.1 hx
        have h0 := HOK.out t ht
        refine ⟨?_, by show (toL ⟨#[114, 101, 108, 97, 121]⟩).length ≤ 20; decide, ?_⟩
        · show lineE (D : Int) (toL ⟨#[114, 101, 108, 97, 121]⟩) t = 0
          unfold lineE; rw [if_neg (by rw [HH1.out]; decide), if_neg (by rw [relay_nick]; decide)]; exact h0
        · unfold textE at h0
          split at h0
          · cases h0
          · split at h0
            · cases h0
            · rename_i h; simp only; omega)
      clear HOK hcl HLE
      have hl50 : decide (50 < L.length) = false := decide_eq_false (by omega)
      go_wp2_with (first
        | (refine wpList_loadAtG (by rfl) 25 _ rfl rfl (load_post HX4.out) ?_; simp only [Act.put, List.setIfInBounds_toArray, List.set_cons_zero, List.set_cons_succ])
        | (go_at_call 15; (with_reducible refine HSP.out.mono ?_); rintro e w5 ⟨v5, rfl, ho5⟩; obtain ⟨A2, c2, rfl, hr5⟩ := own_row ho5.own; have HR5 := Lib.hid hr5; have HB5 := Lib.hid ho5.bel; clear ho5 hr5)
        | (go_at_call 14; (with_reducible refine (lw_same A1 A2 L c1 c2 _ (HR4.out.below HB5.out) HR5.out (by omega)).mono ?_); rintro e w6 ⟨rfl, hb6⟩; have HB6 := Lib.hid (HB5.out.trans (hb6.mono HB5.out.size)); clear hb6))
      have HRL := Lib.hid (HR4.out.below HB6.out)
      have HB46 := Lib.hid (HB4.out.trans (HB6.out.mono HB4.out.size))
      have hlI : (L.length : Int) ≤ 50 := by omega
      go_loopw [7] (fun ix wr => ∃ k : Nat, k ≤ L.length ∧ ix = .int .i64 (k : Int) ∧ Below w6.heap.size w6 wr) (fun ix _ => L.length - (intOf ix).toNat)
      case atStart => exact ⟨0, by omega, rfl, Below.refl _ _⟩
      case round =>
        obtain ⟨k, hk, rfl, hB⟩ := hrel
        have k0 : (0 : Int) ≤ (k : Int) := by omega
        by_cases hlt : k < L.length
        · have k1 : (k : Int) < (L.length : Int) := by omega
          obtain ⟨bb, off, rfl, hbb, c0, c1, c2⟩ := lns_cells (HRL.out.below hB) hlt
          have hok := HOL.out L[k] (List.getElem_mem hlt)
          generalize L[k] = x at *
          obtain ⟨m, nn, tt⟩ := x
          simp only at c0 c1 c2 hok
          obtain ⟨e0, e1, e2⟩ := hok
          have HC := Lib.hid (gw_check (m : Int) (ofL nn) (ofL tt) wr (by rw [ofL_size]; unfold maxLen; omega) (by rw [ofL_size]; omega))
          rw [toL_ofL, toL_ofL, e0] at HC
          clear e0 e1 e2
          go_wp2_with ((go_at_call 16; (with_reducible refine HC.out.mono ?_); rintro e w7 ⟨rfl, hb7⟩))
          go_roundw
          case rel => exact ⟨k + 1, by omega, by go_num, hB.trans (hb7.mono hB.size)⟩
          case measure => simp [intOf] <;> omega
        · have k1 : (L.length : Int) ≤ (k : Int) := by omega
          have HB7 := Lib.hid (HB46.out.trans (hB.mono HB46.out.size))
          have HB47 := Lib.hid (HB6.out.trans (hB.mono HB6.out.size))
          have HX7 := Lib.hid ((HB7.out.block _ hzx).trans HX1.out)
          have HG7 := Lib.hid (HG4.out.below HB47.out)
          go_wp2_with (first
            | (refine wpList_loadAt rfl 25 _ rfl rfl (load_post HX7.out) ?_; simp only [Act.put, List.setIfInBounds_toArray, List.set_cons_zero, List.set_cons_succ])
            | (go_at_call 12; (with_reducible refine (gw_read HG7.out HB7.out.size ((HBA1.out.step (HB7.out.mono hzw)).mono hzw) f X1 X2 X3 (D : Int) (by omega) (by omega) (by omega)).mono ?_); intro e w8 h8; obtain ⟨v8, rfl, hf8⟩ := rd_again HH1.out h8; have HF8 := Lib.hid (HB7.out.trans hf8.bel); clear h8 hf8))
          go_ret
          exact ⟨rfl, HB1.out.trans (HF8.out.mono hzw)⟩
set_option maxRecDepth 100000 in
theorem GatewayReads_contract (H : Type) (enc : TypeId × Value → H) (W : World) (base : Nat) (args : Array Value) (ds gs : List (DataW H)) (before : List MemPlace)
    (hval0 : ∀ (j : Nat) t v, Tryz.f3.params[j]? = some t → args[j]? = some v → Value.okWide Tryz.prog W .any base t v)
    (hW : DataW.Whole enc Tryz.prog Tryz.f3.params.toList Rows.gatewayReadsSpec.vars false W args.toList ds gs before) (hsh : W.ShapedOpen Tryz.prog) (htb : TabB W) (htn : TabN W) :
    Calls Tryz.prog 3 args W fun e W' => ∃ v, e = .returned v ∧ Rows.gatewayReadsSpec.post enc Tryz.prog Tryz.f3 false true false false W args v W' := by
  have hval : ∀ (j : Nat) t v, Tryz.f3.params[j]? = some t → args[j]? = some v → Value.okWide Tryz.prog W .any base t v := hval0
  have hW' := hW
  obtain ⟨p, q, hA0, hV, rfl, hfz, hnd⟩ := hW
  have hA : DataW.TrodAll enc Tryz.prog W 0 (fun _ => true) true Tryz.f3.params.toList args.toList ds p := hA0
  rw [Tryz.params3] at hA hval
  obtain ⟨v0, vs0, d0, ds0, p0, q0, hargs, rfl, rfl, h0, r0⟩ := trodAll_cons hA
  obtain ⟨rfl, rfl, rfl⟩ := trodAll_nil r0
  obtain rfl : args = #[v0] := by cases args; simp_all
  obtain ⟨rfl, rfl⟩ := trodVars_none hV
  obtain ⟨f0, n0, s0, b0, e0, rfl, wn0, ws0, wb0, we0⟩ := open_post (hval 0 25 v0 rfl rfl) h0
  refine (GatewayReads_walk f0 n0 s0 b0 e0 wn0 ws0 wb0 W (Base.of hsh htb htn)).mono fun e W' ⟨he, hg⟩ => ?_
  subst he
  exact ⟨_, rfl, law_post hW' rfl rfl rfl (by decide +kernel) hg⟩

theorem GatewayReads_reads (os : Os) {H : Type} (enc : TypeId × Value → H) : ∃ places, DataW.whole enc Tryz.prog ((laidWorld os).forCall (fun _ _ => 0) ⟨#[], #[witP], []⟩).memory Tryz.f3.params.toList Rows.gatewayReadsSpec.vars false ((#[witP] : Array Value)).toList 8 = some ([datP], [], places) :=
  ⟨[], by kernel_rfl⟩

set_option maxRecDepth 100000 in
theorem GatewayReads_lifted (os : Os) (started : os.Started) (H : Type) (enc : TypeId × Value → H) (F : Stop.Interp) :
    ReturnsInHanded {} Tryz.checked os 3 .any ((OpenSpec.ofChange Rows.gatewayReadsSpec).preRow enc Tryz.prog Tryz.f3 Rows.gatewayReadsRow.domain false Rows.gatewayReadsRow.laid) (((OpenSpec.ofChange Rows.gatewayReadsSpec).at F).post enc Tryz.prog Tryz.f3 false true false false) := by
  obtain ⟨places, hx⟩ := GatewayReads_reads os enc
  refine returnsInHanded_of_row (C := Tryz.checked) (s := OpenSpec.ofChange Rows.gatewayReadsSpec) own started (by kernel_rfl) Tryz.func3
    (witness_row_at (enc := enc) (C := Tryz.checked) false (laidWorld os) #[witP] rfl (by kernel_rfl) (by kernel_rfl) (by kernel_rfl)
      (OpenSpec.preRow_of_cond 8 hx (by kernel_rfl) (fun k hk => by cases hk) (by kernel_rfl) (laid_met os #[witP]))) ?_
  intro W base args ds gs before hval hW _ _ _ hL hsh _
  exact GatewayReads_contract H enc W base args ds gs before hval hW hsh (tabB_of_laid hL) (tabN_of_laid hL)

theorem GatewayReads_said : Rows.GatewayReadsSaid :=
  OpenClaim.holds_of_cond 3 Tryz.f3 rfl rfl rfl rfl rfl rfl rfl ⟨rfl, rfl, rfl, rfl, rfl⟩ rfl rfl rfl rfl rfl (by kernel_rfl) Tryz.func3 (by kernel_rfl)
    (of_decide_eq_true (by kernel_rfl)) (by unfold Func.isWrapper; first | (rw [if_pos (by decide +kernel)]; kernel_rfl) | (rw [if_neg (by decide +kernel)]; exact ⟨rfl, rfl⟩))
    (fun os started H enc _ F => by rw [OpenClaim.pre_eq_preRow]; exact GatewayReads_lifted os started H enc F)

theorem GatewayReads_plain (f : FuncId) (fn : Func) (hf : Tryz.pinned.checked.prog.funcNamed Rows.gatewayReadsRow.func = some f) (hfn : Tryz.pinned.checked.prog.funcs[f]? = some fn) :
    true = Tryz.pinned.checked.prog.looks [] ∧ ∀ (j : Nat) t, fn.params[j]? = some t → Tryz.pinned.checked.prog.wantsStandIn t = false := by
  obtain rfl : f = 3 := Option.some.inj ((show Tryz.prog.funcNamed Rows.gatewayReadsRow.func = some 3 by kernel_rfl).symm.trans hf) |>.symm
  obtain rfl : fn = Tryz.f3 := (Option.some.inj (Tryz.func3.symm.trans hfn)).symm
  refine ⟨by kernel_rfl, fun j t ht => ?_⟩
  rw [Tryz.params3] at ht
  have hm := Array.mem_of_getElem? ht
  simp only [List.mem_toArray, List.mem_cons, List.not_mem_nil, or_false] at hm
  subst hm
  exact (show Tryz.prog.wantsStandIn 25 = false by kernel_rfl)

theorem GatewayReads_proved : Rows.GatewayReadsCardSaid :=
  Claim7.holds_tied_plain_at .later [] _ _ _ _ GatewayReads_said (fun _ h => by cases h) (by kernel_rfl) (fun _ h => by cases h) gatewayReads_row_tie rfl ⟨rfl, rfl⟩ (by kernel_rfl) rfl GatewayReads_plain (by kernel_rfl)
end Go.Proofs.YtghjgbkhhoaebaaGreatDoor
