/- For every operation, GatewayNil returns true: a nil gateway returns ErrArgument or zero values from all functions, and gateways with different names are not equal. No condition. -/
import Derived.Test.YtghjgbkhhoaebaaGreatDoorPn26
import Derived.Test.YtghjgbkhhoaebaaGreatDoorPn36
import Derived.Test.YtghjgbkhhoaebaaGreatDoorPn27
import Derived.Test.YtghjgbkhhoaebaaGreatDoorPn34
namespace Go.Proofs.YtghjgbkhhoaebaaGreatDoor
set_option linter.unusedSimpArgs false
set_option linter.unusedVariables false
open Go.ChangeShapes Go.WideShapes Go.ChangeAt Go.RowKit
open Go.ChangeMaps (open_string shut_string)

attribute [local go_sem ↓] wp_load_id
set_option maxHeartbeats 16000000 in
set_option maxRecDepth 100000 in
theorem GatewayNil_walk (o : OpR) (ho : OpOk o) (w : World) (hba : Base w.heap.size w) :
    Calls Tryz.prog 8 #[.agg (opA o.k o.m o.n o.t o.f o.N o.S o.B o.d o.r)] w fun e w' => e = .returned (.bool true) ∧ Below w.heap.size w w' := by
  have HBA := Lib.hid hba
  clear ho hba
  obtain ⟨k, m, n, t, f, N, S, B, d, r⟩ := o
  simp only
  have HB := Lib.hid (alloc_bel w (.cells (opA k m n t f N S B d r) 60))
  have HX := Lib.hid (show (w.alloc (.cells (opA k m n t f N S B d r) 60)).heap[w.heap.size]? = some (.cells (opA k m n t f N S B d r) 60 (0, 0)) from heap_alloc_new _ _)
  go_enter Tryz.func8, Tryz.ntmps8
  go_upto_region 2 with fail
  generalize w.alloc (.cells (opA k m n t f N S B d r) 60) = w1 at *
  go_wp2_with (first
    | (refine wpList_loadAt rfl 25 _ rfl rfl (op_post HX.out) ?_; simp only [Act.put, List.setIfInBounds_toArray, List.set_cons_zero, List.set_cons_succ])
    | (go_at_call 12; (with_reducible refine (nil_read _ _ _ _ _ _).mono ?_); rintro e w2 ⟨rfl, hb2⟩; have HB := Lib.hid (HB.out.trans (hb2.mono HB.out.size)); have HX := Lib.hid ((hb2.block _ (heap_lt HX.out)).trans HX.out); obtain ⟨_, c1, _, _, _⟩ := op_cells HX.out; clear hb2)
    | (go_at_call 22; (with_reducible refine (nil_take _ _).mono ?_); rintro e w3 ⟨rfl, rfl⟩)
    | (go_at_call 10; (with_reducible refine (gw_newS ⟨#[35, 103, 111]⟩ ⟨#[97, 46, 98]⟩ ⟨#[114, 101, 108, 97, 121]⟩ _ (HBA.out.step HB.out).shaped (by decide) (by decide) (by decide) (by decide +kernel) (by decide +kernel) (by decide +kernel)).mono ?_); rintro e wu1 ⟨bu1, rfl, hgu1, hnu1⟩; have HB := Lib.hid (HB.out.trans (hnu1.mono HB.out.size)); have HX := Lib.hid ((hnu1.block _ (heap_lt HX.out)).trans HX.out); have HGu1 := Lib.hid hgu1; clear hgu1 hnu1)
    | (go_at_call 10; (with_reducible refine (gw_newS ⟨#[35, 103, 111]⟩ ⟨#[97, 46, 99]⟩ ⟨#[114, 101, 108, 97, 121]⟩ _ (HBA.out.step HB.out).shaped (by decide) (by decide) (by decide) (by decide +kernel) (by decide +kernel) (by decide +kernel)).mono ?_); rintro e wu2 ⟨bu2, rfl, hgu2, hnu2⟩; have HB := Lib.hid (HB.out.trans (hnu2.mono HB.out.size)); have HX := Lib.hid ((hnu2.block _ (heap_lt HX.out)).trans HX.out); have HGu1 := Lib.hid (HGu1.out.below hnu2); have HGu2 := Lib.hid hgu2; clear hgu2 hnu2)
    | (go_at_call 10; (with_reducible refine (gw_newS ⟨#[35, 103, 97]⟩ ⟨#[97, 46, 98]⟩ ⟨#[114, 101, 108, 97, 121]⟩ _ (HBA.out.step HB.out).shaped (by decide) (by decide) (by decide) (by decide +kernel) (by decide +kernel) (by decide +kernel)).mono ?_); rintro e wu3 ⟨bu3, rfl, hgu3, hnu3⟩; have HB := Lib.hid (HB.out.trans (hnu3.mono HB.out.size)); have HX := Lib.hid ((hnu3.block _ (heap_lt HX.out)).trans HX.out); have HGu1 := Lib.hid (HGu1.out.below hnu3); have HGu2 := Lib.hid (HGu2.out.below hnu3); have HGu3 := Lib.hid hgu3; clear hgu3 hnu3)
    | (go_at_call 10; (with_reducible refine (gw_newS ⟨#[35, 103, 111]⟩ ⟨#[97, 46, 98]⟩ ⟨#[82, 101, 108, 97, 121]⟩ _ (HBA.out.step HB.out).shaped (by decide) (by decide) (by decide) (by decide +kernel) (by decide +kernel) (by decide +kernel)).mono ?_); rintro e wu4 ⟨bu4, rfl, hgu4, hnu4⟩; have HB := Lib.hid (HB.out.trans (hnu4.mono HB.out.size)); have HX := Lib.hid ((hnu4.block _ (heap_lt HX.out)).trans HX.out); have HGu1 := Lib.hid (HGu1.out.below hnu4); have HGu2 := Lib.hid (HGu2.out.below hnu4); have HGu3 := Lib.hid (HGu3.out.below hnu4); have HGu4 := Lib.hid hgu4; clear hgu4 hnu4)
    | (go_at_call 11; (with_reducible refine (gw_known _ (HBA.out.step HB.out).shaped (HBA.out.step HB.out).tabN).mono ?_); rintro e wk ⟨rfl, hbk⟩; have HB := Lib.hid (HB.out.trans (hbk.mono HB.out.size)); have HX := Lib.hid ((hbk.block _ (heap_lt HX.out)).trans HX.out); have HGu1 := Lib.hid (HGu1.out.below hbk); have HGu2 := Lib.hid (HGu2.out.below hbk); have HGu3 := Lib.hid (HGu3.out.below hbk); have HGu4 := Lib.hid (HGu4.out.below hbk); obtain ⟨_, c1, c2, c3, _⟩ := op_cells HX.out; clear hbk)
    | (go_at_call 20; (with_reducible refine (nil_hear _ _ _ _).mono ?_); rintro e wh ⟨rfl, hbh⟩; have HB := Lib.hid (HB.out.trans (hbh.mono HB.out.size)); have HX := Lib.hid ((hbh.block _ (heap_lt HX.out)).trans HX.out); have HGu1 := Lib.hid (HGu1.out.below hbh); have HGu2 := Lib.hid (HGu2.out.below hbh); have HGu3 := Lib.hid (HGu3.out.below hbh); have HGu4 := Lib.hid (HGu4.out.below hbh); obtain ⟨o1, e1⟩ := row_of (op_id HX.out); clear hbh)
    | (go_at_call 21; (with_reducible refine (nil_posted _ _).mono ?_); rintro e wp ⟨rfl, hbp⟩; have HB := Lib.hid (HB.out.trans (hbp.mono HB.out.size)); have HX := Lib.hid ((hbp.block _ (heap_lt HX.out)).trans HX.out); have HGu1 := Lib.hid (HGu1.out.below hbp); have HGu2 := Lib.hid (HGu2.out.below hbp); have HGu3 := Lib.hid (HGu3.out.below hbp); have HGu4 := Lib.hid (HGu4.out.below hbp); clear hbp)
    | (go_at_call 19; (with_reducible refine (gw_waiting_nil _).mono ?_); rintro e wq ⟨rfl, rfl⟩)
    | (go_at_call 26; (with_reducible refine (nil_clone _).mono ?_); rintro e wq ⟨rfl, rfl⟩)
    | (go_at_call 26; (with_reducible refine (gw_clone HGu1.out).mono ?_); rintro e wc ⟨bc, rfl, hgc, hbc⟩; have HB := Lib.hid (HB.out.trans (hbc.mono HB.out.size)); have HX := Lib.hid ((hbc.block _ (heap_lt HX.out)).trans HX.out); have HGu1 := Lib.hid (HGu1.out.below hbc); have HGu2 := Lib.hid (HGu2.out.below hbc); have HGu3 := Lib.hid (HGu3.out.below hbc); have HGu4 := Lib.hid (HGu4.out.below hbc); have HGc := Lib.hid hgc; clear hgc hbc)
    | (go_at_call 27; (with_reducible refine (nil_equal _).mono ?_); rintro e wq ⟨rfl, rfl⟩)
    | (go_at_call 27; (with_reducible refine (nil_equal1 _ _).mono ?_); rintro e wq ⟨rfl, rfl⟩)
    | (go_at_call 27; (with_reducible refine (nil_equal2 _ _).mono ?_); rintro e wq ⟨rfl, rfl⟩)
    | (go_at_call 27; (with_reducible refine (gw_equalT HGu1.out HGc.out).mono ?_); rintro e we ⟨rfl, hbe⟩; have HB := Lib.hid (HB.out.trans (hbe.mono HB.out.size)); have HX := Lib.hid ((hbe.block _ (heap_lt HX.out)).trans HX.out); have HGu1 := Lib.hid (HGu1.out.below hbe); have HGu2 := Lib.hid (HGu2.out.below hbe); have HGu3 := Lib.hid (HGu3.out.below hbe); have HGu4 := Lib.hid (HGu4.out.below hbe); have HGc := Lib.hid (HGc.out.below hbe); clear hbe)
    | (go_at_call 27; (with_reducible refine (gw_equalG HGu1.out HGu2.out (by rw [beq_toList]; decide +kernel)).mono ?_); rintro e we ⟨rfl, hbe⟩; have HB := Lib.hid (HB.out.trans (hbe.mono HB.out.size)); have HX := Lib.hid ((hbe.block _ (heap_lt HX.out)).trans HX.out); have HGu1 := Lib.hid (HGu1.out.below hbe); have HGu2 := Lib.hid (HGu2.out.below hbe); have HGu3 := Lib.hid (HGu3.out.below hbe); have HGu4 := Lib.hid (HGu4.out.below hbe); have HGc := Lib.hid (HGc.out.below hbe); clear hbe)
    | (go_at_call 27; (with_reducible refine (gw_equalR HGu1.out HGu3.out (by rw [beq_toList]; decide +kernel)).mono ?_); rintro e we ⟨rfl, hbe⟩; have HB := Lib.hid (HB.out.trans (hbe.mono HB.out.size)); have HX := Lib.hid ((hbe.block _ (heap_lt HX.out)).trans HX.out); have HGu1 := Lib.hid (HGu1.out.below hbe); have HGu2 := Lib.hid (HGu2.out.below hbe); have HGu3 := Lib.hid (HGu3.out.below hbe); have HGu4 := Lib.hid (HGu4.out.below hbe); have HGc := Lib.hid (HGc.out.below hbe); clear hbe)
    | (go_at_call 27; (with_reducible refine (gw_equalN HGu1.out HGu4.out (by rw [beq_toList]; decide +kernel)).mono ?_); rintro e we ⟨rfl, hbe⟩; have HB := Lib.hid (HB.out.trans (hbe.mono HB.out.size)); have HX := Lib.hid ((hbe.block _ (heap_lt HX.out)).trans HX.out); have HGu1 := Lib.hid (HGu1.out.below hbe); have HGu2 := Lib.hid (HGu2.out.below hbe); have HGu3 := Lib.hid (HGu3.out.below hbe); have HGu4 := Lib.hid (HGu4.out.below hbe); have HGc := Lib.hid (HGc.out.below hbe); clear hbe))
  go_ret
  exact ⟨rfl, HB.out⟩
set_option maxRecDepth 100000 in
theorem GatewayNil_contract (H : Type) (enc : TypeId × Value → H) (W : World) (base : Nat) (args : Array Value) (ds gs : List (DataW H)) (before : List MemPlace)
    (hval0 : ∀ (j : Nat) t v, Tryz.f8.params[j]? = some t → args[j]? = some v → Value.okWide Tryz.prog W .any base t v)
    (hW : DataW.Whole enc Tryz.prog Tryz.f8.params.toList Rows.gatewayNilSpec.vars false W args.toList ds gs before) (hsh : W.ShapedOpen Tryz.prog) (htb : TabB W) (htn : TabN W) :
    Calls Tryz.prog 8 args W fun e W' => ∃ v, e = .returned v ∧ Rows.gatewayNilSpec.post enc Tryz.prog Tryz.f8 false true false false W args v W' := by
  have hval : ∀ (j : Nat) t v, Tryz.f8.params[j]? = some t → args[j]? = some v → Value.okWide Tryz.prog W .any base t v := hval0
  have hW' := hW
  obtain ⟨p, q, hA0, hV, rfl, hfz, hnd⟩ := hW
  have hA : DataW.TrodAll enc Tryz.prog W 0 (fun _ => true) true Tryz.f8.params.toList args.toList ds p := hA0
  rw [Tryz.params8] at hA hval
  obtain ⟨v0, vs0, d0, ds0, p0, q0, hargs, rfl, rfl, h0, r0⟩ := trodAll_cons hA
  obtain ⟨rfl, rfl, rfl⟩ := trodAll_nil r0
  obtain rfl : args = #[v0] := by cases args; simp_all
  obtain ⟨rfl, rfl⟩ := trodVars_none hV
  obtain ⟨o0, rfl, hok0⟩ := open_op (hval 0 60 v0 rfl rfl) h0
  refine (GatewayNil_walk o0 hok0 W (Base.of hsh htb htn)).mono fun e W' ⟨he, hg⟩ => ?_
  subst he
  exact ⟨_, rfl, law_post hW' rfl rfl rfl (by decide +kernel) hg⟩

theorem GatewayNil_reads (os : Os) {H : Type} (enc : TypeId × Value → H) : ∃ places, DataW.whole enc Tryz.prog ((laidWorld os).forCall (fun _ _ => 0) ⟨#[], #[witQ], []⟩).memory Tryz.f8.params.toList Rows.gatewayNilSpec.vars false ((#[witQ] : Array Value)).toList 8 = some ([datQ], [], places) :=
  ⟨[], by kernel_rfl⟩

set_option maxRecDepth 100000 in
theorem GatewayNil_lifted (os : Os) (started : os.Started) (H : Type) (enc : TypeId × Value → H) (F : Stop.Interp) :
    ReturnsInHanded {} Tryz.checked os 8 .any ((OpenSpec.ofChange Rows.gatewayNilSpec).preRow enc Tryz.prog Tryz.f8 Rows.gatewayNilRow.domain false Rows.gatewayNilRow.laid) (((OpenSpec.ofChange Rows.gatewayNilSpec).at F).post enc Tryz.prog Tryz.f8 false true false false) := by
  obtain ⟨places, hx⟩ := GatewayNil_reads os enc
  refine returnsInHanded_of_row (C := Tryz.checked) (s := OpenSpec.ofChange Rows.gatewayNilSpec) own started (by kernel_rfl) Tryz.func8
    (witness_row_at (enc := enc) (C := Tryz.checked) false (laidWorld os) #[witQ] rfl (by kernel_rfl) (by kernel_rfl) (by kernel_rfl)
      (OpenSpec.preRow_of_cond 8 hx (by kernel_rfl) (fun k hk => by cases hk) (by kernel_rfl) (laid_met os #[witQ]))) ?_
  intro W base args ds gs before hval hW _ _ _ hL hsh _
  exact GatewayNil_contract H enc W base args ds gs before hval hW hsh (tabB_of_laid hL) (tabN_of_laid hL)

theorem GatewayNil_said : Rows.GatewayNilSaid :=
  OpenClaim.holds_of_cond 8 Tryz.f8 rfl rfl rfl rfl rfl rfl rfl ⟨rfl, rfl, rfl, rfl, rfl⟩ rfl rfl rfl rfl rfl (by kernel_rfl) Tryz.func8 (by kernel_rfl)
    (of_decide_eq_true (by kernel_rfl)) (by unfold Func.isWrapper; first | (rw [if_pos (by decide +kernel)]; kernel_rfl) | (rw [if_neg (by decide +kernel)]; exact ⟨rfl, rfl⟩))
    (fun os started H enc _ F => by rw [OpenClaim.pre_eq_preRow]; exact GatewayNil_lifted os started H enc F)

theorem GatewayNil_plain (f : FuncId) (fn : Func) (hf : Tryz.pinned.checked.prog.funcNamed Rows.gatewayNilRow.func = some f) (hfn : Tryz.pinned.checked.prog.funcs[f]? = some fn) :
    true = Tryz.pinned.checked.prog.looks [] ∧ ∀ (j : Nat) t, fn.params[j]? = some t → Tryz.pinned.checked.prog.wantsStandIn t = false := by
  obtain rfl : f = 8 := Option.some.inj ((show Tryz.prog.funcNamed Rows.gatewayNilRow.func = some 8 by kernel_rfl).symm.trans hf) |>.symm
  obtain rfl : fn = Tryz.f8 := (Option.some.inj (Tryz.func8.symm.trans hfn)).symm
  refine ⟨by kernel_rfl, fun j t ht => ?_⟩
  rw [Tryz.params8] at ht
  have hm := Array.mem_of_getElem? ht
  simp only [List.mem_toArray, List.mem_cons, List.not_mem_nil, or_false] at hm
  subst hm
  exact (show Tryz.prog.wantsStandIn 60 = false by kernel_rfl)

theorem GatewayNil_proved : Rows.GatewayNilCardSaid :=
  Claim7.holds_tied_plain_at .later [] _ _ _ _ GatewayNil_said (fun _ h => by cases h) (by kernel_rfl) (fun _ h => by cases h) gatewayNil_row_tie rfl ⟨rfl, rfl⟩ (by kernel_rfl) rfl GatewayNil_plain (by kernel_rfl)
end Go.Proofs.YtghjgbkhhoaebaaGreatDoor
