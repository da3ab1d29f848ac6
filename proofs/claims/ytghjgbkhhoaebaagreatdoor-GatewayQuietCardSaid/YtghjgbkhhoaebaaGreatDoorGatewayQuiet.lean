/- For all operations and every minute, GatewayQuiet returns true: Take makes an article exactly if 50 lines wait, or some line waits and the room has been quiet for 10 minutes; otherwise nothing changes. No condition. -/
import Derived.Test.YtghjgbkhhoaebaaGreatDoorPo50
import Derived.Test.YtghjgbkhhoaebaaGreatDoorPo38
import Derived.Test.YtghjgbkhhoaebaaGreatDoorPo44
namespace Go.Proofs.YtghjgbkhhoaebaaGreatDoor
set_option linter.unusedSimpArgs false
set_option linter.unusedVariables false
open Go.ChangeShapes Go.WideShapes Go.ChangeAt Go.RowKit
open Go.ChangeMaps (open_string shut_string)

theorem takS_len {R : Bs} {ls : List Ln} {last now : Int} (h : takB ls last now = false) : takS R ls last now = [] ∧ takT ls last now = [] ∧ takL ls last now = ls := ⟨by unfold takS; rw [h]; rfl, by unfold takT; rw [h]; rfl, by unfold takL; rw [h]; rfl⟩
set_option maxHeartbeats 8000000 in
set_option maxRecDepth 100000 in
theorem GatewayQuiet_walk {w : World} (A : Option Addr) (l : List OpR) (c : Nat) (hr : Row w A (l.flatMap opC)) (hl : l.length ≤ maxLen) (hok : ∀ o ∈ l, OpOk o) (now : Int) (hnow : (Lit.int .i64 now).wf = true) (hba : Base w.heap.size w) :
    Calls Tryz.prog 6 #[.slice A l.length c, .int .i64 now] w fun e w' => e = .returned (.bool true) ∧ Below w.heap.size w w' := by
  have HR := Lib.hid hr
  have HOK := Lib.hid hok
  have HBA := Lib.hid hba
  clear hr hok hba hnow
  go_enter Tryz.func6, Tryz.ntmps6
  go_upto_region 4 with (first
    | (go_at_call 11; (with_reducible refine (gw_known w HBA.out.shaped HBA.out.tabN).mono ?_); rintro e w1 ⟨rfl, hb1⟩; have HB1 := Lib.hid hb1; have HPL := Lib.hid (show Calls Tryz.prog 17 #[.slice A l.length c, .int .i64 10] w1 _ from lw_play A l c 10 (by omega) w1 (HR.out.below hb1) hl HOK.out ((HBA.out.step hb1).mono hb1.size)); clear hb1)
    | (go_at_call 17; (with_reducible refine HPL.out.mono ?_); rintro e w2 ⟨b, m, rfl, hb2, ls, last, made, read, ⟨A1, A1', ⟨v1, m1, m2, hgs⟩, ⟨v3, vm, vr, hms⟩, hd1⟩, hi2⟩; have HGS := Lib.hid hgs; have HMS := Lib.hid hms; have HI := Lib.hid hi2; have HB12 := Lib.hid hb2; clear hgs hms hd1 hi2 hb2))
  have hnl : ls.length ≤ 600 := HI.out.nl
  have hlo := HI.out.lo
  have hhi := HI.out.hi
  have hw10 : IntKind.i64.wrap (last + 10) = last + 10 := IntWalk.i64_in _ (by omega)
  have HB2 := Lib.hid (HB1.out.trans (HB12.out.mono HB1.out.size))
  have HW1 := Lib.hid (gw_waiting HGS.out.at_ (by omega))
  obtain ⟨K, hK, hK50, hKl, hKd⟩ : ∃ K : Nat, min (ls.length : Int) 50 = (K : Int) ∧ K ≤ 50 ∧ K ≤ ls.length ∧ (ls.drop 50).length = ls.length - K := by
    rcases Nat.lt_or_ge 50 ls.length with h | h
    · exact ⟨50, by omega, by omega, by omega, by rw [List.length_drop]⟩
    · exact ⟨ls.length, by omega, by omega, by omega, by rw [List.length_drop]; omega⟩
  have hwK : IntKind.i64.wrap ((ls.length : Int) - (K : Int)) = (ls.length : Int) - (K : Int) := IntWalk.i64_in _ (by omega)
  have HTK := Lib.hid (fun w3 (hb : Below w2.heap.size w2 w3) => gw_take (n := w1.heap.size) (A := A1) (w := w3) (GwX.below ⟨v1, m1, m2, HGS.out⟩ hb) (Nat.le_trans HB12.out.size hb.size) ((HBA.out.step (HB2.out.trans (hb.mono HB2.out.size))).mono HB1.out.size) now (by decide) (by omega) HI.out.ok hlo hhi)
  have hcs : (takB ls last now = true ∧ ((decide ((50 : Int) ≤ (ls.length : Int)) = true) ∨ (decide ((50 : Int) ≤ (ls.length : Int)) = false ∧ decide ((0 : Int) < (ls.length : Int)) = true ∧ decide (last + 10 ≤ now) = true))) ∨ (takB ls last now = false ∧ ((decide ((50 : Int) ≤ (ls.length : Int)) = false ∧ decide ((0 : Int) < (ls.length : Int)) = false) ∨ (decide ((50 : Int) ≤ (ls.length : Int)) = false ∧ decide ((0 : Int) < (ls.length : Int)) = true ∧ decide (last + 10 ≤ now) = false))) := by
    simp only [decide_eq_true_eq, decide_eq_false_iff_not]
    by_cases h0 : ls.length = 0
    · exact .inr ⟨takB_no (.inl h0), .inl ⟨by omega, by omega⟩⟩
    · by_cases h5 : 50 ≤ ls.length
      · exact .inl ⟨takB_yes h0 (by omega), .inl (by omega)⟩
      · by_cases hq : last + 10 ≤ now
        · exact .inl ⟨takB_yes h0 (by omega), .inr ⟨by omega, by omega, hq⟩⟩
        · exact .inr ⟨takB_no (.inr ⟨by omega, by omega⟩), .inr ⟨by omega, by omega, hq⟩⟩
  rcases hcs with ⟨hT, hcs⟩ | ⟨hT, hcs⟩
  · have HL := Lib.hid (show takL ls last now = ls.drop 50 from by unfold takL; rw [hT]; rfl)
    rw [hT] at HTK
    generalize takS (toL kR) ls last now = S1 at *
    generalize takT ls last now = T1 at *
    rw [HL.out] at HTK
    generalize ls.drop 50 = L2 at *
    have q9 : ((L2.length : Int) == (ls.length : Int) - (K : Int)) = true := by rw [beq_iff_eq]; omega
    have HL2 := Lib.hid (show L2.length ≤ 600 from by omega)
    clear hT hKd
    rcases hcs with hq5 | ⟨hq5, hq0, hq1⟩
    all_goals
      have r5 : decide (50 ≤ ls.length) = decide ((50 : Int) ≤ (ls.length : Int)) := by rw [decide_eq_decide]; omega
      have r0 : decide (0 < ls.length) = decide ((0 : Int) < (ls.length : Int)) := by rw [decide_eq_decide]; omega
      rw [hq5] at r5
      try rw [hq0] at r0
      go_wp2_with (first
        | (go_at_call 19; (with_reducible refine HW1.out.mono ?_); rintro e w3 ⟨A2, c2, rfl, _, hb3⟩; have HB3 := Lib.hid hb3; have k4 : w3.cell? ⟨m, 4, none⟩ = some (.int .i64 last) := (md_cells (HMS.out.below hb3)).2.2.2.1; clear hb3)
        | (go_at_call 22; (with_reducible refine (HTK.out w3 HB3.out).mono ?_); rintro e w4 ⟨rfl, ⟨v4, m3, m4, hg4⟩, hf4⟩; have HW4 := Lib.hid (gw_waiting hg4.at_ (Nat.le_trans HL2.out (by omega))); have HF4 := Lib.hid hf4.bel; clear hg4 hf4)
        | (go_at_call 19; (with_reducible refine HW4.out.mono ?_); rintro e w5 ⟨A5, c5, rfl, _, hb5⟩; have HB5 := Lib.hid hb5; clear hb5))
      go_ret
      have hz : w1.heap.size ≤ w4.heap.size := Nat.le_trans HB12.out.size (Nat.le_trans HB3.out.size HF4.out.size)
      exact ⟨rfl, HB1.out.trans ((HB12.out.trans ((HB3.out.mono HB12.out.size).trans (HF4.out.trans (HB5.out.mono hz)))).mono HB1.out.size)⟩
  · have HN := Lib.hid (takS_len (R := toL kR) hT)
    rw [hT, HN.out.1, HN.out.2.1, HN.out.2.2, show ofL ([] : Bs) = ⟨#[]⟩ from rfl] at HTK
    clear hT hKd
    rcases hcs with ⟨hq5, hq0⟩ | ⟨hq5, hq0, hq1⟩
    all_goals
      have r5 : decide (50 ≤ ls.length) = decide ((50 : Int) ≤ (ls.length : Int)) := by rw [decide_eq_decide]; omega
      have r0 : decide (0 < ls.length) = decide ((0 : Int) < (ls.length : Int)) := by rw [decide_eq_decide]; omega
      rw [hq5] at r5
      rw [hq0] at r0
      go_wp2_with (first
        | (go_at_call 19; (with_reducible refine HW1.out.mono ?_); rintro e w3 ⟨A2, c2, rfl, _, hb3⟩; have HB3 := Lib.hid hb3; have k4 : w3.cell? ⟨m, 4, none⟩ = some (.int .i64 last) := (md_cells (HMS.out.below hb3)).2.2.2.1; clear hb3)
        | (go_at_call 22; (with_reducible refine (HTK.out w3 HB3.out).mono ?_); rintro e w4 ⟨rfl, ⟨v4, m3, m4, hg4⟩, hf4⟩; have HW4 := Lib.hid (gw_waiting hg4.at_ (by omega)); have HF4 := Lib.hid hf4.bel; clear hg4 hf4)
        | (go_at_call 19; (with_reducible refine HW4.out.mono ?_); rintro e w5 ⟨A5, c5, rfl, _, hb5⟩; have HB5 := Lib.hid hb5; clear hb5))
      go_ret
      have hz : w1.heap.size ≤ w4.heap.size := Nat.le_trans HB12.out.size (Nat.le_trans HB3.out.size HF4.out.size)
      exact ⟨rfl, HB1.out.trans ((HB12.out.trans ((HB3.out.mono HB12.out.size).trans (HF4.out.trans (HB5.out.mono hz)))).mono HB1.out.size)⟩
set_option maxRecDepth 100000 in
theorem GatewayQuiet_contract (H : Type) (enc : TypeId × Value → H) (W : World) (base : Nat) (args : Array Value) (ds gs : List (DataW H)) (before : List MemPlace)
    (hval0 : ∀ (j : Nat) t v, Tryz.f6.params[j]? = some t → args[j]? = some v → Value.okWide Tryz.prog W .any base t v)
    (hW : DataW.Whole enc Tryz.prog Tryz.f6.params.toList Rows.gatewayQuietSpec.vars false W args.toList ds gs before) (hsh : W.ShapedOpen Tryz.prog) (htb : TabB W) (htn : TabN W) :
    Calls Tryz.prog 6 args W fun e W' => ∃ v, e = .returned v ∧ Rows.gatewayQuietSpec.post enc Tryz.prog Tryz.f6 false true false false W args v W' := by
  have hval : ∀ (j : Nat) t v, Tryz.f6.params[j]? = some t → args[j]? = some v → Value.okWide Tryz.prog W .any base t v := hval0
  have hW' := hW
  obtain ⟨p, q, hA0, hV, rfl, hfz, hnd⟩ := hW
  have hA : DataW.TrodAll enc Tryz.prog W 0 (fun _ => true) true Tryz.f6.params.toList args.toList ds p := hA0
  rw [Tryz.params6] at hA hval
  obtain ⟨v0, vs0, d0, ds0, p0, q0, hargs, rfl, rfl, h0, r0⟩ := trodAll_cons hA
  obtain ⟨v1, vs1, d1, ds1, p1, q1, rfl, rfl, rfl, h1, r1⟩ := trodAll_cons r0
  obtain ⟨rfl, rfl, rfl⟩ := trodAll_nil r1
  obtain rfl : args = #[v0, v1] := by cases args; simp_all
  obtain ⟨rfl, rfl⟩ := trodVars_none hV
  obtain ⟨A0, l0, c0, rfl, hrow0, hlen0, hok0⟩ := open_ops (hval 0 42 v0 rfl rfl) h0
  obtain ⟨a1, rfl, rfl, rfl, w1⟩ := open_int Tryz.underlying3 (hval 1 3 v1 rfl rfl) h1
  refine (GatewayQuiet_walk A0 l0 c0 hrow0 hlen0 hok0 a1 w1 (Base.of hsh htb htn)).mono fun e W' ⟨he, hg⟩ => ?_
  subst he
  exact ⟨_, rfl, law_post hW' rfl rfl rfl (by decide +kernel) hg⟩

theorem GatewayQuiet_reads (os : Os) {H : Type} (enc : TypeId × Value → H) : ∃ places, DataW.whole enc Tryz.prog ((laidWorld os).forCall (fun _ _ => 0) ⟨#[], #[.slice none 0 0, .int .i64 0], []⟩).memory Tryz.f6.params.toList Rows.gatewayQuietSpec.vars false ((#[.slice none 0 0, .int .i64 0] : Array Value)).toList 8 = some ([.nil, .lit (.int .i64 0)], [], places) :=
  ⟨[], by kernel_rfl⟩

set_option maxRecDepth 100000 in
theorem GatewayQuiet_lifted (os : Os) (started : os.Started) (H : Type) (enc : TypeId × Value → H) (F : Stop.Interp) :
    ReturnsInHanded {} Tryz.checked os 6 .any ((OpenSpec.ofChange Rows.gatewayQuietSpec).preRow enc Tryz.prog Tryz.f6 Rows.gatewayQuietRow.domain false Rows.gatewayQuietRow.laid) (((OpenSpec.ofChange Rows.gatewayQuietSpec).at F).post enc Tryz.prog Tryz.f6 false true false false) := by
  obtain ⟨places, hx⟩ := GatewayQuiet_reads os enc
  refine returnsInHanded_of_row (C := Tryz.checked) (s := OpenSpec.ofChange Rows.gatewayQuietSpec) own started (by kernel_rfl) Tryz.func6
    (witness_row_at (enc := enc) (C := Tryz.checked) false (laidWorld os) #[.slice none 0 0, .int .i64 0] rfl (by kernel_rfl) (by kernel_rfl) (by kernel_rfl)
      (OpenSpec.preRow_of_cond 8 hx (by kernel_rfl) (fun k hk => by cases hk) (by kernel_rfl) (laid_met os #[.slice none 0 0, .int .i64 0]))) ?_
  intro W base args ds gs before hval hW _ _ _ hL hsh _
  exact GatewayQuiet_contract H enc W base args ds gs before hval hW hsh (tabB_of_laid hL) (tabN_of_laid hL)

theorem GatewayQuiet_said : Rows.GatewayQuietSaid :=
  OpenClaim.holds_of_cond 6 Tryz.f6 rfl rfl rfl rfl rfl rfl rfl ⟨rfl, rfl, rfl, rfl, rfl⟩ rfl rfl rfl rfl rfl (by kernel_rfl) Tryz.func6 (by kernel_rfl)
    (of_decide_eq_true (by kernel_rfl)) (by unfold Func.isWrapper; first | (rw [if_pos (by decide +kernel)]; kernel_rfl) | (rw [if_neg (by decide +kernel)]; exact ⟨rfl, rfl⟩))
    (fun os started H enc _ F => by rw [OpenClaim.pre_eq_preRow]; exact GatewayQuiet_lifted os started H enc F)

theorem GatewayQuiet_plain (f : FuncId) (fn : Func) (hf : Tryz.pinned.checked.prog.funcNamed Rows.gatewayQuietRow.func = some f) (hfn : Tryz.pinned.checked.prog.funcs[f]? = some fn) :
    true = Tryz.pinned.checked.prog.looks [] ∧ ∀ (j : Nat) t, fn.params[j]? = some t → Tryz.pinned.checked.prog.wantsStandIn t = false := by
  obtain rfl : f = 6 := Option.some.inj ((show Tryz.prog.funcNamed Rows.gatewayQuietRow.func = some 6 by kernel_rfl).symm.trans hf) |>.symm
  obtain rfl : fn = Tryz.f6 := (Option.some.inj (Tryz.func6.symm.trans hfn)).symm
  refine ⟨by kernel_rfl, fun j t ht => ?_⟩
  rw [Tryz.params6] at ht
  have hm := Array.mem_of_getElem? ht
  simp only [List.mem_toArray, List.mem_cons, List.not_mem_nil, or_false] at hm
  rcases hm with rfl | rfl
  · exact (show Tryz.prog.wantsStandIn 42 = false by kernel_rfl)
  · exact (show Tryz.prog.wantsStandIn 3 = false by kernel_rfl)

theorem GatewayQuiet_proved : Rows.GatewayQuietCardSaid :=
  Claim7.holds_tied_plain_at .later [] _ _ _ _ GatewayQuiet_said (fun _ h => by cases h) (by kernel_rfl) (fun _ h => by cases h) gatewayQuiet_row_tie rfl ⟨rfl, rfl⟩ (by kernel_rfl) rfl GatewayQuiet_plain (by kernel_rfl)
end Go.Proofs.YtghjgbkhhoaebaaGreatDoor
