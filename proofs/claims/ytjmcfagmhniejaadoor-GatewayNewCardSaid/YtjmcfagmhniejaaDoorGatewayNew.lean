/- For every three texts, GatewayNew returns true: the chapter's examples hold, and New returns a gateway without lines, or the first error of the first 40, 100 and 40 bytes. No condition. -/
import Derived.Test.YtjmcfagmhniejaaDoorPt20
import Derived.Test.YtjmcfagmhniejaaDoorPt30
namespace Go.Proofs.YtjmcfagmhniejaaDoor
set_option linter.unusedSimpArgs false
set_option linter.unusedVariables false
open Go.ChangeShapes Go.WideShapes Go.ChangeAt Go.RowKit
open Go.ChangeMaps (open_string shut_string)

set_option maxHeartbeats 4000000 in
set_option maxRecDepth 100000 in
theorem GatewayNew_walk (a : ByteArray) (ha : a.size ≤ maxLen) (b : ByteArray) (hb : b.size ≤ maxLen) (c : ByteArray) (hc : c.size ≤ maxLen) (w : World) (hsh : w.ShapedOpen Tryd.prog) (htab : TabN w) :
    Calls Tryd.prog 5 #[.string a, .string b, .string c] w fun e w' => e = .returned (.bool true) ∧ Below w.heap.size w w' := by
  have HKN := Lib.hid (fun wx (hb : Below w.heap.size w wx) => gw_known wx (shaped_below hsh hb) (htab.below hb))
  have HS1 := Lib.hid (fun wx => lw_short a ha 40 40 rfl wx (by omega))
  have HS2 := Lib.hid (fun wx => lw_short b hb 100 100 rfl wx (by omega))
  have HS3 := Lib.hid (fun wx => lw_short c hc 40 40 rfl wx (by omega))
  have hx := short_size a 40
  have hy := short_size b 100
  have hz := short_size c 40
  clear ha hb hc
  generalize a.extract 0 (min a.size 40) = R at *
  generalize b.extract 0 (min b.size 100) = G at *
  generalize c.extract 0 (min c.size 40) = N at *
  have HNW := Lib.hid (gw_new R G N w hsh (by unfold maxLen; omega) (by unfold maxLen; omega) (by unfold maxLen; omega))
  have HCR := Lib.hid (fun wx => lw_create R G N wx (by unfold maxLen; omega) (by omega) (by unfold maxLen; omega))
  clear hsh htab hx hy hz
  by_cases h0 : newE (toL R) (toL G) (toL N) = 0
  · have HN1 := Lib.hid (show Calls Tryd.prog 13 #[.string R, .string G, .string N] w fun e w' => ∃ b m1 m2, e = .returned (.tuple #[.pointer (some ⟨b, 0, none⟩), .int .i64 0]) ∧ GwAt w' b R G N (.slice none 0 0) [] 0 m1 m2 ∧ Below w.heap.size w w' from HNW.out.mono (by
      rintro e w' (⟨_, b, m1, m2, h1, h2, h3, h4⟩ | ⟨h, _⟩)
      · exact ⟨b, m1, m2, h1, h2, h4⟩
      · exact absurd h0 h))
    rw [h0] at HCR
    clear h0 HNW
    go_enter Tryd.func5, Tryd.ntmps5
    go_wp2_with (first
      | (go_at_call 6; (with_reducible refine (HS1.out _).mono ?_); rintro e w' ⟨rfl, rfl⟩)
      | (go_at_call 6; (with_reducible refine (HS2.out _).mono ?_); rintro e w' ⟨rfl, rfl⟩)
      | (go_at_call 6; (with_reducible refine (HS3.out _).mono ?_); rintro e w' ⟨rfl, rfl⟩)
      | (go_at_call 13; (with_reducible refine HN1.out.mono ?_); rintro e w1 ⟨b, m1, m2, rfl, hat, hb1⟩; have HAT := Lib.hid hat; clear hat)
      | (go_at_call 14; (with_reducible refine (HCR.out _).mono ?_); rintro e w2 ⟨rfl, hb2⟩)
      | (go_at_call 8; (with_reducible refine (HKN.out _ (hb1.trans (hb2.mono hb1.size))).mono ?_); rintro e w3 ⟨rfl, hb3⟩)
      | (go_at_call 15; (with_reducible refine (gw_waiting ((HAT.out.below hb2).below hb3) (by simp)).mono ?_); rintro e w4 ⟨A, c4, rfl, ho, hb4⟩))
    go_ret
    exact ⟨rfl, (hb1.trans (hb2.mono hb1.size)).trans ((hb3.trans (hb4.mono hb3.size)).mono (Nat.le_trans hb1.size hb2.size))⟩
  · have HN1 := Lib.hid (show Calls Tryd.prog 13 #[.string R, .string G, .string N] w fun e w' => e = .returned (.tuple #[.pointer none, .int .i64 (newE (toL R) (toL G) (toL N))]) ∧ Below w.heap.size w w' from HNW.out.mono (by
      rintro e w' (⟨h, _⟩ | ⟨_, h1, h2⟩)
      · exact absurd h h0
      · exact ⟨h1, h2⟩))
    have e1 : (newE (toL R) (toL G) (toL N) != 0) = true := by simp [bne, h0]
    clear h0 HNW
    generalize newE (toL R) (toL G) (toL N) = er at *
    go_enter Tryd.func5, Tryd.ntmps5
    go_wp2_with (first
      | (go_at_call 6; (with_reducible refine (HS1.out _).mono ?_); rintro e w' ⟨rfl, rfl⟩)
      | (go_at_call 6; (with_reducible refine (HS2.out _).mono ?_); rintro e w' ⟨rfl, rfl⟩)
      | (go_at_call 6; (with_reducible refine (HS3.out _).mono ?_); rintro e w' ⟨rfl, rfl⟩)
      | (go_at_call 13; (with_reducible refine HN1.out.mono ?_); rintro e w1 ⟨rfl, hb1⟩)
      | (go_at_call 14; (with_reducible refine (HCR.out _).mono ?_); rintro e w2 ⟨rfl, hb2⟩)
      | (go_at_call 8; (with_reducible refine (HKN.out _ (hb1.trans (hb2.mono hb1.size))).mono ?_); rintro e w3 ⟨rfl, hb3⟩)
      | (go_at_call 15; (with_reducible refine (gw_waiting_nil _).mono ?_); rintro e w' ⟨rfl, rfl⟩))
    go_ret
    exact ⟨rfl, (hb1.trans (hb2.mono hb1.size)).trans (hb3.mono (Nat.le_trans hb1.size hb2.size))⟩
set_option maxRecDepth 100000 in
theorem GatewayNew_contract (H : Type) (enc : TypeId × Value → H) (W : World) (base : Nat) (args : Array Value) (ds gs : List (DataW H)) (before : List MemPlace)
    (hval0 : ∀ (j : Nat) t v, Tryd.f5.params[j]? = some t → args[j]? = some v → Value.okWide Tryd.prog W .any base t v)
    (hW : DataW.Whole enc Tryd.prog Tryd.f5.params.toList Rows.gatewayNewSpec.vars false W args.toList ds gs before) (hsh : W.ShapedOpen Tryd.prog) (htab : TabN W) :
    Calls Tryd.prog 5 args W fun e W' => ∃ v, e = .returned v ∧ Rows.gatewayNewSpec.post enc Tryd.prog Tryd.f5 false true false false W args v W' := by
  have hval : ∀ (j : Nat) t v, Tryd.f5.params[j]? = some t → args[j]? = some v → Value.okWide Tryd.prog W .any base t v := hval0
  have hW' := hW
  obtain ⟨p, q, hA0, hV, rfl, hfz, hnd⟩ := hW
  have hA : DataW.TrodAll enc Tryd.prog W 0 (fun _ => true) true Tryd.f5.params.toList args.toList ds p := hA0
  rw [Tryd.params5] at hA hval
  obtain ⟨v0, vs0, d0, ds0, p0, q0, hargs, rfl, rfl, h0, r0⟩ := trodAll_cons hA
  obtain ⟨v1, vs1, d1, ds1, p1, q1, rfl, rfl, rfl, h1, r1⟩ := trodAll_cons r0
  obtain ⟨v2, vs2, d2, ds2, p2, q2, rfl, rfl, rfl, h2, r2⟩ := trodAll_cons r1
  obtain ⟨rfl, rfl, rfl⟩ := trodAll_nil r2
  obtain rfl : args = #[v0, v1, v2] := by cases args; simp_all
  obtain ⟨rfl, rfl⟩ := trodVars_none hV
  obtain ⟨a0, rfl, rfl, rfl, w0⟩ := open_string Tryd.underlying9 (hval 0 9 v0 rfl rfl) h0
  obtain ⟨a1, rfl, rfl, rfl, w1⟩ := open_string Tryd.underlying9 (hval 1 9 v1 rfl rfl) h1
  obtain ⟨a2, rfl, rfl, rfl, w2⟩ := open_string Tryd.underlying9 (hval 2 9 v2 rfl rfl) h2
  refine (GatewayNew_walk a0 w0 a1 w1 a2 w2 W hsh htab).mono fun e W' ⟨he, hg⟩ => ?_
  subst he
  exact ⟨_, rfl, law_post hW' rfl rfl rfl (by decide +kernel) hg⟩

theorem GatewayNew_reads (os : Os) {H : Type} (enc : TypeId × Value → H) : ∃ places, DataW.whole enc Tryd.prog ((laidWorld os).forCall (fun _ _ => 0) ⟨#[], #[.string ByteArray.empty, .string ByteArray.empty, .string ByteArray.empty], []⟩).memory Tryd.f5.params.toList Rows.gatewayNewSpec.vars false ((#[.string ByteArray.empty, .string ByteArray.empty, .string ByteArray.empty] : Array Value)).toList 8 = some ([.lit (.string []), .lit (.string []), .lit (.string [])], [], places) :=
  ⟨[], by kernel_rfl⟩

set_option maxRecDepth 100000 in
theorem GatewayNew_lifted (os : Os) (started : os.Started) (H : Type) (enc : TypeId × Value → H) (F : Stop.Interp) :
    ReturnsInHanded {} Tryd.checked os 5 .any ((OpenSpec.ofChange Rows.gatewayNewSpec).preRow enc Tryd.prog Tryd.f5 Rows.gatewayNewRow.domain false Rows.gatewayNewRow.laid) (((OpenSpec.ofChange Rows.gatewayNewSpec).at F).post enc Tryd.prog Tryd.f5 false true false false) := by
  obtain ⟨places, hx⟩ := GatewayNew_reads os enc
  refine returnsInHanded_of_row (C := Tryd.checked) (s := OpenSpec.ofChange Rows.gatewayNewSpec) own started (by kernel_rfl) Tryd.func5
    (witness_row_at (enc := enc) (C := Tryd.checked) false (laidWorld os) #[.string ByteArray.empty, .string ByteArray.empty, .string ByteArray.empty] rfl (by kernel_rfl) (by kernel_rfl) (by kernel_rfl)
      (OpenSpec.preRow_of_cond 8 hx (by kernel_rfl) (fun k hk => by cases hk) (by kernel_rfl) (laid_met os #[.string ByteArray.empty, .string ByteArray.empty, .string ByteArray.empty]))) ?_
  intro W base args ds gs before hval hW _ _ _ hL hsh _
  exact GatewayNew_contract H enc W base args ds gs before hval hW hsh (tabN_of_laid hL)

theorem GatewayNew_said : Rows.GatewayNewSaid :=
  OpenClaim.holds_of_cond 5 Tryd.f5 rfl rfl rfl rfl rfl rfl rfl ⟨rfl, rfl, rfl, rfl, rfl⟩ rfl rfl rfl rfl rfl (by kernel_rfl) Tryd.func5 (by kernel_rfl)
    (of_decide_eq_true (by kernel_rfl)) (by unfold Func.isWrapper; first | (rw [if_pos (by decide +kernel)]; kernel_rfl) | (rw [if_neg (by decide +kernel)]; exact ⟨rfl, rfl⟩))
    (fun os started H enc _ F => by rw [OpenClaim.pre_eq_preRow]; exact GatewayNew_lifted os started H enc F)

theorem GatewayNew_plain (f : FuncId) (fn : Func) (hf : Tryd.pinned.checked.prog.funcNamed Rows.gatewayNewRow.func = some f) (hfn : Tryd.pinned.checked.prog.funcs[f]? = some fn) :
    false = Tryd.pinned.checked.prog.looks [] ∧ ∀ (j : Nat) t, fn.params[j]? = some t → Tryd.pinned.checked.prog.wantsStandIn t = false := by
  obtain rfl : f = 5 := Option.some.inj ((show Tryd.prog.funcNamed Rows.gatewayNewRow.func = some 5 by kernel_rfl).symm.trans hf) |>.symm
  obtain rfl : fn = Tryd.f5 := (Option.some.inj (Tryd.func5.symm.trans hfn)).symm
  refine ⟨by kernel_rfl, fun j t ht => ?_⟩
  rw [Tryd.params5] at ht
  have hm := Array.mem_of_getElem? ht
  simp only [List.mem_toArray, List.mem_cons, List.not_mem_nil, or_false] at hm
  rcases hm with rfl | rfl | rfl
  · exact (show Tryd.prog.wantsStandIn 9 = false by kernel_rfl)
  · exact (show Tryd.prog.wantsStandIn 9 = false by kernel_rfl)
  · exact (show Tryd.prog.wantsStandIn 9 = false by kernel_rfl)

theorem GatewayNew_proved : Rows.GatewayNewCardSaid :=
  Claim7.holds_tied_plain_at .later [] _ _ _ _ GatewayNew_said (fun _ h => by cases h) (by kernel_rfl) (fun _ h => by cases h) gatewayNew_row_tie rfl ⟨rfl, rfl⟩ (by kernel_rfl) rfl GatewayNew_plain (by kernel_rfl)
end Go.Proofs.YtjmcfagmhniejaaDoor
