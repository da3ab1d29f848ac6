/- For every text, GatewayParses returns true: the chapter's examples hold, and ParseLine returns the line of the first 500 bytes, or the offset and the kind of the first error, as the model does; what it accepts is printed unchanged. No condition. -/
import Derived.Test.YtjmcfagmhniejaaGreatDoorPt20
import Derived.Test.YtjmcfagmhniejaaGreatDoorPt30
namespace Go.Proofs.YtjmcfagmhniejaaGreatDoor
set_option linter.unusedSimpArgs false
set_option linter.unusedVariables false
open Go.ChangeShapes Go.WideShapes Go.ChangeAt Go.RowKit
open Go.ChangeMaps (open_string shut_string)

theorem par_len (L : Bs) : (parL L).1.nick.length ≤ L.length ∧ (parL L).1.text.length ≤ L.length := by
  unfold parL; dsimp only
  repeat' split
  all_goals simp [noLn, List.length_take, List.length_drop]
  all_goals omega
theorem box3d {w : World} {r : Nat} {a b c : Value} {t : TypeId} (h : w.heap[r]? = some (.cells #[a, b, c] t (0, 0))) : w.cell? ⟨r, 0, none⟩ = some a ∧ w.cell? ⟨r, 1, none⟩ = some b ∧ w.cell? ⟨r, 2, none⟩ = some c ∧ r < w.heap.size :=
  ⟨by rw [Lib.cell_of_heap h]; rfl, by rw [Lib.cell_of_heap h]; rfl, by rw [Lib.cell_of_heap h]; rfl, heap_lt h⟩
set_option maxHeartbeats 8000000 in
set_option maxRecDepth 100000 in
theorem GatewayParses_walk (a : ByteArray) (ha : a.size ≤ maxLen) (w : World) (hsh : w.ShapedOpen Tryz.prog) (htab : TabN w) :
    Calls Tryz.prog 4 #[.string a] w fun e w' => e = .returned (.bool true) ∧ Below w.heap.size w w' := by
  have HKN := Lib.hid (fun wx (hb : Below w.heap.size w wx) => gw_known wx (shaped_below hsh hb) (htab.below hb))
  have HT := Lib.hid (fun wx (hb : Below w.heap.size w wx) => htab.below hb)
  have HS1 := Lib.hid (fun wx => lw_short a ha 500 500 rfl wx (by omega))
  have hx := short_size a 500
  clear ha
  generalize a.extract 0 (min a.size 500) = X at *
  have HGL := Lib.hid (gw_parseLine X w hsh (by omega))
  have HLL := Lib.hid (fun wx => lw_parse X wx (by omega))
  unfold ParPost at HGL HLL
  have hpl := par_len (toL X)
  rw [toL_length] at hpl
  have HSP := Lib.hid (show_par (toL X))
  have HXL := Lib.hid (ofL_toL X)
  generalize parL (toL X) = R at *
  obtain ⟨x, at_, er⟩ := R
  simp only [lnV] at HGL HLL
  simp only at hpl HSP
  obtain ⟨m, n, t⟩ := x
  simp only at hpl HGL HLL HSP
  obtain ⟨hn, ht⟩ := hpl
  clear hsh htab
  have HPR := Lib.hid (fun wx (hb : Below w.heap.size w wx) => gw_printLine (m : Int) (ofL n) (ofL t) (by rw [ofL_size]; omega) (by rw [ofL_size]; omega) wx (HT.out wx hb))
  rw [toL_ofL, toL_ofL] at HPR
  go_enter Tryz.func4, Tryz.ntmps4
  go_upto_region 3 with (first
    | (go_at_call 13; (with_reducible refine (HS1.out _).mono ?_); rintro e w' ⟨rfl, rfl⟩)
    | (go_at_call 11; (with_reducible refine HGL.out.mono ?_); rintro e w1 ⟨rfl, hb1⟩))
  have HB1 := Lib.hid (hb1.trans ((alloc_bel w1 (.cells #[.int .i64 (m : Int), .string (ofL n), .string (ofL t)] 23)).mono hb1.size))
  have HX1 := Lib.hid (heap_alloc_new w1 (.cells #[.int .i64 (m : Int), .string (ofL n), .string (ofL t)] 23))
  clear hb1
  generalize w1.alloc (.cells #[.int .i64 (m : Int), .string (ofL n), .string (ofL t)] 23) = W1 at *
  generalize w1.heap.size = r1 at *
  go_upto_region 4 with ((go_at_call 14; (with_reducible refine (HLL.out _).mono ?_); rintro e w2 ⟨rfl, hb2⟩))
  have HB2 := Lib.hid (HB1.out.trans ((hb2.trans ((alloc_bel w2 (.cells #[.int .i64 (m : Int), .string (ofL n), .string (ofL t)] 23)).mono hb2.size)).mono HB1.out.size))
  have HY1 := Lib.hid (((hb2.trans ((alloc_bel w2 (.cells #[.int .i64 (m : Int), .string (ofL n), .string (ofL t)] 23)).mono hb2.size)).block _ (heap_lt HX1.out)).trans HX1.out)
  have HX2 := Lib.hid (heap_alloc_new w2 (.cells #[.int .i64 (m : Int), .string (ofL n), .string (ofL t)] 23))
  clear hb2
  generalize w2.alloc (.cells #[.int .i64 (m : Int), .string (ofL n), .string (ofL t)] 23) = W2 at *
  generalize w2.heap.size = r2 at *
  by_cases he : er = 0
  · subst he
    obtain ⟨g1, g2, g3⟩ := HSP.out rfl
    have HPF := Lib.hid (show prlF (m : Int) n t = (showL m n t, 0) from by unfold prlF; rw [if_pos g2]; rfl)
    rw [HPF.out, g1, HXL.out] at HPR
    subst g3
    clear g1 g2 HPF HSP HXL
    have q1 : (X.toList == X.toList) = true := by simp
    generalize ofL n = n' at *
    generalize ofL t = t' at *
    go_wp2_with (first
      | (go_at_call 9; (with_reducible refine (HKN.out _ HB2.out).mono ?_); rintro e w3 ⟨rfl, hb3⟩; obtain ⟨c0, c1, c2, cz⟩ := box3d ((hb3.block _ (heap_lt HY1.out)).trans HY1.out); obtain ⟨d0, d1, d2, dz⟩ := box3d ((hb3.block _ (heap_lt HX2.out)).trans HX2.out))
      | (go_at_call 7; (with_reducible refine (HPR.out _ (HB2.out.trans (hb3.mono HB2.out.size))).mono ?_); rintro e w4 ⟨rfl, hb4⟩))
    go_ret
    exact ⟨rfl, HB2.out.trans ((hb3.trans (hb4.mono hb3.size)).mono HB2.out.size)⟩
  · have e1 : (er != 0) = true := by simp only [bne_iff_ne]; exact he
    generalize prlF (m : Int) n t = pr at *
    obtain ⟨ps, pe⟩ := pr
    simp only at HPR
    clear he HSP HXL
    generalize ofL n = n' at *
    generalize ofL t = t' at *
    go_wp2_with (first
      | (go_at_call 9; (with_reducible refine (HKN.out _ HB2.out).mono ?_); rintro e w3 ⟨rfl, hb3⟩; obtain ⟨c0, c1, c2, cz⟩ := box3d ((hb3.block _ (heap_lt HY1.out)).trans HY1.out); obtain ⟨d0, d1, d2, dz⟩ := box3d ((hb3.block _ (heap_lt HX2.out)).trans HX2.out))
      | (go_at_call 7; (with_reducible refine (HPR.out _ (HB2.out.trans (hb3.mono HB2.out.size))).mono ?_); rintro e w4 ⟨rfl, hb4⟩))
    go_ret
    exact ⟨rfl, HB2.out.trans ((hb3.trans (hb4.mono hb3.size)).mono HB2.out.size)⟩
set_option maxRecDepth 100000 in
theorem GatewayParses_contract (H : Type) (enc : TypeId × Value → H) (W : World) (base : Nat) (args : Array Value) (ds gs : List (DataW H)) (before : List MemPlace)
    (hval0 : ∀ (j : Nat) t v, Tryz.f4.params[j]? = some t → args[j]? = some v → Value.okWide Tryz.prog W .any base t v)
    (hW : DataW.Whole enc Tryz.prog Tryz.f4.params.toList Rows.gatewayParsesSpec.vars false W args.toList ds gs before) (hsh : W.ShapedOpen Tryz.prog) (htab : TabN W) :
    Calls Tryz.prog 4 args W fun e W' => ∃ v, e = .returned v ∧ Rows.gatewayParsesSpec.post enc Tryz.prog Tryz.f4 false true false false W args v W' := by
  have hval : ∀ (j : Nat) t v, Tryz.f4.params[j]? = some t → args[j]? = some v → Value.okWide Tryz.prog W .any base t v := hval0
  have hW' := hW
  obtain ⟨p, q, hA0, hV, rfl, hfz, hnd⟩ := hW
  have hA : DataW.TrodAll enc Tryz.prog W 0 (fun _ => true) true Tryz.f4.params.toList args.toList ds p := hA0
  rw [Tryz.params4] at hA hval
  obtain ⟨v0, vs0, d0, ds0, p0, q0, hargs, rfl, rfl, h0, r0⟩ := trodAll_cons hA
  obtain ⟨rfl, rfl, rfl⟩ := trodAll_nil r0
  obtain rfl : args = #[v0] := by cases args; simp_all
  obtain ⟨rfl, rfl⟩ := trodVars_none hV
  obtain ⟨a0, rfl, rfl, rfl, w0⟩ := open_string Tryz.underlying9 (hval 0 9 v0 rfl rfl) h0
  refine (GatewayParses_walk a0 w0 W hsh htab).mono fun e W' ⟨he, hg⟩ => ?_
  subst he
  exact ⟨_, rfl, law_post hW' rfl rfl rfl (by decide +kernel) hg⟩

theorem GatewayParses_reads (os : Os) {H : Type} (enc : TypeId × Value → H) : ∃ places, DataW.whole enc Tryz.prog ((laidWorld os).forCall (fun _ _ => 0) ⟨#[], #[.string ByteArray.empty], []⟩).memory Tryz.f4.params.toList Rows.gatewayParsesSpec.vars false ((#[.string ByteArray.empty] : Array Value)).toList 8 = some ([.lit (.string [])], [], places) :=
  ⟨[], by kernel_rfl⟩

set_option maxRecDepth 100000 in
theorem GatewayParses_lifted (os : Os) (started : os.Started) (H : Type) (enc : TypeId × Value → H) (F : Stop.Interp) :
    ReturnsInHanded {} Tryz.checked os 4 .any ((OpenSpec.ofChange Rows.gatewayParsesSpec).preRow enc Tryz.prog Tryz.f4 Rows.gatewayParsesRow.domain false Rows.gatewayParsesRow.laid) (((OpenSpec.ofChange Rows.gatewayParsesSpec).at F).post enc Tryz.prog Tryz.f4 false true false false) := by
  obtain ⟨places, hx⟩ := GatewayParses_reads os enc
  refine returnsInHanded_of_row (C := Tryz.checked) (s := OpenSpec.ofChange Rows.gatewayParsesSpec) own started (by kernel_rfl) Tryz.func4
    (witness_row_at (enc := enc) (C := Tryz.checked) false (laidWorld os) #[.string ByteArray.empty] rfl (by kernel_rfl) (by kernel_rfl) (by kernel_rfl)
      (OpenSpec.preRow_of_cond 8 hx (by kernel_rfl) (fun k hk => by cases hk) (by kernel_rfl) (laid_met os #[.string ByteArray.empty]))) ?_
  intro W base args ds gs before hval hW _ _ _ hL hsh _
  exact GatewayParses_contract H enc W base args ds gs before hval hW hsh (tabN_of_laid hL)

theorem GatewayParses_said : Rows.GatewayParsesSaid :=
  OpenClaim.holds_of_cond 4 Tryz.f4 rfl rfl rfl rfl rfl rfl rfl ⟨rfl, rfl, rfl, rfl, rfl⟩ rfl rfl rfl rfl rfl (by kernel_rfl) Tryz.func4 (by kernel_rfl)
    (of_decide_eq_true (by kernel_rfl)) (by unfold Func.isWrapper; first | (rw [if_pos (by decide +kernel)]; kernel_rfl) | (rw [if_neg (by decide +kernel)]; exact ⟨rfl, rfl⟩))
    (fun os started H enc _ F => by rw [OpenClaim.pre_eq_preRow]; exact GatewayParses_lifted os started H enc F)

theorem GatewayParses_plain (f : FuncId) (fn : Func) (hf : Tryz.pinned.checked.prog.funcNamed Rows.gatewayParsesRow.func = some f) (hfn : Tryz.pinned.checked.prog.funcs[f]? = some fn) :
    false = Tryz.pinned.checked.prog.looks [] ∧ ∀ (j : Nat) t, fn.params[j]? = some t → Tryz.pinned.checked.prog.wantsStandIn t = false := by
  obtain rfl : f = 4 := Option.some.inj ((show Tryz.prog.funcNamed Rows.gatewayParsesRow.func = some 4 by kernel_rfl).symm.trans hf) |>.symm
  obtain rfl : fn = Tryz.f4 := (Option.some.inj (Tryz.func4.symm.trans hfn)).symm
  refine ⟨by kernel_rfl, fun j t ht => ?_⟩
  rw [Tryz.params4] at ht
  have hm := Array.mem_of_getElem? ht
  simp only [List.mem_toArray, List.mem_cons, List.not_mem_nil, or_false] at hm
  subst hm
  exact (show Tryz.prog.wantsStandIn 9 = false by kernel_rfl)

theorem GatewayParses_proved : Rows.GatewayParsesCardSaid :=
  Claim7.holds_tied_plain_at .later [] _ _ _ _ GatewayParses_said (fun _ h => by cases h) (by kernel_rfl) (fun _ h => by cases h) gatewayParses_row_tie rfl ⟨rfl, rfl⟩ (by kernel_rfl) rfl GatewayParses_plain (by kernel_rfl)
end Go.Proofs.YtjmcfagmhniejaaGreatDoor
