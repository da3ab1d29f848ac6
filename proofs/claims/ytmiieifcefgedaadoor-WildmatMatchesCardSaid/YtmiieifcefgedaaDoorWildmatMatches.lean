/- For every two texts, WildmatMatches returns true: Match and Empty agree with the reference. No condition. -/
import Derived.Test.YtmiieifcefgedaaDoorWmG
import Derived.Test.YtmiieifcefgedaaDoorWmQ6
import Derived.Test.YtmiieifcefgedaaDoorWmQ8
import Derived.Deep.RegionHeld3
namespace Go.Proofs.YtmiieifcefgedaaDoor
set_option linter.unusedSimpArgs false
set_option linter.unusedVariables false
open Go.ChangeShapes Go.WideShapes Go.ChangeAt Go.RowKit
open Go.ChangeMaps (open_string shut_string)

theorem RPatV.shape {w : World} {s : ByteArray} {x : List Em × Nat × Int} {v : Value} (h : RPatV w s x v) : ∃ t A n c, v = .agg #[.string t, .slice A n c] := by
  rcases h with ⟨_, A, c, rfl, _⟩ | ⟨_, rfl⟩ <;> exact ⟨_, _, _, _, rfl⟩
theorem RPatV.yes {w : World} {s : ByteArray} {ps : List Em} {n : Nat} {v : Value} (h : RPatV w s (ps, n, 0) v) : RPat w s ps v := by
  rcases h with ⟨_, h⟩ | ⟨h0, _⟩
  · exact h
  · exact absurd rfl h0
/-- A box of two cells that stands, and nothing older has turned. -/
def BoxP (w0 : World) (b : Nat) (tx : ByteArray) (A : Option Addr) (nn cc : Nat) (w' : World) : Prop := w'.cell? ⟨b, 0, none⟩ = some (.string tx) ∧ w'.cell? ⟨b, 1, none⟩ = some (.slice A nn cc) ∧ Below w0.heap.size w0 w'
theorem boxp_of {w0 w' : World} {b : Nat} {tx : ByteArray} {A : Option Addr} {nn cc : Nat} (h0 : w0.cell? ⟨b, 0, none⟩ = some (.string tx)) (h1 : w0.cell? ⟨b, 1, none⟩ = some (.slice A nn cc)) (hb : Below w0.heap.size w0 w') (hz : b < w0.heap.size) : BoxP w0 b tx A nn cc w' :=
  ⟨(hb.cell (p := ⟨b, 0, none⟩) hz).trans h0, (hb.cell (p := ⟨b, 1, none⟩) hz).trans h1, hb⟩
theorem BoxP.later {w0 w w' : World} {b : Nat} {tx : ByteArray} {A : Option Addr} {nn cc : Nat} (h : BoxP w0 b tx A nn cc w) (hb : Below w.heap.size w w') (hz : b < w0.heap.size) : BoxP w0 b tx A nn cc w' := by
  have hz' := Nat.lt_of_lt_of_le hz h.2.2.size
  exact ⟨(hb.cell (p := ⟨b, 0, none⟩) hz').trans h.1, (hb.cell (p := ⟨b, 1, none⟩) hz').trans h.2.1, h.2.2.trans (hb.mono h.2.2.size)⟩

set_option maxHeartbeats 8000000 in
set_option maxRecDepth 100000 in
theorem WildmatMatches_walk (a : ByteArray) (ha : a.size ≤ maxLen) (b : ByteArray) (hb : b.size ≤ maxLen) (w : World) (hsh : w.ShapedOpen Tryd.prog) :
    Calls Tryd.prog 3 #[.string a, .string b] w fun e w' => e = .returned (.bool true) ∧ Below w.heap.size w w' := by
  have HSH := Lib.hid hsh; clear hsh
  have HC1 := Lib.hid (fun N (hN : N = ((100 : Nat) : Int)) wx => law_cut' a 100 N hN wx ha (by omega))
  have HC2 := Lib.hid (fun N (hN : N = ((100 : Nat) : Int)) wx => law_cut' b 100 N hN wx hb (by omega))
  have hx := cutB_size a 100
  have hy := cutB_size b 100
  clear ha hb
  generalize cutB a 100 = x at *
  generalize cutB b 100 = y at *
  go_enter Tryd.func3, Tryd.ntmps3
  go_wp2_with fail
  (with_reducible refine (HC1.out 100 rfl _).mono ?_)
  rintro e w' ⟨rfl, rfl⟩
  go_wp2_with fail
  (with_reducible refine (HC2.out 100 rfl _).mono ?_)
  rintro e w' ⟨rfl, rfl⟩
  go_wp2_with fail
  (with_reducible refine (wm_compile x _ (by omega)).mono ?_)
  rintro e w1 ⟨v, rfl, hv, hb1⟩
  have hw1 := hb1
  have HO := Lib.hid (compF_ok (toL x))
  have hl := (compF_len (toL x)).1
  rcases hcf : compF (toL x) with ⟨ps, n1, e1⟩
  have HCF := Lib.hid hcf
  rw [hcf] at hv HO hl
  clear hcf hb1 HC1 HC2
  have hw1s := hw1.size
  go_wp2_with fail
  (with_reducible refine (rf_compile x _ (by omega)).mono ?_)
  rintro e w2 ⟨u, rfl, hu, hb2⟩
  rw [HCF.out] at hu ⊢
  have hw2 := hw1.trans (hb2.mono hw1s)
  obtain ⟨tx, A, nn, cc, rfl⟩ := hu.shape
  have HW3 := Lib.hid (hw2.trans ((alloc_bel w2 (.cells #[.string tx, .slice A nn cc] 29)).mono hw2.size))
  have HKN := Lib.hid (law_known _ (shaped_below HSH.out HW3.out))
  clear hw1 hw1s hw2
  simp only at HO hl hu ⊢
  by_cases h1 : e1 = 0
  · subst h1
    obtain ⟨b1, rfl, hp⟩ := hv.yes
    have HP := Lib.hid ((hp.below hb2).below (alloc_bel w2 (.cells #[.string tx, .slice A nn cc] 29)))
    have HQ := Lib.hid (hu.yes.below (alloc_bel w2 (.cells #[.string tx, .slice A nn cc] 29)))
    clear hp hb2 hu
    go_upto_region 6 with fail
    generalize hW0 : w2.alloc (.cells #[.string tx, .slice A nn cc] 29) = W0 at *
    have d0 : W0.cell? ⟨w2.heap.size, 0, none⟩ = some (.string tx) := by rw [← hW0, Lib.cell_of_heap (heap_alloc_new w2 _)]; rfl
    have d1 : W0.cell? ⟨w2.heap.size, 1, none⟩ = some (.slice A nn cc) := by rw [← hW0, Lib.cell_of_heap (heap_alloc_new w2 _)]; rfl
    have hb2z : w2.heap.size < W0.heap.size := by rw [← hW0]; simp
    have HD0 := Lib.hid d0; have HD1 := Lib.hid d1
    have H1 := Lib.hid (fun wx (hx : BoxP W0 w2.heap.size tx A nn cc wx) => law_known wx (shaped_below HSH.out (HW3.out.trans (hx.2.2.mono HW3.out.size))))
    have H2 := Lib.hid (fun wx (hx : BoxP W0 w2.heap.size tx A nn cc wx) => pat_match b1 x ps y wx (HP.out.below hx.2.2).at (by omega) HO.out (by omega))
    have H3 := Lib.hid (fun wx (hx : BoxP W0 w2.heap.size tx A nn cc wx) => rf_match (.agg #[.string tx, .slice A nn cc]) x ps y wx (HQ.out.below hx.2.2) (by omega) HO.out (by omega))
    have H4 := Lib.hid (fun wx (hx : BoxP W0 w2.heap.size tx A nn cc wx) => pat_empty b1 x ps wx (HP.out.below hx.2.2).at (by omega))
    have H5 := Lib.hid (fun wx (hx : BoxP W0 w2.heap.size tx A nn cc wx) => rf_empty (.agg #[.string tx, .slice A nn cc]) x ps wx (HQ.out.below hx.2.2) (by omega) HO.out)
    generalize matchF ps (toL y) = m at *
    generalize emptyF ps = n at *
    clear HP HQ HSH HKN d0 d1 hW0
    go_region_held3 (fun w' => w'.cell? ⟨w2.heap.size, 0, none⟩ = some (.string tx) ∧ w'.cell? ⟨w2.heap.size, 1, none⟩ = some (.slice A nn cc) ∧ Below W0.heap.size W0 w')
      (first
        | exact boxp_of HD0.out HD1.out (Below.refl _ _).drew hb2z
        | exact BoxP.later (by assumption) hb3 hb2z
        | exact BoxP.later (by assumption) hb4 hb2z
        | exact BoxP.later (by assumption) hb5 hb2z
        | exact BoxP.later (by assumption) hb6 hb2z
        | exact BoxP.later (by assumption) hb7 hb2z)
      (first
        | (go_at_call 16; (with_reducible refine (H1.out _ ?hh).mono ?_); (case hh => assumption); rintro e w3 ⟨rfl, hb3⟩)
        | (go_at_call 17; (with_reducible refine (H2.out _ ?hh).mono ?_); (case hh => assumption); rintro e w4 ⟨rfl, hb4⟩)
        | (go_at_call 18; (with_reducible refine (H3.out _ ?hh).mono ?_); (case hh => assumption); rintro e w5 ⟨rfl, hb5⟩)
        | (go_at_call 19; (with_reducible refine (H4.out _ ?hh).mono ?_); (case hh => assumption); rintro e w6 ⟨rfl, hb6⟩)
        | (go_at_call 20; (with_reducible refine (H5.out _ ?hh).mono ?_); (case hh => assumption); rintro e w7 ⟨rfl, hb7⟩))
    all_goals
      go_wp2_with fail
      go_ret
      exact ⟨rfl, HW3.out.trans ((show BoxP W0 w2.heap.size tx A nn cc _ by assumption).2.2.mono HW3.out.size)⟩
  · obtain rfl := hv.no h1
    have g1 : (e1 == 0) = false := beq_eq_false_iff_ne.2 h1
    have g2 : (e1 != 0) = true := by simp [bne, g1]
    clear h1 hb2 hu
    go_wp2_with fail
    (with_reducible refine HKN.out.mono ?_)
    rintro e w3 ⟨rfl, hb3⟩
    have hw3 := HW3.out.trans (hb3.mono HW3.out.size)
    clear hb3 HW3 HKN
    go_wp2_with fail
    go_ret
    exact ⟨rfl, hw3⟩

set_option maxRecDepth 100000 in
theorem WildmatMatches_contract (H : Type) (enc : TypeId × Value → H) (W : World) (base : Nat) (args : Array Value) (ds gs : List (DataW H)) (before : List MemPlace)
    (hval0 : ∀ (j : Nat) t v, Tryd.f3.params[j]? = some t → args[j]? = some v → Value.okWide Tryd.prog W .any base t v)
    (hW : DataW.Whole enc Tryd.prog Tryd.f3.params.toList Rows.wildmatMatchesSpec.vars false W args.toList ds gs before) (hsh : W.ShapedOpen Tryd.prog) :
    Calls Tryd.prog 3 args W fun e W' => ∃ v, e = .returned v ∧ Rows.wildmatMatchesSpec.post enc Tryd.prog Tryd.f3 false true false false W args v W' := by
  have hval : ∀ (j : Nat) t v, Tryd.f3.params[j]? = some t → args[j]? = some v → Value.okWide Tryd.prog W .any base t v := hval0
  have hW' := hW
  obtain ⟨p, q, hA0, hV, rfl, hfz, hnd⟩ := hW
  have hA : DataW.TrodAll enc Tryd.prog W 0 (fun _ => true) true Tryd.f3.params.toList args.toList ds p := hA0
  rw [Tryd.params3] at hA hval
  obtain ⟨v0, vs0, d0, ds0, p0, q0, hargs, rfl, rfl, h0, r0⟩ := trodAll_cons hA
  obtain ⟨v1, vs1, d1, ds1, p1, q1, rfl, rfl, rfl, h1, r1⟩ := trodAll_cons r0
  obtain ⟨rfl, rfl, rfl⟩ := trodAll_nil r1
  obtain rfl : args = #[v0, v1] := by cases args; simp_all
  obtain ⟨rfl, rfl⟩ := trodVars_none hV
  obtain ⟨a0, rfl, rfl, rfl, w0⟩ := open_string Tryd.underlying9 (hval 0 9 v0 rfl rfl) h0
  obtain ⟨a1, rfl, rfl, rfl, w1⟩ := open_string Tryd.underlying9 (hval 1 9 v1 rfl rfl) h1
  refine (WildmatMatches_walk a0 w0 a1 w1 W hsh).mono fun e W' ⟨he, hg⟩ => ?_
  subst he
  exact ⟨_, rfl, law_post hW' rfl rfl rfl (by decide +kernel) hg⟩

theorem WildmatMatches_reads (os : Os) {H : Type} (enc : TypeId × Value → H) : ∃ places, DataW.whole enc Tryd.prog ((laidWorld os).forCall (fun _ _ => 0) ⟨#[], #[.string ByteArray.empty, .string ByteArray.empty], []⟩).memory Tryd.f3.params.toList Rows.wildmatMatchesSpec.vars false ((#[.string ByteArray.empty, .string ByteArray.empty] : Array Value)).toList 8 = some ([.lit (.string []), .lit (.string [])], [], places) :=
  ⟨[], by kernel_rfl⟩

set_option maxRecDepth 100000 in
theorem WildmatMatches_lifted (os : Os) (started : os.Started) (H : Type) (enc : TypeId × Value → H) (F : Stop.Interp) :
    ReturnsInHanded {} Tryd.checked os 3 .any ((OpenSpec.ofChange Rows.wildmatMatchesSpec).preRow enc Tryd.prog Tryd.f3 Rows.wildmatMatchesRow.domain false Rows.wildmatMatchesRow.laid) (((OpenSpec.ofChange Rows.wildmatMatchesSpec).at F).post enc Tryd.prog Tryd.f3 false true false false) := by
  obtain ⟨places, hx⟩ := WildmatMatches_reads os enc
  refine returnsInHanded_of_row (C := Tryd.checked) (s := OpenSpec.ofChange Rows.wildmatMatchesSpec) own started (by kernel_rfl) Tryd.func3
    (witness_row_at (enc := enc) (C := Tryd.checked) false (laidWorld os) #[.string ByteArray.empty, .string ByteArray.empty] rfl (by kernel_rfl) (by kernel_rfl) (by kernel_rfl)
      (OpenSpec.preRow_of_cond 8 hx (by kernel_rfl) (fun k hk => by cases hk) (by kernel_rfl) (laid_met os #[.string ByteArray.empty, .string ByteArray.empty]))) ?_
  intro W base args ds gs before hval hW _ _ _ hL hsh _
  exact WildmatMatches_contract H enc W base args ds gs before hval hW hsh

theorem WildmatMatches_said : Rows.WildmatMatchesSaid :=
  OpenClaim.holds_of_cond 3 Tryd.f3 rfl rfl rfl rfl rfl rfl rfl ⟨rfl, rfl, rfl, rfl, rfl⟩ rfl rfl rfl rfl rfl (by kernel_rfl) Tryd.func3 (by kernel_rfl)
    (of_decide_eq_true (by kernel_rfl)) (by unfold Func.isWrapper; first | (rw [if_pos (by decide +kernel)]; kernel_rfl) | (rw [if_neg (by decide +kernel)]; exact ⟨rfl, rfl⟩))
    (fun os started H enc _ F => by rw [OpenClaim.pre_eq_preRow]; exact WildmatMatches_lifted os started H enc F)

theorem WildmatMatches_plain (f : FuncId) (fn : Func) (hf : Tryd.pinned.checked.prog.funcNamed Rows.wildmatMatchesRow.func = some f) (hfn : Tryd.pinned.checked.prog.funcs[f]? = some fn) :
    true = Tryd.pinned.checked.prog.looks [] ∧ ∀ (j : Nat) t, fn.params[j]? = some t → Tryd.pinned.checked.prog.wantsStandIn t = false := by
  obtain rfl : f = 3 := Option.some.inj ((show Tryd.prog.funcNamed Rows.wildmatMatchesRow.func = some 3 by kernel_rfl).symm.trans hf) |>.symm
  obtain rfl : fn = Tryd.f3 := (Option.some.inj (Tryd.func3.symm.trans hfn)).symm
  refine ⟨by kernel_rfl, fun j t ht => ?_⟩
  rw [Tryd.params3] at ht
  have hm := Array.mem_of_getElem? ht
  simp only [List.mem_toArray, List.mem_cons, List.not_mem_nil, or_false] at hm
  rcases hm with rfl | rfl
  · exact (show Tryd.prog.wantsStandIn 9 = false by kernel_rfl)
  · exact (show Tryd.prog.wantsStandIn 9 = false by kernel_rfl)

theorem WildmatMatches_proved : Rows.WildmatMatchesCardSaid :=
  Claim7.holds_tied_plain_at .later [] _ _ _ _ WildmatMatches_said (fun _ h => by cases h) (by kernel_rfl) (fun _ h => by cases h) wildmatMatches_row_tie rfl ⟨rfl, rfl⟩ (by kernel_rfl) rfl WildmatMatches_plain (by kernel_rfl)
end Go.Proofs.YtmiieifcefgedaaDoor
