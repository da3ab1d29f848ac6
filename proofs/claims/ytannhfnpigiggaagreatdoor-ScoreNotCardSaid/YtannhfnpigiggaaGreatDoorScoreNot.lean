/- For every condition and article, ScoreNot returns true: a rule with not applies exactly if the rule without it does not. The library's listed tables lie as the card ties them; no other condition. -/
import Derived.Test.YtannhfnpigiggaaGreatDoorSiB
namespace Go.Proofs.YtannhfnpigiggaaGreatDoor
set_option linter.unusedSimpArgs false
set_option linter.unusedVariables false
open Go.ChangeShapes Go.WideShapes Go.ChangeAt Go.RowKit
open Go.ChangeMaps (open_string shut_string)

theorem two_texts (C : ByteArray) : toL ((⟨#[119, 97, 116, 99, 104, 32, 105, 102, 32]⟩ : ByteArray) ++ C) = pA ++ toL C ∧ toL (((⟨#[119, 97, 116, 99, 104, 32, 105, 102, 32, 110, 111, 116, 32, 40]⟩ : ByteArray) ++ C) ++ ⟨#[41]⟩) = pB ++ (toL C ++ [41]) := by
  have h : ∀ x y : ByteArray, toL (x ++ y) = toL x ++ toL y := fun x y => by
    conv => lhs; rw [← ofL_toL x, ← ofL_toL y, ofL_append, toL_ofL]
  constructor
  · rw [h]; rfl
  · rw [h, h, List.append_assoc]; rfl
theorem ScoreNot_walk (c0 : ByteArray) (hc0 : c0.size ≤ maxLen) (N S B : ByteArray) (f : Nat → Int) (A : Option Addr) (l : List Bs) (gc : Nat) (a b c d e : Int) {w : World} (hin : InOk N S B f A l w) (_w : World) (hsh : w.ShapedOpen Tryz.prog) (ht : TabN w) :
    Calls Tryz.prog 5 #[.string c0, .agg (inX N S B f (.slice A l.length gc) a b c d e)] w fun e w' => e = .returned (.bool true) ∧ Below w.heap.size w w' := by
  have hsc := fun wx => law_short c0 hc0 500 500 rfl wx (by omega)
  have hC : (c0.extract 0 (min c0.size 500)).size ≤ 500 := by
    have := congrArg List.length (short_toL c0 500)
    rw [toL_length, List.length_take] at this; omega
  generalize c0.extract 0 (min c0.size 500) = C at *
  obtain ⟨e1, e2⟩ := two_texts C
  cases hp : parseG (toL ((⟨#[119, 97, 116, 99, 104, 32, 105, 102, 32]⟩ : ByteArray) ++ C)) with
  | error g => exact not_badA rfl hsc hC hsh ht (nz_parse hp) (by rw [hp])
  | ok la =>
    cases hq : parseG (toL (((⟨#[119, 97, 116, 99, 104, 32, 105, 102, 32, 110, 111, 116, 32, 40]⟩ : ByteArray) ++ C) ++ ⟨#[41]⟩)) with
    | error g => exact not_badB rfl hsc hC hsh ht (nz_parse hq) hp (by rw [hq])
    | ok lb =>
      by_cases h1 : la.length = 1
      · by_cases h2 : lb.length = 1
        · refine not_good hin hsc hC hsh ht h1 h2 hp hq fun x => ?_
          rw [e1] at hp
          rw [e2] at hq
          obtain ⟨cc, rfl, rfl⟩ := not_law hp hq h1 h2
          exact not_rates x
        · exact not_badD rfl hsc hC hsh ht h1 h2 hp hq
      · exact not_badC rfl hsc hC hsh ht h1 hp hq
set_option maxRecDepth 100000 in
theorem ScoreNot_contract (H : Type) (enc : TypeId × Value → H) (W : World) (base : Nat) (args : Array Value) (ds gs : List (DataW H)) (before : List MemPlace)
    (hval0 : ∀ (j : Nat) t v, Tryz.f5.params[j]? = some t → args[j]? = some v → Value.okWide Tryz.prog W .any base t v)
    (hW : DataW.Whole enc Tryz.prog Tryz.f5.params.toList Rows.scoreNotSpec.vars false W args.toList ds gs before) (hsh : W.ShapedOpen Tryz.prog) (htab : TabN W) :
    Calls Tryz.prog 5 args W fun e W' => ∃ v, e = .returned v ∧ Rows.scoreNotSpec.post enc Tryz.prog Tryz.f5 false true false false W args v W' := by
  have hval : ∀ (j : Nat) t v, Tryz.f5.params[j]? = some t → args[j]? = some v → Value.okWide Tryz.prog W .any base t v := hval0
  have hW' := hW
  obtain ⟨p, q, hA0, hV, rfl, hfz, hnd⟩ := hW
  have hA : DataW.TrodAll enc Tryz.prog W 0 (fun _ => true) true Tryz.f5.params.toList args.toList ds p := hA0
  rw [Tryz.params5] at hA hval
  obtain ⟨v0, vs0, d0, ds0, p0, q0, hargs, rfl, rfl, h0, r0⟩ := trodAll_cons hA
  obtain ⟨v1, vs1, d1, ds1, p1, q1, rfl, rfl, rfl, h1, r1⟩ := trodAll_cons r0
  obtain ⟨rfl, rfl, rfl⟩ := trodAll_nil r1
  obtain rfl : args = #[v0, v1] := by cases args; simp_all
  obtain ⟨rfl, rfl⟩ := trodVars_none hV
  obtain ⟨a0, rfl, rfl, rfl, w0⟩ := open_string Tryz.underlying9 (hval 0 9 v0 rfl rfl) h0
  obtain ⟨n1, s1, b1, f1, A1, l1, c1, j1, k1, m1, o1, q1, rfl, hin1⟩ := open_in (hval 1 26 v1 rfl rfl) h1
  refine (ScoreNot_walk a0 w0 n1 s1 b1 f1 A1 l1 c1 j1 k1 m1 o1 q1 hin1 W hsh htab).mono fun e W' ⟨he, hg⟩ => ?_
  subst he
  exact ⟨_, rfl, law_post hW' rfl rfl rfl (by decide +kernel) hg⟩

theorem ScoreNot_reads (os : Os) {H : Type} (enc : TypeId × Value → H) : ∃ places, DataW.whole enc Tryz.prog ((laidWorld os).forCall (fun _ _ => 0) ⟨#[], #[.string ByteArray.empty, witX], []⟩).memory Tryz.f5.params.toList Rows.scoreNotSpec.vars false ((#[.string ByteArray.empty, witX] : Array Value)).toList 8 = some ([.lit (.string []), datX], [], places) :=
  ⟨[], by kernel_rfl⟩

set_option maxRecDepth 100000 in
theorem ScoreNot_lifted (os : Os) (started : os.Started) (H : Type) (enc : TypeId × Value → H) (F : Stop.Interp) :
    ReturnsInHanded {} Tryz.checked os 5 .any ((OpenSpec.ofChange Rows.scoreNotSpec).preRow enc Tryz.prog Tryz.f5 Rows.scoreNotRow.domain false Rows.scoreNotRow.laid) (((OpenSpec.ofChange Rows.scoreNotSpec).at F).post enc Tryz.prog Tryz.f5 false true false false) := by
  obtain ⟨places, hx⟩ := ScoreNot_reads os enc
  refine returnsInHanded_of_row (C := Tryz.checked) (s := OpenSpec.ofChange Rows.scoreNotSpec) own started (by kernel_rfl) Tryz.func5
    (witness_row_at (enc := enc) (C := Tryz.checked) false (laidWorld os) #[.string ByteArray.empty, witX] rfl (by kernel_rfl) (by kernel_rfl) (by kernel_rfl)
      (OpenSpec.preRow_of_cond 8 hx (by kernel_rfl) (fun k hk => by cases hk) (by kernel_rfl) (laid_met os #[.string ByteArray.empty, witX]))) ?_
  intro W base args ds gs before hval hW _ _ _ hL hsh _
  exact ScoreNot_contract H enc W base args ds gs before hval hW hsh (tabN_of_laid hL)

theorem ScoreNot_said : Rows.ScoreNotSaid :=
  OpenClaim.holds_of_cond 5 Tryz.f5 rfl rfl rfl rfl rfl rfl rfl ⟨rfl, rfl, rfl, rfl, rfl⟩ rfl rfl rfl rfl rfl (by kernel_rfl) Tryz.func5 (by kernel_rfl)
    (of_decide_eq_true (by kernel_rfl)) (by unfold Func.isWrapper; first | (rw [if_pos (by decide +kernel)]; kernel_rfl) | (rw [if_neg (by decide +kernel)]; exact ⟨rfl, rfl⟩))
    (fun os started H enc _ F => by rw [OpenClaim.pre_eq_preRow]; exact ScoreNot_lifted os started H enc F)

theorem ScoreNot_plain (f : FuncId) (fn : Func) (hf : Tryz.pinned.checked.prog.funcNamed Rows.scoreNotRow.func = some f) (hfn : Tryz.pinned.checked.prog.funcs[f]? = some fn) :
    true = Tryz.pinned.checked.prog.looks [] ∧ ∀ (j : Nat) t, fn.params[j]? = some t → Tryz.pinned.checked.prog.wantsStandIn t = false := by
  obtain rfl : f = 5 := Option.some.inj ((show Tryz.prog.funcNamed Rows.scoreNotRow.func = some 5 by kernel_rfl).symm.trans hf) |>.symm
  obtain rfl : fn = Tryz.f5 := (Option.some.inj (Tryz.func5.symm.trans hfn)).symm
  refine ⟨by kernel_rfl, fun j t ht => ?_⟩
  rw [Tryz.params5] at ht
  have hm := Array.mem_of_getElem? ht
  simp only [List.mem_toArray, List.mem_cons, List.not_mem_nil, or_false] at hm
  rcases hm with rfl | rfl
  · exact (show Tryz.prog.wantsStandIn 9 = false by kernel_rfl)
  · exact (show Tryz.prog.wantsStandIn 26 = false by kernel_rfl)

theorem ScoreNot_proved : Rows.ScoreNotCardSaid :=
  Claim7.holds_tied_plain_at .later [] _ _ _ _ ScoreNot_said (fun _ h => by cases h) (by kernel_rfl) (fun _ h => by cases h) scoreNot_row_tie rfl ⟨rfl, rfl⟩ (by kernel_rfl) rfl ScoreNot_plain (by kernel_rfl)
end Go.Proofs.YtannhfnpigiggaaGreatDoor
