/- For every text, article and index, ScoreRates returns true: Rate and Applies of the rules that Parse has read agree with the reference. The library's listed tables lie as the card ties them; no other condition. -/
import Derived.Test.YtannhfnpigiggaaGreatDoorPr52
namespace Go.Proofs.YtannhfnpigiggaaGreatDoor
set_option linter.unusedSimpArgs false
set_option linter.unusedVariables false
open Go.ChangeShapes Go.WideShapes Go.ChangeAt Go.RowKit
open Go.ChangeMaps (open_string shut_string)
theorem ScoreRates_walk (c0:ByteArray) (hc0:c0.size ≤ maxLen) (N S B:ByteArray) (f:Nat → Int) (A:Option Addr) (l:List Bs) (gc:Nat) (a b c d e:Int) {w:World} (hin:InOk N S B f A l w) (ix:Int) (_h:(Lit.int IntKind.i64 ix).wf = true) (_w:World) (hsh:w.ShapedOpen Tryz.prog) (ht:TabN w) :
  Calls Tryz.prog 7 #[.string c0,.agg (inX N S B f (.slice A l.length gc) a b c d e),.int .i64 ix] w fun e w' => e = .returned (.bool true) ∧ Below w.heap.size w w':=by
 have hsc:=fun wx => law_short c0 hc0 2000 2000 rfl wx (by omega)
 generalize c0.extract 0 (min c0.size 2000) = C at *
 cases hp:parseG (toL C) with
 | error g => exact rates_bad rfl hsc hsh ht (nz_parse hp) (by rw [hp]) ix
 | ok la => exact rates_good hin hsc hsh ht hp ix
set_option maxRecDepth 100000 in
theorem ScoreRates_contract (H:Type) (enc:TypeId × Value → H) (W:World) (base:Nat) (args:Array Value) (ds gs:List (DataW H)) (before:List MemPlace)
  (hval0:∀ (j:Nat) t v,Tryz.f7.params[j]? = some t → args[j]? = some v → Value.okWide Tryz.prog W .any base t v)
  (hW:DataW.Whole enc Tryz.prog Tryz.f7.params.toList Rows.scoreRatesSpec.vars false W args.toList ds gs before) (hsh:W.ShapedOpen Tryz.prog) (htab:TabN W) :
  Calls Tryz.prog 7 args W fun e W' => ∃ v,e = .returned v ∧ Rows.scoreRatesSpec.post enc Tryz.prog Tryz.f7 false true false false W args v W':=by
 have hval:∀ (j:Nat) t v,Tryz.f7.params[j]? = some t → args[j]? = some v → Value.okWide Tryz.prog W .any base t v:=hval0
 have hW':=hW
 obtain ⟨p,q,hA0,hV,rfl,hfz,hnd⟩:=hW
 have hA:DataW.TrodAll enc Tryz.prog W 0 (fun _ => true) true Tryz.f7.params.toList args.toList ds p:=hA0
 rw [Tryz.params7] at hA hval
 obtain ⟨v0,vs0,d0,ds0,p0,q0,hargs,rfl,rfl,h0,r0⟩:=trodAll_cons hA
 obtain ⟨v1,vs1,d1,ds1,p1,q1,rfl,rfl,rfl,h1,r1⟩:=trodAll_cons r0
 obtain ⟨v2,vs2,d2,ds2,p2,q2,rfl,rfl,rfl,h2,r2⟩:=trodAll_cons r1
 obtain ⟨rfl,rfl,rfl⟩:=trodAll_nil r2
 obtain rfl:args = #[v0,v1,v2]:=by cases args;simp_all
 obtain ⟨rfl,rfl⟩:=trodVars_none hV
 obtain ⟨a0,rfl,rfl,rfl,w0⟩:=open_string Tryz.underlying9 (hval 0 9 v0 rfl rfl) h0
 obtain ⟨n1,s1,b1,f1,A1,l1,c1,j1,k1,m1,o1,q1,rfl,hin1⟩:=open_in (hval 1 26 v1 rfl rfl) h1
 obtain ⟨a2,rfl,rfl,rfl,w2⟩:=open_int Tryz.underlying3 (hval 2 3 v2 rfl rfl) h2
 refine (ScoreRates_walk a0 w0 n1 s1 b1 f1 A1 l1 c1 j1 k1 m1 o1 q1 hin1 a2 w2 W hsh htab).mono fun e W' ⟨he,hg⟩ => ?_
 subst he
 exact ⟨_,rfl,law_post hW' rfl rfl rfl (by decide +kernel) hg⟩
theorem ScoreRates_reads (os:Os) {H:Type} (enc:TypeId × Value → H):∃ places,DataW.whole enc Tryz.prog ((laidWorld os).forCall (fun _ _ => 0) ⟨#[],#[.string ByteArray.empty,witX,.int .i64 0], []⟩).memory Tryz.f7.params.toList Rows.scoreRatesSpec.vars false ((#[.string ByteArray.empty,witX,.int .i64 0]:Array Value)).toList 8 = some ([.lit (.string []),datX,.lit (.int .i64 0)], [],places) :=
 ⟨[],by kernel_rfl⟩
set_option maxRecDepth 100000 in
theorem ScoreRates_lifted (os : Os) (started : os.Started) (H : Type) (enc : TypeId × Value → H) (F : Stop.Interp) :
    ReturnsInHanded {} Tryz.checked os 7 .any ((OpenSpec.ofChange Rows.scoreRatesSpec).preRow enc Tryz.prog Tryz.f7 Rows.scoreRatesRow.domain false Rows.scoreRatesRow.laid) (((OpenSpec.ofChange Rows.scoreRatesSpec).at F).post enc Tryz.prog Tryz.f7 false true false false) := by
  obtain ⟨places, hx⟩ := ScoreRates_reads os enc
  refine returnsInHanded_of_row (C := Tryz.checked) (s := OpenSpec.ofChange Rows.scoreRatesSpec) own started (by kernel_rfl) Tryz.func7
    (witness_row_at (enc := enc) (C := Tryz.checked) false (laidWorld os) #[.string ByteArray.empty, witX, .int .i64 0] rfl (by kernel_rfl) (by kernel_rfl) (by kernel_rfl)
      (OpenSpec.preRow_of_cond 8 hx (by kernel_rfl) (fun k hk => by cases hk) (by kernel_rfl) (laid_met os #[.string ByteArray.empty, witX, .int .i64 0]))) ?_
  intro W base args ds gs before hval hW _ _ _ hL hsh _
  exact ScoreRates_contract H enc W base args ds gs before hval hW hsh (tabN_of_laid hL)
theorem ScoreRates_said:Rows.ScoreRatesSaid :=
 OpenClaim.holds_of_cond 7 Tryz.f7 rfl rfl rfl rfl rfl rfl rfl ⟨rfl,rfl,rfl,rfl,rfl⟩ rfl rfl rfl rfl rfl (by kernel_rfl) Tryz.func7 (by kernel_rfl)
  (of_decide_eq_true (by kernel_rfl)) (by unfold Func.isWrapper;first | (rw [if_pos (by decide +kernel)];kernel_rfl) | (rw [if_neg (by decide +kernel)];exact ⟨rfl,rfl⟩))
  (fun os started H enc _ F => by rw [OpenClaim.pre_eq_preRow];exact ScoreRates_lifted os started H enc F)
theorem ScoreRates_plain (f:FuncId) (fn:Func) (hf:Tryz.pinned.checked.prog.funcNamed Rows.scoreRatesRow.func = some f) (hfn:Tryz.pinned.checked.prog.funcs[f]? = some fn) :
  true = Tryz.pinned.checked.prog.looks [] ∧ ∀ (j:Nat) t,fn.params[j]? = some t → Tryz.pinned.checked.prog.wantsStandIn t = false:=by
 obtain rfl:f = 7:=Option.some.inj ((show Tryz.prog.funcNamed Rows.scoreRatesRow.func = some 7 by kernel_rfl).symm.trans hf) |>.symm
 obtain rfl:fn = Tryz.f7:=(Option.some.inj (Tryz.func7.symm.trans hfn)).symm
 refine ⟨by kernel_rfl,fun j t ht => ?_⟩
 rw [Tryz.params7] at ht
 have hm:=Array.mem_of_getElem? ht
 simp only [List.mem_toArray,List.mem_cons,List.not_mem_nil,or_false] at hm
 rcases hm with rfl | rfl | rfl
 ·exact (show Tryz.prog.wantsStandIn 9 = false by kernel_rfl)
 ·exact (show Tryz.prog.wantsStandIn 26 = false by kernel_rfl)
 ·exact (show Tryz.prog.wantsStandIn 3 = false by kernel_rfl)
theorem ScoreRates_proved:Rows.ScoreRatesCardSaid :=
 Claim7.holds_tied_plain_at .later [] _ _ _ _ ScoreRates_said (fun _ h => by cases h) (by kernel_rfl) (fun _ h => by cases h) scoreRates_row_tie rfl ⟨rfl,rfl⟩ (by kernel_rfl) rfl ScoreRates_plain (by kernel_rfl)
end Go.Proofs.YtannhfnpigiggaaGreatDoor
