/- ScoreAppends. -/
import Derived.Test.YtannhfnpigiggaaGreatDoorPt56
namespace Go.Proofs.YtannhfnpigiggaaGreatDoor
set_option linter.unusedSimpArgs false
set_option linter.unusedVariables false
open Go.ChangeShapes Go.WideShapes Go.ChangeAt Go.RowKit
open Go.ChangeMaps (open_string shut_string)
theorem SAw(c0:ByteArray)(hc0:c0.size<=maxLen)(d0:ByteArray)(hd0:d0.size<=maxLen)(N S B:ByteArray)(f:Nat->Int)(A:Option Addr)(l:List Bs)(gc:Nat)(a b c d e:Int){w:World}(hin:InOk N S B f A l w)(_w:World)(hsh:w.ShapedOpen Tryz.prog)(ht:TabN w) :
  Calls Tryz.prog 8 #[.string c0,.string d0,.agg (inX N S B f (.slice A l.length gc) a b c d e)] w fun e w'=>e=.returned (.bool true)/\Below w.heap.size w w':=by
 have hsc:=fun wx=>law_short c0 hc0 1000 1000 rfl wx (by omega)
 have hsd:=fun wx=>law_short d0 hd0 1000 1000 rfl wx (by omega)
 have hC:(c0.extract 0 (min c0.size 1000)).size<=1000:=by
  have:=congrArg List.length (short_toL c0 1000)
  rw[toL_length,List.length_take]at this;omega
 have hD:(d0.extract 0 (min d0.size 1000)).size<=1000:=by
  have:=congrArg List.length (short_toL d0 1000)
  rw[toL_length,List.length_take]at this;omega
 generalize c0.extract 0 (min c0.size 1000)=C at *
 generalize d0.extract 0 (min d0.size 1000)=D at *
 cases hp:parseG (toL C) with
 | error g=>exact app_badA hsc hsd hsh ht (nz_parse hp) (by rw[hp])
 | ok la =>
  cases hq:parseG (toL D) with
  | error g=>exact app_badB hsc hsd hsh ht hp (nz_parse hq) (by rw[hq])
  | ok lb =>
   by_cases hn:la.length+lb.length<=200
   ·exact app_good hin hsc hsd hsh ht hC hD hp hq hn
   ·exact app_many hsc hsd hsh ht hC hD hp hq (by omega)
set_option maxRecDepth 100000 in
theorem SAc(H:Type)(enc:TypeId × Value->H)(W:World)(base:Nat)(args:Array Value)(ds gs:List (DataW H))(before:List MemPlace)
  (hval0:∀(j:Nat) t v,Tryz.f8.params[j]?=some t->args[j]?=some v->Value.okWide Tryz.prog W .any base t v)
  (hW:DataW.Whole enc Tryz.prog Tryz.f8.params.toList Rows.scoreAppendsSpec.vars false W args.toList ds gs before) (hsh:W.ShapedOpen Tryz.prog) (htab:TabN W) :
  Calls Tryz.prog 8 args W fun e W'=>∃v,e=.returned v/\Rows.scoreAppendsSpec.post enc Tryz.prog Tryz.f8 false true false false W args v W':=by
 have hval:∀(j:Nat) t v,Tryz.f8.params[j]?=some t->args[j]?=some v->Value.okWide Tryz.prog W .any base t v:=hval0
 have hW':=hW
 obtain⟨p,q,hA0,hV,rfl,hfz,hnd⟩:=hW
 have hA:DataW.TrodAll enc Tryz.prog W 0 (fun _=>true) true Tryz.f8.params.toList args.toList ds p:=hA0
 rw[Tryz.params8]at hA hval
 obtain⟨v0,vs0,d0,ds0,p0,q0,hargs,rfl,rfl,h0,r0⟩:=trodAll_cons hA
 obtain⟨v1,vs1,d1,ds1,p1,q1,rfl,rfl,rfl,h1,r1⟩:=trodAll_cons r0
 obtain⟨v2,vs2,d2,ds2,p2,q2,rfl,rfl,rfl,h2,r2⟩:=trodAll_cons r1
 obtain⟨rfl,rfl,rfl⟩:=trodAll_nil r2
 obtain rfl:args=#[v0,v1,v2]:=by cases args;simp_all
 obtain⟨rfl,rfl⟩:=trodVars_none hV
 obtain⟨a0,rfl,rfl,rfl,w0⟩:=open_string Tryz.underlying9 (hval 0 9 v0 rfl rfl) h0
 obtain⟨a1,rfl,rfl,rfl,w1⟩:=open_string Tryz.underlying9 (hval 1 9 v1 rfl rfl) h1
 obtain⟨n2,s2,b2,f2,A2,l2,c2,j2,k2,m2,o2,q2,rfl,hin2⟩:=open_in (hval 2 26 v2 rfl rfl) h2
 refine(SAw a0 w0 a1 w1 n2 s2 b2 f2 A2 l2 c2 j2 k2 m2 o2 q2 hin2 W hsh htab).mono fun e W' ⟨he,hg⟩=>?_
 subst he
 exact⟨_,rfl,law_post hW' rfl rfl rfl (by decide +kernel) hg⟩
theorem SAr(os:Os){H:Type}(enc:TypeId × Value->H):∃places,DataW.whole enc Tryz.prog ((laidWorld os).forCall (fun _ _=>0) ⟨#[],#[.string ByteArray.empty,.string ByteArray.empty,witX], []⟩).memory Tryz.f8.params.toList Rows.scoreAppendsSpec.vars false ((#[.string ByteArray.empty,.string ByteArray.empty,witX]:Array Value)).toList 8=some ([.lit (.string []),.lit (.string []),datX], [],places) :=
 ⟨[],by kernel_rfl⟩
set_option maxRecDepth 100000 in
theorem SAl (os:Os)(started:os.Started)(H:Type)(enc:TypeId × Value->H)(F:Stop.Interp) :
  ReturnsInHanded {} Tryz.checked os 8 .any ((OpenSpec.ofChange Rows.scoreAppendsSpec).preRow enc Tryz.prog Tryz.f8 Rows.scoreAppendsRow.domain false Rows.scoreAppendsRow.laid) (((OpenSpec.ofChange Rows.scoreAppendsSpec).at F).post enc Tryz.prog Tryz.f8 false true false false):=by
 obtain⟨_,hx⟩:=SAr os enc
 refine returnsInHanded_of_row (C:=Tryz.checked) (s:=OpenSpec.ofChange Rows.scoreAppendsSpec) own started (by kernel_rfl) Tryz.func8
  (witness_row_at (enc:=enc) (C:=Tryz.checked) false (laidWorld os) #[.string ByteArray.empty,.string ByteArray.empty,witX] rfl (by kernel_rfl) (by kernel_rfl) (by kernel_rfl)
   (OpenSpec.preRow_of_cond 8 hx (by kernel_rfl) (fun k hk=>by cases hk) (by kernel_rfl) (laid_met os #[.string ByteArray.empty,.string ByteArray.empty,witX]))) ?_
 intro W base args ds gs before hval hW _ _ _ hL hsh _
 exact SAc H enc W base args ds gs before hval hW hsh (tabN_of_laid hL)
theorem SAs:Rows.ScoreAppendsSaid :=
 OpenClaim.holds_of_cond 8 Tryz.f8 rfl rfl rfl rfl rfl rfl rfl ⟨rfl,rfl,rfl,rfl,rfl⟩ rfl rfl rfl rfl rfl (by kernel_rfl) Tryz.func8 (by kernel_rfl)
  (of_decide_eq_true (by kernel_rfl)) (by unfold Func.isWrapper;first|(rw[if_pos (by decide +kernel)];kernel_rfl)|(rw[if_neg (by decide +kernel)];exact⟨rfl,rfl⟩))
  (fun os started H enc _ F=>by rw[OpenClaim.pre_eq_preRow];exact SAl os started H enc F)
theorem SAp(f:FuncId)(fn:Func)(hf:Tryz.pinned.checked.prog.funcNamed Rows.scoreAppendsRow.func=some f)(hfn:Tryz.pinned.checked.prog.funcs[f]?=some fn) :
  true=Tryz.pinned.checked.prog.looks []/\∀(j:Nat) t,fn.params[j]?=some t->Tryz.pinned.checked.prog.wantsStandIn t=false:=by
 obtain rfl:f=8:=Option.some.inj ((show Tryz.prog.funcNamed Rows.scoreAppendsRow.func=some 8 by kernel_rfl).symm.trans hf) |>.symm
 obtain rfl:fn=Tryz.f8:=(Option.some.inj (Tryz.func8.symm.trans hfn)).symm
 refine⟨by kernel_rfl,fun j t ht=>?_⟩
 rw[Tryz.params8]at ht
 have hm:=Array.mem_of_getElem? ht
 simp only[List.mem_toArray,List.mem_cons,List.not_mem_nil,or_false]at hm
 rcases hm with rfl|rfl|rfl
 ·exact(show Tryz.prog.wantsStandIn 9=false by kernel_rfl)
 ·exact(show Tryz.prog.wantsStandIn 9=false by kernel_rfl)
 ·exact(show Tryz.prog.wantsStandIn 26=false by kernel_rfl)
theorem ScoreAppends_proved:Rows.ScoreAppendsCardSaid :=
 Claim7.holds_tied_plain_at .later [] _ _ _ _ SAs (fun _ h=>by cases h) (by kernel_rfl) (fun _ h=>by cases h) scoreAppends_row_tie rfl ⟨rfl,rfl⟩ (by kernel_rfl) rfl SAp (by kernel_rfl)
end Go.Proofs.YtannhfnpigiggaaGreatDoor
