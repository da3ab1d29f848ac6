import Derived.Test.YtannhfnpigiggaaGreatDoorPl44
import Derived.Test.YtannhfnpigiggaaGreatDoorPl45
import Derived.Test.YtannhfnpigiggaaGreatDoorCards
import Derived.Test.YtannhfnpigiggaaGreatDoorTie
import Derived.Deep.DeepHandedRow
import Derived.Lib.LaidTab
import Derived.MakeChecks
namespace Go.Proofs.YtannhfnpigiggaaGreatDoor
set_option linter.unusedSimpArgs false
set_option linter.unusedVariables false
def leafV:DataW Unit->Value
 | .lit (.int k n)=>.int k n
 | _=>undef
def flat1:DataW Unit->List Value
 | .agg l=>l.map leafV
 | _=>[]
def flat2:DataW Unit->List Value
 | .agg l=>l.flatMap flat1
 | _=>[]
def withCells(l:List Value):Obj->Obj
 | .cells _ t frozen=>.cells l.toArray t frozen
 | o=>o
noncomputable def laidWorld(os:Os):World :=
 { World.holding Tryz.prog os ⟨#[],#[], []⟩ with heap:=(((((World.holding Tryz.prog os ⟨#[],#[], []⟩).heap.modify 1 (withCells (flat1 Rows.laid_unicode_utf8_first))).modify 2 (withCells (flat2 Rows.laid_unicode_utf8_acceptRanges))).modify 4 (withCells (flat1 Rows.laid_math_bits_deBruijn32tab))).modify 5 (withCells (flat1 Rows.laid_math_bits_deBruijn64tab))).modify 3 (withCells (flat1 Rows.laid_internal_strconv_uint64pow10)) }
theorem laid_met(os:Os)(args:Array Value):laidMet Tryz.prog Rows.scoreCaseRow.laid ((laidWorld os).forCall (fun _ _=>0) ⟨#[],args, []⟩).memory :=
 laidMet_of_run' 8 (by kernel_rfl) (by kernel_rfl)
theorem laid_has{P:Program}{W:World}{name:String}{d:DataW Unit} : ∀(laid:List (String × DataW Unit)) (ps:List MemPlace),DataW.LaidVars P W laid ps->(name,d)∈laid →
  ∃g t cs fuel p,P.globalNamed name=some g/\(P.globals[g]?).map (·.type)=some t/\W.var? P name=some cs/\DataW.trod (fun _=>()) P W 0 (fun _=>true) false fuel t cs.toList=some (d,p)
 | [],_,_,h=>by cases h
 | (n,x)::r,_,⟨g,t,cs,fuel,p,q,h1,h2,h3,h4,h5,h6⟩,h=>by
  rcases List.mem_cons.1 h with h|h
  ·injection h with e1 e2
   subst e1;subst e2
   exact⟨g,t,cs,fuel,p,h1,h2,h3,h4⟩
  ·exact laid_has r q h5 h
theorem tabIs_of_mem{P:Program}{W:World}{name:String}{k:IntKind}{zs:List Int}{laid:List (String × DataW Unit)}{g:Nat}{t e:TypeId}{n:Nat}
  (hg:P.globalNamed name=some g) (hty:(P.globals[g]?).map (·.type)=some t) (ht:P.underlying t=some (.array n e)) (he:P.underlying e=some (.int k)) (hce:P.cellsOf e=1) (hct:P.cellsOf t=n)
  (hm:(name,Lib.tabData k zs)∈laid) (h:laidMet P laid W):Lib.TabIs P W name k zs:=by
 obtain⟨ps,hl,_⟩:=h
 obtain⟨g',t',cs,fuel,p,hg',ht',hvar,hd⟩:=laid_has laid ps hl hm
 obtain rfl:=Option.some.inj (hg.symm.trans hg')
 obtain rfl:=Option.some.inj (hty.symm.trans ht')
 unfold Lib.TabIs
 rw[hvar, ← Lib.cells_of_tab ht he hce hct hd]
theorem pow_data:(Rows.laid_internal_strconv_uint64pow10:DataW Unit)=Lib.tabData .u64 Lib.pow10Tab:=by rfl
theorem tabN_of_laid{W:World}(h:laidMetH Tryz.prog Rows.scoreCaseRow.laid W):TabN W:=by
 rw[Go.MakeChecks.laidMetH_plain _ _ _ (by rfl)]at h
 refine tabIs_of_mem (g:=3) (t:=244) (e:=220) (n:=20) (by kernel_rfl) (by kernel_rfl) Tryz.underlying244 Tryz.underlying220 (by kernel_rfl) (by kernel_rfl) ?_ h
 rw[<-pow_data]
 exact List.mem_cons_of_mem _ (List.mem_cons_of_mem _ (List.mem_cons_self ..))
end Go.Proofs.YtannhfnpigiggaaGreatDoor
