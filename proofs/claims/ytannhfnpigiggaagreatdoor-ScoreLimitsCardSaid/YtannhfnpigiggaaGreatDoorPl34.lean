import Derived.Test.YtannhfnpigiggaaGreatDoorPl33
import Derived.Test.YtannhfnpigiggaaGreatDoorPl20
import Derived.Great.BuildSlice
namespace Go.Proofs.YtannhfnpigiggaaGreatDoor
set_option linter.unusedSimpArgs false
set_option linter.unusedVariables false
open Go.RowKit
def emFn(e:Em):Nat->Bool:=if e.isStar then eZ else setF e.chars
def eV(e:Em):List Value:=blk e.isStar (emFn e)
def rowsE(es:List Em):List Value:=es.flatMap eV
theorem rowsE_snoc(es:List Em)(e:Em):rowsE es++eV e=rowsE (es ++ [e]):=by simp[rowsE]
theorem el_E:Elem Tryz.prog 135 176 129 129:=Elem.of Tryz.underlying135 info_E (blk_size _ _) (by omega)
section
variable {ops : Array Oper} {rest : List Oper} {op : Oper} {a : Act} {w : World} {Q : Exit → Act → World → Prop}
theorem wpList_buildE(hgd:op.guard=none)(x:Operand)(ho:op.op=.buildSlice 135 1 #[(0,x)]){s:Bool}{f:Nat->Bool}{V:Value}(hV:Hid (V=Value.agg (blk s f).toArray))(hx:a.eval x=V)
  (h:wpList Tryz.prog ops Q rest (a.put op.dst (.slice (some ⟨w.heap.size,0,none⟩) 1 1)) (w.alloc (.cells (blk s f).toArray 176))):wpList Tryz.prog ops Q (op::rest) a w:=by
 obtain⟨i,hi,hz0,hz1,hz2⟩:=info_parts info_E
 refine wpList_buildSlice hgd _ _ 1 _ ho _ i _ Tryz.underlying135 hi hz0 (by omega) (by omega) ?_ h
 have hf:=Great.fill_whole (s:=129) (by omega) [V] ((Array.range (1*i.size)).map (fun j=>(Value.agg (blk false eZ).toArray).cells[j%(Value.agg (blk false eZ).toArray).cells.size]!)) (fun v hv=>by
  simp only[List.mem_singleton]at hv;subst hv;rw[hV.out];exact blk_size _ _) (by simp[hz1])
 rw[hz1]at hf⊢
 simp only[List.zipIdx_cons,List.zipIdx_nil,List.map_cons,List.map_nil,List.flatMap_cons,List.flatMap_nil,List.append_nil]at hf
 have e:(#[(0,x)].map fun (x:Nat × Operand)=>(x.1,a.eval x.2)).toList=[(0,V)]:=by simp[hx]
 refine Eq.trans (congrArg (Instr.fill _ _) e) (hf.trans ?_)
 rw[hV.out]
 simp[Value.cells]
theorem info_P:(Tryz.prog.info? 137).map (fun i=>(i.zero,i.size,i.bytes))=some (some (.agg #[.string ⟨#[]⟩,.slice none 0 0]),2,40):=by kernel_rfl
theorem size_P(x y:Value):(Tryz.prog.info? 137).map (·.size)=some [x,y].length:=by kernel_rfl
theorem wpList_allocP(hgd:op.guard=none)(ho:op.op=.alloc 137)
  (h:∀W,W.heap[w.heap.size]?=some (.cells #[.string ⟨#[]⟩,.slice none 0 0] 137 (0,0))->Below w.heap.size w W->W.heap.size=w.heap.size+1->wpList Tryz.prog ops Q rest (a.put op.dst (.pointer (some ⟨w.heap.size,0,none⟩))) W):wpList Tryz.prog ops Q (op::rest) a w:=by
 obtain⟨i,hi,hz0,hz1,hz2⟩:=info_parts info_P
 refine wpList_plain hgd fun _ hK=>?_
 have hrun:(Instr.alloc 137 true (.tuple #[])).run Tryz.prog w=.ok (.pointer (some ⟨w.heap.size,0,none⟩)) (w.alloc (.cells #[.string ⟨#[]⟩,.slice none 0 0] 137)):=by
  simp[Instr.alloc,zeroValue,typeInfo,hi,hz0,newVar,newRow,newObj,Value.cells]
  rfl
 unfold Oper.wp execOp
 simp only[ho,hrun,Result.andThen_ok,Sem.run_bind,Sem.run_pure]
 exact hK _ _ (h _ (heap_alloc_new w _) ((Below.refl _ _).alloc (Nat.le_refl _) _) (by simp))
theorem range_heap{W:World}{b:Nat}{x y:Value}{t:TypeId}{fr:Nat × Nat}(h:W.heap[b]?=some (.cells #[x,y] t fr)):W.rangeAt b 0 [x,y]:=fun j v hv=>by
 rw[Nat.zero_add,Lib.cell_of_heap h];simpa using hv
theorem there_heap{W:World}{b:Nat}{x y:Value}{t:TypeId}(h:W.heap[b]?=some (.cells #[x,y] t (0,0))):W.there b 0 2:=fun j hj=>by
 refine⟨?_,Lib.frozen_of_heap h _⟩
 rw[Nat.zero_add,Lib.cell_of_heap h]
 rcases j with _|_|j
 ·rfl
 ·rfl
 ·omega
theorem wpList_loadP(hgd:op.guard=none)(x:Operand)(ho:op.op=.load 137 x){b:Nat}{p q:Value}{t:TypeId}(hE:w.heap[b]?=some (.cells #[p,q] t (0,0)))(hx:a.eval x=.pointer (some ⟨b,0,none⟩))
  (h:wpList Tryz.prog ops Q rest (a.put op.dst (.agg #[p,q])) w):wpList Tryz.prog ops Q (op::rest) a w :=
 wpList_load_mid hgd _ x ho b 0 hx [p,q] _ (range_heap hE) Tryz.underlying137 rfl (size_P _ _) h
theorem set_two{w:World}{b:Nat}{p q x y:Value}{t:TypeId}(h:w.heap[b]?=some (.cells #[p,q] t (0,0))):(w.setCells b 0 [x,y]).heap[b]?=some (.cells #[x,y] t (0,0)):=by
 unfold World.setCells World.setCells World.setCells
 have:=heap_set (i:=1) (heap_set (i:=0) h x) y
 simpa using this
theorem wpList_storeP(hgd:op.guard=none)(x y:Operand)(ho:op.op=.store 137 x y){b:Nat}{p q p' q':Value}{t:TypeId}(hE:w.heap[b]?=some (.cells #[p,q] t (0,0)))(hx:a.eval x=.pointer (some ⟨b,0,none⟩))(hy:a.eval y=.agg #[p',q'])(h1:p'.oneCell'=true)(h2:q'.oneCell'=true)
  (h:∀W,W.heap[b]?=some (.cells #[p',q'] t (0,0))->(∀N,N<=b->Below N w W)->wpList Tryz.prog ops Q rest (a.put op.dst undef) W):wpList Tryz.prog ops Q (op::rest) a w :=
 wpList_store_mid hgd _ x y ho b 0 #[p',q'] hx hy (there_heap hE) (size_P _ _) (by simp[h1,h2]) (h _ (set_two hE) (fun N hN=>below_setCells hN _ _ _ _ (Below.refl _ _)))
end
theorem results_P{P:Program}{fn:Func}{p q r:Tmp}{T:TypeId}{d:TypeDesc}(h:fn.results=#[.cell p T,.tmp q,.tmp r])(tmps:Array Value)(w:World)(b:Nat)(x y v u:Value){t:TypeId}(hE:w.heap[b]?=some (.cells #[x,y] t (0,0)))(hp:tmps.getD p undef=.pointer (some ⟨b,0,none⟩))(hq:tmps.getD q undef=v)(hr:tmps.getD r undef=u)
  (hu:P.underlying T=some d) (hd:d.isRow=true) (hi:(P.info? T).map (·.size)=some [x,y].length):(results fn tmps).run P w=.ok (.tuple #[.agg #[x,y],v,u]) w:=by
 have hp':tmps[p]?.getD undef=.pointer (some ⟨b,0,none⟩):=by simpa using hp
 have hq':tmps[q]?.getD undef=v:=by simpa using hq
 have hr':tmps[r]?.getD undef=u:=by simpa using hr
 have hl:=run_loadVar_mid (P:=P) w b 0 T [x,y] d (range_heap hE) hu hd hi
 simp[results,h,hp',hq',hr',asAddr,hl]
def RPat(w:World)(txt:ByteArray)(es:List Em)(v:Value):Prop := ∃A c,v=.agg #[.string txt,.slice A es.length c]/\Row w A (rowsE es)/\∀bb off,A=some ⟨bb,off,none⟩->∃cur fr,w.heap[bb]?=some (.cells cur 176 fr)
def RPatV(w:World)(s:ByteArray)(x:List Em × Nat × Int)(v:Value):Prop:=(x.2.2=0/\RPat w s x.1 v)\/(x.2.2≠0/\v=.agg #[.string ⟨#[]⟩,.slice none 0 0])
def RCompPost(s:ByteArray)(w:World)(e:Ending)(w':World):Prop := ∃v,e=.returned (.tuple #[v,.int .i64 ((compF (toL s)).2.1:Nat),.int .i64 (compF (toL s)).2.2])/\RPatV w' s (compF (toL s)) v/\Below w.heap.size w w'
theorem rcomp_no{s:ByteArray}{w w':World}{n:Nat}{k:Int}(h:compF (toL s)=([],n,k))(hk:k≠0)(N:Int)(hN:N=n)(hb:Below w.heap.size w w'):RCompPost s w (.returned (.tuple #[.agg #[.string ⟨#[]⟩,.slice none 0 0],.int .i64 N,.int .i64 k])) w':=by
 subst hN
 refine⟨_,by rw[h],?_,hb⟩
 rw[h];exact .inr ⟨hk,rfl⟩
structure RAt(w:World)(s:ByteArray)(es:List Em)(v:Value)(wr:World):Prop where
 res:wr.heap[w.heap.size]?=some (.cells #[.string ⟨#[]⟩,.slice none 0 0] 137 (0,0))
 heap:wr.heap[w.heap.size+1]?=some (.cells #[.string s,v] 137 (0,0))
 own:wr.ownsRow (w.heap.size+2) 176 129 v es.length (rowsE es)
 bel:Below w.heap.size w wr
theorem RAt.away{w wr:World}{s:ByteArray}{es:List Em}{v:Value}(h:RAt w s es v wr)(g:Nat)(hg:v.ownBlock=some g):w.heap.size+2<=g:=(h.own.lt g hg).1
theorem RAt.size{w wr:World}{s:ByteArray}{es:List Em}{v:Value}(h:RAt w s es v wr):w.heap.size+2<=wr.heap.size:=heap_lt h.heap
theorem RAt.later{w wr w1:World}{s:ByteArray}{es:List Em}{v:Value}(h:RAt w s es v wr)(hb:Below wr.heap.size wr w1):RAt w s es v w1 :=
 ⟨(hb.block _ (heap_lt h.res)).trans h.res,(hb.block _ (heap_lt h.heap)).trans h.heap,own_below h.own hb,h.bel.trans (hb.mono h.bel.size)⟩
theorem RAt.push{w wr w1:World}{s:ByteArray}{es:List Em}{v v':Value}{x:Em}{xs:List Value}(h:RAt w s es v wr)(hown:w1.ownsRow (w.heap.size+2) 176 129 v' (es.length+1) (rowsE es++xs))(hx:xs=eV x)(hg:wr.grownBy w1 v.ownBlock) :
  w1.heap[w.heap.size+1]?=some (.cells #[.string s,v] 137 (0,0))/\RAt w s (es ++ [x]) v' (w1.setCell ⟨w.heap.size+1,1,none⟩ v'):=by
 have hh:w1.heap[w.heap.size+1]?=some (.cells #[.string s,v] 137 (0,0)):=(hg.block _ (heap_lt h.heap) (fun e=>by have:=h.away _ e.symm;omega)).trans h.heap
 have h0:w1.heap[w.heap.size]?=some (.cells #[.string ⟨#[]⟩,.slice none 0 0] 137 (0,0)):=(hg.block _ (heap_lt h.res) (fun e=>by have:=h.away _ e.symm;omega)).trans h.res
 refine⟨hh,⟨?_,?_,?_,?_⟩⟩
 ·rw[heap_setCell_other _ _ _ _ (by simp)];exact h0
 ·have:=heap_set (i:=1) hh v'
  simpa using this
 ·have:=ownsRow_setCell_below (a:=⟨w.heap.size+1,1,none⟩) hown (by simp) v'
  rw[hx,rowsE_snoc]at this
  simpa using this
 ·have hs:=h.bel.size
  exact(h.bel.grown hg hs (fun k hk=>by have:=h.away k hk;omega)).setCell (p:=⟨w.heap.size+1,1,none⟩) (by simp) _
theorem RAt.pat{w wr:World}{s:ByteArray}{es:List Em}{v:Value}(h:RAt w s es v wr):RPat wr s es (.agg #[.string s,v]):=by
 have hty:=own_type h.own
 rcases own_form h.own with⟨rfl,h0⟩|⟨g,cap,rfl,hg1,hg2,_,hc⟩
 ·have:es=[]:=List.eq_nil_of_length_eq_zero h0
  subst this
  exact⟨none,0,rfl,Row.nil _ _,fun bb off e=>by cases e⟩
 ·refine⟨_,_,rfl,Row.mk _ _ _ _ (by assumption) (fun j v hv=>by rw[Nat.zero_add];exact hc j v hv),fun bb off e=>?_⟩
  injection e with e;injection e with e _;subst e
  obtain⟨cur,h4⟩:=hty _ rfl
  exact⟨cur,_,h4⟩
theorem rcomp_yes{s:ByteArray}{w wr w':World}{es:List Em}{v:Value}(h:compF (toL s)=(es,0,0))(hc:RAt w s es v wr)(hb:w'.heap.size=wr.heap.size)(hk:∀k,k≠w.heap.size->w'.heap[k]?=wr.heap[k]?)(hB:Below w.heap.size w w'):RCompPost s w (.returned (.tuple #[.agg #[.string s,v],.int .i64 0,.int .i64 0])) w':=by
 refine⟨_,by rw[h];rfl,?_,hB⟩
 rw[h]
 refine .inl ⟨rfl,?_⟩
 have hp:=hc.pat
 have ha:=hc.away
 obtain⟨A,c,h1,h2,h3⟩:=hp
 injection h1 with h1;simp at h1;subst h1
 have hne:∀bb off,A=some ⟨bb,off,none⟩->bb≠w.heap.size:=fun bb off e=>by
  subst e;have:=ha bb rfl;omega
 refine⟨A,c,rfl,?_,fun bb off e=>?_⟩
 ·rcases h2 with h2|⟨bb,off,rfl,hlt,hc⟩
  ·exact .inl h2
  ·exact .inr ⟨bb,off,rfl,by omega,fun j v hv=>by rw[World.cell?_of_block (a:=⟨bb,off+j,none⟩) (hk bb (hne bb off rfl))];exact hc j v hv⟩
 ·obtain⟨cur,fr,h4⟩:=h3 bb off e
  exact⟨cur,fr,(hk bb (hne bb off e)).trans h4⟩
structure XAt(wo W:World)(s:Bool)(f:Nat->Bool):Prop where
 x:EAt W wo.heap.size s f
 bel:Below wo.heap.size wo W
theorem XAt.set{wo W:World}{s:Bool}{f g:Nat->Bool}(h:XAt wo W s f)(k:Nat)(hk:k<128)(v:Bool)(hg:∀j,j<128->upd f k v j=g j):XAt wo (W.setCell ⟨wo.heap.size,1+k,none⟩ (.bool v)) s g :=
 ⟨(h.x.set k hk v).congr hg,h.bel.setCell (p:=⟨wo.heap.size,1+k,none⟩) (Nat.le_refl _) _⟩
theorem XAt.set0{wo W:World}{s:Bool}{f:Nat->Bool}(h:XAt wo W s f)(v:Bool):XAt wo (W.setCell ⟨wo.heap.size,0,none⟩ (.bool v)) v f :=
 ⟨h.x.set0 v,h.bel.setCell (p:=⟨wo.heap.size,0,none⟩) (Nat.le_refl _) _⟩
def anyF(q:Nat):Nat->Bool:=fun j=>decide (j<q)&&isChar (UInt8.ofNat j)
theorem anyF_zero(j:Nat)(hj:j<128):eZ j=anyF 0 j:=by simp[anyF,eZ]
theorem anyF_step(q j:Nat)(hj:j<128):upd (anyF q) q (isChar (UInt8.ofNat q)) j=anyF (q+1) j:=by
 unfold upd anyF
 by_cases h:j=q
 ·subst h;simp
 ·rw[if_neg h]
  have:decide (j<q)=decide (j<q+1):=by rw[decide_eq_decide];omega
  rw[this]
theorem anyF_all(j:Nat)(hj:j<128):anyF 128 j=setF nameC j:=by
 unfold anyF setF
 rw[nameC_has];simp[hj]
theorem lit_set(c:UInt8)(j:Nat)(hj:j<128):upd eZ c.toNat true j=setF [c] j:=by
 exact setF_snoc [] c j hj
theorem eV_star:blk true eZ=eV .star:=rfl
theorem eV_any{f:Nat->Bool}(h:∀j,j<128->f j=setF nameC j):blk false f=eV .single:=blk_congr _ h
theorem eV_cls{X:Bs}{f:Nat->Bool}(h:∀j,j<128->f j=setF X j):blk false f=eV (.cls X):=blk_congr _ h
end Go.Proofs.YtannhfnpigiggaaGreatDoor
