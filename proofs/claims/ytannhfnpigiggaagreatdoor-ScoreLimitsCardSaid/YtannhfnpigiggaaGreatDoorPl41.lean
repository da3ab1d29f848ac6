import Derived.Test.YtannhfnpigiggaaGreatDoorPl32
import Derived.Test.YtannhfnpigiggaaGreatDoorPl40
namespace Go.Proofs.YtannhfnpigiggaaGreatDoor
set_option linter.unusedSimpArgs false
set_option linter.unusedVariables false
open Go.RowKit
def ruV(r:RuleS)(v:Value):List Value:=(ruleC (ofL r.act) r.amt r.til.isSome (r.til.getD 0:Nat) v).toList
theorem ruV_length(r:RuleS)(v:Value):(ruV r v).length=5:=rfl
def rusV:List RuleS->List Value->List Value
 | r::l,v::vs=>ruV r v++rusV l vs
 | _,_=>[]
theorem rusV_length:∀(l:List RuleS) (vs:List Value),vs.length=l.length->(rusV l vs).length=l.length*5
 | [], [],_=>rfl
 | [],_::_,h=>by cases h
 | _::_, [],h=>by cases h
 | r::l,v::vs,h=>by
  rw[rusV,List.length_append,ruV_length,rusV_length l vs (by simpa using h),List.length_cons];omega
theorem rusV_snoc(r:RuleS)(v:Value):∀(l:List RuleS) (vs:List Value),vs.length=l.length->rusV (l ++ [r]) (vs ++ [v])=rusV l vs++ruV r v
 | [], [],_=>by simp[rusV]
 | [],_::_,h=>by cases h
 | _::_, [],h=>by cases h
 | a::l,u::vs,h=>by
  rw[List.cons_append,List.cons_append,rusV,rusV,rusV_snoc r v l vs (by simpa using h),List.append_assoc]
theorem rusV_get:∀(l:List RuleS) (vs:List Value) (k:Nat) (h1:k<l.length) (h2:k<vs.length) (j:Nat),j<5->(rusV l vs)[k*5+j]?=(ruV l[k] vs[k])[j]?
 | r::l,v::vs,0,h1,h2,j,hj=>by
  rw[rusV,Nat.zero_mul,Nat.zero_add,List.getElem?_append_left (by rw[ruV_length];exact hj)];rfl
 | r::l,v::vs,k+1,h1,h2,j,hj=>by
  have ih:=rusV_get l vs k (by simpa using h1) (by simpa using h2) j hj
  rw[rusV,List.getElem?_append_right (by rw[ruV_length];omega),ruV_length,show(k+1)*5+j-5=k*5+j from by omega,ih]
  rfl
def condW(A:Nat->Prop)(c:Option Cond)(v:Value)(w:World):Prop:=match c with
 | none=>v=.nilIface
 | some c=>CondIn A w c v
theorem condW.keep{A:Nat->Prop}{c:Option Cond}{v:Value}{w w':World}(h:condW A c v w)(hk:KeepA A w w'):condW A c v w':=by
 cases c with
 | none=>exact h
 | some c=>exact CondIn.keep h hk
theorem condW.mono{A B:Nat->Prop}{c:Option Cond}{v:Value}{w:World}(h:condW A c v w)(hs:∀k,A k->B k):condW B c v w:=by
 cases c with
 | none=>exact h
 | some c=>exact CondIn.mono h hs
theorem condW_O{z:Nat}{c:Option Cond}{v:Value}{w:World} : condW (fun k=>z<=k/\k<w.heap.size) c v w↔condO z c v w:=by
 cases c<;>exact Iff.rfl
theorem info_rule:(Tryz.prog.info? 81).map (fun i=>(i.zero,i.size,i.bytes))=some (some (.agg (ruleC ⟨#[]⟩ 0 false 0 .nilIface)),5,56):=by kernel_rfl
structure RlsL(z:Nat)(L:Value)(l:List RuleS)(vs:List Value)(w:World):Prop where
 own:w.ownsRow z 81 5 L l.length (rusV l vs)
 len:vs.length=l.length
 el:∀(i:Nat) (h1:i<l.length) (h2:i<vs.length),condW (fun k=>z<=k/\k<w.heap.size/\L.ownBlock≠some k) l[i].cond vs[i] w
 ok:∀r∈l,RuleOk r
section
variable {z : Nat} {L : Value} {l : List RuleS} {vs : List Value} {w w' : World}
theorem RlsL.below(h:RlsL z L l vs w)(hb:Below w.heap.size w w'):RlsL z L l vs w' :=
 ⟨own_below h.own hb,h.len,fun i h1 h2=>((h.el i h1 h2).keep (KeepA.below hb (fun k hk=>hk.2.1))).mono fun k hk=>⟨hk.1,Nat.lt_of_lt_of_le hk.2.1 hb.size,hk.2.2⟩,h.ok⟩
theorem RlsL.set{b i:Nat}{u:Value}{cs:Array Value}{t:TypeId}{fr:Nat × Nat}(h:RlsL z L l vs w)(hb:w.heap[b]?=some (.cells cs t fr))(h1:t≠196)(h2:t≠284)(hz:b<z):RlsL z L l vs (w.setCell ⟨b,i,none⟩ u) :=
 ⟨own_oth h.own (fun k e=>heap_set_ne _ (by have:=(h.own.lt k e).1;omega)),h.len,fun j h3 h4=>((h.el j h3 h4).keep (KeepA.set hb h1 h2 (fun hk=>by omega))).mono fun k hk=>⟨hk.1,by simpa using hk.2.1,hk.2.2⟩,h.ok⟩
theorem RlsL.push{L':Value}{r:RuleS}{x:Value}{z1:Nat}(h:RlsL z L l vs w)(hz1:z<=z1)(hx:condO z1 r.cond x w)(hgl:∀g,L.ownBlock=some g->g<z1)(ho:w'.ownsRow z 81 5 L' (l.length+1) (rusV l vs++ruV r x))(hg:w.grownBy w' L.ownBlock)
  (hat:L'.ownBlock=L.ownBlock\/∀g,L'.ownBlock=some g->w.heap.size<=g) (hok:RuleOk r):RlsL z L' (l ++ [r]) (vs ++ [x]) w':=by
 have hrow:∀g,L.ownBlock=some g->∃cur t fr,w.heap[g]?=some (.cells cur t fr)/\t≠196/\t≠284:=fun g e=>by
  obtain⟨cur,hc⟩:=own_type h.own g e
  exact⟨cur,_,_,hc,ruT_ne.1,ruT_ne.2⟩
 have hn:∀k,k<w.heap.size->L.ownBlock≠some k->L'.ownBlock≠some k:=fun k hk hv e=>by
  rcases hat with h1|h1
  ·exact hv (h1 ▸ e)
  ·have:=h1 k e;omega
 have hlen:=h.len
 refine⟨by rw[List.length_append,rusV_snoc _ _ _ _ h.len];exact ho,by simp[h.len],fun i h1 h2=>?_,fun y hy=>?_⟩
 ·by_cases hi:i<l.length
  ·have hi2:i<vs.length:=by rw[h.len];exact hi
   rw[List.getElem_append_left hi,List.getElem_append_left hi2]
   refine((h.el i hi hi2).keep (KeepA.grown hg (fun k hk=>⟨hk.2.1,hk.2.2⟩) hrow)).mono fun k hk=>⟨hk.1,Nat.lt_of_lt_of_le hk.2.1 hg.size,hn k hk.2.1 hk.2.2⟩
  ·have h1':i=l.length:=by simp at h1;omega
   subst h1'
   have e1:(l ++ [r])[l.length]=r:=by simp
   have e2:(vs ++ [x])[l.length]'h2=x:=by
    rw[List.getElem_append_right (by omega)];simp[hlen]
   rw[e1,e2]
   refine((condW_O.2 hx).keep (KeepA.grown hg (fun k hk=>⟨hk.2,fun e=>by have:=hgl k e;omega⟩) hrow)).mono fun k hk=>⟨by omega,Nat.lt_of_lt_of_le hk.2 hg.size,hn k hk.2 (fun e=>by have:=hgl k e;omega)⟩
 ·rcases List.mem_append.1 hy with hy|hy
  ·exact h.ok y hy
  ·simp only[List.mem_cons,List.not_mem_nil,or_false]at hy
   rw[hy];exact hok
end
def RulesIn(w:World)(rb:Nat)(l:List RuleS):Prop := ∃A c vs,w.heap[rb]?=some (.cells #[.slice A l.length c] 75 (0,0))/\Row w A (rusV l vs)/\vs.length=l.length/\l.length<=c/\(∀(i:Nat) (h1:i<l.length) (h2:i<vs.length),condO 0 l[i].cond vs[i] w)/\∀r∈l,RuleOk r
theorem RulesIn.below{w w':World}{rb:Nat}{l:List RuleS}(h:RulesIn w rb l)(hb:Below w.heap.size w w'):RulesIn w' rb l:=by
 obtain⟨A,c,vs,h1,h2,h3,hcp,h4,h5⟩:=h
 exact⟨A,c,vs,(hb.block _ (heap_lt h1)).trans h1,h2.below hb,h3,hcp,fun i a b=>condO_below (h4 i a b) hb,h5⟩
theorem RlsL.rules{z:Nat}{L:Value}{l:List RuleS}{vs:List Value}{w:World}{rb:Nat}(h:RlsL z L l vs w)(hb:w.heap[rb]?=some (.cells #[L] 75 (0,0))):RulesIn w rb l:=by
 obtain⟨A,c,rfl,hc,hr⟩:=own_row_cap h.own
 exact⟨A,c,vs,hb,hr,h.len,hc,fun i h1 h2=>condW_O.1 ((h.el i h1 h2).mono fun k hk=>⟨Nat.zero_le _,hk.2.1⟩),h.ok⟩
structure PaPost(x:Except (Nat × Nat × Int) (List RuleS))(w:World)(e:Ending)(w':World):Prop where
 bel:Below w.heap.size w w'
 res:match x with
  | .error f=>e=.returned (.tuple #[.pointer none,.int .i64 (f.1:Int),.int .i64 (f.2.1:Int),.int .i64 f.2.2])
  | .ok l=>∃rb,e=.returned (.tuple #[.pointer (some ⟨rb,0,none⟩),.int .i64 0,.int .i64 0,.int .i64 0])/\RulesIn w' rb l/\w.heap.size<=rb
theorem PaPost.err{x:Except (Nat × Nat × Int) (List RuleS)}{w w':World}{i c:Nat}{er:Int}(hx:x=.error (i,c,er))(hb:Below w.heap.size w w'){vi:Int}(hi:vi=(i:Int)):PaPost x w (.returned (.tuple #[.pointer none,.int .i64 vi,.int .i64 (c:Int),.int .i64 er])) w':=by
 subst hx hi;exact⟨hb,rfl⟩
attribute [local go_sem] run_store
attribute [local go_sem ↓] wp_load_in
abbrev outC(o:OutS):Array Value:=#[.int .i64 o.score,.bool o.killed,.bool o.watched,.int .i64 o.applied]
def noOut:OutS:=⟨0,false,false,0⟩
theorem out_ret{Q:Ending->World->Prop}{W:World}{r:Nat}{o:OutS}{T:Array Value}(hb:W.heap[r]?=some (.cells (outC o) 39 (0,0)))(t4:T[4]?=some (.pointer (some ⟨r,0,none⟩)))(hQ:Q (.returned (.agg (outC o))) W) :
  bodyPost Tryz.prog Tryz.f17 Q .ret { tmps:=T,defers := [] } W:=by
 have c0:W.cell? ⟨r,0,none⟩=some (.int .i64 o.score):=by rw[Lib.cell_of_heap hb];rfl
 have c1:W.cell? ⟨r,1,none⟩=some (.bool o.killed):=by rw[Lib.cell_of_heap hb];rfl
 have c2:W.cell? ⟨r,2,none⟩=some (.bool o.watched):=by rw[Lib.cell_of_heap hb];rfl
 have c3:W.cell? ⟨r,3,none⟩=some (.int .i64 o.applied):=by rw[Lib.cell_of_heap hb];rfl
 refine bodyPost_ret (v:=.agg (outC o)) ?_ rfl hQ
 simp[results,Tryz.f17,go_sem,t4,c0,c1,c2,c3]
structure RtAt(w:World)(IC:Array Value)(o:OutS)(wr:World):Prop where
 inp:wr.heap[w.heap.size]?=some (.cells IC 26 (0,0))
 res:wr.heap[w.heap.size+1]?=some (.cells (outC noOut) 39 (0,0))
 loc:wr.heap[w.heap.size+1+1]?=some (.cells (outC o) 39 (0,0))
 bel:Below w.heap.size w wr
section
variable {w wr wx : World} {IC : Array Value} {o : OutS}
theorem RtAt.below(h:RtAt w IC o wr)(hb:Below wr.heap.size wr wx):RtAt w IC o wx :=
 ⟨(hb.block _ (heap_lt h.inp)).trans h.inp,(hb.block _ (heap_lt h.res)).trans h.res,(hb.block _ (heap_lt h.loc)).trans h.loc,h.bel.trans (hb.mono h.bel.size)⟩
theorem RtAt.set(h:RtAt w IC o wr){i:Nat}{v:Value}{o':OutS}(hc:(outC o).setIfInBounds i v=outC o'):RtAt w IC o' (wr.setCell ⟨w.heap.size+1+1,i,none⟩ v) :=
 ⟨(heap_set_ne _ (by omega)).trans h.inp,(heap_set_ne _ (by omega)).trans h.res,by rw[<-hc];exact heap_set h.loc _,h.bel.setCell (p:=⟨w.heap.size+1+1,i,none⟩) (by simp only;omega) v⟩
theorem RtAt.cells(h:RtAt w IC o wr):wr.cell? ⟨w.heap.size+1+1,0,none⟩=some (.int .i64 o.score)/\wr.cell? ⟨w.heap.size+1+1,1,none⟩=some (.bool o.killed)/\wr.cell? ⟨w.heap.size+1+1,2,none⟩=some (.bool o.watched)/\wr.cell? ⟨w.heap.size+1+1,3,none⟩=some (.int .i64 o.applied) ∧
  wr.frozen? ⟨w.heap.size+1+1,0,none⟩=false/\wr.frozen? ⟨w.heap.size+1+1,1,none⟩=false/\wr.frozen? ⟨w.heap.size+1+1,2,none⟩=false/\wr.frozen? ⟨w.heap.size+1+1,3,none⟩=false :=
 ⟨by rw[Lib.cell_of_heap h.loc];rfl,by rw[Lib.cell_of_heap h.loc];rfl,by rw[Lib.cell_of_heap h.loc];rfl,by rw[Lib.cell_of_heap h.loc];rfl,Lib.frozen_of_heap h.loc 0,Lib.frozen_of_heap h.loc 1,Lib.frozen_of_heap h.loc 2,Lib.frozen_of_heap h.loc 3⟩
theorem RtAt.rcells(h:RtAt w IC o wr):wr.cell? ⟨w.heap.size+1,0,none⟩=some (.int .i64 0)/\wr.cell? ⟨w.heap.size+1,1,none⟩=some (.bool false)/\wr.cell? ⟨w.heap.size+1,2,none⟩=some (.bool false)/\wr.cell? ⟨w.heap.size+1,3,none⟩=some (.int .i64 0) ∧
  wr.frozen? ⟨w.heap.size+1,0,none⟩=false/\wr.frozen? ⟨w.heap.size+1,1,none⟩=false/\wr.frozen? ⟨w.heap.size+1,2,none⟩=false/\wr.frozen? ⟨w.heap.size+1,3,none⟩=false :=
 ⟨by rw[Lib.cell_of_heap h.res];rfl,by rw[Lib.cell_of_heap h.res];rfl,by rw[Lib.cell_of_heap h.res];rfl,by rw[Lib.cell_of_heap h.res];rfl,Lib.frozen_of_heap h.res 0,Lib.frozen_of_heap h.res 1,Lib.frozen_of_heap h.res 2,Lib.frozen_of_heap h.res 3⟩
theorem RtAt.put(h:RtAt w IC o wr):((((wr.setCell ⟨w.heap.size+1,0,none⟩ (.int .i64 o.score)).setCell ⟨w.heap.size+1,1,none⟩ (.bool o.killed)).setCell ⟨w.heap.size+1,2,none⟩ (.bool o.watched)).setCell ⟨w.heap.size+1,3,none⟩ (.int .i64 o.applied)).heap[w.heap.size+1]?=some (.cells (outC o) 39 (0,0)) ∧
  Below w.heap.size w ((((wr.setCell ⟨w.heap.size+1,0,none⟩ (.int .i64 o.score)).setCell ⟨w.heap.size+1,1,none⟩ (.bool o.killed)).setCell ⟨w.heap.size+1,2,none⟩ (.bool o.watched)).setCell ⟨w.heap.size+1,3,none⟩ (.int .i64 o.applied)):=by
 have b0:=heap_set h.res (i:=0) (.int .i64 o.score)
 have b1:=heap_set b0 (i:=1) (.bool o.killed)
 have b2:=heap_set b1 (i:=2) (.bool o.watched)
 have b3:=heap_set b2 (i:=3) (.int .i64 o.applied)
 exact⟨b3,(((h.bel.setCell (p:=⟨w.heap.size+1,0,none⟩) (Nat.le_succ _) _).setCell (p:=⟨w.heap.size+1,1,none⟩) (Nat.le_succ _) _).setCell (p:=⟨w.heap.size+1,2,none⟩) (Nat.le_succ _) _).setCell (p:=⟨w.heap.size+1,3,none⟩) (Nat.le_succ _) _⟩
end
theorem RtAt.new(w:World)(IC:Array Value):RtAt w IC noOut (((w.alloc (.cells IC 26)).alloc (.cells #[.int .i64 0,.bool false,.bool false,.int .i64 0] 39)).alloc (.cells #[.int .i64 0,.bool false,.bool false,.int .i64 0] 39)):=by
 show RtAt w IC noOut (((w.alloc (.cells IC 26)).alloc (.cells (outC noOut) 39)).alloc (.cells (outC noOut) 39))
 obtain⟨q0,q1,q2,q3⟩:=two_new w (.cells IC 26) (.cells (outC noOut) 39)
 have hb:=alloc_bel ((w.alloc (.cells IC 26)).alloc (.cells (outC noOut) 39)) (.cells (outC noOut) 39)
 exact⟨(hb.block _ (by omega)).trans q0,(hb.block _ (by omega)).trans q1,by rw[show w.heap.size+1+1=((w.alloc (.cells IC 26)).alloc (.cells (outC noOut) 39)).heap.size from q3.symm];exact heap_alloc_new _ _,q2.trans (hb.mono q2.size)⟩
def RaP(o:OutS)(w:World)(e:Ending)(w':World):Prop:=e=.returned (.agg (outC o))/\Below w.heap.size w w'
theorem rus_at{w:World}{A:Option Addr}{l:List RuleS}{vs:List Value}(hr:Row w A (rusV l vs))(hl:vs.length=l.length){k:Nat}(h1:k<l.length)(h2:k<vs.length):∃bb off,A=some ⟨bb,off,none⟩/\bb<w.heap.size/\w.cell? ⟨bb,off+k*5,none⟩=some (.string (ofL l[k].act))/\w.cell? ⟨bb,off+k*5+1,none⟩=some (.int .i64 l[k].amt) ∧
  w.cell? ⟨bb,off+k*5+2,none⟩=some (.bool l[k].til.isSome)/\w.cell? ⟨bb,off+k*5+3,none⟩=some (.int .i64 (l[k].til.getD 0:Nat))/\w.cell? ⟨bb,off+k*5+4,none⟩=some vs[k]:=by
 rcases hr with h0|⟨bb,o,e,hlt,hc⟩
 ·have:=rusV_length l vs hl
  rw[h0]at this;simp at this;omega
 ·refine⟨bb,o,e,hlt,?_,?_,?_,?_,?_⟩
  ·exact hc (k*5+0) _ (by rw[rusV_get l vs k h1 h2 0 (by omega)];rfl)
  ·rw[Nat.add_assoc];exact hc (k*5+1) _ (by rw[rusV_get l vs k h1 h2 1 (by omega)];rfl)
  ·rw[Nat.add_assoc];exact hc (k*5+2) _ (by rw[rusV_get l vs k h1 h2 2 (by omega)];rfl)
  ·rw[Nat.add_assoc];exact hc (k*5+3) _ (by rw[rusV_get l vs k h1 h2 3 (by omega)];rfl)
  ·rw[Nat.add_assoc];exact hc (k*5+4) _ (by rw[rusV_get l vs k h1 h2 4 (by omega)];rfl)
theorem condO_one{z:Nat}{c:Option Cond}{v:Value}{w:World}(h:condO z c v w):v.oneCell'=true:=by
 cases c with
 | none=>obtain rfl:v=.nilIface:=h;rfl
 | some c=>exact CondIn.one h
def doR(r:RuleS)(o:OutS):OutS :=
 if r.act=yPlus then { o with score:=o.score+r.amt,applied:=o.applied+1 }
 else if r.act=yMinus then { o with score:=o.score-r.amt,applied:=o.applied+1 }
 else if r.act=yEq then { o with score:=r.amt,applied:=o.applied+1 }
 else if r.act=wKill then { o with killed:=true,applied:=o.applied+1 }
 else if r.act=wWatch then { o with watched:=true,applied:=o.applied+1 }
 else { o with applied:=o.applied+1 }
theorem rateG_no{x:InS}{r:RuleS}{l:List RuleS}{o:OutS}(h:appS r x=false):rateG x (r::l) o=rateG x l o:=by
 conv=>lhs;unfold rateG
 rw[h];rfl
theorem rateG_yes{x:InS}{r:RuleS}{l:List RuleS}{o:OutS}(h:appS r x=true)(hs:r.act≠wStop):rateG x (r::l) o=rateG x l (doR r o):=by
 conv=>lhs;unfold rateG
 rw[h]
 unfold doR
 simp only[Bool.not_true,Bool.false_eq_true,if_false,if_neg hs]
 repeat' split
 all_goals rfl
theorem rateG_stop{x:InS}{r:RuleS}{l:List RuleS}{o:OutS}(h:appS r x=true)(hs:r.act=wStop):rateG x (r::l) o=doR r o:=by
 conv=>lhs;unfold rateG
 rw[h]
 unfold doR
 rw[hs]
 rfl
attribute [local go_sem] run_store
attribute [local go_sem ↓] wp_load_in
set_option maxHeartbeats 16000000 in
set_option maxRecDepth 100000 in
theorem sc_rate{x:InS}{IC:Array Value}{G:Option Addr}{gc:Nat}(hx:InV x IC G gc){w:World}(hsh:w.ShapedOpen Tryz.prog)(hg:Row w G (strsL x.groups)){rb:Nat}{l:List RuleS}(hr:RulesIn w rb l)(hl:l.length<=200) :
  Calls Tryz.prog 17 #[.pointer (some ⟨rb,0,none⟩),.agg IC] w (RaP (rateF l x) w):=by
 have HR0:=Lib.hid (RtAt.new w IC)
 have HX:=Lib.hid hx
 have HSH:=Lib.hid hsh
 have HG:=Lib.hid hg
 obtain⟨A,c,vs,hbx,hrow,hlen,hcap,hcond,hok⟩:=hr
 have HROW:=Lib.hid hrow
 have HLEN:=Lib.hid hlen
 have HCO:=Lib.hid hcond
 have HOK:=Lib.hid hok
 have HBX:=Lib.hid hbx
 have hrb:=heap_lt hbx
 have HSZ:=Lib.hid hx.size
 obtain⟨R,hR⟩:∃R,rateF l x=R:=⟨_,rfl⟩
 have HRR:=Lib.hid (show R=rateG x (l.drop 0) noOut from by rw[<-hR,List.drop_zero];rfl)
 rw[hR]
 clear hx hsh hg hbx hrow hlen hcond hok hR
 go_enter Tryz.func17,Tryz.ntmps17
 go_upto_region 2 with fail
 have c0:(((w.alloc (.cells IC 26)).alloc (.cells #[.int .i64 0,.bool false,.bool false,.int .i64 0] 39)).alloc (.cells #[.int .i64 0,.bool false,.bool false,.int .i64 0] 39)).cell? ⟨rb,0,none⟩=some (.slice A l.length c):=by
  rw[Lib.cell_of_heap ((HR0.out.bel.block _ hrb).trans HBX.out)];rfl
 generalize ((w.alloc (.cells IC 26)).alloc (.cells #[.int .i64 0,.bool false,.bool false,.int .i64 0] 39)).alloc (.cells #[.int .i64 0,.bool false,.bool false,.int .i64 0] 39)=W0 at *
 go_wp2_with fail
 go_loopw [16] (fun v16 wr=>∃(k:Nat) (o:OutS),k<=l.length/\v16=.int .i64 (k:Int)/\R=rateG x (l.drop k) o/\RtAt w IC o wr ∧ -(10000*(k:Int))<=o.score/\o.score<=10000*(k:Int)/\0<=o.applied/\o.applied<=(k:Int)) (fun v16 _=>l.length-(intOf v16).toNat)
 case atStart=>exact⟨0,noOut,by omega,rfl,HRR.out,HR0.out,by decide,by decide,by decide,by decide⟩
 case round =>
  obtain⟨k,o,hk,rfl,hrr,hra,hs1,hs2,ha1,ha2⟩:=hrel
  have HRA:=Lib.hid hra
  have HV:=Lib.hid hrr
  obtain⟨wo,rfl⟩:∃wo:World,wo=wr:=⟨_,rfl⟩
  clear hrr hra HR0 HRR
  have k0:(0:Int)<=(k:Int):=by omega
  by_cases hlt:k<l.length
  ·have k1:(k:Int)<(l.length:Int):=by omega
   have hlv:k<vs.length:=by rw[HLEN.out];exact hlt
   obtain⟨bb,off,rfl,hbb,d0,d1,d2,d3,d4⟩:=rus_at (HROW.out.below HRA.out.bel) HLEN.out hlt hlv
   have HD:=Lib.hid (show l.drop k=l[k]::l.drop (k+1) from List.drop_eq_getElem_cons hlt)
   rw[HD.out]at HV
   have HC1:=Lib.hid (condO_below (HCO.out k hlt hlv) HRA.out.bel)
   have hrk:=HOK.out l[k] (List.getElem_mem hlt)
   have hact:=hrk.act
   have ham1:=hrk.amt.1
   have ham2:=hrk.amt.2
   clear hrk HD
   generalize vs[k]=v at *
   generalize l[k]=r at *
   have hv1:=condO_one HC1.out
   obtain⟨AS,hAS⟩:∃AS,ofL r.act=AS:=⟨_,rfl⟩
   have E1:=Lib.hid (act_eq r.act [43])
   have E2:=Lib.hid (act_eq r.act [45])
   have E3:=Lib.hid (act_eq r.act [61])
   have E4:=Lib.hid (act_eq r.act [107,105,108,108])
   have E5:=Lib.hid (act_eq r.act [119,97,116,99,104])
   have E6:=Lib.hid (act_eq r.act [115,116,111,112])
   rw[hAS]at d0 E1 E2 E3 E4 E5 E6
   clear hAS
   go_upto_region 7 with fail
   have HB3:=Lib.hid (alloc_bel wo (.cells (ruleC AS r.amt r.til.isSome (r.til.getD 0:Nat) v) 81))
   have HX3:=Lib.hid (heap_alloc_new wo (.cells (ruleC AS r.amt r.til.isSome (r.til.getD 0:Nat) v) 81))
   have HRA3:=Lib.hid (HRA.out.below HB3.out)
   have HC3:=Lib.hid (condO_below HC1.out HB3.out)
   have hpl:wo.heap.size≠w.heap.size+1+1:=by have:=heap_lt HRA.out.loc;omega
   clear d0 d1 d2 d3 d4
   generalize wo.alloc (.cells (ruleC AS r.amt r.til.isSome (r.til.getD 0:Nat) v) 81)=W3 at *
   have HAP:=Lib.hid (sc_applies HX.out (shaped_below HSH.out HRA3.out.bel) (HG.out.below HRA3.out.bel) HC3.out AS r.amt r.til.isSome (r.til.getD 0:Nat))
   generalize wo.heap.size=px at *
   have e0:W3.cell? ⟨px,0,none⟩=some (.string AS):=by rw[Lib.cell_of_heap HX3.out];rfl
   have e1:W3.cell? ⟨px,1,none⟩=some (.int .i64 r.amt):=by rw[Lib.cell_of_heap HX3.out];rfl
   have e2:W3.cell? ⟨px,2,none⟩=some (.bool r.til.isSome):=by rw[Lib.cell_of_heap HX3.out];rfl
   have e3:W3.cell? ⟨px,3,none⟩=some (.int .i64 (r.til.getD 0:Nat)):=by rw[Lib.cell_of_heap HX3.out];rfl
   have e4:W3.cell? ⟨px,4,none⟩=some v:=by rw[Lib.cell_of_heap HX3.out];rfl
   obtain⟨oi,ei⟩:=in_of (in_load HRA3.out.inp HSZ.out)
   have hwx:=heap_lt HX3.out
   rcases hap:appS r x with _|_
   ·rw[hap]at HAP
    have HNX:=Lib.hid (show R=rateG x (l.drop (k+1)) o from by rw[HV.out,rateG_no hap])
    clear hap
    go_wp2_with ((go_at_call 32;(with_reducible refine HAP.out.mono ?_);rintro e w4 ⟨rfl,hb4⟩;have HRA4:=Lib.hid (HRA3.out.below hb4);clear hb4))
    go_roundw
    case rel=>exact⟨k+1,o,by omega,by go_num,HNX.out,HRA4.out,by omega,by omega,by omega,by omega⟩
    case measure=>simp[intOf]<;>omega
   ·rw[hap]at HAP
    have HYES:=Lib.hid hap
    clear hap
    go_upto_region 8 with((go_at_call 32;(with_reducible refine HAP.out.mono ?_);rintro e w4 ⟨rfl,hb4⟩;have HRA4:=Lib.hid (HRA3.out.below hb4);have HX4:=Lib.hid ((hb4.block _ hwx).trans HX3.out);clear hb4))
    clear e0 e1 e2 e3 e4 oi ei
    have f0:w4.cell? ⟨px,0,none⟩=some (.string AS):=by rw[Lib.cell_of_heap HX4.out];rfl
    have f1:w4.cell? ⟨px,1,none⟩=some (.int .i64 r.amt):=by rw[Lib.cell_of_heap HX4.out];rfl
    obtain⟨sc,ki,wa,ap⟩:=o
    simp only at hs1 hs2 ha1 ha2
    obtain⟨l0,l1,l2,l3,y0,y1,y2,y3⟩:=HRA4.out.cells
    have HM:=Lib.hid hact
    simp only[actsL,List.mem_cons,List.not_mem_nil,or_false]at hact
    obtain⟨m,hm⟩:∃m,r.amt=m:=⟨_,rfl⟩
    have HMM:=Lib.hid hm
    rw[hm]at f1 ham1 ham2
    clear hm
    have HS1:=Lib.hid (HRA4.out.set (i:=3) (v:=.int .i64 (ap+1)) (o':=⟨sc,ki,wa,ap+1⟩) rfl)
    have HX5:=Lib.hid ((heap_set_ne (w:=w4) (p:=w.heap.size+1+1) (i:=3) (.int .i64 (ap+1)) hpl).trans HX4.out)
    go_upto_region 9 with fail
    clear f0 f1 l0 l1 l2 l3 y0 y1 y2 y3
    generalize w4.setCell ⟨w.heap.size+1+1,3,none⟩ (.int .i64 (ap+1))=w5 at *
    have f0:w5.cell? ⟨px,0,none⟩=some (.string AS):=by rw[Lib.cell_of_heap HX5.out];rfl
    have f1:w5.cell? ⟨px,1,none⟩=some (.int .i64 m):=by rw[Lib.cell_of_heap HX5.out];show some (Value.int .i64 r.amt)=_;rw[HMM.out]
    obtain⟨l0,l1,l2,l3,y0,y1,y2,y3⟩:=HS1.out.cells
    simp only at l0 l1 l2 l3
    rcases hact with hA|hA|hA|hA|hA|hA
    ·have HNX:=Lib.hid (show R=rateG x (l.drop (k+1)) ⟨sc+m,ki,wa,ap+1⟩ from by
      rw[HV.out,rateG_yes HYES.out (by rw[hA];decide)]
      congr 1
      unfold doR
      rw[hA,HMM.out]
      rfl)
     have t1:(AS.toList == [43])=true:=by rw[E1.out,hA];decide
     have t2:(AS.toList == [45])=false:=by rw[E2.out,hA];decide
     have t3:(AS.toList == [61])=false:=by rw[E3.out,hA];decide
     have t4:(AS.toList == [107,105,108,108])=false:=by rw[E4.out,hA];decide
     have t5:(AS.toList == [119,97,116,99,104])=false:=by rw[E5.out,hA];decide
     have t6:(AS.toList == [115,116,111,112])=false:=by rw[E6.out,hA];decide
     have HS2:=Lib.hid (HS1.out.set (i:=0) (v:=.int .i64 (sc+m)) (o':=⟨sc+m,ki,wa,ap+1⟩) rfl)
     clear hA HM
     go_wp2_with fail
     go_roundw
     case rel=>exact⟨k+1,⟨sc+m,ki,wa,ap+1⟩,by omega,by go_num,HNX.out,HS2.out,by simp only;omega,by simp only;omega,by simp only;omega,by simp only;omega⟩
     case measure=>simp[intOf]<;>omega
    ·have HNX:=Lib.hid (show R=rateG x (l.drop (k+1)) ⟨sc-m,ki,wa,ap+1⟩ from by
      rw[HV.out,rateG_yes HYES.out (by rw[hA];decide)]
      congr 1
      unfold doR
      rw[hA,HMM.out]
      rfl)
     have t1:(AS.toList == [43])=false:=by rw[E1.out,hA];decide
     have t2:(AS.toList == [45])=true:=by rw[E2.out,hA];decide
     have t3:(AS.toList == [61])=false:=by rw[E3.out,hA];decide
     have t4:(AS.toList == [107,105,108,108])=false:=by rw[E4.out,hA];decide
     have t5:(AS.toList == [119,97,116,99,104])=false:=by rw[E5.out,hA];decide
     have t6:(AS.toList == [115,116,111,112])=false:=by rw[E6.out,hA];decide
     have HS2:=Lib.hid (HS1.out.set (i:=0) (v:=.int .i64 (sc-m)) (o':=⟨sc-m,ki,wa,ap+1⟩) rfl)
     clear hA HM
     go_wp2_with fail
     go_roundw
     case rel=>exact⟨k+1,⟨sc-m,ki,wa,ap+1⟩,by omega,by go_num,HNX.out,HS2.out,by simp only;omega,by simp only;omega,by simp only;omega,by simp only;omega⟩
     case measure=>simp[intOf]<;>omega
    ·have HNX:=Lib.hid (show R=rateG x (l.drop (k+1)) ⟨m,ki,wa,ap+1⟩ from by
      rw[HV.out,rateG_yes HYES.out (by rw[hA];decide)]
      congr 1
      unfold doR
      rw[hA,HMM.out]
      rfl)
     have t1:(AS.toList == [43])=false:=by rw[E1.out,hA];decide
     have t2:(AS.toList == [45])=false:=by rw[E2.out,hA];decide
     have t3:(AS.toList == [61])=true:=by rw[E3.out,hA];decide
     have t4:(AS.toList == [107,105,108,108])=false:=by rw[E4.out,hA];decide
     have t5:(AS.toList == [119,97,116,99,104])=false:=by rw[E5.out,hA];decide
     have t6:(AS.toList == [115,116,111,112])=false:=by rw[E6.out,hA];decide
     have HS2:=Lib.hid (HS1.out.set (i:=0) (v:=.int .i64 m) (o':=⟨m,ki,wa,ap+1⟩) rfl)
     clear hA HM
     go_wp2_with fail
     go_roundw
     case rel=>exact⟨k+1,⟨m,ki,wa,ap+1⟩,by omega,by go_num,HNX.out,HS2.out,by simp only;omega,by simp only;omega,by simp only;omega,by simp only;omega⟩
     case measure=>simp[intOf]<;>omega
    ·have HNX:=Lib.hid (show R=rateG x (l.drop (k+1)) ⟨sc,true,wa,ap+1⟩ from by
      rw[HV.out,rateG_yes HYES.out (by rw[hA];decide)]
      congr 1
      unfold doR
      rw[hA,HMM.out]
      rfl)
     have t1:(AS.toList == [43])=false:=by rw[E1.out,hA];decide
     have t2:(AS.toList == [45])=false:=by rw[E2.out,hA];decide
     have t3:(AS.toList == [61])=false:=by rw[E3.out,hA];decide
     have t4:(AS.toList == [107,105,108,108])=true:=by rw[E4.out,hA];decide
     have t5:(AS.toList == [119,97,116,99,104])=false:=by rw[E5.out,hA];decide
     have t6:(AS.toList == [115,116,111,112])=false:=by rw[E6.out,hA];decide
     have HS2:=Lib.hid (HS1.out.set (i:=1) (v:=.bool true) (o':=⟨sc,true,wa,ap+1⟩) rfl)
     clear hA HM
     go_wp2_with fail
     go_roundw
     case rel=>exact⟨k+1,⟨sc,true,wa,ap+1⟩,by omega,by go_num,HNX.out,HS2.out,by simp only;omega,by simp only;omega,by simp only;omega,by simp only;omega⟩
     case measure=>simp[intOf]<;>omega
    ·have HNX:=Lib.hid (show R=rateG x (l.drop (k+1)) ⟨sc,ki,true,ap+1⟩ from by
      rw[HV.out,rateG_yes HYES.out (by rw[hA];decide)]
      congr 1
      unfold doR
      rw[hA,HMM.out]
      rfl)
     have t1:(AS.toList == [43])=false:=by rw[E1.out,hA];decide
     have t2:(AS.toList == [45])=false:=by rw[E2.out,hA];decide
     have t3:(AS.toList == [61])=false:=by rw[E3.out,hA];decide
     have t4:(AS.toList == [107,105,108,108])=false:=by rw[E4.out,hA];decide
     have t5:(AS.toList == [119,97,116,99,104])=true:=by rw[E5.out,hA];decide
     have t6:(AS.toList == [115,116,111,112])=false:=by rw[E6.out,hA];decide
     have HS2:=Lib.hid (HS1.out.set (i:=2) (v:=.bool true) (o':=⟨sc,ki,true,ap+1⟩) rfl)
     clear hA HM
     go_wp2_with fail
     go_roundw
     case rel=>exact⟨k+1,⟨sc,ki,true,ap+1⟩,by omega,by go_num,HNX.out,HS2.out,by simp only;omega,by simp only;omega,by simp only;omega,by simp only;omega⟩
     case measure=>simp[intOf]<;>omega
    ·have HNX:=Lib.hid (show R=⟨sc,ki,wa,ap+1⟩ from by
      rw[HV.out,rateG_stop HYES.out hA]
      unfold doR
      rw[hA]
      rfl)
     have t1:(AS.toList == [43])=false:=by rw[E1.out,hA];decide
     have t2:(AS.toList == [45])=false:=by rw[E2.out,hA];decide
     have t3:(AS.toList == [61])=false:=by rw[E3.out,hA];decide
     have t4:(AS.toList == [107,105,108,108])=false:=by rw[E4.out,hA];decide
     have t5:(AS.toList == [119,97,116,99,104])=false:=by rw[E5.out,hA];decide
     have t6:(AS.toList == [115,116,111,112])=true:=by rw[E6.out,hA];decide
     obtain⟨r0,r1,r2,r3,g0,g1,g2,g3⟩:=HS1.out.rcells
     have HPT:=Lib.hid HS1.out.put
     clear hA HM
     go_wp2_with fail
     exact out_ret (o:=⟨sc,ki,wa,ap+1⟩) HPT.out.1 rfl ⟨by rw[HNX.out],HPT.out.2⟩
  ·have k1:(l.length:Int)<=(k:Int):=by omega
   have HZ:=Lib.hid (show R=o from by rw[HV.out,List.drop_eq_nil_of_le (by omega)];rfl)
   obtain⟨l0,l1,l2,l3,_⟩:=HRA.out.cells
   obtain⟨r0,r1,r2,r3,f0,f1,f2,f3⟩:=HRA.out.rcells
   have HPT:=Lib.hid HRA.out.put
   go_wp2_with fail
   exact out_ret (o:=o) HPT.out.1 rfl ⟨by rw[HZ.out],HPT.out.2⟩
theorem nl_split(s:ByteArray)(w:World)(hsh:w.ShapedOpen Tryz.prog)(hs:s.size<=100000) :
  Calls Tryz.prog 29 #[.string s,.string ⟨#[10]⟩] w fun e w'=>e=.returned (.slice (some ⟨w.heap.size,0,none⟩) (linesM (toL s)).length (linesM (toL s)).length)/\w'=w.alloc (.cells (strsL (linesM (toL s))).toArray 9):=by
 refine(Tryz.strings_Split_shaped s nlS w hsh (by omega) (by decide)).mono ?_
 rintro e w' ⟨rfl,rfl⟩
 exact⟨by rw[<-lines_len],by rw[lines_cells]⟩
theorem dropR_cons{c:UInt8}{r:Bs}(h:blkB c=false):∃m,dropR blkB (c::r)=c::m:=by
 rcases List.eq_nil_or_concat r with rfl|⟨ys,y,rfl⟩
 ·exact⟨[],by have:=dropR_no (l := []) h;simpa using this⟩
 ·rw[List.concat_eq_append]
  by_cases hy:blkB y=true
  ·have e:=dropR_yes (l:=c::ys) hy
   rw[show c::(ys ++ [y])=(c::ys) ++ [y] from rfl,e]
   exact dropR_cons (r:=ys) h
  ·have e:=dropR_no (l:=c::ys) (by simpa using hy:blkB y=false)
   rw[show c::(ys ++ [y])=(c::ys) ++ [y] from rfl,e]
   exact⟨ys ++ [y],rfl⟩
termination_by r.length
decreasing_by simp_all
theorem trim_idle(L:Bs):(trimL blkB L=[]/\idleF L=true)\/∃c m,trimL blkB L=c::m/\idleF L=(c==35):=by
 have hb:blkB=blkS:=rfl
 unfold trimL idleF
 rw[<-hb]
 rcases hd:L.dropWhile blkB with _|⟨c,r⟩
 ·exact .inl ⟨rfl,rfl⟩
 ·have hc:blkB c=false:=by
   have:=List.head?_dropWhile_not blkB L
   rw[hd]at this
   simpa using this
  obtain⟨m,hm⟩:=dropR_cons (r:=r) hc
  exact .inr ⟨c,m,hm,rfl⟩
theorem rulesG_idle{x:Bs}{r:List Bs}{i n:Nat}(h:idleF x=true):rulesG (x::r) i n=rulesG r (i+1) n:=by
 conv=>lhs;unfold rulesG
 rw[if_pos h]
theorem rulesG_bad{x:Bs}{r:List Bs}{i n:Nat}{f:Fl}(h:idleF x=false)(hx:lineF x n=.error f):rulesG (x::r) i n=.error (i+1,f.1,f.2):=by
 conv=>lhs;unfold rulesG
 rw[if_neg (by simp[h]),hx]
def preR(l:List RuleS)(x:Except (Nat × Nat × Int) (List RuleS)):Except (Nat × Nat × Int) (List RuleS):=match x with
 | .error f=>.error f
 | .ok m=>.ok (l++m)
theorem rulesG_good{x:Bs}{r:List Bs}{i n:Nat}{a:RuleS}(h:idleF x=false)(hx:lineF x n=.ok a)(l:List RuleS):preR l (rulesG (x::r) i n)=preR (l ++ [a]) (rulesG r (i+1) (n+1)):=by
 conv=>lhs;unfold rulesG
 rw[if_neg (by simp[h]),hx]
 cases rulesG r (i+1) (n+1) with
 | error f=>rfl
 | ok m=>simp[preR]
theorem preR_nil(x:Except (Nat × Nat × Int) (List RuleS)):preR [] x=x:=by cases x<;>rfl
structure PaAt(w:World)(ls:List Bs)(l:List RuleS)(wr:World):Prop where
 st:∃L vs,wr.heap[w.heap.size]?=some (.cells #[L] 75 (0,0))/\RlsL (w.heap.size+2) L l vs wr
 sp:wr.heap[w.heap.size+1]?=some (.cells (strsL ls).toArray 9 (0,0))
 bel:Below w.heap.size w wr
 few:l.length<=200
theorem lines_bounds(s:ByteArray)(h:s.size<=65536):(linesM (toL s)).length<=65537/\∀x∈linesM (toL s),x.length<=65536:=by
 have:=splitNa_sum (toL s) []
 rw[toL_length]at this
 exact⟨by show(splitNa (toL s) []).length<=_;omega,fun x hx=>by have:=this.2 x hx;simp at this;omega⟩
attribute [local go_sem] run_store
theorem ln_err{s:ByteArray}{n:Nat}{w:World}{f:Fl}(hs:s.size<=900000)(hn:n<=1000000)(h:lineF (toL s) n=.error f) :
  Calls Tryz.prog 31 #[.string s,.int .i64 (n:Int)] w fun e w'=>e=.returned (.tuple #[.agg (ruleC ⟨#[]⟩ 0 false 0 .nilIface),.int .i64 (f.1:Int),.int .i64 f.2])/\Below w.heap.size w w':=by
 refine(sc_line s n w hs hn).mono fun e w' hp=>?_
 have hr:=hp.res
 rw[h]at hr
 exact⟨hr,hp.bel⟩
theorem ln_ok{s:ByteArray}{n:Nat}{w:World}{r:RuleS}(hs:s.size<=900000)(hn:n<=1000000)(h:lineF (toL s) n=.ok r) :
  Calls Tryz.prog 31 #[.string s,.int .i64 (n:Int)] w fun e w'=>∃v,e=.returned (.tuple #[.agg (ruleC (ofL r.act) r.amt r.til.isSome (r.til.getD 0:Nat) v),.int .i64 0,.int .i64 0])/\condO w.heap.size r.cond v w'/\RuleOk r/\v.oneCell'=true/\Below w.heap.size w w':=by
 refine(sc_line s n w hs hn).mono fun e w' hp=>?_
 have hr:=hp.res
 rw[h]at hr
 obtain⟨v,h1,h2,h3⟩:=hr
 refine⟨v,h1,h2,h3,?_,hp.bel⟩
 cases hc:r.cond with
 | none=>rw[hc]at h2;obtain rfl:v=.nilIface:=h2;rfl
 | some c=>rw[hc]at h2;exact CondIn.one h2
set_option maxHeartbeats 1000000 in
theorem pa_ret{Q:Ending->World->Prop}{W:World}{T:Array Value}{a b c d:Value}(t2:T[2]?=some a)(t3:T[3]?=some b)(t4:T[4]?=some c)(t5:T[5]?=some d)(hQ:Q (.returned (.tuple #[a,b,c,d])) W) :
  bodyPost Tryz.prog Tryz.f11 Q .ret { tmps:=T,defers := [] } W:=by
 refine bodyPost_ret (v:=.tuple #[a,b,c,d]) ?_ rfl hQ
 simp[results,Tryz.f11,go_sem,t2,t3,t4,t5]
set_option maxHeartbeats 16000000 in
set_option maxRecDepth 100000 in
theorem sc_parse (s : ByteArray) (w : World) (hsh : w.ShapedOpen Tryz.prog) : Calls Tryz.prog 11 #[.string s] w (PaPost (parseG (toL s)) w) := by
  have HL := Lib.hid (toL_length s)
  by_cases hs : 65536 < s.size
  · have HV := Lib.hid (show parseG (toL s) = .error (0, 0, 5) from by unfold parseG; rw [if_pos (by rw [HL.out]; exact hs)])
    have hsi : (65536 : Int) < (s.size : Int) := by omega
    clear hsh
    go_enter Tryz.func11, Tryz.ntmps11
    go_wp2_with fail
    exact pa_ret rfl rfl rfl rfl (PaPost.err (c := 0) HV.out (Below.refl _ _) (i := 0) rfl)
  · have hs' : s.size ≤ 65536 := by omega
    have hsi : ¬ (65536 : Int) < (s.size : Int) := by omega
    have HV := Lib.hid (show parseG (toL s) = preR [] (rulesG ((linesM (toL s)).drop 0) 0 0) from by unfold parseG; rw [if_neg (by rw [HL.out]; exact hs), preR_nil, List.drop_zero])
    obtain ⟨hpl, hpx⟩ := lines_bounds s hs'
    have HPX := Lib.hid hpx
    obtain ⟨PG, hPG⟩ : ∃ PG, parseG (toL s) = PG := ⟨_, rfl⟩
    rw [hPG] at HV ⊢
    have HB1 := Lib.hid (alloc_bel w (.cells #[.slice none 0 0] 75))
    have HX1 := Lib.hid (heap_alloc_new w (.cells #[.slice none 0 0] 75))
    have hz1 : (w.alloc (.cells #[.slice none 0 0] 75)).heap.size = w.heap.size + 1 := by simp
    have HSP := Lib.hid (nl_split s _ (shaped_below hsh HB1.out) (by omega))
    clear hs hpx hPG hsh
    go_enter Tryz.func11, Tryz.ntmps11
    go_wp2_with fail
    (with_reducible refine HSP.out.mono ?_)
    rintro e w1 ⟨rfl, rfl⟩
    have HB2 := Lib.hid (alloc_bel (w.alloc (.cells #[.slice none 0 0] 75)) (.cells (strsL (linesM (toL s))).toArray 9))
    have HX2 := Lib.hid (heap_alloc_new (w.alloc (.cells #[.slice none 0 0] 75)) (.cells (strsL (linesM (toL s))).toArray 9))
    have HP0 := Lib.hid (show PaAt w (linesM (toL s)) [] _ from ⟨⟨.slice none 0 0, [], (HB2.out.block _ (heap_lt HX1.out)).trans HX1.out, ⟨World.ownsRow_nil _ _ _ _, rfl, fun i h => by simp at h, by simp⟩⟩, hz1 ▸ HX2.out, HB1.out.trans (HB2.out.mono HB1.out.size), by simp⟩)
    rw [hz1]
    clear HSP HB1 HX1 HB2 HX2 hz1
    generalize (w.alloc (.cells #[.slice none 0 0] 75)).alloc (.cells (strsL (linesM (toL s))).toArray 9) = W at *
    generalize linesM (toL s) = ls at *
    go_wp2_with fail
    go_loopw [2, 20] (fun v2 v20 wr => ∃ (k : Nat) (l : List RuleS), k ≤ ls.length ∧ v2 = .pointer (some ⟨w.heap.size, 0, none⟩) ∧ v20 = .int .i64 (k : Int) ∧ PG = preR l (rulesG (ls.drop k) k l.length) ∧ PaAt w ls l wr) (fun _ v20 _ => ls.length - (intOf v20).toNat)
    case atStart => exact ⟨0, [], by omega, rfl, rfl, HV.out, HP0.out⟩
    case round =>
      obtain ⟨k, l, hk, rfl, rfl, hpg, hpa⟩ := hrel
      have HPG := Lib.hid hpg
      have HPA := Lib.hid hpa
      obtain ⟨wo, rfl⟩ : ∃ wo : World, wo = wr := ⟨_, rfl⟩
      clear hpg hpa HV HP0
      have k0 : (0 : Int) ≤ (k : Int) := by omega
      by_cases hlt : k < ls.length
      · have k1 : (k : Int) < (ls.length : Int) := by omega
        have hxl := HPX.out ls[k] (List.getElem_mem hlt)
        have csp : wo.cell? ⟨w.heap.size + 1, k, none⟩ = some (.string (ofL ls[k])) := by rw [Lib.cell_of_heap HPA.out.sp]; simp [strsL, hlt]
        have HD := Lib.hid (show ls.drop k = ls[k] :: ls.drop (k + 1) from List.drop_eq_getElem_cons hlt)
        rw [HD.out] at HPG
        have HXX := Lib.hid (show toL (ofL ls[k]) = ls[k] from toL_ofL _)
        generalize ls[k] = x at *
        have hXs : (ofL x).size ≤ 65536 := by rw [ofL_size]; exact hxl
        generalize ofL x = X at *
        have HT := Lib.hid (fun wx => asc_trim X wx (by omega))
        rw [HXX.out] at HT
        clear HD
        have hfew := HPA.out.few
        obtain ⟨L, vs, hbox, hrl⟩ := HPA.out.st
        obtain ⟨A, c, hLf⟩ : ∃ A c, L = .slice A l.length c := by obtain ⟨A, c, h, _⟩ := own_row hrl.own; exact ⟨A, c, h⟩
        subst hLf
        have cbx : wo.cell? ⟨w.heap.size, 0, none⟩ = some (.slice A l.length c) := by rw [Lib.cell_of_heap hbox]; rfl
        have hlo := heap_lt hbox
        have hls := heap_lt HPA.out.sp
        have HBX := Lib.hid hbox
        have HRL := Lib.hid hrl
        clear hbox hrl
        rcases trim_idle x with ⟨ht, hid⟩ | ⟨ch, m, ht, hid⟩
        · rw [ht] at HT
          have HNX := Lib.hid (show PG = preR l (rulesG (ls.drop (k + 1)) (k + 1) l.length) from by rw [HPG.out, rulesG_idle hid])
          have hE : (ofL []).toList.isEmpty = true := by rw [ByteArray.toList_eq]; rfl
          clear ht hid
          generalize ofL [] = WS at *
          go_wp2_with ((go_at_call 30; (with_reducible refine (HT.out _).mono ?_); rintro e w' ⟨rfl, rfl⟩))
          go_roundw
          case rel => exact ⟨k + 1, l, by omega, rfl, by go_num, HNX.out, HPA.out⟩
          case measure => simp [intOf] <;> omega
        · rw [ht] at HT
          have hE : (ofL (ch :: m)).toList.isEmpty = false := by rw [ByteArray.toList_eq]; rfl
          have hWz : 0 < (ofL (ch :: m)).size := by rw [ofL_size]; simp
          have HW0 := Lib.hid (show ((ofL (ch :: m))[0]'hWz) = ch from rfl)
          clear ht
          generalize ofL (ch :: m) = WS at *
          rcases h35 : (ch == 35) with _ | _
          · have h35' : ((num (WS[0]'hWz)) == 35) = false := by
              rw [HW0.out, beq_eq_false_iff_ne]
              intro e
              have : ch = 35 := by apply UInt8.toNat_inj.1; simp only [num] at e; show ch.toNat = 35; omega
              rw [this] at h35; cases h35
            have hidF := hid.trans h35
            rcases hln : lineF x l.length with f | r
            · have HV := Lib.hid (show PG = .error (k + 1, f.1, f.2) from by rw [HPG.out, rulesG_bad hidF hln]; rfl)
              have hne : (f.2 == 0) = false := beq_eq_false_iff_ne.2 (nz_line hln)
              have HLN := Lib.hid (ln_err (s := X) (n := l.length) (w := wo) (f := f) (by omega) (by omega) (by rw [HXX.out]; exact hln))
              clear hln h35 hid hidF
              go_wp2_with (first
                | (go_at_call 30; (with_reducible refine (HT.out _).mono ?_); rintro e w' ⟨rfl, rfl⟩)
                | (go_at_call 31; (with_reducible refine HLN.out.mono ?_); rintro e w2 ⟨rfl, hb2⟩; have HB2 := Lib.hid hb2; clear hb2))
              exact pa_ret rfl rfl rfl rfl (PaPost.err HV.out ((HPA.out.bel.trans (HB2.out.mono HPA.out.bel.size)).alloc (Nat.le_trans HPA.out.bel.size HB2.out.size) _) (by simp))
            · have HLN := Lib.hid (ln_ok (s := X) (n := l.length) (w := wo) (r := r) (by omega) (by omega) (by rw [HXX.out]; exact hln))
              have HNX := Lib.hid (show PG = preR (l ++ [r]) (rulesG (ls.drop (k + 1)) (k + 1) (l.length + 1)) from by rw [HPG.out, rulesG_good hidF hln])
              have HN2 := Lib.hid ((lineF_ok hln).1)
              obtain ⟨AS, hAS⟩ : ∃ AS, ofL r.act = AS := ⟨_, rfl⟩
              have HAS := Lib.hid hAS
              rw [hAS] at HLN
              clear hln h35 hid hidF hAS
              go_upto_region 12 with (first
                | (go_at_call 30; (with_reducible refine (HT.out _).mono ?_); rintro e w' ⟨rfl, rfl⟩)
                | (go_at_call 31; (with_reducible refine HLN.out.mono ?_); rintro e w2 ⟨v, rfl, hc2, hok2, hv1, hb2⟩; have HB2 := Lib.hid hb2; have HC2 := Lib.hid hc2; have HOK := Lib.hid hok2; clear hb2 hc2 hok2))
              have HB3 := Lib.hid (alloc_bel w2 (.cells (ruleC AS r.amt r.til.isSome (r.til.getD 0 : Nat) v) 81))
              have HX3 := Lib.hid (heap_alloc_new w2 (.cells (ruleC AS r.amt r.til.isSome (r.til.getD 0 : Nat) v) 81))
              have HBE := Lib.hid (HPA.out.bel.trans ((HB2.out.trans (HB3.out.mono HB2.out.size)).mono HPA.out.bel.size))
              have HC3 := Lib.hid (condO_below HC2.out HB3.out)
              have HRL3 := Lib.hid ((HRL.out.below HB2.out).below HB3.out)
              have HBX3 := Lib.hid ((HB3.out.block _ (Nat.lt_of_lt_of_le hlo HB2.out.size)).trans ((HB2.out.block _ hlo).trans HBX.out))
              have HSP3 := Lib.hid ((HB3.out.block _ (Nat.lt_of_lt_of_le hls HB2.out.size)).trans ((HB2.out.block _ hls).trans HPA.out.sp))
              have hgl := fun g e => (HRL.out.own.lt g e).2
              have HGL := Lib.hid hgl
              have hzz := Nat.le_trans hls HB2.out.size
              have HNR : w2.heap.size ≠ w.heap.size := by omega
              generalize w2.alloc (.cells (ruleC AS r.amt r.til.isSome (r.til.getD 0 : Nat) v) 81) = W3 at *
              have q0 : W3.cell? ⟨w2.heap.size, 0, none⟩ = some (.string AS) := by rw [Lib.cell_of_heap HX3.out]; rfl
              have q1 : W3.cell? ⟨w2.heap.size, 1, none⟩ = some (.int .i64 r.amt) := by rw [Lib.cell_of_heap HX3.out]; rfl
              have q2 : W3.cell? ⟨w2.heap.size, 2, none⟩ = some (.bool r.til.isSome) := by rw [Lib.cell_of_heap HX3.out]; rfl
              have q3 : W3.cell? ⟨w2.heap.size, 3, none⟩ = some (.int .i64 (r.til.getD 0 : Nat)) := by rw [Lib.cell_of_heap HX3.out]; rfl
              have q4 : W3.cell? ⟨w2.heap.size, 4, none⟩ = some v := by rw [Lib.cell_of_heap HX3.out]; rfl
              have q5 : W3.cell? ⟨w.heap.size, 0, none⟩ = some (.slice A l.length c) := by rw [Lib.cell_of_heap HBX3.out]; rfl
              have q6 := heap_lt HX3.out
              have q7 := heap_lt HBX3.out
              have q8 := heap_lt HSP3.out
              have hown := HRL3.out.own
              have aw : (Value.slice A l.length c).ownBlock ≠ some w.heap.size := fun e => by have := (hown.lt _ e).1; omega
              have asp : (Value.slice A l.length c).ownBlock ≠ some (w.heap.size + 1) := fun e => by have := (hown.lt _ e).1; omega
              have HONE := Lib.hid (show ∀ u ∈ [Value.string AS, .int .i64 r.amt, .bool r.til.isSome, .int .i64 (r.til.getD 0 : Nat), v], u.oneCell' = true from by
                intro u hu
                simp only [List.mem_cons, List.not_mem_nil, or_false] at hu
                rcases hu with rfl | rfl | rfl | rfl | rfl <;> first | rfl | exact hv1)
              obtain ⟨i0, hi0, hz0, hz1, hz2⟩ := info_parts info_rule
              clear cbx csp HXX hXs HT hE HW0 h35' HLN HPG hxl
              go_region_law
                ((refine step_append_lies _ (by rfl) _ _ _ (by rfl) (w.heap.size + 2) 81 i0 _ 5 56 Tryz.underlying73 hi0 hz0 hz1 hz2 rfl (by omega) (.slice A l.length c) _ (rusV l vs) (by rfl) ((hown.alloc _).drew)
                    ⟨W3.heap.size, 0, none⟩ 1 1 [Value.string AS, .int .i64 r.amt, .bool r.til.isSome, .int .i64 (r.til.getD 0 : Nat), v] (by rfl) (by rfl) (World.news_of_block (cs := #[Value.string AS, .int .i64 r.amt, .bool r.til.isSome, .int .i64 (r.til.getD 0 : Nat), v]) (t := 81) (fr := (0, 0)) (heap_alloc_new W3 _)) HONE.out
                    (by omega) (by unfold maxLen; omega) (by omega) (by simp; omega) (W3.heap.size + 1) (by simp) ?_
                  intro gg cap w4 hown3 hgrow hat hlt
                  have HB := Lib.hid ((hgrow.block w.heap.size (by simp; omega) (Ne.symm aw)).trans ((Lib.alloc_old W3 _ w.heap.size (by omega)).trans HBX3.out))
                  have hcz : w4.cell? ⟨w.heap.size, 0, none⟩ = some (.slice A l.length c) := by rw [Lib.cell_of_heap HB.out]; rfl
                  have hfz : w4.frozen? ⟨w.heap.size, 0, none⟩ = false := Lib.frozen_of_heap HB.out 0))
              all_goals
                have hgw : W3.grownBy w4 (Value.slice A l.length c).ownBlock := ⟨hgrow.os, hgrow.tape, hgrow.output, Nat.le_trans (by simp) hgrow.size, fun k hk hne => (hgrow.block k (by simp; omega) hne).trans (Lib.alloc_old W3 _ k hk)⟩
                have hp4 := HRL3.out.push (r := r) (x := v) (z1 := wo.heap.size) hls HC3.out HGL.out (by unfold ruV; rw [HAS.out]; exact hown3) hgw (by
                  rcases hat with e | e
                  · exact .inl e.symm
                  · exact .inr (fun g eg => by
                      simp only [Value.ownBlock, Option.some.injEq] at eg
                      omega)) HOK.out
                have hs4 : w4.heap[w.heap.size + 1]? = some (.cells (strsL ls).toArray 9 (0, 0)) := (hgw.block _ q8 (Ne.symm asp)).trans HSP3.out
                have hb4 := HBE.out.grown hgw HBE.out.size (fun g e => by have := (hown.lt g e).1; omega)
                have HPN := Lib.hid (show PaAt w ls (l ++ [r]) (w4.setCell ⟨w.heap.size, 0, none⟩ (.slice (some ⟨gg, 0, none⟩) (l.length + 1) cap)) from
                  ⟨⟨_, vs ++ [v], heap_set HB.out _, hp4.set HB.out (by decide) (by decide) (by omega)⟩, (heap_set_ne _ (by omega)).trans hs4, hb4.setCell (p := ⟨w.heap.size, 0, none⟩) (Nat.le_refl _) _, by have := HN2.out; rw [List.length_append]; simp; omega⟩)
                clear hown3 hgrow hat HB hcz hfz hgw hp4 hs4 hb4 hi0 hz0 hz1 hz2 i0 q0 q1 q2 q3 q4 q5 q6 q7 q8 hown
                go_wp2_with fail
                go_roundw
                case rel => exact ⟨k + 1, l ++ [r], by omega, rfl, by go_num, by rw [List.length_append]; exact HNX.out, HPN.out⟩
                case measure => simp [intOf] <;> omega
          · have h35' : ((num (WS[0]'hWz)) == 35) = true := by
              rw [HW0.out]; have : ch = 35 := by simpa using h35
              subst this; rfl
            have HNX := Lib.hid (show PG = preR l (rulesG (ls.drop (k + 1)) (k + 1) l.length) from by rw [HPG.out, rulesG_idle (hid.trans h35)])
            clear h35 hid
            go_wp2_with ((go_at_call 30; (with_reducible refine (HT.out _).mono ?_); rintro e w' ⟨rfl, rfl⟩))
            go_roundw
            case rel => exact ⟨k + 1, l, by omega, rfl, by go_num, HNX.out, HPA.out⟩
            case measure => simp [intOf] <;> omega
      · have k1 : (ls.length : Int) ≤ (k : Int) := by omega
        have HV := Lib.hid (show PG = .ok l from by rw [HPG.out, List.drop_eq_nil_of_le (by omega)]; simp [rulesG, preR])
        obtain ⟨L, vs, hbox, hrl⟩ := HPA.out.st
        have HRI := Lib.hid (hrl.rules hbox)
        clear hbox hrl
        go_wp2_with fail
        refine pa_ret rfl rfl rfl rfl ⟨HPA.out.bel, ?_⟩
        rw [HV.out]
        exact ⟨w.heap.size, rfl, HRI.out, Nat.le_refl _⟩
end Go.Proofs.YtannhfnpigiggaaGreatDoor
