import Derived.Test.YtannhfnpigiggaaGreatDoorPl19
import Derived.Deep.MidRow
namespace Go.Proofs.YtannhfnpigiggaaGreatDoor
set_option linter.unusedSimpArgs false
set_option linter.unusedVariables false
open Go.RowKit
def blk(s:Bool)(f:Nat->Bool):List Value:=.bool s::(List.range 128).map fun k=>.bool (f k)
theorem blk_len(s:Bool)(f:Nat->Bool):(blk s f).length=129:=by simp[blk]
theorem blk_size(s:Bool)(f:Nat->Bool):(blk s f).toArray.size=129:=by simp[blk_len]
theorem blk_one(s:Bool)(f:Nat->Bool):∀v∈blk s f,v.oneCell'=true:=by
 intro v hv
 simp only[blk,List.mem_cons,List.mem_map]at hv
 rcases hv with rfl|⟨k,_,rfl⟩<;>rfl
theorem blk_all(s:Bool)(f:Nat->Bool):(blk s f).toArray.all (·.oneCell')=true:=all_oneCell_toArray (blk_one s f)
theorem blk_at(s:Bool)(f:Nat->Bool)(k:Nat)(h:k<128):(blk s f)[k+1]?=some (.bool (f k)):=by
 simp[blk,h]
theorem blk_congr(s:Bool){f g:Nat->Bool}(h:∀k,k<128->f k=g k):blk s f=blk s g:=by
 unfold blk
 congr 1
 apply List.map_congr_left
 intro k hk
 rw[h k (List.mem_range.1 hk)]
def upd(f:Nat->Bool)(k:Nat)(v:Bool):Nat->Bool:=fun j=>if j=k then v else f j
structure EAt(w:World)(b:Nat)(s:Bool)(f:Nat->Bool):Prop where
 range:w.rangeAt b 0 (blk s f)
 free:w.there b 0 129
theorem EAt.congr{w:World}{b:Nat}{s:Bool}{f g:Nat->Bool}(h:EAt w b s f)(e:∀k,k<128->f k=g k):EAt w b s g:=⟨by rw[<-blk_congr s e];exact h.range,h.free⟩
theorem EAt.cell{w:World}{b:Nat}{s:Bool}{f:Nat->Bool}(h:EAt w b s f)(k:Nat)(hk:k<128):w.cell? ⟨b,1+k,none⟩=some (.bool (f k)):=by
 have:=h.range (k+1) _ (blk_at s f k hk)
 rw[Nat.zero_add,Nat.add_comm k 1]at this
 exact this
theorem EAt.cell0{w:World}{b:Nat}{s:Bool}{f:Nat->Bool}(h:EAt w b s f):w.cell? ⟨b,0,none⟩=some (.bool s):=h.range 0 _ rfl
theorem EAt.lt{w:World}{b:Nat}{s:Bool}{f:Nat->Bool}(h:EAt w b s f):b<w.heap.size:=World.block_lt_of_cell? w _ h.cell0
theorem EAt.frozen{w:World}{b:Nat}{s:Bool}{f:Nat->Bool}(h:EAt w b s f)(k:Nat)(hk:k<128):w.frozen? ⟨b,1+k,none⟩=false:=by
 have:=(h.free (1+k) (by omega)).2
 rw[Nat.zero_add]at this
 exact this
theorem EAt.frozen0{w:World}{b:Nat}{s:Bool}{f:Nat->Bool}(h:EAt w b s f):w.frozen? ⟨b,0,none⟩=false:=(h.free 0 (by omega)).2
theorem there_set{w:World}{b o n:Nat}(h:w.there b o n)(p:Addr)(v:Value):(w.setCell p v).there b o n:=fun j hj=>by
 obtain⟨h1,h2⟩:=h j hj
 obtain⟨u,hu⟩:=Option.isSome_iff_exists.1 h1
 obtain⟨u',hu'⟩:=cell?_setCell_some (p:=p) (x:=v) hu
 exact⟨by rw[hu'];rfl,by rw[World.frozen?_setCell];exact h2⟩
theorem EAt.set{w:World}{b:Nat}{s:Bool}{f:Nat->Bool}(h:EAt w b s f)(k:Nat)(hk:k<128)(v:Bool):EAt (w.setCell ⟨b,1+k,none⟩ (.bool v)) b s (upd f k v):=by
 refine⟨fun j u hu=>?_,there_set h.free _ _⟩
 rw[Nat.zero_add]
 have hj:j<129:=by have:=(List.getElem?_eq_some_iff.1 hu).1;rwa [blk_len]at this
 by_cases e:j=1+k
 ·subst e
  rw[World.cell?_setCell_same _ _ _ (h.cell k hk)]
  rw[Nat.add_comm 1 k,blk_at _ _ _ hk]at hu
  rw[<-hu];simp[upd]
 ·rw[World.cell?_setCell_other _ _ _ _ (fun e'=>e (by injection e' with _ e' _;omega))]
  cases j with
  | zero=>rw[<-hu];exact h.cell0
  | succ j =>
   rw[blk_at _ _ _ (by omega)]at hu
   rw[Nat.add_comm j 1,h.cell j (by omega), ← hu,upd,if_neg (by omega)]
theorem EAt.set0{w:World}{b:Nat}{s:Bool}{f:Nat->Bool}(h:EAt w b s f)(v:Bool):EAt (w.setCell ⟨b,0,none⟩ (.bool v)) b v f:=by
 refine⟨fun j u hu=>?_,there_set h.free _ _⟩
 rw[Nat.zero_add]
 have hj:j<129:=by have:=(List.getElem?_eq_some_iff.1 hu).1;rwa [blk_len]at this
 cases j with
 | zero=>rw[World.cell?_setCell_same _ _ _ h.cell0, ← hu];rfl
 | succ j =>
  rw[World.cell?_setCell_other _ _ _ _ (fun e'=>by injection e' with _ e' _;omega)]
  rw[blk_at _ _ _ (by omega)]at hu
  rw[Nat.add_comm j 1,h.cell j (by omega), ← hu]
theorem EAt.below{w w':World}{b:Nat}{s:Bool}{f:Nat->Bool}(h:EAt w b s f)(hb:Below w.heap.size w w'):EAt w' b s f :=
 ⟨fun j v hv=>(hb.cell (p:=⟨b,0+j,none⟩) h.lt).trans (h.range j v hv),fun j hj=>⟨by rw[hb.cell (p:=⟨b,0+j,none⟩) h.lt];exact(h.free j hj).1,by rw[hb.frozen (p:=⟨b,0+j,none⟩) h.lt];exact(h.free j hj).2⟩⟩
theorem EAt.other{w:World}{b:Nat}{s:Bool}{f:Nat->Bool}(h:EAt w b s f)(p:Addr)(v:Value)(hne:b≠p.block):EAt (w.setCell p v) b s f :=
 ⟨fun j u hu=>by rw[World.cell?_setCell_other _ _ _ _ (fun e=>hne (by rw[e]))];exact h.range j u hu,there_set h.free _ _⟩
theorem EAt.stored{w:World}{b:Nat}{s s':Bool}{f f':Nat->Bool}(h:EAt w b s f):EAt (w.setCells b 0 (blk s' f')) b s' f' :=
 ⟨World.rangeAt_setCells_same w b 0 _ (by rw[blk_len];exact h.free),World.there_setCells h.free b 0 _⟩
theorem EAt.new(w:World)(T:TypeId)(s:Bool)(f:Nat->Bool):EAt (w.alloc (.cells (blk s f).toArray T)) w.heap.size s f:=by
 have hh:=heap_alloc_new w (.cells (blk s f).toArray T)
 refine⟨fun j v hv=>?_,fun j hj=>⟨?_,Lib.frozen_of_heap hh _⟩⟩
 ·rw[Nat.zero_add,Lib.cell_of_heap hh];simpa using hv
 ·rw[Nat.zero_add,Lib.cell_of_heap hh];simp[blk_len,hj]
theorem below_setCells{N b:Nat}(hN:N<=b):∀(vs:List Value) (o:Nat) (w w':World),Below N w w'->Below N w (w'.setCells b o vs)
 | [],_,_,_,h=>h
 | v::r,o,w,w',h=>below_setCells hN r (o+1) w _ (h.setCell (p:=⟨b,o,none⟩) hN v)
theorem size_setCells(b:Nat):∀(vs:List Value) (o:Nat) (w:World),(w.setCells b o vs).heap.size=w.heap.size
 | [],_,_=>rfl
 | v::r,o,w=>by rw[World.setCells,size_setCells b r];simp
def eZ:Nat->Bool:=fun _=>false
theorem info_E:(Tryz.prog.info? 176).map (fun i=>(i.zero,i.size,i.bytes))=some (some (.agg (blk false eZ).toArray),129,129):=by kernel_rfl
theorem size_E(s:Bool)(f:Nat->Bool):(Tryz.prog.info? 176).map (·.size)=some (blk s f).length:=by rw[blk_len];kernel_rfl
theorem size_E'(s:Bool)(f:Nat->Bool):(Tryz.prog.info? 176).map (·.size)=some (blk s f).toArray.size:=by rw[blk_size];kernel_rfl
section
variable {ops : Array Oper} {rest : List Oper} {op : Oper} {a : Act} {w : World} {Q : Exit → Act → World → Prop}
theorem wpList_allocE(hgd:op.guard=none)(ho:op.op=.alloc 176)
  (h:∀W,EAt W w.heap.size false eZ->Below w.heap.size w W->W.heap.size=w.heap.size+1->wpList Tryz.prog ops Q rest (a.put op.dst (.pointer (some ⟨w.heap.size,0,none⟩))) W):wpList Tryz.prog ops Q (op::rest) a w:=by
 obtain⟨i,hi,hz0,hz1,hz2⟩:=info_parts info_E
 refine wpList_plain hgd fun _ hK=>?_
 have hrun:(Instr.alloc 176 true (.tuple #[])).run Tryz.prog w=.ok (.pointer (some ⟨w.heap.size,0,none⟩)) (w.alloc (.cells (blk false eZ).toArray 176)):=by
  simp[Instr.alloc,zeroValue,typeInfo,hi,hz0,newVar,newRow,newObj,Value.cells]
  rfl
 unfold Oper.wp execOp
 simp only[ho,hrun,Result.andThen_ok,Sem.run_bind,Sem.run_pure]
 exact hK _ _ (h _ (EAt.new w _ _ _) ((Below.refl _ _).alloc (Nat.le_refl _) _) (by simp))
theorem wpList_loadE(hgd:op.guard=none)(x:Operand)(ho:op.op=.load 176 x){b:Nat}{s:Bool}{f:Nat->Bool}(hE:EAt w b s f)(hx:a.eval x=.pointer (some ⟨b,0,none⟩))
  (h:∀V,Hid (V=Value.agg (blk s f).toArray)->wpList Tryz.prog ops Q rest (a.put op.dst V) w):wpList Tryz.prog ops Q (op::rest) a w :=
 wpList_load_mid hgd _ x ho b 0 hx _ _ hE.range Tryz.underlying176 rfl (size_E s f) (h _ (Lib.hid rfl))
theorem wpList_storeE(hgd:op.guard=none)(x y:Operand)(ho:op.op=.store 176 x y){b:Nat}{s s':Bool}{f f':Nat->Bool}(hE:EAt w b s f)(hx:a.eval x=.pointer (some ⟨b,0,none⟩)){V:Value}(hV:Hid (V=Value.agg (blk s' f').toArray))(hy:a.eval y=V)
  (h:∀W,Hid (W=w.setCells b 0 (blk s' f'))->wpList Tryz.prog ops Q rest (a.put op.dst undef) W):wpList Tryz.prog ops Q (op::rest) a w :=
 wpList_store_mid hgd _ x y ho b 0 _ hx (hy.trans hV.out) (by rw[blk_size];exact hE.free) (size_E' s' f') (blk_all s' f') (h _ (Lib.hid (by simp)))
end
def alF(c:UInt8):Int:=if isLower (num c) then 1 else if isDigit (num c) then 2 else 0
set_option maxHeartbeats 1000000 in
theorem rf_alnum(c:UInt8)(w:World):Calls Tryz.prog 116 #[.int .u8 (num c)] w fun e w'=>e=.returned (.int .i64 (alF c))/\w=w':=by
 by_cases h1:97<=num c
 ·by_cases h2:num c<=122
  ·have HE:=Lib.hid (show alF c=1 by unfold alF;rw[if_pos (by simp[isLower,h1,h2])])
   go_enter Tryz.func116,Tryz.ntmps116
   go_wp2_with fail
   go_ret
   exact⟨by rw[HE.out];rfl,rfl⟩
  ·have t3:(48:Int)<=num c:=by omega
   have t4:(57:Int)<num c:=by omega
   have t2:(122:Int)<num c:=by omega
   have HE:=Lib.hid (show alF c=0 by unfold alF;rw[if_neg (by simp[isLower];omega),if_neg (by simp[isDigit];omega)])
   clear h2
   go_enter Tryz.func116,Tryz.ntmps116
   go_wp2_with fail
   go_ret
   exact⟨by rw[HE.out];rfl,rfl⟩
 ·have t1:num c<97:=by omega
  by_cases h3:48<=num c
  ·by_cases h4:num c<=57
   ·have HE:=Lib.hid (show alF c=2 by unfold alF;rw[if_neg (by simp[isLower];omega),if_pos (by simp[isDigit,h3,h4])])
    clear h1
    go_enter Tryz.func116,Tryz.ntmps116
    go_wp2_with fail
    go_ret
    exact⟨by rw[HE.out];rfl,rfl⟩
   ·have t4:(57:Int)<num c:=by omega
    have HE:=Lib.hid (show alF c=0 by unfold alF;rw[if_neg (by simp[isLower];omega),if_neg (by simp[isDigit];omega)])
    clear h1 h4
    go_enter Tryz.func116,Tryz.ntmps116
    go_wp2_with fail
    go_ret
    exact⟨by rw[HE.out];rfl,rfl⟩
  ·have t3:num c<48:=by omega
   have HE:=Lib.hid (show alF c=0 by unfold alF;rw[if_neg (by simp[isLower];omega),if_neg (by simp[isDigit];omega)])
   clear h1 h3
   go_enter Tryz.func116,Tryz.ntmps116
   go_wp2_with fail
   go_ret
   exact⟨by rw[HE.out];rfl,rfl⟩
theorem alF_al(c:UInt8):decide (0<alF c)=isAl c:=by
 unfold alF isAl
 cases isLower (num c)<;>cases isDigit (num c)<;>simp
theorem alF_zero(c:UInt8):(alF c==0) = !isAl c:=by
 unfold alF isAl
 cases isLower (num c)<;>cases isDigit (num c)<;>simp
set_option maxHeartbeats 2000000 in
theorem rf_char(c:UInt8)(w:World):Calls Tryz.prog 93 #[.int .u8 (num c)] w fun e w'=>e=.returned (.bool (isChar c))/\w=w':=by
 have HN:=Lib.hid (isChar_num c)
 have HA:=Lib.hid (alF_al c)
 rcases ha:isAl c with _|_
 ·rw[ha]at HN HA
  rcases e1:(num c==43) with _|_
  all_goals
   rcases e2:(num c==45) with _|_
   all_goals
    rcases e3:(num c==95) with _|_
    all_goals
     rw[e1,e2,e3]at HN
     have hal:=HA.out
     go_enter Tryz.func93,Tryz.ntmps93
     go_wp2_with fail
     (with_reducible refine(rf_alnum c _).mono ?_)
     rintro e w' ⟨rfl,rfl⟩
     go_wp2_with fail
     go_ret
     exact⟨ret_bool (by rw[HN.out];simp),rfl⟩
 ·rw[ha]at HN HA
  have hal:=HA.out
  go_enter Tryz.func93,Tryz.ntmps93
  go_wp2_with fail
  (with_reducible refine(rf_alnum c _).mono ?_)
  rintro e w' ⟨rfl,rfl⟩
  go_wp2_with fail
  go_ret
  exact⟨ret_bool (by rw[HN.out];simp),rfl⟩
def setF(X:Bs):Nat->Bool:=fun j=>X.contains (UInt8.ofNat j)
theorem ofNat_ne{c:UInt8}{j:Nat}(hj:j<128)(h:j≠c.toNat):UInt8.ofNat j≠c:=fun e=>h (by rw[<-e,UInt8.toNat_ofNat',Nat.mod_eq_of_lt (by omega)])
theorem setF_snoc(X:Bs)(c:UInt8)(j:Nat)(hj:j<128):upd (setF X) c.toNat true j=setF (X ++ [c]) j:=by
 unfold upd setF
 by_cases h:j=c.toNat
 ·subst h;simp
 ·rw[if_neg h,Bool.eq_iff_iff,List.contains_iff_mem,List.contains_iff_mem,List.mem_append,List.mem_singleton]
  constructor
  ·exact .inl
  ·rintro(h1|h1)
   ·exact h1
   ·exact absurd h1 (ofNat_ne hj h)
theorem setF_nil(j:Nat)(hj:j<128):eZ j=setF [] j:=rfl
theorem setF_pos(X:Bs)(hX:∀c∈X,isChar c=true)(j:Nat)(hj:j<128):setF X j=setF (nameC.filter (hitP X false)) j:=by
 unfold setF hitP
 rw[Bool.eq_iff_iff,List.contains_iff_mem,List.contains_iff_mem,List.mem_filter,mem_nameC]
 constructor
 ·intro h;exact⟨hX _ h,by simpa using h⟩
 ·intro h;simpa using h.2
def negF(X:Bs)(q:Nat):Nat->Bool:=fun j=>if j<q then isChar (UInt8.ofNat j) && !setF X j else setF X j
theorem negF_zero(X:Bs)(j:Nat)(hj:j<128):setF X j=negF X 0 j:=by simp[negF]
theorem negF_step(X:Bs)(q:Nat)(j:Nat)(hj:j<128):upd (negF X q) q (isChar (UInt8.ofNat q) && !setF X q) j=negF X (q+1) j:=by
 unfold upd negF
 by_cases h:j=q
 ·subst h;simp
 ·rw[if_neg h]
  by_cases h2:j<q
  ·rw[if_pos h2,if_pos (by omega)]
  ·rw[if_neg h2,if_neg (by omega)]
theorem negF_at(X:Bs)(q:Nat):negF X q q=setF X q:=by simp[negF]
theorem setF_neg(X:Bs)(j:Nat)(hj:j<128):negF X 128 j=setF (nameC.filter (hitP X true)) j:=by
 unfold negF setF hitP
 rw[if_pos hj,Bool.eq_iff_iff,List.contains_iff_mem,List.mem_filter,mem_nameC]
 simp
theorem rf_char'(q:Nat)(hq:q<256)(Z:Int)(hZ:Z=q)(w:World):Calls Tryz.prog 93 #[.int .u8 Z] w fun e w'=>e=.returned (.bool (isChar (UInt8.ofNat q)))/\w=w':=by
 have:=rf_char (UInt8.ofNat q) w
 have e:num (UInt8.ofNat q)=Z:=by rw[hZ];simp only[num,UInt8.toNat_ofNat'];rw[Nat.mod_eq_of_lt (by omega)]
 rw[e]at this;exact this
def RefClass(k:Nat)(x:Option (Bs × Nat))(v:Value):Prop:=match x with
 | none=>∃f,v=.tuple #[.agg (blk false f).toArray,.int .i64 (-1)]
 | some y=>∃f,(∀j,j<128->f j=setF y.1 j)/\v=.tuple #[.agg (blk false f).toArray,.int .i64 ((k+y.2:Nat):Int)]
def RClassPost(L:Bs)(k:Nat)(w:World)(e:Ending)(w':World):Prop := ∃v,e=.returned v/\RefClass k (classF L) v/\Below w.heap.size w w'
theorem rclass_no{L:Bs}{k:Nat}{w w':World}{f:Nat->Bool}(h:classF L=none)(hb:Below w.heap.size w w'):RClassPost L k w (.returned (.tuple #[.agg (blk false f).toArray,.int .i64 (-1)])) w' :=
 ⟨_,rfl,by rw[h];exact⟨f,rfl⟩,hb⟩
theorem rclass_yes{L:Bs}{k n:Nat}{x:Bs}{w w':World}{f:Nat->Bool}(h:classF L=some (x,n))(hf:∀j,j<128->f j=setF x j)(N:Int)(hN:N=((k+n:Nat):Int))(hb:Below w.heap.size w w'):RClassPost L k w (.returned (.tuple #[.agg (blk false f).toArray,.int .i64 N])) w' :=
 ⟨_,rfl,by rw[h];exact⟨f,hf,by rw[hN]⟩,hb⟩
theorem results_E{P:Program}{fn:Func}{p q:Tmp}{T:TypeId}{d:TypeDesc}(h:fn.results=#[.cell p T,.tmp q])(tmps:Array Value)(w:World)(b:Nat)(s:Bool)(f:Nat->Bool)(v:Value)(hp:tmps.getD p undef=.pointer (some ⟨b,0,none⟩))(hq:tmps.getD q undef=v)
  (hE:EAt w b s f) (hu:P.underlying T=some d) (hd:d.isRow=true) (hi:(P.info? T).map (·.size)=some (blk s f).length):(results fn tmps).run P w=.ok (.tuple #[.agg (blk s f).toArray,v]) w:=by
 have hp':tmps[p]?.getD undef=.pointer (some ⟨b,0,none⟩):=by simpa using hp
 have hq':tmps[q]?.getD undef=v:=by simpa using hq
 have hl:=run_loadVar_mid (P:=P) w b 0 T (blk s f) d hE.range hu hd hi
 simp[results,h,hp',hq',asAddr,hl]
structure ClsAt(w wr:World)(f:Nat->Bool):Prop where
 res:EAt wr w.heap.size false eZ
 x:EAt wr (w.heap.size+1) false f
 bel:Below w.heap.size w wr
theorem ClsAt.set{w wr:World}{f g:Nat->Bool}(h:ClsAt w wr f)(k:Nat)(hk:k<128)(v:Bool)(hg:∀j,j<128->upd f k v j=g j):ClsAt w (wr.setCell ⟨w.heap.size+1,1+k,none⟩ (.bool v)) g :=
 ⟨h.res.other _ _ (show w.heap.size≠w.heap.size+1 by omega),(h.x.set k hk v).congr hg,h.bel.setCell (p:=⟨w.heap.size+1,1+k,none⟩) (show w.heap.size<=w.heap.size+1 by omega) _⟩
theorem ClsAt.congr{w wr:World}{f g:Nat->Bool}(h:ClsAt w wr f)(hg:∀j,j<128->f j=g j):ClsAt w wr g:=⟨h.res,h.x.congr hg,h.bel⟩
theorem ClsAt.ret{w wr:World}{f:Nat->Bool}(h:ClsAt w wr f):EAt (wr.setCells w.heap.size 0 (blk false f)) w.heap.size false f/\Below w.heap.size w (wr.setCells w.heap.size 0 (blk false f)):=⟨h.res.stored,below_setCells (Nat.le_refl _) _ _ _ _ h.bel⟩
theorem cls_none{L T:Bs}{neg:Bool}{fr n:Nat}{X:Bs}(h0:(L[1]?==some 94)=neg)(hf:fr=if neg then 2 else 1)(hT:T=L.drop fr)(hi:itemsF 0 true T=(X,n))(hn:n=0\/T[n]?≠some 93):classF L=none:=by
 refine classF_no L neg fr h0 hf ?_
 rw[<-hT,hi]
 rcases hn with hn|hn
 ·exact .inl hn
 ·right
  rw[hT,List.getElem?_drop]at hn
  exact hn
theorem cls_some{L T:Bs}{neg:Bool}{fr n:Nat}{X:Bs}(h0:(L[1]?==some 94)=neg)(hf:fr=if neg then 2 else 1)(hT:T=L.drop fr)(hi:itemsF 0 true T=(X,n))(hn:n≠0)(h93:T[n]?=some 93):classF L=some (nameC.filter (hitP X neg),fr+n+1):=by
 have:=classF_yes L neg fr h0 hf (by rw[<-hT,hi];exact hn) (by rw[<-hT,hi];rw[hT,List.getElem?_drop]at h93;exact h93)
 rw[this, ← hT,hi]
theorem plain_char{f:Bool}{c:UInt8}(h:isChar c=true)(h45:c≠45):plainC f c=true:=by
 have h1:=isChar_num c
 rw[h]at h1
 have:(num c==45)=false:=by
  rw[show(45:Int)=num 45 from rfl,eq_num];simpa using h45
 rw[plainC_num,this]
 rw[this]at h1
 simp at h1⊢
 rcases h1 with((h1|h1)|h1)|h1<;>simp[h1]
theorem num45(c:UInt8):(num c==45)=(c==45):=eq_num c 45
theorem num93(c:UInt8):(num c==93)=(c==93):=eq_num c 93
theorem num94(c:UInt8):(num c==94)=(c==94):=eq_num c 94
theorem items_dash{L X:Bs}{k:Nat}{f:Bool}(h:ItemsAt L X k f)(c:UInt8)(hc:L[k]?=some c)(hch:isChar c=true)(h45:c≠45)(hd:L[k+1]?=some 45)(hr:isRange c (L.drop (k+1))=false):itemsF 0 true L=(X ++ [c],k+1) :=
 items_stop (items_one h c hc hr (plain_char hch h45)) 45 hd (isRange_no _ _ (by decide)) (by decide)
theorem range_step(X:Bs)(c:UInt8)(q:Nat)(hq:q<128)(hc:c.toNat<=q)(j:Nat)(hj:j<128):upd (setF (X++rangeTo c q)) q true j=setF (X++rangeTo c (q+1)) j:=by
 have e:(UInt8.ofNat q).toNat = q:=by rw[UInt8.toNat_ofNat',Nat.mod_eq_of_lt (by omega)]
 have:=setF_snoc (X++rangeTo c q) (UInt8.ofNat q) j hj
 rw[e,List.append_assoc, ← rangeTo_snoc c q hc]at this
 exact this
theorem ok_al{c d:UInt8}(ha:isAl c=true)(h:okRange c d=true):(alF d != alF c)=false/\decide (num d<num c)=false:=by
 obtain⟨h1,h2,h3,_⟩:=okRange_parts ha h
 refine⟨?_,h1⟩
 have:alF d=alF c:=by unfold alF;rw[h2,h3]
 simp[this]
theorem bad_al{c d:UInt8}(ha:isAl c=true)(h:okRange c d=false):(alF d != alF c)=true\/((alF d != alF c)=false/\decide (num d<num c)=true):=by
 rcases h1:(alF d != alF c) with _|_
 ·right
  refine⟨rfl,?_⟩
  rcases h2:decide (num d<num c) with _|_
  ·exfalso
   simp only[bne_eq_false_iff_eq]at h1
   unfold alF at h1
   unfold isAl at ha
   refine bad_flags h h2 ?_ ?_
   ·rcases hx:isLower (num c) with _|_<;>rcases hy:isLower (num d) with _|_<;>rcases hu:isDigit (num c) with _|_<;>rcases hv:isDigit (num d) with _|_<;>simp_all
   ·rcases hx:isLower (num c) with _|_<;>rcases hy:isLower (num d) with _|_<;>rcases hu:isDigit (num c) with _|_<;>rcases hv:isDigit (num d) with _|_<;>(first|(simp_all;done)|(exfalso;simp[isLower,isDigit]at hx hy hu hv;omega))
  ·rfl
 ·exact .inl rfl
set_option maxHeartbeats 8000000 in
set_option maxRecDepth 100000 in
theorem rf_class_a(s:ByteArray)(k:Nat)(w:World)(hs:s.size<=1000)(hk:k<s.size)(h1:k+1<s.size)(h94:(num (s[k+1]'h1)==94)=true) :
  Calls Tryz.prog 94 #[.string s,.int .i64 k] w (RClassPost ((toL s).drop k) k w):=by
 have hL1:(((toL s).drop k)[1]?==some 94)=true:=by
  rw[List.getElem?_drop,byte_at s (k+1) h1];rw[num94]at h94;simpa using h94
 obtain⟨F,hF⟩:∃F,F=k+2:=⟨_,rfl⟩
 have hFs:F<=s.size:=by omega
 have HNO:=Lib.hid (fun X n=>cls_none (L:=(toL s).drop k) (T:=(toL s).drop F) (neg:=true) (fr:=2) (n:=n) (X:=X) hL1 rfl (by rw[List.drop_drop,hF]))
 have HYES:=Lib.hid (fun X n=>cls_some (L:=(toL s).drop k) (T:=(toL s).drop F) (neg:=true) (fr:=2) (n:=n) (X:=X) hL1 rfl (by rw[List.drop_drop,hF]))
 have HT:=Lib.hid (fun i j (e:i=F+j) (h:i<s.size)=>(show((toL s).drop F)[j]?=some (s[i]'h) from by subst e;rw[List.getElem?_drop,byte_at s (F+j) h]))
 have HTL:=Lib.hid (show((toL s).drop F).length=s.size-F by rw[List.length_drop,toL_length])
 have HCHS:=Lib.hid (fun X n (h:itemsF 0 true ((toL s).drop F)=(X,n))=>(show ∀c∈X,isChar c=true from by
  have:=(itemsF_chars _ ((toL s).drop F) (Nat.le_refl _) true).1;rw[h]at this;exact this))
 clear hL1
 generalize (toL s).drop F=T at *
 generalize (toL s).drop k=L at *
 have i1:(k:Int)+1<(s.size:Int):=by omega
 have i0:(0:Int)<=(k:Int)+1:=by omega
 have i2:((k:Int)+1).toNat = k+1:=by omega
 go_enter Tryz.func94,Tryz.ntmps94
 go_upto_region 1 with((refine wpList_allocE rfl rfl ?_;intro W1 hE1 hB1 hz1))
 go_wp2_with ((refine wpList_allocE rfl rfl ?_;intro W2 hE2 hB2 hz2))
 rw[hz1]at hE2
 have HC0:=Lib.hid (show ClsAt w W2 (setF []) from⟨hE1.below hB2,hE2.congr setF_nil,hB1.trans (hB2.mono hB1.size)⟩)
 have eF:(k:Int)+1+1=(F:Int):=by omega
 simp only[eF]
 have HF:=Lib.hid hF
 clear hF hE1 hE2 hB1 hB2 hz1 hz2 h94 eF
 go_loopw [7,10] (fun v7 _ wr=>∃(i:Nat) (X:Bs),F<=i/\i<=s.size/\v7=.int .i64 (i:Int)/\ItemsAt T X (i-F) (decide (i-F=0))/\ClsAt w wr (setF X)) (fun v7 _ _=>s.size-(intOf v7).toNat)
 case atStart=>exact⟨F, [],Nat.le_refl _,hFs,rfl,by simp[ItemsAt],HC0.out⟩
 case round =>
  obtain⟨i,X,hFi,hin,rfl,hat,hcls⟩:=hrel
  clear HC0
  obtain⟨n,HN⟩:∃n,Hid (i=F+n):=⟨i-F,Lib.hid (by omega)⟩
  rw[show i-F=n from by have:=HN.out;omega]at hat
  have HAT:=Lib.hid hat;have HCLS:=Lib.hid hcls;have hCx:=hcls.x;have hCr:=hcls.res
  clear hat hcls
  obtain⟨wo,rfl⟩:∃wo:World,wo=wr:=⟨_,rfl⟩
  by_cases hii:i<s.size
  ·have HC:=Lib.hid (HT.out i n HN.out hii)
   have j1:(0:Int)<=(i:Int):=by omega
   have j2:(i:Int)<(s.size:Int):=by omega
   rcases h93:(num (s[i]'hii)==93) with _|_
   ·-- a byte of the class
    have h93':(num (s[i]'hii) != 93)=true:=by simp[bne,h93]
    have HNE:=Lib.hid (show(some (s[i]'hii):Option UInt8)≠some 93 from fun e=>by
     injection e with e;rw[e]at h93;revert h93;decide)
    clear h93
    rcases hch:isChar (s[i]'hii) with _|_
    ·-- no name character
     have HNI:=Lib.hid (items_stop HAT.out _ HC.out (isRange_no _ _ (by rcases h:isAl (s[i]'hii) with _|_;rfl;rw[isAl_char h]at hch;cases hch)) (by rcases h:plainC (decide (n=0)) (s[i]'hii) with _|_;rfl;rw[plainC_char h]at hch;cases hch))
     have HCH:=Lib.hid hch;clear hch
     go_upto_region 10 with(first|(go_at_call 93;(with_reducible refine(rf_char _ _).mono ?_);rintro e w' ⟨rfl,rfl⟩;rw[HCH.out])|(go_at_call 116;(with_reducible refine(rf_alnum _ _).mono ?_);rintro e w' ⟨rfl,rfl⟩))
     go_wp2_with (first|(refine wpList_loadE rfl _ rfl hCx rfl ?_;intro V HV)|(refine wpList_storeE rfl _ _ rfl hCr rfl HV rfl ?_;intro W HW))
     refine bodyPost_ret (results_E rfl _ _ w.heap.size false _ _ rfl rfl (by rw[HW.out];exact HCLS.out.ret.1) Tryz.underlying176 rfl (size_E _ _)) rfl ?_
     exact rclass_no (HNO.out X n HNI.out (.inr (by rw[HC.out];exact HNE.out))) (by rw[HW.out];exact HCLS.out.ret.2)
    ·have HCL:=Lib.hid (char_lt _ hch)
     have HCH:=Lib.hid hch;clear hch
     rcases h45:(num (s[i]'hii)==45) with _|_
     ·have HN45:=Lib.hid (show(s[i]'hii)≠45 from by rw[num45]at h45;simpa using h45)
      have h45':(num (s[i]'hii) != 45)=true:=by simp[bne,h45]
      have l128:num (s[i]'hii)<128:=by have:=HCL.out;simp only[num];omega
      have l0:(0:Int)<=num (s[i]'hii):=by simp only[num];omega
      by_cases hnx:i+1<s.size
      ·have k1:(i:Int)+1<(s.size:Int):=by omega
       have k0:(0:Int)<=(i:Int)+1:=by omega
       have k2:((i:Int)+1).toNat = i+1:=by omega
       rcases hd:(num (s[i+1]'hnx)==45) with _|_
       ·-- a single character
        have HR:=Lib.hid (show isRange (s[i]'hii) (T.drop (n+1))=false from by
         rw[isRange_at T n _ (s[i+1]'hnx) (HT.out (i+1) (n+1) (by have:=HN.out;omega) hnx),hd];simp)
        have HNX:=Lib.hid (items_one HAT.out _ HC.out HR.out (plain_char HCH.out HN45.out))
        have e0:=hCx.cell (s[i]'hii).toNat HCL.out
        have e1:=hCx.frozen (s[i]'hii).toNat HCL.out
        have e2:(num (s[i]'hii)).toNat = (s[i]'hii).toNat:=by simp[num]
        go_wp2_with (first|(go_at_call 93;(with_reducible refine(rf_char _ _).mono ?_);rintro e w' ⟨rfl,rfl⟩;rw[HCH.out])|(go_at_call 116;(with_reducible refine(rf_alnum _ _).mono ?_);rintro e w' ⟨rfl,rfl⟩))
        go_roundw
        case rel=>exact⟨i+1,X ++ [s[i]'hii],by omega,by omega,by go_num,by rw[show i+1-F=n+1 from by have:=HN.out;omega];simpa using HNX.out,HCLS.out.set _ HCL.out true (setF_snoc X (s[i]'hii))⟩
        case measure=>simp[intOf]<;>omega
       ·-- a minus follows
        have HD:=Lib.hid (show T[n+1]?=some 45 from by
         rw[HT.out (i+1) (n+1) (by have:=HN.out;omega) hnx];rw[num45]at hd
         have:(s[i+1]'hnx)=45:=by simpa using hd
         rw[this])
        by_cases hn2:i+2<s.size
        ·have m1:(i:Int)+2<(s.size:Int):=by omega
         have m0:(0:Int)<=(i:Int)+2:=by omega
         have m2:((i:Int)+2).toNat = i+2:=by omega
         have HD2:=Lib.hid (show T[n+2]?=some (s[i+2]'hn2) from HT.out (i+2) (n+2) (by have:=HN.out;omega) hn2)
         have HAZ:=Lib.hid (alF_zero (s[i]'hii))
         rcases hal:isAl (s[i]'hii) with _|_
         ·-- no range
          have HNI:=Lib.hid (items_dash HAT.out _ HC.out HCH.out HN45.out HD.out (isRange_no _ _ hal))
          have HNB:=Lib.hid (show T[n+1]?≠some 93 from by rw[HD.out];decide)
          rw[hal]at HAZ
          have haz:=HAZ.out
          simp only[Bool.not_false]at haz
          clear hal
          go_upto_region 13 with(first|(go_at_call 93;(with_reducible refine(rf_char _ _).mono ?_);rintro e w' ⟨rfl,rfl⟩;rw[HCH.out])|(go_at_call 116;(with_reducible refine(rf_alnum _ _).mono ?_);rintro e w' ⟨rfl,rfl⟩))
          go_wp2_with (first|(refine wpList_loadE rfl _ rfl hCx rfl ?_;intro V HV)|(refine wpList_storeE rfl _ _ rfl hCr rfl HV rfl ?_;intro W HW))
          refine bodyPost_ret (results_E rfl _ _ w.heap.size false _ _ rfl rfl (by rw[HW.out];exact HCLS.out.ret.1) Tryz.underlying176 rfl (size_E _ _)) rfl ?_
          exact rclass_no (HNO.out _ (n+1) HNI.out (.inr HNB.out)) (by rw[HW.out];exact HCLS.out.ret.2)
         ·have HR:=Lib.hid (show isRange (s[i]'hii) (T.drop (n+1))=true from by
           rw[isRange_at T n _ 45 HD.out,hal,show(num (45:UInt8)==45)=true from by decide];have:=HTL.out;have:=HN.out;simp;omega)
          rw[hal]at HAZ
          have haz:=HAZ.out
          simp only[Bool.not_true]at haz
          rcases hok:okRange (s[i]'hii) (s[i+2]'hn2) with _|_
          ·-- a bad range
           have HNI:=Lib.hid (items_bad HAT.out _ _ HC.out HD2.out HR.out hok)
           rcases bad_al hal hok with q1|⟨q1,q2'⟩
           ·clear hal hok
            go_upto_region 13 with(first|(go_at_call 93;(with_reducible refine(rf_char _ _).mono ?_);rintro e w' ⟨rfl,rfl⟩;rw[HCH.out])|(go_at_call 116;(with_reducible refine(rf_alnum _ _).mono ?_);rintro e w' ⟨rfl,rfl⟩))
            go_wp2_with (first|(refine wpList_loadE rfl _ rfl hCx rfl ?_;intro V HV)|(refine wpList_storeE rfl _ _ rfl hCr rfl HV rfl ?_;intro W HW))
            refine bodyPost_ret (results_E rfl _ _ w.heap.size false _ _ rfl rfl (by rw[HW.out];exact HCLS.out.ret.1) Tryz.underlying176 rfl (size_E _ _)) rfl ?_
            exact rclass_no (HNO.out X n HNI.out (.inr (by rw[HC.out];exact HNE.out))) (by rw[HW.out];exact HCLS.out.ret.2)
           ·have q2:(s[i+2]'hn2).toNat < (s[i]'hii).toNat:=by have:=of_decide_eq_true q2';simp only[num]at this;omega
            clear hal hok q2'
            go_upto_region 13 with(first|(go_at_call 93;(with_reducible refine(rf_char _ _).mono ?_);rintro e w' ⟨rfl,rfl⟩;rw[HCH.out])|(go_at_call 116;(with_reducible refine(rf_alnum _ _).mono ?_);rintro e w' ⟨rfl,rfl⟩))
            go_wp2_with (first|(refine wpList_loadE rfl _ rfl hCx rfl ?_;intro V HV)|(refine wpList_storeE rfl _ _ rfl hCr rfl HV rfl ?_;intro W HW))
            refine bodyPost_ret (results_E rfl _ _ w.heap.size false _ _ rfl rfl (by rw[HW.out];exact HCLS.out.ret.1) Tryz.underlying176 rfl (size_E _ _)) rfl ?_
            exact rclass_no (HNO.out X n HNI.out (.inr (by rw[HC.out];exact HNE.out))) (by rw[HW.out];exact HCLS.out.ret.2)
          ·-- a range
           have HNX:=Lib.hid (items_rng HAT.out _ _ HC.out HD2.out HR.out hok)
           obtain⟨q1,q2'⟩:=ok_al hal hok
           have q2:(s[i]'hii).toNat<=(s[i+2]'hn2).toNat:=by have:=of_decide_eq_false q2';simp only[num]at this;omega
           clear q2'
           obtain⟨x1,x2,x3,HD1,HD0⟩:=okRange_parts hal hok
           have hd1:(s[i+2]'hn2).toNat<=122:=HD1
           have hd0:(s[i]'hii).toNat<=(s[i+2]'hn2).toNat:=HD0
           have HD3:=Lib.hid (And.intro hd1 hd0)
           clear hal hok x1 x2 x3 HD1 HD0 hd1 hd0
           have w3:IntKind.i64.wrap ((i:Int)+3)=(i:Int)+3:=IntWalk.i64_in _ (by omega)
           have w4:IntKind.i64.wrap ((s[i]'hii).toNat:Int)=((s[i]'hii).toNat:Int):=IntWalk.i64_in _ (by have:=(s[i]'hii).toNat_lt;omega)
           have w5:IntKind.i64.wrap ((s[i+2]'hn2).toNat:Int)=((s[i+2]'hn2).toNat:Int):=IntWalk.i64_in _ (by have:=(s[i+2]'hn2).toNat_lt;omega)
           go_wp2_with (first|(go_at_call 93;(with_reducible refine(rf_char _ _).mono ?_);rintro e w' ⟨rfl,rfl⟩;rw[HCH.out])|(go_at_call 116;(with_reducible refine(rf_alnum _ _).mono ?_);rintro e w' ⟨rfl,rfl⟩))
           go_loopw [11,102] (fun v11 _ wr=>∃q:Nat,(s[i]'hii).toNat<=q/\q<=(s[i+2]'hn2).toNat + 1/\v11=.int .i64 (q:Int)/\ClsAt w wr (setF (X++rangeTo (s[i]'hii) q))) (fun v11 _ _=>(s[i+2]'hn2).toNat + 1-(intOf v11).toNat)
           case atStart=>exact⟨(s[i]'hii).toNat,Nat.le_refl _,by have:=HD3.out.2;omega,rfl,by rw[rangeTo_zero,List.append_nil];exact HCLS.out⟩
           case round =>
            obtain⟨q,hq1,hq2,rfl,hcl2⟩:=hrel
            have HCL2:=Lib.hid hcl2
            have hd3:=HD3.out
            by_cases hq:q<=(s[i+2]'hn2).toNat
            ·have p1:(q:Int)<=num (s[i+2]'hn2):=by simp only[num];omega
             have p1n:q<=(s[i+2]'hn2).toNat:=hq
             have p2:(q:Int)<128:=by omega
             have p0:(0:Int)<=(q:Int):=by omega
             have e0:=hcl2.x.cell q (by omega)
             have e1:=hcl2.x.frozen q (by omega)
             clear hcl2 hd3
             go_wp2_with fail
             go_roundw
             case rel=>exact⟨q+1,by omega,by omega,by go_num,HCL2.out.set q (by omega) true (range_step X (s[i]'hii) q (by omega) hq1)⟩
             case measure=>simp[intOf]<;>omega
            ·have p1:num (s[i+2]'hn2)<(q:Int):=by simp only[num];omega
             have p1n:(s[i+2]'hn2).toNat < q:=by omega
             have HQ:=Lib.hid (show q=(s[i+2]'hn2).toNat + 1 from by omega)
             clear hcl2 hd3
             go_wp2_with fail
             go_roundw
             case rel=>exact⟨i+3,X++rangeB (s[i]'hii) (s[i+2]'hn2),by omega,by omega,by go_num,by rw[show i+3-F=n+3 from by have:=HN.out;omega];simpa using HNX.out,by have:=HCL2.out;rw[HQ.out]at this;exact this⟩
             case measure=>simp[intOf]<;>omega
        ·-- the text ends
         have m1:(s.size:Int)<=(i:Int)+2:=by omega
         have HNI:=Lib.hid (items_dash HAT.out _ HC.out HCH.out HN45.out HD.out (isRange_end _ _ _ (by have:=HTL.out;have:=HN.out;omega)))
         have HNB:=Lib.hid (show T[n+1]?≠some 93 from by rw[HD.out];decide)
         go_upto_region 13 with(first|(go_at_call 93;(with_reducible refine(rf_char _ _).mono ?_);rintro e w' ⟨rfl,rfl⟩;rw[HCH.out])|(go_at_call 116;(with_reducible refine(rf_alnum _ _).mono ?_);rintro e w' ⟨rfl,rfl⟩))
         go_wp2_with (first|(refine wpList_loadE rfl _ rfl hCx rfl ?_;intro V HV)|(refine wpList_storeE rfl _ _ rfl hCr rfl HV rfl ?_;intro W HW))
         refine bodyPost_ret (results_E rfl _ _ w.heap.size false _ _ rfl rfl (by rw[HW.out];exact HCLS.out.ret.1) Tryz.underlying176 rfl (size_E _ _)) rfl ?_
         exact rclass_no (HNO.out _ (n+1) HNI.out (.inr HNB.out)) (by rw[HW.out];exact HCLS.out.ret.2)
      ·have k1:(s.size:Int)<=(i:Int)+1:=by omega
       have HR:=Lib.hid (show isRange (s[i]'hii) (T.drop (n+1))=false from isRange_end _ _ _ (by have:=HTL.out;have:=HN.out;omega))
       have HNX:=Lib.hid (items_one HAT.out _ HC.out HR.out (plain_char HCH.out HN45.out))
       have e0:=hCx.cell (s[i]'hii).toNat HCL.out
       have e1:=hCx.frozen (s[i]'hii).toNat HCL.out
       have e2:(num (s[i]'hii)).toNat = (s[i]'hii).toNat:=by simp[num]
       go_wp2_with (first|(go_at_call 93;(with_reducible refine(rf_char _ _).mono ?_);rintro e w' ⟨rfl,rfl⟩;rw[HCH.out])|(go_at_call 116;(with_reducible refine(rf_alnum _ _).mono ?_);rintro e w' ⟨rfl,rfl⟩))
       go_roundw
       case rel=>exact⟨i+1,X ++ [s[i]'hii],by omega,by omega,by go_num,by rw[show i+1-F=n+1 from by have:=HN.out;omega];simpa using HNX.out,HCLS.out.set _ HCL.out true (setF_snoc X (s[i]'hii))⟩
       case measure=>simp[intOf]<;>omega
     ·have h45':(num (s[i]'hii) != 45)=false:=by simp[bne,h45]
      have HE45:=Lib.hid (show(s[i]'hii)=45 from by rw[num45]at h45;simpa using h45)
      by_cases hn0:n=0
      ·have l128:num (s[i]'hii)<128:=by have:=HCL.out;simp only[num];omega
       have l0:(0:Int)<=num (s[i]'hii):=by simp only[num];omega
       have g1:(i:Int)<=(F:Int):=by have:=HN.out;omega
       have g2:decide ((F:Int)<(i:Int))=false:=by have:=HN.out;simp;omega
       have HNX:=Lib.hid (items_one HAT.out _ HC.out (isRange_no _ _ (by rw[HE45.out];decide)) (by rw[HE45.out];simp[hn0];decide))
       have e0:=hCx.cell (s[i]'hii).toNat HCL.out
       have e1:=hCx.frozen (s[i]'hii).toNat HCL.out
       have e2:(num (s[i]'hii)).toNat = (s[i]'hii).toNat:=by simp[num]
       go_wp2_with (first|(go_at_call 93;(with_reducible refine(rf_char _ _).mono ?_);rintro e w' ⟨rfl,rfl⟩;rw[HCH.out])|(go_at_call 116;(with_reducible refine(rf_alnum _ _).mono ?_);rintro e w' ⟨rfl,rfl⟩))
       go_roundw
       case rel=>exact⟨i+1,X ++ [s[i]'hii],by omega,by omega,by go_num,by rw[show i+1-F=n+1 from by have:=HN.out;omega];simpa using HNX.out,HCLS.out.set _ HCL.out true (setF_snoc X (s[i]'hii))⟩
       case measure=>simp[intOf]<;>omega
      ·have g1:(F:Int)<(i:Int):=by have:=HN.out;omega
       have g2:decide ((F:Int)<(i:Int))=true:=by have:=HN.out;simp;omega
       have HNI:=Lib.hid (items_stop HAT.out _ HC.out (isRange_no _ _ (by rw[HE45.out];decide)) (by rw[HE45.out];simp[hn0];decide))
       go_upto_region 10 with(first|(go_at_call 93;(with_reducible refine(rf_char _ _).mono ?_);rintro e w' ⟨rfl,rfl⟩;rw[HCH.out])|(go_at_call 116;(with_reducible refine(rf_alnum _ _).mono ?_);rintro e w' ⟨rfl,rfl⟩))
       go_wp2_with (first|(refine wpList_loadE rfl _ rfl hCx rfl ?_;intro V HV)|(refine wpList_storeE rfl _ _ rfl hCr rfl HV rfl ?_;intro W HW))
       refine bodyPost_ret (results_E rfl _ _ w.heap.size false _ _ rfl rfl (by rw[HW.out];exact HCLS.out.ret.1) Tryz.underlying176 rfl (size_E _ _)) rfl ?_
       exact rclass_no (HNO.out X n HNI.out (.inr (by rw[HC.out];exact HNE.out))) (by rw[HW.out];exact HCLS.out.ret.2)
   ·-- the end of the class
    have h93':(num (s[i]'hii) != 93)=false:=by simp[bne,h93]
    have HE93:=Lib.hid (show T[n]?=some 93 from by rw[HC.out];rw[num93]at h93;simpa using h93)
    have HE:=Lib.hid (show(s[i]'hii)=93 from by rw[num93]at h93;simpa using h93)
    have HNI:=Lib.hid (items_stop HAT.out _ HC.out (isRange_no _ _ (by rw[HE.out];decide)) (by rw[HE.out];cases decide (n=0)<;>decide))
    clear h93
    by_cases hn0:n=0
    ·have g1:((i:Int)==(F:Int))=true:=by have:=HN.out;rw[beq_iff_eq];omega
     go_upto_region 22 with(first|(go_at_call 93;(with_reducible refine(rf_char _ _).mono ?_);rintro e w' ⟨rfl,rfl⟩;rw[HCH.out])|(go_at_call 116;(with_reducible refine(rf_alnum _ _).mono ?_);rintro e w' ⟨rfl,rfl⟩))
     go_wp2_with (first|(refine wpList_loadE rfl _ rfl hCx rfl ?_;intro V HV)|(refine wpList_storeE rfl _ _ rfl hCr rfl HV rfl ?_;intro W HW))
     refine bodyPost_ret (results_E rfl _ _ w.heap.size false _ _ rfl rfl (by rw[HW.out];exact HCLS.out.ret.1) Tryz.underlying176 rfl (size_E _ _)) rfl ?_
     exact rclass_no (HNO.out X n HNI.out (.inl hn0)) (by rw[HW.out];exact HCLS.out.ret.2)
    ·have g1:((i:Int)==(F:Int))=false:=beq_eq_false_iff_ne.2 (by have:=HN.out;omega)
     have HY:=Lib.hid (HYES.out X n HNI.out hn0 HE93.out)
     have nsz:decide (s.size<=i)=false:=by simp;omega
     go_wp2_with fail
     go_loopw [12,132] (fun v12 _ wr=>∃q:Nat,q<=128/\v12=.int .i64 (q:Int)/\ClsAt w wr (negF X q)) (fun v12 _ _=>128-(intOf v12).toNat)
     case atStart=>exact⟨0,by omega,rfl,HCLS.out.congr (negF_zero X)⟩
     case round =>
      obtain⟨q,hq1,rfl,hcl2⟩:=hrel
      have HCL2:=Lib.hid hcl2
      by_cases hq:q<128
      ·have p2:(q:Int)<128:=by omega
       have p0:(0:Int)<=(q:Int):=by omega
       have e0:=hcl2.x.cell q hq
       have e1:=hcl2.x.frozen q hq
       rw[negF_at]at e0
       have wu:IntKind.u8.wrap (q:Int)=(q:Int):=wrap_u8 _ (by omega) (by omega)
       have HST:=Lib.hid (negF_step X q)
       clear hcl2
       rcases hcq:isChar (UInt8.ofNat q) with _|_
       all_goals
        rw[hcq]at HST
        go_wp2_with ((go_at_call 93;(with_reducible refine(rf_char' q (by omega) _ rfl _).mono ?_);rintro e w' ⟨rfl,rfl⟩;rw[hcq]))
        go_roundw
        case rel=>exact⟨q+1,by omega,by go_num,HCL2.out.set q hq _ HST.out⟩
        case measure=>simp[intOf]<;>omega
      ·have p2:(128:Int)<=(q:Int):=by omega
       obtain rfl:q=128:=by omega
       clear hcl2
       have hcx:=HCL2.out.x;have hcr:=HCL2.out.res
       go_upto_region 28 with fail
       go_wp2_with (first|(refine wpList_loadE rfl _ rfl hcx rfl ?_;intro V HV)|(refine wpList_storeE rfl _ _ rfl hcr rfl HV rfl ?_;intro W HW))
       refine bodyPost_ret (results_E rfl _ _ w.heap.size false _ _ rfl rfl (by rw[HW.out];exact HCL2.out.ret.1) Tryz.underlying176 rfl (size_E _ _)) rfl ?_
       exact rclass_yes HY.out (fun j hj=>setF_neg X j hj) _ (by have:=HF.out;have:=HN.out;omega) (by rw[HW.out];exact HCL2.out.ret.2)
  ·-- the text ends
   have HNI:=Lib.hid (items_end HAT.out (by rw[HTL.out];have:=HN.out;omega))
   have HNB:=Lib.hid (show T[n]?≠some 93 from by rw[List.getElem?_eq_none (by rw[HTL.out];have:=HN.out;omega)];simp)
   have j2:(s.size:Int)<=(i:Int):=by omega
   clear hii
   go_upto_region 22 with(first|(go_at_call 93;(with_reducible refine(rf_char _ _).mono ?_);rintro e w' ⟨rfl,rfl⟩;rw[HCH.out])|(go_at_call 116;(with_reducible refine(rf_alnum _ _).mono ?_);rintro e w' ⟨rfl,rfl⟩))
   go_wp2_with (first|(refine wpList_loadE rfl _ rfl hCx rfl ?_;intro V HV)|(refine wpList_storeE rfl _ _ rfl hCr rfl HV rfl ?_;intro W HW))
   refine bodyPost_ret (results_E rfl _ _ w.heap.size false _ _ rfl rfl (by rw[HW.out];exact HCLS.out.ret.1) Tryz.underlying176 rfl (size_E _ _)) rfl ?_
   exact rclass_no (HNO.out X n HNI.out (.inr HNB.out)) (by rw[HW.out];exact HCLS.out.ret.2)
end Go.Proofs.YtannhfnpigiggaaGreatDoor
