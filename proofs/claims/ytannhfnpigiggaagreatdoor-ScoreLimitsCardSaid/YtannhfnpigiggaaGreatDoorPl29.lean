import Derived.Test.YtannhfnpigiggaaGreatDoorPl28
import Derived.Laws.StructEq
namespace Go.Proofs.YtannhfnpigiggaaGreatDoor
set_option linter.unusedSimpArgs false
set_option linter.unusedVariables false
open Go.RowKit
structure Ar16(P:Program)(K U:TypeId):Prop where
 arr:P.underlying K=some (.array 16 U)
 int:P.underlying U=some (.int .u8)
 size:∀w,(sizeOf U).run P w=.ok 1 w
 plain:∀w,(isAgg U).run P w=.ok false w
abbrev auC(l:List Int):List Value:=l.map (Value.int .u8)
def auV(l:List Int):Value:=.agg (auC l).toArray
theorem auC_at(l:List Int)(i:Nat)(h:i<l.length):(auC l).toArray[i]?=some (.int .u8 l[i]):=by simp[auC,h]
theorem part_a8{P:Program}{K U:TypeId}(T:Ar16 P K U)(w:World)(cs:Array Value)(i:Nat)(v:Value)(h:cs[i]?=some v):(part U cs i).run P w=.ok v w:=by
 simp[part,T.plain,h]
theorem eq_a8{P:Program}{K U:TypeId}(T:Ar16 P K U)(w:World)(n:Nat)(a b:Int):(Op.equalIn (n+1) U (.int .u8 a) (.int .u8 b)).run P w=.ok (a==b) w:=by
 rw[Op.equalIn]
 simp[run_underlying T.int]
theorem loop_all16{P:Program}(w:World){n:Nat}(f:Nat->Option Bool × Unit->Sem (ForInStep (Option Bool × Unit)))(p:Nat->Bool)
  (h:∀i,i<n->(f i (none,())).run P w=.ok (if p i then .yield (none,()) else .done (some false,())) w) :
  ∀k s,s+k<=n->(forIn (List.range' s k) (none,()) f).run P w=.ok (if (List.range' s k).all p then (none,()) else (some false,())) w:=by
 intro k
 induction k with
 | zero=>intro s _;simp
 | succ k ih =>
  intro s hs
  rw[List.range'_succ,List.forIn_cons,Sem.run_bind,h s (by omega),List.all_cons]
  cases hp:p s with
  | true=>rw[Bool.true_and];simpa using ih (s+1) (by omega)
  | false=>simp
theorem au_eq{P:Program}{K U:TypeId}(T:Ar16 P K U)(w:World)(n:Nat)(l m:List Int)(hl:l.length=16)(hm:m.length=16) :
  (Op.equalIn (n+2) K (auV l) (auV m)).run P w=.ok (decide (l=m)) w:=by
 have h0:∀i v (cs:Array Value),cs[i]?=some v->(part U cs i).run P w=.ok v w:=fun i v cs h=>part_a8 T w cs i v h
 rw[Op.equalIn]
 simp only[Sem.run_bind,run_underlying T.arr,Result.andThen_ok,T.size,auV]
 simp only[Std.Legacy.Range.forIn_eq_forIn_range',Std.Legacy.Range.size,Nat.mul_one,Nat.sub_zero,Nat.add_one_sub_one,Nat.div_one]
 rw[loop_all16 (n:=16) w _ (fun i=>decide (l[i]?=m[i]?)) ?_ 16 0 (by omega)]
 ·have e:(List.range' 0 16).all (fun i=>decide (l[i]?=m[i]?))=decide (l=m):=by
   rw[Bool.eq_iff_iff,List.all_eq_true,decide_eq_true_eq]
   constructor
   ·intro h
    refine List.ext_getElem? fun i=>?_
    by_cases hi:i<16
    ·exact of_decide_eq_true (h i (List.mem_range'_1.2 ⟨by omega,by omega⟩))
    ·rw[List.getElem?_eq_none (by omega),List.getElem?_eq_none (by omega)]
   ·rintro rfl i _
    simp
  rw[e]
  by_cases hlm:l=m<;>simp[hlm]
 ·intro i hi
  simp only[Sem.run_bind,h0 i _ _ (auC_at l i (by omega)),h0 i _ _ (auC_at m i (by omega)),Result.andThen_ok,eq_a8 T]
  have e:(l[i]==m[i])=decide (l[i]?=m[i]?):=by
   rw[List.getElem?_eq_getElem (by omega),List.getElem?_eq_getElem (by omega),Bool.eq_iff_iff];simp
  rw[e]
  cases decide (l[i]?=m[i]?)<;>simp
theorem ar16:Ar16 Tryz.prog 23 5:=⟨Tryz.underlying23,Tryz.underlying5,fun _=>by kernel_rfl,fun _=>by kernel_rfl⟩
theorem au_equal2(w:World)(p q:List Int)(hp:p.length=16)(hq:q.length=16):(Op.equalIn 10000 23 (auV p) (auV q)).run Tryz.prog w=.ok (decide (p=q)) w:=au_eq ar16 w 9998 p q hp hq
theorem num_map_inj:∀(a b:Bs),a.map num=b.map num->a=b
 | [], [],_=>rfl
 | [],_::_,h=>by cases h
 | _::_, [],h=>by cases h
 | c::r,d::s,h=>by
  simp only[List.map_cons]at h
  injection h with h1 h2
  have:c=d:=by
   apply UInt8.toNat_inj.1
   simp only[num]at h1;omega
  rw[this,num_map_inj r s h2]
def OkAu(w:World)(v:Value):Prop := ∃u,(Instr.loadAt 23 v).run Tryz.prog w=.ok u w
noncomputable def auOf(w:World)(v:Value):Value:=by
 classical exact if h:OkAu w v then h.choose else undef
theorem au_of{w:World}{v u:Value}(h:(Instr.loadAt 23 v).run Tryz.prog w=.ok u w):OkAu w v/\auOf w v=u:=by
 have hk:OkAu w v:=⟨u,h⟩
 refine⟨hk,?_⟩
 have h2:=h.symm.trans hk.choose_spec
 unfold auOf
 rw[dif_pos hk]
 injection h2 with h2 _
 exact h2.symm
theorem wp_load_au{d:Option Tmp}{ty:TypeId}{pos:String}{af:Array Edge}{x:Operand}{a:Act}{w:World}{K:Act->World->Prop}{Q:Exit->Act->World->Prop}{g:Option (Nat × Bool)}(h:OkAu w (a.eval x)) :
  Oper.wp Tryz.prog { dst:=d,op:=.load 23 x,type:=ty,pos:=pos,after:=af,guard:=g } a w K Q=K (a.put d (auOf w (a.eval x))) w:=by
 obtain⟨u,hu⟩:=h
 rw[(au_of hu).2]
 unfold Oper.wp execOp
 simp only[hu,Sem.run_bind,Sem.run_pure,Result.andThen_ok]
 rfl
attribute [local go_sem ↓] wp_load_in wp_load_au
theorem byV_auC(l:Bs):byV l=auC (l.map num):=by simp[byV]
set_option maxHeartbeats 4000000 in
set_option maxRecDepth 100000 in
theorem h_auth{x:InS}{IC:Array Value}{A:Option Addr}{gc:Nat}(h:InV x IC A gc){t:Bs}(ht:authB t=true)(w:World) :
  Calls Tryz.prog 216 #[.agg (.string (ofL t)::byV (unhexL t)).toArray,.agg IC] w (HoP (x.author==unhexL t) w):=by
 have hl:(unhexL t).length=16:=by
  have:t.length=32:=by
   unfold authB at ht
   simp only[Bool.and_eq_true,decide_eq_true_eq]at ht
   exact ht.1
  rw[unhexL_len,this]
 have hau:=h.au
 obtain⟨TA,hTA⟩:∃TA:Array Value,(.string (ofL t)::byV (unhexL t)).toArray=TA:=⟨_,rfl⟩
 have HV:=Lib.hid (show(x.author==unhexL t)=decide (x.author.map num=(unhexL t).map num) from by
  rw[Bool.eq_iff_iff,beq_iff_eq,decide_eq_true_eq]
  exact⟨fun e=>by rw[e],fun e=>num_map_inj _ _ e⟩)
 have HW:=two_new w (.cells TA 167) (.cells IC 26)
 have hr1:((w.alloc (.cells TA 167)).alloc (.cells IC 26)).rangeAt w.heap.size 1 (auC ((unhexL t).map num)):=fun j v hv=>by
  rw[Lib.cell_of_heap HW.1, ← hTA]
  show(Value.string (ofL t)::byV (unhexL t)).toArray[1+j]?=some v
  rw[byV_auC]
  simpa[Nat.add_comm 1 j] using hv
 have hr2:((w.alloc (.cells TA 167)).alloc (.cells IC 26)).rangeAt (w.heap.size+1) 3 (auC (x.author.map num)):=fun j v hv=>by
  rw[Lib.cell_of_heap HW.2.1]
  have hj:j<x.author.length:=by have:=(List.getElem?_eq_some_iff.1 hv).1;simpa using this
  have h2:v=.int .u8 (num x.author[j]):=by
   rw[List.getElem?_eq_getElem (by simpa using hj)]at hv
   injection hv with hv
   rw[<-hv];simp
  rw[h2]
  exact h.cau j hj
 have l1:=range_loadS (T:=23) hr1 Tryz.underlying23 rfl (by rw[size_Au];simp[hl])
 have l2:=range_loadS (T:=23) hr2 Tryz.underlying23 rfl (by rw[size_Au];simp[hau])
 obtain⟨o1,e1⟩:=au_of l1
 obtain⟨o2,e2⟩:=au_of l2
 have hq:=fun wx=>au_equal2 wx (x.author.map num) ((unhexL t).map num) (by simp[hau]) (by simp[hl])
 unfold auV at hq
 have HB:=Lib.hid HW.2.2.1
 rw[hTA]
 obtain⟨P,hP⟩:∃P,(auC (x.author.map num)).toArray=P:=⟨_,rfl⟩
 obtain⟨R,hR⟩:∃R,(auC ((unhexL t).map num)).toArray=R:=⟨_,rfl⟩
 rw[hP]at e2 hq
 rw[hR]at e1 hq
 generalize decide (x.author.map num=(unhexL t).map num)=q at *
 have hg:=Tryz.eqGuardType23
 clear h hr1 hr2 l1 l2 HW hP hR hTA hl hau ht
 go_enter Tryz.func216,Tryz.ntmps216
 go_wp2_with fail
 go_ret
 exact⟨ret_bool HV.out.symm,HB.out⟩
end Go.Proofs.YtannhfnpigiggaaGreatDoor
