import Derived.Test.YtannhfnpigiggaaGreatDoorPl29
namespace Go.Proofs.YtannhfnpigiggaaGreatDoor
set_option linter.unusedSimpArgs false
set_option linter.unusedVariables false
open Go.RowKit
structure FstPred(f:Nat)(v0:Value)(p:List UInt8->Bool)(I:World->Prop):Prop where
 enters:∀args w,(callFunc f args).run Tryz.prog w=.ok (.enter f args) w
 calls:∀(s:ByteArray) (w:World),I w->s.size<=1000->Calls Tryz.prog f #[v0,.string s] w fun e w'=>e=.returned (.bool (p (toL s)))/\Below w.heap.size w w'
 keeps:∀w w',I w->Below w.heap.size w w'->I w'
set_option maxHeartbeats 1000000 in
theorem sl_indexFunc_fst(f:Nat)(v0:Value)(p:List UInt8->Bool)(I:World->Prop)(hf:FstPred f v0 p I)(A:Option Addr)(l:List (List UInt8))(c:Nat)(w:World)(hl:l.length<=10000000)(hr:Row w A (strsL l))(hI:I w)(hle:∀x∈l,x.length<=1000) :
  Calls Tryz.prog 126 #[.slice A l.length c,.func (.func f) #[v0] #[]] w fun e w'=>e=.returned (.int .i64 (findI p l 0))/\Below w.heap.size w w':=by
 have he:=hf.enters
 have HLE:=Lib.hid hle;clear hle
 have HR:=Lib.hid hr;clear hr
 have HI:=Lib.hid hI;clear hI
 go_enter Tryz.func126,Tryz.ntmps126
 go_wp2_with fail
 go_loopw [8,5] (fun v _ wr=>∃k:Nat,k<=l.length/\findI p l 0=findI p (l.drop k) k/\v=.int .i64 k/\Below w.heap.size w wr) (fun v _ _=>l.length-(intOf v).toNat)
 case atStart=>exact⟨0,by omega,rfl,rfl,Below.refl _ _⟩
 case round =>
  obtain⟨k,hk,heq,rfl,hb⟩:=hrel
  by_cases hlt:k<l.length
  ·obtain⟨b,off,rfl,hc⟩:=(HR.out.below hb).cell (k:=k) (by simpa using hlt)
   rw[List.getElem_map]at hc
   rw[List.drop_eq_getElem_cons hlt,findI]at heq
   have HQ:=Lib.hid heq;clear heq
   have hx:(ofL l[k]).size<=1000:=by rw[ofL_size];exact HLE.out _ (List.getElem_mem hlt)
   rcases hp:p l[k] with _|_
   ·go_wp2_with fail
    refine(hf.calls (ofL l[k]) wr (hf.keeps _ _ HI.out hb) hx).mono ?_
    rintro e w2 ⟨rfl,hb2⟩
    rw[toL_ofL]
    go_wp2_with fail
    go_roundw
    case rel=>exact⟨k+1,by omega,by rw[HQ.out,if_neg (by simp[hp])],by go_num,hb.trans (hb2.mono hb.size)⟩
    case measure=>simp[intOf]<;>omega
   ·go_wp2_with fail
    refine(hf.calls (ofL l[k]) wr (hf.keeps _ _ HI.out hb) hx).mono ?_
    rintro e w2 ⟨rfl,hb2⟩
    rw[toL_ofL]
    go_wp2_with fail
    go_ret
    exact⟨ret_int (by rw[HQ.out,if_pos hp]),hb.trans (hb2.mono hb.size)⟩
  ·have hd:l.drop k=[]:=List.drop_eq_nil_of_le (by omega)
   rw[hd,findI]at heq
   have HQ:=Lib.hid heq;clear heq hd
   go_wp2_with fail
   go_ret
   exact⟨ret_int (by rw[HQ.out]),hb⟩
set_option maxHeartbeats 1000000 in
theorem sl_containsFunc_fst(f:Nat)(v0:Value)(p:List UInt8->Bool)(I:World->Prop)(hf:FstPred f v0 p I)(A:Option Addr)(l:List (List UInt8))(c:Nat)(w:World)(hl:l.length<=10000000)(hr:Row w A (strsL l))(hI:I w)(hle:∀x∈l,x.length<=1000) :
  Calls Tryz.prog 108 #[.slice A l.length c,.func (.func f) #[v0] #[]] w fun e w'=>e=.returned (.bool (l.any p))/\Below w.heap.size w w':=by
 have H:=Lib.hid (sl_indexFunc_fst f v0 p I hf A l c w hl hr hI hle)
 clear hr hI hle
 go_enter Tryz.func108,Tryz.ntmps108
 go_wp2_with (refine H.out.mono ?_;rintro e w' ⟨rfl,hb⟩)
 go_ret
 exact⟨ret_bool (findI_geq _ _ _),hb⟩
set_option maxHeartbeats 4000000 in
set_option maxRecDepth 100000 in
theorem h_grp{x:InS}{IC:Array Value}{A:Option Addr}{gc:Nat}(h:InV x IC A gc){t:Bs}{pb:Nat}(w:World)(hp:PatT w pb (ofL t) (compF t).1)(hg:Row w A (strsL x.groups)) :
  Calls Tryz.prog 218 #[.agg #[.pointer (some ⟨pb,0,none⟩)],.agg IC] w (HoP (x.groups.any fun g=>matchF (compF t).1 g) w):=by
 have hl:=(compF_len t).1
 have hok:=compF_ok t
 have HW:=two_new w (.cells #[.pointer (some ⟨pb,0,none⟩)] 170) (.cells IC 26)
 have hW2:=HW.2.2.1
 have HF:=sl_containsFunc_fst 219 (.pointer (some ⟨pb,0,none⟩)) (fun g=>matchF (compF t).1 g) (fun wx=>PatT wx pb (ofL t) (compF t).1)
  ⟨Tryz.call219,fun s wx hx hs=>pat_match pb (ofL t) _ s wx hx.at (by omega) hok (by omega),fun _ _ a b=>a.below b⟩
  A x.groups gc _ (by have:=h.gn;omega) (hg.below hW2) (hp.below hW2) h.gs
 have HF2:=Lib.hid HF
 have HB:=Lib.hid hW2
 have c0:((w.alloc (.cells #[.pointer (some ⟨pb,0,none⟩)] 170)).alloc (.cells IC 26)).cell? ⟨w.heap.size,0,none⟩=some (.pointer (some ⟨pb,0,none⟩)):=by rw[Lib.cell_of_heap HW.1];rfl
 have c1:=in_cell HW.2.1 h.c19
 have hgn:=h.gn
 clear h HW hW2 HF hp hg hok hl
 generalize x.groups.length=n at *
 generalize (x.groups.any fun g=>matchF (compF t).1 g)=q at *
 go_enter Tryz.func218,Tryz.ntmps218
 go_upto_region 1 with fail
 generalize (w.alloc (.cells #[.pointer (some ⟨pb,0,none⟩)] 170)).alloc (.cells IC 26)=W at *
 go_wp2_with ((go_at_call 108;(with_reducible refine HF2.out.mono ?_);rintro e w2 ⟨rfl,hb2⟩;have HB2:=Lib.hid (HB.out.trans (hb2.mono HB.out.size));clear hb2))
 go_ret
 exact⟨rfl,HB2.out⟩
attribute [local go_sem ↓] wp_load_in
def MethOk(v : Value)(f : Nat)(y : Value) : Prop := ∀args w, (callMethod v "bulletin/score.holds" args).run Tryz.prog w=.ok (.enter f (#[y]++args)) w
def OkMeth(v:Value):Prop := ∃p:Nat × Value,MethOk v p.1 p.2
noncomputable def mFn(v:Value):Nat:=by
 classical exact if h:OkMeth v then h.choose.1 else 0
noncomputable def mRecv(v:Value):Value:=by
 classical exact if h:OkMeth v then h.choose.2 else undef
theorem meth_of{v:Value}{f:Nat}{y:Value}(h:MethOk v f y):OkMeth v/\mFn v=f/\mRecv v=y:=by
 have hk:OkMeth v:=⟨(f,y),h⟩
 have h3:=(h #[] default).symm.trans (hk.choose_spec #[] default)
 injection h3 with h3 _
 injection h3 with h4 h5
 have h6:y=hk.choose.2:=by
  have:=congrArg (fun a:Array Value=>a[0]?) h5
  simpa using this
 unfold mFn mRecv
 rw[dif_pos hk,dif_pos hk]
 exact⟨hk,h4.symm,h6.symm⟩
theorem wp_meth{d:Option Tmp}{ty:TypeId}{pos:String}{af:Array Edge}{r x:Operand}{ats:Array TypeId}{a:Act}{w:World}{K:Act->World->Prop}{Q:Exit->Act->World->Prop}{g:Option (Nat × Bool)}(h:OkMeth (a.eval r)) :
  Oper.wp Tryz.prog { dst := d, op := .call { callee := .invoke r "bulletin/score.holds", args := #[x], argTypes := ats }, type := ty, pos := pos, after := af, guard := g } a w K Q=Calls Tryz.prog (mFn (a.eval r)) #[mRecv (a.eval r), a.eval x] w fun
   | .returned v,w''=>K (a.put d v) w''
   | .panicked chain,w''=>Q (.panic chain) a w''
   | .outgrown,_=>LetsOut Q:=by
 obtain⟨⟨f,y⟩,hm⟩:=h
 obtain⟨_,h1,h2⟩:=meth_of hm
 rw[h1,h2]
 have hr : (execOp a.eval { dst := d, op := .call { callee := .invoke r "bulletin/score.holds", args := #[x], argTypes := ats }, type := ty, pos := pos, after := af, guard := g }).run Tryz.prog w=.ok (.enter f #[y, a.eval x]) w := by
  have:=hm #[a.eval x] w
  unfold execOp resolve
  simp only[Sem.run_bind,Sem.run_pure,Result.andThen_ok,invoke]
  simpa using this
 unfold Oper.wp
 rw[hr]
 rfl
attribute [local go_sem ↓] wp_meth
def HoAt(IC:Array Value)(q:Bool)(v:Value)(w:World):Prop:=OkMeth v/\(∃T y,v=.iface T y)/\∀wx,Below w.heap.size w wx->Calls Tryz.prog (mFn v) #[mRecv v,.agg IC] wx (HoP q wx)
theorem HoAt.below{IC:Array Value}{q:Bool}{v:Value}{w wx:World}(h:HoAt IC q v w)(hb:Below w.heap.size w wx):HoAt IC q v wx :=
 ⟨h.1,h.2.1,fun wy hy=>h.2.2 wy (hb.trans (hy.mono hb.size))⟩
set_option maxHeartbeats 4000000 in
set_option maxRecDepth 100000 in
theorem h_either1{IC:Array Value}{q:Bool}{v:Value}{w:World}{p:Nat}(hi:w.heap[p]?=some (.cells IC 26 (0,0)))(hs:IC.size=25)(h:HoAt IC q v w) :
  Calls Tryz.prog 203 #[v,.pointer (some ⟨p,0,none⟩)] w (HoP q w):=by
 obtain⟨o1,e1⟩:=in_of (in_load hi hs)
 have HC:=Lib.hid (h.2.2 w (Below.refl _ _))
 have hm:=h.1
 clear h hi
 go_enter Tryz.func203,Tryz.ntmps203
 go_wp2_with ((with_reducible refine HC.out.mono ?_);rintro e w2 ⟨rfl,hb2⟩;have HB2:=Lib.hid hb2;clear hb2)
 go_ret
 exact⟨rfl,HB2.out⟩
set_option maxHeartbeats 4000000 in
set_option maxRecDepth 100000 in
theorem h_both1{IC:Array Value}{q:Bool}{v:Value}{w:World}{p:Nat}(hi:w.heap[p]?=some (.cells IC 26 (0,0)))(hs:IC.size=25)(h:HoAt IC q v w) :
  Calls Tryz.prog 207 #[v,.pointer (some ⟨p,0,none⟩)] w (HoP (!q) w):=by
 obtain⟨o1,e1⟩:=in_of (in_load hi hs)
 have HC:=Lib.hid (h.2.2 w (Below.refl _ _))
 have hm:=h.1
 clear h hi
 go_enter Tryz.func207,Tryz.ntmps207
 go_wp2_with ((with_reducible refine HC.out.mono ?_);rintro e w2 ⟨rfl,hb2⟩;have HB2:=Lib.hid hb2;clear hb2)
 go_ret
 exact⟨rfl,HB2.out⟩
set_option maxHeartbeats 4000000 in
set_option maxRecDepth 100000 in
theorem h_neg{IC:Array Value}{q:Bool}{v:Value}{w:World}(hs:IC.size=25)(h:HoAt IC q v w) :
  Calls Tryz.prog 209 #[.agg #[v],.agg IC] w (HoP (!q) w):=by
 obtain⟨q0,q1,q2,q3⟩:=two_new w (.cells #[v] 159) (.cells IC 26)
 have HB:=Lib.hid q2
 have c0:((w.alloc (.cells #[v] 159)).alloc (.cells IC 26)).cell? ⟨w.heap.size,0,none⟩=some v:=by rw[Lib.cell_of_heap q0];rfl
 obtain⟨o1,e1⟩:=in_of (in_load q1 hs)
 have HC:=Lib.hid (h.2.2 _ q2)
 have hm:=h.1
 have hv:=h.2.1
 clear h q0 q1 q2 q3
 obtain⟨T,y,rfl⟩:=hv
 go_enter Tryz.func209,Tryz.ntmps209
 go_upto_region 1 with fail
 generalize (w.alloc (.cells #[.iface T y] 159)).alloc (.cells IC 26)=W at *
 go_wp2_with ((with_reducible refine HC.out.mono ?_);rintro e w2 ⟨rfl,hb2⟩;have HB2:=Lib.hid (HB.out.trans (hb2.mono HB.out.size));clear hb2)
 go_ret
 exact⟨rfl,HB2.out⟩
set_option maxHeartbeats 4000000 in
set_option maxRecDepth 100000 in
theorem idx_either{w:World}{p:Nat}{vs:List Value}{qs:List Bool}(A:Option Addr)(n c:Nat)(hn:vs.length=n)(hl:vs.length=qs.length)(hm:vs.length<=1000000)(hr:Row w A vs)(hif:∀(i:Nat) (h:i<vs.length),∃T y,vs[i]=.iface T y)
  (hc:∀(i:Nat) (h1:i<vs.length) (h2:i<qs.length) (wx:World),Below w.heap.size w wx->Calls Tryz.prog 203 #[vs[i],.pointer (some ⟨p,0,none⟩)] wx (HoP qs[i] wx)) :
  Calls Tryz.prog 204 #[.slice A n c,.func (.func 203) #[] #[.pointer (some ⟨p,0,none⟩)]] w fun e w'=>(∃i:Int,e=.returned (.int .i64 i)/\decide (0<=i)=qs.any id)/\Below w.heap.size w w':=by
 subst hn
 have he:=Tryz.call203
 have HR:=Lib.hid hr
 have HL:=Lib.hid hl
 have HC:=Lib.hid hc
 have HIF:=Lib.hid hif
 obtain⟨R,hR⟩:∃R,qs.any id=R:=⟨_,rfl⟩
 rw[hR]
 have HRR:=Lib.hid hR
 clear hr hc hif hR hl
 go_enter Tryz.func204,Tryz.ntmps204
 go_wp2_with fail
 go_loopw [5,8] (fun _ v wr=>∃i:Nat,i<=vs.length/\v=.int .i64 (i:Int)/\Below w.heap.size w wr/\(qs.drop i).any id=R) (fun _ v _=>vs.length-(intOf v).toNat)
 case atStart=>exact⟨0,by omega,rfl,Below.refl _ _,HRR.out⟩
 case round =>
  obtain⟨i,hi,rfl,hb,ha⟩:=hrel
  have HB:=Lib.hid hb
  have HA:=Lib.hid ha
  have hz:=hb.size
  clear hb ha HRR
  have i0:(0:Int)<=(i:Int):=by omega
  by_cases hlt:i<vs.length
  ·have i1:(i:Int)<(vs.length:Int):=by omega
   have hlq:i<qs.length:=HL.out ▸ hlt
   obtain⟨bb,off,rfl,hbb,hcc⟩:=(HR.out.below HB.out).at (k:=i) hlt
   have c0:=hcc i (vs[i]'hlt) (by rw[List.getElem?_eq_getElem hlt])
   have HD:=Lib.hid (show qs.drop i=(qs[i]'hlq)::qs.drop (i+1) from List.drop_eq_getElem_cons hlq)
   have HX:=Lib.hid (HC.out i hlt hlq wr HB.out)
   obtain⟨T,y,hv⟩:=HIF.out i hlt
   rw[hv]at c0 HX
   rw[HD.out,List.any_cons]at HA
   clear hcc hv
   rcases hq:(qs[i]'hlq) with _|_
   ·rw[hq]at HX HA
    rw[show(id false || (qs.drop (i+1)).any id)=(qs.drop (i+1)).any id from rfl]at HA
    clear hq HD
    go_wp2_with ((go_at_call 203;(with_reducible refine HX.out.mono ?_);rintro e w2 ⟨rfl,hb2⟩;have HB2:=Lib.hid hb2;clear hb2))
    go_roundw
    case rel=>exact⟨i+1,by omega,by go_num,HB.out.trans (HB2.out.mono hz),HA.out⟩
    case measure=>simp[intOf]<;>omega
   ·rw[hq]at HX HA
    rw[show(id true || (qs.drop (i+1)).any id)=true from rfl]at HA
    clear hq HD
    have HAR:=Lib.hid HA.out
    clear HA
    go_wp2_with ((go_at_call 203;(with_reducible refine HX.out.mono ?_);rintro e w2 ⟨rfl,hb2⟩;have HB2:=Lib.hid hb2;clear hb2))
    go_ret
    exact⟨⟨(i:Int),rfl,by rw[<-HAR.out];exact decide_eq_true (by omega)⟩,HB.out.trans (HB2.out.mono hz)⟩
  ·have i1:(vs.length:Int)<=(i:Int):=by omega
   have HF:=Lib.hid (show R=false from by rw[<-HA.out,List.drop_eq_nil_of_le (by have:=HL.out;omega)];rfl)
   go_wp2_with fail
   go_ret
   exact⟨⟨-1,rfl,by rw[HF.out];rfl⟩,HB.out⟩
set_option maxHeartbeats 4000000 in
set_option maxRecDepth 100000 in
theorem con_either{w:World}{p:Nat}{vs:List Value}{qs:List Bool}(A:Option Addr)(n c:Nat)(hn:vs.length=n)(hl:vs.length=qs.length)(hm:vs.length<=1000000)(hr:Row w A vs)(hif:∀(i:Nat) (h:i<vs.length),∃T y,vs[i]=.iface T y)
  (hc:∀(i:Nat) (h1:i<vs.length) (h2:i<qs.length) (wx:World),Below w.heap.size w wx->Calls Tryz.prog 203 #[vs[i],.pointer (some ⟨p,0,none⟩)] wx (HoP qs[i] wx)) :
  Calls Tryz.prog 202 #[.slice A n c,.func (.func 203) #[] #[.pointer (some ⟨p,0,none⟩)]] w (HoP (qs.any id) w):=by
 have HX:=Lib.hid (idx_either A n c hn hl hm hr hif hc)
 obtain⟨R,hR⟩:∃R,qs.any id=R:=⟨_,rfl⟩
 rw[hR]at HX⊢
 clear hr hR hif hc hl hm hn
 go_enter Tryz.func202,Tryz.ntmps202
 go_wp2_with ((go_at_call 204;(with_reducible refine HX.out.mono ?_);rintro e w2 ⟨⟨i,rfl,hi⟩,hb2⟩;have HI:=Lib.hid hi;have HB2:=Lib.hid hb2;clear hb2 hi))
 go_ret
 exact⟨ret_bool (by rw[<-HI.out]),HB2.out⟩
set_option maxHeartbeats 4000000 in
set_option maxRecDepth 100000 in
theorem h_either{IC:Array Value}{w:World}{vs:List Value}{qs:List Bool}(hs:IC.size=25)(A:Option Addr)(n c:Nat)(hn:vs.length=n)(hl:vs.length=qs.length)(hm:vs.length<=1000000)(hr:Row w A vs)
  (hc:∀(i:Nat) (h1:i<vs.length) (h2:i<qs.length),HoAt IC qs[i] vs[i] w) :
  Calls Tryz.prog 201 #[.slice A n c,.agg IC] w (HoP (qs.any id) w):=by
 have HB:=Lib.hid (alloc_bel w (.cells IC 26))
 have hX:=in_new w IC
 have HC:=Lib.hid (con_either (w:=inB w IC) (p:=w.heap.size) (qs:=qs) A n c hn hl hm (hr.below HB.out) (fun i h=>(hc i h (by omega)).2.1) (fun i h1 h2 wx hx=>h_either1 ((hx.block _ (heap_lt hX)).trans hX) hs ((hc i h1 h2).below (HB.out.trans (hx.mono HB.out.size)))))
 generalize qs.any id=R at *
 clear hX hr hc hl hm hn hs
 unfold inB at HC
 go_enter Tryz.func201,Tryz.ntmps201
 go_wp2_with ((go_at_call 202;(with_reducible refine HC.out.mono ?_);rintro e w2 ⟨rfl,hb2⟩;have HB2:=Lib.hid (HB.out.trans (hb2.mono HB.out.size));clear hb2))
 go_ret
 exact⟨rfl,HB2.out⟩
set_option maxHeartbeats 4000000 in
set_option maxRecDepth 100000 in
theorem idx_both{w:World}{p:Nat}{vs:List Value}{qs:List Bool}(A:Option Addr)(n c:Nat)(hn:vs.length=n)(hl:vs.length=qs.length)(hm:vs.length<=1000000)(hr:Row w A vs)(hif:∀(i:Nat) (h:i<vs.length),∃T y,vs[i]=.iface T y)
  (hc:∀(i:Nat) (h1:i<vs.length) (h2:i<qs.length) (wx:World),Below w.heap.size w wx->Calls Tryz.prog 207 #[vs[i],.pointer (some ⟨p,0,none⟩)] wx (HoP qs[i] wx)) :
  Calls Tryz.prog 208 #[.slice A n c,.func (.func 207) #[] #[.pointer (some ⟨p,0,none⟩)]] w fun e w'=>(∃i:Int,e=.returned (.int .i64 i)/\decide (0<=i)=qs.any id)/\Below w.heap.size w w':=by
 subst hn
 have he:=Tryz.call207
 have HR:=Lib.hid hr
 have HL:=Lib.hid hl
 have HC:=Lib.hid hc
 have HIF:=Lib.hid hif
 obtain⟨R,hR⟩:∃R,qs.any id=R:=⟨_,rfl⟩
 rw[hR]
 have HRR:=Lib.hid hR
 clear hr hc hif hR hl
 go_enter Tryz.func208,Tryz.ntmps208
 go_wp2_with fail
 go_loopw [5,8] (fun _ v wr=>∃i:Nat,i<=vs.length/\v=.int .i64 (i:Int)/\Below w.heap.size w wr/\(qs.drop i).any id=R) (fun _ v _=>vs.length-(intOf v).toNat)
 case atStart=>exact⟨0,by omega,rfl,Below.refl _ _,HRR.out⟩
 case round =>
  obtain⟨i,hi,rfl,hb,ha⟩:=hrel
  have HB:=Lib.hid hb
  have HA:=Lib.hid ha
  have hz:=hb.size
  clear hb ha HRR
  have i0:(0:Int)<=(i:Int):=by omega
  by_cases hlt:i<vs.length
  ·have i1:(i:Int)<(vs.length:Int):=by omega
   have hlq:i<qs.length:=HL.out ▸ hlt
   obtain⟨bb,off,rfl,hbb,hcc⟩:=(HR.out.below HB.out).at (k:=i) hlt
   have c0:=hcc i (vs[i]'hlt) (by rw[List.getElem?_eq_getElem hlt])
   have HD:=Lib.hid (show qs.drop i=(qs[i]'hlq)::qs.drop (i+1) from List.drop_eq_getElem_cons hlq)
   have HX:=Lib.hid (HC.out i hlt hlq wr HB.out)
   obtain⟨T,y,hv⟩:=HIF.out i hlt
   rw[hv]at c0 HX
   rw[HD.out,List.any_cons]at HA
   clear hcc hv
   rcases hq:(qs[i]'hlq) with _|_
   ·rw[hq]at HX HA
    rw[show(id false || (qs.drop (i+1)).any id)=(qs.drop (i+1)).any id from rfl]at HA
    clear hq HD
    go_wp2_with ((go_at_call 207;(with_reducible refine HX.out.mono ?_);rintro e w2 ⟨rfl,hb2⟩;have HB2:=Lib.hid hb2;clear hb2))
    go_roundw
    case rel=>exact⟨i+1,by omega,by go_num,HB.out.trans (HB2.out.mono hz),HA.out⟩
    case measure=>simp[intOf]<;>omega
   ·rw[hq]at HX HA
    rw[show(id true || (qs.drop (i+1)).any id)=true from rfl]at HA
    clear hq HD
    have HAR:=Lib.hid HA.out
    clear HA
    go_wp2_with ((go_at_call 207;(with_reducible refine HX.out.mono ?_);rintro e w2 ⟨rfl,hb2⟩;have HB2:=Lib.hid hb2;clear hb2))
    go_ret
    exact⟨⟨(i:Int),rfl,by rw[<-HAR.out];exact decide_eq_true (by omega)⟩,HB.out.trans (HB2.out.mono hz)⟩
  ·have i1:(vs.length:Int)<=(i:Int):=by omega
   have HF:=Lib.hid (show R=false from by rw[<-HA.out,List.drop_eq_nil_of_le (by have:=HL.out;omega)];rfl)
   go_wp2_with fail
   go_ret
   exact⟨⟨-1,rfl,by rw[HF.out];rfl⟩,HB.out⟩
set_option maxHeartbeats 4000000 in
set_option maxRecDepth 100000 in
theorem con_both{w:World}{p:Nat}{vs:List Value}{qs:List Bool}(A:Option Addr)(n c:Nat)(hn:vs.length=n)(hl:vs.length=qs.length)(hm:vs.length<=1000000)(hr:Row w A vs)(hif:∀(i:Nat) (h:i<vs.length),∃T y,vs[i]=.iface T y)
  (hc:∀(i:Nat) (h1:i<vs.length) (h2:i<qs.length) (wx:World),Below w.heap.size w wx->Calls Tryz.prog 207 #[vs[i],.pointer (some ⟨p,0,none⟩)] wx (HoP qs[i] wx)) :
  Calls Tryz.prog 206 #[.slice A n c,.func (.func 207) #[] #[.pointer (some ⟨p,0,none⟩)]] w (HoP (qs.any id) w):=by
 have HX:=Lib.hid (idx_both A n c hn hl hm hr hif hc)
 obtain⟨R,hR⟩:∃R,qs.any id=R:=⟨_,rfl⟩
 rw[hR]at HX⊢
 clear hr hR hif hc hl hm hn
 go_enter Tryz.func206,Tryz.ntmps206
 go_wp2_with ((go_at_call 208;(with_reducible refine HX.out.mono ?_);rintro e w2 ⟨⟨i,rfl,hi⟩,hb2⟩;have HI:=Lib.hid hi;have HB2:=Lib.hid hb2;clear hb2 hi))
 go_ret
 exact⟨ret_bool (by rw[<-HI.out]),HB2.out⟩
set_option maxHeartbeats 4000000 in
set_option maxRecDepth 100000 in
theorem h_both{IC:Array Value}{w:World}{vs:List Value}{qs:List Bool}(hs:IC.size=25)(A:Option Addr)(n c:Nat)(hn:vs.length=n)(hl:vs.length=qs.length)(hm:vs.length<=1000000)(hr:Row w A vs)
  (hc:∀(i:Nat) (h1:i<vs.length) (h2:i<qs.length),HoAt IC qs[i] vs[i] w) :
  Calls Tryz.prog 205 #[.slice A n c,.agg IC] w (HoP (qs.all id) w):=by
 have HB:=Lib.hid (alloc_bel w (.cells IC 26))
 have hX:=in_new w IC
 have HC:=Lib.hid (con_both (w:=inB w IC) (p:=w.heap.size) (qs:=qs.map (!·)) A n c hn (by simpa using hl) hm (hr.below HB.out) (fun i h=>(hc i h (by omega)).2.1) (fun i h1 h2 wx hx=>by
  have h3:=h_both1 ((hx.block _ (heap_lt hX)).trans hX) hs ((hc i h1 (by omega)).below (HB.out.trans (hx.mono HB.out.size)))
  rw[List.getElem_map];exact h3))
 have HV:=Lib.hid (show(!((qs.map (!·)).any id))=qs.all id from by
  rw[Bool.eq_iff_iff];simp)
 generalize (qs.map (!·)).any id=R at *
 clear hX hr hc hl hm hn hs
 unfold inB at HC
 go_enter Tryz.func205,Tryz.ntmps205
 go_wp2_with ((go_at_call 206;(with_reducible refine HC.out.mono ?_);rintro e w2 ⟨rfl,hb2⟩;have HB2:=Lib.hid (HB.out.trans (hb2.mono HB.out.size));clear hb2))
 go_ret
 exact⟨ret_bool HV.out,HB2.out⟩
theorem holdsAny_map(x:InS):∀l:List Cond,holdsAny x l=(l.map (holdsF x)).any id
 | []=>by rw[holdsAny];rfl
 | c::r=>by rw[holdsAny,List.map_cons,List.any_cons,holdsAny_map x r];rfl
theorem holdsAll_map(x:InS):∀l:List Cond,holdsAll x l=(l.map (holdsF x)).all id
 | []=>by rw[holdsAll];rfl
 | c::r=>by rw[holdsAll,List.map_cons,List.all_cons,holdsAll_map x r];rfl
theorem hoAt_of{IC:Array Value}{q:Bool}{v:Value}{w:World}{T:TypeId}{y:Value}{f:Nat}(hv:v=.iface T y)(hm:MethOk v f y)(h:∀wx,Below w.heap.size w wx->Calls Tryz.prog f #[y,.agg IC] wx (HoP q wx)):HoAt IC q v w:=by
 obtain⟨h1,h2,h3⟩:=meth_of hm
 exact⟨h1,⟨T,y,hv⟩,fun wx hx=>by rw[h2,h3];exact h wx hx⟩
theorem cond_holds{x:InS}{IC:Array Value}{G:Option Addr}{gc:Nat}(hx:InV x IC G gc){A:Nat->Prop}{w:World}(hA:∀k,A k->k<w.heap.size)(hsh:w.ShapedOpen Tryz.prog)(hg:Row w G (strsL x.groups)){c:Cond}{v:Value}(h:CondIn A w c v):HoAt IC (holdsF x c) v w:=by
 induction h with
 | @either l vs b off cp hl hp hm hb hr hs ih =>
  refine hoAt_of rfl (f:=201) (fun args w=>by kernel_rfl) (fun wx hwx=>?_)
  rw[holdsF,holdsAny_map]
  refine h_either (qs:=l.map (holdsF x)) hx.size _ _ _ hl (by simpa using hl) (by omega) (hr.below hwx) (fun i h1 h2=>?_)
  rw[List.getElem_map]
  exact(ih i (by simpa using h2) h1).below hwx
 | @both l vs b off cp hl hp hm hb hr hs ih =>
  refine hoAt_of rfl (f:=205) (fun args w=>by kernel_rfl) (fun wx hwx=>?_)
  rw[holdsF,holdsAll_map]
  refine h_both (qs:=l.map (holdsF x)) hx.size _ _ _ hl (by simpa using hl) (by omega) (hr.below hwx) (fun i h1 h2=>?_)
  rw[List.getElem_map]
  exact(ih i (by simpa using h2) h1).below hwx
 | neg h ih =>
  refine hoAt_of rfl (f:=209) (fun args w=>by kernel_rfl) (fun wx hwx=>?_)
  rw[holdsF]
  exact h_neg hx.size (ih.below hwx)
 | cmp hf ho hn =>
  refine hoAt_of rfl (f:=210) (fun args w=>by kernel_rfl) (fun wx hwx=>?_)
  rw[holdsF]
  exact h_cmp hx hf ho wx
 | txt hf hm ht =>
  refine hoAt_of rfl (f:=211) (fun args w=>by kernel_rfl) (fun wx hwx=>?_)
  rw[holdsF]
  exact h_txt hx hf hm ht wx (shaped_below hsh hwx)
 | auth ht =>
  refine hoAt_of rfl (f:=216) (fun args w=>by kernel_rfl) (fun wx hwx=>?_)
  rw[holdsF]
  exact h_auth hx ht wx
 | grp ht hp =>
  refine hoAt_of rfl (f:=218) (fun args w=>by kernel_rfl) (fun wx hwx=>?_)
  rw[holdsF]
  exact h_grp hx wx (hp.below hwx) (hg.below hwx)


attribute [local go_sem ↓] wp_load_in wp_meth
set_option maxHeartbeats 4000000 in
set_option maxRecDepth 100000 in
theorem sc_applies{x:InS}{IC:Array Value}{G:Option Addr}{gc:Nat}(hx:InV x IC G gc){w:World}(hsh:w.ShapedOpen Tryz.prog)(hg:Row w G (strsL x.groups)){r:RuleS}{v:Value}{z:Nat}(hc:condO z r.cond v w)(AS:ByteArray)(m:Int)(e:Bool)(u:Int) :
  Calls Tryz.prog 32 #[.agg (ruleC AS m e u v),.agg IC] w (HoP (appS r x) w):=by
 obtain⟨q0,q1,q2,q3⟩:=two_new w (.cells (ruleC AS m e u v) 81) (.cells IC 26)
 have HB:=Lib.hid q2
 have c4:((w.alloc (.cells (ruleC AS m e u v) 81)).alloc (.cells IC 26)).cell? ⟨w.heap.size,4,none⟩=some v:=by rw[Lib.cell_of_heap q0];rfl
 obtain⟨o1,e1⟩:=in_of (in_load q1 hx.size)
 rcases hC:r.cond with _|c
 ·have HV:=Lib.hid (show appS r x=true from by unfold appS;rw[hC])
  rw[hC]at hc
  obtain rfl:v=.nilIface:=hc
  clear hC hx hsh hg q0 q1 q2 q3
  go_enter Tryz.func32,Tryz.ntmps32
  go_upto_region 1 with fail
  generalize (w.alloc (.cells (ruleC AS m e u .nilIface) 81)).alloc (.cells IC 26)=W at *
  go_wp2_with fail
  go_ret
  exact⟨ret_bool HV.out.symm,HB.out⟩
 ·have HV:=Lib.hid (show appS r x=holdsF x c from by unfold appS;rw[hC])
  rw[hC]at hc
  have hh:=cond_holds hx (A:=fun k=>z<=k/\k<w.heap.size) (fun k h=>h.2) hsh hg (show CondIn _ w c v from hc)
  have HC:=Lib.hid (hh.2.2 _ q2)
  have hm:=hh.1
  obtain⟨T,y,hv⟩:=hh.2.1
  subst hv
  generalize holdsF x c=q at *
  clear hC hx hsh hg q0 q1 q2 q3 hh hc
  go_enter Tryz.func32,Tryz.ntmps32
  go_upto_region 1 with fail
  generalize (w.alloc (.cells (ruleC AS m e u (.iface T y)) 81)).alloc (.cells IC 26)=W at *
  go_wp2_with ((with_reducible refine HC.out.mono ?_);rintro e w2 ⟨rfl,hb2⟩;have HB2:=Lib.hid (HB.out.trans (hb2.mono HB.out.size));clear hb2)
  go_ret
  exact⟨ret_bool HV.out.symm,HB2.out⟩
end Go.Proofs.YtannhfnpigiggaaGreatDoor
