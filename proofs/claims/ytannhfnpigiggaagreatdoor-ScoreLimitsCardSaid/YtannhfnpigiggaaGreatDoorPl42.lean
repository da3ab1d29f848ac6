import Derived.Test.YtannhfnpigiggaaGreatDoorPl39
import Derived.Test.YtannhfnpigiggaaGreatDoorPl41
namespace Go.Proofs.YtannhfnpigiggaaGreatDoor
set_option linter.unusedSimpArgs false
set_option linter.unusedVariables false
open Go.RowKit
attribute [local go_sem ↓] wp_load_inR
structure RsX(P:Nat->Prop)(w:World)(A:Option Addr)(rs:List RuleS)(vs:List (Array Value)):Prop where
 row:Row w A (vs.flatMap (·.toList))
 len:vs.length=rs.length
 el:∀(i:Nat) (h1:i<rs.length) (h2:i<vs.length),∃k B N c f op n t,vs[i]=rC (ofL rs[i].act) rs[i].amt (tilI rs[i].til) rs[i].cond.isSome k (.slice B N c) f op n t/\condX P w rs[i].cond (xC k (.slice B N c) f op n t)
section
variable {w wr wx : World} {IC : Array Value} {o : OutS}
end
attribute [local go_sem ↓] wp_load_inR
theorem info_R:(Tryz.prog.info? 59).map (fun i=>(i.zero,i.size,i.bytes))=some (some (.agg rZ),10,128):=by kernel_rfl
theorem el_R:Elem Tryz.prog 47 59 10 128:=Elem.of Tryz.underlying47 info_R rfl (by omega)
def RuX(P:Nat->Prop)(w:World)(r:RuleS)(x:Array Value):Prop := ∃k B N c f op n t,x=rC (ofL r.act) r.amt (tilI r.til) r.cond.isSome k (.slice B N c) f op n t/\condX P w r.cond (xC k (.slice B N c) f op n t)
theorem RuX.keep{P:Nat->Prop}{w w':World}{r:RuleS}{x:Array Value}(h:RuX P w r x)(hk:∀k,P k->w'.heap[k]?=w.heap[k]?)(hz:w.heap.size<=w'.heap.size):RuX P w' r x:=by
 obtain⟨k,B,N,c,f,op,n,t,e,hc⟩:=h
 exact⟨k,B,N,c,f,op,n,t,e,hc.keep hk hz⟩
theorem RuX.mono{P Q:Nat->Prop}{w:World}{r:RuleS}{x:Array Value}(h:RuX P w r x)(hs:∀k,P k->Q k):RuX Q w r x:=by
 obtain⟨k,B,N,c,f,op,n,t,e,hc⟩:=h
 exact⟨k,B,N,c,f,op,n,t,e,hc.mono hs⟩
structure LstR(z:Nat)(v:Value)(rs:List RuleS)(vs:List (Array Value))(w:World):Prop where
 own:w.ownsRow z 59 10 v rs.length (vs.flatMap (·.toList))
 len:vs.length=rs.length
 el:∀(i:Nat) (h1:i<rs.length) (h2:i<vs.length),RuX (fun k=>z<=k/\k<w.heap.size/\v.ownBlock≠some k) w rs[i] vs[i]
section
variable {z : Nat} {v : Value} {rs : List RuleS} {vs : List (Array Value)} {w w' : World}
theorem LstR.nil(z:Nat)(w:World):LstR z (.slice none 0 0) [] [] w:=⟨World.ownsRow_nil w z _ 10,rfl,fun i h=>by simp at h⟩
theorem LstR.keep(h:LstR z v rs vs w)(hk:∀k,z<=k->k<w.heap.size->w'.heap[k]?=w.heap[k]?)(hz:w.heap.size<=w'.heap.size):LstR z v rs vs w':=by
 refine⟨own_oth h.own fun k e=>hk k (h.own.lt k e).1 (h.own.lt k e).2,h.len,fun i h1 h2=>?_⟩
 exact((h.el i h1 h2).keep (fun k hA=>hk k hA.1 hA.2.1) hz).mono fun k hA=>⟨hA.1,Nat.lt_of_lt_of_le hA.2.1 hz,hA.2.2⟩
theorem LstR.below(h:LstR z v rs vs w)(hb:Below w.heap.size w w'):LstR z v rs vs w':=h.keep (fun k _ hk=>hb.block k hk) hb.size
theorem LstR.push{v':Value}{r:RuleS}{x:Array Value}{z1:Nat}(h:LstR z v rs vs w)(hz1:z<=z1)(hx:RuX (fun k=>z1<=k/\k<w.heap.size) w r x)(hgl:∀g,v.ownBlock=some g->g<z1)(ho:w'.ownsRow z 59 10 v' (rs.length+1) (vs.flatMap (·.toList)++x.toList))(hg:w.grownBy w' v.ownBlock)
  (hat:v'.ownBlock=v.ownBlock\/∀g,v'.ownBlock=some g->w.heap.size<=g):LstR z v' (rs ++ [r]) (vs ++ [x]) w':=by
 have hn:∀k,k<w.heap.size->v.ownBlock≠some k->v'.ownBlock≠some k:=fun k hk hv e=>by
  rcases hat with h1|h1
  ·exact hv (h1 ▸ e)
  ·have:=h1 k e;omega
 refine⟨by rw[List.length_append,List.flatMap_append];simpa using ho,by simp[h.len],fun i h1 h2=>?_⟩
 by_cases hi:i<rs.length
 ·have hi2:i<vs.length:=by rw[h.len];exact hi
  rw[List.getElem_append_left hi,List.getElem_append_left hi2]
  exact((h.el i hi hi2).keep (fun k hk=>hg.block k hk.2.1 (fun e=>hk.2.2 e.symm)) hg.size).mono fun k hk=>⟨hk.1,Nat.lt_of_lt_of_le hk.2.1 hg.size,hn k hk.2.1 hk.2.2⟩
 ·have h1':i=rs.length:=by simp at h1;omega
  subst h1'
  have e1:(rs ++ [r])[rs.length]=r:=by simp
  have e2:(vs ++ [x])[rs.length]'h2=x:=by
   have hl:=h.len
   rw[List.getElem_append_right (by omega)];simp[hl]
  rw[e1,e2]
  exact(hx.keep (fun k hk=>hg.block k hk.2 (fun e=>by have:=hgl k e.symm;omega)) hg.size).mono fun k hk=>⟨by omega,Nat.lt_of_lt_of_le hk.2 hg.size,hn k hk.2 (fun e=>by have:=hgl k e;omega)⟩
theorem LstR.done(h:LstR z v rs vs w):∃A c,v=.slice A rs.length c/\RsX (fun k=>z<=k/\k<w.heap.size) w A rs vs:=by
 obtain⟨A,c,e,hr⟩:=own_row h.own
 exact⟨A,c,e,hr,h.len,fun i h1 h2=>(h.el i h1 h2).mono fun k hk=>⟨hk.1,hk.2.1⟩⟩
end
def RemL(L:Bs)(at_ n:Nat)(rest:List RuleS):Prop:=(at_<=L.length/\∃ln,rulesG (linesM (L.drop at_)) ln n=.ok rest)\/(L.length<at_/\rest=[])
theorem linesM_cut{L:Bs}{a i:Nat}(ha:a<=i)(hi:i<=L.length)(hn:∀(j:Nat) (h:j<L.length),a<=j->j<i->isNl L[j]=false)(hs:∀(h:i<L.length),isNl L[i]=true) :
  linesM (L.drop a)=(L.drop a).take (i-a)::(if i<L.length then linesM (L.drop (i+1)) else []):=by
 have hx:∀c∈(L.drop a).take (i-a),isNl c=false:=fun c hc=>by
  obtain⟨j,hj,rfl⟩:=List.getElem_of_mem hc
  rw[List.length_take,List.length_drop]at hj
  rw[List.getElem_take,List.getElem_drop]
  exact hn (a+j) (by omega) (by omega) (by omega)
 by_cases h:i<L.length
 ·rw[if_pos h]
  have e:L.drop a=(L.drop a).take (i-a)++10::L.drop (i+1):=by
   have h10:L[i]=10:=by have:=hs h;unfold isNl at this;simpa using this
   conv=>lhs;rw[<-List.take_append_drop (i-a) (L.drop a),List.drop_drop,show a+(i-a)=i by omega,List.drop_eq_getElem_cons h,h10]
  conv=>lhs;rw[e]
  exact lines_some _ _ hx
 ·rw[if_neg h]
  have e:(L.drop a).take (i-a)=L.drop a:=List.take_of_length_le (by rw[List.length_drop];omega)
  rw[e]at hx⊢
  exact lines_none _ hx
theorem RemL.line{L:Bs}{a i n:Nat}{rest:List RuleS}(h:RemL L a n rest)(ha:a<=i)(hi:i<=L.length)(hn:∀(j:Nat) (h:j<L.length),a<=j->j<i->isNl L[j]=false)(hs:∀(h:i<L.length),isNl L[i]=true) :
  (idleF ((L.drop a).take (i-a))=true/\RemL L (i+1) n rest)\/(idleF ((L.drop a).take (i-a))=false/\∃r rest',lineF ((L.drop a).take (i-a)) n=.ok r/\rest=r::rest'/\RemL L (i+1) (n+1) rest'):=by
 rcases h with⟨hal,ln,hr⟩|⟨hal,_⟩
 ·rw[linesM_cut ha hi hn hs]at hr
  have hnext:∀(m:Nat) (l:List RuleS),rulesG (if i<L.length then linesM (L.drop (i+1)) else []) (ln+1) m=.ok l->RemL L (i+1) m l:=fun m l hl=>by
   by_cases h:i<L.length
   ·rw[if_pos h]at hl;exact .inl ⟨by omega,_,hl⟩
   ·rw[if_neg h]at hl
    refine .inr ⟨by omega,?_⟩
    unfold rulesG at hl
    injection hl with hl;exact hl.symm
  cases hq:idleF ((L.drop a).take (i-a)) with
  | true =>
   rw[rulesG_idle hq]at hr
   exact .inl ⟨rfl,hnext _ _ hr⟩
  | false =>
   right
   refine⟨rfl,?_⟩
   unfold rulesG at hr
   rw[if_neg (by simp[hq])]at hr
   split at hr
   ·cases hr
   ·rename_i r hln
    split at hr
    ·cases hr
    ·rename_i l hl
     injection hr with hr
     exact⟨r,l,hln,hr.symm,hnext _ _ hl⟩
 ·omega
theorem lineR_ok{x:Bs}{n:Nat}{r:RuleS}(h:lineF x n=.ok r):∃ts,toksF x=.ok ts/\n<200/\ruleF ts=.ok r:=by
 unfold lineF at h
 obtain⟨ts,h1,h⟩:=bindE_ok h
 split at h
 ·cases h
 ·exact⟨ts,h1,by omega,h⟩
theorem idle_at{x:Bs}{k:Nat}(hk:k<=x.length)(hb:∀(j:Nat) (h:j<x.length),j<k->blkS x[j]=true)(hs:∀(h:k<x.length),blkS x[k]=false):idleF x=(if h:k<x.length then x[k]==35 else true):=by
 have e:x.dropWhile blkS=x.drop k:=by
  induction k generalizing x with
  | zero =>
   cases x with
   | nil=>rfl
   | cons c r =>
    have:=hs (by simp)
    simp only[List.getElem_cons_zero]at this
    rw[List.dropWhile_cons,if_neg (by simp[this])];rfl
  | succ k ih =>
   cases x with
   | nil=>simp at hk
   | cons c r =>
    have h0:=hb 0 (by simp) (by omega)
    simp only[List.getElem_cons_zero]at h0
    rw[List.dropWhile_cons,if_pos h0,List.drop_succ_cons]
    exact ih (by simpa using hk) (fun j h hj=>by have:=hb (j+1) (by simp;omega) (by omega);simpa using this) (fun h=>by have:=hs (by simp;omega);simpa using this)
 unfold idleF
 rw[e]
 split
 ·rename_i h0
  have:=List.drop_eq_nil_iff.1 h0
  rw[dif_neg (by omega)]
 ·rename_i c r h0
  have hl:k<x.length:=by
   rcases Nat.lt_or_ge k x.length with q|q
   ·exact q
   ·rw[List.drop_eq_nil_of_le q]at h0;cases h0
  rw[dif_pos hl]
  rw[List.drop_eq_getElem_cons hl]at h0
  injection h0 with h0 _
  rw[h0]
theorem rtGood_of{l:List RT}{En:Nat}(hok:TksOk (allT l En))(hr:RtsOk l):∀p∈l,RtGood p:=fun p hp=>by
 obtain⟨j,hj,rfl⟩:=List.getElem_of_mem hp
 have hj2:j<(allT l En).length:=by rw[allT_length];omega
 have e:(allT l En)[j]=l[j].1:=by
  simp only[allT]
  rw[List.getElem_append_left (by simpa using hj)];simp
 have hc:=hok.col j hj2
 have hf:=hok.fin j hj2
 rw[e]at hc hf
 rw[allT_length]at hf
 refine⟨hr _ hp,⟨fun h0=>?_,hc.2.2.1⟩,hc.2.1,hc.1,fun h2=>?_⟩
 ·have:=hf.1 h0;omega
 ·rw[hr _ hp h2];exact hc.2.2.2
def RfPa(rs:List RuleS)(w:World)(e:Ending)(w':World):Prop := ∃A c vs,e=.returned (.tuple #[.slice A rs.length c,.int .i64 0,.int .i64 0,.int .i64 0])/\RsX (fun k=>w.heap.size<=k/\k<w'.heap.size) w' A rs vs/\Below w.heap.size w w'
structure PsR(s:ByteArray)(w:World)(rs:List RuleS)(v6:Value)(i a ln:Nat)(dn rest:List RuleS)(vs:List (Array Value))(wr:World):Prop where
 ai:a<=i
 li:ln<=i+1
 nn:∀(j:Nat) (h:j<(toL s).length),a<=j->j<i->isNl (toL s)[j]=false
 lst:LstR w.heap.size v6 dn vs wr
 bel:Below w.heap.size w wr
 rem:RemL (toL s) a dn.length rest
 all:rs=dn++rest
 fin:i=s.size+1->a=s.size+1
theorem pR_ret{Q:Ending->World->Prop}{W:World}{A:Option Addr}{n c:Nat}{T:Array Value}(t2:T[2]?=some (.slice A n c))(t3:T[3]?=some (.int .i64 0))(t4:T[4]?=some (.int .i64 0))(t5:T[5]?=some (.int .i64 0))(hQ:Q (.returned (.tuple #[.slice A n c,.int .i64 0,.int .i64 0,.int .i64 0])) W) :
  bodyPost Tryz.prog Tryz.f21 Q .ret { tmps:=T,defers := [] } W:=by
 refine bodyPost_ret (v:=.tuple #[.slice A n c,.int .i64 0,.int .i64 0,.int .i64 0]) ?_ rfl hQ
 simp[results,Tryz.f21,go_sem,t2,t3,t4,t5]
set_option maxHeartbeats 16000000 in
set_option maxRecDepth 100000 in
theorem rf_parse(s:ByteArray)(w:World){rs:List RuleS}(h:parseG (toL s)=.ok rs):Calls Tryz.prog 21 #[.string s] w (RfPa rs w):=by
 have HL:=Lib.hid (toL_length s)
 have HAT:=Lib.hid (fun k (hk:k<s.size)=>toL_getElem s k hk)
 have hsz:s.size<=65536/\rulesG (linesM (toL s)) 0 0=.ok rs:=by
  unfold parseG at h
  split at h
  ·cases h
  ·rw[HL.out] at *;exact⟨by omega,h⟩
 obtain⟨hs,hrg⟩:=hsz
 have hs1:¬ (65536:Int)<(s.size:Int):=by omega
 have HFEW:=Lib.hid (rulesG_few _ _ _ _ (by omega) hrg)
 have HP0:=Lib.hid (show PsR s w rs (.slice none 0 0) 0 0 1 [] rs [] w from⟨Nat.le_refl _,Nat.le_refl _,fun j _ _ hj=>by omega,LstR.nil _ _,Below.refl _ _,.inl ⟨Nat.zero_le _,0,by rw[List.drop_zero];exact hrg⟩,rfl,fun h=>by omega⟩)
 clear h hrg
 go_enter Tryz.func21,Tryz.ntmps21
 go_wp2_with fail
 go_loopw [6,7,8,9] (fun v6 v7 v8 v9 wr=>∃(i a ln:Nat) (dn rest:List RuleS) (vs:List (Array Value)),i<=s.size+1/\v7=.int .i64 (ln:Int)/\v8=.int .i64 (a:Int)/\v9=.int .i64 (i:Int)/\PsR s w rs v6 i a ln dn rest vs wr) (fun _ _ _ v9 _=>s.size+1-(intOf v9).toNat)
 case atStart=>exact⟨0,0,1, [],rs, [],by omega,rfl,rfl,rfl,HP0.out⟩
 case round =>
  obtain⟨i,a,ln,dn,rest,vs,hi,rfl,rfl,rfl,hps⟩:=hrel
  have HPS:=Lib.hid hps
  have hai:=hps.ai
  have hli:=hps.li
  obtain⟨A6,c6,rfl,_⟩:=own_row hps.lst.own
  clear hps HP0
  have i0:(0:Int)<=(i:Int):=by omega
  have a0:(0:Int)<=(a:Int):=by omega
  by_cases hle:i<=s.size
  ·have i1:(i:Int)<=(s.size:Int):=by omega
   by_cases hnl:∃h:i<s.size,(num (s[i]'h)==10)=false
   ·obtain⟨hlt,hne⟩:=hnl
    have i2:decide (i<s.size)=true:=decide_eq_true hlt
    have i3:(i:Int)<(s.size:Int):=by omega
    have hb:(num (s[i]'hlt) != 10)=true:=by simp only[bne,hne];rfl
    have HNE:=Lib.hid hne
    clear hne
    go_wp2_with fail
    go_roundw
    case rel =>
     refine⟨i+1,a,ln,dn,rest,vs,by omega,rfl,rfl,by go_num,?_⟩
     have hp:=HPS.out
     refine⟨by omega,by omega,fun j hj h1 h2=>?_,hp.lst,hp.bel,hp.rem,hp.all,fun h=>by omega⟩
     rcases Nat.lt_or_ge j i with q|q
     ·exact hp.nn j hj h1 q
     ·obtain rfl:j=i:=by omega
      rw[HAT.out j hlt]
      have h3:=HNE.out
      unfold isNl
      rw[beq_eq_false_iff_ne]at h3⊢
      intro e;rw[e]at h3;exact h3 rfl
    case measure=>simp[intOf]<;>omega
   ·have HST:=Lib.hid (show ∀(h:i<(toL s).length),isNl (toL s)[i]=true from fun h=>by
     rw[HL.out]at h
     rw[HAT.out i h]
     by_cases q:(num (s[i]'h)==10)=false
     ·exact absurd ⟨h,q⟩ hnl
     ·have q:(num (s[i]'h)==10)=true:=by simpa using q
      have:s[i]'h=10:=by
       apply UInt8.toNat_inj.1
       have:=beq_iff_eq.1 q
       simp only[num]at this;show(s[i]'h).toNat = 10;omega
      rw[this];rfl)
    have hcond:decide (i<s.size)=false\/∃h:i<s.size,decide (i<s.size)=true/\(num (s[i]'h) != 10)=false:=by
     by_cases hlt:i<s.size
     ·right
      refine⟨hlt,decide_eq_true hlt,?_⟩
      have:=HST.out (by rw[HL.out];exact hlt)
      rw[HAT.out i hlt]at this
      unfold isNl at this
      rw[beq_iff_eq.1 this];rfl
     ·exact .inl (decide_eq_false hlt)
    clear hnl
    have HLN:=Lib.hid (HPS.out.rem.line HPS.out.ai (by rw[HL.out];exact hle) HPS.out.nn HST.out)
    obtain⟨X,hX⟩:∃X,s.extract a i=X:=⟨_,rfl⟩
    have HXL:=Lib.hid (show((toL s).drop a).take (i-a)=toL X from by rw[<-hX,extract_toL];rfl)
    have hXs:X.size=i-a:=by rw[<-hX];exact extract_size s a i hle
    rw[HXL.out]at HLN
    have hXle:X.size<=65536:=by omega
    clear hXs
    have a1:(a:Int)<=(i:Int):=by omega
    have HXT:=Lib.hid (toL_length X)
    have HXA:=Lib.hid (fun k (hk:k<X.size)=>toL_getElem X k hk)
    have hX2:=hX
    have HX:=Lib.hid hX
    have hai2:a<=i:=hai
    go_upto_region 8 with fail
    go_cut [35] (fun s35 wx=>s35=.bool false/\wr=wx)
    case first =>
     rcases hcond with q1|⟨hlt,q1,q2⟩
     ·go_wp2_with fail
      go_meet
      exact⟨rfl,rfl⟩
     ·have i3:(i:Int)<(s.size:Int):=by omega
      go_wp2_with fail
      go_meet
      exact⟨rfl,rfl⟩
    case rest =>
     obtain⟨rfl,hwc⟩:=hcut
     subst hwc
     clear hcond
     obtain⟨wo,rfl⟩:∃wo:World,wo=wr:=⟨_,rfl⟩
     go_wp2_with fail
     clear hX hX2
     go_loop [11] (fun v=>∃k:Nat,k<=X.size/\v=.int .i64 (k:Int)/\∀(j:Nat) (h:j<(toL X).length),j<k->blkS (toL X)[j]=true) (fun v=>X.size-(intOf v).toNat)
     case atStart=>exact⟨0,by omega,rfl,fun j _ hj=>by omega⟩
     case round =>
      obtain⟨k,hk,rfl,hbl⟩:=hrel
      have HBL:=Lib.hid hbl
      clear hbl
      have k0:(0:Int)<=(k:Int):=by omega
      by_cases hkb:∃h:k<X.size,isBlank (num (X[k]'h))=true
      ·obtain⟨hlt,hbk⟩:=hkb
       have k1:(k:Int)<(X.size:Int):=by omega
       have HBK:=Lib.hid (fun wx=>show Calls Tryz.prog 37 #[.int .u8 (num (X[k]'hlt))] wx fun e w'=>e=.returned (.bool true)/\wx=w' from by
        have:=rf_blank (num (X[k]'hlt)) wx
        rwa [hbk]at this)
       have HBB:=Lib.hid hbk
       clear hbk
       go_wp2_with ((go_at_call 37;(with_reducible refine(HBK.out _).mono ?_);rintro e w' ⟨rfl,rfl⟩))
       go_round
       case rel =>
        refine⟨k+1,by omega,by go_num,fun j hj h1=>?_⟩
        rcases Nat.lt_or_ge j k with q|q
        ·exact HBL.out j hj q
        ·obtain rfl:j=k:=by omega
         rw[HXA.out j hlt]
         exact HBB.out
       case measure=>simp[intOf]<;>omega
      ·have HKS:=Lib.hid (show ∀(h:k<(toL X).length),blkS (toL X)[k]=false from fun h=>by
        rw[HXT.out]at h
        rw[HXA.out k h]
        by_cases q:isBlank (num (X[k]'h))=true
        ·exact absurd ⟨h,q⟩ hkb
        ·simpa[blkS] using q)
       have HID:=Lib.hid (idle_at (by rw[HXT.out];exact hk) HBL.out HKS.out)
       clear hkb
       go_upto_region 11 with fail
       go_cut [49] (fun s49 wx=>s49=.bool false/\wo=wx)
       case first =>
        by_cases hlt:k<X.size
        ·have k1:(k:Int)<(X.size:Int):=by omega
         have k2:decide (k<X.size)=true:=decide_eq_true hlt
         have HBK:=Lib.hid (fun wx=>show Calls Tryz.prog 37 #[.int .u8 (num (X[k]'hlt))] wx fun e w'=>e=.returned (.bool false)/\wx=w' from by
          have:=rf_blank (num (X[k]'hlt)) wx
          have h2:=HKS.out (by rw[HXT.out];exact hlt)
          rw[HXA.out k hlt]at h2
          rwa [show isBlank (num (X[k]'hlt))=false from h2]at this)
         go_wp2_with ((go_at_call 37;(with_reducible refine(HBK.out _).mono ?_);rintro e w' ⟨rfl,rfl⟩))
         go_meet
         exact⟨rfl,rfl⟩
        ·have k2:decide (k<X.size)=false:=decide_eq_false hlt
         go_wp2_with fail
         go_meet
         exact⟨rfl,rfl⟩
       case rest =>
        obtain⟨rfl,hwc⟩:=hcut
        subst hwc
        go_upto_region 13 with fail
        go_cut [61] (fun s61 wx=>s61=.bool (!idleF (toL X))/\wo=wx)
        case first =>
         by_cases hlt:k<X.size
         ·have k1:(k:Int)<(X.size:Int):=by omega
          have k2:decide (k<X.size)=true:=decide_eq_true hlt
          have HI2:=Lib.hid (show(!idleF (toL X))=(num (X[k]'hlt) != 35) from by
           rw[HID.out,dif_pos (by rw[HXT.out];exact hlt),HXA.out k hlt,Bool.eq_iff_iff]
           simp only[Bool.not_eq_true',beq_eq_false_iff_ne,ne_eq,bne_iff_ne]
           exact not_congr ⟨fun e=>by rw[e];rfl,fun e=>UInt8.toNat_inj.1 (by simp only[num]at e;show(X[k]'hlt).toNat = 35;omega)⟩)
          go_wp2_with fail
          go_meet
          exact⟨by rw[HI2.out],rfl⟩
         ·have k2:decide (k<X.size)=false:=decide_eq_false hlt
          have HI2:=Lib.hid (show(!idleF (toL X))=false from by
           rw[HID.out,dif_neg (by rw[HXT.out];exact hlt)];rfl)
          go_wp2_with fail
          go_meet
          exact⟨by rw[HI2.out],rfl⟩
        case rest =>
         obtain⟨rfl,hwc⟩:=hcut
         subst hwc
         rcases HLN.out with⟨hid,hrem⟩|⟨hid,r,rest',hln,hrest,hrem⟩
         ·have HRM:=Lib.hid hrem
          rw[hid]
          clear hid hrem
          go_wp2_with fail
          go_roundw
          case rel =>
           refine⟨i+1,i+1,ln+1,dn,rest,vs,by omega,by go_num,by go_num,by go_num,?_⟩
           have hp:=HPS.out
           exact⟨Nat.le_refl _,by omega,fun j _ h1 h2=>by omega,hp.lst,hp.bel,HRM.out,hp.all,fun h=>h⟩
          case measure=>simp[intOf]<;>omega
         ·have HRM:=Lib.hid hrem
          have HRS:=Lib.hid hrest
          rw[hid]
          obtain⟨ts,htk,hn200,hru⟩:=lineR_ok hln
          have HT:=Lib.hid (fun wx=>(rf_tokens X wx (by omega) htk).mono (R':=fun e w'=>∃A2 c2 l,e=.returned (.tuple #[.slice A2 l.length c2,.int .i64 0,.int .i64 0])/\Row w' A2 (rtsV l)/\(∀bb o,A2=some ⟨bb,o,none⟩->bb<w'.heap.size)/\RtsOk l/\ts=allT l (X.size+1)/\Below wx.heap.size wx w') (fun e w' hp=>by
           obtain⟨v,l,h1,h2,h3,h4,h5⟩:=hp
           obtain⟨A2,c2,rfl,hr⟩:=own_row h2
           exact⟨A2,c2,l,h1,hr,fun bb o e=>(h2.lt bb (by rw[e];rfl)).2,h3,h4,h5⟩))
          have HTO:=Lib.hid (toksF_ok (by rw[HXT.out];omega) htk)
          have HRU:=Lib.hid hru
          obtain⟨En,hEn⟩:∃En,X.size+1=En:=⟨_,rfl⟩
          have y1:IntKind.i64.wrap ((X.size:Int)+1)=(En:Int):=by rw[IntWalk.i64_in _ (by omega)];omega
          rw[hEn]at HT
          have hEn2:En<=100000:=by omega
          have n1:decide (200<=dn.length)=false:=decide_eq_false (by omega)
          have n2:¬ (200:Int)<=(dn.length:Int):=by omega
          clear hid hrem hrest hln htk hru hEn
          go_upto_region 19 with((go_at_call 38;(with_reducible refine(HT.out _).mono ?_);rintro e w2 ⟨A2,c2,l,rfl,hr2,hlt2,hok2,hts2,hb2⟩;have HR2:=Lib.hid hr2;have HLT2:=Lib.hid hlt2;have HOK2:=Lib.hid hok2;have HTS2:=Lib.hid hts2;have HB2:=Lib.hid hb2;clear hr2 hlt2 hok2 hts2 hb2))
          go_upto_region 20 with fail
          have HB3:=Lib.hid (alloc_bel w2 (.cells #[.slice A2 l.length c2,.int .i64 0,.int .i64 (En:Int),.int .i64 0,.int .i64 0] 101))
          have HTL:=Lib.hid (show TksOk (allT l En) from HTS2.out ▸ HTO.out)
          have hlf:l.length<=1000000:=by have:=HTL.out.few;rw[allT_length]at this;omega
          have HPK:=Lib.hid (show PkR (w2.alloc (.cells #[.slice A2 l.length c2,.int .i64 0,.int .i64 (En:Int),.int .i64 0,.int .i64 0] 101)) w2.heap.size A2 c2 l En 0 from
           ⟨heap_alloc_new w2 _,HR2.out.below HB3.out,HLT2.out,rtGood_of HTL.out HOK2.out,hlf,by omega,Nat.zero_le _⟩)
          have hzo:=HPS.out.bel.size
          have hz2:=HB2.out.size
          have HBO:=Lib.hid (HB2.out.trans (HB3.out.mono hz2))
          have hb3z:w2.heap.size<(w2.alloc (.cells #[.slice A2 l.length c2,.int .i64 0,.int .i64 (En:Int),.int .i64 0,.int .i64 0] 101)).heap.size:=by simp
          have HRR:=Lib.hid (rf_rule (n:=w.heap.size) HPK.out (by omega) (by omega) (show ruleF ((allT l En).drop 0)=.ok r from by rw[List.drop_zero, ← HTS2.out];exact HRU.out))
          clear HT HPK HR2 HLT2 HOK2 HTS2 HTL HTO HRU HB3
          generalize w2.alloc (.cells #[.slice A2 l.length c2,.int .i64 0,.int .i64 (En:Int),.int .i64 0,.int .i64 0] 101)=W3 at *
          generalize w2.heap.size=b at *
          go_upto_region 21 with(go_at_call 39;go_loud (with_reducible refine HRR.out.mono ?_);go_loud (rintro e w5 ⟨hf5,⟨K,B,N,c,f,op,xx,t,rfl,hc5⟩,⟨A9,cap9,l9,En9,k9,hp9⟩⟩;have HF5:=Lib.hid hf5;have HC5:=Lib.hid hc5;have HP9:=Lib.hid hp9;clear hf5 hc5 hp9))
          have HB6:=Lib.hid (alloc_bel w5 (.cells (rC (ofL r.act) r.amt (tilI r.til) r.cond.isSome K (.slice B N c) f op xx t) 59))
          have HBX6:=Lib.hid (heap_alloc_new w5 (.cells (rC (ofL r.act) r.amt (tilI r.til) r.cond.isSome K (.slice B N c) f op xx t) 59))
          have hz5:=HF5.out.size
          have HLS:=Lib.hid (show LstR w.heap.size (.slice A6 dn.length c6) dn vs w5 from HPS.out.lst.keep (fun k _ hk=>by
           rw[HF5.out.oth k (Nat.lt_of_lt_of_le hk HBO.out.size) (by omega),HBO.out.block k hk]) (Nat.le_trans HBO.out.size hz5))
          have HLS6:=Lib.hid (HLS.out.below HB6.out)
          have HBE6:=Lib.hid (HPS.out.bel.trans ((HBO.out.mono hzo).trans (HF5.out.bel.trans (HB6.out.mono (by have:=HBO.out.size;omega)))))
          have HRX6:=Lib.hid (show RuX (fun k=>W3.heap.size<=k/\k<(w5.alloc (.cells (rC (ofL r.act) r.amt (tilI r.til) r.cond.isSome K (.slice B N c) f op xx t) 59)).heap.size) (w5.alloc (.cells (rC (ofL r.act) r.amt (tilI r.til) r.cond.isSome K (.slice B N c) f op xx t) 59)) r (rC (ofL r.act) r.amt (tilI r.til) r.cond.isSome K (.slice B N c) f op xx t) from
           ⟨K,B,N,c,f,op,xx,t,rfl,(HC5.out.keep (fun k hk=>HB6.out.block k hk.2) HB6.out.size).mono fun k hk=>⟨hk.1,Nat.lt_of_lt_of_le hk.2 HB6.out.size⟩⟩)
          have HP6:=Lib.hid (HP9.out.below HB6.out)
          obtain⟨_,_,_,g3,_,gz⟩:=HP6.out.cells
          generalize hAS:ofL r.act=AS at *
          have HASS:=Lib.hid hAS
          clear hAS
          generalize w5.alloc (.cells (rC AS r.amt (tilI r.til) r.cond.isSome K (.slice B N c) f op xx t) 59)=W6 at *
          generalize w5.heap.size=rb at *
          obtain⟨d0,d1,d2,d3,d4,d5,d6,d7,d8,d9,_,_⟩:=rBox_cells HBX6.out
          have hown:=HLS6.out.own
          have hbase:w.heap.size<=W6.heap.size:=HBE6.out.size
          have hgl:=Lib.hid (fun g e=>(HPS.out.lst.own.lt g e).2)
          have hz3:=HBO.out.size
          go_upto_region 23 with fail
          go_wp2_with ((at_builtin;go_loud (refine wpList_push el_R rfl _ _ rfl hown #[.string AS,.int .i64 r.amt,.int .i64 (tilI r.til),.bool r.cond.isSome,.int .u8 K,.slice B N c,.string f,.string op,.int .i64 xx,.string t] rfl rfl rfl (by simp[Value.oneCell']) (by omega) (by unfold maxLen;omega) hbase ?_);intro g7 cap7 w7 hown7 hg7 hat7))
          have HL7:=Lib.hid (HLS6.out.push (r:=r) (z1:=W3.heap.size) (by omega) HRX6.out (fun g e=>by have:=hgl.out g e;omega) hown7 hg7 (by
           rcases hat7 with e|e
           ·exact .inl (by rw[e];rfl)
           ·exact .inr fun g e2=>by simp only[Value.ownBlock,Option.some.injEq]at e2;omega))
          have HB7:=Lib.hid (HBE6.out.grown hg7 HBE6.out.size (fun k e=>(HLS6.out.own.lt k e).1))
          clear hown7 hg7 hat7 hown
          go_roundw
          case rel =>
           refine⟨i+1,i+1,ln+1,dn ++ [r],rest',vs ++ [rC AS r.amt (tilI r.til) r.cond.isSome K (.slice B N c) f op xx t],by omega,by go_num,by go_num,by go_num,?_⟩
           have hp:=HPS.out
           exact⟨Nat.le_refl _,by omega,fun j _ h1 h2=>by omega,HL7.out,HB7.out,by rw[List.length_append];exact HRM.out,by rw[hp.all,HRS.out];simp,fun h=>h⟩
          case measure=>simp[intOf]<;>omega
  ·obtain rfl:i=s.size+1:=by omega
   have i1:¬ ((s.size+1:Nat):Int)<=(s.size:Int):=by omega
   have HDN:=Lib.hid (show rs=dn from by
    have hp:=HPS.out
    have ha:=hp.fin rfl
    rcases hp.rem with⟨h1,_⟩|⟨_,h1⟩
    ·rw[HL.out]at h1;omega
    ·have:=hp.all;rw[h1,List.append_nil]at this;exact this)
   go_wp2_with fail
   rw[HDN.out]
   obtain⟨A,c,e,hx⟩:=HPS.out.lst.done
   injection e with e1 e2 e3
   subst e1;subst e3
   exact pR_ret rfl rfl rfl rfl ⟨_,_,_,rfl,hx,HPS.out.bel⟩
structure FaR(w:World)(b:Nat)(A:Option Addr)(n0 cap k En:Nat)(e c:Int):Prop where
 box:w.heap[b]?=some (.cells #[.slice A n0 cap,.int .i64 (k:Int),.int .i64 (En:Int),.int .i64 e,.int .i64 c] 101 (0,0))
 ne:(e==0)=false
section
variable {w w' : World} {b : Nat} {A : Option Addr} {n0 cap k En : Nat} {e c : Int}
theorem FaR.below(h:FaR w b A n0 cap k En e c)(hb:Below w.heap.size w w'):FaR w' b A n0 cap k En e c:=⟨(hb.block _ (heap_lt h.box)).trans h.box,h.ne⟩
theorem FaR.cells(h:FaR w b A n0 cap k En e c):w.cell? ⟨b,0,none⟩=some (.slice A n0 cap)/\w.cell? ⟨b,1,none⟩=some (.int .i64 (k:Int))/\w.cell? ⟨b,2,none⟩=some (.int .i64 (En:Int))/\w.cell? ⟨b,3,none⟩=some (.int .i64 e)/\w.cell? ⟨b,4,none⟩=some (.int .i64 c)/\b<w.heap.size :=
 ⟨by rw[Lib.cell_of_heap h.box];rfl,by rw[Lib.cell_of_heap h.box];rfl,by rw[Lib.cell_of_heap h.box];rfl,by rw[Lib.cell_of_heap h.box];rfl,by rw[Lib.cell_of_heap h.box];rfl,heap_lt h.box⟩
theorem FaR.oth(h:FaR w b A n0 cap k En e c){r i:Nat}(hr:b<r)(v:Value):FaR (w.setCell ⟨r,i,none⟩ v) b A n0 cap k En e c:=⟨by rw[heap_set_ne v (by omega)];exact h.box,h.ne⟩
theorem FaR.drewN(h:FaR w b A n0 cap k En e c)(n:Nat):FaR (w.drewN n) b A n0 cap k En e c:=⟨h.box,h.ne⟩
end
set_option maxHeartbeats 4000000 in
set_option maxRecDepth 100000 in
theorem fl_see{w:World}{b:Nat}{A:Option Addr}{n0 cap k En:Nat}{er cl:Int}(h:FaR w b A n0 cap k En er cl):Calls Tryz.prog 64 #[.pointer (some ⟨b,0,none⟩)] w fun e w'=>e=.returned (.agg #[.int .u8 0,.string ⟨#[]⟩,.int .i64 0,.int .i64 (En:Int)])/\Below w.heap.size w w':=by
 have hne:=h.ne
 have HB0:=Lib.hid (alloc_bel w (.cells #[.int .u8 0,.string ⟨#[]⟩,.int .i64 0,.int .i64 0] 98))
 have HX0:=Lib.hid (heap_alloc_new w (.cells #[.int .u8 0,.string ⟨#[]⟩,.int .i64 0,.int .i64 0] 98))
 have HP:=Lib.hid (h.below HB0.out)
 clear h
 go_enter Tryz.func64,Tryz.ntmps64
 go_wp2_with fail
 generalize w.alloc (.cells #[.int .u8 0,.string ⟨#[]⟩,.int .i64 0,.int .i64 0] 98)=W1 at *
 obtain⟨k0,k1,k2,k3,_,hbw⟩:=HP.out.cells
 go_quiet (fail)
 have HX1:=Lib.hid (show(W1.drewN nq).heap[w.heap.size]?=_ from HX0.out)
 have HP1:=Lib.hid (HP.out.drewN nq)
 have HB1:=Lib.hid (below_drewN HB0.out nq)
 clear HP HX0 HB0 k0 k1 k2 k3
 generalize W1.drewN nq=W2 at *
 obtain⟨k0,k1,k2,k3,_,hbw2⟩:=HP1.out.cells
 obtain⟨d0,d1,d2,d3⟩:=tokBox_cells HX1.out
 have f0:=Lib.frozen_of_heap HX1.out 0
 have f1:=Lib.frozen_of_heap HX1.out 1
 have f2:=Lib.frozen_of_heap HX1.out 2
 have f3:=Lib.frozen_of_heap HX1.out 3
 go_wp2_with fail
 exact see_ret (r:=w.heap.size) (box4_set HX1.out) rfl ⟨rfl,box4_below HB1.out (Nat.le_refl _)⟩
set_option maxHeartbeats 4000000 in
set_option maxRecDepth 100000 in
theorem fl_is{w:World}{b:Nat}{A:Option Addr}{n0 cap k En:Nat}{er cl:Int}(h:FaR w b A n0 cap k En er cl)(x:ByteArray):Calls Tryz.prog 91 #[.pointer (some ⟨b,0,none⟩),.string x] w fun e w'=>e=.returned (.bool false)/\Below w.heap.size w w':=by
 have HN:=Lib.hid (fl_see h)
 clear h
 go_enter Tryz.func91,Tryz.ntmps91
 go_wp2_with ((go_at_call 64;(with_reducible refine HN.out.mono ?_);rintro e w2 ⟨rfl,hb2⟩;have HB2:=Lib.hid (hb2.alloc hb2.size (.cells #[.int .u8 0,.string ⟨#[]⟩,.int .i64 0,.int .i64 (En:Int)] 98));clear hb2))
 go_ret
 exact⟨rfl,HB2.out⟩
set_option maxHeartbeats 4000000 in
set_option maxRecDepth 100000 in
theorem fl_eat{w:World}{b:Nat}{A:Option Addr}{n0 cap k En:Nat}{er cl:Int}(h:FaR w b A n0 cap k En er cl)(x:ByteArray):Calls Tryz.prog 60 #[.pointer (some ⟨b,0,none⟩),.string x] w fun e w'=>e=.returned (.bool false)/\Below w.heap.size w w':=by
 have HIS:=Lib.hid (fl_is h x)
 clear h
 go_enter Tryz.func60,Tryz.ntmps60
 go_wp2_with ((go_at_call 91;(with_reducible refine HIS.out.mono ?_);rintro e w2 ⟨rfl,hb2⟩;have HB2:=Lib.hid hb2;clear hb2))
 go_ret
 exact⟨rfl,HB2.out⟩
theorem fl_fail{w:World}{b:Nat}{A:Option Addr}{n0 cap k En:Nat}{er cl:Int}(h:FaR w b A n0 cap k En er cl)(c e:Int):Calls Tryz.prog 63 #[.pointer (some ⟨b,0,none⟩),.int .i64 c,.int .i64 e] w fun e w'=>e=.returned (.tuple #[])/\Below w.heap.size w w':=by
 have hne:=h.ne
 obtain⟨k0,k1,k2,k3,k4,hbw⟩:=h.cells
 go_enter Tryz.func63,Tryz.ntmps63
 go_wp2_with fail
 refine bodyPost_end (results_none rfl _ _ _) rfl ?_
 exact⟨rfl,Below.refl _ _⟩
theorem rf_fail{n:Nat}{w:World}{b:Nat}{A:Option Addr}{cap k En:Nat}{l:List RT}(h:PkR w b A cap l En k)(hn:n<=w.heap.size)(hnb:n<=b)(c e:Int)(he:(e==0)=false):Calls Tryz.prog 63 #[.pointer (some ⟨b,0,none⟩),.int .i64 c,.int .i64 e] w fun x w'=>x=.returned (.tuple #[])/\Fr n (fun i=>i=b) w w'/\FaR w' b A l.length cap k En e c:=by
 have hbx:=h.box
 have HB:=Lib.hid hbx
 obtain⟨k0,k1,k2,k3,f1,hbw⟩:=h.cells
 have k4:w.cell? ⟨b,4,none⟩=some (.int .i64 0):=by rw[Lib.cell_of_heap hbx];rfl
 have f3:=Lib.frozen_of_heap hbx 3
 have f4:=Lib.frozen_of_heap hbx 4
 clear h hbx
 go_enter Tryz.func63,Tryz.ntmps63
 go_wp2_with fail
 refine bodyPost_end (results_none rfl _ _ _) rfl ?_
 refine⟨rfl,((Fr.refl n (fun i=>i=b) w).set _ hnb (.inl rfl)).set _ hnb (.inl rfl),?_,he⟩
 rw[heap_set (heap_set HB.out _) _]
 rfl
attribute [local go_sem] fld_tokR1 fld_tokR3
set_option maxHeartbeats 8000000 in
set_option maxRecDepth 100000 in
theorem fl_one{w:World}{b:Nat}{A:Option Addr}{n0 cap k En:Nat}{er cl:Int}(h:FaR w b A n0 cap k En er cl)(B:Option Addr)(L:List Bs)(N:Nat)(hN:L.length=N)(c:Nat)(hr:Row w B (strsL L))(hL:L.length<=1000) :
  Calls Tryz.prog 58 #[.pointer (some ⟨b,0,none⟩),.slice B N c] w fun e w'=>e=.returned (.string ⟨#[]⟩)/\Below w.heap.size w w':=by
 subst hN
 have HP:=Lib.hid h
 have HR:=Lib.hid hr
 clear h hr
 go_enter Tryz.func58,Tryz.ntmps58
 go_wp2_with fail
 go_loopw [5] (fun v wr=>∃i:Nat,i<=L.length/\v=.int .i64 (i:Int)/\FaR wr b A n0 cap k En er cl/\Below w.heap.size w wr) (fun v _=>L.length-(intOf v).toNat)
 case atStart=>exact⟨0,by omega,rfl,HP.out,Below.refl _ _⟩
 case round =>
  obtain⟨i,hi,rfl,hp,hf⟩:=hrel
  have HPI:=Lib.hid hp
  have HF:=Lib.hid hf
  clear hp hf HP
  have i0:(0:Int)<=(i:Int):=by omega
  by_cases hlt:i<L.length
  ·have i1:(i:Int)<(L.length:Int):=by omega
   obtain⟨bb,off,rfl,hbb,hcc⟩:=(HR.out.below HF.out).at (k:=i) (by rw[strsL,List.length_map];exact hlt)
   have c0:=hcc i (.string (ofL L[i])) (by simp[strsL,hlt])
   generalize L[i]=x at *
   generalize ofL x=X at *
   have HET:=Lib.hid (fl_eat HPI.out X)
   clear hcc
   go_wp2_with ((go_at_call 60;(with_reducible refine HET.out.mono ?_);rintro e w2 ⟨rfl,hb2⟩;have HF2:=Lib.hid (HF.out.trans (hb2.mono HF.out.size));have HP2:=Lib.hid (HPI.out.below hb2);clear hb2))
   go_roundw
   case rel=>exact⟨i+1,by omega,by go_num,HP2.out,HF2.out⟩
   case measure=>simp[intOf]<;>omega
  ·have i1:¬ (i:Int)<(L.length:Int):=by omega
   have HS:=Lib.hid (fl_see HPI.out)
   have HFL:=Lib.hid (fun (wx:World) (hp:FaR wx b A n0 cap k En er cl) (c e:Int)=>fl_fail hp c e)
   go_wp2_with (first|(go_at_call 64;(with_reducible refine HS.out.mono ?_);rintro e w2 ⟨rfl,hb2⟩;have HF2:=Lib.hid (HF.out.trans (hb2.mono HF.out.size));have HP2:=Lib.hid (HPI.out.below hb2);clear hb2)|(go_at_call 63;(with_reducible refine(HFL.out _ HP2.out _ _).mono ?_);rintro e w3 ⟨rfl,hb3⟩;have HF3:=Lib.hid (HF2.out.trans (hb3.mono HF2.out.size));clear hb3))
   go_ret
   exact⟨rfl,HF3.out⟩
def CndF(n b : Nat)(A : Option Addr)(n0 cap En : Nat)(er cl : Int)(w : World)(e : Ending)(w' : World) : Prop :=
  ∃K B N c1 f op m t k2, e=.returned (.agg (xC K (.slice B N c1) f op m t))/\FaR w' b A n0 cap k2 En er cl/\Fr n (fun i=>i=b) w w'
structure LxF(n b : Nat)(A : Option Addr)(n0 cap k En : Nat)(er cl : Int)(kc : Int)(w : World)(p : Nat)(v : Value)(N : Nat)(xs : List Value)(W : World) : Prop where
  fl : FaR W b A n0 cap k En er cl
  fr : Fr n (fun i=>i=b) w W
  rbox : W.heap[w.heap.size]?=some (.cells xZ 57 (0, 0))
  xbox : W.heap[p]?=some (.cells (xC kc v ⟨#[]⟩ ⟨#[]⟩ 0 ⟨#[]⟩) 57 (0, 0))
  own : W.ownsRow (p+1) 57 6 v N xs
  bl : b<w.heap.size
  nz : n<=w.heap.size
  pe : p=w.heap.size+1
section
variable {n b : Nat} {A : Option Addr} {cap : Nat} {l : List RT} {k k2 n0 En : Nat} {er cl : Int} {kc : Int} {w : World} {p : Nat} {v v' : Value} {N : Nat} {xs : List Value} {W W' W4 : World} {x : Array Value}
theorem LxS.stepF(h : LxS n b A cap l En kc w p [] [] v k W)(hf : Fr n (fun i=>i=b) W W')(hp : FaR W' b A n0 cap k2 En er cl) : LxF n b A n0 cap k2 En er cl kc w p v 0 [] W' :=
  ⟨hp, h.fr.trans hf (fun i hi=>.inl hi), (hf.oth _ (heap_lt h.rbox) (by have := h.bl; omega)).trans h.rbox, (hf.oth _ (heap_lt h.xbox) (by have := h.bl; have := h.pe; omega)).trans h.xbox, (h.lst.fr hf (by have := h.bl; have := h.pe; omega)).own, h.bl, h.nz, h.pe⟩
theorem LxF.cells(h : LxF n b A n0 cap k En er cl kc w p v N xs W) : W.cell? ⟨p, 0, none⟩=some (.int .u8 kc)/\W.cell? ⟨p, 1, none⟩=some v/\W.cell? ⟨p, 2, none⟩=some (.string ⟨#[]⟩)/\W.cell? ⟨p, 3, none⟩=some (.string ⟨#[]⟩)/\W.cell? ⟨p, 4, none⟩=some (.int .i64 0)/\W.cell? ⟨p, 5, none⟩=some (.string ⟨#[]⟩)/\W.frozen? ⟨p, 1, none⟩=false/\p<W.heap.size :=
  ⟨by rw[Lib.cell_of_heap h.xbox]; rfl, by rw[Lib.cell_of_heap h.xbox]; rfl, by rw[Lib.cell_of_heap h.xbox]; rfl, by rw[Lib.cell_of_heap h.xbox]; rfl, by rw[Lib.cell_of_heap h.xbox]; rfl, by rw[Lib.cell_of_heap h.xbox]; rfl, Lib.frozen_of_heap h.xbox 1, heap_lt h.xbox⟩
theorem LxF.low(h : LxF n b A n0 cap k En er cl kc w p v N xs W)(hg : (W.alloc (.cells x 57)).grownBy W4 v.ownBlock)(j : Nat)(hj : j<=p) : W4.heap[j]?=W.heap[j]? := by
  have hj2 : j<W.heap.size := by have := heap_lt h.xbox; omega
  have hb := alloc_bel W (.cells x 57)
  rw[hg.block j (Nat.lt_of_lt_of_le hj2 hb.size) (fun e=>by have := (h.own.lt j e.symm).1; omega), hb.block j hj2]
theorem LxF.push(h : LxF n b A n0 cap k En er cl kc w p v N xs W){N' : Nat}{xs' : List Value}(ho : W4.ownsRow (p+1) 57 6 v' N' xs')(hg : (W.alloc (.cells x 57)).grownBy W4 v.ownBlock) :
    LxF n b A n0 cap k En er cl kc w p v' N' xs' (W4.setCell ⟨p, 1, none⟩ v') := by
  have hb := alloc_bel W (.cells x 57)
  have hlow := h.low hg
  generalize W.alloc (.cells x 57)=W3 at *
  have hv : ∀g, v.ownBlock=some g->p+1<=g := fun g e=>(h.own.lt g e).1
  have hbl := h.bl
  have hnz := h.nz
  have hzw := h.fr.size
  have hpe := h.pe
  refine⟨⟨?_, h.fl.ne⟩, ?_, ?_, ?_, ?_, hbl, hnz, hpe⟩
  · rw[heap_set_ne _ (by omega), hlow _ (by omega)]; exact h.fl.box
  · refine Fr.set ?_ v' (by omega) (.inr (by omega))
    refine(h.fr.below hb hnz).grown hg hnz fun g e=>?_
    have := hv g e
    exact⟨by omega, .inr (by omega)⟩
  · rw[heap_set_ne _ (by omega), hlow _ (by omega)]; exact h.rbox
  · rw[heap_set ((hlow _ (Nat.le_refl _)).trans h.xbox)]; rfl
  · exact own_oth ho fun g e=>heap_set_ne v' (by have := (ho.lt g e).1; omega)
theorem LxF.one{K : Int}{B : Option Addr}{M c0 : Nat}{f op : ByteArray}{m : Int}{t : ByteArray}(h : LxF n b A n0 cap k En er cl kc w p v 1 [.int .u8 K, .slice B M c0, .string f, .string op, .int .i64 m, .string t] W) : ∃g cp, v=.slice (some ⟨g, 0, none⟩) 1 cp/\g<W.heap.size ∧
    W.cell? ⟨g, 0, none⟩=some (.int .u8 K)/\W.cell? ⟨g, 1, none⟩=some (.slice B M c0)/\W.cell? ⟨g, 2, none⟩=some (.string f)/\W.cell? ⟨g, 3, none⟩=some (.string op)/\W.cell? ⟨g, 4, none⟩=some (.int .i64 m)/\W.cell? ⟨g, 5, none⟩=some (.string t) := by
  rcases own_form h.own with⟨_, h0⟩|⟨g, cap, rfl, hg1, hg2, _, hc⟩
  · omega
  · exact⟨g, cap, rfl, hg2, hc 0 _ rfl, hc 1 _ rfl, hc 2 _ rfl, hc 3 _ rfl, hc 4 _ rfl, hc 5 _ rfl⟩
theorem putX_fl{z j : Nat}{kk : Int}{L : Value}{f op : ByteArray}{m : Int}{t : ByteArray}(h : FaR W b A n0 cap j En er cl)(hz : b<z) : FaR (putX z kk L f op m t W) b A n0 cap j En er cl := ((((((h.oth hz _).oth hz _).oth hz _).oth hz _).oth hz _).oth hz _)
theorem LxF.ret(h : LxF n b A n0 cap k En er cl kc w p v N xs W){kk : Int}{B : Option Addr}{M c : Nat}{f op : ByteArray}{m : Int}{t : ByteArray}{T : Array Value}
    (hT2 : T[6]?=some (.pointer (some ⟨w.heap.size, 0, none⟩))) : bodyPost Tryz.prog Tryz.f92 (CndF n b A n0 cap En er cl w) .ret { tmps := T, defers := [] } (putX w.heap.size kk (.slice B M c) f op m t W) :=
  lst_ret (putX_box h.rbox) hT2 ⟨_, _, _, _, _, _, _, _, k, rfl, putX_fl h.fl h.bl, putX_fr h.fr h.nz (.inr (Nat.le_refl _))⟩
end
set_option maxHeartbeats 8000000 in
set_option maxRecDepth 100000 in
theorem fl_list_and {n : Nat} {w : World} {b : Nat} {A : Option Addr} {cap k En : Nat} {l : List RT} (h : PkR w b A cap l En k) (hn : n ≤ w.heap.size) (hnb : n ≤ b) (d : Int) {er cl : Int}
    (hin : ∀ (wx : World), PkR wx b A cap l En k → n ≤ wx.heap.size → Calls Tryz.prog 115 #[.pointer (some ⟨b, 0, none⟩), .int .i64 d] wx (CndF n b A l.length cap En er cl wx)) :
    Calls Tryz.prog 92 #[.pointer (some ⟨b, 0, none⟩), .int .u8 97, .int .i64 d] w (CndF n b A l.length cap En er cl w) := by
  have HIN := Lib.hid hin; clear hin
  have hbw := h.cells.2.2.2.2.2
  have HX0 := Lib.hid (heap_alloc_new w (.cells xZ 57))
  have HB0 := Lib.hid (alloc_bel w (.cells xZ 57))
  have HP0 := Lib.hid (h.below HB0.out)
  have hz0 : (w.alloc (.cells xZ 57)).heap.size = w.heap.size + 1 := by simp
  clear h
  go_enter Tryz.func92, Tryz.ntmps92
  go_upto_region 1 with fail
  generalize w.alloc (.cells xZ 57) = W0 at *
  have HS0 := Lib.hid (show LxS n b A cap l En 97 w W0.heap.size [] [] (.slice none 0 0) k (W0.alloc (.cells (xC 97 (.slice none 0 0) ⟨#[]⟩ ⟨#[]⟩ 0 ⟨#[]⟩) 57)) from
    ⟨HP0.out.below (alloc_bel _ _), Fr.of (HB0.out.trans ((alloc_bel W0 _).mono (by omega))) hn, ((alloc_bel W0 _).block _ (by omega)).trans HX0.out, alloc_at W0 _ _ rfl, LstX.nil _ _, hbw, hn, hz0⟩)
  have HZ0 := Lib.hid hz0
  clear hz0
  go_upto_region 5 with fail
  generalize W0.alloc (.cells (xC 97 (.slice none 0 0) ⟨#[]⟩ ⟨#[]⟩ 0 ⟨#[]⟩) 57) = W1 at *
  clear HX0 HB0 HP0
  generalize W0.heap.size = p0 at *
  go_loopw [14] (fun _ wr => LxS n b A cap l En 97 w p0 [] [] (.slice none 0 0) k wr) (fun _ _ => 0)
  case atStart => exact HS0.out
  case round =>
    have hs := hrel
    have HS := Lib.hid hs.drew
    have hpz : p0 < wr.heap.size := heap_lt hs.xbox
    obtain ⟨x0, x1, x2, x3, x4, x5, xf, _⟩ := hs.cells
    clear hs hrel HS0
    go_upto_region 6 with fail
    go_region_law (first
      | (go_simp; go_at_call 115; (with_reducible refine (HIN.out _ HS.out.pk HS.out.zle).mono ?_); rintro e w2 ⟨K, B, N, c1, f, op, m, t, k2, rfl, hp2, hf2⟩; have H20 := Lib.hid (HS.out.stepF hf2 hp2); have hz2 := hf2.size; obtain ⟨y0, y1, y2, y3, y4, y5, yf, _⟩ := H20.out.cells; clear hp2 hf2; dsimp only)
      | (refine step_pour el_X (by rfl) (.tmp 16) (.tmp 20) (by rfl) (base := p0 + 1) (v := .slice none 0 0) (n := 0) (xs := []) (H20.out.own.alloc _) (by rfl) (A := some ⟨w2.heap.size, 0, none⟩) (m := 1) (c := 1) (news := [.int .u8 K, .slice B N c1, .string f, .string op, .int .i64 m, .string t]) (by rfl) (row_block (cs := #[.int .u8 K, .slice B N c1, .string f, .string op, .int .i64 m, .string t]) (heap_alloc_new w2 _)) (by rfl) (by simp [Value.oneCell']) (by intro h; cases h) (by omega) (by unfold maxLen; omega) (by simp; have := hz2; omega) ?_
         intro v4 w4 hown4 hg4 hat4
         obtain ⟨A4, c4, rfl, _⟩ := own_row hown4
         have HB4 := Lib.hid ((H20.out.low hg4 p0 (Nat.le_refl _)).trans H20.out.xbox)
         have hc4 : w4.cell? ⟨p0, 1, none⟩ = some (.slice none 0 0) := by rw [Lib.cell_of_heap HB4.out]; rfl
         have hf4 : w4.frozen? ⟨p0, 1, none⟩ = false := Lib.frozen_of_heap HB4.out 1))
    all_goals
      have HS5 := Lib.hid (H20.out.push (show w4.ownsRow (p0 + 1) 57 6 (.slice A4 1 c4) 1 [.int .u8 K, .slice B N c1, .string f, .string op, .int .i64 m, .string t] from hown4) hg4)
      clear hown4 hg4 hat4 HB4 hc4 hf4 y0 y1 y2 y3 y4 y5 yf x0 x1 x2 x3 x4 x5 xf H20 HS HIN
      generalize w4.setCell ⟨p0, 1, none⟩ (.slice A4 (0 + 1) c4) = W5 at *
      obtain ⟨g6, cap6, hv6, hgz6, z0, z1, z2, z3, z4, z5⟩ := HS5.out.one
      obtain ⟨rfl, rfl⟩ : A4 = some ⟨g6, 0, none⟩ ∧ c4 = cap6 := by injection hv6 with e1 e2 e3; exact ⟨e1, e3⟩
      clear hv6
      obtain ⟨_, _, _, q3, _, hbw5⟩ := HS5.out.fl.cells
      have hne := HS5.out.fl.ne
      have hne2 : (er != 0) = true := by simp only [bne, hne]; rfl
      obtain ⟨_, y1, _, _, _, _, _, _⟩ := HS5.out.cells
      obtain ⟨d0, d1, d2, d3, d4, d5, hfd, hdw⟩ := xBox_cells HS5.out.rbox
      have hpl : w.heap.size < p0 := by have := HS5.out.pe; omega
      go_wp2_with fail
      exact LxF.ret HS5.out rfl
set_option maxHeartbeats 8000000 in
set_option maxRecDepth 100000 in
theorem fl_list_or {n : Nat} {w : World} {b : Nat} {A : Option Addr} {cap k En : Nat} {l : List RT} (h : PkR w b A cap l En k) (hn : n ≤ w.heap.size) (hnb : n ≤ b) (d : Int) {er cl : Int}
    (hin : ∀ (wx : World), PkR wx b A cap l En k → n ≤ wx.heap.size → Calls Tryz.prog 92 #[.pointer (some ⟨b, 0, none⟩), .int .u8 97, .int .i64 d] wx (CndF n b A l.length cap En er cl wx)) :
    Calls Tryz.prog 92 #[.pointer (some ⟨b, 0, none⟩), .int .u8 111, .int .i64 d] w (CndF n b A l.length cap En er cl w) := by
  have HIN := Lib.hid hin; clear hin
  have hbw := h.cells.2.2.2.2.2
  have HX0 := Lib.hid (heap_alloc_new w (.cells xZ 57))
  have HB0 := Lib.hid (alloc_bel w (.cells xZ 57))
  have HP0 := Lib.hid (h.below HB0.out)
  have hz0 : (w.alloc (.cells xZ 57)).heap.size = w.heap.size + 1 := by simp
  clear h
  go_enter Tryz.func92, Tryz.ntmps92
  go_upto_region 1 with fail
  generalize w.alloc (.cells xZ 57) = W0 at *
  have HS0 := Lib.hid (show LxS n b A cap l En 111 w W0.heap.size [] [] (.slice none 0 0) k (W0.alloc (.cells (xC 111 (.slice none 0 0) ⟨#[]⟩ ⟨#[]⟩ 0 ⟨#[]⟩) 57)) from
    ⟨HP0.out.below (alloc_bel _ _), Fr.of (HB0.out.trans ((alloc_bel W0 _).mono (by omega))) hn, ((alloc_bel W0 _).block _ (by omega)).trans HX0.out, alloc_at W0 _ _ rfl, LstX.nil _ _, hbw, hn, hz0⟩)
  have HZ0 := Lib.hid hz0
  clear hz0
  go_upto_region 5 with fail
  generalize W0.alloc (.cells (xC 111 (.slice none 0 0) ⟨#[]⟩ ⟨#[]⟩ 0 ⟨#[]⟩) 57) = W1 at *
  clear HX0 HB0 HP0
  generalize W0.heap.size = p0 at *
  go_loopw [14] (fun _ wr => LxS n b A cap l En 111 w p0 [] [] (.slice none 0 0) k wr) (fun _ _ => 0)
  case atStart => exact HS0.out
  case round =>
    have hs := hrel
    have HS := Lib.hid hs.drew
    have hpz : p0 < wr.heap.size := heap_lt hs.xbox
    obtain ⟨x0, x1, x2, x3, x4, x5, xf, _⟩ := hs.cells
    clear hs hrel HS0
    go_upto_region 7 with fail
    go_region_law (first
      | (go_simp; go_at_call 92; (with_reducible refine (HIN.out _ HS.out.pk HS.out.zle).mono ?_); rintro e w2 ⟨K, B, N, c1, f, op, m, t, k2, rfl, hp2, hf2⟩; have H28 := Lib.hid (HS.out.stepF hf2 hp2); have hz2 := hf2.size; obtain ⟨y0, y1, y2, y3, y4, y5, yf, _⟩ := H28.out.cells; clear hp2 hf2; dsimp only)
      | (refine step_pour el_X (by rfl) (.tmp 24) (.tmp 28) (by rfl) (base := p0 + 1) (v := .slice none 0 0) (n := 0) (xs := []) (H28.out.own.alloc _) (by rfl) (A := some ⟨w2.heap.size, 0, none⟩) (m := 1) (c := 1) (news := [.int .u8 K, .slice B N c1, .string f, .string op, .int .i64 m, .string t]) (by rfl) (row_block (cs := #[.int .u8 K, .slice B N c1, .string f, .string op, .int .i64 m, .string t]) (heap_alloc_new w2 _)) (by rfl) (by simp [Value.oneCell']) (by intro h; cases h) (by omega) (by unfold maxLen; omega) (by simp; have := hz2; omega) ?_
         intro v4 w4 hown4 hg4 hat4
         obtain ⟨A4, c4, rfl, _⟩ := own_row hown4
         have HB4 := Lib.hid ((H28.out.low hg4 p0 (Nat.le_refl _)).trans H28.out.xbox)
         have hc4 : w4.cell? ⟨p0, 1, none⟩ = some (.slice none 0 0) := by rw [Lib.cell_of_heap HB4.out]; rfl
         have hf4 : w4.frozen? ⟨p0, 1, none⟩ = false := Lib.frozen_of_heap HB4.out 1))
    all_goals
      have HS5 := Lib.hid (H28.out.push (show w4.ownsRow (p0 + 1) 57 6 (.slice A4 1 c4) 1 [.int .u8 K, .slice B N c1, .string f, .string op, .int .i64 m, .string t] from hown4) hg4)
      clear hown4 hg4 hat4 HB4 hc4 hf4 y0 y1 y2 y3 y4 y5 yf x0 x1 x2 x3 x4 x5 xf H28 HS HIN
      generalize w4.setCell ⟨p0, 1, none⟩ (.slice A4 (0 + 1) c4) = W5 at *
      obtain ⟨g6, cap6, hv6, hgz6, z0, z1, z2, z3, z4, z5⟩ := HS5.out.one
      obtain ⟨rfl, rfl⟩ : A4 = some ⟨g6, 0, none⟩ ∧ c4 = cap6 := by injection hv6 with e1 e2 e3; exact ⟨e1, e3⟩
      clear hv6
      obtain ⟨_, _, _, q3, _, hbw5⟩ := HS5.out.fl.cells
      have hne := HS5.out.fl.ne
      have hne2 : (er != 0) = true := by simp only [bne, hne]; rfl
      obtain ⟨_, y1, _, _, _, _, _, _⟩ := HS5.out.cells
      obtain ⟨d0, d1, d2, d3, d4, d5, hfd, hdw⟩ := xBox_cells HS5.out.rbox
      have hpl : w.heap.size < p0 := by have := HS5.out.pe; omega
      go_wp2_with fail
      exact LxF.ret HS5.out rfl
structure SgF(n b:Nat)(A:Option Addr)(n0 cap k En:Nat)(er cl:Int)(w:World)(W:World):Prop where
 fl:FaR W b A n0 cap k En er cl
 fr:Fr n (fun i=>i=b) w W
 rbox:W.heap[w.heap.size]?=some (.cells xZ 57 (0,0))
 bl:b<w.heap.size
 nz:n<=w.heap.size
section
variable {n b : Nat} {A : Option Addr} {cap : Nat} {l : List RT} {k k2 n0 En : Nat} {er cl : Int} {w W W' : World}
theorem SgS.stepF(h:SgS n b A cap l En w k W)(hf:Fr n (fun i=>i=b) W W')(hp:FaR W' b A n0 cap k2 En er cl):SgF n b A n0 cap k2 En er cl w W' :=
 ⟨hp,h.fr.trans hf (fun i hi=>.inl hi),(hf.oth _ (heap_lt h.rbox) (by have:=h.bl;omega)).trans h.rbox,h.bl,h.nz⟩
theorem SgF.below(h:SgF n b A n0 cap k En er cl w W)(hb:Below W.heap.size W W'):SgF n b A n0 cap k En er cl w W' :=
 ⟨h.fl.below hb,h.fr.trans (Fr.of (S:=fun i=>i=b) hb (by have:=h.fr.size;have:=h.nz;omega)) (fun i hi=>.inl hi),(hb.block _ (heap_lt h.rbox)).trans h.rbox,h.bl,h.nz⟩
theorem SgF.ret(h:SgF n b A n0 cap k En er cl w W){kk:Int}{B:Option Addr}{M c:Nat}{f op:ByteArray}{m:Int}{t:ByteArray}{T:Array Value}
  (hT2:T[4]?=some (.pointer (some ⟨w.heap.size,0,none⟩))):bodyPost Tryz.prog Tryz.f115 (CndF n b A n0 cap En er cl w) .ret { tmps:=T,defers := [] } (putX w.heap.size kk (.slice B M c) f op m t W) :=
 sgl_ret (putX_box h.rbox) hT2 ⟨_,_,_,_,_,_,_,_,k,rfl,putX_fl h.fl h.bl,putX_fr h.fr h.nz (.inr (Nat.le_refl _))⟩
theorem SgF.retC(h:SgF n b A n0 cap k En er cl w W){kk:Int}{B:Option Addr}{M c:Nat}{f op:ByteArray}{m:Int}{t:ByteArray}{T:Array Value}
  (hT2:T[4]?=some (.pointer (some ⟨w.heap.size,0,none⟩))):bodyPost Tryz.prog Tryz.f62 (CndF n b A n0 cap En er cl w) .ret { tmps:=T,defers := [] } (putX w.heap.size kk (.slice B M c) f op m t W) :=
 cnd_ret (putX_box h.rbox) hT2 ⟨_,_,_,_,_,_,_,_,k,rfl,putX_fl h.fl h.bl,putX_fr h.fr h.nz (.inr (Nat.le_refl _))⟩
end
set_option maxHeartbeats 4000000 in
set_option maxRecDepth 100000 in
theorem fl_condition{n:Nat}{w:World}{b:Nat}{A:Option Addr}{cap k En:Nat}{l:List RT}(h:PkR w b A cap l En k)(hn:n<=w.heap.size)(hnb:n<=b)(d:Int){er cl:Int}
  (hin:∀(wx:World),PkR wx b A cap l En k->n<=wx.heap.size->Calls Tryz.prog 92 #[.pointer (some ⟨b,0,none⟩),.int .u8 111,.int .i64 d] wx (CndF n b A l.length cap En er cl wx)) :
  Calls Tryz.prog 62 #[.pointer (some ⟨b,0,none⟩),.int .i64 d] w (CndF n b A l.length cap En er cl w):=by
 have HS0:=Lib.hid (SgS.start (n:=n) h hn)
 have HI:=Lib.hid hin
 clear h hin
 go_enter Tryz.func62,Tryz.ntmps62
 go_upto_region 1 with fail
 generalize w.alloc (.cells xZ 57)=W0 at *
 go_wp2_with ((go_at_call 92;(with_reducible refine(HI.out _ HS0.out.pk HS0.out.zle).mono ?_);rintro e w2 ⟨K,B,N,c1,f,op,m,t,k2,rfl,hp2,hf2⟩;have HS2:=Lib.hid (HS0.out.stepF hf2 hp2);obtain⟨d0,d1,d2,d3,d4,d5,hfd,hdw⟩:=xBox_cells HS2.out.rbox;clear hp2 hf2))
 exact SgF.retC HS2.out rfl
theorem fl_single_not0{n:Nat}{w:World}{b:Nat}{A:Option Addr}{cap k En:Nat}{l:List RT}(h:PkR w b A cap l En k)(hn:n<=w.heap.size)(hnb:n<=b)(h1:isT wNot ((allT l En).drop k)=true) :
  Calls Tryz.prog 115 #[.pointer (some ⟨b,0,none⟩),.int .i64 32] w (CndF n b A l.length cap En 9 ((seeT l En k).1.col:Int) w):=by
 have HS0:=Lib.hid (SgS.start (n:=n) h hn)
 have hbw:=HS0.out.bl
 obtain⟨K,X,N,C,hC,hsee⟩:=seeR_at (b:=b) (A:=A) (cap:=cap) (k:=k) (En:=En) (l:=l)
 rw[<-hC]
 have HN:=Lib.hid hsee
 have HI1:=Lib.hid (fun (wx:World) (hp:PkR wx b A cap l En k)=>isR_at hp ⟨#[110,111,116]⟩ wNot rfl h1)
 have HF:=Lib.hid (fun (wx:World) (hp:PkR wx b A cap l En k) (hz:n<=wx.heap.size)=>rf_fail hp hz hnb C 9 (by decide))
 clear h hsee h1 hC
 go_enter Tryz.func115,Tryz.ntmps115
 go_upto_region 1 with fail
 generalize w.alloc (.cells xZ 57)=W0 at *
 go_wp2_with (first
  | (go_at_call 64;(with_reducible refine(HN.out _ HS0.out.pk).mono ?_);rintro e w1 ⟨rfl,hb1⟩;have HS1:=Lib.hid (HS0.out.below (hb1.alloc hb1.size (.cells #[.int .u8 K,.string X,.int .i64 N,.int .i64 C] 98)));have HC1:=Lib.hid (heap_alloc_new w1 (.cells #[.int .u8 K,.string X,.int .i64 N,.int .i64 C] 98));clear hb1)
  | (go_at_call 91;(with_reducible refine(HI1.out _ HS1.out.pk).mono ?_);rintro e w2 ⟨rfl,hb2⟩;have HS2:=Lib.hid (HS1.out.below hb2);obtain⟨e0,e1,e2,e3⟩:=tokBox_cells ((hb2.block _ (heap_lt HC1.out)).trans HC1.out);clear hb2)
  | (go_at_call 63;(with_reducible refine(HF.out _ HS2.out.pk HS2.out.zle).mono ?_);rintro e w3 ⟨rfl,hf3,hp3⟩;have HS3:=Lib.hid (HS2.out.stepF hf3 hp3);obtain⟨d0,d1,d2,d3,d4,d5,hfd,hdw⟩:=xBox_cells HS3.out.rbox;clear hf3 hp3))
 exact SgF.ret HS3.out rfl
theorem fl_single_par0{n:Nat}{w:World}{b:Nat}{A:Option Addr}{cap k En:Nat}{l:List RT}(h:PkR w b A cap l En k)(hn:n<=w.heap.size)(hnb:n<=b)(h1:isT wNot ((allT l En).drop k)=false)(h2:isT yLp ((allT l En).drop k)=true) :
  Calls Tryz.prog 115 #[.pointer (some ⟨b,0,none⟩),.int .i64 32] w (CndF n b A l.length cap En 9 ((seeT l En k).1.col:Int) w):=by
 have HS0:=Lib.hid (SgS.start (n:=n) h hn)
 have hbw:=HS0.out.bl
 obtain⟨K,X,N,C,hC,hsee⟩:=seeR_at (b:=b) (A:=A) (cap:=cap) (k:=k) (En:=En) (l:=l)
 rw[<-hC]
 have HN:=Lib.hid hsee
 have HI1:=Lib.hid (fun (wx:World) (hp:PkR wx b A cap l En k)=>isR_at hp ⟨#[110,111,116]⟩ wNot rfl h1)
 have HI2:=Lib.hid (fun (wx:World) (hp:PkR wx b A cap l En k)=>isR_at hp ⟨#[40]⟩ yLp rfl h2)
 have HF:=Lib.hid (fun (wx:World) (hp:PkR wx b A cap l En k) (hz:n<=wx.heap.size)=>rf_fail hp hz hnb C 9 (by decide))
 clear h hsee h1 h2 hC
 go_enter Tryz.func115,Tryz.ntmps115
 go_upto_region 1 with fail
 generalize w.alloc (.cells xZ 57)=W0 at *
 go_wp2_with (first
  | (go_at_call 64;(with_reducible refine(HN.out _ HS0.out.pk).mono ?_);rintro e w1 ⟨rfl,hb1⟩;have HS1:=Lib.hid (HS0.out.below (hb1.alloc hb1.size (.cells #[.int .u8 K,.string X,.int .i64 N,.int .i64 C] 98)));have HC1:=Lib.hid (heap_alloc_new w1 (.cells #[.int .u8 K,.string X,.int .i64 N,.int .i64 C] 98));clear hb1)
  | (go_at_call 91;(with_reducible refine(HI1.out _ HS1.out.pk).mono ?_);rintro e w2 ⟨rfl,hb2⟩;have HS2:=Lib.hid (HS1.out.below hb2);have HC2:=Lib.hid ((hb2.block _ (heap_lt HC1.out)).trans HC1.out);clear hb2)
  | (go_at_call 91;(with_reducible refine(HI2.out _ HS2.out.pk).mono ?_);rintro e w3 ⟨rfl,hb3⟩;have HS3:=Lib.hid (HS2.out.below hb3);obtain⟨e0,e1,e2,e3⟩:=tokBox_cells ((hb3.block _ (heap_lt HC2.out)).trans HC2.out);clear hb3)
  | (go_at_call 63;(with_reducible refine(HF.out _ HS3.out.pk HS3.out.zle).mono ?_);rintro e w4 ⟨rfl,hf3,hp3⟩;have HS4:=Lib.hid (HS3.out.stepF hf3 hp3);obtain⟨d0,d1,d2,d3,d4,d5,hfd,hdw⟩:=xBox_cells HS4.out.rbox;clear hf3 hp3))
 exact SgF.ret HS4.out rfl
set_option maxHeartbeats 4000000 in
set_option maxRecDepth 100000 in
theorem fl_single_not{n:Nat}{w:World}{b:Nat}{A:Option Addr}{cap k En:Nat}{l:List RT}(h:PkR w b A cap l En k)(hn:n<=w.heap.size)(hnb:n<=b)(d:Int)(hd0:0<=d)(hd:d<32){er cl:Int}(h1:isT wNot ((allT l En).drop k)=true)
  (hin:∀(wx:World),PkR wx b A cap l En (k+1)->n<=wx.heap.size->Calls Tryz.prog 115 #[.pointer (some ⟨b,0,none⟩),.int .i64 (d+1)] wx (CndF n b A l.length cap En er cl wx)) :
  Calls Tryz.prog 115 #[.pointer (some ⟨b,0,none⟩),.int .i64 d] w (CndF n b A l.length cap En er cl w):=by
 have HS0:=Lib.hid (SgS.start (n:=n) h hn)
 have hbw:=HS0.out.bl
 obtain⟨K,X,N,C,-,hsee⟩:=seeR_at (b:=b) (A:=A) (cap:=cap) (k:=k) (En:=En) (l:=l)
 have HN:=Lib.hid hsee
 have HI1:=Lib.hid (fun (wx:World) (hp:PkR wx b A cap l En k)=>isR_at hp ⟨#[110,111,116]⟩ wNot rfl h1)
 have HET:=Lib.hid (fun (wx:World) (hp:PkR wx b A cap l En k) (hz:n<=wx.heap.size)=>eatR_yes hp hz hnb ⟨#[110,111,116]⟩ wNot rfl h1)
 have HT:=Lib.hid hin
 have y1:IntKind.i64.wrap (d+1)=d+1:=IntWalk.i64_in _ (by omega)
 clear h hsee h1 hin
 go_enter Tryz.func115,Tryz.ntmps115
 go_upto_region 1 with fail
 generalize w.alloc (.cells xZ 57)=W0 at *
 go_wp2_with (first
  | (go_at_call 64;(with_reducible refine(HN.out _ HS0.out.pk).mono ?_);rintro e w1 ⟨rfl,hb1⟩;have HS1:=Lib.hid (HS0.out.below (hb1.alloc hb1.size (.cells #[.int .u8 K,.string X,.int .i64 N,.int .i64 C] 98)));clear hb1)
  | (go_at_call 91;(with_reducible refine(HI1.out _ HS1.out.pk).mono ?_);rintro e w2 ⟨rfl,hb2⟩;have HS2:=Lib.hid (HS1.out.below hb2);clear hb2)
  | (go_at_call 60;(with_reducible refine(HET.out _ HS2.out.pk HS2.out.zle).mono ?_);rintro e w3 ⟨rfl,hf3,hp3⟩;have HS3:=Lib.hid (HS2.out.step hf3 hp3);clear hf3 hp3)
  | (go_at_call 115;(with_reducible refine(HT.out _ HS3.out.pk HS3.out.zle).mono ?_);rintro e w4 ⟨K4,B,N4,c1,f,op,m,t,k2,rfl,hp2,hf2⟩;have HS4:=Lib.hid (HS3.out.stepF hf2 hp2);have HS5:=Lib.hid (HS4.out.below (alloc_bel w4 (.cells (xC K4 (.slice B N4 c1) f op m t) 57)));obtain⟨d0,d1,d2,d3,d4,d5,hfd,hdw⟩:=xBox_cells HS5.out.rbox;clear hp2 hf2))
 exact SgF.ret HS5.out rfl
theorem fl_one_lit{wx:World}{b:Nat}{A:Option Addr}{n0 cap k En N:Nat}{er cl:Int}{LA:Array Value}{L:List Bs}(hrow:∀(w:World) (t:TypeId),Row (w.alloc (.cells LA t)) (some ⟨w.heap.size,0,none⟩) (strsL L))(hN:L.length=N)(hL:L.length<=1000)(h:FaR wx b A n0 cap k En er cl) :
  Calls Tryz.prog 58 #[.pointer (some ⟨b,0,none⟩),.slice (some ⟨wx.heap.size,0,none⟩) N N] (wx.alloc (.cells LA 9)) fun e w'=>e=.returned (.string ⟨#[]⟩)/\Below wx.heap.size wx w':=by
 have hb:=alloc_bel wx (.cells LA 9)
 refine(fl_one (h.below hb) _ L N hN N (hrow wx _) hL).mono fun e w' hp=>?_
 exact⟨hp.1,hb.trans (hp.2.mono hb.size)⟩
set_option maxHeartbeats 4000000 in
set_option maxRecDepth 100000 in
theorem fl_single_par{n:Nat}{w:World}{b:Nat}{A:Option Addr}{cap k En:Nat}{l:List RT}(h:PkR w b A cap l En k)(hn:n<=w.heap.size)(hnb:n<=b)(d:Int)(hd0:0<=d)(hd:d<32){er cl:Int}(h1:isT wNot ((allT l En).drop k)=false)(h2:isT yLp ((allT l En).drop k)=true)
  (hin:∀(wx:World),PkR wx b A cap l En (k+1)->n<=wx.heap.size->Calls Tryz.prog 62 #[.pointer (some ⟨b,0,none⟩),.int .i64 (d+1)] wx (CndF n b A l.length cap En er cl wx)) :
  Calls Tryz.prog 115 #[.pointer (some ⟨b,0,none⟩),.int .i64 d] w (CndF n b A l.length cap En er cl w):=by
 have HS0:=Lib.hid (SgS.start (n:=n) h hn)
 have hbw:=HS0.out.bl
 obtain⟨K,X,N,C,-,hsee⟩:=seeR_at (b:=b) (A:=A) (cap:=cap) (k:=k) (En:=En) (l:=l)
 have HN:=Lib.hid hsee
 have HI1:=Lib.hid (fun (wx:World) (hp:PkR wx b A cap l En k)=>isR_at hp ⟨#[110,111,116]⟩ wNot rfl h1)
 have HI2:=Lib.hid (fun (wx:World) (hp:PkR wx b A cap l En k)=>isR_at hp ⟨#[40]⟩ yLp rfl h2)
 have HET:=Lib.hid (fun (wx:World) (hp:PkR wx b A cap l En k) (hz:n<=wx.heap.size)=>eatR_no hp hz hnb ⟨#[110,111,116]⟩ wNot rfl h1)
 have HEP:=Lib.hid (fun (wx:World) (hp:PkR wx b A cap l En k) (hz:n<=wx.heap.size)=>eatR_yes hp hz hnb ⟨#[40]⟩ yLp rfl h2)
 have HT:=Lib.hid hin
 have HO:=Lib.hid (fun (wx:World) (kx:Nat) (hp:FaR wx b A l.length cap kx En er cl)=>fl_one_lit (N:=1) row_A1r rfl (by decide) hp)
 have y1:IntKind.i64.wrap (d+1)=d+1:=IntWalk.i64_in _ (by omega)
 clear h hsee h1 h2 hin
 go_enter Tryz.func115,Tryz.ntmps115
 go_upto_region 1 with fail
 generalize w.alloc (.cells xZ 57)=W0 at *
 go_upto_region 10 with(first
  | (go_at_call 64;(with_reducible refine(HN.out _ HS0.out.pk).mono ?_);rintro e w1 ⟨rfl,hb1⟩;have HS1:=Lib.hid (HS0.out.below (hb1.alloc hb1.size (.cells #[.int .u8 K,.string X,.int .i64 N,.int .i64 C] 98)));clear hb1)
  | (go_at_call 91;(with_reducible refine(HI1.out _ HS1.out.pk).mono ?_);rintro e w2 ⟨rfl,hb2⟩;have HS2:=Lib.hid (HS1.out.below hb2);clear hb2)
  | (go_at_call 91;(with_reducible refine(HI2.out _ HS2.out.pk).mono ?_);rintro e w3 ⟨rfl,hb3⟩;have HS3:=Lib.hid (HS2.out.below hb3);clear hb3)
  | (go_at_call 60;(with_reducible refine(HET.out _ HS3.out.pk HS3.out.zle).mono ?_);rintro e w4 ⟨rfl,hf4,hp4⟩;have HS4:=Lib.hid (HS3.out.step hf4 hp4);clear hf4 hp4)
  | (go_at_call 60;(with_reducible refine(HEP.out _ HS4.out.pk HS4.out.zle).mono ?_);rintro e w5 ⟨rfl,hf5,hp5⟩;have HS5:=Lib.hid (HS4.out.step hf5 hp5);clear hf5 hp5)
  | (go_at_call 62;(with_reducible refine(HT.out _ HS5.out.pk HS5.out.zle).mono ?_);rintro e w6 ⟨K4,B,N4,c1,f,op,m,t,k2,rfl,hp2,hf2⟩;have HS6:=Lib.hid (HS5.out.stepF hf2 hp2);clear hp2 hf2))
 have HB7:=Lib.hid (alloc_bel w6 (.cells (xC K4 (.slice B N4 c1) f op m t) 57))
 have HS7:=Lib.hid (HS6.out.below HB7.out)
 have HQ7:=Lib.hid (heap_alloc_new w6 (.cells (xC K4 (.slice B N4 c1) f op m t) 57))
 generalize w6.alloc (.cells (xC K4 (.slice B N4 c1) f op m t) 57)=W7 at *
 generalize w6.heap.size=q6 at *
 go_wp2_with ((go_at_call 58;(with_reducible refine(HO.out _ _ HS7.out.fl).mono ?_);rintro e w8 ⟨rfl,hb8⟩;have HS8:=Lib.hid (HS7.out.below hb8);obtain⟨e0,e1,e2,e3,e4,e5,_,_⟩:=xBox_cells ((hb8.block q6 (heap_lt HQ7.out)).trans HQ7.out);obtain⟨d0,d1,d2,d3,d4,d5,hfd,hdw⟩:=xBox_cells HS8.out.rbox;clear hb8))
 exact SgF.ret HS8.out rfl
def LadF:Nat->List Tok->Nat->Prop
 | 0,ts,c=>(isT wNot ts=true\/isT yLp ts=true)/\(ts.head?.map (·.col))=some c
 | m+1,ts,c=>(isT wNot ts=true\/isT yLp ts=true)/\LadF m ts.tail c
theorem fl_single{n b:Nat}{A:Option Addr}{cap:Nat}{l:List RT}{En c:Nat}(hnb:n<=b):∀m,m<=32->∀(w:World) (k:Nat),PkR w b A cap l En k->n<=w.heap.size->LadF m ((allT l En).drop k) c →
  Calls Tryz.prog 115 #[.pointer (some ⟨b,0,none⟩),.int .i64 (32-(m:Int))] w (CndF n b A l.length cap En 9 (c:Int) w)
 | 0,hm,w,k,h,hn,hl=>by
  obtain⟨h1,h2⟩:=hl
  have e:(seeT l En k).1.col=c:=by
   rw[allT_drop h.le]at h2
   simpa using h2
  rw[<-e]
  show Calls _ _ #[.pointer (some ⟨b,0,none⟩),.int .i64 (32-0)] _ _
  rw[show(32:Int)-0=32 from rfl]
  cases hq:isT wNot ((allT l En).drop k) with
  | true=>exact fl_single_not0 h hn hnb hq
  | false=>exact fl_single_par0 h hn hnb hq (h1.resolve_left (by rw[hq];simp))
 | m+1,hm,w,k,h,hn,hl=>by
  obtain⟨h1,h2⟩:=hl
  rw[List.tail_drop]at h2
  have e:(32:Int)-((m+1:Nat):Int)+1=32-(m:Int):=by omega
  have ih:=fun (wx:World) (hp:PkR wx b A cap l En (k+1)) (hz:n<=wx.heap.size)=>fl_single (A:=A) (cap:=cap) (l:=l) (En:=En) (c:=c) hnb m (by omega) wx (k+1) hp hz h2
  cases hq:isT wNot ((allT l En).drop k) with
  | true=>exact fl_single_not h hn hnb _ (by omega) (by omega) hq (fun wx hp hz=>by rw[e];exact ih wx hp hz)
  | false =>
   refine fl_single_par h hn hnb _ (by omega) (by omega) hq (h1.resolve_left (by rw[hq];simp)) (fun wx hp hz=>?_)
   rw[e]
   exact fl_condition hp hz hnb _ fun wy hp hz=>fl_list_or hp hz hnb _ fun wz hp hz=>fl_list_and hp hz hnb _ ih
theorem fl_cond{n:Nat}{w:World}{b:Nat}{A:Option Addr}{cap k En c:Nat}{l:List RT}(h:PkR w b A cap l En k)(hn:n<=w.heap.size)(hnb:n<=b)(hl:LadF 32 ((allT l En).drop k) c) :
  Calls Tryz.prog 62 #[.pointer (some ⟨b,0,none⟩),.int .i64 0] w (CndF n b A l.length cap En 9 (c:Int) w) :=
 fl_condition h hn hnb _ fun wy hp hz=>fl_list_or hp hz hnb _ fun wz hp hz=>fl_list_and hp hz hnb _ fun wx hp hz=>fl_single hnb 32 (Nat.le_refl _) wx k hp hz hl
def RulF(n b:Nat)(A:Option Addr)(n0 cap En:Nat)(er cl:Int)(w:World)(e:Ending)(w':World):Prop :=
 ∃a m u i k B N c f op x t k2,e=.returned (.agg (rC a m u i k (.slice B N c) f op x t))/\FaR w' b A n0 cap k2 En er cl/\Fr n (fun i=>i=b) w w'
structure RrF(n b:Nat)(A:Option Addr)(n0 cap k En:Nat)(er cl:Int)(w:World)(p:Nat)(cs:Array Value)(W:World):Prop where
 fl:FaR W b A n0 cap k En er cl
 fr:Fr n (fun i=>i=b) w W
 rbox:W.heap[w.heap.size]?=some (.cells rZ 59 (0,0))
 xbox:W.heap[p]?=some (.cells cs 59 (0,0))
 bl:b<w.heap.size
 nz:n<=w.heap.size
 pe:w.heap.size<p
section
variable {n b : Nat} {A : Option Addr} {cap : Nat} {l : List RT} {n0 k k2 En : Nat} {er cl : Int} {w : World} {p : Nat} {cs : Array Value} {W W' : World}
theorem RrS.stepF(h:RrS n b A cap l En w p cs k W)(hf:Fr n (fun i=>i=b) W W')(hp:FaR W' b A n0 cap k2 En er cl):RrF n b A n0 cap k2 En er cl w p cs W' :=
 ⟨hp,h.fr.trans hf (fun i hi=>.inl hi),(hf.oth _ (heap_lt h.rbox) (by have:=h.bl;omega)).trans h.rbox,(hf.oth _ (heap_lt h.xbox) (by have:=h.bl;have:=h.pe;omega)).trans h.xbox,h.bl,h.nz,h.pe⟩
theorem RrF.set(h:RrF n b A n0 cap k En er cl w p cs W)(i:Nat)(v:Value):RrF n b A n0 cap k En er cl w p (cs.setIfInBounds i v) (W.setCell ⟨p,i,none⟩ v) :=
 ⟨h.fl.oth (by have:=h.bl;have:=h.pe;omega) v,h.fr.set v (by have:=h.nz;have:=h.pe;omega) (.inr (by have:=h.pe;omega)),by rw[heap_set_ne v (by have:=h.pe;omega)];exact h.rbox,by rw[heap_set h.xbox],h.bl,h.nz,h.pe⟩
theorem RrF.ret{a:ByteArray}{m u:Int}{i:Bool}{kk:Int}{B:Option Addr}{N c0:Nat}{f op:ByteArray}{x:Int}{t:ByteArray}{T:Array Value}(h:RrF n b A n0 cap k En er cl w p cs W)
  (hT2:T[2]?=some (.pointer (some ⟨w.heap.size,0,none⟩))):bodyPost Tryz.prog Tryz.f39 (RulF n b A n0 cap En er cl w) .ret { tmps:=T,defers := [] } (putRr w.heap.size a m u i kk (.slice B N c0) f op x t W) :=
 rrule_ret (putRr_box h.rbox) hT2 ⟨_,_,_,_,_,_,_,_,_,_,_,_,k,rfl,⟨(putRr_ne (by have:=h.bl;omega)).trans h.fl.box,h.fl.ne⟩,putRr_fr h.fr h.nz (.inr (Nat.le_refl _))⟩
end
set_option maxHeartbeats 8000000 in
set_option maxRecDepth 100000 in
theorem fl_rule{n:Nat}{w:World}{b:Nat}{A:Option Addr}{cap k En c:Nat}{l:List RT}(h:PkR w b A cap l En k)(hn:n<=w.heap.size)(hnb:n<=b){t1:List Tok}(hone:oneF actsL ((allT l En).drop k)=.ok (wKill,t1))(hnu:isT wUntil t1=false)(hif:isT wIf t1=true)(hl:LadF 32 t1.tail c) :
  Calls Tryz.prog 39 #[.pointer (some ⟨b,0,none⟩)] w (RulF n b A l.length cap En 9 (c:Int) w):=by
 have hbw:=h.cells.2.2.2.2.2
 have HB0:=Lib.hid (alloc_bel w (.cells rZ 59))
 have HX0:=Lib.hid (heap_alloc_new w (.cells rZ 59))
 have HP0:=Lib.hid (h.below HB0.out)
 have hz0:(w.alloc (.cells rZ 59)).heap.size=w.heap.size+1:=by simp
 obtain⟨AS,hAS⟩:∃AS,ofL wKill=AS:=⟨_,rfl⟩
 have HO:=Lib.hid (fun (wx:World) (hp:PkR wx b A cap l En k) (hz:n<=wx.heap.size)=>rf_one_lit (n:=n) (N:=6) row_A6a rfl (by decide) hp hz hnb hone)
 rw[show ofL ((wKill,t1):Bs × List Tok).1=AS from hAS]at HO
 have HIN:=Lib.hid (fun (wx:World)=>rf_in_lit (N:=3) (q:=false) (wx:=wx) row_A3a rfl (by decide) AS (by rw[<-hAS,toL_ofL];rfl))
 have HNU:=Lib.hid hnu
 have HIF:=Lib.hid hif
 have HL:=Lib.hid hl
 clear h hone hnu hif hl hAS
 go_enter Tryz.func39,Tryz.ntmps39
 go_upto_region 1 with fail
 generalize w.alloc (.cells rZ 59)=W0 at *
 have HS1:=Lib.hid (show RrS n b A cap l En w W0.heap.size (rC ⟨#[]⟩ 0 (-1) false 0 (.slice none 0 0) ⟨#[]⟩ ⟨#[]⟩ 0 ⟨#[]⟩) k (W0.alloc (.cells (rC ⟨#[]⟩ 0 (-1) false 0 (.slice none 0 0) ⟨#[]⟩ ⟨#[]⟩ 0 ⟨#[]⟩) 59)) from
  ⟨HP0.out.below (alloc_bel _ _),Fr.of (HB0.out.trans ((alloc_bel W0 _).mono (by omega))) hn,((alloc_bel W0 _).block _ (by omega)).trans HX0.out,heap_alloc_new W0 _,hbw,hn,by omega⟩)
 clear hz0
 go_upto_region 2 with fail
 generalize W0.alloc (.cells (rC ⟨#[]⟩ 0 (-1) false 0 (.slice none 0 0) ⟨#[]⟩ ⟨#[]⟩ 0 ⟨#[]⟩) 59)=W1 at *
 clear HB0 HX0 HP0
 generalize W0.heap.size=p at *
 go_upto_region 3 with((go_at_call 58;(with_reducible refine(HO.out _ HS1.out.pk HS1.out.zle).mono ?_);rintro e w2 ⟨rfl,hf2,k2,hp2,hk2⟩;have HK2:=Lib.hid hk2;have HS2:=Lib.hid (HS1.out.step hf2 hp2);obtain⟨c0,c1,c2,c3,c4,c5,c6,c7,c8,c9,fz,xw⟩:=rBox_cells HS2.out.xbox;clear hf2 hp2 hk2))
 have HS3:=Lib.hid (show RrS n b A cap l En w p (rC AS 0 (-1) false 0 (.slice none 0 0) ⟨#[]⟩ ⟨#[]⟩ 0 ⟨#[]⟩) k2 (w2.setCell ⟨p,0,none⟩ (.string AS)) from HS2.out.set 0 (.string AS))
 clear c0 c1 c2 c3 c4 c5 c6 c7 c8 c9 fz xw HS2 HS1
 generalize w2.setCell ⟨p,0,none⟩ (.string AS)=W3 at *
 obtain⟨c0,c1,c2,c3,c4,c5,c6,c7,c8,c9,fz,xw⟩:=rBox_cells HS3.out.xbox
 go_upto_if 13 with(go_at_call 59;(with_reducible refine(HIN.out _).mono ?_);rintro e w4 ⟨rfl,rfl⟩)
 have HS:=Lib.hid (HS3.out.below (alloc_bel W3 (.cells A3a 9)))
 clear c0 c1 c2 c3 c4 c5 c6 c7 c8 c9 fz xw HS3
 generalize W3.alloc (.cells A3a 9)=W4 at *
 obtain⟨_,_,_,g3,_,gw⟩:=HS.out.pk.cells
 have HET:=Lib.hid (fun (wx:World) (hp:PkR wx b A cap l En k2) (hz:n<=wx.heap.size)=>eatR_no hp hz hnb ⟨#[117,110,116,105,108]⟩ wUntil rfl (show isT wUntil ((allT l En).drop k2)=false from by rw[<-HK2.out];exact HNU.out))
 go_upto_region 10 with((go_at_call 60;(with_reducible refine(HET.out _ HS.out.pk HS.out.zle).mono ?_);rintro e WU ⟨rfl,hfE,hpE⟩;have HSU:=Lib.hid (HS.out.step hfE hpE);clear hfE hpE))
 clear g3 gw
 obtain⟨_,_,_,g3,_,gw⟩:=HSU.out.pk.cells
 have HET2:=Lib.hid (fun (wx:World) (hp:PkR wx b A cap l En k2) (hz:n<=wx.heap.size)=>eatR_yes hp hz hnb ⟨#[105,102]⟩ wIf rfl (show isT wIf ((allT l En).drop k2)=true from by rw[<-HK2.out];exact HIF.out))
 have HCC:=Lib.hid (fun (wx:World) (hp:PkR wx b A cap l En (k2+1)) (hz:n<=wx.heap.size)=>fl_cond hp hz hnb (show LadF 32 ((allT l En).drop (k2+1)) c from by rw[<-List.tail_drop, ← HK2.out];exact HL.out))
 go_upto_region 12 with((go_at_call 60;(with_reducible refine(HET2.out _ HSU.out.pk HSU.out.zle).mono ?_);rintro e wI ⟨rfl,hfE,hpE⟩;have HSI:=Lib.hid (HSU.out.step hfE hpE);obtain⟨c0,c1,c2,c3,c4,c5,c6,c7,c8,c9,fz,xw⟩:=rBox_cells HSI.out.xbox;clear hfE hpE))
 have HSJ:=Lib.hid (show RrS n b A cap l En w p (rC AS 0 (-1) true 0 (.slice none 0 0) ⟨#[]⟩ ⟨#[]⟩ 0 ⟨#[]⟩) (k2+1) (wI.setCell ⟨p,3,none⟩ (.bool true)) from HSI.out.set 3 (.bool true))
 clear c0 c1 c2 c3 c4 c5 c6 c7 c8 c9 fz xw g3 gw HSU HSI
 generalize wI.setCell ⟨p,3,none⟩ (.bool true)=WJ at *
 go_upto_region 13 with((go_at_call 62;(with_reducible refine(HCC.out _ HSJ.out.pk HSJ.out.zle).mono ?_);rintro e w8 ⟨K,B,N,c1,f,op,mm,t,k8,rfl,hp8,hf8⟩;have HS8:=Lib.hid (HSJ.out.stepF hf8 hp8);obtain⟨d0,d1,d2,d3,d4,d5,d6,d7,d8,d9,fz,xw⟩:=rBox_cells HS8.out.xbox;clear hp8 hf8))
 have HS9:=Lib.hid (show RrF n b A l.length cap k8 En 9 (c:Int) w p (rC AS 0 (-1) true K (.slice B N c1) f op mm t) ((((((w8.setCell ⟨p,4,none⟩ (.int .u8 K)).setCell ⟨p,5,none⟩ (.slice B N c1)).setCell ⟨p,6,none⟩ (.string f)).setCell ⟨p,7,none⟩ (.string op)).setCell ⟨p,8,none⟩ (.int .i64 mm)).setCell ⟨p,9,none⟩ (.string t)) from
  (((((HS8.out.set 4 (.int .u8 K)).set 5 (.slice B N c1)).set 6 (.string f)).set 7 (.string op)).set 8 (.int .i64 mm)).set 9 (.string t))
 clear d0 d1 d2 d3 d4 d5 d6 d7 d8 d9 fz xw HS8
 generalize ((((((w8.setCell ⟨p,4,none⟩ (.int .u8 K)).setCell ⟨p,5,none⟩ (.slice B N c1)).setCell ⟨p,6,none⟩ (.string f)).setCell ⟨p,7,none⟩ (.string op)).setCell ⟨p,8,none⟩ (.int .i64 mm)).setCell ⟨p,9,none⟩ (.string t))=W9 at *
 obtain⟨g0,g1,g2,g3,_,gw⟩:=HS9.out.fl.cells
 go_quiet (fail)
 have HS9d:=Lib.hid (show RrF n b A l.length cap k8 En 9 (c:Int) w p _ (W9.drewN nq) from⟨HS9.out.fl.drewN nq,⟨below_drewN HS9.out.fr.bel nq,HS9.out.fr.oth⟩,HS9.out.rbox,HS9.out.xbox,HS9.out.bl,HS9.out.nz,HS9.out.pe⟩)
 clear HS9 g0 g1 g2 g3 gw
 generalize W9.drewN nq=WD at *
 obtain⟨c0,c1',c2,c3,c4,c5,c6,c7,c8,c9,fz,xw⟩:=rBox_cells HS9d.out.xbox
 obtain⟨d0,d1,d2,d3,d4,d5,d6,d7,d8,d9,fd,xd⟩:=rBox_cells HS9d.out.rbox
 have hpl:=HS9d.out.pe
 go_wp2_with fail
 exact RrF.ret HS9d.out rfl
theorem pF_ret{Q:Ending->World->Prop}{W:World}{v2 v3 v4 v5:Value}{T:Array Value}(t2:T[2]?=some v2)(t3:T[3]?=some v3)(t4:T[4]?=some v4)(t5:T[5]?=some v5)(hQ:Q (.returned (.tuple #[v2,v3,v4,v5])) W) :
  bodyPost Tryz.prog Tryz.f21 Q .ret { tmps:=T,defers := [] } W:=by
 refine bodyPost_ret (v:=.tuple #[v2,v3,v4,v5]) ?_ rfl hQ
 simp[results,Tryz.f21,go_sem,t2,t3,t4,t5]
structure PsQ(w:World)(i a ln:Nat)(wr:World):Prop where
 az:a=0
 lo:ln=1
 bel:Below w.heap.size w wr
set_option maxHeartbeats 16000000 in
set_option maxRecDepth 100000 in
theorem fl_parse(s:ByteArray)(w:World)(hs:s.size<=65536)(hnl:∀(j:Nat) (h:j<(toL s).length),isNl (toL s)[j]=false)(hid:idleF (toL s)=false){ts t1:List Tok}{c:Nat}(htk:toksF (toL s)=.ok ts)
  (hone:oneF actsL ts=.ok (wKill,t1)) (hnu:isT wUntil t1=false) (hif:isT wIf t1=true) (hl:LadF 32 t1.tail c) :
  Calls Tryz.prog 21 #[.string s] w fun e w'=>e=.returned (.tuple #[.slice none 0 0,.int .i64 1,.int .i64 (c:Int),.int .i64 9])/\Below w.heap.size w w':=by
 have HL:=Lib.hid (toL_length s)
 have HAT:=Lib.hid (fun k (hk:k<s.size)=>toL_getElem s k hk)
 have hs1:¬ (65536:Int)<(s.size:Int):=by omega
 have HNL:=Lib.hid hnl
 have HID0:=Lib.hid hid
 have HTK:=Lib.hid htk
 have HONE:=Lib.hid hone
 have HNU:=Lib.hid hnu
 have HIF:=Lib.hid hif
 have HLAD:=Lib.hid hl
 have HP0:=Lib.hid (show PsQ w 0 0 1 w from⟨rfl,rfl,Below.refl _ _⟩)
 clear hnl hid htk hone hnu hif hl
 go_enter Tryz.func21,Tryz.ntmps21
 go_wp2_with fail
 go_loopw [6,7,8,9] (fun v6 v7 v8 v9 wr=>∃(i a ln:Nat),i<=s.size/\v6=.slice none 0 0/\v7=.int .i64 (ln:Int)/\v8=.int .i64 (a:Int)/\v9=.int .i64 (i:Int)/\PsQ w i a ln wr) (fun _ _ _ v9 _=>s.size+1-(intOf v9).toNat)
 case atStart=>exact⟨0,0,1,by omega,rfl,rfl,rfl,rfl,HP0.out⟩
 case round =>
  obtain⟨i,a,ln,hi,rfl,rfl,rfl,rfl,hps⟩:=hrel
  have HPS:=Lib.hid hps
  have hai:a<=i:=by have:=hps.az;omega
  have hln:ln<=1:=by have:=hps.lo;omega
  clear hps HP0
  have i0:(0:Int)<=(i:Int):=by omega
  have a0:(0:Int)<=(a:Int):=by omega
  have i1:(i:Int)<=(s.size:Int):=by omega
  by_cases hlt:i<s.size
  ·have hne:(num (s[i]'hlt)==10)=false:=by
    have h3:=HNL.out i (by rw[HL.out];exact hlt)
    rw[HAT.out i hlt]at h3
    unfold isNl at h3
    rw[beq_eq_false_iff_ne]at h3⊢
    intro e
    apply h3
    apply UInt8.toNat_inj.1
    simp only[num]at e
    show(s[i]'hlt).toNat = 10
    omega
   have i2:decide (i<s.size)=true:=decide_eq_true hlt
   have i3:(i:Int)<(s.size:Int):=by omega
   have hb:(num (s[i]'hlt) != 10)=true:=by simp only[bne,hne];rfl
   clear hne
   go_wp2_with fail
   go_roundw
   case rel=>exact⟨i+1,a,ln,by omega,rfl,rfl,rfl,by go_num,HPS.out.az,HPS.out.lo,HPS.out.bel⟩
   case measure=>simp[intOf]<;>omega
  ·have q1:decide (i<s.size)=false:=decide_eq_false hlt
   obtain⟨X,hX⟩:∃X,s.extract a i=X:=⟨_,rfl⟩
   have HXS:=Lib.hid (show toL X=toL s from by
    have h1:((toL s).drop a).take (i-a)=toL X:=by rw[<-hX,extract_toL];rfl
    rw[<-h1,HPS.out.az,List.drop_zero]
    exact List.take_of_length_le (by rw[HL.out];omega))
   have hXs:X.size=i-a:=by rw[<-hX];exact extract_size s a i hi
   have hXle:X.size<=65536:=by omega
   clear hXs
   have a1:(a:Int)<=(i:Int):=by omega
   have HXT:=Lib.hid (toL_length X)
   have HXA:=Lib.hid (fun k (hk:k<X.size)=>toL_getElem X k hk)
   have hX2:=hX
   have HX:=Lib.hid hX
   have hai2:a<=i:=hai
   go_upto_region 8 with fail
   go_cut [35] (fun s35 wx=>s35=.bool false/\wr=wx)
   case first =>
    go_wp2_with fail
    go_meet
    exact⟨rfl,rfl⟩
   case rest =>
    obtain⟨rfl,hwc⟩:=hcut
    subst hwc
    obtain⟨wo,rfl⟩:∃wo:World,wo=wr:=⟨_,rfl⟩
    go_wp2_with fail
    clear hX hX2
    go_loop [11] (fun v=>∃k:Nat,k<=X.size/\v=.int .i64 (k:Int)/\∀(j:Nat) (h:j<(toL X).length),j<k->blkS (toL X)[j]=true) (fun v=>X.size-(intOf v).toNat)
    case atStart=>exact⟨0,by omega,rfl,fun j _ hj=>by omega⟩
    case round =>
     obtain⟨k,hk,rfl,hbl⟩:=hrel
     have HBL:=Lib.hid hbl
     clear hbl
     have k0:(0:Int)<=(k:Int):=by omega
     by_cases hkb:∃h:k<X.size,isBlank (num (X[k]'h))=true
     ·obtain⟨hlt,hbk⟩:=hkb
      have k1:(k:Int)<(X.size:Int):=by omega
      have HBK:=Lib.hid (fun wx=>show Calls Tryz.prog 37 #[.int .u8 (num (X[k]'hlt))] wx fun e w'=>e=.returned (.bool true)/\wx=w' from by
       have:=rf_blank (num (X[k]'hlt)) wx
       rwa [hbk]at this)
      have HBB:=Lib.hid hbk
      clear hbk
      go_wp2_with ((go_at_call 37;(with_reducible refine(HBK.out _).mono ?_);rintro e w' ⟨rfl,rfl⟩))
      go_round
      case rel =>
       refine⟨k+1,by omega,by go_num,fun j hj h1=>?_⟩
       rcases Nat.lt_or_ge j k with q|q
       ·exact HBL.out j hj q
       ·obtain rfl:j=k:=by omega
        rw[HXA.out j hlt]
        exact HBB.out
      case measure=>simp[intOf]<;>omega
     ·have HKS:=Lib.hid (show ∀(h:k<(toL X).length),blkS (toL X)[k]=false from fun h=>by
       rw[HXT.out]at h
       rw[HXA.out k h]
       by_cases q:isBlank (num (X[k]'h))=true
       ·exact absurd ⟨h,q⟩ hkb
       ·simpa[blkS] using q)
      have HID:=Lib.hid (idle_at (by rw[HXT.out];exact hk) HBL.out HKS.out)
      clear hkb
      go_upto_region 11 with fail
      go_cut [49] (fun s49 wx=>s49=.bool false/\wo=wx)
      case first =>
       by_cases hlt:k<X.size
       ·have k1:(k:Int)<(X.size:Int):=by omega
        have k2:decide (k<X.size)=true:=decide_eq_true hlt
        have HBK:=Lib.hid (fun wx=>show Calls Tryz.prog 37 #[.int .u8 (num (X[k]'hlt))] wx fun e w'=>e=.returned (.bool false)/\wx=w' from by
         have:=rf_blank (num (X[k]'hlt)) wx
         have h2:=HKS.out (by rw[HXT.out];exact hlt)
         rw[HXA.out k hlt]at h2
         rwa [show isBlank (num (X[k]'hlt))=false from h2]at this)
        go_wp2_with ((go_at_call 37;(with_reducible refine(HBK.out _).mono ?_);rintro e w' ⟨rfl,rfl⟩))
        go_meet
        exact⟨rfl,rfl⟩
       ·have k2:decide (k<X.size)=false:=decide_eq_false hlt
        go_wp2_with fail
        go_meet
        exact⟨rfl,rfl⟩
      case rest =>
       obtain⟨rfl,hwc⟩:=hcut
       subst hwc
       go_upto_region 13 with fail
       go_cut [61] (fun s61 wx=>s61=.bool true/\wo=wx)
       case first =>
        have HI2:=Lib.hid (show(if h:k<(toL X).length then (toL X)[k]==35 else true)=false from by rw[<-HID.out,HXS.out];exact HID0.out)
        by_cases hlt:k<X.size
        ·have k1:(k:Int)<(X.size:Int):=by omega
         have k2:decide (k<X.size)=true:=decide_eq_true hlt
         have hb:(num (X[k]'hlt) != 35)=true:=by
          have h2:=HI2.out
          rw[dif_pos (by rw[HXT.out];exact hlt),HXA.out k hlt,beq_eq_false_iff_ne]at h2
          rw[bne_iff_ne]
          exact fun e=>h2 (UInt8.toNat_inj.1 (by simp only[num]at e;show(X[k]'hlt).toNat = 35;omega))
         go_wp2_with fail
         go_meet
         exact⟨rfl,rfl⟩
        ·have h2:=HI2.out
         rw[dif_neg (by rw[HXT.out];exact hlt)]at h2
         cases h2
       case rest =>
        obtain⟨rfl,hwc⟩:=hcut
        subst hwc
        have HT:=Lib.hid (fun wx=>(rf_tokens X wx (by omega) (show toksF (toL X)=.ok ts from by rw[HXS.out];exact HTK.out)).mono (R':=fun e w'=>∃A2 c2 l,e=.returned (.tuple #[.slice A2 l.length c2,.int .i64 0,.int .i64 0])/\Row w' A2 (rtsV l)/\(∀bb o,A2=some ⟨bb,o,none⟩->bb<w'.heap.size)/\RtsOk l/\ts=allT l (X.size+1)/\Below wx.heap.size wx w') (fun e w' hp=>by
         obtain⟨v,l,h1,h2,h3,h4,h5⟩:=hp
         obtain⟨A2,c2,rfl,hr⟩:=own_row h2
         exact⟨A2,c2,l,h1,hr,fun bb o e=>(h2.lt bb (by rw[e];rfl)).2,h3,h4,h5⟩))
        have HTO:=Lib.hid (toksF_ok (by rw[HXT.out];omega) (show toksF (toL X)=.ok ts from by rw[HXS.out];exact HTK.out))
        obtain⟨En,hEn⟩:∃En,X.size+1=En:=⟨_,rfl⟩
        have y1:IntKind.i64.wrap ((X.size:Int)+1)=(En:Int):=by rw[IntWalk.i64_in _ (by omega)];omega
        rw[hEn]at HT
        have hEn2:En<=100000:=by omega
        clear hEn
        go_upto_region 19 with((go_at_call 38;(with_reducible refine(HT.out _).mono ?_);rintro e w2 ⟨A2,c2,l,rfl,hr2,hlt2,hok2,hts2,hb2⟩;have HR2:=Lib.hid hr2;have HLT2:=Lib.hid hlt2;have HOK2:=Lib.hid hok2;have HTS2:=Lib.hid hts2;have HB2:=Lib.hid hb2;clear hr2 hlt2 hok2 hts2 hb2))
        go_upto_region 20 with fail
        have HB3:=Lib.hid (alloc_bel w2 (.cells #[.slice A2 l.length c2,.int .i64 0,.int .i64 (En:Int),.int .i64 0,.int .i64 0] 101))
        have HTL:=Lib.hid (show TksOk (allT l En) from HTS2.out ▸ HTO.out)
        have hlf:l.length<=1000000:=by have:=HTL.out.few;rw[allT_length]at this;omega
        have HPK:=Lib.hid (show PkR (w2.alloc (.cells #[.slice A2 l.length c2,.int .i64 0,.int .i64 (En:Int),.int .i64 0,.int .i64 0] 101)) w2.heap.size A2 c2 l En 0 from
         ⟨heap_alloc_new w2 _,HR2.out.below HB3.out,HLT2.out,rtGood_of HTL.out HOK2.out,hlf,by omega,Nat.zero_le _⟩)
        have hzo:=HPS.out.bel.size
        have hz2:=HB2.out.size
        have HBO:=Lib.hid (HB2.out.trans (HB3.out.mono hz2))
        have hb3z:w2.heap.size<(w2.alloc (.cells #[.slice A2 l.length c2,.int .i64 0,.int .i64 (En:Int),.int .i64 0,.int .i64 0] 101)).heap.size:=by simp
        have HRR:=Lib.hid (fl_rule (n:=w.heap.size) (c:=c) HPK.out (by omega) (by omega) (show oneF actsL ((allT l En).drop 0)=.ok (wKill,t1) from by rw[List.drop_zero, ← HTS2.out];exact HONE.out) HNU.out HIF.out HLAD.out)
        clear HT HPK HR2 HLT2 HOK2 HTS2 HTL HTO HB3
        generalize w2.alloc (.cells #[.slice A2 l.length c2,.int .i64 0,.int .i64 (En:Int),.int .i64 0,.int .i64 0] 101)=W3 at *
        generalize w2.heap.size=b at *
        go_upto_region 21 with(go_at_call 39;go_loud (with_reducible refine HRR.out.mono ?_);go_loud (rintro e w5 ⟨ra,rm,ru,ri,K,B,N,c0,f,op,xx,t,k9,rfl,hfl5,hf5⟩;have HF5:=Lib.hid hf5;have HFL5:=Lib.hid hfl5;clear hf5 hfl5))
        have HB6:=Lib.hid (alloc_bel w5 (.cells (rC ra rm ru ri K (.slice B N c0) f op xx t) 59))
        have hz5:=HF5.out.size
        have HBE6:=Lib.hid (HPS.out.bel.trans ((HBO.out.mono hzo).trans (HF5.out.bel.trans (HB6.out.mono (by have:=HBO.out.size;omega)))))
        have HP6:=Lib.hid (HFL5.out.below HB6.out)
        obtain⟨_,_,_,g3,g4,gz⟩:=HP6.out.cells
        have HLO:=Lib.hid HPS.out.lo
        generalize w5.alloc (.cells (rC ra rm ru ri K (.slice B N c0) f op xx t) 59)=W6 at *
        go_upto_region 22 with fail
        go_quiet (fail)
        have HBE7:=Lib.hid (below_drewN HBE6.out nq)
        clear HBE6 HP6 g3 g4 gz
        generalize W6.drewN nq=WD at *
        go_wp2_with fail
        exact pF_ret (v2:=.slice none 0 0) (v3:=.int .i64 (ln:Int)) (v4:=.int .i64 (c:Int)) (v5:=.int .i64 9) rfl rfl rfl rfl ⟨by rw[HLO.out];rfl,HBE7.out⟩
end Go.Proofs.YtannhfnpigiggaaGreatDoor
namespace Go.Proofs.YtannhfnpigiggaaGreatDoor
set_option linter.unusedSimpArgs false
set_option linter.unusedVariables false
def ladB:Nat->List Tok->Nat->Bool
 | 0,ts,c=>(isT wNot ts || isT yLp ts)&&(ts.head?.map (·.col))==some c
 | m+1,ts,c=>(isT wNot ts || isT yLp ts)&&ladB m ts.tail c
theorem ladF_of:∀m ts c,ladB m ts c=true->LadF m ts c
 | 0,ts,c,h=>by
  unfold ladB at h
  rw[Bool.and_eq_true,Bool.or_eq_true]at h
  exact⟨h.1,beq_iff_eq.1 h.2⟩
 | m+1,ts,c,h=>by
  unfold ladB at h
  rw[Bool.and_eq_true,Bool.or_eq_true]at h
  exact⟨h.1,ladF_of m _ c h.2⟩
def chkL(L:Bs)(c:Nat):Bool:=match toksF L with
 | .ok ts=>match oneF actsL ts with
  | .ok a=>a.1==wKill && !isT wUntil a.2&&isT wIf a.2&&ladB 32 a.2.tail c
  | .error _=>false
 | .error _=>false
theorem chkL_ok{L:Bs}{c:Nat}(h:chkL L c=true):∃ts t1,toksF L=.ok ts/\oneF actsL ts=.ok (wKill,t1)/\isT wUntil t1=false/\isT wIf t1=true/\LadF 32 t1.tail c:=by
 unfold chkL at h
 cases h1:toksF L with
 | error e=>rw[h1]at h;cases h
 | ok ts =>
  rw[h1]at h
  simp only at h
  cases h2:oneF actsL ts with
  | error e=>rw[h2]at h;cases h
  | ok a =>
   rw[h2]at h
   obtain⟨a1,a2⟩:=a
   simp only[Bool.and_eq_true,Bool.not_eq_true',beq_iff_eq]at h
   obtain⟨⟨⟨rfl,h3⟩,h4⟩,h5⟩:=h
   exact⟨ts,a2,rfl,h2,h3,h4,ladF_of _ _ _ h5⟩
def okE{α:Type}{β:Type} : Except α β->Bool
 | .ok _=>true
 | .error _=>false
theorem okE_ok{α β:Type}{x:Except α β}(h:okE x=true):∃y,x=.ok y:=by
 cases x with
 | ok y=>exact⟨y,rfl⟩
 | error e=>cases h
theorem lad_ok{d:Nat}(h1:28<=d)(h2:d<=32):∃l,parseG (ladL d)=.ok l:=by
 apply okE_ok
 obtain rfl|rfl|rfl|rfl|rfl:d=28\/d=29\/d=30\/d=31\/d=32:=by omega
 all_goals kernel_rfl
theorem lad_err{d:Nat}(h1:33<=d)(h2:d<=35):parseG (ladL d)=.error (1,89,9):=by
 obtain rfl|rfl|rfl:d=33\/d=34\/d=35:=by omega
 all_goals kernel_rfl
theorem lad_chk{d:Nat}(h1:33<=d)(h2:d<=35):chkL (ladL d) 89=true:=by
 obtain rfl|rfl|rfl:d=33\/d=34\/d=35:=by omega
 all_goals kernel_rfl
theorem lad_line{d:Nat}(h1:28<=d)(h2:d<=35):((ladL d).all fun c => !isNl c)=true/\idleF (ladL d)=false/\decide ((ladL d).length<=300)=true:=by
 obtain rfl|rfl|rfl|rfl|rfl|rfl|rfl|rfl:d=28\/d=29\/d=30\/d=31\/d=32\/d=33\/d=34\/d=35:=by omega
 all_goals exact⟨by kernel_rfl,by kernel_rfl,by kernel_rfl⟩
end Go.Proofs.YtannhfnpigiggaaGreatDoor
