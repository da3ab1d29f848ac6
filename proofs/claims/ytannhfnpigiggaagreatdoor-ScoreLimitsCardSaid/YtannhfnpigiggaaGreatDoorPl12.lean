import Derived.Test.YtannhfnpigiggaaGreatDoorPl6
import Derived.Test.YtannhfnpigiggaaGreatDoorPlS
import Derived.Test.YtannhfnpigiggaaGreatDoorPl8
import Derived.RangeFuncNested
import Derived.RangeFuncBound
import Derived.RangeFuncCalls
import Derived.RangeFuncLeaves
import Derived.Shelf.Abstract
import Derived.Shelf.RegionOpen
import Derived.OwnWalkIn
import Derived.TacticsInMore
import Derived.LoopNIn
import Derived.LoopIn
namespace Go.Proofs.YtannhfnpigiggaaGreatDoor
set_option linter.unusedSimpArgs false
set_option linter.unusedVariables false
open Go.RowKit Go.Shelf
attribute [local go_sem] Oper.semAt_some
variable {M : Nat}
end Go.Proofs.YtannhfnpigiggaaGreatDoor
namespace Go.Proofs.YtannhfnpigiggaaGreatDoor
set_option linter.unusedSimpArgs false
set_option linter.unusedVariables false
variable {M : Nat}
end Go.Proofs.YtannhfnpigiggaaGreatDoor
namespace Go.Proofs.YtannhfnpigiggaaGreatDoor
set_option linter.unusedSimpArgs false
set_option linter.unusedVariables false
open Go.RowKit Go.Shelf
attribute [local go_sem] Oper.semAt_some
abbrev RnT := { x:Nat × Nat // x.1<=100000000/\x.2<=1114111/\(x.2<55296\/57343<x.2) }
abbrev rnE(x:RnT):Array Value:=#[.int .i64 (x.1.1:Int),.int .i32 (x.1.2:Int)]
def AllRn(L:List UInt8)(xs:List RnT):Prop:=xs.map (·.1)=(allF L 0).1
def SomeRn(L:List UInt8)(xs:List RnT):Prop:=xs.map (·.1) <+: (allF L 0).1
structure RnAt(L:List UInt8)(pre:List RnT)(i:Nat):Prop where
 all:(allF L 0).1=pre.map (·.1)++(allF (L.drop i) i).1
 le:i<=L.length
 few:pre.length<=i
theorem RnAt.zero(L:List UInt8):RnAt L [] 0:=⟨rfl,by omega,Nat.le_refl _⟩
theorem RnAt.done{L:List UInt8}{pre:List RnT}{i:Nat}(h:RnAt L pre i)(hi:L.length<=i):AllRn L pre:=by
 unfold AllRn;rw[h.all,List.drop_eq_nil_of_le hi,allF_nil];simp
theorem drop_ne{L:List UInt8}{i:Nat}(h:i<L.length):L.drop i≠[]:=fun e=>by have:=congrArg List.length e;rw[List.length_drop]at this;simp at this;omega
theorem RnAt.err{L:List UInt8}{pre:List RnT}{i:Nat}(h:RnAt L pre i)(hi:i<L.length)(he:(decU (L.drop i)).2.2≠0):AllRn L pre:=by
 unfold AllRn;rw[h.all,allF_err (drop_ne hi) i he];simp
theorem RnAt.next{L:List UInt8}{pre:List RnT}{i:Nat}(h:RnAt L pre i)(hi:i<L.length)(he:(decU (L.drop i)).2.2=0)(x:RnT)(hx:x.1=(i,(decU (L.drop i)).1)):RnAt L (pre ++ [x]) (i+(decU (L.drop i)).2.1):=by
 have hk:=decU_ok he
 rw[List.length_drop]at hk
 refine⟨?_,by omega,by have:=h.few;simp;omega⟩
 rw[h.all,allF_ok (drop_ne hi) i he,List.drop_drop];simp[hx]
theorem RnAt.part{L:List UInt8}{pre:List RnT}{i:Nat}(h:RnAt L pre i):SomeRn L pre:=by
 unfold SomeRn;rw[h.all];exact List.prefix_append _ _
def runeB(r:Nat):Prop:=r<=1114111/\(r<55296\/57343<r)
theorem begR_lead{f:UInt8}{r:List UInt8}{y:Nat × Nat}(h:begR (f::r)=some y):y.1=leadN f/\okR (leadN f) (r.length+1) y.2=true:=by
 rw[begR]at h
 split at h
 ·cases h
 ·split at h
  ·cases h
  ·split at h
   ·rename_i hk;injection h with h;subst h;exact⟨rfl,hk⟩
   ·cases h
theorem okR_rune{n v:Nat}(h:okR n n v=true):runeB v:=by
 have hm:mostU n<=1114111:=by unfold mostU;split<;>(try split)<;>(try split)<;>(try split)<;>omega
 unfold okR at h
 rw[Nat.sub_self]at h
 simp only[lowR,highR,Bool.not_eq_true',Bool.or_eq_false_iff,Bool.and_eq_false_iff,decide_eq_false_iff_not]at h
 unfold runeB
 generalize leastU n=a at *
 generalize mostU n=b at *
 obtain⟨h1,h2⟩:=h
 have q1:=Nat.le_max_left v a
 have q2:=Nat.min_le_left v b
 have q3:=Nat.min_le_right v b
 have h3:=of_decide_eq_false h2
 rcases h1 with h1|h1
 ·have h4:=of_decide_eq_false h1;omega
 ·have h4:=of_decide_eq_false h1;omega
theorem decU_rune{l:List UInt8}(h:(decU l).2.2=0):runeB (decU l).1:=by
 cases l with
 | nil=>simp[decU]at h
 | cons f r =>
  rw[<-firstR_eq]at h⊢
  unfold firstR at h⊢
  cases h1:begR ((f::r).take 1) with
  | none=>rw[h1]at h;simp at h
  | some x =>
   rw[h1]at h
   dsimp only at h⊢
   by_cases h2:x.1<=(f::r).length
   ·rw[if_pos h2]at h⊢
    cases h3:begR ((f::r).take x.1) with
    | none=>rw[h3]at h;simp at h
    | some y =>
     dsimp only
     have hx:=(begR_lead (f:=f) (r := []) h1).1
     cases hk:x.1 with
     | zero=>rw[hk]at h3;simp[begR]at h3
     | succ k =>
      rw[hk,List.take_succ_cons]at h3
      obtain⟨h4,h5⟩:=begR_lead h3
      have hl:(r.take k).length+1=x.1:=by rw[List.length_take];simp at h2;omega
      rw[hl,hx]at h5
      exact okR_rune h5
   ·rw[if_neg h2]at h
    cases h3:begR (f::r) with
    | none=>rw[h3]at h;simp at h
    | some y=>rw[h3]at h;simp at h
theorem art_runes(s:ByteArray)(w:World)(n:Nat):CallsIn Fence.wide n Tryz.prog 137 #[.string s] w fun e w'=>e=.returned (.func (.func 151) #[] #[.pointer (some ⟨w.heap.size,0,none⟩)])/\w'=w.alloc (.cells #[.string s] 9):=by
 refine callsIn_of_wp Tryz.func137 rfl trivial ?_ rfl
 simp only[Tryz.ntmps137,List.size_toArray,List.length_cons,List.length_nil,Nat.reduceAdd,Nat.reduceSub,Array.replicate_succ,Array.replicate_zero,List.push_toArray,List.append_toArray,List.nil_append,List.cons_append]
 gi_wp2
 go_ret
 exact⟨rfl,rfl⟩
set_option maxRecDepth 100000 in
set_option maxHeartbeats 4000000 in
theorem runes_stops(n:Nat)(hn:1<=n)(Kp:World->World->Prop)(w:World)(B:Nat)(hB:B<w.heap.size)(s:ByteArray)(hKc:∀W W',Kp W W'->W.cell? ⟨B,0,none⟩=some (.string s)->W'.cell? ⟨B,0,none⟩=some (.string s))(hs:s.size<=90000000)(hc:w.cell? ⟨B,0,none⟩=some (.string s)) :
  SeqStopsK Fence.wide n Tryz.prog 151 #[.pointer (some ⟨B,0,none⟩)] rnE Kp (AllRn (toL s)) (SomeRn (toL s)) 100000000 w:=fun l J Jx W hW hJA _ hY h0=>by
 have HJA:=Lib.hid hJA
 have HKC:=Lib.hid hKc;clear hKc
 have HC:=Lib.hid ((hW.cell (p:=⟨B,0,none⟩) hB).trans hc)
 have HL:=Lib.hid (toL_length s)
 have HZ:=Lib.hid (RnAt.zero (toL s))
 have HY:=Lib.hid hY
 clear hW hY hc hB hJA
 refine callsIn_of_wp Tryz.func151 rfl trivial ?_ rfl
 simp only[Tryz.ntmps151,List.size_toArray,List.length_cons,List.length_nil,Nat.reduceAdd,Nat.reduceSub,Array.replicate_succ,Array.replicate_zero,List.push_toArray,List.append_toArray,List.nil_append,List.cons_append]
 gi_wp2
 gi_loopw [3] (fun i wr=>∃(at_:Nat) (pre:List RnT),i=.int .i64 (at_:Int)/\RnAt (toL s) pre at_/\J pre wr/\wr.cell? ⟨B,0,none⟩=some (.string s))
  (fun i _=>s.size-(intOf i).toNat)
 case atStart=>exact⟨0, [],rfl,HZ.out,h0,HC.out⟩
 case round =>
  obtain⟨at_,pre,rfl,hat,hJ0,hcr⟩:=hrel
  have HAT:=Lib.hid hat
  have hle:=HAT.out.le
  rw[HL.out]at hle
  clear hat HZ h0 HC
  have k0:(0:Int)<=(at_:Int):=by omega
  by_cases hlt:at_<s.size
  ·have k1:(at_:Int)<(s.size:Int):=by omega
   have HT:=Lib.hid (ext_drop s at_)
   have hxs:(s.extract at_ s.size).size<=100000000:=by rw[extract_size _ _ _ (Nat.le_refl _)];omega
   have HDC:=Lib.hid (fun wx=>u8_decode (s.extract at_ s.size) wx hxs)
   rw[HT.out]at HDC
   have hll:at_<(toL s).length:=by rw[HL.out];exact hlt
   have hsz:=decU_size ((toL s).drop at_)
   by_cases he:(decU ((toL s).drop at_)).2.2=0
   ·have HN:=Lib.hid (fun (x:RnT) hx=>HAT.out.next hll he x hx)
    have hru:=decU_rune he
    have hk:=decU_ok he
    rw[List.length_drop,HL.out]at hk
    rw[he]at HDC
    generalize (decU ((toL s).drop at_)).2.1=m at *
    generalize (decU ((toL s).drop at_)).1=r at *
    have hfew:=HAT.out.few
    clear he
    gi_wp2_with (refine⟨trivial,?_⟩;gi_at_call 152;refine(callsIn_wide.2 (HDC.out _)).mono ?_;rintro e w' ⟨rfl,nd,rfl⟩)
    have hJ1:=HJA.out pre wr (wr.drewN nd) none hJ0 ⟨rfl,rfl,rfl,Nat.le_refl _,fun _ _ _=>rfl⟩ (fun r e=>by cases e)
    obtain⟨fn,tmps,assign,body,hy,hY1⟩:=HY.out pre ⟨(at_,r),by omega,hru⟩ (wr.drewN nd) hJ1 (by omega)
    dsimp only[rnE]at hy
    have hcd:(wr.drewN nd).cell? ⟨B,0,none⟩=some (.string s):=hcr
    rw[hy]
    gi_wp2
    refine hY1.mono ?_
    rintro e W3 (⟨rfl,hJ3,hk3⟩|⟨rfl,hJx3⟩)
    ·have hc3:=HKC.out _ _ hk3 hcd
     gi_wp2
     go_roundw
     case rel=>exact⟨at_+m,_,by go_num,HN.out _ rfl,hJ3,hc3⟩
     case measure=>simp[intOf]<;>omega
    ·gi_wp2
     refine bodyPost_ret (results_none rfl _ _ _) rfl ?_
     exact⟨⟨_,rfl⟩,.inr ⟨_,(HN.out ⟨(at_,r),by omega,hru⟩ rfl).part,hJx3⟩⟩
   ·have HD:=Lib.hid (HAT.out.err hll he)
    have e2:((decU ((toL s).drop at_)).2.2 != 0)=true:=by simp[bne,he]
    generalize (decU ((toL s).drop at_)).2.2=ke at *
    generalize (decU ((toL s).drop at_)).2.1=m at *
    generalize (decU ((toL s).drop at_)).1=r at *
    clear he
    gi_wp2_with (refine⟨trivial,?_⟩;gi_at_call 152;refine(callsIn_wide.2 (HDC.out _)).mono ?_;rintro e w' ⟨rfl,nd,rfl⟩)
    all_goals
     refine⟨fun _ h=>(by cases h),?_⟩
     gi_wp2
    all_goals
     refine bodyPost_ret (results_none rfl _ _ _) rfl ?_
     exact⟨⟨_,rfl⟩,.inl ⟨_,HD.out,HJA.out pre wr (wr.drewN nd) none hJ0 ⟨rfl,rfl,rfl,Nat.le_refl _,fun _ _ _=>rfl⟩ (fun r e=>by cases e)⟩⟩
  ·have k1:(s.size:Int)<=(at_:Int):=by omega
   have HD:=Lib.hid (HAT.out.done (by rw[HL.out];omega))
   gi_wp2
   go_end0
   exact⟨⟨_,rfl⟩,.inl ⟨pre,HD.out,hJ0⟩⟩
attribute [local go_sem] Oper.semAt_some
attribute [local go_sem] Oper.semAt_some
end Go.Proofs.YtannhfnpigiggaaGreatDoor
namespace Go.Proofs.YtannhfnpigiggaaGreatDoor
set_option linter.unusedSimpArgs false
set_option linter.unusedVariables false
end Go.Proofs.YtannhfnpigiggaaGreatDoor
