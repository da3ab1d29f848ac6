import Derived.Test.YtannhfnpigiggaaGreatDoorPl5
import Derived.Deep.DeepCutAuto
import Derived.Deep.DeepFit
import Derived.Outline
namespace Go.Proofs.YtannhfnpigiggaaGreatDoor
set_option linter.unusedSimpArgs false
set_option linter.unusedVariables false
open Go.RowKit
theorem foldU_snoc(v:Nat)(l:List UInt8)(c:UInt8):foldU v (l ++ [c])=64*foldU v l+(c.toNat - 128):=by simp[foldU]
def valTo(L:List UInt8)(k:Nat):Nat:=valU (L.take k)
theorem valTo_succ{L:List UInt8}{k:Nat}(hk1:1<=k)(hk:k<L.length):valTo L (k+1)=64*valTo L k+(L[k].toNat - 128):=by
 cases L with
 | nil=>simp at hk
 | cons f r =>
  cases k with
  | zero=>omega
  | succ j =>
   have hj:j<r.length:=by simpa using hk
   unfold valTo
   rw[List.take_succ_cons,List.take_succ_cons,valU,valU,List.take_succ_eq_append_getElem hj,foldU_snoc]
   simp
structure Enc(s:ByteArray):Prop where
 pos:0<s.size
 len:lenU (s[0]'pos)=s.size
 cont:∀(k:Nat) (h:k<s.size),1<=k->128<=(s[k]'h).toNat/\(s[k]'h).toNat<=191
theorem valTo_one{s:ByteArray}(h:0<s.size):valTo (toL s) 1=leadU (s[0]'h):=by
 unfold valTo;rw[toL_consB h];rfl
theorem valTo_lt{s:ByteArray}(h:Enc s):∀k,1<=k->k<=s.size->valTo (toL s) k<32*64 ^ (k-1)\/s.size=1:=by
 intro k hk1 hk
 by_cases h1:s.size=1
 ·exact .inr h1
 left
 induction k with
 | zero=>omega
 | succ j ih =>
  by_cases hj:j=0
  ·subst hj
   rw[valTo_one h.pos]
   obtain⟨u1,u2,u3,u4⟩:=leadU_of (a:=s[0]'h.pos)
   have:=h.len
   rcases first_cases (s[0]'h.pos) with⟨e,_⟩|⟨e,g⟩|⟨e,g1,g2⟩|⟨e,g1,g2⟩|⟨e,g1,g2⟩
   ·omega
   ·omega
   ·rw[u2 (by omega) g2];simp;omega
   ·rw[u3 g1 g2];simp;omega
   ·rw[u4 g1];simp;omega
  ·have ih':=ih (by omega) (by omega)
   have hjs:j<s.size:=by omega
   have hjl:j<(toL s).length:=by rw[toL_length];exact hjs
   rw[valTo_succ (by omega) hjl,toL_getElem s j hjs]
   have hc:=h.cont j hjs (by omega)
   rw[show j+1-1=(j-1)+1 by omega,Nat.pow_succ]
   generalize 64 ^ (j-1)=P at *
   omega
theorem and_mask(a:UInt8)(j:Nat)(m:Int)(hj:j<=31)(hm:m=2 ^ j-1):bits .and .i32 (num a) m=num a%2 ^ j:=by
 have:=num_lt a
 subst hm
 exact bits_mask .i32 31 (by decide) wraps_i32 j hj (num a) (by omega) (by omega)
set_option maxHeartbeats 4000000 in
set_option maxRecDepth 100000 in
theorem u8_value(s:ByteArray)(w:World)(he:Enc s) :
  Calls Tryz.prog 166 #[.string s] w fun e w'=>e=.returned (.int .i32 (valU (toL s)))/\w=w':=by
 have hp:=he.pos
 have hl:=he.len
 have hl4:=lenU_le (s[0]'hp)
 have hs4:s.size<=4:=by omega
 have p0:(0:Int)<(s.size:Int):=by omega
 have HEND:=Lib.hid (show valTo (toL s) s.size=valU (toL s) from by unfold valTo;rw[List.take_of_length_le (by rw[toL_length];omega)])
 have HV1:=Lib.hid (valTo_one hp)
 have HLT:=Lib.hid (valTo_lt he)
 by_cases h1:s.size=1
 ·have i1:(s.size:Int)<=1:=by omega
  have HS:=Lib.hid h1
  have hv:valU (toL s)=(s[0]'hp).toNat:=by
   rw[<-HEND.out,h1,HV1.out]
   have:lenU (s[0]'hp)=1:=by omega
   rcases first_cases (s[0]'hp) with⟨e,_⟩|⟨e,g⟩|⟨e,g1,g2⟩|⟨e,g1,g2⟩|⟨e,g1,g2⟩
   ·omega
   ·exact(leadU_of (a:=s[0]'hp)).1 g
   ·omega
   ·omega
   ·omega
  have HV2:=Lib.hid (show num (s[0]'hp)=((valU (toL s):Nat):Int) from by rw[hv])
  have e32:IntKind.i32.wrap (num (s[0]'hp))=num (s[0]'hp):=by have:=num_lt (s[0]'hp);exact IntWalk.i32_in _ (by omega)
  clear hv h1 hl hl4 hs4
  go_enter Tryz.func166,Tryz.ntmps166
  go_wp2_with fail
  go_loop [3,4] (fun v3 v4=>v3=.int .i32 (num (s[0]'hp))/\v4=.int .i64 1) (fun _ _=>0)
  case atStart=>exact⟨rfl,rfl⟩
  case round =>
   obtain⟨rfl,rfl⟩:=hrel
   go_wp2_with fail
   go_ret
   exact⟨ret_int HV2.out,rfl⟩
 ·have hsz:s.size=2\/s.size=3\/s.size=4:=by omega
  have hn1:(1:Int)<(s.size:Int):=by omega
  obtain⟨u1,u2,u3,u4⟩:=leadU_of (a:=s[0]'hp)
  have wA:IntKind.i32.wrap (num (s[0]'hp))=num (s[0]'hp):=by have:=num_lt (s[0]'hp);exact IntWalk.i32_in _ (by omega)
  have hmsk:∃m:Int,m=(127:Int).fdiv (2 ^ s.size)/\bits .and .i32 (num (s[0]'hp)) m=(valTo (toL s) 1:Int):=by
   rcases hsz with hsz|hsz|hsz
   ·refine⟨31,by rw[hsz];rfl,?_⟩
    rw[and_mask _ 5 31 (by omega) (by decide),HV1.out]
    rcases first_cases (s[0]'hp) with⟨e,_⟩|⟨e,g⟩|⟨e,g1,g2⟩|⟨e,g1,g2⟩|⟨e,g1,g2⟩
    ·omega
    ·omega
    ·rw[u2 (by omega) g2];simp only[num];omega
    ·omega
    ·omega
   ·refine⟨15,by rw[hsz];rfl,?_⟩
    rw[and_mask _ 4 15 (by omega) (by decide),HV1.out]
    rcases first_cases (s[0]'hp) with⟨e,_⟩|⟨e,g⟩|⟨e,g1,g2⟩|⟨e,g1,g2⟩|⟨e,g1,g2⟩
    ·omega
    ·omega
    ·omega
    ·rw[u3 g1 g2];simp only[num];omega
    ·omega
   ·refine⟨7,by rw[hsz];rfl,?_⟩
    rw[and_mask _ 3 7 (by omega) (by decide),HV1.out]
    rcases first_cases (s[0]'hp) with⟨e,_⟩|⟨e,g⟩|⟨e,g1,g2⟩|⟨e,g1,g2⟩|⟨e,g1,g2⟩
    ·omega
    ·omega
    ·omega
    ·omega
    ·rw[u4 g1];simp only[num];omega
  have HMSK:=Lib.hid hmsk
  have HSUC:=Lib.hid (fun k (h1:1<=k) (hk:k<s.size)=>show valTo (toL s) (k+1)=64*valTo (toL s) k+((s[k]'hk).toNat - 128) from by
   rw[valTo_succ h1 (by rw[toL_length];exact hk),toL_getElem s k hk])
  clear u1 u2 u3 u4 hmsk h1 hl hl4
  rcases hsz with hsz|hsz|hsz
  ·have hm:bits .and .i32 (num (s[0]'hp)) 31=(valTo (toL s) 1:Int):=by
    obtain⟨m,e1,e2⟩:=HMSK.out
    rw[<-e2,e1,hsz];rfl
   go_enter Tryz.func166,Tryz.ntmps166
   go_upto_region 4 with fail
   clear wA hm
   go_wp2_with fail
   go_loop [3,4] (fun v3 v4=>∃k:Nat,1<=k/\k<=2/\v4=.int .i64 (k:Int)/\v3=.int .i32 (valTo (toL s) k:Int)) (fun _ v4=>2-(intOf v4).toNat)
   case atStart=>exact⟨1,by omega,by omega,rfl,rfl⟩
   case round =>
    obtain⟨k,hk1,hk,rfl,rfl⟩:=hrel
    by_cases hlt:k<2
    ·have k0:(0:Int)<=(k:Int):=by omega
     have k1:(k:Int)<2:=by omega
     have hks:k<s.size:=by omega
     have k2:(k:Int)<(s.size:Int):=by omega
     have HS:=Lib.hid (HSUC.out k hk1 hks)
     obtain⟨c1,c2⟩:=he.cont k hks hk1
     have hb:=HLT.out k hk1 (by omega)
     have hv:valTo (toL s) k<8388608:=by
      rcases hb with hb|hb
      ·have:(64:Nat) ^ (k-1)<=64 ^ 2:=Nat.pow_le_pow_right (by omega) (by omega)
       omega
      ·omega
     generalize valTo (toL s) k=v at *
     have e1:bits .and .u8 (num (s[k]'hks)) 63=num (s[k]'hks)-128:=by
      rw[u8_and63 _ (by simp only[num];omega) (num_lt _).2];simp only[num];omega
     have e2:IntKind.i32.wrap (num (s[k]'hks)-128)=num (s[k]'hks)-128:=IntWalk.i32_in _ (by simp only[num];omega)
     have e3:IntKind.i32.wrap ((v:Int)*64)=(v:Int)*64:=IntWalk.i32_in _ (by omega)
     have e4:bits .or .i32 ((v:Int)*64) (num (s[k]'hks)-128)=(v:Int)*64+(num (s[k]'hks)-128):=i32_or6 _ _ (by omega) (by omega) (by omega) (by simp only[num];omega) (by simp only[num];omega)
     have HFIN:=Lib.hid (show(v:Int)*64+(num (s[k]'hks)-128)=((valTo (toL s) (k+1):Nat):Int) from by rw[HS.out];simp only[num];omega)
     clear hb hv c1 c2
     go_wp2_with fail
     go_round
     case rel=>exact⟨k+1,by omega,by omega,by go_num,by rw[<-HFIN.out]⟩
     case measure=>simp[intOf]<;>omega
    ·obtain rfl:k=2:=by omega
     have HR:=Lib.hid (show(valTo (toL s) 2:Int)=((valU (toL s):Nat):Int) from by rw[<-HEND.out,hsz])
     go_wp2_with fail
     go_ret
     exact⟨ret_int HR.out,rfl⟩
  ·have hm:bits .and .i32 (num (s[0]'hp)) 15=(valTo (toL s) 1:Int):=by
    obtain⟨m,e1,e2⟩:=HMSK.out
    rw[<-e2,e1,hsz];rfl
   go_enter Tryz.func166,Tryz.ntmps166
   go_upto_region 4 with fail
   clear wA hm
   go_wp2_with fail
   go_loop [3,4] (fun v3 v4=>∃k:Nat,1<=k/\k<=3/\v4=.int .i64 (k:Int)/\v3=.int .i32 (valTo (toL s) k:Int)) (fun _ v4=>3-(intOf v4).toNat)
   case atStart=>exact⟨1,by omega,by omega,rfl,rfl⟩
   case round =>
    obtain⟨k,hk1,hk,rfl,rfl⟩:=hrel
    by_cases hlt:k<3
    ·have k0:(0:Int)<=(k:Int):=by omega
     have k1:(k:Int)<3:=by omega
     have hks:k<s.size:=by omega
     have k2:(k:Int)<(s.size:Int):=by omega
     have HS:=Lib.hid (HSUC.out k hk1 hks)
     obtain⟨c1,c2⟩:=he.cont k hks hk1
     have hb:=HLT.out k hk1 (by omega)
     have hv:valTo (toL s) k<8388608:=by
      rcases hb with hb|hb
      ·have:(64:Nat) ^ (k-1)<=64 ^ 2:=Nat.pow_le_pow_right (by omega) (by omega)
       omega
      ·omega
     generalize valTo (toL s) k=v at *
     have e1:bits .and .u8 (num (s[k]'hks)) 63=num (s[k]'hks)-128:=by
      rw[u8_and63 _ (by simp only[num];omega) (num_lt _).2];simp only[num];omega
     have e2:IntKind.i32.wrap (num (s[k]'hks)-128)=num (s[k]'hks)-128:=IntWalk.i32_in _ (by simp only[num];omega)
     have e3:IntKind.i32.wrap ((v:Int)*64)=(v:Int)*64:=IntWalk.i32_in _ (by omega)
     have e4:bits .or .i32 ((v:Int)*64) (num (s[k]'hks)-128)=(v:Int)*64+(num (s[k]'hks)-128):=i32_or6 _ _ (by omega) (by omega) (by omega) (by simp only[num];omega) (by simp only[num];omega)
     have HFIN:=Lib.hid (show(v:Int)*64+(num (s[k]'hks)-128)=((valTo (toL s) (k+1):Nat):Int) from by rw[HS.out];simp only[num];omega)
     clear hb hv c1 c2
     go_wp2_with fail
     go_round
     case rel=>exact⟨k+1,by omega,by omega,by go_num,by rw[<-HFIN.out]⟩
     case measure=>simp[intOf]<;>omega
    ·obtain rfl:k=3:=by omega
     have HR:=Lib.hid (show(valTo (toL s) 3:Int)=((valU (toL s):Nat):Int) from by rw[<-HEND.out,hsz])
     go_wp2_with fail
     go_ret
     exact⟨ret_int HR.out,rfl⟩
  ·have hm:bits .and .i32 (num (s[0]'hp)) 7=(valTo (toL s) 1:Int):=by
    obtain⟨m,e1,e2⟩:=HMSK.out
    rw[<-e2,e1,hsz];rfl
   go_enter Tryz.func166,Tryz.ntmps166
   go_upto_region 4 with fail
   clear wA hm
   go_wp2_with fail
   go_loop [3,4] (fun v3 v4=>∃k:Nat,1<=k/\k<=4/\v4=.int .i64 (k:Int)/\v3=.int .i32 (valTo (toL s) k:Int)) (fun _ v4=>4-(intOf v4).toNat)
   case atStart=>exact⟨1,by omega,by omega,rfl,rfl⟩
   case round =>
    obtain⟨k,hk1,hk,rfl,rfl⟩:=hrel
    by_cases hlt:k<4
    ·have k0:(0:Int)<=(k:Int):=by omega
     have k1:(k:Int)<4:=by omega
     have hks:k<s.size:=by omega
     have k2:(k:Int)<(s.size:Int):=by omega
     have HS:=Lib.hid (HSUC.out k hk1 hks)
     obtain⟨c1,c2⟩:=he.cont k hks hk1
     have hb:=HLT.out k hk1 (by omega)
     have hv:valTo (toL s) k<8388608:=by
      rcases hb with hb|hb
      ·have:(64:Nat) ^ (k-1)<=64 ^ 2:=Nat.pow_le_pow_right (by omega) (by omega)
       omega
      ·omega
     generalize valTo (toL s) k=v at *
     have e1:bits .and .u8 (num (s[k]'hks)) 63=num (s[k]'hks)-128:=by
      rw[u8_and63 _ (by simp only[num];omega) (num_lt _).2];simp only[num];omega
     have e2:IntKind.i32.wrap (num (s[k]'hks)-128)=num (s[k]'hks)-128:=IntWalk.i32_in _ (by simp only[num];omega)
     have e3:IntKind.i32.wrap ((v:Int)*64)=(v:Int)*64:=IntWalk.i32_in _ (by omega)
     have e4:bits .or .i32 ((v:Int)*64) (num (s[k]'hks)-128)=(v:Int)*64+(num (s[k]'hks)-128):=i32_or6 _ _ (by omega) (by omega) (by omega) (by simp only[num];omega) (by simp only[num];omega)
     have HFIN:=Lib.hid (show(v:Int)*64+(num (s[k]'hks)-128)=((valTo (toL s) (k+1):Nat):Int) from by rw[HS.out];simp only[num];omega)
     clear hb hv c1 c2
     go_wp2_with fail
     go_round
     case rel=>exact⟨k+1,by omega,by omega,by go_num,by rw[<-HFIN.out]⟩
     case measure=>simp[intOf]<;>omega
    ·obtain rfl:k=4:=by omega
     have HR:=Lib.hid (show(valTo (toL s) 4:Int)=((valU (toL s):Nat):Int) from by rw[<-HEND.out,hsz])
     go_wp2_with fail
     go_ret
     exact⟨ret_int HR.out,rfl⟩
theorem run_all(f:UInt8)(size:Nat):∀(l:List UInt8) (i j:Nat),j<runU f size i l->∃c,l[j]?=some c/\contU f (i+j) c=true
 | [],i,j,h=>by simp[runU]at h
 | c::r,i,j,h=>by
  rw[runU]at h
  split at h
  ·rename_i hc
   cases j with
   | zero=>exact⟨c,rfl,hc.2⟩
   | succ j =>
    obtain⟨d,h1,h2⟩:=run_all f size r (i+1) j (by omega)
    exact⟨d,by simpa using h1,by rw[show i+(j+1)=i+1+j by omega];exact h2⟩
  ·omega
theorem cont_range{f c:UInt8}{i:Nat}(h:contU f i c=true):128<=c.toNat/\c.toNat<=191:=by
 by_cases h1:i=1
 ·subst h1;have:=cont1_range h;exact⟨this.1,this.2.1⟩
 ·rw[cont_rest h1]at h;simpa using h
theorem ext_get(s:ByteArray)(n k:Nat)(hk:k<(s.extract 0 n).size)(hk2:k<s.size)(hn:n<=s.size):(s.extract 0 n)[k]'hk=s[k]'hk2:=by
 have h1:=toL_getElem (s.extract 0 n) k hk
 have h2:=toL_getElem s k hk2
 rw[<-h1, ← h2]
 simp only[extract_toL,cutL,List.drop_zero,List.getElem_take]
theorem enc_take{s:ByteArray}(h:wholeU (toL s)=true):Enc (s.extract 0 (measU (toL s)))/\measU (toL s)<=s.size/\1<=measU (toL s):=by
 have hp:0<s.size:=by
  rcases Nat.eq_zero_or_pos s.size with h0|h0
  ·rw[List.eq_nil_of_length_eq_zero ((toL_length s).trans h0)]at h;cases h
  ·exact h0
 have hc:=toL_consB hp
 have hw:=h
 rw[hc,wholeU, ← hc]at hw
 simp only[decide_eq_true_eq]at hw
 obtain⟨hw1,hw2⟩:=hw
 have hm:=measU_le (toL s)
 rw[toL_length]at hm
 have hsz:(s.extract 0 (measU (toL s))).size=measU (toL s):=by rw[extract_size _ _ _ hm.1];omega
 have hM:=measU_cons (s[0]'hp) ((toL s).drop 1) hw2
 rw[<-hc]at hM
 refine⟨⟨by omega,?_,fun k hk hk1=>?_⟩,hm.1,by omega⟩
 ·rw[ext_get s _ 0 (by omega) hp hm.1,hsz];omega
 ·have hks:k<s.size:=by omega
  rw[ext_get s _ k hk hks hm.1]
  obtain⟨c,h1,h2⟩:=run_all (s[0]'hp) (lenU (s[0]'hp)) ((toL s).drop 1) 1 (k-1) (by omega)
  rw[List.getElem?_drop,show 1+(k-1)=k by omega,byteAt s k hks]at h1
  injection h1 with h1
  rw[h1];exact cont_range h2
theorem decU_parts(L:List UInt8)(h:L≠[]):(wholeU L=true->decU L=(valU (L.take (measU L)),measU L,0))/\(wholeU L=false->measU L=0->decU L=(0,0,6))/\(wholeU L=false->measU L≠0->measU L=L.length->decU L=(0,0,23))/\(wholeU L=false->measU L≠0->measU L≠L.length->decU L=(0,0,3)):=by
 cases L with
 | nil=>exact absurd rfl h
 | cons f r =>
  unfold wholeU decU
  simp only[decide_eq_true_eq,decide_eq_false_iff_not]
  exact⟨fun h1=>by rw[if_pos h1],fun h1 h2=>by rw[if_neg h1,if_pos h2],fun h1 h2 h3=>by rw[if_neg h1,if_neg h2,if_pos h3],fun h1 h2 h3=>by rw[if_neg h1,if_neg h2,if_neg h3]⟩
set_option maxHeartbeats 4000000 in
set_option maxRecDepth 100000 in
theorem u8_decode(s:ByteArray)(w:World)(hs:s.size<=100000000) :
  Calls Tryz.prog 152 #[.string s] w fun e w'=>e=.returned (.tuple #[.int .i32 ((decU (toL s)).1:Nat),.int .i64 ((decU (toL s)).2.1:Nat),.int .i64 (decU (toL s)).2.2])/\Drew w w':=by
 by_cases h0:s.size=0
 ·have hE:s=⟨#[]⟩:=by
   apply toL_inj;rw[List.eq_nil_of_length_eq_zero ((toL_length s).trans h0)];rfl
  subst hE
  go_enter Tryz.func152,Tryz.ntmps152
  go_wp2_with fail
  go_ret3
  exact⟨rfl,Drew.refl _⟩
 have hE:s.toList.isEmpty=false:=toList_cons h0
 have hne:toL s≠[]:=fun h=>h0 (by rw[<-toL_length,h];rfl)
 obtain⟨d1,d2,d3,d4⟩:=decU_parts (toL s) hne
 rw[toL_length]at d3 d4
 have hm:=measU_le (toL s)
 rw[toL_length]at hm
 have HM:=Lib.hid (u8_measure s w hs)
 rcases hw:wholeU (toL s) with _|_
 ·rw[hw]at HM
  rcases Nat.eq_zero_or_pos (measU (toL s)) with hz|hz
  ·have HD:=Lib.hid (d2 hw hz)
   rw[hz]at HM
   clear d1 d2 d3 d4 hw hz hm hne h0
   go_enter Tryz.func152,Tryz.ntmps152
   go_wp2_with fail
   (with_reducible refine HM.out.mono ?_)
   rintro e w1 ⟨rfl,hd⟩
   go_wp2_with fail
   go_ret3
   exact⟨by rw[HD.out];rfl,hd⟩
  ·have z0:((measU (toL s):Int)==0)=false:=beq_eq_false_iff_ne.2 (by omega)
   by_cases hl:measU (toL s)=s.size
   ·have HD:=Lib.hid (d3 hw (by omega) hl)
    have z1:((measU (toL s):Int)==(s.size:Int))=true:=by rw[beq_iff_eq];omega
    clear d1 d2 d3 d4 hw hm hne h0 hl
    generalize measU (toL s)=m at *
    go_enter Tryz.func152,Tryz.ntmps152
    go_wp2_with fail
    (with_reducible refine HM.out.mono ?_)
    rintro e w1 ⟨rfl,hd⟩
    go_wp2_with fail
    go_ret3
    exact⟨by rw[HD.out];rfl,hd⟩
   ·have HD:=Lib.hid (d4 hw (by omega) hl)
    have z1:((measU (toL s):Int)==(s.size:Int))=false:=beq_eq_false_iff_ne.2 (by omega)
    clear d1 d2 d3 d4 hw hm hne h0 hl
    generalize measU (toL s)=m at *
    go_enter Tryz.func152,Tryz.ntmps152
    go_wp2_with fail
    (with_reducible refine HM.out.mono ?_)
    rintro e w1 ⟨rfl,hd⟩
    go_wp2_with fail
    go_ret3
    exact⟨by rw[HD.out];rfl,hd⟩
 ·obtain⟨he,hms,hm1⟩:=enc_take hw
  have HD:=Lib.hid (d1 hw)
  have HV:=Lib.hid (fun wx=>u8_value (s.extract 0 (measU (toL s))) wx he)
  rw[hw]at HM
  have HT:=Lib.hid (show toL (s.extract 0 (measU (toL s)))=(toL s).take (measU (toL s)) from by rw[extract_toL,cutL];simp)
  rw[HT.out]at HV
  have m0:(0:Int)<=(measU (toL s):Int):=by omega
  have m1:(measU (toL s):Int)<=(s.size:Int):=by omega
  clear d1 d2 d3 d4 hw hm hne h0 he HT
  obtain⟨m,hmm⟩:∃m,m=measU (toL s):=⟨_,rfl⟩
  rw[<-hmm]at HM HD HV hms hm1 m0 m1
  clear hmm
  go_enter Tryz.func152,Tryz.ntmps152
  go_wp2_with fail
  (with_reducible refine HM.out.mono ?_)
  rintro e w1 ⟨rfl,hd⟩
  go_wp2_with fail
  (with_reducible refine(HV.out _).mono ?_)
  rintro e w2 ⟨rfl,rfl⟩
  go_wp2_with fail
  go_ret3
  exact⟨by rw[HD.out];rfl,hd⟩
def allF(l:List UInt8)(i:Nat):List (Nat × Nat) × Option (Nat × Int):=allU (l.length+1) l i
theorem allU_fuel:∀(n m:Nat) (l:List UInt8) (i:Nat),l.length<n->l.length<m->allU n l i=allU m l i
 | 0,_,_,_,h,_=>by omega
 | _,0,_,_,_,h=>by omega
 | n+1,m+1, [],i,_,_=>by simp[allU]
 | n+1,m+1,c::r,i,h1,h2=>by
  rw[allU,allU]
  by_cases h:(decU (c::r)).2.2≠0
  ·rw[if_pos h,if_pos h]
  ·rw[if_neg h,if_neg h]
   have hk:=decU_ok (l:=c::r) (by omega)
   have hl:((c::r).drop (decU (c::r)).2.1).length<(c::r).length:=by rw[List.length_drop];simp at hk⊢;omega
   rw[allU_fuel n m _ _ (by omega) (by omega)]
theorem allF_nil(i:Nat):allF [] i=([],none):=rfl
theorem allF_err{l:List UInt8}(h0:l≠[])(i:Nat)(h:(decU l).2.2≠0):allF l i=([],some (i,(decU l).2.2)):=by
 cases l with
 | nil=>exact absurd rfl h0
 | cons c r=>unfold allF;rw[allU,if_pos h]
theorem allF_ok{l:List UInt8}(h0:l≠[])(i:Nat)(h:(decU l).2.2=0):allF l i=((i,(decU l).1)::(allF (l.drop (decU l).2.1) (i+(decU l).2.1)).1,(allF (l.drop (decU l).2.1) (i+(decU l).2.1)).2):=by
 cases l with
 | nil=>exact absurd rfl h0
 | cons c r =>
  have hk:=decU_ok h
  unfold allF
  rw[allU,if_neg (by omega)]
  have:allU (c::r).length ((c::r).drop (decU (c::r)).2.1) (i+(decU (c::r)).2.1)=allU (((c::r).drop (decU (c::r)).2.1).length+1) ((c::r).drop (decU (c::r)).2.1) (i+(decU (c::r)).2.1) :=
   allU_fuel _ _ _ _ (by rw[List.length_drop];simp at hk⊢;omega) (by omega)
  rw[this]
theorem ext_drop(s:ByteArray)(i:Nat):toL (s.extract i s.size)=(toL s).drop i:=by
 rw[extract_toL,cutL,List.take_of_length_le (by rw[List.length_drop,toL_length];omega)]
def chkF(L:List UInt8):Nat × Int:=match (allF L 0).2 with
 | some y=>y
 | none=>(0,0)
theorem decU_size(L:List UInt8):(decU L).2.1<=4:=by
 unfold decU
 cases L with
 | nil=>simp
 | cons f r =>
  have:=measU_le (f::r)
  dsimp only
  split<;>(try split)<;>(try split)<;>simp<;>omega
set_option maxHeartbeats 4000000 in
set_option maxRecDepth 100000 in
theorem u8_check(s:ByteArray)(w:World)(hs:s.size<=100000000) :
  Calls Tryz.prog 150 #[.string s] w fun e w'=>e=.returned (.tuple #[.int .i64 ((chkF (toL s)).1:Nat),.int .i64 (chkF (toL s)).2])/\Drew w w':=by
 have HL:=Lib.hid (toL_length s)
 go_enter Tryz.func150,Tryz.ntmps150
 go_wp2_with fail
 go_loopw [4,8] (fun v4 _ wr=>∃i:Nat,i<=s.size/\v4=.int .i64 (i:Int)/\(allF (toL s) 0).2=(allF ((toL s).drop i) i).2/\Drew w wr) (fun v4 _ _=>s.size-(intOf v4).toNat)
 case atStart=>exact⟨0,by omega,rfl,rfl,Drew.refl _⟩
 case round =>
  obtain⟨i,hi,rfl,ha,hd⟩:=hrel
  have HA:=Lib.hid ha;have HD:=Lib.hid hd;clear ha hd
  obtain⟨wo,rfl⟩:∃wo:World,wo=wr:=⟨_,rfl⟩
  have i0:(0:Int)<=(i:Int):=by omega
  by_cases hlt:i<s.size
  ·have i1:(i:Int)<(s.size:Int):=by omega
   have HT:=Lib.hid (ext_drop s i)
   have hxs:(s.extract i s.size).size<=100000000:=by rw[extract_size _ _ _ (Nat.le_refl _)];omega
   have hne:(toL s).drop i≠[]:=fun h=>by have:=congrArg List.length h;rw[List.length_drop,HL.out]at this;simp at this;omega
   have HDC:=Lib.hid (u8_decode (s.extract i s.size) wo hxs)
   rw[HT.out]at HDC
   have hsz:=decU_size ((toL s).drop i)
   by_cases he:(decU ((toL s).drop i)).2.2=0
   ·have HN:=Lib.hid (allF_ok hne i he)
    have hk:=decU_ok he
    rw[List.length_drop,HL.out]at hk
    have HA2:=Lib.hid (show(allF (toL s) 0).2=(allF ((toL s).drop (i+(decU ((toL s).drop i)).2.1)) (i+(decU ((toL s).drop i)).2.1)).2 from by rw[HA.out,HN.out,List.drop_drop])
    rw[he]at HDC
    generalize (decU ((toL s).drop i)).2.1=n at *
    generalize (decU ((toL s).drop i)).1=r at *
    clear he hne HT HN
    go_wp2_with fail
    (with_reducible refine HDC.out.mono ?_)
    rintro e w1 ⟨rfl,hd1⟩
    have HD1:=Lib.hid (HD.out.trans hd1)
    clear hd1
    go_wp2_with fail
    go_roundw
    case rel=>exact⟨i+n,by omega,by go_num,HA2.out,HD1.out⟩
    case measure=>simp[intOf]<;>omega
   ·have HR:=Lib.hid (show chkF (toL s)=(i,(decU ((toL s).drop i)).2.2) from by unfold chkF;rw[HA.out,allF_err hne i he])
    have e1:((decU ((toL s).drop i)).2.2==0)=false:=beq_eq_false_iff_ne.2 he
    have e2:((decU ((toL s).drop i)).2.2 != 0)=true:=by simp[bne,e1]
    have hE:∃k,k=(decU ((toL s).drop i)).2.2:=⟨_,rfl⟩
    obtain⟨k,hk⟩:=hE
    rw[<-hk]at HDC HR e1 e2
    generalize (decU ((toL s).drop i)).2.1=n at *
    generalize (decU ((toL s).drop i)).1=r at *
    clear he hne HT hk
    go_wp2_with fail
    (with_reducible refine HDC.out.mono ?_)
    rintro e w1 ⟨rfl,hd1⟩
    have HD1:=Lib.hid (HD.out.trans hd1)
    clear hd1
    go_wp2_with fail
    go_ret2
    exact⟨by rw[HR.out];rfl,HD1.out⟩
  ·obtain rfl:i=s.size:=by omega
   have HR:=Lib.hid (show chkF (toL s)=(0,0) from by unfold chkF;rw[HA.out,List.drop_eq_nil_of_le (by rw[HL.out];exact Nat.le_refl _)];rfl)
   have i1:(s.size:Int)<=(s.size:Int):=by omega
   go_wp2_with fail
   go_ret2
   exact⟨by rw[HR.out];rfl,HD.out⟩
theorem lead_cases(c:UInt8):(c.toNat < 128/\leadN c=1/\leadV c=c.toNat)\/((192<=c.toNat/\c.toNat < 224)/\leadN c=2/\leadV c=c.toNat - 192)\/((224<=c.toNat/\c.toNat < 240)/\leadN c=3/\leadV c=c.toNat - 224)\/((240<=c.toNat/\c.toNat < 248)/\leadN c=4/\leadV c=c.toNat - 240)\/((128<=c.toNat/\c.toNat < 192)/\leadN c=0/\leadV c=0)\/(248<=c.toNat/\leadN c=0/\leadV c=0):=by
 by_cases h1:c.toNat < 128
 ·left;unfold leadN leadV;exact⟨h1,by rw[if_pos h1],by rw[if_pos h1]⟩
 by_cases h2:192<=c.toNat/\c.toNat < 224
 ·right;left;unfold leadN leadV;exact⟨h2,by rw[if_neg h1,if_pos h2],by rw[if_neg h1,if_pos h2]⟩
 by_cases h3:224<=c.toNat/\c.toNat < 240
 ·right;right;left;unfold leadN leadV;exact⟨h3,by rw[if_neg h1,if_neg h2,if_pos h3],by rw[if_neg h1,if_neg h2,if_pos h3]⟩
 by_cases h4:240<=c.toNat/\c.toNat < 248
 ·right;right;right;left;unfold leadN leadV;exact⟨h4,by rw[if_neg h1,if_neg h2,if_neg h3,if_pos h4],by rw[if_neg h1,if_neg h2,if_neg h3,if_pos h4]⟩
 have a:leadN c=0:=by unfold leadN;rw[if_neg h1,if_neg h2,if_neg h3,if_neg h4]
 have b:leadV c=0:=by unfold leadV;rw[if_neg h1,if_neg h2,if_neg h3,if_neg h4]
 by_cases h5:c.toNat < 192
 ·exact .inr (.inr (.inr (.inr (.inl ⟨by omega,a,b⟩))))
 ·exact .inr (.inr (.inr (.inr (.inr ⟨by omega,a,b⟩))))
set_option maxHeartbeats 2000000 in
set_option maxRecDepth 100000 in
theorem r3_lead(c:UInt8)(w:World):Calls Tryz.prog 145 #[.int .u8 (num c)] w fun e w'=>e=.returned (.tuple #[.int .i64 (leadN c:Nat),.int .i64 (leadV c:Nat)])/\w=w':=by
 have hn:num c=(c.toNat:Int):=rfl
 have wd:IntKind.i64.wrap (num c)=num c:=IntWalk.i64_in _ (by have:=num_lt c;omega)
 rcases lead_cases c with⟨h,a,b⟩|⟨⟨h1,h2⟩,a,b⟩|⟨⟨h1,h2⟩,a,b⟩|⟨⟨h1,h2⟩,a,b⟩|⟨⟨h1,h2⟩,a,b⟩|⟨h,a,b⟩
 ·have HA:=Lib.hid a;have HB:=Lib.hid (show num c=((leadV c:Nat):Int) from by rw[b])
  have i1:num c<128:=by omega
  clear a b hn h
  go_enter Tryz.func145,Tryz.ntmps145
  go_wp2_with fail
  go_ret2
  exact⟨by rw[HA.out, ← HB.out];rfl,rfl⟩
 ·have HA:=Lib.hid a;have HB:=Lib.hid (show num c-192=((leadV c:Nat):Int) from by rw[b];omega)
  have i1:128<=num c:=by omega
  have i2:192<=num c:=by omega
  have i3:num c<224:=by omega
  clear a b hn h1 h2
  go_enter Tryz.func145,Tryz.ntmps145
  go_wp2_with fail
  go_ret2
  exact⟨by rw[HA.out, ← HB.out];rfl,rfl⟩
 ·have HA:=Lib.hid a;have HB:=Lib.hid (show num c-224=((leadV c:Nat):Int) from by rw[b];omega)
  have i1:128<=num c:=by omega
  have i2:192<=num c:=by omega
  have i3:224<=num c:=by omega
  have i4:num c<240:=by omega
  clear a b hn h1 h2
  go_enter Tryz.func145,Tryz.ntmps145
  go_wp2_with fail
  go_ret2
  exact⟨by rw[HA.out, ← HB.out];rfl,rfl⟩
 ·have HA:=Lib.hid a;have HB:=Lib.hid (show num c-240=((leadV c:Nat):Int) from by rw[b];omega)
  have i1:128<=num c:=by omega
  have i2:192<=num c:=by omega
  have i3:224<=num c:=by omega
  have i4:240<=num c:=by omega
  have i5:num c<248:=by omega
  clear a b hn h1 h2
  go_enter Tryz.func145,Tryz.ntmps145
  go_wp2_with fail
  go_ret2
  exact⟨by rw[HA.out, ← HB.out];rfl,rfl⟩
 ·have HA:=Lib.hid a;have HB:=Lib.hid b
  have i1:128<=num c:=by omega
  have i2:num c<192:=by omega
  have i3:num c<224:=by omega
  have i4:num c<240:=by omega
  clear a b hn h1 h2
  go_enter Tryz.func145,Tryz.ntmps145
  go_wp2_with fail
  go_ret2
  exact⟨by rw[HA.out,HB.out];rfl,rfl⟩
 ·have HA:=Lib.hid a;have HB:=Lib.hid b
  have i1:128<=num c:=by omega
  have i2:192<=num c:=by omega
  have i3:224<=num c:=by omega
  have i4:240<=num c:=by omega
  have i5:248<=num c:=by omega
  clear a b hn h
  go_enter Tryz.func145,Tryz.ntmps145
  go_wp2_with fail
  go_ret2
  exact⟨by rw[HA.out,HB.out];rfl,rfl⟩
set_option maxHeartbeats 2000000 in
set_option maxRecDepth 100000 in
theorem r3_least(n:Nat)(w:World)(h1:1<=n)(h4:n<=4):Calls Tryz.prog 146 #[.int .i64 (n:Int)] w fun e w'=>e=.returned (.int .i64 (leastU n:Nat))/\Below w.heap.size w w':=by
 have hb:∀o:Obj,Below w.heap.size w (w.alloc o):=fun o=>(Below.refl _ _).alloc (Nat.le_refl _) o
 have HB:=Lib.hid hb;clear hb
 have hn:n=1\/n=2\/n=3\/n=4:=by omega
 rcases hn with rfl|rfl|rfl|rfl
 all_goals
  clear h1 h4
  go_enter Tryz.func146,Tryz.ntmps146
  go_wp2_with fail
  go_ret
  exact⟨rfl,HB.out _⟩
set_option maxHeartbeats 2000000 in
set_option maxRecDepth 100000 in
theorem r3_most(n:Nat)(w:World)(h1:1<=n)(h4:n<=4):Calls Tryz.prog 147 #[.int .i64 (n:Int)] w fun e w'=>e=.returned (.int .i64 (mostU n:Nat))/\Below w.heap.size w w':=by
 have hb:∀o:Obj,Below w.heap.size w (w.alloc o):=fun o=>(Below.refl _ _).alloc (Nat.le_refl _) o
 have HB:=Lib.hid hb;clear hb
 have hn:n=1\/n=2\/n=3\/n=4:=by omega
 rcases hn with rfl|rfl|rfl|rfl
 all_goals
  clear h1 h4
  go_enter Tryz.func147,Tryz.ntmps147
  go_wp2_with fail
  go_ret
  exact⟨rfl,HB.out _⟩
def begV(o:Option (Nat × Nat)):Value:=match o with
 | none=>.tuple #[.bool false,.int .i64 0,.int .i64 0]
 | some x=>.tuple #[.bool true,.int .i64 (x.1:Nat),.int .i64 (x.2:Nat)]
theorem contR_step{L:List UInt8}{i v:Nat}{c:UInt8}(hc:L[i]?=some c):contR v (L.drop i)=if c.toNat < 128\/191<c.toNat then none else contR (64*v+(c.toNat - 128)) (L.drop (i+1)):=by
 obtain⟨hl,e⟩:=List.getElem?_eq_some_iff.1 hc
 rw[List.drop_eq_getElem_cons hl,e,contR]
theorem low_step(n i v:Nat)(h:i<n):lowR (n-i) v=lowR (n-(i+1)) (64*v):=by
 rw[show n-i=(n-(i+1))+1 by omega,lowR]
theorem high_step(n i v:Nat)(h:i<n):highR (n-i) v=highR (n-(i+1)) (64*v+63):=by
 rw[show n-i=(n-(i+1))+1 by omega,highR]
theorem pow_step(i v:Nat)(hi:1<=i)(h:v<128*64 ^ (i-1)):64*v+63<128*64 ^ (i+1-1):=by
 rw[show i+1-1=(i-1)+1 by omega,Nat.pow_succ]
 generalize 64 ^ (i-1)=P at *
 omega
theorem pow_small(i v:Nat)(hi:i<=4)(h:v<128*64 ^ (i-1)):v<33554432:=by
 have:(64:Nat) ^ (i-1)<=64 ^ 3:=Nat.pow_le_pow_right (by omega) (by omega)
 omega
theorem leadV_lt(c:UInt8):leadV c<128*64 ^ (1-1):=by
 rcases lead_cases c with⟨h,a,b⟩|⟨⟨h1,h2⟩,a,b⟩|⟨⟨h1,h2⟩,a,b⟩|⟨⟨h1,h2⟩,a,b⟩|⟨⟨h1,h2⟩,a,b⟩|⟨h,a,b⟩<;>(rw[b];simp;try omega)
theorem leadN_le(c:UInt8):leadN c<=4:=by
 rcases lead_cases c with⟨h,a,b⟩|⟨⟨h1,h2⟩,a,b⟩|⟨⟨h1,h2⟩,a,b⟩|⟨⟨h1,h2⟩,a,b⟩|⟨⟨h1,h2⟩,a,b⟩|⟨h,a,b⟩<;>omega
theorem begR_cons(f:UInt8)(r:List UInt8):begR (f::r)=if leadN f=0\/leadN f<r.length+1 then none else match contR (leadV f) r with
  | none=>none
  | some v=>if okR (leadN f) (r.length+1) v then some (leadN f,v) else none:=rfl
theorem okR_iff(n m v A B:Nat)(hA:A=max (lowR (n-m) v) (leastU n))(hB:B=min (highR (n-m) v) (mostU n)):okR n m v = !((decide (55296<=A)&&decide (B<=57343)) || decide (B<A)):=by
 subst hA hB;rfl
set_option maxHeartbeats 8000000 in
set_option maxRecDepth 100000 in
theorem r3_begins(s:ByteArray)(w:World)(hs:s.size<=100000000)(hp:0<s.size) :
  Calls Tryz.prog 131 #[.string s] w fun e w'=>e=.returned (begV (begR (toL s)))/\Below w.heap.size w w':=by
 have p0:(0:Int)<(s.size:Int):=by omega
 have HL:=Lib.hid (toL_length s)
 have HC:=Lib.hid (toL_consB hp)
 have HLD:=Lib.hid (r3_lead (s[0]'hp))
 have HB:=Lib.hid (show begR (toL s)=if leadN (s[0]'hp)=0\/leadN (s[0]'hp)<s.size then none else match contR (leadV (s[0]'hp)) ((toL s).drop 1) with
  | none=>none
  | some v=>if okR (leadN (s[0]'hp)) s.size v then some (leadN (s[0]'hp),v) else none from by
   have:=begR_cons (s[0]'hp) ((toL s).drop 1)
   rw[<-HC.out]at this
   rw[this,List.length_drop,HL.out,show s.size-1+1=s.size by omega])
 have hv0:=leadV_lt (s[0]'hp)
 have hn4:=leadN_le (s[0]'hp)
 have HBA:=Lib.hid (byteAt s)
 generalize leadV (s[0]'hp)=v0 at *
 generalize leadN (s[0]'hp)=n at *
 clear HC
 by_cases h0:n=0\/n<s.size
 ·have HZ:=Lib.hid (show begR (toL s)=none from by rw[HB.out,if_pos h0])
  rcases Nat.eq_zero_or_pos n with hn|hn
  ·subst hn
   clear h0
   go_enter Tryz.func131,Tryz.ntmps131
   go_wp2_with ((go_at_call 145;(with_reducible refine(HLD.out _).mono ?_);rintro e w' ⟨rfl,rfl⟩))
   go_ret3
   exact⟨by rw[HZ.out];rfl,Below.refl _ _⟩
  ·have g0:((n:Int)==0)=false:=beq_eq_false_iff_ne.2 (by omega)
   have g1:(n:Int)<(s.size:Int):=by omega
   clear h0
   go_enter Tryz.func131,Tryz.ntmps131
   go_wp2_with ((go_at_call 145;(with_reducible refine(HLD.out _).mono ?_);rintro e w' ⟨rfl,rfl⟩))
   go_ret3
   exact⟨by rw[HZ.out];rfl,Below.refl _ _⟩
 ·have HBB:=Lib.hid (show begR (toL s)=match contR v0 ((toL s).drop 1) with
   | none=>none
   | some v=>if okR n s.size v then some (n,v) else none from by rw[HB.out,if_neg h0])
  have hn1:1<=n:=by omega
  have hns:s.size<=n:=by omega
  have g0:((n:Int)==0)=false:=beq_eq_false_iff_ne.2 (by omega)
  have g1:(s.size:Int)<=(n:Int):=by omega
  clear h0 HB
  obtain⟨K,hK⟩:∃K,K=contR v0 ((toL s).drop 1):=⟨_,rfl⟩
  rw[<-hK]at HBB
  have HK:=Lib.hid hK;clear hK
  go_enter Tryz.func131,Tryz.ntmps131
  go_wp2_with ((go_at_call 145;(with_reducible refine(HLD.out _).mono ?_);rintro e w' ⟨rfl,rfl⟩))
  go_loop [6,7] (fun v6 v7=>∃(i v:Nat),1<=i/\i<=s.size/\v7=.int .i64 (i:Int)/\v6=.int .i64 (v:Int)/\v<128*64 ^ (i-1)/\K=contR v ((toL s).drop i)) (fun _ v7=>s.size-(intOf v7).toNat)
  case atStart=>exact⟨1,v0,by omega,by omega,rfl,rfl,hv0,HK.out⟩
  case round =>
   obtain⟨i,v,hi1,his,rfl,rfl,hv,hct⟩:=hrel
   have HCT:=Lib.hid hct;clear hct
   have hvs:=pow_small i v (by omega) hv
   have i0:(0:Int)<=(i:Int):=by omega
   by_cases hlt:i<s.size
   ·have i1:(i:Int)<(s.size:Int):=by omega
    have HST:=Lib.hid (contR_step (v:=v) (HBA.out i hlt))
    have hcl:=num_lt (s[i]'hlt)
    have HP:=Lib.hid (pow_step i v hi1 hv)
    clear hv
    by_cases hb1:num (s[i]'hlt)<128
    ·have HZ:=Lib.hid (show begR (toL s)=none from by rw[HBB.out,HCT.out,HST.out,if_pos (by simp only[num]at hb1;omega)])
     go_wp2_with fail
     go_ret3
     exact⟨by rw[HZ.out];rfl,Below.refl _ _⟩
    ·have hb1':128<=num (s[i]'hlt):=by omega
     by_cases hb2:191<num (s[i]'hlt)
     ·have HZ:=Lib.hid (show begR (toL s)=none from by rw[HBB.out,HCT.out,HST.out,if_pos (by simp only[num]at hb2;omega)])
      clear hb1
      go_wp2_with fail
      go_ret3
      exact⟨by rw[HZ.out];rfl,Below.refl _ _⟩
     ·have hb2':num (s[i]'hlt)<=191:=by omega
      have HN:=Lib.hid (show K=contR (64*v+((s[i]'hlt).toNat - 128)) ((toL s).drop (i+1)) from by rw[HCT.out,HST.out,if_neg (by simp only[num]at hb1' hb2';omega)])
      have HV:=Lib.hid (show 64*(v:Int)+num (s[i]'hlt)-128=((64*v+((s[i]'hlt).toNat - 128):Nat):Int) from by simp only[num]at hb1'⊢;omega)
      have HBD:=Lib.hid (show 64*v+((s[i]'hlt).toNat - 128)<128*64 ^ (i+1-1) from by have:=HP.out;simp only[num]at hb2';omega)
      have db1:decide (num (s[i]'hlt)<128)=false:=by simp;omega
      have db2:decide (191<num (s[i]'hlt))=false:=by simp;omega
      have wd:IntKind.i64.wrap (num (s[i]'hlt))=num (s[i]'hlt):=IntWalk.i64_in _ (by omega)
      go_wp2_with fail
      clear wd
      go_round
      case rel=>exact⟨i+1,_,by omega,by omega,by go_num,by rw[<-HV.out],HBD.out,HN.out⟩
      case measure=>simp[intOf]<;>omega
   ·obtain rfl:i=s.size:=by omega
    have i1:(s.size:Int)<=(s.size:Int):=by omega
    have HZ:=Lib.hid (show begR (toL s)=if okR n s.size v then some (n,v) else none from by
     rw[HBB.out,HCT.out,List.drop_eq_nil_of_le (by rw[HL.out];exact Nat.le_refl _)];rfl)
    clear hlt HBB HCT
    go_wp2_with fail
    go_loop [8,9,10] (fun v8 v9 v10=>∃(j a b:Nat),s.size<=j/\j<=n/\v10=.int .i64 (j:Int)/\v8=.int .i64 (a:Int)/\v9=.int .i64 (b:Int)/\a<=b/\b<128*64 ^ (j-1)/\lowR (n-s.size) v=lowR (n-j) a/\highR (n-s.size) v=highR (n-j) b) (fun _ _ v10=>n-(intOf v10).toNat)
    case atStart=>exact⟨s.size,v,v,by omega,by omega,rfl,rfl,rfl,Nat.le_refl _,hv,rfl,rfl⟩
    case round =>
     obtain⟨j,a,b,hj1,hjn,rfl,rfl,rfl,hab,hb,hlo,hhi⟩:=hrel
     have hbs:=pow_small j b (by omega) hb
     have j0:(0:Int)<=(j:Int):=by omega
     by_cases hlt:j<n
     ·have j1:(j:Int)<(n:Int):=by omega
      have HLO:=Lib.hid (hlo.trans (low_step n j a hlt))
      have HHI:=Lib.hid (hhi.trans (high_step n j b hlt))
      have HP:=Lib.hid (pow_step j b (by omega) hb)
      clear hlo hhi hb hv
      go_wp2_with fail
      go_round
      case rel=>exact⟨j+1,64*a,64*b+63,by omega,by omega,by go_num,by go_num,by go_num,by omega,HP.out,HLO.out,HHI.out⟩
      case measure=>simp[intOf]<;>omega
     ·obtain rfl:j=n:=by omega
      have j1:(j:Int)<=(j:Int):=by omega
      rw[Nat.sub_self]at hlo hhi
      have HOK:=Lib.hid (okR_iff j s.size v (max a (leastU j)) (min b (mostU j)) (by rw[hlo];rfl) (by rw[hhi];rfl))
      have hl1:leastU j<=65536:=by unfold leastU;split<;>(try split)<;>(try split)<;>omega
      have hm1:mostU j<=1114111:=by unfold mostU;split<;>(try split)<;>(try split)<;>(try split)<;>omega
      have HLS:=Lib.hid (fun wx=>r3_least j wx hn1 hn4)
      have HMS:=Lib.hid (fun wx=>r3_most j wx hn1 hn4)
      obtain⟨M,hM⟩:∃M:Nat,M=max a (leastU j):=⟨_,rfl⟩
      obtain⟨N,hN⟩:∃N:Nat,N=min b (mostU j):=⟨_,rfl⟩
      rw[<-hM, ← hN]at HOK
      have HF1:=Lib.hid (show(if a<leastU j then ((leastU j:Nat):Int) else (a:Int))=(M:Int) from by split<;>omega)
      have HF2:=Lib.hid (show(if mostU j<b then ((mostU j:Nat):Int) else (b:Int))=(N:Int) from by split<;>omega)
      have HRES:=Lib.hid (show okR j s.size v = !((decide (55296<=M)&&decide (N<=57343)) || decide (N<M)) from HOK.out)
      have hMs:M<=40000000:=by omega
      have hNs:N<=40000000:=by omega
      generalize leastU j=ls at *
      generalize mostU j=ms at *
      clear hlo hhi hb hv hlt hM hN hl1 hm1 hab hbs HOK
      go_upto_region 16 with(first|(go_at_call 146;(with_reducible refine(HLS.out _).mono ?_);rintro e w1 ⟨rfl,hb1⟩)|(go_at_call 147;(with_reducible refine(HMS.out _).mono ?_);rintro e w2 ⟨rfl,hb2⟩))
      have HBE:=Lib.hid (hb1.trans (hb2.mono hb1.size))
      clear hb1 hb2
      simp only[HF1.out,HF2.out]
      obtain⟨Mi,hMi⟩:∃Mi:Int,Mi=(M:Int):=⟨_,rfl⟩
      obtain⟨Ni,hNi⟩:∃Ni:Int,Ni=(N:Int):=⟨_,rfl⟩
      rw[<-hMi, ← hNi]
      have HR2:=Lib.hid (show okR j s.size v = !((decide ((55296:Int)<=Mi)&&decide (Ni<=57343)) || decide (Ni<Mi)) from by
       rw[HRES.out,hMi,hNi,Bool.eq_iff_iff];simp;omega)
      clear hMi hNi HRES HF1 HF2 hMs hNs HLS HMS
      by_cases c1:Ni<Mi
      ·have HZZ:=Lib.hid (show begR (toL s)=none from by rw[HZ.out,HR2.out];simp[c1])
       by_cases c2:(55296:Int)<=Mi
       ·by_cases c3:Ni<=57343
        ·go_wp2_with fail
         go_ret3
         exact⟨by rw[HZZ.out];rfl,HBE.out⟩
        ·have c3':57343<Ni:=by omega
         clear c3
         go_wp2_with fail
         go_ret3
         exact⟨by rw[HZZ.out];rfl,HBE.out⟩
       ·have c2':Mi<55296:=by omega
        clear c2
        go_wp2_with fail
        go_ret3
        exact⟨by rw[HZZ.out];rfl,HBE.out⟩
      ·have c1':Mi<=Ni:=by omega
       by_cases c2:(55296:Int)<=Mi
       ·by_cases c3:Ni<=57343
        ·have HZZ:=Lib.hid (show begR (toL s)=none from by rw[HZ.out,HR2.out];simp[c2,c3])
         clear c1
         go_wp2_with fail
         go_ret3
         exact⟨by rw[HZZ.out];rfl,HBE.out⟩
        ·have HZZ:=Lib.hid (show begR (toL s)=some (j,v) from by rw[HZ.out,HR2.out];simp[c1,c3])
         have c3':57343<Ni:=by omega
         clear c3 c1
         go_wp2_with fail
         go_ret3
         exact⟨by rw[HZZ.out];rfl,HBE.out⟩
       ·have HZZ:=Lib.hid (show begR (toL s)=some (j,v) from by rw[HZ.out,HR2.out];simp[c1,c2])
        have c2':Mi<55296:=by omega
        clear c2 c1
        go_wp2_with fail
        go_ret3
        exact⟨by rw[HZZ.out];rfl,HBE.out⟩
theorem ext_take(s:ByteArray)(n:Nat):toL (s.extract 0 n)=(toL s).take n:=by rw[extract_toL,cutL];simp
theorem begR_n{l:List UInt8}{x:Nat × Nat}(h:begR l=some x):1<=x.1/\x.1<=4:=by
 cases l with
 | nil=>cases h
 | cons f r =>
  rw[begR_cons]at h
  have:=leadN_le f
  split at h
  ·cases h
  ·split at h
   ·cases h
   ·split at h
    ·injection h with h;subst h;simp;omega
    ·cases h
set_option maxHeartbeats 4000000 in
set_option maxRecDepth 100000 in
theorem r3_first(s:ByteArray)(w:World)(hs:s.size<=100000000)(hp:0<s.size) :
  Calls Tryz.prog 114 #[.string s] w fun e w'=>e=.returned (.tuple #[.int .i64 ((firstR (toL s)).1:Nat),.int .i64 ((firstR (toL s)).2.1:Nat),.int .i64 (firstR (toL s)).2.2])/\Below w.heap.size w w':=by
 have p0:(0:Int)<(s.size:Int):=by omega
 have p1:(1:Int)<=(s.size:Int):=by omega
 have HL:=Lib.hid (toL_length s)
 have e1s:(s.extract 0 1).size=1:=by rw[extract_size _ _ _ (by omega)]
 have HB1:=Lib.hid (r3_begins (s.extract 0 1) w (by omega) (by omega))
 rw[ext_take]at HB1
 clear e1s
 rcases hb:begR ((toL s).take 1) with _|⟨n,v⟩
 ·rw[hb]at HB1
  have HF:=Lib.hid (show firstR (toL s)=(0,0,6) from by unfold firstR;rw[hb])
  clear hb
  simp only[begV]at HB1
  go_enter Tryz.func114,Tryz.ntmps114
  go_wp2_with fail
  (with_reducible refine HB1.out.mono ?_)
  rintro e w1 ⟨rfl,hb1⟩
  go_wp2_with fail
  go_ret3
  exact⟨by rw[HF.out];rfl,hb1⟩
 ·rw[hb]at HB1
  obtain⟨hn1,hn4⟩:=begR_n hb
  simp only at hn1 hn4
  have HFF:=Lib.hid (show firstR (toL s)=if n<=s.size then (match begR ((toL s).take n) with
    | some y=>(y.2,n,0)
    | none=>(0,0,3)) else (match begR (toL s) with
    | some _=>(0,0,23)
    | none=>(0,0,3)) from by unfold firstR;rw[hb];simp only[HL.out];rfl)
  clear hb
  simp only[begV]at HB1
  by_cases hns:n<=s.size
  ·have i1:(n:Int)<=(s.size:Int):=by omega
   have n0:(0:Int)<=(n:Int):=by omega
   have ens:(s.extract 0 n).size=n:=by rw[extract_size _ _ _ hns];omega
   have HB2:=Lib.hid (fun wx=>r3_begins (s.extract 0 n) wx (by omega) (by omega))
   rw[ext_take]at HB2
   clear ens
   rcases hb2:begR ((toL s).take n) with _|⟨n2,v2⟩
   ·have HF:=Lib.hid (show firstR (toL s)=(0,0,3) from by rw[HFF.out,if_pos hns,hb2])
    rw[hb2]at HB2
    simp only[begV]at HB2
    clear hb2 hns HFF
    go_enter Tryz.func114,Tryz.ntmps114
    go_wp2_with fail
    (with_reducible refine HB1.out.mono ?_)
    rintro e w1 ⟨rfl,hb1⟩
    go_wp2_with fail
    (with_reducible refine(HB2.out _).mono ?_)
    rintro e w2 ⟨rfl,hb2⟩
    have HBB:=Lib.hid (hb1.trans (hb2.mono hb1.size))
    clear hb1 hb2
    go_wp2_with fail
    go_ret3
    exact⟨by rw[HF.out];rfl,HBB.out⟩
   ·have HF:=Lib.hid (show firstR (toL s)=(v2,n,0) from by rw[HFF.out,if_pos hns,hb2])
    rw[hb2]at HB2
    simp only[begV]at HB2
    clear hb2 hns HFF
    go_enter Tryz.func114,Tryz.ntmps114
    go_wp2_with fail
    (with_reducible refine HB1.out.mono ?_)
    rintro e w1 ⟨rfl,hb1⟩
    go_wp2_with fail
    (with_reducible refine(HB2.out _).mono ?_)
    rintro e w2 ⟨rfl,hb2⟩
    have HBB:=Lib.hid (hb1.trans (hb2.mono hb1.size))
    clear hb1 hb2
    go_wp2_with fail
    go_ret3
    exact⟨by rw[HF.out];rfl,HBB.out⟩
  ·have i1:(s.size:Int)<(n:Int):=by omega
   have HB2:=Lib.hid (fun wx=>r3_begins s wx hs hp)
   rcases hb2:begR (toL s) with _|⟨n2,v2⟩
   ·have HF:=Lib.hid (show firstR (toL s)=(0,0,3) from by rw[HFF.out,if_neg hns,hb2])
    rw[hb2]at HB2
    simp only[begV]at HB2
    clear hb2 hns HFF
    go_enter Tryz.func114,Tryz.ntmps114
    go_wp2_with fail
    (with_reducible refine HB1.out.mono ?_)
    rintro e w1 ⟨rfl,hb1⟩
    go_wp2_with fail
    (with_reducible refine(HB2.out _).mono ?_)
    rintro e w2 ⟨rfl,hb2⟩
    have HBB:=Lib.hid (hb1.trans (hb2.mono hb1.size))
    clear hb1 hb2
    go_wp2_with fail
    go_ret3
    exact⟨by rw[HF.out];rfl,HBB.out⟩
   ·have HF:=Lib.hid (show firstR (toL s)=(0,0,23) from by rw[HFF.out,if_neg hns,hb2])
    rw[hb2]at HB2
    simp only[begV]at HB2
    clear hb2 hns HFF
    go_enter Tryz.func114,Tryz.ntmps114
    go_wp2_with fail
    (with_reducible refine HB1.out.mono ?_)
    rintro e w1 ⟨rfl,hb1⟩
    go_wp2_with fail
    (with_reducible refine(HB2.out _).mono ?_)
    rintro e w2 ⟨rfl,hb2⟩
    have HBB:=Lib.hid (hb1.trans (hb2.mono hb1.size))
    clear hb1 hb2
    go_wp2_with fail
    go_ret3
    exact⟨by rw[HF.out];rfl,HBB.out⟩
def ints(l:List Nat):List Value:=l.map fun (n:Nat)=>Value.int .i64 (n:Int)
theorem ints_len(l:List Nat):(ints l).length=l.length:=by simp[ints]
theorem ints_snoc(l:List Nat)(n:Nat):ints l ++ #[Value.int .i64 (n:Int)].toList=ints (l ++ [n]):=by simp[ints]
theorem el_int:Elem Tryz.prog 70 3 1 8:=Elem.of Tryz.underlying70 (z:=.int .i64 0) (by kernel_rfl) rfl (by omega)
structure TwoI(w wr:World)(a b:Value)(l m:List Nat):Prop where
 oa:wr.ownsRow w.heap.size 3 1 a l.length (ints l)
 ob:wr.ownsRow w.heap.size 3 1 b m.length (ints m)
 ne:∀g,a.ownBlock=some g->b.ownBlock≠some g
 bel:Below w.heap.size w wr
theorem TwoI.below{w wr w':World}{a b:Value}{l m:List Nat}(h:TwoI w wr a b l m)(hb:Below wr.heap.size wr w'):TwoI w w' a b l m :=
 ⟨own_below h.oa hb,own_below h.ob hb,h.ne,h.bel.trans (hb.mono h.bel.size)⟩
theorem TwoI.pushA{w wr w':World}{a b:Value}{l m:List Nat}{g cap:Nat}{x:Nat}(h:TwoI w wr a b l m)(ho:w'.ownsRow w.heap.size 3 1 (.slice (some ⟨g,0,none⟩) (l.length+1) cap) (l.length+1) (ints l ++ #[.int .i64 (x:Int)].toList))(hg:wr.grownBy w' a.ownBlock)(hat:a.ownBlock=some g\/wr.heap.size<g) :
  TwoI w w' (.slice (some ⟨g,0,none⟩) (l.length+1) cap) b (l ++ [x]) m:=by
 refine⟨by rw[ints_snoc]at ho;simpa using ho,h.ob.kept hg ?_,fun g' e e2=>?_,h.bel.grown hg h.bel.size (fun k hk=>(h.oa.lt k hk).1)⟩
 ·cases hb:b.ownBlock with
  | none=>exact .inl rfl
  | some gb=>exact .inr (fun e=>h.ne gb e.symm hb)
 ·simp only[Value.ownBlock,Option.some.injEq]at e
  subst e
  rcases hat with hat|hat
  ·exact h.ne _ hat e2
  ·have:=(h.ob.lt _ e2).2;omega
theorem TwoI.pushB{w wr w':World}{a b:Value}{l m:List Nat}{g cap:Nat}{x:Nat}(h:TwoI w wr a b l m)(ho:w'.ownsRow w.heap.size 3 1 (.slice (some ⟨g,0,none⟩) (m.length+1) cap) (m.length+1) (ints m ++ #[.int .i64 (x:Int)].toList))(hg:wr.grownBy w' b.ownBlock)(hat:b.ownBlock=some g\/wr.heap.size<g) :
  TwoI w w' a (.slice (some ⟨g,0,none⟩) (m.length+1) cap) l (m ++ [x]):=by
 refine⟨h.oa.kept hg ?_,by rw[ints_snoc]at ho;simpa using ho,fun g' e e2=>?_,h.bel.grown hg h.bel.size (fun k hk=>(h.ob.lt k hk).1)⟩
 ·cases ha:a.ownBlock with
  | none=>exact .inl rfl
  | some ga=>exact .inr (fun e=>h.ne ga ha e.symm)
 ·simp only[Value.ownBlock,Option.some.injEq]at e2
  subst e2
  rcases hat with hat|hat
  ·exact h.ne _ e hat
  ·have:=(h.oa.lt _ e).2;omega
def IntRow(w:World)(v:Value)(l:List Nat):Prop := ∃A c,v=.slice A l.length c/\Row w A (ints l)
theorem TwoI.rows{w wr:World}{a b:Value}{l m:List Nat}(h:TwoI w wr a b l m):IntRow wr a l/\IntRow wr b m:=by
 obtain⟨A,c,e,r⟩:=own_row h.oa
 obtain⟨B,d,e2,r2⟩:=own_row h.ob
 exact⟨⟨A,c,e,r⟩,⟨B,d,e2,r2⟩⟩
def AllPost(L:List UInt8)(w:World)(e:Ending)(w':World):Prop := ∃va vb,e=.returned (.tuple #[va,vb,.int .i64 ((chkF L).1:Nat),.int .i64 (chkF L).2])/\IntRow w' va ((allF L 0).1.map (·.2))/\IntRow w' vb ((allF L 0).1.map (·.1))/\Below w.heap.size w w'
theorem all_len:∀(n:Nat) (l:List UInt8) (i:Nat),(allU n l i).1.length<=n
 | 0,_,_=>by simp[allU]
 | n+1, [],i=>by simp[allU]
 | n+1,c::r,i=>by
  rw[allU]
  split
  ·simp
  ·have:=all_len n ((c::r).drop (decU (c::r)).2.1) (i+(decU (c::r)).2.1)
   simp;omega
theorem decR{L:List UInt8}(h:L≠[]):firstR L=decU L:=by
 cases L with
 | nil=>exact absurd rfl h
 | cons a r=>exact firstR_eq a r
set_option maxHeartbeats 8000000 in
set_option maxRecDepth 100000 in
theorem r3_all(s:ByteArray)(w:World)(hs:s.size<=1000000) :
  Calls Tryz.prog 89 #[.string s] w (AllPost (toL s) w):=by
 have HL:=Lib.hid (toL_length s)
 have HT0:=Lib.hid (show TwoI w w (.slice none 0 0) (.slice none 0 0) [] [] from⟨World.ownsRow_nil _ _ _ _,World.ownsRow_nil _ _ _ _,(fun g e=>by cases e),Below.refl _ _⟩)
 go_enter Tryz.func89,Tryz.ntmps89
 go_wp2_with fail
 go_loopw [6,7,8] (fun v6 v7 v8 wr=>∃(i:Nat) (acc:List (Nat × Nat)),i<=s.size/\acc.length<=i/\v8=.int .i64 (i:Int)/\(allF (toL s) 0).1=acc++(allF ((toL s).drop i) i).1/\(allF (toL s) 0).2=(allF ((toL s).drop i) i).2/\TwoI w wr v6 v7 (acc.map (·.2)) (acc.map (·.1))) (fun _ _ v8 _=>s.size-(intOf v8).toNat)
 case atStart=>exact⟨0, [],by omega,by simp,rfl,rfl,rfl,HT0.out⟩
 case round =>
  obtain⟨i,acc,hi,hacc,rfl,h1,h2,hT⟩:=hrel
  have H1:=Lib.hid h1;have H2:=Lib.hid h2;have HT:=Lib.hid hT
  clear h1 h2 hT HT0
  obtain⟨wo,rfl⟩:∃wo:World,wo=wr:=⟨_,rfl⟩
  have i0:(0:Int)<=(i:Int):=by omega
  by_cases hlt:i<s.size
  ·have i1:(i:Int)<(s.size:Int):=by omega
   have HTD:=Lib.hid (ext_drop s i)
   have hxs:(s.extract i s.size).size=s.size-i:=extract_size _ _ _ (Nat.le_refl _)
   have hne:(toL s).drop i≠[]:=fun h=>by have:=congrArg List.length h;rw[List.length_drop,HL.out]at this;simp at this;omega
   have HDC:=Lib.hid (r3_first (s.extract i s.size) wo (by omega) (by omega))
   rw[HTD.out,decR hne]at HDC
   have hsz:=decU_size ((toL s).drop i)
   clear hxs
   by_cases he:(decU ((toL s).drop i)).2.2=0
   ·have HN:=Lib.hid (allF_ok hne i he)
    have hk:=decU_ok he
    rw[List.length_drop,HL.out]at hk
    have HA1:=Lib.hid (show(allF (toL s) 0).1=(acc ++ [(i,(decU ((toL s).drop i)).1)])++(allF ((toL s).drop (i+(decU ((toL s).drop i)).2.1)) (i+(decU ((toL s).drop i)).2.1)).1 from by rw[H1.out,HN.out,List.drop_drop];simp)
    have HA2:=Lib.hid (show(allF (toL s) 0).2=(allF ((toL s).drop (i+(decU ((toL s).drop i)).2.1)) (i+(decU ((toL s).drop i)).2.1)).2 from by rw[H2.out,HN.out,List.drop_drop])
    rw[he]at HDC
    generalize (decU ((toL s).drop i)).2.1=n at *
    generalize (decU ((toL s).drop i)).1=r at *
    have hl1:(acc.map (·.2)).length+1<=1000001:=by simp;omega
    have hl2:(acc.map (·.1)).length+1<=1000001:=by simp;omega
    clear he hne HTD HN
    go_wp2_with fail
    (with_reducible refine HDC.out.mono ?_)
    rintro e w1 ⟨rfl,hd1⟩
    have HT1:=Lib.hid (HT.out.below hd1)
    have hoa:=HT1.out.oa
    have hsz1:=HT1.out.bel.size
    clear hd1 HT
    go_wp2_with (first
     | (at_builtin;refine wpList_push el_int rfl _ _ rfl hoa #[.int .i64 (r:Int)] rfl rfl rfl (by simp[Value.oneCell']) (by omega) (by unfold maxLen;omega) hsz1 ?_;intro g cap w3 hown3 hg3 hat3;have HT2:=Lib.hid (HT1.out.pushA hown3 hg3 hat3);have hob:=HT2.out.ob;have hsz2:=HT2.out.bel.size)
     | (at_builtin;refine wpList_push el_int rfl _ _ rfl hob #[.int .i64 (i:Int)] rfl rfl rfl (by simp[Value.oneCell']) (by omega) (by unfold maxLen;omega) hsz2 ?_;intro g2 cap2 w4 hown4 hg4 hat4;have HT3:=Lib.hid (HT2.out.pushB hown4 hg4 hat4)))
    go_roundw
    case rel=>exact⟨i+n,acc ++ [(i,r)],by omega,by simp;omega,by go_num,HA1.out,HA2.out,by simpa using HT3.out⟩
    case measure=>simp[intOf]<;>omega
   ·have HR:=Lib.hid (show chkF (toL s)=(i,(decU ((toL s).drop i)).2.2) from by unfold chkF;rw[H2.out,allF_err hne i he])
    have HA1:=Lib.hid (show(allF (toL s) 0).1=acc from by rw[H1.out,allF_err hne i he];simp)
    have e1:((decU ((toL s).drop i)).2.2==0)=false:=beq_eq_false_iff_ne.2 he
    have e2:((decU ((toL s).drop i)).2.2 != 0)=true:=by simp[bne,e1]
    obtain⟨k,hk⟩:∃k,k=(decU ((toL s).drop i)).2.2:=⟨_,rfl⟩
    rw[<-hk]at HDC HR e1 e2
    generalize (decU ((toL s).drop i)).2.1=n at *
    generalize (decU ((toL s).drop i)).1=r at *
    clear he hne HTD hk
    go_wp2_with fail
    (with_reducible refine HDC.out.mono ?_)
    rintro e w1 ⟨rfl,hd1⟩
    have HT1:=Lib.hid (HT.out.below hd1)
    clear hd1
    go_wp2_with fail
    refine bodyPost_ret (by simp[results,Tryz.results89,go_sem];rfl) rfl ?_
    obtain⟨q1,q2⟩:=HT1.out.rows
    exact⟨_,_,by rw[HR.out],by rw[HA1.out];exact q1,by rw[HA1.out];exact q2,HT1.out.bel⟩
  ·obtain rfl:i=s.size:=by omega
   have HN:=Lib.hid (show allF ((toL s).drop s.size) s.size=([],none) from by rw[List.drop_eq_nil_of_le (by rw[HL.out];exact Nat.le_refl _)];rfl)
   have HR:=Lib.hid (show chkF (toL s)=(0,0) from by unfold chkF;rw[H2.out,HN.out])
   have HA1:=Lib.hid (show(allF (toL s) 0).1=acc from by rw[H1.out,HN.out];simp)
   have i1:(s.size:Int)<=(s.size:Int):=by omega
   go_wp2_with fail
   refine bodyPost_ret (by simp[results,Tryz.results89,go_sem];rfl) rfl ?_
   obtain⟨q1,q2⟩:=HT.out.rows
   exact⟨_,_,by rw[HR.out];rfl,by rw[HA1.out];exact q1,by rw[HA1.out];exact q2,HT.out.bel⟩
def ctlI(x:Int):Bool:=decide (x<32) || (decide (127<=x)&&decide (x<=159)) || x==8232 || x==8233
theorem ctlI_nat(r:Nat):ctlI (r:Int)=ctlU r:=by
 unfold ctlI ctlU
 rw[Bool.eq_iff_iff]
 simp only[Bool.or_eq_true,Bool.and_eq_true,decide_eq_true_eq,beq_iff_eq]
 omega
set_option maxHeartbeats 2000000 in
set_option maxRecDepth 100000 in
theorem r3_control(x:Int)(w:World):Calls Tryz.prog 90 #[.int .i64 x] w fun e w'=>e=.returned (.bool (ctlI x))/\w=w':=by
 by_cases h1:x<32
 ·have HV:=Lib.hid (show ctlI x=true from by unfold ctlI;simp[h1])
  go_enter Tryz.func90,Tryz.ntmps90
  go_wp2_with fail
  go_ret
  exact⟨ret_bool (by rw[HV.out]),rfl⟩
 ·have h1':32<=x:=by omega
  rcases e1:(x==8232) with _|_
  all_goals
   rcases e2:(x==8233) with _|_
   all_goals
    by_cases h2:127<=x
    ·by_cases h3:x<=159
     ·have HV:=Lib.hid (show ctlI x=true from by unfold ctlI;simp[h2,h3])
      clear h1
      go_enter Tryz.func90,Tryz.ntmps90
      go_wp2_with fail
      go_ret
      exact⟨ret_bool (by rw[HV.out]),rfl⟩
     ·have HV:=Lib.hid (show ctlI x=(((x==8232)) || (x==8233)) from by unfold ctlI;simp[h1,h3])
      rw[e1,e2]at HV
      have h3':159<x:=by omega
      clear h1 h3
      go_enter Tryz.func90,Tryz.ntmps90
      go_wp2_with fail
      go_ret
      exact⟨ret_bool (by rw[HV.out];first|done|rfl|(simp;omega)),rfl⟩
    ·have HV:=Lib.hid (show ctlI x=(((x==8232)) || (x==8233)) from by unfold ctlI;simp[h1,h2])
     rw[e1,e2]at HV
     have h2':x<127:=by omega
     clear h1 h2
     go_enter Tryz.func90,Tryz.ntmps90
     go_wp2_with fail
     go_ret
     exact⟨ret_bool (by rw[HV.out];first|done|rfl|(simp;omega)),rfl⟩
end Go.Proofs.YtannhfnpigiggaaGreatDoor
namespace Go.Proofs.YtannhfnpigiggaaGreatDoor
set_option linter.unusedSimpArgs false
set_option linter.unusedVariables false
end Go.Proofs.YtannhfnpigiggaaGreatDoor
namespace Go.Proofs.YtannhfnpigiggaaGreatDoor
set_option linter.unusedSimpArgs false
set_option linter.unusedVariables false
open Go.RowKit

end Go.Proofs.YtannhfnpigiggaaGreatDoor
