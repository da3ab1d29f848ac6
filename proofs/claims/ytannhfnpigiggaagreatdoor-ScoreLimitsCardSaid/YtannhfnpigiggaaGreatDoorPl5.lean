import Derived.Test.YtannhfnpigiggaaGreatDoorPl4
import Derived.Laws.Bits
namespace Go.Proofs.YtannhfnpigiggaaGreatDoor
set_option linter.unusedSimpArgs false
set_option linter.unusedVariables false
open Go.RowKit
def Drew(w w':World):Prop := ∃m,w'=w.drewN m
theorem Drew.refl(w:World):Drew w w:=⟨0,rfl⟩
theorem num_lt(c:UInt8):(0:Int)<=num c/\num c<256:=by
 have:=c.toNat_lt;simp only[num];omega
set_option maxHeartbeats 1000000 in
set_option maxRecDepth 100000 in
theorem u8_length(c:UInt8)(w:World):Calls Tryz.prog 182 #[.int .u8 (num c)] w fun e w'=>e=.returned (.int .i64 (lenU c))/\w=w':=by
 have hn:num c=(c.toNat:Int):=rfl
 rcases first_cases c with⟨e,h⟩|⟨e,h⟩|⟨e,h1,h2⟩|⟨e,h1,h2⟩|⟨e,h1,h2⟩
 ·have HE:=Lib.hid e;clear e
  rcases h with⟨h1,h2⟩|h1
  ·have i1:num c<194:=by omega
   have i2:num c<224:=by omega
   have i3:num c<240:=by omega
   have i4:127<num c:=by omega
   clear hn h1 h2
   go_enter Tryz.func182,Tryz.ntmps182
   go_wp2_with fail
   go_ret
   exact⟨by rw[HE.out];rfl,rfl⟩
  ·have i1:240<=num c:=by omega
   have i2:244<num c:=by omega
   have i3:224<=num c:=by omega
   have i4:239<num c:=by omega
   have i5:194<=num c:=by omega
   have i6:223<num c:=by omega
   have i7:127<num c:=by omega
   clear hn h1
   go_enter Tryz.func182,Tryz.ntmps182
   go_wp2_with fail
   go_ret
   exact⟨by rw[HE.out];rfl,rfl⟩
 ·have HE:=Lib.hid e;clear e
  have i1:num c<194:=by omega
  have i2:num c<224:=by omega
  have i3:num c<240:=by omega
  have i4:num c<=127:=by omega
  clear hn h
  go_enter Tryz.func182,Tryz.ntmps182
  go_wp2_with fail
  go_ret
  exact⟨by rw[HE.out];rfl,rfl⟩
 ·have HE:=Lib.hid e;clear e
  have i1:194<=num c:=by omega
  have i2:num c<224:=by omega
  have i3:num c<240:=by omega
  have i4:num c<=223:=by omega
  clear hn h1 h2
  go_enter Tryz.func182,Tryz.ntmps182
  go_wp2_with fail
  go_ret
  exact⟨by rw[HE.out];rfl,rfl⟩
 ·have HE:=Lib.hid e;clear e
  have i1:224<=num c:=by omega
  have i3:num c<240:=by omega
  have i4:num c<=239:=by omega
  clear hn h1 h2
  go_enter Tryz.func182,Tryz.ntmps182
  go_wp2_with fail
  go_ret
  exact⟨by rw[HE.out];rfl,rfl⟩
 ·have HE:=Lib.hid e;clear e
  have i1:240<=num c:=by omega
  have i3:num c<=244:=by omega
  clear hn h1 h2
  go_enter Tryz.func182,Tryz.ntmps182
  go_wp2_with fail
  go_ret
  exact⟨by rw[HE.out];rfl,rfl⟩
theorem numq(f:UInt8)(n:Nat)(hn:n<256):(num f==(n:Int))=decide (f=UInt8.ofNat n):=by
 rw[Bool.eq_iff_iff,beq_iff_eq,decide_eq_true_iff,ea hn];simp only[num];omega
theorem cont_at{f c:UInt8}{i lo hi:Nat}(h1:lowU f i=lo)(h2:highU f i=hi):contU f i c=(decide ((lo:Int)<=num c)&&decide (num c<=(hi:Int))):=by
 unfold contU;rw[h1,h2,Bool.eq_iff_iff];simp only[num,Bool.and_eq_true,decide_eq_true_eq];omega
set_option maxHeartbeats 4000000 in
set_option maxRecDepth 100000 in
theorem u8_continues(f c:UInt8)(i:Nat)(w:World)(hi:i<=1000):Calls Tryz.prog 183 #[.int .u8 (num f),.int .i64 (i:Int),.int .u8 (num c)] w fun e w'=>e=.returned (.bool (contU f i c))/\w=w':=by
 have hcs:i≠1\/(i=1/\f=224)\/(i=1/\f=237)\/(i=1/\f=240)\/(i=1/\f=244)\/(i=1/\f≠224/\f≠237/\f≠240/\f≠244):=by
  by_cases h:i=1
  ·right
   by_cases a1:f=224
   ·exact .inl ⟨h,a1⟩
   right
   by_cases a2:f=237
   ·exact .inl ⟨h,a2⟩
   right
   by_cases a3:f=240
   ·exact .inl ⟨h,a3⟩
   right
   by_cases a4:f=244
   ·exact .inl ⟨h,a4⟩
   exact .inr ⟨h,a1,a2,a3,a4⟩
  ·exact .inl h
 rcases hcs with h|⟨h,h1⟩|⟨h,h1⟩|⟨h,h1⟩|⟨h,h1⟩|⟨h,h1,h2,h3,h4⟩
 ·have g1:((i:Int)==1)=false:=beq_eq_false_iff_ne.2 (by omega)
  have HC:=Lib.hid (cont_at (f:=f) (c:=c) (i:=i) (lo:=128) (hi:=191) (by unfold lowU;rw[if_neg h]) (by unfold highU;rw[if_neg h]))
  clear h
  by_cases b1:(128:Int)<=num c
  ·by_cases b2:num c<=191
   ·have HV:=Lib.hid (show contU f i c=true from by rw[HC.out];simp;omega)
    go_enter Tryz.func183,Tryz.ntmps183
    go_wp2_with fail
    go_ret
    exact⟨ret_bool (by rw[HV.out];first|done|(simp;done)|(simp;omega)),rfl⟩
   ·have HV:=Lib.hid (show contU f i c=false from by rw[HC.out];simp;omega)
    have b2':191<num c:=by omega
    clear b2
    go_enter Tryz.func183,Tryz.ntmps183
    go_wp2_with fail
    go_ret
    exact⟨ret_bool (by rw[HV.out];first|done|(simp;done)|(simp;omega)),rfl⟩
  ·have HV:=Lib.hid (show contU f i c=false from by rw[HC.out];simp;omega)
   have b1':num c<128:=by omega
   clear b1
   go_enter Tryz.func183,Tryz.ntmps183
   go_wp2_with fail
   go_ret
   exact⟨ret_bool (by rw[HV.out];first|done|(simp;done)|(simp;omega)),rfl⟩
 ·have g1:((i:Int)==1)=true:=by rw[beq_iff_eq];omega
  have HC:=Lib.hid (cont_at (f:=f) (c:=c) (i:=i) (lo:=160) (hi:=191) (by subst h h1;rfl) (by subst h h1;rfl))
  have q1:(num f==224)=true:=by subst h1;rfl
  clear h h1
  by_cases b1:(160:Int)<=num c
  ·by_cases b2:num c<=191
   ·have HV:=Lib.hid (show contU f i c=true from by rw[HC.out];simp;omega)
    go_enter Tryz.func183,Tryz.ntmps183
    go_wp2_with fail
    go_ret
    exact⟨ret_bool (by rw[HV.out];first|done|(simp;done)|(simp;omega)),rfl⟩
   ·have HV:=Lib.hid (show contU f i c=false from by rw[HC.out];simp;omega)
    have b2':191<num c:=by omega
    clear b2
    go_enter Tryz.func183,Tryz.ntmps183
    go_wp2_with fail
    go_ret
    exact⟨ret_bool (by rw[HV.out];first|done|(simp;done)|(simp;omega)),rfl⟩
  ·have HV:=Lib.hid (show contU f i c=false from by rw[HC.out];simp;omega)
   have b1':num c<160:=by omega
   clear b1
   go_enter Tryz.func183,Tryz.ntmps183
   go_wp2_with fail
   go_ret
   exact⟨ret_bool (by rw[HV.out];first|done|(simp;done)|(simp;omega)),rfl⟩
 ·have g1:((i:Int)==1)=true:=by rw[beq_iff_eq];omega
  have HC:=Lib.hid (cont_at (f:=f) (c:=c) (i:=i) (lo:=128) (hi:=159) (by subst h h1;rfl) (by subst h h1;rfl))
  have q1:(num f==224)=false:=by subst h1;rfl
  have q2:(num f==237)=true:=by subst h1;rfl
  clear h h1
  by_cases b1:(128:Int)<=num c
  ·by_cases b2:num c<=159
   ·have HV:=Lib.hid (show contU f i c=true from by rw[HC.out];simp;omega)
    go_enter Tryz.func183,Tryz.ntmps183
    go_wp2_with fail
    go_ret
    exact⟨ret_bool (by rw[HV.out];first|done|(simp;done)|(simp;omega)),rfl⟩
   ·have HV:=Lib.hid (show contU f i c=false from by rw[HC.out];simp;omega)
    have b2':159<num c:=by omega
    clear b2
    go_enter Tryz.func183,Tryz.ntmps183
    go_wp2_with fail
    go_ret
    exact⟨ret_bool (by rw[HV.out];first|done|(simp;done)|(simp;omega)),rfl⟩
  ·have HV:=Lib.hid (show contU f i c=false from by rw[HC.out];simp;omega)
   have b1':num c<128:=by omega
   clear b1
   go_enter Tryz.func183,Tryz.ntmps183
   go_wp2_with fail
   go_ret
   exact⟨ret_bool (by rw[HV.out];first|done|(simp;done)|(simp;omega)),rfl⟩
 ·have g1:((i:Int)==1)=true:=by rw[beq_iff_eq];omega
  have HC:=Lib.hid (cont_at (f:=f) (c:=c) (i:=i) (lo:=144) (hi:=191) (by subst h h1;rfl) (by subst h h1;rfl))
  have q1:(num f==224)=false:=by subst h1;rfl
  have q2:(num f==237)=false:=by subst h1;rfl
  have q3:(num f==240)=true:=by subst h1;rfl
  clear h h1
  by_cases b1:(144:Int)<=num c
  ·by_cases b2:num c<=191
   ·have HV:=Lib.hid (show contU f i c=true from by rw[HC.out];simp;omega)
    go_enter Tryz.func183,Tryz.ntmps183
    go_wp2_with fail
    go_ret
    exact⟨ret_bool (by rw[HV.out];first|done|(simp;done)|(simp;omega)),rfl⟩
   ·have HV:=Lib.hid (show contU f i c=false from by rw[HC.out];simp;omega)
    have b2':191<num c:=by omega
    clear b2
    go_enter Tryz.func183,Tryz.ntmps183
    go_wp2_with fail
    go_ret
    exact⟨ret_bool (by rw[HV.out];first|done|(simp;done)|(simp;omega)),rfl⟩
  ·have HV:=Lib.hid (show contU f i c=false from by rw[HC.out];simp;omega)
   have b1':num c<144:=by omega
   clear b1
   go_enter Tryz.func183,Tryz.ntmps183
   go_wp2_with fail
   go_ret
   exact⟨ret_bool (by rw[HV.out];first|done|(simp;done)|(simp;omega)),rfl⟩
 ·have g1:((i:Int)==1)=true:=by rw[beq_iff_eq];omega
  have HC:=Lib.hid (cont_at (f:=f) (c:=c) (i:=i) (lo:=128) (hi:=143) (by subst h h1;rfl) (by subst h h1;rfl))
  have q1:(num f==224)=false:=by subst h1;rfl
  have q2:(num f==237)=false:=by subst h1;rfl
  have q3:(num f==240)=false:=by subst h1;rfl
  have q4:(num f==244)=true:=by subst h1;rfl
  clear h h1
  by_cases b1:(128:Int)<=num c
  ·by_cases b2:num c<=143
   ·have HV:=Lib.hid (show contU f i c=true from by rw[HC.out];simp;omega)
    go_enter Tryz.func183,Tryz.ntmps183
    go_wp2_with fail
    go_ret
    exact⟨ret_bool (by rw[HV.out];first|done|(simp;done)|(simp;omega)),rfl⟩
   ·have HV:=Lib.hid (show contU f i c=false from by rw[HC.out];simp;omega)
    have b2':143<num c:=by omega
    clear b2
    go_enter Tryz.func183,Tryz.ntmps183
    go_wp2_with fail
    go_ret
    exact⟨ret_bool (by rw[HV.out];first|done|(simp;done)|(simp;omega)),rfl⟩
  ·have HV:=Lib.hid (show contU f i c=false from by rw[HC.out];simp;omega)
   have b1':num c<128:=by omega
   clear b1
   go_enter Tryz.func183,Tryz.ntmps183
   go_wp2_with fail
   go_ret
   exact⟨ret_bool (by rw[HV.out];first|done|(simp;done)|(simp;omega)),rfl⟩
 ·have g1:((i:Int)==1)=true:=by rw[beq_iff_eq];omega
  have HC:=Lib.hid (cont_at (f:=f) (c:=c) (i:=i) (lo:=128) (hi:=191) (by unfold lowU;rw[if_pos h,if_neg h1,if_neg h3]) (by unfold highU;rw[if_pos h,if_neg h2,if_neg h4]))
  have q1:(num f==224)=false:=(numq f 224 (by omega)).trans (decide_eq_false h1)
  have q2:(num f==237)=false:=(numq f 237 (by omega)).trans (decide_eq_false h2)
  have q3:(num f==240)=false:=(numq f 240 (by omega)).trans (decide_eq_false h3)
  have q4:(num f==244)=false:=(numq f 244 (by omega)).trans (decide_eq_false h4)
  clear h h1 h2 h3 h4
  by_cases b1:(128:Int)<=num c
  ·by_cases b2:num c<=191
   ·have HV:=Lib.hid (show contU f i c=true from by rw[HC.out];simp;omega)
    go_enter Tryz.func183,Tryz.ntmps183
    go_wp2_with fail
    go_ret
    exact⟨ret_bool (by rw[HV.out];first|done|(simp;done)|(simp;omega)),rfl⟩
   ·have HV:=Lib.hid (show contU f i c=false from by rw[HC.out];simp;omega)
    have b2':191<num c:=by omega
    clear b2
    go_enter Tryz.func183,Tryz.ntmps183
    go_wp2_with fail
    go_ret
    exact⟨ret_bool (by rw[HV.out];first|done|(simp;done)|(simp;omega)),rfl⟩
  ·have HV:=Lib.hid (show contU f i c=false from by rw[HC.out];simp;omega)
   have b1':num c<128:=by omega
   clear b1
   go_enter Tryz.func183,Tryz.ntmps183
   go_wp2_with fail
   go_ret
   exact⟨ret_bool (by rw[HV.out];first|done|(simp;done)|(simp;omega)),rfl⟩
theorem Drew.step{w wr:World}(h:Drew w wr)(n:Nat):Drew w (wr.drewN n):=by
 obtain⟨m,rfl⟩:=h
 exact⟨m+n,World.drewN_drewN _ _ _⟩
theorem Drew.trans{a b c:World}(h:Drew a b)(k:Drew b c):Drew a c:=by
 obtain⟨m,rfl⟩:=k
 exact h.step m
def wholeU:List UInt8->Bool
 | []=>false
 | f::r=>decide (measU (f::r)=lenU f/\lenU f≠0)
theorem toL_consB{s:ByteArray}(h:0<s.size):toL s=s[0]'h::(toL s).drop 1:=by
 have:=List.drop_eq_getElem_cons (l:=toL s) (i:=0) (by rw[toL_length];exact h)
 rw[List.drop_zero,toL_getElem s 0 h]at this
 exact this
theorem measU_cons(f:UInt8)(r:List UInt8)(h:lenU f≠0):measU (f::r)=runU f (lenU f) 1 r+1:=by rw[measU,if_neg h]
theorem run_yes{f:UInt8}{n i:Nat}{L:List UInt8}{c:UInt8}(hi:i<n)(hc:L[i]?=some c)(h:contU f i c=true):runU f n i (L.drop i)=runU f n (i+1) (L.drop (i+1))+1:=by
 obtain⟨hl,e⟩:=List.getElem?_eq_some_iff.1 hc
 rw[List.drop_eq_getElem_cons hl,e,runU,if_pos ⟨hi,h⟩]
theorem run_no{f:UInt8}{n i:Nat}{L:List UInt8}{c:UInt8}(hc:L[i]?=some c)(h:contU f i c=false):runU f n i (L.drop i)=0:=by
 obtain⟨hl,e⟩:=List.getElem?_eq_some_iff.1 hc
 rw[List.drop_eq_getElem_cons hl,e,runU,if_neg (by rw[h];simp)]
theorem run_end{f:UInt8}{n i:Nat}{L:List UInt8}(h:L.length<=i):runU f n i (L.drop i)=0:=by
 rw[List.drop_eq_nil_of_le h];rfl
theorem byteAt(s:ByteArray)(k:Nat)(h:k<s.size):(toL s)[k]?=some (s[k]'h):=by
 rw[List.getElem?_eq_getElem (by rw[toL_length];exact h),toL_getElem s k h]
set_option maxHeartbeats 4000000 in
set_option maxRecDepth 100000 in
theorem u8_measure(s:ByteArray)(w:World)(hs:s.size<=100000000) :
  Calls Tryz.prog 165 #[.string s] w fun e w'=>e=.returned (.tuple #[.int .i64 (measU (toL s)),.bool (wholeU (toL s))])/\Drew w w':=by
 by_cases h0:s.size=0
 ·have hE:s=⟨#[]⟩:=by
   apply toL_inj;rw[List.eq_nil_of_length_eq_zero ((toL_length s).trans h0)];rfl
  subst hE
  go_enter Tryz.func165,Tryz.ntmps165
  go_wp2_with fail
  go_ret2
  exact⟨rfl,Drew.refl _⟩
 have hE:s.toList.isEmpty=false:=toList_cons h0
 have hp:0<s.size:=by omega
 have p0:(0:Int)<(s.size:Int):=by omega
 have HL:=Lib.hid (toL_length s)
 have HC:=Lib.hid (toL_consB hp)
 have HBA:=Lib.hid (byteAt s)
 rcases Nat.eq_zero_or_pos (lenU (s[0]'hp)) with hz|hz
 ·have HM:=Lib.hid (show measU (toL s)=0 from by rw[HC.out,measU,if_pos hz])
  have HW:=Lib.hid (show wholeU (toL s)=false from by rw[HC.out,wholeU];simp[hz])
  have HU:=Lib.hid (u8_length (s[0]'hp))
  rw[hz]at HU
  clear hz h0
  go_enter Tryz.func165,Tryz.ntmps165
  go_wp2_with ((go_at_call 182;(with_reducible refine(HU.out _).mono ?_);rintro e w' ⟨rfl,rfl⟩))
  go_ret2
  exact⟨by rw[HM.out,HW.out];rfl,Drew.refl _⟩
 ·have HU:=Lib.hid (u8_length (s[0]'hp))
  have hl4:=lenU_le (s[0]'hp)
  have HM:=Lib.hid (show measU (toL s)=runU (s[0]'hp) (lenU (s[0]'hp)) 1 ((toL s).drop 1)+1 from by
   have:=measU_cons (s[0]'hp) ((toL s).drop 1) (by omega)
   rwa [<-HC.out]at this)
  have HW:=Lib.hid (show wholeU (toL s)=decide (measU (toL s)=lenU (s[0]'hp)) from by
   have:wholeU (s[0]'hp::(toL s).drop 1)=decide (measU (s[0]'hp::(toL s).drop 1)=lenU (s[0]'hp)/\lenU (s[0]'hp)≠0):=rfl
   rw[<-HC.out]at this
   rw[this,decide_eq_decide]
   exact⟨fun h=>h.1,fun h=>⟨h,by omega⟩⟩)
  have HCT:=Lib.hid (fun (k:Nat) (hk:k<s.size) (wx:World) (h:k<=1000)=>u8_continues (s[0]'hp) (s[k]'hk) k wx h)
  have HYE:=Lib.hid (fun (k:Nat) (hk:k<s.size) (h1:k<lenU (s[0]'hp)) (h:contU (s[0]'hp) k (s[k]'hk)=true)=>run_yes h1 (HBA.out k hk) h)
  have HNO:=Lib.hid (fun (k:Nat) (hk:k<s.size) (h:contU (s[0]'hp) k (s[k]'hk)=false)=>run_no (n:=lenU (s[0]'hp)) (HBA.out k hk) h)
  have HEN:=Lib.hid (fun (k:Nat) (hk:s.size<=k)=>run_end (f:=s[0]'hp) (n:=lenU (s[0]'hp)) (i:=k) (L:=toL s) (by rw[HL.out];exact hk))
  have HST:=Lib.hid (fun (k:Nat) (hk:lenU (s[0]'hp)<=k)=>run_stop (s[0]'hp) (lenU (s[0]'hp)) k ((toL s).drop k) hk)
  obtain⟨f,hf⟩:∃f,f=s[0]'hp:=⟨_,rfl⟩
  rw[<-hf]at hz hl4 HU HM HW HCT HYE HNO HEN HST
  have HF:=Lib.hid hf
  obtain⟨n,hn⟩:∃n,n=lenU f:=⟨_,rfl⟩
  rw[<-hn]at hz hl4 HM HW HYE HNO HEN HST
  have HU2:=Lib.hid (show ∀wx,Calls Tryz.prog 182 #[.int .u8 (num (s[0]'hp))] wx fun e w'=>e=.returned (.int .i64 (n:Int))/\wx=w' from by
   intro wx;rw[hn, ← hf];exact HU.out wx)
  have HCT2:=Lib.hid (show ∀(k:Nat) (hk:k<s.size) (wx:World) (h:k<=1000),Calls Tryz.prog 183 #[.int .u8 (num (s[0]'hp)),.int .i64 (k:Int),.int .u8 (num (s[k]'hk))] wx fun e w'=>e=.returned (.bool (contU f k (s[k]'hk)))/\wx=w' from by
   intro k hk wx h;have:=HCT.out k hk wx h;rw[hf]at this⊢;exact this)
  have n0:((n:Int)==0)=false:=beq_eq_false_iff_ne.2 (by omega)
  clear hf hn HU HCT h0 HC HBA
  go_enter Tryz.func165,Tryz.ntmps165
  go_wp2_with ((go_at_call 182;(with_reducible refine(HU2.out _).mono ?_);rintro e w' ⟨rfl,rfl⟩))
  go_loopw [2,16] (fun v2 _ wr=>∃k:Nat,1<=k/\k<=n/\k<=s.size/\v2=.int .i64 (k:Int)/\measU (toL s)=runU f n k ((toL s).drop k)+k/\Drew w wr) (fun v2 _ _=>s.size-(intOf v2).toNat)
  case atStart=>exact⟨1,by omega,by omega,by omega,rfl,HM.out,Drew.refl _⟩
  case round =>
   obtain⟨k,hk1,hkn,hks,rfl,hm,hd⟩:=hrel
   have HMK:=Lib.hid hm;have HD:=Lib.hid hd
   clear HM hm hd
   obtain⟨wo,rfl⟩:∃wo:World,wo=wr:=⟨_,rfl⟩
   have k0:(0:Int)<=(k:Int):=by omega
   by_cases hlt:k<n
   ·have k1:(k:Int)<(n:Int):=by omega
    have d1:decide (k<n)=true:=by simp;omega
    by_cases hls:k<s.size
    ·have k2:(k:Int)<(s.size:Int):=by omega
     have d2:decide (k<s.size)=true:=by simp;omega
     have HCK:=Lib.hid (fun wx=>HCT2.out k hls wx (by omega))
     rcases hc:contU f k (s[k]'hls) with _|_
     ·have HZ:=Lib.hid (show measU (toL s)=k from by rw[HMK.out,HNO.out k hls hc];omega)
      have HCC:=Lib.hid hc
      rw[hc]at HCK
      have ke:((k:Int)==(n:Int))=false:=beq_eq_false_iff_ne.2 (by omega)
      have HWF:=Lib.hid (show wholeU (toL s)=false from by rw[HW.out,HZ.out];exact decide_eq_false (by omega))
      clear hc
      go_wp2_with fail
      go_quiet ((go_at_call 183;exact quiet_left' (HCK.out _)))
      have HD2:=Lib.hid (HD.out.step nq)
      go_wp2_with fail
      go_ret2
      exact⟨by rw[HZ.out,HWF.out];rfl,HD2.out⟩
     ·have HZ:=Lib.hid (show measU (toL s)=runU f n (k+1) ((toL s).drop (k+1))+(k+1) from by rw[HMK.out,HYE.out k hls hlt hc];omega)
      rw[hc]at HCK
      clear hc
      go_wp2_with fail
      go_quiet ((go_at_call 183;exact quiet_left' (HCK.out _)))
      have HD2:=Lib.hid (HD.out.step nq)
      go_wp2_with fail
      go_roundw
      case rel=>exact⟨k+1,by omega,by omega,by omega,by go_num,HZ.out,HD2.out⟩
      case measure=>simp[intOf]<;>omega
    ·have k2:(s.size:Int)<=(k:Int):=by omega
     have d2:decide (k<s.size)=false:=by simp;omega
     have HZ:=Lib.hid (show measU (toL s)=k from by rw[HMK.out,HEN.out k (by omega)];omega)
     have ke:((k:Int)==(n:Int))=false:=beq_eq_false_iff_ne.2 (by omega)
     have HWF:=Lib.hid (show wholeU (toL s)=false from by rw[HW.out,HZ.out];exact decide_eq_false (by omega))
     clear hls
     go_wp2_with fail
     go_quiet (fail)
     have HD2:=Lib.hid (HD.out.step nq)
     go_wp2_with fail
     go_ret2
     exact⟨by rw[HZ.out,HWF.out];rfl,HD2.out⟩
   ·have k1:(n:Int)<=(k:Int):=by omega
    have d1:decide (k<n)=false:=by simp;omega
    have HZ:=Lib.hid (show measU (toL s)=k from by rw[HMK.out,HST.out k (by omega)];omega)
    have ke:((k:Int)==(n:Int))=true:=by rw[beq_iff_eq];omega
    have HWF:=Lib.hid (show wholeU (toL s)=true from by rw[HW.out,HZ.out];exact decide_eq_true (by omega))
    clear hlt
    go_wp2_with fail
    go_quiet (fail)
    have HD2:=Lib.hid (HD.out.step nq)
    go_wp2_with fail
    go_ret2
    exact⟨by rw[HZ.out,HWF.out];rfl,HD2.out⟩
end Go.Proofs.YtannhfnpigiggaaGreatDoor
