import Derived.Test.YtannhfnpigiggaaGreatDoorPl41
import Derived.Test.YtannhfnpigiggaaGreatDoorPl43
import Derived.Lib.AppendIntMem
import Derived.Lib.SmallJoins
namespace Go.Proofs.YtannhfnpigiggaaGreatDoor
set_option linter.unusedSimpArgs false
set_option linter.unusedVariables false
open Go.RowKit Go.Joins
open Go.Lib (decDigits)
def TabN(w : World) : Prop := Lib.TabIs Tryz.prog w "internal/strconv.uint64pow10" .u64 Lib.pow10Tab
theorem TabN.below{w w':World}(h:TabN w)(hb:Below w.heap.size w w'):TabN w':=Lib.tabBelow_of_tabIs h w' hb
theorem asc_digits(n:Int)(h1 : -100000000000<=n)(h2:n<=100000000000)(w:World)(ht:TabN w):Calls Tryz.prog 52 #[.int .i64 n] w fun e w'=>e=.returned (.string (ofL (decI n)))/\Below w.heap.size w w':=by
 have hI:=Tryz.strconv_Itoa n (by omega) (by omega) w ht
 have hV:(⟨(Lib.itoa n).toArray⟩:ByteArray)=ofL (decI n):=rfl
 rw[hV]at hI
 have HI:=Lib.hid hI
 clear hI hV
 go_enter Tryz.func52,Tryz.ntmps52
 go_wp2_with fail
 (with_reducible refine HI.out.mono ?_)
 rintro e w1 ⟨rfl,k,os,rfl⟩
 go_wp2_with fail
 go_ret
 exact⟨rfl,Lib.below_grow _ _ (Nat.le_refl _) _ _⟩
theorem decI_nat(n:Nat):decI (n:Int)=decDigits n:=by
 unfold decI;rw[if_neg (by omega)];rfl
def rep1(c:UInt8)(new s:Bs):Bs:=s.flatMap fun d=>if d=c then new else [d]
theorem rep1_eq(c:UInt8)(new:Bs):∀s:Bs,repL [c] new s=rep1 c new s
 | []=>repL_nil (by simp)
 | d::r=>by
  have e:rep1 c new (d::r)=(if d=c then new else [d])++rep1 c new r:=by simp[rep1]
  rw[e]
  by_cases h:d=c
  ·rw[if_pos h,repL_hit (by simp) _ (by simp[h,List.isPrefixOf])]
   simp[rep1_eq c new r]
  ·rw[if_neg h,repL_miss (by simp) _ _ (by simp[List.isPrefixOf];exact fun e=>h e.symm),rep1_eq c new r];rfl
theorem rep_esc:∀s:Bs,rep1 34 [92,34] (rep1 92 [92,92] s)=escL s
 | []=>rfl
 | c::r=>by
  have ih:=rep_esc r
  have e1:rep1 92 [92,92] (c::r)=(if c=92 then [92,92] else [c])++rep1 92 [92,92] r:=by simp[rep1]
  have e2:∀a b:Bs,rep1 34 [92,34] (a++b)=rep1 34 [92,34] a++rep1 34 [92,34] b:=by intro a b;simp[rep1]
  have e3:escL (c::r)=(if c=34\/c=92 then [92,c] else [c])++escL r:=by simp[escL]
  rw[e1,e2,ih,e3]
  congr 1
  by_cases h1:c=92
  ·subst h1;decide
  ·by_cases h2:c=34
   ·subst h2;decide
   ·rw[if_neg h1,if_neg (by simp[h1,h2])]
    simp[rep1,h2]
theorem rep1_len(c:UInt8)(new:Bs)(hn:new.length=2):∀s:Bs,(rep1 c new s).length<=2*s.length
 | []=>by simp[rep1]
 | d::r=>by
  have e:rep1 c new (d::r)=(if d=c then new else [d])++rep1 c new r:=by simp[rep1]
  have:=rep1_len c new hn r
  rw[e,List.length_append,List.length_cons]
  split
  ·omega
  ·simp;omega
theorem rep_calls(s:ByteArray)(c:UInt8)(new:Bs)(hn:new.length=2)(w:World)(hsh:w.ShapedOpen Tryz.prog)(hs:s.size<=3000000) :
  Calls Tryz.prog 113 #[.string s,.string ⟨#[c]⟩,.string (ofL new)] w fun e w'=>e=.returned (.string (ofL (rep1 c new (toL s))))/\Below w.heap.size w w':=by
 refine(Tryz.strings_ReplaceAll_shaped s ⟨#[c]⟩ (ofL new) w hsh (by omega) (Nat.le_refl 1) (by
  have h9:=Lib.count_le s.data.toList [c]
  have h8:s.data.toList.length=s.size:=toL_length s
  have h7:Lib.countB s ⟨#[c]⟩=Lib.count s.data.toList [c]:=rfl
  rw[h7,show(ofL new).size=2 from by rw[ofL_size,hn]];omega)).mono ?_
 rintro e w' ⟨rfl,hb⟩
 refine⟨?_,hb⟩
 have hne:([c]==new)=false:=by
  rw[beq_eq_false_iff_ne];intro e;rw[<-e]at hn;simp at hn
 have:(⟨(Lib.replaceAll s.data.toList (⟨#[c]⟩:ByteArray).data.toList (ofL new).data.toList).toArray⟩:ByteArray)=ofL (rep1 c new (toL s)):=by
  rw[<-rep1_eq]
  show ofL (Lib.replaceAll (toL s) [c] new)=_
  unfold Lib.replaceAll Lib.replace repL
  rw[hne]
  rfl
 rw[this]
set_option maxHeartbeats 2000000 in
set_option maxRecDepth 100000 in
theorem sc_quote(s:ByteArray)(w:World)(hsh:w.ShapedOpen Tryz.prog)(hs:s.size<=1000000):Calls Tryz.prog 87 #[.string s] w fun e w'=>e=.returned (.string (ofL (quoteL (toL s))))/\Below w.heap.size w w':=by
 have H1:Calls Tryz.prog 113 #[.string s,.string ⟨#[92]⟩,.string ⟨#[92,92]⟩] w (fun e w'=>e=.returned (.string (ofL (rep1 92 [92,92] (toL s))))/\Below w.heap.size w w'):=rep_calls s 92 [92,92] rfl w hsh (by omega)
 have hl1:=rep1_len 92 [92,92] rfl (toL s)
 have H2:∀wx,Below w.heap.size w wx->Calls Tryz.prog 113 #[.string (ofL (rep1 92 [92,92] (toL s))),.string ⟨#[34]⟩,.string ⟨#[92,34]⟩] wx (fun e w'=>e=.returned (.string (ofL (rep1 34 [92,34] (toL (ofL (rep1 92 [92,92] (toL s)))))))/\Below wx.heap.size wx w'):=fun wx (hx:Below w.heap.size w wx)=>rep_calls (ofL (rep1 92 [92,92] (toL s))) 34 [92,34] rfl wx (shaped_below hsh hx) (by rw[ofL_size];rw[toL_length]at hl1;omega)
 have hl2:=escL_length (toL s)
 rw[toL_length]at hl2
 rw[toL_ofL,rep_esc]at H2
 obtain⟨M,hM⟩:∃M,ofL (rep1 92 [92,92] (toL s))=M:=⟨_,rfl⟩
 obtain⟨E,hE⟩:∃E,ofL (escL (toL s))=E:=⟨_,rfl⟩
 have hEz:E.size<=2000000:=by rw[<-hE,ofL_size];omega
 rw[hM]at H1 H2
 rw[hE]at H2
 have HV:=Lib.hid (show((⟨#[34]⟩:ByteArray)++E)++⟨#[34]⟩=ofL (quoteL (toL s)) from by
  rw[<-hE]
  show(ofL [34]++ofL (escL (toL s)))++ofL [34]=_
  rw[ofL_append,ofL_append];congr 1)
 have HV2:=Lib.hid (show(⟨#[34]⟩:ByteArray)++(E++⟨#[34]⟩)=ofL (quoteL (toL s)) from by
  rw[<-hE]
  show ofL [34]++(ofL (escL (toL s))++ofL [34])=_
  rw[ofL_append,ofL_append];congr 1)
 have HA:=Lib.hid H1
 have HB:=Lib.hid H2
 clear H1 H2 hM hE hsh hl1 hl2
 go_enter Tryz.func87,Tryz.ntmps87
 go_wp2_with (first
  | (go_at_call 113;(with_reducible refine HA.out.mono ?_);rintro e w1 ⟨rfl,hb1⟩;have HB1:=Lib.hid hb1;clear hb1)
  | (go_at_call 113;(with_reducible refine(HB.out _ HB1.out).mono ?_);rintro e w2 ⟨rfl,hb2⟩;have HB2:=Lib.hid (HB1.out.trans (hb2.mono HB1.out.size));clear hb2))
 go_ret
 exact⟨congrArg (fun x=>Ending.returned (Value.string x)) HV.out,HB2.out⟩
end Go.Proofs.YtannhfnpigiggaaGreatDoor
