import Derived.Test.YtannhfnpigiggaaGreatDoorPt38
import Derived.Test.YtannhfnpigiggaaGreatDoorPt40
import Derived.Test.YtannhfnpigiggaaGreatDoorPt41
namespace Go.Proofs.YtannhfnpigiggaaGreatDoor
set_option linter.unusedSimpArgs false
set_option linter.unusedVariables false
open Go.ChangeShapes Go.WideShapes Go.ChangeAt Go.RowKit Go.Deep Go.Joins
section
variable {H : Type} {enc : TypeId × Value → H} {P : Program} {w : World} {base : Nat} {spare : Nat → Bool} {held : Bool}
theorem take1{α:Type}{cs:List α}{i:Nat}{v:α}(h:(cs.drop i).take 1=[v]):cs[i]?=some v:=by
 have:=congrArg (fun l=>l[0]?) h
 simpa[List.getElem?_take,List.getElem?_drop] using this
theorem open_bytes{fuel:Nat}{t e:TypeId}{n:Nat}{cs:List Value}{x:DataW H × List MemPlace}(ht:P.underlying t=some (.array n e))(he:P.underlying e=some (.int .u8))(hce:P.cellsOf e=1)
  (h:DataW.trod enc P w base spare held fuel t cs=some x):∀i,i<n->∃k,cs[i]?=some (.int .u8 k)/\(Lit.int .u8 k).wf=true:=by
 obtain⟨xs,m,rfl,rfl,hl,hlen,hx⟩:=DataW.trod_array ht h
 intro i hi
 have:=hx i hi
 rw[hce,Nat.mul_one,List.getElem?_eq_getElem (by omega)]at this
 obtain⟨k,hk,_,hw⟩:=DataW.trod_int he this
 exact⟨k,take1 hk,hw⟩
theorem field_of{fuel:Nat}{t e:TypeId}{fs:Array Field}{cs:List Value}{x:DataW H × List MemPlace}(ht:P.underlying t=some (.struct fs))(h:DataW.trod enc P w base spare held fuel t cs=some x)(i:Nat)(nm:Field)(off c:Nat)(hi:fs[i]?=some nm)(he:nm.type=e)(ho:nm.offset=off)(hc:P.cellsOf e=c) :
  ∃n y,DataW.trod enc P w base spare held n e ((cs.drop off).take c)=some y:=by
 obtain⟨xs,m,rfl,rfl,hl,hlen,hx⟩:=DataW.trod_struct ht h
 have:=hx i nm hi
 rw[he,ho,hc]at this
 have hlt:i<xs.length:=by
  rw[hlen];exact(Array.getElem?_eq_some_iff.1 hi).1
 rw[List.getElem?_eq_getElem hlt]at this
 exact⟨m,_,this⟩
theorem len_of{fuel:Nat}{t:TypeId}{fs:Array Field}{cs:List Value}{x:DataW H × List MemPlace}(ht:P.underlying t=some (.struct fs))(h:DataW.trod enc P w base spare held fuel t cs=some x):cs.length=P.cellsOf t:=by
 obtain⟨xs,m,rfl,rfl,hl,hlen,hx⟩:=DataW.trod_struct ht h
 exact hl
end
section
variable {H : Type} {enc : TypeId × Value → H} {w : World}
theorem size_str:Tryz.prog.cellsOf 9=1:=by kernel_rfl
theorem size_int:Tryz.prog.cellsOf 3=1:=by kernel_rfl
theorem size_u8:Tryz.prog.cellsOf 5=1:=by kernel_rfl
theorem size_auC:Tryz.prog.cellsOf 23=16:=by kernel_rfl
theorem size_strs:Tryz.prog.cellsOf 24=1:=by kernel_rfl
theorem size_inC:Tryz.prog.cellsOf 26=25:=by kernel_rfl
theorem open_strsC{fuel:Nat}{cs:List Value}{y:DataW H × List MemPlace}(hf:DataW.trod enc Tryz.prog w 0 (fun _=>true) true fuel 24 cs=some y) :
  ∃A l c,cs=[.slice A l.length c]/\Row w A (strsL l)/\SizedS l c:=by
 rcases open_strings Tryz.underlying24 Tryz.underlying9 size_str hf with⟨hcs,hx⟩|⟨a,len,cap,ss,hcs,hb,hl,hm,hlen,hx,hcell,hsz⟩
 ·exact⟨none, [],0,hcs,Row.nil _ _,by simp,by simp[maxLen],by simp⟩
 ·have hlen':ss.length=cap:=by simpa using hlen
  refine⟨some a,(ss.take len).map toL,cap,by rw[hcs];simp;omega,?_,by simp;omega,hm,fun x hx=>?_⟩
  ·by_cases hz:len=0
   ·subst hz;exact .inl (by simp)
   ·have hc0:=hcell 0 (by omega)
    have hsp:=spot_none hc0
    have hlt:=World.block_lt_of_cell? w _ hc0
    obtain⟨bb,off,sp⟩:=a
    have hsp':sp=none:=by simpa[Addr.add] using hsp
    subst hsp'
    have hadd:∀j,(⟨bb,off,none⟩:Addr).add j=⟨bb,off+j,none⟩:=fun j=>by
     unfold Addr.add
     split
     ·rename_i h;subst h;rfl
     ·rfl
    rw[hadd]at hlt
    refine Row.mk _ _ _ _ hlt fun j u hu=>?_
    have hj:j<len:=by
     rcases Nat.lt_or_ge j len with h'|h'
     ·exact h'
     ·rw[List.getElem?_eq_none (by simp;omega)]at hu;cases hu
    have:=hcell j (by omega)
    rw[hadd]at this
    rw[this]
    have hjs:j<ss.length:=by omega
    simp[hj,hjs,ofL_toL]at hu
    rw[<-hu];simp[List.getD,hjs]
  ·simp only[List.mem_map]at hx
   obtain⟨s,hs,rfl⟩:=hx
   rw[toL_length];exact hsz s (List.mem_of_mem_take hs)
structure InOk(N S B:ByteArray)(f:Nat->Int)(A:Option Addr)(l:List Bs)(w:World):Prop where
 nz:N.size<=maxLen
 sz:S.size<=maxLen
 bz:B.size<=maxLen
 fz:∀i,i<16->0<=f i/\f i<256
 lz:l.length<=maxLen
 rz:Row w A (strsL l)
 ez:∀x∈l,x.length<=maxLen
set_option maxRecDepth 100000 in
theorem open_in{r:Reach}{b0:Nat}{v:Value}{y:DataW H}{p:List MemPlace}(hv:Value.okWide Tryz.prog w r b0 26 v)(h:DataW.Trod enc Tryz.prog w 0 (fun _=>true) true 26 v y p) :
  ∃(N S B:ByteArray) (f:Nat->Int) (A:Option Addr) (l:List Bs) (gc:Nat) (a b c d e:Int),v=.agg (inX N S B f (.slice A l.length gc) a b c d e)/\InOk N S B f A l w:=by
 obtain⟨cs0,rfl,hsz⟩:=okWide_struct Tryz.underlying26 hv
 obtain⟨fuel,hf⟩:=h
 have hf':DataW.trod enc Tryz.prog w 0 (fun _=>true) true fuel 26 cs0.toList=some (y,p):=hf
 have hl:=len_of Tryz.underlying26 hf'
 rw[size_inC]at hl
 obtain⟨n0,y0,h0⟩:=field_of Tryz.underlying26 hf' 0 _ 0 1 rfl rfl rfl size_str
 obtain⟨n1,y1,h1⟩:=field_of Tryz.underlying26 hf' 1 _ 1 1 rfl rfl rfl size_str
 obtain⟨n2,y2,h2⟩:=field_of Tryz.underlying26 hf' 2 _ 2 1 rfl rfl rfl size_str
 obtain⟨n3,y3,h3⟩:=field_of Tryz.underlying26 hf' 3 _ 3 16 rfl rfl rfl size_auC
 obtain⟨n4,y4,h4⟩:=field_of Tryz.underlying26 hf' 4 _ 19 1 rfl rfl rfl size_strs
 obtain⟨n5,y5,h5⟩:=field_of Tryz.underlying26 hf' 5 _ 20 1 rfl rfl rfl size_int
 obtain⟨n6,y6,h6⟩:=field_of Tryz.underlying26 hf' 6 _ 21 1 rfl rfl rfl size_int
 obtain⟨n7,y7,h7⟩:=field_of Tryz.underlying26 hf' 7 _ 22 1 rfl rfl rfl size_int
 obtain⟨n8,y8,h8⟩:=field_of Tryz.underlying26 hf' 8 _ 23 1 rfl rfl rfl size_int
 obtain⟨n9,y9,h9⟩:=field_of Tryz.underlying26 hf' 9 _ 24 1 rfl rfl rfl size_int
 obtain⟨N,e0,_,w0⟩:=DataW.trod_string Tryz.underlying9 h0
 obtain⟨S,e1,_,w1⟩:=DataW.trod_string Tryz.underlying9 h1
 obtain⟨B,e2,_,w2⟩:=DataW.trod_string Tryz.underlying9 h2
 have hb:=open_bytes Tryz.underlying23 Tryz.underlying5 size_u8 h3
 obtain⟨A,l,gc,e4,hr4,hs4⟩:=open_strsC h4
 obtain⟨a,e5,_,w5⟩:=DataW.trod_int Tryz.underlying3 h5
 obtain⟨b,e6,_,w6⟩:=DataW.trod_int Tryz.underlying3 h6
 obtain⟨c,e7,_,w7⟩:=DataW.trod_int Tryz.underlying3 h7
 obtain⟨d,e8,_,w8⟩:=DataW.trod_int Tryz.underlying3 h8
 obtain⟨e,e9,_,w9⟩:=DataW.trod_int Tryz.underlying3 h9
 have hf:∀i<16,cs0.toList[3+i]?=some (.int .u8 (match cs0.toList[3+i]? with|some (.int _ k)=>k|_=>0))/\0<=(match cs0.toList[3+i]? with|some (.int _ k)=>k|_=>(0:Int))/\(match cs0.toList[3+i]? with|some (.int _ k)=>k|_=>(0:Int))<256:=fun i hi=>by
  obtain⟨k,hk,hw⟩:=hb i hi
  rw[List.getElem?_take,if_pos hi,List.getElem?_drop]at hk
  rw[hk]
  refine⟨rfl,?_⟩
  have h1:(IntKind.u8.min<=k)/\(k<=IntKind.u8.max):=by simpa[Lit.wf] using hw
  have h2:IntKind.u8.min=0:=rfl
  have h3:IntKind.u8.max=255:=rfl
  simp only
  omega
 refine⟨N,S,B,fun i=>match cs0.toList[3+i]? with|some (.int _ k)=>k|_=>0,A,l,gc,a,b,c,d,e,?_,⟨w0,w1,w2,fun i hi=>(hf i hi).2,Nat.le_trans hs4.1 hs4.2.1,hr4,hs4.2.2⟩⟩
 refine congrArg Value.agg (Array.toList_inj.1 ?_)
 generalize hg:(fun i:Nat => (match cs0.toList[3+i]? with|some (.int _ k)=>k|_=>0:Int))=f at *
 have hf':∀i<16,cs0.toList[3+i]?=some (.int .u8 (f i)):=fun i hi=>by rw[<-hg];exact(hf i hi).1
 generalize cs0.toList=cs at *
 refine List.ext_getElem? fun i=>?_
 rcases i with _|_|_|i
 ·rw[take1 e0];rfl
 ·rw[take1 e1];rfl
 ·rw[take1 e2];rfl
 ·by_cases hi:i<16
  ·rw[show i+1+1+1=3+i from by omega,hf' i hi]
   iterate 16 (rcases i with _|i;· rfl)
   omega
  ·by_cases hi2:i<22
   ·obtain rfl|rfl|rfl|rfl|rfl|rfl:i=16\/i=17\/i=18\/i=19\/i=20\/i=21:=by omega
    ·rw[take1 e4];rfl
    ·rw[take1 e5];rfl
    ·rw[take1 e6];rfl
    ·rw[take1 e7];rfl
    ·rw[take1 e8];rfl
    ·rw[take1 e9];rfl
   ·rw[List.getElem?_eq_none (by omega),List.getElem?_eq_none (by show 25<=i+1+1+1;omega)]
end
def auL(f:Nat->Int):Bs:=(List.range 16).map fun i=>UInt8.ofNat (f i).toNat
def inS(N S B:ByteArray)(f:Nat->Int)(gs:List Bs)(a b c d e:Int):InS:=⟨toL N,toL S,toL B,auL f,gs,a,b,c,d,e⟩
theorem inV_of {N S B : ByteArray} {f : Nat → Int} {gs : List Bs} {a b c d e : Int} (hN : N.size ≤ 1000000) (hS : S.size ≤ 1000000) (hB : B.size ≤ 1000000) (hf : ∀ i, i < 16 → 0 ≤ f i ∧ f i < 256) (hl : gs.length ≤ 1000) (hg : ∀ g ∈ gs, g.length ≤ 1000) (A : Option Addr) (gc : Nat) :
    InV (inS N S B f gs a b c d e) (inX N S B f (.slice A gs.length gc) a b c d e) A gc where
  size := rfl
  c0 := by show some (Value.string N) = some (Value.string (ofL (toL N))); rw [ofL_toL]
  c1 := by show some (Value.string S) = some (Value.string (ofL (toL S))); rw [ofL_toL]
  c2 := by show some (Value.string B) = some (Value.string (ofL (toL B))); rw [ofL_toL]
  au := by show (auL f).length = 16; simp [auL]
  cau := fun i h => by
    have h16 : i < 16 := by have : (auL f).length = 16 := by simp [auL]
                            exact this ▸ h
    have e1 : (inX N S B f (.slice A gs.length gc) a b c d e)[3 + i]? = some (.int .u8 (f i)) := by
      match i, h16 with
      | 0, _ => rfl
      | 1, _ => rfl
      | 2, _ => rfl
      | 3, _ => rfl
      | 4, _ => rfl
      | 5, _ => rfl
      | 6, _ => rfl
      | 7, _ => rfl
      | 8, _ => rfl
      | 9, _ => rfl
      | 10, _ => rfl
      | 11, _ => rfl
      | 12, _ => rfl
      | 13, _ => rfl
      | 14, _ => rfl
      | 15, _ => rfl
      | n + 16, h => omega
    have e2 : num ((auL f)[i]'h) = f i := by
      have := hf i h16
      have e3 : (auL f)[i]'h = UInt8.ofNat (f i).toNat := by simp [auL]
      rw [e3]
      simp only [num, UInt8.toNat_ofNat']
      omega
    show (inX N S B f (.slice A gs.length gc) a b c d e)[3 + i]? = some (.int .u8 (num ((auL f)[i]'h)))
    rw [e1, e2]
  c19 := rfl
  c20 := rfl
  c21 := rfl
  c22 := rfl
  c23 := rfl
  c24 := rfl
  one := by
    intro v hv
    have h : (inX N S B f (.slice A gs.length gc) a b c d e).toList.all (·.oneCell') = true := by simp [Value.oneCell']
    exact List.all_eq_true.1 h v hv
  s0 := by show (toL N).length ≤ _; rw [toL_length]; exact hN
  s1 := by show (toL S).length ≤ _; rw [toL_length]; exact hS
  s2 := by show (toL B).length ≤ _; rw [toL_length]; exact hB
  gn := hl
  gs := hg
end Go.Proofs.YtannhfnpigiggaaGreatDoor
namespace Go.Proofs.YtannhfnpigiggaaGreatDoor
set_option linter.unusedSimpArgs false
set_option linter.unusedVariables false
open Go.RowKit
theorem nz_rules:∀(ls:List Bs) (i n:Nat) (f:Nat × Nat × Int),rulesG ls i n=.error f->f.2.2≠0
 | [],i,n,f,h=>by unfold rulesG at h;cases h
 | x::r,i,n,f,h=>by
  unfold rulesG at h
  split at h
  ·exact nz_rules r (i+1) n f h
  ·split at h
   ·rename_i g hg
    injection h with h;subst h;exact nz_line hg
   ·split at h
    ·rename_i g hg
     injection h with h;subst h;exact nz_rules r (i+1) (n+1) _ hg
    ·cases h
theorem nz_parse{L:Bs}{f:Nat × Nat × Int}(h:parseG L=.error f):f.2.2≠0:=by
 unfold parseG at h
 split at h
 ·injection h with h;subst h;simp
 ·exact nz_rules _ _ _ _ h
theorem pa_any(s:ByteArray)(w:World)(hsh:w.ShapedOpen Tryz.prog):Calls Tryz.prog 11 #[.string s] w fun e w'=>∃(p:Option Addr) (i j k:Int),e=.returned (.tuple #[.pointer p,.int .i64 i,.int .i64 j,.int .i64 k])/\Below w.heap.size w w':=by
 refine(sc_parse s w hsh).mono fun e w' hp=>?_
 have hr:=hp.res
 cases h:parseG (toL s) with
 | error f=>rw[h]at hr;exact⟨_,_,_,_,hr,hp.bel⟩
 | ok l=>rw[h]at hr;obtain⟨rb,h1,_⟩:=hr;exact⟨_,_,_,_,h1,hp.bel⟩
theorem parse_few{L:Bs}{l:List RuleS}(h:parseG L=.ok l):l.length<=200:=by
 unfold parseG at h
 split at h
 ·cases h
 ·have:=rulesG_few _ _ _ _ (Nat.zero_le 200) h;omega
attribute [local go_sem ↓] wp_load_in
attribute [local go_sem ↓] wp_load_in
theorem ex_load_in3{d:Option Tmp}{ty:TypeId}{pos:String}{af:Array Edge}{x:Operand}{ρ:Operand->Value}{w:World}{g:Option (Nat × Bool)}(h:OkIn w (ρ x)) :
  (execOp ρ { dst:=d,op:=.load 26 x,type:=ty,pos:=pos,after:=af,guard:=g }).run Tryz.prog w=.ok (.value (inOf w (ρ x))) w:=by
 obtain⟨u,hu⟩:=h
 rw[(in_of hu).2]
 unfold execOp
 simp only[hu,Sem.run_bind,Sem.run_pure,Result.andThen_ok]
attribute [local go_sem ↓] ex_load_in3
theorem res_flds : (Tryz.prog.fieldsOf 39).toList.map (fun f=>(f.name == "_", f.type, f.offset))=[(false, 3, 0), (false, 4, 1), (false, 4, 2), (false, 3, 3)] := by kernel_rfl
theorem res_four : ∃f g h i : Field, (Tryz.prog.fieldsOf 39).toList=[f, g, h, i]/\((f.name == "_")=false/\f.type=3/\f.offset=0)/\((g.name == "_")=false/\g.type=4/\g.offset=1)/\((h.name == "_")=false/\h.type=4/\h.offset=2)/\((i.name == "_")=false/\i.type=3/\i.offset=3) := by
 have h:=res_flds
 generalize (Tryz.prog.fieldsOf 39).toList=l at h
 rcases l with _|⟨f,_|⟨g,_|⟨x,_|⟨y,_|⟨z,l⟩⟩⟩⟩⟩
 ·simp at h
 ·simp at h
 ·simp at h
 ·simp at h
 ·simp only[List.map_cons,List.map_nil,List.cons.injEq,Prod.mk.injEq,and_true]at h
  exact⟨f,g,x,y,rfl,h.1,h.2.1,h.2.2.1,h.2.2.2⟩
 ·simp at h
theorem res_eq(s a:Int)(k v:Bool)(w:World):(Op.equalIn 10000 39 (.agg #[.int .i64 s,.bool k,.bool v,.int .i64 a]) (.agg #[.int .i64 s,.bool k,.bool v,.int .i64 a])).run Tryz.prog w=.ok true w:=by
 obtain⟨f,g,h,i,e,⟨f1,f2,f3⟩,⟨g1,g2,g3⟩,⟨h1,h2,h3⟩,⟨i1,i2,i3⟩⟩:=res_four
 have pI:∀(cs:Array Value) (j:Nat) (v:Value),cs[j]?=some v->(part 3 cs j).run Tryz.prog w=.ok v w:=fun cs j v hv=>by
  have hp:(isAgg 3).run Tryz.prog w=.ok false w:=by kernel_rfl
  simp[part,hp,hv]
 have pB:∀(cs:Array Value) (j:Nat) (v:Value),cs[j]?=some v->(part 4 cs j).run Tryz.prog w=.ok v w:=fun cs j v hv=>by
  have hp:(isAgg 4).run Tryz.prog w=.ok false w:=by kernel_rfl
  simp[part,hp,hv]
 have qI:∀x y:Int,(Op.equalIn 9999 3 (.int .i64 x) (.int .i64 y)).run Tryz.prog w=.ok (x==y) w:=fun x y=>run_equalIn_int w 9998 3 .i64 .i64 x y Tryz.underlying3
 have qB:∀x y:Bool,(Op.equalIn 9999 4 (.bool x) (.bool y)).run Tryz.prog w=.ok (x==y) w:=fun x y=>run_equalIn_bool w 9998 4 x y Tryz.underlying4
 rw[run_equalIn_struct w 9999 39 _ _ (by kernel_rfl) (by kernel_rfl),e]
 have a0:=pI #[.int .i64 s,.bool k,.bool v,.int .i64 a] 0 _ rfl
 have a1:=pB #[.int .i64 s,.bool k,.bool v,.int .i64 a] 1 _ rfl
 have a2:=pB #[.int .i64 s,.bool k,.bool v,.int .i64 a] 2 _ rfl
 have a3:=pI #[.int .i64 s,.bool k,.bool v,.int .i64 a] 3 _ rfl
 simp only[Op.eqFields,f2,f3,g2,g3,h2,h3,i2,i3]
 simp at f1 g1 h1 i1
 simp[a0,a1,a2,a3,qI,qB,f1,g1,h1,i1]
abbrev K4(W:World)(pa pb:Nat)(LA LB:List Value)(wx:World):Prop:=wx.rangeAt pa 0 LA/\wx.rangeAt pb 0 LB/\Below W.heap.size W wx
end Go.Proofs.YtannhfnpigiggaaGreatDoor
