import Derived.Test.YtannhfnpigiggaaGreatDoorPl16
import Derived.Test.YtannhfnpigiggaaGreatDoorPl20
namespace Go.Proofs.YtannhfnpigiggaaGreatDoor
set_option linter.unusedSimpArgs false
set_option linter.unusedVariables false
open Go.RowKit
structure KeepA(A:Nat->Prop)(w w':World):Prop where
 size:w.heap.size<=w'.heap.size
 blk:∀k:Nat,A k->w'.heap[k]?=w.heap[k]?
 pat:∀(k:Nat) (cs:Array Value) (t:TypeId) (fr:Nat × Nat),w.heap[k]?=some (Obj.cells cs t fr)->(t=196\/t=284)->w'.heap[k]?=w.heap[k]?
theorem KeepA.below{A:Nat->Prop}{w w':World}(hb:Below w.heap.size w w')(ha:∀k,A k->k<w.heap.size):KeepA A w w':=⟨hb.size,fun k hk=>hb.block k (ha k hk),fun k _ _ _ h _=>hb.block k (heap_lt h)⟩
theorem KeepA.grown {A : Nat → Prop} {w w' : World} {row : Option Nat} (hg : w.grownBy w' row) (ha : ∀ k, A k → k < w.heap.size ∧ row ≠ some k) (hr : ∀ g, row = some g → ∃ cur t fr, w.heap[g]? = some (.cells cur t fr) ∧ t ≠ 196 ∧ t ≠ 284) : KeepA A w w' :=
  ⟨hg.size, fun k hk => hg.block k (ha k hk).1 (fun e => (ha k hk).2 e.symm), fun k cs t fr h ht => hg.block k (heap_lt h) (fun e => by
    obtain ⟨cur, t', fr', e1, e2, e3⟩ := hr k e.symm
    rw [h] at e1; injection e1 with e1; injection e1 with _ e1 _
    rcases ht with ht | ht
    · exact e2 (e1.symm.trans ht)
    · exact e3 (e1.symm.trans ht))⟩
theorem KeepA.set {A : Nat → Prop} {w : World} {b i : Nat} {v : Value} {cs : Array Value} {t : TypeId} {fr : Nat × Nat} (hb : w.heap[b]? = some (.cells cs t fr)) (h1 : t ≠ 196) (h2 : t ≠ 284) (ha : ¬ A b) : KeepA A w (w.setCell ⟨b, i, none⟩ v) :=
  ⟨by simp, fun k hk => heap_set_ne _ (fun e => ha (e ▸ hk)), fun k cs' t' fr' h ht => heap_set_ne _ (fun e => by
    subst e
    rw [h] at hb; injection hb with hb; injection hb with _ hb _
    subst hb
    rcases ht with ht | ht
    · exact h1 ht
    · exact h2 ht)⟩
theorem KeepA.fr {A : Nat → Prop} {n b : Nat} {w w' : World} (hf : Fr n (fun k => k = b) w w') {cs : Array Value} {t : TypeId} {fr : Nat × Nat} (hb : w.heap[b]? = some (.cells cs t fr)) (h1 : t ≠ 196) (h2 : t ≠ 284) (ha : ∀ k, A k → k < w.heap.size ∧ k ≠ b) : KeepA A w w' :=
  ⟨hf.size, fun k hk => hf.oth k (ha k hk).1 (ha k hk).2, fun k cs' t' fr' h ht => hf.oth k (heap_lt h) (fun e => by
    subst e
    rw [h] at hb; injection hb with hb; injection hb with _ hb _
    subst hb
    rcases ht with ht | ht
    · exact h1 ht
    · exact h2 ht)⟩
theorem PatT.keepA{A:Nat->Prop}{w w':World}{b:Nat}{txt:ByteArray}{es:List Em}(h:PatT w b txt es)(hk:KeepA A w w'):PatT w' b txt es:=by
 obtain⟨Ad,c,h1,h2,h3⟩:=h
 have hbb:∀bb off,Ad=some ⟨bb,off,none⟩->w'.heap[bb]?=w.heap[bb]?:=fun bb off e=>by
  obtain⟨cur,fr,h4⟩:=h3 bb off e
  exact hk.pat bb _ _ _ h4 (.inr rfl)
 refine⟨Ad,c,(hk.pat b _ _ _ h1 (.inl rfl)).trans h1,?_,fun bb off e=>?_⟩
 ·rcases h2 with h2|⟨bb,off,rfl,hlt,hc⟩
  ·exact .inl h2
  ·exact .inr ⟨bb,off,rfl,Nat.lt_of_lt_of_le hlt hk.size,fun j v hv=>by rw[World.cell?_of_block (a:=⟨bb,off+j,none⟩) (hbb bb off rfl)];exact hc j v hv⟩
 ·obtain⟨cur,fr,h4⟩:=h3 bb off e
  exact⟨cur,fr,(hbb bb off e).trans h4⟩
def numFn(f:Bs):Nat:=if f=wAge then 167 else if f=wBytes then 168 else if f=wLines then 169 else if f=wDepth then 170 else 171
def txtFn(f:Bs):Nat:=if f=wName then 172 else if f=wSubject then 173 else 174
def byV(l:Bs):List Value:=l.map fun c=>.int .u8 (num c)
inductive CondIn (A:Nat->Prop) (w:World):Cond->Value->Prop
 | either {l:List Cond} {vs:List Value} {b off c:Nat} (hl:vs.length=l.length) (hp:0<l.length) (hm:l.length<=1000000) (hb:A b) (hr:Row w (some ⟨b,off,none⟩) vs) (hs:∀(i:Nat) (h1:i<l.length) (h2:i<vs.length),CondIn A w l[i] vs[i]):CondIn A w (.either l) (.iface 155 (.slice (some ⟨b,off,none⟩) l.length c))
 | both {l:List Cond} {vs:List Value} {b off c:Nat} (hl:vs.length=l.length) (hp:0<l.length) (hm:l.length<=1000000) (hb:A b) (hr:Row w (some ⟨b,off,none⟩) vs) (hs:∀(i:Nat) (h1:i<l.length) (h2:i<vs.length),CondIn A w l[i] vs[i]):CondIn A w (.both l) (.iface 157 (.slice (some ⟨b,off,none⟩) l.length c))
 | neg {x:Cond} {v:Value} (h:CondIn A w x v):CondIn A w (.neg x) (.iface 159 (.agg #[v]))
 | cmp {f op:Bs} {n:Nat} (hf:f∈numFs) (ho:op∈cmpOps) (hn:n<=2147483647):CondIn A w (.cmp f op n) (.iface 162 (.agg #[.string (ofL f),.func (.func (numFn f)) #[] #[],.string (ofL op),.int .i64 (n:Int)]))
 | txt {f m t:Bs} (hf:f∈txtFs) (hm:m∈modesL) (ht:t.length<=1000000):CondIn A w (.txt f m t) (.iface 165 (.agg #[.string (ofL f),.func (.func (txtFn f)) #[] #[],.string (ofL m),.string (ofL t)]))
 | auth {t:Bs} (ht:authB t=true):CondIn A w (.auth t) (.iface 167 (.agg (.string (ofL t)::byV (unhexL t)).toArray))
 | grp {t:Bs} {pb:Nat} (ht:(compF t).2.2=0) (hp:PatT w pb (ofL t) (compF t).1):CondIn A w (.grp t) (.iface 170 (.agg #[.pointer (some ⟨pb,0,none⟩)]))
theorem row_keep{A:Nat->Prop}{w w':World}{b off:Nat}{vs:List Value}(h:Row w (some ⟨b,off,none⟩) vs)(hk:KeepA A w w')(hb:A b):Row w' (some ⟨b,off,none⟩) vs:=by
 rcases h with h|⟨bb,o,e,hlt,hc⟩
 ·exact .inl h
 ·injection e with e;injection e with e1 e2;subst e1;subst e2
  exact .inr ⟨b,off,rfl,Nat.lt_of_lt_of_le hlt hk.size,fun j v hv=>by rw[World.cell?_of_block (a:=⟨b,off+j,none⟩) (hk.blk b hb)];exact hc j v hv⟩
theorem CondIn.keep{A:Nat->Prop}{w w':World}{x:Cond}{v:Value}(h:CondIn A w x v)(hk:KeepA A w w'):CondIn A w' x v:=by
 induction h with
 | either hl hp hm hb hr hs ih=>exact .either hl hp hm hb (row_keep hr hk hb) ih
 | both hl hp hm hb hr hs ih=>exact .both hl hp hm hb (row_keep hr hk hb) ih
 | neg h ih=>exact .neg ih
 | cmp hf ho hn=>exact .cmp hf ho hn
 | txt hf hm ht=>exact .txt hf hm ht
 | auth ht=>exact .auth ht
 | grp ht hp=>exact .grp ht (hp.keepA hk)
theorem CondIn.mono{A B:Nat->Prop}{w:World}{x:Cond}{v:Value}(h:CondIn A w x v)(hs:∀k,A k->B k):CondIn B w x v:=by
 induction h with
 | either hl hp hm hb hr hs' ih=>exact .either hl hp hm (hs _ hb) hr ih
 | both hl hp hm hb hr hs' ih=>exact .both hl hp hm (hs _ hb) hr ih
 | neg h ih=>exact .neg ih
 | cmp hf ho hn=>exact .cmp hf ho hn
 | txt hf hm ht=>exact .txt hf hm ht
 | auth ht=>exact .auth ht
 | grp ht hp=>exact .grp ht hp
def condP(z:Nat)(c:Cond)(v:Value)(w:World):Prop:=CondIn (fun k=>z<=k/\k<w.heap.size) w c v
theorem CondIn.one{A:Nat->Prop}{w:World}{x:Cond}{v:Value}(h:CondIn A w x v):v.oneCell'=true:=by cases h<;>rfl
theorem info_cond:(Tryz.prog.info? 79).map (fun i=>(i.zero,i.size,i.bytes))=some (some .nilIface,1,16):=by kernel_rfl
theorem el_both:Elem Tryz.prog 157 79 1 16:=Elem.of Tryz.underlying157 info_cond rfl (by omega)
theorem el_either:Elem Tryz.prog 155 79 1 16:=Elem.of Tryz.underlying155 info_cond rfl (by omega)
def hexD:Bs := [48,49,50,51,52,53,54,55,56,57,97,98,99,100,101,102]
def isHexI(c:Int):Bool:=decide (0<=Lib.indexByte hexD c.toNat.toUInt8)
theorem isHex_num(c:UInt8):isHexI (num c)=hexC c:=by
 have h:∀k:Fin 256,isHexI (num (UInt8.ofNat k.val))=hexC (UInt8.ofNat k.val):=by decide +kernel
 have:=h ⟨c.toNat,c.toNat_lt⟩
 simpa using this
theorem hexV_lt(c:UInt8)(h:hexC c=true):hexV c<16/\Lib.indexByte hexD c=(hexV c:Int):=by
 have h2:∀k:Fin 256,hexC (UInt8.ofNat k.val)=true->hexV (UInt8.ofNat k.val)<16/\Lib.indexByte hexD (UInt8.ofNat k.val)=(hexV (UInt8.ofNat k.val):Int):=by decide +kernel
 have:=h2 ⟨c.toNat,c.toNat_lt⟩
 simp only[UInt8.ofNat_toNat]at this
 exact this h
set_option maxHeartbeats 400000 in
theorem uh_isHex(c:Int)(w:World):Calls Tryz.prog 177 #[.int .u8 c] w fun e w'=>e=.returned (.bool (isHexI c))/\w=w':=by
 have HC:=Lib.hid (Tryz.strings_IndexByte ⟨#[48,49,50,51,52,53,54,55,56,57,97,98,99,100,101,102]⟩ c w)
 go_enter Tryz.func177,Tryz.ntmps177
 go_wp2_with (go_at_call 176;(with_reducible refine HC.out.mono ?_);rintro e w' ⟨rfl,rfl⟩)
 go_ret
 exact⟨ret_bool rfl,rfl⟩
theorem class_isHex:ClassIs 177 isHexI:=⟨Tryz.call177,uh_isHex⟩
set_option maxHeartbeats 400000 in
theorem uh_value(c:UInt8)(hc:hexC c=true)(w:World):Calls Tryz.prog 178 #[.int .u8 (num c)] w fun e w'=>e=.returned (.int .u8 (hexV c:Int))/\w=w':=by
 have HC:=Lib.hid (idx_byte (ofL hexD) c w)
 obtain⟨h1,h2⟩:=hexV_lt c hc
 have HC:=Lib.hid (show Calls Tryz.prog 176 #[.string ⟨#[48,49,50,51,52,53,54,55,56,57,97,98,99,100,101,102]⟩,.int .u8 (num c)] w fun e w'=>e=.returned (.int .i64 (hexV c:Int))/\w=w' from by rw[<-h2];exact HC.out)
 generalize hexV c=v at *
 clear h2
 go_enter Tryz.func178,Tryz.ntmps178
 go_wp2_with (go_at_call 176;(with_reducible refine HC.out.mono ?_);rintro e w' ⟨rfl,rfl⟩)
 go_ret
 exact⟨rfl,rfl⟩
theorem nib_num(a b:Nat)(ha:a<16)(hb:b<16):(.int .u8 (bits BinOp.or IntKind.u8 (IntKind.u8.wrap ((a:Int)*16)) (b:Int)):Value)=u8 (UInt8.ofNat (16*a+b)):=by
 have h:∀x y:Fin 16,bits BinOp.or IntKind.u8 (IntKind.u8.wrap ((x.val:Int)*16)) (y.val:Int)=num (UInt8.ofNat (16*x.val+y.val)):=by decide +kernel
 rw[h ⟨a,ha⟩ ⟨b,hb⟩]
def hexOk(l:Bs):Bool:=decide (l.length%2=0)&&l.all hexC
theorem unhexL_at:∀(l:Bs) (k:Nat) (h:2*k+1<l.length),unhexL l=unhexL (l.take (2*k))++unhexL (l.drop (2*k))
 | [],k,h=>by simp at h
 | [c],k,h=>by simp at h
 | c::d::r,0,h=>by simp[unhexL]
 | c::d::r,k+1,h=>by
  have:=unhexL_at r k (by simp at h;omega)
  simp only[show 2*(k+1)=2*k+1+1 from by omega,List.take_succ_cons,List.drop_succ_cons,unhexL,List.cons_append]
  rw[<-this]
theorem unhexL_step(l:Bs)(k:Nat)(h:2*k+1<l.length):unhexL (l.take (2*(k+1)))=unhexL (l.take (2*k)) ++ [UInt8.ofNat (16*hexV (l[2*k]'(by omega))+hexV (l[2*k+1]'h))]:=by
 have e:=unhexL_at (l.take (2*(k+1))) k (by rw[List.length_take];omega)
 rw[e,List.take_take,show min (2*k) (2*(k+1))=2*k from by omega]
 congr 1
 have h2:(l.take (2*(k+1))).drop (2*k)=[l[2*k]'(by omega),l[2*k+1]'h]:=by
  rw[List.drop_take,show 2*(k+1)-2*k=2 from by omega,List.drop_eq_getElem_cons (by omega),List.drop_eq_getElem_cons h]
  rfl
 rw[h2];rfl
theorem unhexL_len:∀(l:Bs),(unhexL l).length=l.length / 2
 | []=>rfl
 | [c]=>by simp[unhexL]
 | c::d::r=>by simp only[unhexL,List.length_cons,unhexL_len r];omega
theorem hexOk_no{s:ByteArray}(h:¬ s.size%2=0):hexOk (toL s)=false:=by simp only[hexOk,toL_length,h,decide_false,Bool.false_and]
theorem takeWhile_all(q:UInt8->Bool):∀l:Bs,(l.takeWhile q).length<l.length↔l.all q=false
 | []=>by simp
 | c::r=>by
  have ih:=takeWhile_all q r
  cases h:q c with
  | true=>simp only[List.takeWhile_cons,h,if_true,List.length_cons,List.all_cons,Bool.true_and,Nat.add_lt_add_iff_right];exact ih
  | false=>simp[List.takeWhile_cons,h]
theorem skip_all(p:Int->Bool)(l:Bs):skipFrom p l 0<l.length↔(l.all fun c=>p (num c))=false:=by
 simp only[skipFrom,Nat.zero_add,List.drop_zero]
 exact takeWhile_all _ l
theorem hexOk_skip{s:ByteArray}(h:s.size%2=0):hexOk (toL s) = !decide (skipFrom isHexI (toL s) 0<s.size):=by
 have h1:=skip_all isHexI (toL s)
 have h2:((toL s).all fun c=>isHexI (num c))=(toL s).all hexC:=by congr 1;funext c;exact isHex_num c
 rw[h2,toL_length]at h1
 simp only[hexOk,toL_length,h,decide_true,Bool.true_and]
 cases ha:(toL s).all hexC with
 | true=>rw[ha]at h1;simp at h1;simp[h1]
 | false=>rw[ha]at h1;simp at h1;simp[h1]
set_option maxHeartbeats 4000000 in
set_option maxRecDepth 100000 in
theorem asc_unhex (s : ByteArray) (w : World) (hs : s.size ≤ 1000000) :
    Calls Tryz.prog 157 #[.string s] w fun e w' => Below w.heap.size w w' ∧ (if hexOk (toL s) then ∃ A c, e = .returned (.tuple #[.slice A (s.size / 2) c, .int .i64 0]) ∧ Row w' A (bytesV (unhexL (toL s))) else e = .returned (.tuple #[.slice none 0 0, .int .i64 3])) := by
  by_cases he : s.size % 2 = 0
  · have hq := hexOk_skip he
    by_cases hk : skipFrom isHexI (toL s) 0 < s.size
    · rw [decide_eq_true hk] at hq
      simp only [hq, Bool.not_true, Bool.false_eq_true, if_false]
      have HSK := Lib.hid (show Calls Tryz.prog 46 #[.string s, .int .i64 0, .func (.func 177) #[] #[]] w fun e w' => e = .returned (.int .i64 (skipFrom isHexI (toL s) 0)) ∧ w = w' from asc_skip 177 isHexI class_isHex s 0 w (by unfold maxLen; omega) (by omega))
      generalize skipFrom isHexI (toL s) 0 = k at *
      have k1 : (k : Int) < (s.size : Int) := by omega
      go_enter Tryz.func157, Tryz.ntmps157
      go_wp2_with ((go_at_call 46; (with_reducible refine HSK.out.mono ?_); rintro e w' ⟨rfl, rfl⟩))
      go_ret2
      exact ⟨Below.refl _ _, rfl⟩
    · rw [decide_eq_false hk] at hq
      have HX := Lib.hid (show (toL s).all hexC = true from by
        rw [Bool.not_false] at hq
        simp only [hexOk, Bool.and_eq_true] at hq
        exact hq.2)
      simp only [hq, Bool.not_false, if_true]
      have HSK := Lib.hid (show Calls Tryz.prog 46 #[.string s, .int .i64 0, .func (.func 177) #[] #[]] w fun e w' => e = .returned (.int .i64 (skipFrom isHexI (toL s) 0)) ∧ w = w' from asc_skip 177 isHexI class_isHex s 0 w (by unfold maxLen; omega) (by omega))
      generalize skipFrom isHexI (toL s) 0 = k at *
      have k1 : ¬ (k : Int) < (s.size : Int) := by omega
      obtain ⟨i, hi, h0, h1, h2⟩ := info_parts (show (Tryz.prog.info? 5).map (fun i => (i.zero, i.size, i.bytes)) = some (some (.int .u8 0), 1, 1) from by kernel_rfl)
      obtain ⟨w1, hmk0, hown, hgr⟩ := run_make_own (P := Tryz.prog) (w := w) w.heap.size 50 5 i (.int .u8 0) 1 Tryz.underlying50 hi h0 h1 .i64 .i64 (s.size / 2) (by rw [h2]; omega) (by unfold maxLen; omega) (Nat.le_refl _)
      have hmk : (Instr.makeSlice 50 (.int .i64 0) (.int .i64 ((s.size : Int) / 2))).run Tryz.prog w = .ok (.slice (some ⟨w.heap.size, 0, none⟩) 0 (s.size / 2)) w1 := by
        rw [show (s.size : Int) / 2 = ((s.size / 2 : Nat) : Int) from by omega]; exact hmk0
      clear hmk0
      go_enter Tryz.func157, Tryz.ntmps157
      go_wp2_with ((go_at_call 46; (with_reducible refine HSK.out.mono ?_); rintro e w' ⟨rfl, rfl⟩))
      clear hmk
      have HB1 := Lib.hid (show Below w.heap.size w w1 from (Below.refl _ _).grown hgr (Nat.le_refl _) (fun g e => by cases e))
      have hown1 := hown
      clear hown hgr
      go_loopw [6, 7] (fun v vi wr => ∃ k : Nat, 2 * k ≤ s.size ∧ vi = .int .i64 (2 * (k : Int)) ∧ wr.ownsRow w.heap.size 5 1 v k (bytesV (unhexL ((toL s).take (2 * k)))) ∧ Below w.heap.size w wr) (fun v vi _ => s.size - (intOf vi).toNat)
      case atStart => exact ⟨0, by omega, rfl, hown1, HB1.out⟩
      case round =>
        obtain ⟨k2, hk2, rfl, hown, hbel⟩ := hrel
        obtain ⟨A, c, rfl, hrw⟩ := own_row hown
        have hz := hbel.size
        by_cases hlt : 2 * k2 < s.size
        · have hlt2 : 2 * k2 + 1 < s.size := by omega
          have hc1 : hexC (s[2 * k2]'hlt) = true := by
            rw [← toL_getElem s _ hlt]; exact List.all_eq_true.1 HX.out _ (List.getElem_mem _)
          have hc2 : hexC (s[2 * k2 + 1]'hlt2) = true := by
            rw [← toL_getElem s _ hlt2]; exact List.all_eq_true.1 HX.out _ (List.getElem_mem _)
          have HST := Lib.hid (unhexL_step (toL s) k2 (by rw [toL_length]; exact hlt2))
          rw [toL_getElem s _ hlt, toL_getElem s _ hlt2] at HST
          have HV1 := Lib.hid (fun wx => uh_value _ hc1 wx)
          have HV2 := Lib.hid (fun wx => uh_value _ hc2 wx)
          have hv1 := (hexV_lt _ hc1).1
          have hv2 := (hexV_lt _ hc2).1
          generalize hexV (s[2 * k2]'hlt) = a1 at *
          generalize hexV (s[2 * k2 + 1]'hlt2) = a2 at *
          have j1 : (0 : Int) ≤ 2 * (k2 : Int) := by omega
          have j2 : 2 * (k2 : Int) < (s.size : Int) := by omega
          have j3 : 2 * (k2 : Int) + 1 < (s.size : Int) := by omega
          have j4 : (0 : Int) ≤ 2 * (k2 : Int) + 1 := by omega
          have c1 : IntKind.i64.wrap (2 * (k2 : Int) + 1) = 2 * (k2 : Int) + 1 := IntWalk.i64_in _ (by omega)
          have c2 : (2 * (k2 : Int)).toNat = 2 * k2 := by omega
          have c3 : (2 * (k2 : Int) + 1).toNat = 2 * k2 + 1 := by omega
          obtain ⟨i0, hi0, hz0, hz1, hz2⟩ := info_parts (show (Tryz.prog.info? 5).map (fun i => (i.zero, i.size, i.bytes)) = some (some (.int .u8 0), 1, 1) from by kernel_rfl)
          go_wp2_with fail
          go_region_law (first
            | (go_simp; go_at_call 178; first | (refine (HV1.out _).mono ?_; rintro e w' ⟨rfl, rfl⟩; dsimp only) | (refine (HV2.out _).mono ?_; rintro e w' ⟨rfl, rfl⟩; dsimp only))
            | (refine step_append_lies _ (by rfl) _ _ _ (by rfl) w.heap.size 5 i0 _ 1 1 Tryz.underlying50 hi0 hz0 hz1 hz2 rfl (by omega) (.slice A k2 c) _ _ (by rfl) ((hown.alloc _).drew)
                ⟨wr.heap.size, 0, none⟩ 1 1 _ (by rfl) (by rfl) (World.news_of_block (t := 5) (fr := (0, 0)) (heap_alloc_new wr _)) (by simp [Value.oneCell'])
                (by omega) (by unfold maxLen; omega) (by omega) (by simp; omega) (wr.heap.size + 1) (by simp) ?_; intro gg cap w3 hown3 hgrow hat hlt))
          all_goals
            have hgw : wr.grownBy w3 (Value.slice A k2 c).ownBlock := ⟨hgrow.os, hgrow.tape, hgrow.output, Nat.le_trans (by simp) hgrow.size, fun k hk hne => (hgrow.block k (by simp; omega) hne).trans (Lib.alloc_old wr _ k hk)⟩
            have HB3 := Lib.hid (hbel.grown hgw hz (fun g e => (hown.lt g e).1))
            have HO3 := Lib.hid (show w3.ownsRow w.heap.size 5 1 (.slice (some ⟨gg, 0, none⟩) (k2 + 1) cap) (k2 + 1) (bytesV (unhexL ((toL s).take (2 * (k2 + 1))))) from by
              rw [HST.out, bytesV, List.map_append, List.map_cons, List.map_nil, ← nib_num a1 a2 hv1 hv2]; exact hown3)
            clear hown3 hgrow hat hgw hown hrw hbel
            go_wp2_with fail
            go_roundw
            case rel => exact ⟨k2 + 1, by omega, by go_num, HO3.out, HB3.out⟩
            case measure => simp [intOf] <;> omega
        · obtain hkk : 2 * k2 = s.size := by omega
          obtain rfl : k2 = s.size / 2 := by omega
          have HR := Lib.hid (show Row wr A (bytesV (unhexL (toL s))) from by
            rw [hkk, List.take_of_length_le (by rw [toL_length]; exact Nat.le_refl _)] at hrw; exact hrw)
          clear hrw hown
          have k3 : ¬ 2 * ((s.size / 2 : Nat) : Int) < (s.size : Int) := by omega
          go_wp2_with fail
          go_ret2
          exact ⟨hbel, A, ⟨c, rfl⟩, HR.out⟩
  · simp only [hexOk_no he, Bool.false_eq_true, if_false]
    have k1 : ¬ ((s.size : Int) % 2 = 0) := by omega
    go_enter Tryz.func157, Tryz.ntmps157
    go_wp2_with fail
    go_ret2
    exact ⟨Below.refl _ _, rfl⟩
end Go.Proofs.YtannhfnpigiggaaGreatDoor
