import Derived.Test.YtannhfnpigiggaaGreatDoorPl15
import Derived.BigRegion
namespace Go.Proofs.YtannhfnpigiggaaGreatDoor
set_option linter.unusedSimpArgs false
set_option linter.unusedVariables false
open Go.RowKit
structure TksOk(all:List Tok):Prop where
 pos:0<all.length
 fin:∀(j:Nat) (h:j<all.length),all[j].kind=0↔j+1=all.length
 few:all.length<=1000000
 col:∀(j:Nat) (h:j<all.length),all[j].col<=1000000/\all[j].num<=2147483647/\all[j].kind<=4/\all[j].text.length<=1000000
structure PkS(w:World)(b:Nat)(A:Option Addr)(cap:Nat)(all:List Tok)(k:Nat):Prop where
 box:w.heap[b]?=some (.cells #[.slice A all.length cap,.int .i64 (k:Int)] 116 (0,0))
 row:Row w A (toksV all)
 rb:∀bb o,A=some ⟨bb,o,none⟩->bb<b
 ok:TksOk all
 lt:k<all.length
section
variable {w w' : World} {b : Nat} {A : Option Addr} {cap k : Nat} {all : List Tok}
theorem PkS.below(h:PkS w b A cap all k)(hb:Below w.heap.size w w'):PkS w' b A cap all k:=⟨(hb.block _ (heap_lt h.box)).trans h.box,h.row.below hb,h.rb,h.ok,h.lt⟩
theorem PkS.cells(h:PkS w b A cap all k):w.cell? ⟨b,0,none⟩=some (.slice A all.length cap)/\w.cell? ⟨b,1,none⟩=some (.int .i64 (k:Int))/\w.frozen? ⟨b,1,none⟩=false/\b<w.heap.size :=
 ⟨by rw[Lib.cell_of_heap h.box];rfl,by rw[Lib.cell_of_heap h.box];rfl,Lib.frozen_of_heap h.box 1,heap_lt h.box⟩
theorem row_set{A:Option Addr}{xs:List Value}{b i:Nat}{v:Value}(h:Row w A xs)(hb:∀bb o,A=some ⟨bb,o,none⟩->bb≠b):Row (w.setCell ⟨b,i,none⟩ v) A xs:=by
 rcases h with h|⟨bb,o,e,hlt,hc⟩
 ·exact .inl h
 ·refine .inr ⟨bb,o,e,by rw[World.size_setCell];exact hlt,fun j u hu=>?_⟩
  rw[World.cell?_of_block (Below.heap_setCell _ _ _ _ (hb bb o e))];exact hc j u hu
theorem PkS.set(h:PkS w b A cap all k){k':Nat}(hk:k'<all.length):PkS (w.setCell ⟨b,1,none⟩ (.int .i64 (k':Int))) b A cap all k' :=
 ⟨by rw[heap_set h.box];rfl,row_set h.row (fun bb o e=>by have:=h.rb bb o e;omega),h.rb,h.ok,hk⟩
theorem PkS.keep(h:PkS w b A cap all k)(hk:∀j,j<=b->w'.heap[j]?=w.heap[j]?)(hz:w.heap.size<=w'.heap.size):PkS w' b A cap all k:=by
 refine⟨(hk b (Nat.le_refl _)).trans h.box,?_,h.rb,h.ok,h.lt⟩
 rcases h.row with h0|⟨bb,o,e,hlt,hc⟩
 ·exact .inl h0
 ·refine .inr ⟨bb,o,e,Nat.lt_of_lt_of_le hlt hz,fun j u hu=>?_⟩
  rw[World.cell?_of_block (hk bb (Nat.le_of_lt (h.rb bb o e)))];exact hc j u hu
theorem toksV_get(l:List Tok)(k:Nat)(hk:k<l.length)(j:Nat)(hj:j<4):(toksV l)[k*4+j]?=(tokC l[k])[j]?:=by
 induction l generalizing k with
 | nil=>simp at hk
 | cons t r ih =>
  cases k with
  | zero =>
   simp only[toksV,List.flatMap_cons]
   rw[List.getElem?_append_left (by simp;omega)];simp
  | succ k =>
   have h:=ih k (by simpa using hk)
   simp only[toksV,List.flatMap_cons]at h⊢
   rw[List.getElem?_append_right (by simp;omega)]
   simp only[List.getElem_cons_succ]
   rw[<-h];congr 1;simp;omega
theorem PkS.tok(h:PkS w b A cap all k):∃bb off,A=some ⟨bb,off,none⟩/\bb<b/\bb<w.heap.size/\w.cell? ⟨bb,off+k*4,none⟩=some (.int .i64 ((all[k]'h.lt).kind:Int))/\w.cell? ⟨bb,off+k*4+1,none⟩=some (.string (ofL (all[k]'h.lt).text)) ∧
  w.cell? ⟨bb,off+k*4+2,none⟩=some (.int .i64 ((all[k]'h.lt).num:Int))/\w.cell? ⟨bb,off+k*4+3,none⟩=some (.int .i64 ((all[k]'h.lt).col:Int)):=by
 rcases h.row with h0|⟨bb,o,e,hlt,hc⟩
 ·have:=toksV_length all
  rw[h0]at this;have:=h.ok.pos;simp at *;omega
 ·refine⟨bb,o,e,h.rb bb o e,hlt,?_,?_,?_,?_⟩
  ·exact hc (k*4+0) _ (by rw[toksV_get all k h.lt 0 (by omega)];rfl)
  ·rw[Nat.add_assoc];exact hc (k*4+1) _ (by rw[toksV_get all k h.lt 1 (by omega)];rfl)
  ·rw[Nat.add_assoc];exact hc (k*4+2) _ (by rw[toksV_get all k h.lt 2 (by omega)];rfl)
  ·rw[Nat.add_assoc];exact hc (k*4+3) _ (by rw[toksV_get all k h.lt 3 (by omega)];rfl)
end
theorem now_ret{Q:Ending->World->Prop}{W:World}{r:Nat}{t:Tok}{T:Array Value}(hb:W.heap[r]?=some (.cells (tokC t) 118 (0,0)))
  (hT2:T[2]?=some (.pointer (some ⟨r,0,none⟩))) (hQ:Q (.returned (tokV t)) W) :
  bodyPost Tryz.prog Tryz.f82 Q .ret { tmps:=T,defers := [] } W:=by
 obtain⟨c0,c1,c2,c3⟩:=tokBox_cells hb
 refine bodyPost_ret (v:=tokV t) ?_ rfl hQ
 simp[results,Tryz.f82,go_sem,hT2,c0,c1,c2,c3]
set_option maxHeartbeats 4000000 in
set_option maxRecDepth 100000 in
theorem sc_now{w:World}{b:Nat}{A:Option Addr}{cap k:Nat}{all:List Tok}(h:PkS w b A cap all k):Calls Tryz.prog 82 #[.pointer (some ⟨b,0,none⟩)] w fun e w'=>e=.returned (tokV (all[k]'h.lt))/\Below w.heap.size w w':=by
 obtain⟨k0,k1,_,hbw⟩:=h.cells
 obtain⟨bb,off,rfl,hbb,hbz,c0,c1,c2,c3⟩:=h.tok
 have hlt:=h.lt
 have hfew:=h.ok.few
 have i0:(0:Int)<=(k:Int):=by omega
 have i1:(k:Int)<(all.length:Int):=by omega
 generalize all[k]=t at *
 obtain⟨tk,tt,tn,tc⟩:=t
 simp only at c0 c1 c2 c3
 clear h
 go_enter Tryz.func82,Tryz.ntmps82
 go_wp2_with fail
 go_region
 all_goals
  go_wp2_with fail
  exact now_ret (r:=w.heap.size) (t:=⟨tk,tt,tn,tc⟩) (heap_alloc_new w _) rfl ⟨rfl,(alloc_bel w _).drew⟩
structure PrPost{α:Type}(V:α->Value->World->Prop)(n b:Nat)(A:Option Addr)(cap:Nat)(all:List Tok)(x:Except Fl (α × List Tok))(w:World)(e:Ending)(w':World):Prop where
 fr:Fr n (fun k=>k=b) w w'
 res:match x with
  | .error f=>e=failE f
  | .ok a=>∃v k',e=.returned v/\V a.1 v w'/\PkS w' b A cap all k'/\a.2=all.drop k'
theorem PrPost.err{α:Type}{V:α->Value->World->Prop}{n b:Nat}{A:Option Addr}{cap:Nat}{all:List Tok}{x:Except Fl (α × List Tok)}{w w':World}{f:Fl}{e:Ending}(hx:x=.error f)(hf:Fr n (fun k=>k=b) w w')(he:e=failE f):PrPost V n b A cap all x w e w':=⟨hf,by rw[hx];exact he⟩
theorem PrPost.yes{α:Type}{V:α->Value->World->Prop}{n b:Nat}{A:Option Addr}{cap:Nat}{all:List Tok}{x:Except Fl (α × List Tok)}{w w':World}{a:α}{v:Value}{k':Nat}(hx:x=.ok (a,all.drop k'))(hf:Fr n (fun k=>k=b) w w')(hv:V a v w')(hp:PkS w' b A cap all k'):PrPost V n b A cap all x w (.returned v) w':=⟨hf,by rw[hx];exact⟨v,k',rfl,hv,hp,rfl⟩⟩
theorem drop_tok{all:List Tok}{k:Nat}(h:k<all.length):all.drop k=all[k]::all.drop (k+1):=List.drop_eq_getElem_cons h
theorem knd(a k:Nat):((a:Int)==(k:Int))=(a==k):=by rw[Bool.eq_iff_iff,beq_iff_eq,beq_iff_eq];omega
set_option maxHeartbeats 4000000 in
set_option maxRecDepth 100000 in
theorem sc_is{w:World}{b:Nat}{A:Option Addr}{cap k:Nat}{all:List Tok}(h:PkS w b A cap all k)(x:ByteArray):Calls Tryz.prog 109 #[.pointer (some ⟨b,0,none⟩),.string x] w fun e w'=>e=.returned (.bool (isT (toL x) (all.drop k)))/\Below w.heap.size w w':=by
 have HN:=Lib.hid (sc_now h)
 have HV:=Lib.hid (show isT (toL x) (all.drop k)=(((all[k]'h.lt).kind==1 || (all[k]'h.lt).kind==4)&&(all[k]'h.lt).text==toL x) from by rw[drop_tok h.lt];rfl)
 generalize isT (toL x) (all.drop k)=R at *
 have hlt:=h.lt
 generalize all[k]=t at *
 clear h
 obtain⟨tk,tt,tn,tc⟩:=t
 simp only at HV
 obtain⟨T,hT⟩:∃T,ofL tt=T:=⟨_,rfl⟩
 have HE:=Lib.hid (show(T.toList==x.toList)=(tt==toL x) from by rw[ByteArray.toList_eq,ByteArray.toList_eq, ← hT];rfl)
 have HN:=Lib.hid (show Calls Tryz.prog 82 #[.pointer (some ⟨b,0,none⟩)] w fun e w'=>e=.returned (.agg #[.int .i64 (tk:Int),.string T,.int .i64 (tn:Int),.int .i64 (tc:Int)])/\Below w.heap.size w w' from by rw[<-hT];exact HN.out)
 clear hT
 have hcs:((tk:Int)==1)=true\/((tk:Int)==1)=false/\((tk:Int)==4)=true\/((tk:Int)==1)=false/\((tk:Int)==4)=false:=by
  cases ((tk:Int)==1)<;>cases ((tk:Int)==4)<;>simp
 have HK:=Lib.hid (show((tk:Int)==1)=(tk==1)/\((tk:Int)==4)=(tk==4) from⟨knd tk 1,knd tk 4⟩)
 generalize (tt==toL x)=q at *
 go_enter Tryz.func109,Tryz.ntmps109
 rcases hcs with e1|⟨e1,e4⟩|⟨e1,e4⟩
 ·have HR:=Lib.hid (show R=q from by rw[HV.out, ← HK.out.1,e1];simp)
  go_wp2_with ((go_at_call 82;(with_reducible refine HN.out.mono ?_);rintro e w2 ⟨rfl,hb2⟩;have HB2:=Lib.hid (hb2.alloc hb2.size (.cells #[.int .i64 (tk:Int),.string T,.int .i64 (tn:Int),.int .i64 (tc:Int)] 118));clear hb2))
  go_ret
  exact⟨by rw[HR.out, ← HE.out];rfl,HB2.out⟩
 ·have HR:=Lib.hid (show R=q from by rw[HV.out, ← HK.out.1, ← HK.out.2,e1,e4];simp)
  go_wp2_with ((go_at_call 82;(with_reducible refine HN.out.mono ?_);rintro e w2 ⟨rfl,hb2⟩;have HB2:=Lib.hid (hb2.alloc hb2.size (.cells #[.int .i64 (tk:Int),.string T,.int .i64 (tn:Int),.int .i64 (tc:Int)] 118));clear hb2))
  go_ret
  exact⟨by rw[HR.out, ← HE.out];rfl,HB2.out⟩
 ·have HR:=Lib.hid (show R=false from by rw[HV.out, ← HK.out.1, ← HK.out.2,e1,e4];simp)
  go_wp2_with ((go_at_call 82;(with_reducible refine HN.out.mono ?_);rintro e w2 ⟨rfl,hb2⟩;have HB2:=Lib.hid (hb2.alloc hb2.size (.cells #[.int .i64 (tk:Int),.string T,.int .i64 (tn:Int),.int .i64 (tc:Int)] 118));clear hb2))
  go_ret
  exact⟨by rw[HR.out];rfl,HB2.out⟩
theorem fld_tok0(a b c d:Value)(w:World):(Instr.field 118 (.agg #[a,b,c,d]) 0).run Tryz.prog w=.ok a w:=by kernel_rfl
theorem fld_tok1(a b c d:Value)(w:World):(Instr.field 118 (.agg #[a,b,c,d]) 1).run Tryz.prog w=.ok b w:=by kernel_rfl
theorem fld_tok3(a b c d:Value)(w:World):(Instr.field 118 (.agg #[a,b,c,d]) 3).run Tryz.prog w=.ok d w:=by kernel_rfl
attribute [local go_sem ↓] fld_tok0 fld_tok1 fld_tok3
set_option maxHeartbeats 4000000 in
set_option maxRecDepth 100000 in
theorem sc_wrong{w:World}{b:Nat}{A:Option Addr}{cap k:Nat}{all:List Tok}(h:PkS w b A cap all k):Calls Tryz.prog 83 #[.pointer (some ⟨b,0,none⟩)] w fun e w'=>e=failE (colT (all.drop k),29)/\Below w.heap.size w w':=by
 have HN:=Lib.hid (sc_now h)
 have HV:=Lib.hid (show colT (all.drop k)=(all[k]'h.lt).col from by rw[drop_tok h.lt];rfl)
 rw[HV.out]
 have hlt:=h.lt
 clear HV
 generalize all[k]=t at *
 clear h
 obtain⟨tk,tt,tn,tc⟩:=t
 obtain⟨T,hT⟩:∃T,ofL tt=T:=⟨_,rfl⟩
 have HN:=Lib.hid (show Calls Tryz.prog 82 #[.pointer (some ⟨b,0,none⟩)] w fun e w'=>e=.returned (.agg #[.int .i64 (tk:Int),.string T,.int .i64 (tn:Int),.int .i64 (tc:Int)])/\Below w.heap.size w w' from by rw[<-hT];exact HN.out)
 clear hT
 go_enter Tryz.func83,Tryz.ntmps83
 go_wp2_with ((go_at_call 82;(with_reducible refine HN.out.mono ?_);rintro e w2 ⟨rfl,hb2⟩;have HB2:=Lib.hid hb2;clear hb2))
 exact⟨rfl,rfl,HB2.out⟩
theorem isT_kind{x:Bs}{all:List Tok}{k:Nat}(h:isT x (all.drop k)=true)(hk:k<all.length):all[k].kind=1\/all[k].kind=4:=by
 rw[drop_tok hk]at h
 simp only[isT,Bool.and_eq_true,Bool.or_eq_true,beq_iff_eq]at h
 exact h.1
theorem TksOk.next{all:List Tok}(h:TksOk all){k:Nat}(hk:k<all.length)(h0:all[k].kind≠0):k+1<all.length:=by
 have:=(h.fin k hk)
 have:¬ k+1=all.length:=fun e=>h0 (this.2 e)
 omega
structure SkPost(n b:Nat)(A:Option Addr)(cap:Nat)(all:List Tok)(k:Nat)(q:Bool)(w:World)(e:Ending)(w':World):Prop where
 ret:e=.returned (.bool q)
 fr:Fr n (fun k=>k=b) w w'
 pk:PkS w' b A cap all (if q then k+1 else k)
set_option maxHeartbeats 4000000 in
set_option maxRecDepth 100000 in
theorem sc_skip{n:Nat}{w:World}{b:Nat}{A:Option Addr}{cap k:Nat}{all:List Tok}(h:PkS w b A cap all k)(hn:n<=w.heap.size)(hnb:n<=b)(x:ByteArray):Calls Tryz.prog 80 #[.pointer (some ⟨b,0,none⟩),.string x] w (SkPost n b A cap all k (isT (toL x) (all.drop k)) w):=by
 have HP:=Lib.hid h
 have HIS:=Lib.hid (sc_is h x)
 have HK:=Lib.hid (fun hi=>h.ok.next h.lt (show(all[k]'h.lt).kind≠0 from by rcases isT_kind (x:=toL x) hi h.lt with e|e<;>omega))
 have hlt:=h.lt
 have hfew:=h.ok.few
 clear h
 generalize isT (toL x) (all.drop k)=q at *
 go_enter Tryz.func80,Tryz.ntmps80
 cases q
 ·go_wp2_with ((go_at_call 109;(with_reducible refine HIS.out.mono ?_);rintro e w2 ⟨rfl,hb2⟩;have HB2:=Lib.hid hb2;clear hb2))
  go_ret
  exact⟨rfl,Fr.of HB2.out hn,HP.out.below HB2.out⟩
 ·have hk1:=HK.out rfl
  have x1:IntKind.i64.wrap ((k:Int)+1)=((k+1:Nat):Int):=by rw[IntWalk.i64_in _ (by omega)];simp
  go_wp2_with ((go_at_call 109;(with_reducible refine HIS.out.mono ?_);rintro e w2 ⟨rfl,hb2⟩;have HP2:=Lib.hid (HP.out.below hb2);have HB2:=Lib.hid hb2;obtain⟨_,k1,f1,hbw⟩:=HP2.out.cells;clear hb2))
  go_ret
  have hp:=HP2.out.set hk1
  rw[Int.natCast_add]at hp
  exact⟨rfl,(Fr.of HB2.out hn).set _ hnb (.inl rfl),hp⟩
set_option maxHeartbeats 4000000 in
set_option maxRecDepth 100000 in
theorem sc_index{w:World}{b:Nat}{A:Option Addr}{cap k:Nat}{all:List Tok}(h:PkS w b A cap all k)(B:Option Addr)(l:List Bs)(c:Nat)(hr:Row w B (strsL l))(hl:l.length<=1000)(hls:∀x∈l,x.length<=1000) :
  Calls Tryz.prog 126 #[.slice B l.length c,.func (.func 109) #[.pointer (some ⟨b,0,none⟩)] #[]] w fun e w'=>(∃i:Int,e=.returned (.int .i64 i)/\(decide (0<=i)=l.any (fun x=>isT x (all.drop k))))/\Below w.heap.size w w':=by
 have he:=Tryz.call109
 have HP:=Lib.hid h
 have HR:=Lib.hid hr
 have HLS:=Lib.hid hls
 obtain⟨R,hR⟩:∃R,l.any (fun x=>isT x (all.drop k))=R:=⟨_,rfl⟩
 rw[hR]
 have HRR:=Lib.hid hR
 clear h hr hR hls
 go_enter Tryz.func126,Tryz.ntmps126
 go_wp2_with fail
 go_loopw [5,8] (fun _ v wr=>∃i:Nat,i<=l.length/\v=.int .i64 (i:Int)/\Below w.heap.size w wr/\(l.drop i).any (fun x=>isT x (all.drop k))=R) (fun _ v _=>l.length-(intOf v).toNat)
 case atStart=>exact⟨0,by omega,rfl,Below.refl _ _,HRR.out⟩
 case round =>
  obtain⟨i,hi,rfl,hb,ha⟩:=hrel
  have HB:=Lib.hid hb
  have HA:=Lib.hid ha
  have hz:=hb.size
  clear hb ha HRR
  have i0:(0:Int)<=(i:Int):=by omega
  by_cases hlt:i<l.length
  ·have i1:(i:Int)<(l.length:Int):=by omega
   obtain⟨bb,off,rfl,hbb,hc⟩:=(HR.out.below HB.out).at (k:=i) (by rw[strsL,List.length_map];exact hlt)
   have c0:=hc i (.string (ofL (l[i]'hlt))) (by rw[strsL,List.getElem?_map,List.getElem?_eq_getElem hlt];rfl)
   have HD:=Lib.hid (show l.drop i=(l[i]'hlt)::l.drop (i+1) from List.drop_eq_getElem_cons hlt)
   have hxs:=HLS.out (l[i]'hlt) (List.getElem_mem hlt)
   have HIS:=Lib.hid (sc_is (HP.out.below HB.out) (ofL (l[i]'hlt)))
   rw[toL_ofL]at HIS
   rw[HD.out,List.any_cons]at HA
   generalize (l[i]'hlt)=y at *
   clear hc
   rcases hq:isT y (all.drop k) with _|_
   ·rw[hq]at HIS HA
    rw[Bool.false_or]at HA
    clear hq HD
    go_wp2_with ((go_at_call 109;(with_reducible refine HIS.out.mono ?_);rintro e w2 ⟨rfl,hb2⟩;have HB2:=Lib.hid hb2;clear hb2))
    go_roundw
    case rel=>exact⟨i+1,by omega,by go_num,HB.out.trans (HB2.out.mono hz),HA.out⟩
    case measure=>simp[intOf]<;>omega
   ·rw[hq]at HIS HA
    rw[Bool.true_or]at HA
    clear hq HD
    have HAR:=Lib.hid HA.out
    clear HA
    go_wp2_with ((go_at_call 109;(with_reducible refine HIS.out.mono ?_);rintro e w2 ⟨rfl,hb2⟩;have HB2:=Lib.hid hb2;clear hb2))
    go_ret
    exact⟨⟨(i:Int),rfl,by rw[<-HAR.out];exact decide_eq_true (by omega)⟩,HB.out.trans (HB2.out.mono hz)⟩
  ·have i1:(l.length:Int)<=(i:Int):=by omega
   have HF:=Lib.hid (show R=false from by rw[<-HA.out,List.drop_eq_nil_of_le (by omega)];rfl)
   go_wp2_with fail
   go_ret
   exact⟨⟨-1,rfl,by rw[HF.out];rfl⟩,HB.out⟩
set_option maxHeartbeats 4000000 in
set_option maxRecDepth 100000 in
theorem sc_contains{w:World}{b:Nat}{A:Option Addr}{cap k:Nat}{all:List Tok}(h:PkS w b A cap all k)(B:Option Addr)(l:List Bs)(c:Nat)(hr:Row w B (strsL l))(hl:l.length<=1000)(hls:∀x∈l,x.length<=1000) :
  Calls Tryz.prog 108 #[.slice B l.length c,.func (.func 109) #[.pointer (some ⟨b,0,none⟩)] #[]] w fun e w'=>e=.returned (.bool (l.any (fun x=>isT x (all.drop k))))/\Below w.heap.size w w':=by
 have HX:=Lib.hid (sc_index h B l c hr hl hls)
 obtain⟨R,hR⟩:∃R,l.any (fun x=>isT x (all.drop k))=R:=⟨_,rfl⟩
 rw[hR]at HX⊢
 clear h hr hR hls
 go_enter Tryz.func108,Tryz.ntmps108
 go_wp2_with ((go_at_call 126;(with_reducible refine HX.out.mono ?_);rintro e w2 ⟨⟨i,rfl,hi⟩,hb2⟩;have HI:=Lib.hid hi;have HB2:=Lib.hid hb2;clear hb2 hi))
 go_ret
 exact⟨ret_bool (by rw[<-HI.out]),HB2.out⟩
def strP(a:Bs)(v:Value)(_:World):Prop:=v=.string (ofL a)
def natP(a:Nat)(v:Value)(_:World):Prop:=v=.int .i64 (a:Int)
theorem PkS.two{w:World}{b:Nat}{A:Option Addr}{cap k:Nat}{all:List Tok}(h:PkS w b A cap all (k+1)):∃bb off,A=some ⟨bb,off,none⟩/\bb<w.heap.size/\w.cell? ⟨bb,off+k*4+1,none⟩=some (.string (ofL (all[k]'(by have:=h.lt;omega)).text)):=by
 have hk:k<all.length:=by have:=h.lt;omega
 rcases h.row with h0|⟨bb,o,e,hlt,hc⟩
 ·have:=toksV_length all
  rw[h0]at this;have:=h.ok.pos;simp at *;omega
 ·exact⟨bb,o,e,hlt,by rw[Nat.add_assoc];exact hc (k*4+1) _ (by rw[toksV_get all k hk 1 (by omega)];rfl)⟩
set_option maxHeartbeats 4000000 in
set_option maxRecDepth 100000 in
theorem sc_oneOf{n:Nat}{w:World}{b:Nat}{A:Option Addr}{cap k:Nat}{all:List Tok}(h:PkS w b A cap all k)(hn:n<=w.heap.size)(hnb:n<=b)(B:Option Addr)(l:List Bs)(N:Nat)(hN:l.length=N)(c:Nat)(hr:Row w B (strsL l))(hl:l.length<=1000)(hls:∀x∈l,x.length<=1000) :
  Calls Tryz.prog 78 #[.pointer (some ⟨b,0,none⟩),.slice B N c] w (PrPost strP n b A cap all (oneF l (all.drop k)) w):=by
 subst hN
 have HP:=Lib.hid h
 have HCN:=Lib.hid (sc_contains h B l c hr hl hls)
 have hlt:=h.lt
 have hfew:=h.ok.few
 have HO:=Lib.hid (show oneF l (all.drop k)=if l.any (fun x=>isT x (all.drop k)) then .ok ((all[k]'hlt).text,all.drop (k+1)) else .error ((all[k]'hlt).col,29) from by rw[drop_tok hlt];rfl)
 have HK:=Lib.hid (fun (hi:l.any (fun x=>isT x (all.drop k))=true)=>h.ok.next hlt (show(all[k]'hlt).kind≠0 from by
  obtain⟨x,_,hx⟩:=List.any_eq_true.1 hi
  rcases isT_kind hx hlt with e|e<;>omega))
 have HCL:=Lib.hid (show colT (all.drop k)=(all[k]'hlt).col from by rw[drop_tok hlt];rfl)
 clear h hr hls
 obtain⟨X,hX⟩:∃X,oneF l (all.drop k)=X:=⟨_,rfl⟩
 rw[hX]at HO⊢
 clear hX
 rcases hq:l.any (fun x=>isT x (all.drop k)) with _|_
 ·rw[hq]at HCN HO
  have HW:=Lib.hid (fun wx (hb:Below w.heap.size w wx)=>sc_wrong (HP.out.below hb))
  rw[HCL.out]at HW
  have HO2:=Lib.hid (show X=.error ((all[k]'hlt).col,29) from HO.out)
  clear hq HK HO
  generalize (all[k]'hlt).col=cl at *
  go_enter Tryz.func78,Tryz.ntmps78
  go_wp2_with (first
   | (go_at_call 108;(with_reducible refine HCN.out.mono ?_);rintro e w2 ⟨rfl,hb2⟩;have HB2:=Lib.hid hb2;clear hb2)
   | (go_at_call 83;(with_reducible refine(HW.out _ HB2.out).mono ?_);rintro e w3 ⟨rfl,hb3⟩;have HB3:=Lib.hid (HB2.out.trans (hb3.mono HB2.out.size));clear hb3))
  exact⟨rfl,PrPost.err HO2.out (Fr.of HB3.out hn) rfl⟩
 ·rw[hq]at HCN HO
  have hk1:=HK.out hq
  have HO2:=Lib.hid (show X=.ok ((all[k]'hlt).text,all.drop (k+1)) from HO.out)
  clear hq HK HO HCL
  have x1:IntKind.i64.wrap ((k:Int)+1)=((k:Int)+1):=IntWalk.i64_in _ (by omega)
  have x2:IntKind.i64.wrap ((k:Int)+1-1)=(k:Int):=by rw[IntWalk.i64_in _ (by omega)];omega
  go_enter Tryz.func78,Tryz.ntmps78
  go_upto_region 4 with((go_at_call 108;(with_reducible refine HCN.out.mono ?_);rintro e w2 ⟨rfl,hb2⟩;have HP2:=Lib.hid (HP.out.below hb2);have HB2:=Lib.hid hb2;obtain⟨k0,k1,f1,hbw⟩:=HP2.out.cells;clear hb2))
  have hp:=HP2.out.set hk1
  rw[Int.natCast_add]at hp
  have HP3:=Lib.hid (show PkS (w2.setCell ⟨b,1,none⟩ (.int .i64 ((k:Int)+1))) b A cap all (k+1) from hp)
  have HF3:=Lib.hid ((Fr.of (S:=fun k=>k=b) HB2.out hn).set (i:=1) (.int .i64 ((k:Int)+1)) hnb (.inl rfl))
  clear hp k0 k1 f1 HP2
  generalize w2.setCell ⟨b,1,none⟩ (.int .i64 ((k:Int)+1))=W3 at *
  obtain⟨k0,k1',_,hbw⟩:=HP3.out.cells
  have k1:W3.cell? ⟨b,1,none⟩=some (.int .i64 ((k:Int)+1)):=k1'
  clear k1'
  obtain⟨bb,off,rfl,hbb,c1⟩:=HP3.out.two
  have i0:(0:Int)<=(k:Int):=by omega
  have i1:(k:Int)<(all.length:Int):=by omega
  generalize (all[k]'hlt).text=tx at *
  go_quiet (fail)
  go_wp2_with fail
  go_ret
  have hbd:=below_drewN (Below.refl W3.heap.size W3) nq
  exact PrPost.yes HO2.out (HF3.out.below hbd hn) rfl (HP3.out.below hbd)
theorem numF_at{all:List Tok}{k:Nat}(h:k<all.length)(most:Nat):numF most (all.drop k)=if all[k].kind≠2 then .error (all[k].col,29) else if most<all[k].num then .error (all[k].col,2) else .ok (all[k].num,all.drop (k+1)):=by rw[drop_tok h];rfl
theorem quoF_at{all:List Tok}{k:Nat}(h:k<all.length):quoF (all.drop k)=if all[k].kind≠3 then .error (all[k].col,29) else .ok (all[k],all.drop (k+1)):=by rw[drop_tok h];rfl
theorem now_at{w:World}{b:Nat}{A:Option Addr}{cap k:Nat}{all:List Tok}(h:PkS w b A cap all k){tk tn tc:Nat}{tt:Bs}{T:ByteArray}(ht:all[k]'h.lt=⟨tk,tt,tn,tc⟩)(hT:ofL tt=T):Calls Tryz.prog 82 #[.pointer (some ⟨b,0,none⟩)] w fun e w'=>e=.returned (.agg #[.int .i64 (tk:Int),.string T,.int .i64 (tn:Int),.int .i64 (tc:Int)])/\Below w.heap.size w w':=by
 have:=sc_now h
 rw[ht]at this
 subst hT
 exact this
theorem wrong_at{w:World}{b:Nat}{A:Option Addr}{cap k:Nat}{all:List Tok}(h:PkS w b A cap all k){c:Nat}(hc:(all[k]'h.lt).col=c):Calls Tryz.prog 83 #[.pointer (some ⟨b,0,none⟩)] w fun e w'=>e=failE (c,29)/\Below w.heap.size w w':=by
 have:=sc_wrong h
 rwa [show colT (all.drop k)=c from by rw[drop_tok h.lt];exact hc]at this
theorem tok_num{all:List Tok}(h:TksOk all){k:Nat}(hk:k<all.length){tk tn tc:Nat}{tt:Bs}(ht:all[k]=⟨tk,tt,tn,tc⟩):tn<=2147483647/\tc<=1000000/\(tk≠0->k+1<all.length):=by
 have h1:=h.col k hk
 rw[ht]at h1
 refine⟨h1.2.1,h1.1,fun h0=>h.next hk (by rw[ht];exact h0)⟩
set_option maxHeartbeats 4000000 in
set_option maxRecDepth 100000 in
theorem sc_number{n:Nat}{w:World}{b:Nat}{A:Option Addr}{cap k:Nat}{all:List Tok}(h:PkS w b A cap all k)(hn:n<=w.heap.size)(hnb:n<=b)(most:Nat)(mi:Int)(hmi:mi=(most:Int))(hm:most<=2147483647) :
  Calls Tryz.prog 79 #[.pointer (some ⟨b,0,none⟩),.int .i64 mi] w (PrPost natP n b A cap all (numF most (all.drop k)) w):=by
 subst hmi
 have HP:=Lib.hid h
 have hlt:=h.lt
 have hfew:=h.ok.few
 have HOK:=Lib.hid h.ok
 obtain⟨t,ht⟩:∃t,all[k]=t:=⟨_,rfl⟩
 obtain⟨X,hX⟩:∃X,numF most (all.drop k)=X:=⟨_,rfl⟩
 have hV:=numF_at hlt most
 rw[hX,ht]at hV
 rw[hX]
 have HV:=Lib.hid hV
 obtain⟨tk,tt,tn,tc⟩:=t
 simp only at HV
 obtain⟨T,hT⟩:∃T,ofL tt=T:=⟨_,rfl⟩
 obtain⟨hn1,hc1,hk1⟩:=tok_num HOK.out hlt ht
 have HN:=Lib.hid (now_at h ht hT)
 have HW:=Lib.hid (fun wx (hb:Below w.heap.size w wx)=>wrong_at (HP.out.below hb) (show(all[k]'hlt).col=tc from by rw[ht]))
 clear h hV hX ht hT
 by_cases h2:tk=2
 ·have e2:((tk:Int) != 2)=false:=by simp;omega
  have hk2:=hk1 (by omega)
  by_cases hm2:most<tn
  ·have m1:(most:Int)<(tn:Int):=by omega
   have HV2:=Lib.hid (show X=.error (tc,2) from by rw[HV.out,if_neg (by simp[h2]),if_pos hm2])
   clear h2 hm2 hk1
   go_enter Tryz.func79,Tryz.ntmps79
   go_wp2_with ((go_at_call 82;(with_reducible refine HN.out.mono ?_);rintro e w2 ⟨rfl,hb2⟩;have HB2:=Lib.hid (hb2.alloc hb2.size (.cells #[.int .i64 (tk:Int),.string T,.int .i64 (tn:Int),.int .i64 (tc:Int)] 118));clear hb2))
   exact⟨rfl,PrPost.err HV2.out (Fr.of HB2.out hn) rfl⟩
  ·have m1:(tn:Int)<=(most:Int):=by omega
   have HV2:=Lib.hid (show X=.ok (tn,all.drop (k+1)) from by rw[HV.out,if_neg (by simp[h2]),if_neg hm2])
   clear h2 hm2 hk1
   have x1:IntKind.i64.wrap ((k:Int)+1)=((k:Int)+1):=IntWalk.i64_in _ (by omega)
   go_enter Tryz.func79,Tryz.ntmps79
   go_wp2_with ((go_at_call 82;(with_reducible refine HN.out.mono ?_);rintro e w2 ⟨rfl,hb2⟩;have hb2a:=hb2.alloc hb2.size (.cells #[.int .i64 (tk:Int),.string T,.int .i64 (tn:Int),.int .i64 (tc:Int)] 118);have HP2:=Lib.hid (HP.out.below hb2);have HB2:=Lib.hid hb2;obtain⟨k0,k1,f1,hbw⟩:=HP2.out.cells;clear hb2 hb2a))
   go_ret
   have hp:=HP2.out.set hk2
   rw[Int.natCast_add]at hp
   exact PrPost.yes HV2.out (((Fr.of (S:=fun k=>k=b) HB2.out hn).set _ hnb (.inl rfl)).below (alloc_bel _ _) hn) rfl (PkS.below hp (alloc_bel _ _))
 ·have e2:((tk:Int) != 2)=true:=by simp;omega
  have HV2:=Lib.hid (show X=.error (tc,29) from by rw[HV.out,if_pos h2])
  clear h2 hk1
  go_enter Tryz.func79,Tryz.ntmps79
  go_wp2_with (first
   | (go_at_call 82;(with_reducible refine HN.out.mono ?_);rintro e w2 ⟨rfl,hb2⟩;have HB2:=Lib.hid (hb2.alloc hb2.size (.cells #[.int .i64 (tk:Int),.string T,.int .i64 (tn:Int),.int .i64 (tc:Int)] 118));clear hb2)
   | (go_at_call 83;(with_reducible refine(HW.out _ HB2.out).mono ?_);rintro e w3 ⟨rfl,hb3⟩;have HB3:=Lib.hid (HB2.out.trans (hb3.mono HB2.out.size));clear hb3))
  exact⟨rfl,PrPost.err HV2.out (Fr.of HB3.out hn) rfl⟩
def tokP(a:Tok)(v:Value)(_:World):Prop:=v=tokV a
theorem quo_ret{Q:Ending->World->Prop}{W:World}{r:Nat}{t:Tok}{T:Array Value}(hb:W.heap[r]?=some (.cells (tokC t) 118 (0,0)))
  (hT2:T[2]?=some (.pointer (some ⟨r,0,none⟩))) (hQ:Q (.returned (tokV t)) W) :
  bodyPost Tryz.prog Tryz.f155 Q .ret { tmps:=T,defers := [] } W:=by
 obtain⟨c0,c1,c2,c3⟩:=tokBox_cells hb
 refine bodyPost_ret (v:=tokV t) ?_ rfl hQ
 simp[results,Tryz.f155,go_sem,hT2,c0,c1,c2,c3]
set_option maxHeartbeats 4000000 in
set_option maxRecDepth 100000 in
theorem sc_quoted {n : Nat} {w : World} {b : Nat} {A : Option Addr} {cap k : Nat} {all : List Tok} (h : PkS w b A cap all k) (hn : n ≤ w.heap.size) (hnb : n ≤ b) :
    Calls Tryz.prog 155 #[.pointer (some ⟨b, 0, none⟩)] w (PrPost tokP n b A cap all (quoF (all.drop k)) w) := by
  have HB0 := Lib.hid (alloc_bel w (.cells #[.int .i64 0, .string ⟨#[]⟩, .int .i64 0, .int .i64 0] 118))
  have HP := Lib.hid (h.below HB0.out)
  have HTB := Lib.hid (heap_alloc_new w (.cells #[.int .i64 0, .string ⟨#[]⟩, .int .i64 0, .int .i64 0] 118))
  have hz1 : (w.alloc (.cells #[.int .i64 0, .string ⟨#[]⟩, .int .i64 0, .int .i64 0] 118)).heap.size = w.heap.size + 1 := by simp
  have hbr0 := h.cells.2.2.2
  have hbr : b ≠ w.heap.size := by omega
  have hlt := h.lt
  have hfew := h.ok.few
  have HOK := Lib.hid h.ok
  obtain ⟨t, ht⟩ : ∃ t, all[k] = t := ⟨_, rfl⟩
  obtain ⟨X, hX⟩ : ∃ X, quoF (all.drop k) = X := ⟨_, rfl⟩
  have hV := quoF_at hlt
  rw [hX, ht] at hV
  rw [hX]
  have HV := Lib.hid hV
  obtain ⟨tk, tt, tn, tc⟩ := t
  simp only at HV
  obtain ⟨T, hT⟩ : ∃ T, ofL tt = T := ⟨_, rfl⟩
  obtain ⟨hn1, hc1, hk1⟩ := tok_num HOK.out hlt ht
  have HN := Lib.hid (now_at HP.out ht hT)
  have HTV := Lib.hid (show tokC ⟨tk, tt, tn, tc⟩ = #[.int .i64 (tk : Int), .string T, .int .i64 (tn : Int), .int .i64 (tc : Int)] from by rw [← hT])
  have HW := Lib.hid (fun wx (hb : Below (w.alloc (.cells #[.int .i64 0, .string ⟨#[]⟩, .int .i64 0, .int .i64 0] 118)).heap.size (w.alloc (.cells #[.int .i64 0, .string ⟨#[]⟩, .int .i64 0, .int .i64 0] 118)) wx) => wrong_at (HP.out.below hb) (show (all[k]'hlt).col = tc from by rw [ht]))
  clear h hV hX ht hT
  by_cases h2 : tk = 3
  · have e2 : ((tk : Int) != 3) = false := by simp; omega
    have hk2 := hk1 (by omega)
    have HV2 := Lib.hid (show X = .ok (⟨tk, tt, tn, tc⟩, all.drop (k + 1)) from by rw [HV.out, if_neg (by simp [h2])])
    clear h2 hk1
    have x1 : IntKind.i64.wrap ((k : Int) + 1) = ((k : Int) + 1) := IntWalk.i64_in _ (by omega)
    go_enter Tryz.func155, Tryz.ntmps155
    go_wp2_with ((go_at_call 82; (with_reducible refine HN.out.mono ?_); rintro e w2 ⟨rfl, hb2⟩; have HP2 := Lib.hid (HP.out.below hb2); have HB2 := Lib.hid hb2; have HT2 := Lib.hid ((hb2.block w.heap.size (by omega)).trans HTB.out); have hz2 := hb2.size; obtain ⟨k0, k1, f1, hbw⟩ := HP2.out.cells; obtain ⟨d0, d1, d2, d3⟩ := tokBox_cells HT2.out; have g0 := Lib.frozen_of_heap HT2.out 0; have g1 := Lib.frozen_of_heap HT2.out 1; have g2 := Lib.frozen_of_heap HT2.out 2; have g3 := Lib.frozen_of_heap HT2.out 3; have hrw : w.heap.size < w2.heap.size := (by omega); clear hb2))
    have hp := HP2.out.set hk2
    rw [Int.natCast_add] at hp
    have hr2 : (w2.setCell ⟨b, 1, none⟩ (.int .i64 ((k : Int) + 1))).heap[w.heap.size]? = some (.cells #[.int .i64 0, .string ⟨#[]⟩, .int .i64 0, .int .i64 0] 118 (0, 0)) := (heap_set_ne _ (fun e => hbr e.symm)).trans HT2.out
    have hf := ((Fr.of (S := fun k => k = b) (HB0.out.trans (HB2.out.mono HB0.out.size)) hn).set (i := 1) (.int .i64 ((k : Int) + 1)) hnb (.inl rfl))
    have hbx := box4_set (x0 := .int .i64 (tk : Int)) (x1 := .string T) (x2 := .int .i64 (tn : Int)) (x3 := .int .i64 (tc : Int)) hr2
    have hf4 := (((hf.set (i := 0) (.int .i64 (tk : Int)) hn (.inr (Nat.le_refl _))).set (i := 1) (.string T) hn (.inr (Nat.le_refl _))).set (i := 2) (.int .i64 (tn : Int)) hn (.inr (Nat.le_refl _))).set (i := 3) (.int .i64 (tc : Int)) hn (.inr (Nat.le_refl _))
    have hp4 := hp.keep (w' := ((((w2.setCell ⟨b, 1, none⟩ (.int .i64 ((k : Int) + 1))).setCell ⟨w.heap.size, 0, none⟩ (.int .i64 (tk : Int))).setCell ⟨w.heap.size, 1, none⟩ (.string T)).setCell ⟨w.heap.size, 2, none⟩ (.int .i64 (tn : Int))).setCell ⟨w.heap.size, 3, none⟩ (.int .i64 (tc : Int)))
      (fun j hj => by
        have hne : j ≠ w.heap.size := by omega
        rw [heap_set_ne _ hne, heap_set_ne _ hne, heap_set_ne _ hne, heap_set_ne _ hne]; rfl) (by simp)
    rw [← HTV.out] at hbx
    refine quo_ret (r := w.heap.size) (t := ⟨tk, tt, tn, tc⟩) ((Lib.alloc_old _ _ _ (by simp; omega)).trans hbx) rfl (PrPost.yes HV2.out (hf4.below (alloc_bel _ _) hn) rfl (PkS.below hp4 (alloc_bel _ _)))
  · have e2 : ((tk : Int) != 3) = true := by simp; omega
    have HV2 := Lib.hid (show X = .error (tc, 29) from by rw [HV.out, if_pos h2])
    clear h2 hk1
    go_enter Tryz.func155, Tryz.ntmps155
    go_wp2_with (first
      | (go_at_call 82; (with_reducible refine HN.out.mono ?_); rintro e w2 ⟨rfl, hb2⟩; have HB2 := Lib.hid (hb2.alloc hb2.size (.cells #[.int .i64 (tk : Int), .string T, .int .i64 (tn : Int), .int .i64 (tc : Int)] 118)); clear hb2)
      | (go_at_call 83; (with_reducible refine (HW.out _ HB2.out).mono ?_); rintro e w3 ⟨rfl, hb3⟩; have HB3 := Lib.hid (HB2.out.trans (hb3.mono HB2.out.size)); clear hb3))
    exact ⟨rfl, PrPost.err HV2.out (Fr.of (HB0.out.trans (HB3.out.mono HB0.out.size)) hn) rfl⟩
theorem tok_ok{L:Bs}{col:Nat}{x:Tok × Nat}(h:tokT L col=.ok x):x.1.kind≠0/\x.1.kind<=4/\x.1.num<=2147483647/\x.1.col=col/\x.1.text.length<=L.length+200:=by
 cases L with
 | nil=>cases h
 | cons c r =>
  unfold tokT at h
  simp only at h
  split at h
  ·injection h with h;subst h
   have:=(List.takeWhile_prefix (l:=c::r) lowS).length_le
   exact⟨by simp,by simp,by simp,rfl,by simp only;omega⟩
  ·split at h
   ·split at h
    ·cases h
    ·rename_i hn
     injection h with h;subst h
     refine⟨by simp,by simp,?_,rfl,by simp⟩
     simp only[ne_eq,Decidable.not_not]at hn⊢
     unfold numM at hn⊢
     split
     ·simp
     ·rename_i h1
      rw[if_neg h1]at hn
      split
      ·simp
      ·simp only;omega
   ·split at h
    ·unfold strT at h
     split at h
     ·cases h
     ·simp only at h
      split at h
      ·cases h
      ·split at h
       ·cases h
       ·split at h
        ·cases h
        ·rename_i h1 h2
         injection h with h;subst h
         exact⟨by simp,by simp,by simp,rfl,by simp only;omega⟩
    ·unfold symT at h
     split at h
     ·rename_i s hs
      injection h with h;subst h
      have hm:s∈syms:=List.mem_of_find?_eq_some hs
      have:s.length<=2:=by
       have h2:∀y∈syms,y.length<=2:=by decide
       exact h2 s hm
      exact⟨by simp,by simp,by simp,rfl,by simp only;omega⟩
     ·cases h
theorem toksG_ok:∀(g:Nat) (rest:Bs) (i N:Nat) (l:List Tok),i+rest.length<=N->toksG g rest i=.ok l →
  0<l.length/\l.length<=g+1/\(∀(j:Nat) (h:j<l.length),l[j].kind=0↔j+1=l.length)/\∀(j:Nat) (h:j<l.length),l[j].col<=N+1/\l[j].num<=2147483647/\l[j].kind<=4/\l[j].text.length<=N+200
 | 0,rest,i,N,l,hN,h=>by
  unfold toksG at h
  injection h with h;subst h
  exact⟨by simp,by simp,fun j hj=>by simp at hj;subst hj;simp,fun j hj=>by simp at hj;subst hj;simp;omega⟩
 | g+1, [],i,N,l,hN,h=>by
  unfold toksG at h
  injection h with h;subst h
  exact⟨by simp,by simp,fun j hj=>by simp at hj;subst hj;simp,fun j hj=>by simp at hj;subst hj;simp;simp at hN;omega⟩
 | g+1,c::r,i,N,l,hN,h=>by
  unfold toksG at h
  simp only at h
  simp only[List.length_cons]at hN
  split at h
  ·obtain⟨h1,h2,h3,h4⟩:=toksG_ok g r (i+1) N l (by omega) h
   exact⟨h1,by omega,h3,h4⟩
  ·split at h
   ·cases h
   ·rename_i t n ht
    split at h
    ·cases h
    ·rename_i l2 hl2
     injection h with h;subst h
     have hl:=tok_len ht
     have ho:=tok_ok ht
     simp only[List.length_cons]at hl ho
     obtain⟨h1,h2,h3,h4⟩:=toksG_ok g ((c::r).drop n) (i+n) N l2 (by rw[List.length_drop,List.length_cons];omega) hl2
     refine⟨by simp,by simp;omega,fun j hj=>?_,fun j hj=>?_⟩
     ·cases j with
      | zero=>simp only[List.getElem_cons_zero,List.length_cons];exact⟨fun e=>absurd e ho.1,fun e=>by omega⟩
      | succ j=>simp only[List.getElem_cons_succ,List.length_cons]at hj⊢;rw[h3 j (by omega)];omega
     ·cases j with
      | zero=>simp only[List.getElem_cons_zero];exact⟨by omega,ho.2.2.1,ho.2.1,by omega⟩
      | succ j=>simp only[List.getElem_cons_succ,List.length_cons]at hj⊢;exact h4 j (by omega)
theorem toksF_ok{L:Bs}{l:List Tok}(hL:L.length<=900000)(h:toksF L=.ok l):TksOk l:=by
 obtain⟨h1,h2,h3,h4⟩:=toksG_ok _ _ _ L.length l (by omega) h
 exact⟨h1,h3,by omega,fun j hj=>by have:=h4 j hj;omega⟩
def endR(En:Nat):Tok:=⟨0, [],0,En⟩
def allT(l:List RT)(En:Nat):List Tok:=l.map (·.1) ++ [endR En]
def seeT(l:List RT)(En k:Nat):RT:=if h:k<l.length then l[k] else (endR En, [])
theorem allT_length(l:List RT)(En:Nat):(allT l En).length=l.length+1:=by simp[allT]
theorem allT_drop{l:List RT}{En k:Nat}(h:k<=l.length):(allT l En).drop k=(seeT l En k).1::(allT l En).drop (k+1):=by
 have hk:k<(allT l En).length:=by rw[allT_length];omega
 have e:(allT l En)[k]?=some (seeT l En k).1:=by
  unfold seeT allT
  split
  ·rename_i h1
   rw[List.getElem?_append_left (by simpa using h1)];simp[h1]
  ·rename_i h1
   obtain rfl:k=l.length:=by omega
   rw[List.getElem?_append_right (by simp)];simp
 rw[List.getElem?_eq_getElem hk]at e
 injection e with e
 rw[List.drop_eq_getElem_cons hk,e]
structure RtGood(p:RT):Prop where
 ok:RtOk p.1 p.2
 kind:p.1.kind≠0/\p.1.kind<=4
 num:p.1.num<=2147483647
 col:p.1.col<=1000000
 len:p.1.kind≠2->p.2.length<=1000000
structure PkR(w:World)(b:Nat)(A:Option Addr)(cap:Nat)(l:List RT)(En k:Nat):Prop where
 box:w.heap[b]?=some (.cells #[.slice A l.length cap,.int .i64 (k:Int),.int .i64 (En:Int),.int .i64 0,.int .i64 0] 101 (0,0))
 row:Row w A (rtsV l)
 rb:∀bb o,A=some ⟨bb,o,none⟩->bb<b
 good:∀p∈l,RtGood p
 few:l.length<=1000000
 en:En<=1000001
 le:k<=l.length
section
variable {w w' : World} {b : Nat} {A : Option Addr} {cap k En : Nat} {l : List RT}
theorem PkR.below(h:PkR w b A cap l En k)(hb:Below w.heap.size w w'):PkR w' b A cap l En k:=⟨(hb.block _ (heap_lt h.box)).trans h.box,h.row.below hb,h.rb,h.good,h.few,h.en,h.le⟩
theorem PkR.cells(h:PkR w b A cap l En k):w.cell? ⟨b,0,none⟩=some (.slice A l.length cap)/\w.cell? ⟨b,1,none⟩=some (.int .i64 (k:Int))/\w.cell? ⟨b,2,none⟩=some (.int .i64 (En:Int))/\w.cell? ⟨b,3,none⟩=some (.int .i64 0)/\w.frozen? ⟨b,1,none⟩=false/\b<w.heap.size :=
 ⟨by rw[Lib.cell_of_heap h.box];rfl,by rw[Lib.cell_of_heap h.box];rfl,by rw[Lib.cell_of_heap h.box];rfl,by rw[Lib.cell_of_heap h.box];rfl,Lib.frozen_of_heap h.box 1,heap_lt h.box⟩
theorem row_setR{A:Option Addr}{xs:List Value}{b i:Nat}{v:Value}(h:Row w A xs)(hb:∀bb o,A=some ⟨bb,o,none⟩->bb≠b):Row (w.setCell ⟨b,i,none⟩ v) A xs:=by
 rcases h with h|⟨bb,o,e,hlt,hc⟩
 ·exact .inl h
 ·refine .inr ⟨bb,o,e,by rw[World.size_setCell];exact hlt,fun j u hu=>?_⟩
  rw[World.cell?_of_block (Below.heap_setCell _ _ _ _ (hb bb o e))];exact hc j u hu
theorem PkR.set(h:PkR w b A cap l En k){k':Nat}(hk:k'<=l.length):PkR (w.setCell ⟨b,1,none⟩ (.int .i64 (k':Int))) b A cap l En k' :=
 ⟨by rw[heap_set h.box];rfl,row_setR h.row (fun bb o e=>by have:=h.rb bb o e;omega),h.rb,h.good,h.few,h.en,hk⟩
theorem PkR.keep(h:PkR w b A cap l En k)(hk:∀j,j<=b->w'.heap[j]?=w.heap[j]?)(hz:w.heap.size<=w'.heap.size):PkR w' b A cap l En k:=by
 refine⟨(hk b (Nat.le_refl _)).trans h.box,?_,h.rb,h.good,h.few,h.en,h.le⟩
 rcases h.row with h0|⟨bb,o,e,hlt,hc⟩
 ·exact .inl h0
 ·refine .inr ⟨bb,o,e,Nat.lt_of_lt_of_le hlt hz,fun j u hu=>?_⟩
  rw[World.cell?_of_block (hk bb (Nat.le_of_lt (h.rb bb o e)))];exact hc j u hu
theorem PkR.drewN(h:PkR w b A cap l En k)(n:Nat):PkR (w.drewN n) b A cap l En k:=h.keep (fun _ _=>rfl) (Nat.le_refl _)
theorem rtsV_get(l:List RT)(k:Nat)(hk:k<l.length)(j:Nat)(hj:j<4):(rtsV l)[k*4+j]?=(rtC l[k].1 l[k].2)[j]?:=by
 induction l generalizing k with
 | nil=>simp at hk
 | cons t r ih =>
  cases k with
  | zero =>
   simp only[rtsV,List.flatMap_cons]
   rw[List.getElem?_append_left (by simp[rtC];omega)];simp
  | succ k =>
   have h:=ih k (by simpa using hk)
   simp only[rtsV,List.flatMap_cons]at h⊢
   rw[List.getElem?_append_right (by simp[rtC];omega)]
   simp only[List.getElem_cons_succ]
   rw[<-h];congr 1;simp[rtC];omega
theorem PkR.tok(h:PkR w b A cap l En k)(hk:k<l.length):∃bb off,A=some ⟨bb,off,none⟩/\bb<b/\bb<w.heap.size/\w.cell? ⟨bb,off+k*4,none⟩=some (.int .u8 (letK l[k].1.kind))/\w.cell? ⟨bb,off+k*4+1,none⟩=some (.string (ofL l[k].2)) ∧
  w.cell? ⟨bb,off+k*4+2,none⟩=some (.int .i64 (l[k].1.num:Int))/\w.cell? ⟨bb,off+k*4+3,none⟩=some (.int .i64 (l[k].1.col:Int)):=by
 rcases h.row with h0|⟨bb,o,e,hlt,hc⟩
 ·have:=rtsV_length l
  rw[h0]at this;simp at *;omega
 ·refine⟨bb,o,e,h.rb bb o e,hlt,?_,?_,?_,?_⟩
  ·exact hc (k*4+0) _ (by rw[rtsV_get l k hk 0 (by omega)];rfl)
  ·rw[Nat.add_assoc];exact hc (k*4+1) _ (by rw[rtsV_get l k hk 1 (by omega)];rfl)
  ·rw[Nat.add_assoc];exact hc (k*4+2) _ (by rw[rtsV_get l k hk 2 (by omega)];rfl)
  ·rw[Nat.add_assoc];exact hc (k*4+3) _ (by rw[rtsV_get l k hk 3 (by omega)];rfl)
end
theorem see_ret{Q:Ending->World->Prop}{W:World}{r:Nat}{a b c d:Value}{T:Array Value}(hb:W.heap[r]?=some (.cells #[a,b,c,d] 98 (0,0)))
  (hT2:T[2]?=some (.pointer (some ⟨r,0,none⟩))) (hQ:Q (.returned (.agg #[a,b,c,d])) W) :
  bodyPost Tryz.prog Tryz.f64 Q .ret { tmps:=T,defers := [] } W:=by
 obtain⟨c0,c1,c2,c3⟩:=tokBox_cells hb
 refine bodyPost_ret (v:=.agg #[a,b,c,d]) ?_ rfl hQ
 simp[results,Tryz.f64,go_sem,hT2,c0,c1,c2,c3]
set_option maxHeartbeats 4000000 in
set_option maxRecDepth 100000 in
theorem rf_see_at{w:World}{b:Nat}{A:Option Addr}{cap k En:Nat}{l:List RT}(h:PkR w b A cap l En k)(hlt:k<l.length):Calls Tryz.prog 64 #[.pointer (some ⟨b,0,none⟩)] w fun e w'=>e=.returned (.agg #[.int .u8 (letK l[k].1.kind),.string (ofL l[k].2),.int .i64 (l[k].1.num:Int),.int .i64 (l[k].1.col:Int)])/\Below w.heap.size w w':=by
 have hle:=h.le
 have hfew:=h.few
 have i0:(0:Int)<=(k:Int):=by omega
 have e1:decide (k<l.length)=true:=decide_eq_true hlt
 have i1:(k:Int)<(l.length:Int):=by omega
 have HB0:=Lib.hid (alloc_bel w (.cells #[.int .u8 0,.string ⟨#[]⟩,.int .i64 0,.int .i64 0] 98))
 have HX0:=Lib.hid (heap_alloc_new w (.cells #[.int .u8 0,.string ⟨#[]⟩,.int .i64 0,.int .i64 0] 98))
 have HP:=Lib.hid (h.below HB0.out)
 obtain⟨bb,off,rfl,hbb,hbz,c0,c1,c2,c3⟩:=HP.out.tok hlt
 clear h hbz
 generalize l[k]=t at *
 obtain⟨⟨tk,tt,tn,tc⟩,x⟩:=t
 simp only at c0 c1 c2 c3⊢
 generalize letK tk=K at *
 have HC:=Lib.hid (And.intro c0 (And.intro c1 (And.intro c2 c3)))
 clear c0 c1 c2 c3
 go_enter Tryz.func64,Tryz.ntmps64
 go_wp2_with fail
 generalize w.alloc (.cells #[.int .u8 0,.string ⟨#[]⟩,.int .i64 0,.int .i64 0] 98)=W1 at *
 obtain⟨k0,k1,k2,k3,_,hbw⟩:=HP.out.cells
 go_quiet (fail)
 have HX1:=Lib.hid (show(W1.drewN nq).heap[w.heap.size]?=_ from HX0.out)
 have HC1:=Lib.hid (show(W1.drewN nq).cell? ⟨bb,off+k*4,none⟩=_/\(W1.drewN nq).cell? ⟨bb,off+k*4+1,none⟩=_/\(W1.drewN nq).cell? ⟨bb,off+k*4+2,none⟩=_/\(W1.drewN nq).cell? ⟨bb,off+k*4+3,none⟩=_ from HC.out)
 have HP1:=Lib.hid (HP.out.drewN nq)
 have HB1:=Lib.hid (below_drewN HB0.out nq)
 clear HP HX0 HB0 HC k0 k1 k2 k3
 generalize W1.drewN nq=W2 at *
 obtain⟨k0,k1,k2,k3,_,hbw2⟩:=HP1.out.cells
 obtain⟨d0,d1,d2,d3⟩:=tokBox_cells HX1.out
 have f0:=Lib.frozen_of_heap HX1.out 0
 have f1:=Lib.frozen_of_heap HX1.out 1
 have f2:=Lib.frozen_of_heap HX1.out 2
 have f3:=Lib.frozen_of_heap HX1.out 3
 obtain⟨c0,c1,c2,c3⟩:=HC1.out
 go_wp2_with fail
 go_region
 all_goals
  go_wp2_with fail
  exact see_ret (r:=w.heap.size) (box4_set HX1.out) rfl ⟨rfl,box4_below HB1.out.drew (Nat.le_refl _)⟩
set_option maxHeartbeats 4000000 in
set_option maxRecDepth 100000 in
theorem rf_see_end{w:World}{b:Nat}{A:Option Addr}{cap En:Nat}{l:List RT}(h:PkR w b A cap l En l.length):Calls Tryz.prog 64 #[.pointer (some ⟨b,0,none⟩)] w fun e w'=>e=.returned (.agg #[.int .u8 0,.string ⟨#[]⟩,.int .i64 0,.int .i64 (En:Int)])/\Below w.heap.size w w':=by
 have hfew:=h.few
 have e1:decide (l.length<l.length)=false:=decide_eq_false (Nat.lt_irrefl _)
 have HB0:=Lib.hid (alloc_bel w (.cells #[.int .u8 0,.string ⟨#[]⟩,.int .i64 0,.int .i64 0] 98))
 have HX0:=Lib.hid (heap_alloc_new w (.cells #[.int .u8 0,.string ⟨#[]⟩,.int .i64 0,.int .i64 0] 98))
 have HP:=Lib.hid (h.below HB0.out)
 clear h
 go_enter Tryz.func64,Tryz.ntmps64
 go_wp2_with fail
 generalize w.alloc (.cells #[.int .u8 0,.string ⟨#[]⟩,.int .i64 0,.int .i64 0] 98)=W1 at *
 obtain⟨k0,k1,k2,k3,_,hbw⟩:=HP.out.cells
 go_quiet (fail)
 have HX1:=Lib.hid (show(W1.drewN nq).heap[w.heap.size]?=_ from HX0.out)
 have HP1:=Lib.hid (HP.out.drewN nq)
 have HB1:=Lib.hid (below_drewN HB0.out nq)
 clear HP HX0 HB0 k0 k1 k2 k3
 generalize W1.drewN nq=W2 at *
 obtain⟨k0,k1,k2,k3,_,hbw2⟩:=HP1.out.cells
 obtain⟨d0,d1,d2,d3⟩:=tokBox_cells HX1.out
 have f0:=Lib.frozen_of_heap HX1.out 0
 have f1:=Lib.frozen_of_heap HX1.out 1
 have f2:=Lib.frozen_of_heap HX1.out 2
 have f3:=Lib.frozen_of_heap HX1.out 3
 go_wp2_with fail
 exact see_ret (r:=w.heap.size) (box4_set HX1.out) rfl ⟨rfl,box4_below HB1.out (Nat.le_refl _)⟩
theorem rf_see{w:World}{b:Nat}{A:Option Addr}{cap k En:Nat}{l:List RT}(h:PkR w b A cap l En k):Calls Tryz.prog 64 #[.pointer (some ⟨b,0,none⟩)] w fun e w'=>e=.returned (.agg (rtC (seeT l En k).1 (seeT l En k).2))/\Below w.heap.size w w':=by
 by_cases hlt:k<l.length
 ·have:=rf_see_at h hlt
  unfold seeT
  rw[dif_pos hlt]
  exact this
 ·obtain rfl:k=l.length:=by have:=h.le;omega
  have:=rf_see_end h
  unfold seeT
  rw[dif_neg hlt]
  exact this
theorem letK_119{k:Nat}(h:k<=4):(letK k==119)=(k==1):=by
 rcases(show k=0\/k=1\/k=2\/k=3\/k=4 by omega) with rfl|rfl|rfl|rfl|rfl<;>rfl
theorem letK_121{k:Nat}(h:k<=4):(letK k==121)=(k==4):=by
 rcases(show k=0\/k=1\/k=2\/k=3\/k=4 by omega) with rfl|rfl|rfl|rfl|rfl<;>rfl
structure SeeGood(p:RT)(En:Nat):Prop where
 ok:RtOk p.1 p.2
 kind:p.1.kind<=4
 num:p.1.num<=2147483647
 col:p.1.col<=1000001
 len:p.1.kind≠2->p.2.length<=1000000
theorem PkR.see{w:World}{b:Nat}{A:Option Addr}{cap k En:Nat}{l:List RT}(h:PkR w b A cap l En k):SeeGood (seeT l En k) En:=by
 unfold seeT
 split
 ·rename_i hk
  have g:=h.good l[k] (List.getElem_mem hk)
  exact⟨g.ok,g.kind.2,g.num,by have:=g.col;omega,g.len⟩
 ·exact⟨fun _=>rfl,by simp[endR],by simp[endR],h.en,by simp⟩
theorem PkR.lt{w:World}{b:Nat}{A:Option Addr}{cap k En:Nat}{l:List RT}(h:PkR w b A cap l En k)(hk:(seeT l En k).1.kind≠0):k<l.length:=by
 rcases Nat.lt_or_ge k l.length with q|q
 ·exact q
 ·unfold seeT at hk
  rw[dif_neg (by omega)]at hk
  exact absurd rfl hk
set_option maxHeartbeats 4000000 in
set_option maxRecDepth 100000 in
theorem rf_is{w:World}{b:Nat}{A:Option Addr}{cap k En:Nat}{l:List RT}(h:PkR w b A cap l En k)(x:ByteArray):Calls Tryz.prog 91 #[.pointer (some ⟨b,0,none⟩),.string x] w fun e w'=>e=.returned (.bool (isT (toL x) ((allT l En).drop k)))/\Below w.heap.size w w':=by
 have hsee:=rf_see h
 have hg:=h.see
 have hv:isT (toL x) ((allT l En).drop k)=(((seeT l En k).1.kind==1 || (seeT l En k).1.kind==4)&&(seeT l En k).1.text==toL x):=by rw[allT_drop h.le];rfl
 generalize isT (toL x) ((allT l En).drop k)=R at *
 generalize seeT l En k=p at *
 clear h
 obtain⟨⟨tk,tt,tn,tc⟩,y⟩:=p
 have hok:=hg.ok
 have hk:=hg.kind
 unfold RtOk at hok
 simp only at hv hok hk
 obtain⟨Y,hY⟩:∃Y,ofL y=Y:=⟨_,rfl⟩
 have HE:=Lib.hid (show(Y.toList==x.toList)=(y==toL x) from by rw[ByteArray.toList_eq,ByteArray.toList_eq, ← hY];rfl)
 have HN:=Lib.hid (show Calls Tryz.prog 64 #[.pointer (some ⟨b,0,none⟩)] w fun e w'=>e=.returned (.agg #[.int .u8 (letK tk),.string Y,.int .i64 (tn:Int),.int .i64 (tc:Int)])/\Below w.heap.size w w' from by rw[<-hY];exact hsee)
 have h9:=letK_119 hk
 have h21:=letK_121 hk
 have hR:R=((letK tk==119 || letK tk==121)&&y==toL x):=by
  rw[hv,h9,h21]
  rcases Nat.lt_or_ge tk 5 with q|q
  ·rcases(show tk=0\/tk=1\/tk=2\/tk=3\/tk=4 by omega) with rfl|rfl|rfl|rfl|rfl
   ·rfl
   ·rw[hok (by omega)]
   ·rfl
   ·rfl
   ·rw[hok (by omega)]
  ·omega
 have HR0:=Lib.hid hR
 clear hY hsee hg hv hok h9 h21 hR
 generalize letK tk=K at *
 have hcs:(K==119)=true\/(K==119)=false/\(K==121)=true\/(K==119)=false/\(K==121)=false:=by
  cases (K==119)<;>cases (K==121)<;>simp
 generalize (y==toL x)=q at *
 go_enter Tryz.func91,Tryz.ntmps91
 rcases hcs with e1|⟨e1,e4⟩|⟨e1,e4⟩
 ·have HR:=Lib.hid (show R=q from by rw[HR0.out,e1];simp)
  go_wp2_with ((go_at_call 64;(with_reducible refine HN.out.mono ?_);rintro e w2 ⟨rfl,hb2⟩;have HB2:=Lib.hid (hb2.alloc hb2.size (.cells #[.int .u8 K,.string Y,.int .i64 (tn:Int),.int .i64 (tc:Int)] 98));clear hb2))
  go_ret
  exact⟨by rw[HR.out, ← HE.out];rfl,HB2.out⟩
 ·have HR:=Lib.hid (show R=q from by rw[HR0.out,e1,e4];simp)
  go_wp2_with ((go_at_call 64;(with_reducible refine HN.out.mono ?_);rintro e w2 ⟨rfl,hb2⟩;have HB2:=Lib.hid (hb2.alloc hb2.size (.cells #[.int .u8 K,.string Y,.int .i64 (tn:Int),.int .i64 (tc:Int)] 98));clear hb2))
  go_ret
  exact⟨by rw[HR.out, ← HE.out];rfl,HB2.out⟩
 ·have HR:=Lib.hid (show R=false from by rw[HR0.out,e1,e4];simp)
  go_wp2_with ((go_at_call 64;(with_reducible refine HN.out.mono ?_);rintro e w2 ⟨rfl,hb2⟩;have HB2:=Lib.hid (hb2.alloc hb2.size (.cells #[.int .u8 K,.string Y,.int .i64 (tn:Int),.int .i64 (tc:Int)] 98));clear hb2))
  go_ret
  exact⟨by rw[HR.out];rfl,HB2.out⟩
structure EtPost(n b:Nat)(A:Option Addr)(cap:Nat)(l:List RT)(En k:Nat)(q:Bool)(w:World)(e:Ending)(w':World):Prop where
 ret:e=.returned (.bool q)
 fr:Fr n (fun i=>i=b) w w'
 pk:PkR w' b A cap l En (if q then k+1 else k)
theorem isT_kindR{x:Bs}{l:List RT}{En k:Nat}(h:isT x ((allT l En).drop k)=true)(hk:k<=l.length):(seeT l En k).1.kind=1\/(seeT l En k).1.kind=4:=by
 rw[allT_drop hk]at h
 unfold isT at h
 simp only[Bool.and_eq_true,Bool.or_eq_true,beq_iff_eq]at h
 exact h.1
set_option maxHeartbeats 4000000 in
set_option maxRecDepth 100000 in
theorem rf_eat{n:Nat}{w:World}{b:Nat}{A:Option Addr}{cap k En:Nat}{l:List RT}(h:PkR w b A cap l En k)(hn:n<=w.heap.size)(hnb:n<=b)(x:ByteArray):Calls Tryz.prog 60 #[.pointer (some ⟨b,0,none⟩),.string x] w (EtPost n b A cap l En k (isT (toL x) ((allT l En).drop k)) w):=by
 have HP:=Lib.hid h
 have HIS:=Lib.hid (rf_is h x)
 have HK:=Lib.hid (fun (hi:isT (toL x) ((allT l En).drop k)=true)=>h.lt (show(seeT l En k).1.kind≠0 from by rcases isT_kindR (x:=toL x) hi h.le with e|e<;>omega))
 have hfew:=h.few
 have hle:=h.le
 clear h
 generalize isT (toL x) ((allT l En).drop k)=q at *
 go_enter Tryz.func60,Tryz.ntmps60
 cases q
 ·go_wp2_with ((go_at_call 91;(with_reducible refine HIS.out.mono ?_);rintro e w2 ⟨rfl,hb2⟩;have HB2:=Lib.hid hb2;clear hb2))
  go_ret
  exact⟨rfl,Fr.of HB2.out hn,HP.out.below HB2.out⟩
 ·have hk1:=HK.out rfl
  have x1:IntKind.i64.wrap ((k:Int)+1)=((k+1:Nat):Int):=by rw[IntWalk.i64_in _ (by omega)];simp
  go_wp2_with ((go_at_call 91;(with_reducible refine HIS.out.mono ?_);rintro e w2 ⟨rfl,hb2⟩;have HP2:=Lib.hid (HP.out.below hb2);have HB2:=Lib.hid hb2;obtain⟨_,k1,_,_,f1,hbw⟩:=HP2.out.cells;clear hb2))
  go_ret
  have hp:=HP2.out.set (k':=k+1) (by omega)
  rw[Int.natCast_add]at hp
  exact⟨rfl,(Fr.of HB2.out hn).set _ hnb (.inl rfl),hp⟩
structure PrR{α:Type}(V:α->Value->World->Prop)(n b:Nat)(A:Option Addr)(cap:Nat)(l:List RT)(En:Nat)(a:α × List Tok)(w:World)(e:Ending)(w':World):Prop where
 fr:Fr n (fun k=>k=b) w w'
 res:∃v k',e=.returned v/\V a.1 v w'/\PkR w' b A cap l En k'/\a.2=(allT l En).drop k'
set_option maxHeartbeats 4000000 in
set_option maxRecDepth 100000 in
theorem rf_num{n:Nat}{w:World}{b:Nat}{A:Option Addr}{cap k En:Nat}{l:List RT}(h:PkR w b A cap l En k)(hn:n<=w.heap.size)(hnb:n<=b)(m:Nat)(hm:m<=2147483647){a:Nat × List Tok}(ha:numF m ((allT l En).drop k)=.ok a) :
  Calls Tryz.prog 61 #[.pointer (some ⟨b,0,none⟩),.int .i64 (m:Int)] w (PrR (fun (x:Nat) v _=>v=.int .i64 (x:Int)/\x<=m) n b A cap l En a w):=by
 have HP:=Lib.hid h
 have hsee:=rf_see h
 have hg:=h.see
 rw[allT_drop h.le]at ha
 have hk:(seeT l En k).1.kind=2/\(seeT l En k).1.num<=m/\a=((seeT l En k).1.num,(allT l En).drop (k+1)):=by
  unfold numF at ha
  simp only at ha
  split at ha
  ·cases ha
  ·rename_i h1
   split at ha
   ·cases ha
   ·rename_i h2
    injection ha with ha
    exact⟨by simpa using h1,by omega,ha.symm⟩
 have hlt:=h.lt (by rw[hk.1];omega)
 have hfew:=h.few
 generalize seeT l En k=p at *
 obtain⟨⟨tk,tt,tn,tc⟩,y⟩:=p
 obtain⟨hk1,hk2,hk3⟩:=hk
 simp only at hk1 hk2 hk3
 subst hk1 hk3
 obtain⟨Y,hY⟩:∃Y,ofL y=Y:=⟨_,rfl⟩
 have HN:=Lib.hid (show Calls Tryz.prog 64 #[.pointer (some ⟨b,0,none⟩)] w fun e w'=>e=.returned (.agg #[.int .u8 110,.string Y,.int .i64 (tn:Int),.int .i64 (tc:Int)])/\Below w.heap.size w w' from by rw[<-hY];exact hsee)
 have e1:¬ (m:Int)<(tn:Int):=by omega
 have x1:IntKind.i64.wrap ((k:Int)+1)=((k+1:Nat):Int):=by rw[IntWalk.i64_in _ (by omega)];simp
 clear hY hsee hg ha h
 go_enter Tryz.func61,Tryz.ntmps61
 go_wp2_with ((go_at_call 64;(with_reducible refine HN.out.mono ?_);rintro e w2 ⟨rfl,hb2⟩;have HB2:=Lib.hid (hb2.alloc hb2.size (.cells #[.int .u8 110,.string Y,.int .i64 (tn:Int),.int .i64 (tc:Int)] 98));have HP2:=Lib.hid (HP.out.below HB2.out);obtain⟨_,k1,_,_,f1,hbw⟩:=HP2.out.cells;clear hb2))
 go_ret
 have hp:=HP2.out.set (k':=k+1) (by omega)
 rw[Int.natCast_add]at hp
 exact⟨(Fr.of HB2.out hn).set _ hnb (.inl rfl),_,k+1,rfl,⟨rfl,hk2⟩,hp,rfl⟩
theorem PkR.oth{w:World}{b:Nat}{A:Option Addr}{cap k En:Nat}{l:List RT}(h:PkR w b A cap l En k){r i:Nat}(hr:b<r)(v:Value):PkR (w.setCell ⟨r,i,none⟩ v) b A cap l En k :=
 h.keep (fun j hj=>heap_set_ne v (by omega)) (by simp)
theorem txt_ret{Q:Ending->World->Prop}{W:World}{r:Nat}{a b c d:Value}{T:Array Value}(hb:W.heap[r]?=some (.cells #[a,b,c,d] 98 (0,0)))
  (hT2:T[2]?=some (.pointer (some ⟨r,0,none⟩))) (hQ:Q (.returned (.agg #[a,b,c,d])) W) :
  bodyPost Tryz.prog Tryz.f148 Q .ret { tmps:=T,defers := [] } W:=by
 obtain⟨c0,c1,c2,c3⟩:=tokBox_cells hb
 refine bodyPost_ret (v:=.agg #[a,b,c,d]) ?_ rfl hQ
 simp[results,Tryz.f148,go_sem,hT2,c0,c1,c2,c3]
set_option maxHeartbeats 4000000 in
set_option maxRecDepth 100000 in
theorem rf_text{n:Nat}{w:World}{b:Nat}{A:Option Addr}{cap k En:Nat}{l:List RT}(h:PkR w b A cap l En k)(hn:n<=w.heap.size)(hnb:n<=b){a:Tok × List Tok}(ha:quoF ((allT l En).drop k)=.ok a) :
  Calls Tryz.prog 148 #[.pointer (some ⟨b,0,none⟩)] w (PrR (fun (x:Tok) v _=>v=.agg #[.int .u8 115,.string (ofL x.text),.int .i64 (x.num:Int),.int .i64 (x.col:Int)]/\x.text.length<=1000000) n b A cap l En a w):=by
 have hsee:=fun (wx:World) (hp:PkR wx b A cap l En k)=>rf_see hp
 have hg:=h.see
 rw[allT_drop h.le]at ha
 have hk:(seeT l En k).1.kind=3/\a=((seeT l En k).1,(allT l En).drop (k+1)):=by
  unfold quoF at ha
  simp only at ha
  split at ha
  ·cases ha
  ·rename_i h1
   injection ha with ha
   exact⟨by simpa using h1,ha.symm⟩
 have hlt:=h.lt (by rw[hk.1];omega)
 have hfew:=h.few
 generalize seeT l En k=p at *
 obtain⟨⟨tk,tt,tn,tc⟩,y⟩:=p
 obtain⟨hk1,hk3⟩:=hk
 simp only at hk1 hk3
 subst hk1 hk3
 have hy:y=tt:=hg.ok (by simp)
 subst hy
 have hyl:=hg.len (by simp)
 simp only at hyl
 obtain⟨Y,hY⟩:∃Y,ofL y=Y:=⟨_,rfl⟩
 have HY:=Lib.hid hY
 have x1:IntKind.i64.wrap ((k:Int)+1)=((k+1:Nat):Int):=by rw[IntWalk.i64_in _ (by omega)];simp
 have HB0:=Lib.hid (alloc_bel w (.cells #[.int .u8 0,.string ⟨#[]⟩,.int .i64 0,.int .i64 0] 98))
 have HX0:=Lib.hid (heap_alloc_new w (.cells #[.int .u8 0,.string ⟨#[]⟩,.int .i64 0,.int .i64 0] 98))
 have HP:=Lib.hid (h.below HB0.out)
 have HN:=Lib.hid (show Calls Tryz.prog 64 #[.pointer (some ⟨b,0,none⟩)] (w.alloc (.cells #[.int .u8 0,.string ⟨#[]⟩,.int .i64 0,.int .i64 0] 98)) fun e w'=>e=.returned (.agg #[.int .u8 115,.string Y,.int .i64 (tn:Int),.int .i64 (tc:Int)])/\Below (w.alloc (.cells #[.int .u8 0,.string ⟨#[]⟩,.int .i64 0,.int .i64 0] 98)).heap.size (w.alloc (.cells #[.int .u8 0,.string ⟨#[]⟩,.int .i64 0,.int .i64 0] 98)) w' from by rw[<-hY];exact hsee _ HP.out)
 have hbz:=heap_lt h.box
 clear hY hg ha h hsee
 go_enter Tryz.func148,Tryz.ntmps148
 go_wp2_with fail
 generalize w.alloc (.cells #[.int .u8 0,.string ⟨#[]⟩,.int .i64 0,.int .i64 0] 98)=W1 at *
 go_upto_region 6 with((go_at_call 64;(with_reducible refine HN.out.mono ?_);rintro e w2 ⟨rfl,hb2⟩;have HB2:=Lib.hid (hb2.alloc hb2.size (.cells #[.int .u8 115,.string Y,.int .i64 (tn:Int),.int .i64 (tc:Int)] 98));have HT2:=Lib.hid (heap_alloc_new w2 (.cells #[.int .u8 115,.string Y,.int .i64 (tn:Int),.int .i64 (tc:Int)] 98));have HP2:=Lib.hid (HP.out.below HB2.out);obtain⟨_,k1,_,_,f1,hbw⟩:=HP2.out.cells;have HX2:=Lib.hid ((HB2.out.block w.heap.size (heap_lt HX0.out)).trans HX0.out);have hz2:=hb2.size;clear hb2))
 have hz1:=HB0.out.size
 have HP5:=Lib.hid (HP2.out.set (k':=k+1) (by omega))
 rw[Int.natCast_add]at HP5
 have HF5:=Lib.hid (((Fr.of (n:=n) (S:=fun i=>i=b) (HB0.out.trans (HB2.out.mono hz1)) hn)).set (i:=1) (.int .i64 ((k:Int)+1)) hnb (.inl rfl))
 have HX5:=Lib.hid ((heap_set_ne (i:=1) (.int .i64 ((k:Int)+1)) (show w.heap.size≠b by omega)).trans HX2.out)
 have hx1:=heap_lt HX0.out
 have HT5:=Lib.hid ((heap_set_ne (i:=1) (.int .i64 ((k:Int)+1)) (show w2.heap.size≠b by omega)).trans HT2.out)
 clear HP2 HB2 HX2 HT2 HP HN k1 f1
 generalize (w2.alloc (.cells #[.int .u8 115,.string Y,.int .i64 (tn:Int),.int .i64 (tc:Int)] 98)).setCell ⟨b,1,none⟩ (.int .i64 ((k:Int)+1))=W5 at *
 obtain⟨d0,d1,d2,d3⟩:=tokBox_cells HX5.out
 obtain⟨e0,e1,e2,e3⟩:=tokBox_cells HT5.out
 have g0:=Lib.frozen_of_heap HX5.out 0
 have g1:=Lib.frozen_of_heap HX5.out 1
 have g2:=Lib.frozen_of_heap HX5.out 2
 have g3:=Lib.frozen_of_heap HX5.out 3
 go_wp2_with fail
 refine txt_ret (r:=w.heap.size) (box4_set HX5.out) rfl ⟨?_,_,k+1,rfl,⟨by rw[HY.out],hyl⟩,(((HP5.out.oth hbz _).oth hbz _).oth hbz _).oth hbz _,rfl⟩
 exact(((HF5.out.set _ hn (.inr (Nat.le_refl _))).set _ hn (.inr (Nat.le_refl _))).set _ hn (.inr (Nat.le_refl _))).set _ hn (.inr (Nat.le_refl _))
def inBs(l:List Bs)(s:Bs):Bool:=l.any fun x=>x==s
set_option maxHeartbeats 4000000 in
set_option maxRecDepth 100000 in
theorem rf_in{w:World}(B:Option Addr)(l:List Bs)(N:Nat)(hN:l.length=N)(c:Nat)(hr:Row w B (strsL l))(hl:l.length<=1000)(s:ByteArray) :
  Calls Tryz.prog 59 #[.slice B N c,.string s] w fun e w'=>e=.returned (.bool (inBs l (toL s)))/\w=w':=by
 subst hN
 have HR:=Lib.hid hr
 obtain⟨R,hR⟩:∃R,inBs l (toL s)=R:=⟨_,rfl⟩
 rw[hR]
 have HRR:=Lib.hid hR
 clear hr hR
 go_enter Tryz.func59,Tryz.ntmps59
 go_wp2_with fail
 go_loop [5] (fun v=>∃i:Nat,i<=l.length/\v=.int .i64 (i:Int)/\(l.drop i).any (fun x=>x==toL s)=R) (fun v=>l.length-(intOf v).toNat)
 case atStart=>exact⟨0,by omega,rfl,HRR.out⟩
 case round =>
  obtain⟨i,hi,rfl,ha⟩:=hrel
  have HA:=Lib.hid ha
  clear ha HRR
  have i0:(0:Int)<=(i:Int):=by omega
  by_cases hlt:i<l.length
  ·have i1:(i:Int)<(l.length:Int):=by omega
   obtain⟨bb,off,rfl,hbb,hcc⟩:=HR.out.at (k:=i) (by rw[strsL,List.length_map];exact hlt)
   have c0:=hcc i (.string (ofL l[i])) (by simp[strsL,hlt])
   rw[List.drop_eq_getElem_cons hlt,List.any_cons]at HA
   generalize l[i]=x at *
   obtain⟨X,hX⟩:∃X,ofL x=X:=⟨_,rfl⟩
   have HE:=Lib.hid (show(X.toList==s.toList)=(x==toL s) from by rw[ByteArray.toList_eq,ByteArray.toList_eq, ← hX];rfl)
   rw[hX]at c0
   rw[<-HE.out]at HA
   clear hcc hX
   rcases hq:(X.toList==s.toList) with _|_
   ·rw[hq,Bool.false_or]at HA
    go_wp2_with fail
    go_round
    case rel=>exact⟨i+1,by omega,by go_num,HA.out⟩
    case measure=>simp[intOf]<;>omega
   ·rw[hq,Bool.true_or]at HA
    have HR2:=Lib.hid HA.out
    clear HA
    go_wp2_with fail
    go_ret
    exact⟨ret_bool HR2.out,rfl⟩
  ·have i1:(l.length:Int)<=(i:Int):=by omega
   have HR2:=Lib.hid (show R=false from by rw[<-HA.out,List.drop_eq_nil_of_le (by omega)];rfl)
   go_wp2_with fail
   go_ret
   exact⟨ret_bool HR2.out.symm,rfl⟩
theorem row_fr{n b:Nat}{w w':World}{B:Option Addr}{xs:List Value}(h:Row w B xs)(hf:Fr n (fun k=>k=b) w w')(hb:∀bb o,B=some ⟨bb,o,none⟩->bb≠b):Row w' B xs:=by
 rcases h with h|⟨bb,o,e,hlt,hc⟩
 ·exact .inl h
 ·exact .inr ⟨bb,o,e,Nat.lt_of_lt_of_le hlt hf.size,fun j u hu=>by rw[World.cell?_of_block (a:=⟨bb,o+j,none⟩) (hf.oth bb hlt (hb bb o e))];exact hc j u hu⟩
theorem oneF_any{l:List Bs}{t:Tok}{r:List Tok}{a:Bs × List Tok}(h:oneF l (t::r)=.ok a):l.any (fun x=>isT x (t::r))=true/\a=(t.text,r):=by
 unfold oneF at h
 simp only at h
 split at h
 ·rename_i h1
  injection h with h
  exact⟨h1,h.symm⟩
 ·cases h
abbrev strR(x:Bs)(v:Value)(_:World):Prop:=v=.string (ofL x)
set_option maxHeartbeats 8000000 in
set_option maxRecDepth 100000 in
theorem rf_one{n:Nat}{w:World}{b:Nat}{A:Option Addr}{cap k En:Nat}{l:List RT}(h:PkR w b A cap l En k)(hn:n<=w.heap.size)(hnb:n<=b)(B:Option Addr)(L:List Bs)(N:Nat)(hN:L.length=N)(c:Nat)(hr:Row w B (strsL L))(hL:L.length<=1000)(hB:∀bb o,B=some ⟨bb,o,none⟩->bb≠b){a:Bs × List Tok}(ha:oneF L ((allT l En).drop k)=.ok a) :
  Calls Tryz.prog 58 #[.pointer (some ⟨b,0,none⟩),.slice B N c] w (PrR strR n b A cap l En a w):=by
 subst hN
 have HP:=Lib.hid h
 have HR:=Lib.hid hr
 have HBN:=Lib.hid hB
 have hd:=allT_drop (En:=En) h.le
 rw[hd]at ha
 obtain⟨hany,rfl⟩:=oneF_any ha
 have hkl:=h.le
 have HANY:=Lib.hid hany
 have HD:=Lib.hid hd
 clear h hr hB ha hany hd
 go_enter Tryz.func58,Tryz.ntmps58
 go_wp2_with fail
 go_loopw [5] (fun v wr=>∃i:Nat,i<=L.length/\v=.int .i64 (i:Int)/\(L.drop i).any (fun x=>isT x ((seeT l En k).1::(allT l En).drop (k+1)))=true/\PkR wr b A cap l En k/\Fr n (fun j=>j=b) w wr) (fun v _=>L.length-(intOf v).toNat)
 case atStart=>exact⟨0,by omega,rfl,HANY.out,HP.out,Fr.refl _ _ _⟩
 case round =>
  obtain⟨i,hi,rfl,ha,hp,hf⟩:=hrel
  have HA:=Lib.hid ha
  have HPI:=Lib.hid hp
  have HF:=Lib.hid hf
  have hz:=hf.size
  have hlt:i<L.length:=by
   rcases Nat.lt_or_ge i L.length with q|q
   ·exact q
   ·rw[List.drop_eq_nil_of_le q]at ha;cases ha
  clear ha hp hf HANY HP
  have i0:(0:Int)<=(i:Int):=by omega
  have i1:(i:Int)<(L.length:Int):=by omega
  obtain⟨bb,off,rfl,hbb,hcc⟩:=(row_fr HR.out HF.out HBN.out).at (k:=i) (by rw[strsL,List.length_map];exact hlt)
  have hbb2:=HBN.out bb off rfl
  have c0:=hcc i (.string (ofL L[i])) (by simp[strsL,hlt])
  have HA2:=Lib.hid HA.out
  rw[List.drop_eq_getElem_cons hlt,List.any_cons]at HA2
  generalize L[i]=x at *
  obtain⟨X,hX⟩:∃X,ofL x=X:=⟨_,rfl⟩
  have HX:=Lib.hid hX
  rw[hX]at c0
  have HET:=Lib.hid (rf_eat (n:=n) HPI.out (by omega) hnb X)
  rw[show toL X=x from by rw[<-hX,toL_ofL],HD.out]at HET
  clear hcc hX HA
  rcases hq:isT x ((seeT l En k).1::(allT l En).drop (k+1)) with _|_
  ·rw[hq]at HET HA2
   rw[Bool.false_or]at HA2
   have HET2:=Lib.hid (HET.out.mono (R':=fun e w'=>e=.returned (.bool false)/\Fr n (fun i=>i=b) wr w'/\PkR w' b A cap l En k) (fun e w' h=>⟨h.ret,h.fr,h.pk⟩))
   clear hq HET
   go_wp2_with ((go_at_call 60;(with_reducible refine HET2.out.mono ?_);rintro e w2 ⟨rfl,hf2,hp2⟩;have HF2:=Lib.hid (HF.out.trans hf2 (fun i hi=>.inl hi));have HP2:=Lib.hid hp2;clear hf2 hp2))
   go_roundw
   case rel=>exact⟨i+1,by omega,by go_num,HA2.out,HP2.out,HF2.out⟩
   case measure=>simp[intOf]<;>omega
  ·have HTX:=Lib.hid (show(seeT l En k).1.text=x from by
    unfold isT at hq
    simp only[Bool.and_eq_true,beq_iff_eq]at hq
    exact hq.2)
   rw[hq]at HET
   have HET2:=Lib.hid (HET.out.mono (R':=fun e w'=>e=.returned (.bool true)/\Fr n (fun i=>i=b) wr w'/\PkR w' b A cap l En (k+1)) (fun e w' h=>⟨h.ret,h.fr,h.pk⟩))
   clear hq HET HA2
   go_wp2_with ((go_at_call 60;(with_reducible refine HET2.out.mono ?_);rintro e w2 ⟨rfl,hf2,hp2⟩;have HF2:=Lib.hid (HF.out.trans hf2 (fun i hi=>.inl hi));have HP2:=Lib.hid hp2;have c1:=(World.cell?_of_block (a:=⟨bb,off+i,none⟩) (hf2.oth bb hbb hbb2)).trans c0;clear hf2 hp2))
   go_ret
   exact⟨HF2.out,_,k+1,rfl,by rw[<-HX.out,HTX.out];rfl,HP2.out,rfl⟩
end Go.Proofs.YtannhfnpigiggaaGreatDoor
