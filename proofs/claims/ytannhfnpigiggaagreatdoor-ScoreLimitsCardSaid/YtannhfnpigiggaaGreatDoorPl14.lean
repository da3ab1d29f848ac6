import Derived.Test.YtannhfnpigiggaaGreatDoorPl7
import Derived.Test.YtannhfnpigiggaaGreatDoorPl12
namespace Go.Proofs.YtannhfnpigiggaaGreatDoor
set_option linter.unusedSimpArgs false
set_option linter.unusedVariables false
open Go.RowKit Go.Shelf
attribute [local go_sem] Oper.semAt_some
def ctlX(x:RnT):Bool:=ctlU x.1.2
def NoC(pre:List RnT):Prop := ∀x∈pre,ctlX x=false
theorem NoC.nil:NoC []:=fun _ h=>by cases h
theorem NoC.snoc{pre:List RnT}{x:RnT}(h:NoC pre)(hx:ctlX x=false):NoC (pre ++ [x]):=by
 intro y hy
 rcases List.mem_append.1 hy with hy|hy
 ·exact h y hy
 ·simp at hy;subst hy;exact hx
def LastC(pre:List RnT):Prop := ∃ini last,pre=ini ++ [last]/\ctlX last=true
theorem ctl_none{L:List UInt8}{xs:List RnT}(h:AllRn L xs)(hn:NoC xs)(h0:(chkF L).2=0):ctlB L=false:=by
 unfold ctlB
 rw[<-h,h0]
 simp only[ne_eq,not_true_eq_false,decide_false,Bool.or_false]
 rw[List.any_eq_false]
 intro y hy
 obtain⟨x,hx,rfl⟩:=List.mem_map.1 hy
 have:=hn x hx
 unfold ctlX at this
 simp[this]
theorem ctl_some{L:List UInt8}{pre:List RnT}(h:SomeRn L pre)(hl:LastC pre):ctlB L=true:=by
 obtain⟨ini,last,rfl,h2⟩:=hl
 obtain⟨r,hr⟩:=h
 unfold ctlB
 rw[<-hr]
 simp only[List.map_append,List.map_cons,List.map_nil,List.any_append,List.any_cons,List.any_nil]
 unfold ctlX at h2
 simp[h2]
theorem ctl_bad{L:List UInt8}(h:(chkF L).2≠0):ctlB L=true:=by unfold ctlB;simp[h]
set_option maxHeartbeats 2000000 in
set_option maxRecDepth 100000 in
theorem u8_isControl(x:Int)(w:World):Calls Tryz.prog 138 #[.int .i32 x] w fun e w'=>e=.returned (.bool (ctlI x))/\w=w':=by
 by_cases h1:x<32
 ·have HV:=Lib.hid (show ctlI x=true from by unfold ctlI;simp[h1])
  have h1':x<=31:=by omega
  clear h1
  go_enter Tryz.func138,Tryz.ntmps138
  go_wp2_with fail
  go_ret
  exact⟨ret_bool (by rw[HV.out]),rfl⟩
 ·have h1':31<x:=by omega
  rcases e1:(x==8232) with _|_
  all_goals
   rcases e2:(x==8233) with _|_
   all_goals
    by_cases h2:127<=x
    ·by_cases h3:x<=159
     ·have HV:=Lib.hid (show ctlI x=true from by unfold ctlI;simp[h2,h3])
      clear h1
      go_enter Tryz.func138,Tryz.ntmps138
      go_wp2_with fail
      go_ret
      exact⟨ret_bool (by rw[HV.out]),rfl⟩
     ·have HV:=Lib.hid (show ctlI x=(((x==8232)) || (x==8233)) from by unfold ctlI;simp[h1,h3])
      rw[e1,e2]at HV
      have h3':159<x:=by omega
      clear h1 h3
      go_enter Tryz.func138,Tryz.ntmps138
      go_wp2_with fail
      go_ret
      exact⟨ret_bool (by rw[HV.out];first|done|rfl|(simp;omega)),rfl⟩
    ·have HV:=Lib.hid (show ctlI x=(((x==8232)) || (x==8233)) from by unfold ctlI;simp[h1,h2])
     rw[e1,e2]at HV
     have h2':x<127:=by omega
     clear h1 h2
     go_enter Tryz.func138,Tryz.ntmps138
     go_wp2_with fail
     go_ret
     exact⟨ret_bool (by rw[HV.out];first|done|rfl|(simp;omega)),rfl⟩
set_option maxHeartbeats 400000 in
theorem u8_valid(s:ByteArray)(w:World)(hs:s.size<=100000000):Calls Tryz.prog 136 #[.string s] w fun e w'=>e=.returned (.bool (decide ((chkF (toL s)).2=0)))/\Drew w w':=by
 have HC:=Lib.hid (u8_check s w hs)
 generalize chkF (toL s)=ck at *
 obtain⟨a,er⟩:=ck
 simp only at HC
 by_cases h:er=0
 ·subst h
  go_enter Tryz.func136,Tryz.ntmps136
  go_wp2_with ((go_at_call 150;(with_reducible refine HC.out.mono ?_);rintro e w' ⟨rfl,hd⟩))
  go_ret
  exact⟨rfl,hd⟩
 ·have e1:(er==0)=false:=beq_eq_false_iff_ne.2 h
  have HD:=Lib.hid (show decide (er=0)=false from decide_eq_false h)
  clear h
  go_enter Tryz.func136,Tryz.ntmps136
  go_wp2_with ((go_at_call 150;(with_reducible refine HC.out.mono ?_);rintro e w' ⟨rfl,hd⟩))
  go_ret
  exact⟨ret_bool (by rw[HD.out]),hd⟩
theorem retBoxB{W w:World}{D:Nat}{v v':Bool}{T:Array Value}(hb:Boxed W w.heap.size 4 (.bool v))(hB:Below w.heap.size w W)(hK:W.heap[D]?=some (.deferred (some [])))(hD:w.heap.size<=D)(hv:v=v')(hT:T[2]?=some (.pointer (some ⟨w.heap.size,0,none⟩))) :
  bodyPostM Fence.wide 9 Tryz.prog Tryz.f124 (fun e w'=>e=.returned (.bool v')/\Below w.heap.size w w') .ret { tmps:=T,defers := [{ target:=.collected D,args:=#[] }] } W:=by
 subst hv
 have hc:=cell_kept hb.cell (grownBy_putObj' W D (.deferred none)) (fun r e=>by cases e;exact⟨_,hK,rfl⟩)
 refine⟨by simp,.inl ⟨_,_,rfl,run_takeDeferred hK,?_⟩⟩
 refine⟨.bool v,?_,rfl,hB.trans (belowK_b (w:=w) (Nat.le_refl _) W D _ _ hD hK rfl rfl)⟩
 simp[results,Tryz.f124,go_sem,hT,hc]
set_option maxRecDepth 100000 in
set_option maxHeartbeats 4000000 in
theorem u8_printable(s:ByteArray)(w:World)(hs:s.size<=900000):Calls Tryz.prog 124 #[.string s] w fun e w'=>e=.returned (.bool (!ctlB (toL s)))/\Below w.heap.size w w':=by
 have HVAL:=Lib.hid (fun wx=>u8_valid s wx (by omega))
 refine(callsIn_wide (n:=9)).1 ?_
 refine callsIn_of_wp_marks Tryz.func124 rfl trivial ?_ rfl
 simp only[Tryz.ntmps124,List.size_toArray,List.length_cons,List.length_nil,Nat.reduceAdd,Nat.reduceSub,Array.replicate_succ,Array.replicate_zero,List.push_toArray,List.append_toArray,List.nil_append,List.cons_append]
 have bR:=Boxed.new w 4 (.bool false)
 by_cases h0:(chkF (toL s)).2=0
 ·have HV0:=Lib.hid h0
  rw[show decide ((chkF (toL s)).2=0)=true from decide_eq_true h0]at HVAL
  clear h0
  gi_wp2_with (first|(refine⟨trivial,?_⟩;gi_at_call 136;refine(callsIn_wide.2 (HVAL.out _)).mono ?_;rintro e w' ⟨rfl,nd,rfl⟩)|(refine⟨trivial,?_⟩;gi_at_call 137;refine(art_runes s _ _).mono ?_;rintro e w' ⟨rfl,rfl⟩))
  have bR2:Boxed ((w.alloc (.cells #[.bool false] 4)).drewN nd) w.heap.size 4 (.bool false):=bR
  have bN:=Boxed.new ((w.alloc (.cells #[.bool false] 4)).drewN nd) 9 (.string s)
  have hsz:((w.alloc (.cells #[.bool false] 4)).drewN nd).heap.size=w.heap.size+1:=by show(w.alloc (.cells #[.bool false] 4)).heap.size=_;simp
  rw[hsz]at bN
  have hB0:Below w.heap.size w (((w.alloc (.cells #[.bool false] 4)).drewN nd).alloc (.cells #[.string s] 9)):=(below_drewN ((Below.refl _ w).alloc (Nat.le_refl _) _) nd).alloc (by rw[hsz];omega) _
  generalize (w.alloc (.cells #[.bool false] 4)).drewN nd=w1 at *
  refine wpIn_rangeFunc_ownG (a₁:=?a1) rfl (by omega) (gf:=151) (lb:=#[.pointer (some ⟨w.heap.size+1,0,none⟩)]) rfl trivial (enters_of Tryz.func151 (by kernel_rfl) rfl)
   (runes_stops _ (by omega) (Below (w.heap.size+2)) _ (w.heap.size+1) (by rw[World.size_alloc];omega) s (fun _ _ h1 h2=>(h1.cell (p:=⟨w.heap.size+1,0,none⟩) (by simp)).trans h2) (by omega) bN.cell) belowK_t (belowK_b (by rw[World.size_alloc];omega)) (Below.refl _ _) (fun _=>rfl)
   (fun pre W=>(NoC pre/\Boxed W w.heap.size 4 (.bool false))/\Below w.heap.size w W)
   (fun c pre W=>(c=.ret/\LastC pre/\Boxed W w.heap.size 4 (.bool false))/\Below w.heap.size w W)
   (OwnFrom.and (OwnFrom.and (ownFrom_pure _ _) (Own.from (boxed_own _ _ _) _)) (ownFrom_below (Nat.le_refl _) (by simp;omega)))
   (fun c=>OwnFrom.and (Own.from (fun s A B row hs hg hr=>⟨hs.1,hs.2.1,boxed_own _ _ (fun _=>.bool false) s A B row hs.2.2 hg hr⟩) _) (ownFrom_below (Nat.le_refl _) (by simp;omega)))
   ⟨⟨NoC.nil,bR2.alloc _⟩,hB0⟩ ?assign ?body ?done ?stop
  case assign =>
   intro l x W K hK
   gi_wp2
   exact hK
  case body =>
   rintro l pre ⟨⟨o,r⟩,hx⟩ W ⟨⟨hn,hb⟩,hB⟩ _
   have HN:=Lib.hid hn;have HBW:=Lib.hid hB
   have hcell:=hb.cell;have hfr:=hb.frozen
   have HBX:=Lib.hid hb
   clear hn hB hb bR bR2 bN hB0
   have HCT:=Lib.hid (fun wx=>u8_isControl (r:Int) wx)
   rw[ctlI_nat]at HCT
   dsimp only
   rcases hc:ctlU r with _|_
   ·rw[hc]at HCT
    have HH:=Lib.hid (show ctlX ⟨(o,r),hx⟩=false from hc)
    clear hc
    gi_wp2_with (refine⟨trivial,?_⟩;gi_at_call 138;refine(CallsIn.inRound l (callsIn_wide.2 (HCT.out _))).mono ?_;rintro e w' ⟨rfl,rfl⟩)
    exact⟨KeepsFrom.refl _ _,Below.refl _ _,⟨HN.out.snoc HH.out,HBX.out⟩,HBW.out⟩
   ·rw[hc]at HCT
    have HH:=Lib.hid (show ctlX ⟨(o,r),hx⟩=true from hc)
    clear hc
    gi_wp2_with (refine⟨trivial,?_⟩;gi_at_call 138;refine(CallsIn.inRound l (callsIn_wide.2 (HCT.out _))).mono ?_;rintro e w' ⟨rfl,rfl⟩)
    exact⟨(KeepsOthers.setCell _ _ _).from _,⟨rfl,⟨pre,_,rfl,HH.out⟩,HBX.out.set _⟩,HBW.out.setCell (p:=⟨w.heap.size,0,none⟩) (Nat.le_refl _) _⟩
  case done =>
   rintro D ys W hD hS ⟨⟨hn,hb⟩,hB⟩ hK
   have HV:=Lib.hid (ctl_none hS hn HV0.out)
   have hcell:=hb.cell;have hfr:=hb.frozen
   simp only[World.size_alloc]at hD
   gi_wp2
   exact retBoxB (hb.set _) (hB.setCell (p:=⟨w.heap.size,0,none⟩) (Nat.le_refl _) _) ((KeepsOthers.setCell W _ _).same D _ hK rfl) (by omega) (by rw[HV.out];rfl) rfl
  case stop =>
   rintro D c pre W hD hS ⟨⟨rfl,hl,hb⟩,hB⟩ hK
   have HV:=Lib.hid (ctl_some hS hl)
   simp only[World.size_alloc]at hD
   gi_wp2
   exact retBoxB hb hB hK (by omega) (by rw[HV.out];rfl) rfl
 ·rw[show decide ((chkF (toL s)).2=0)=false from decide_eq_false h0]at HVAL
  have HV:=Lib.hid (ctl_bad h0)
  clear h0
  gi_wp2_with (refine⟨trivial,?_⟩;gi_at_call 136;refine(callsIn_wide.2 (HVAL.out _)).mono ?_;rintro e w' ⟨rfl,nd,rfl⟩)
  have bT:Boxed ((w.alloc (.cells #[.bool false] 4)).drewN nd) w.heap.size 4 (.bool false):=bR
  have bS:=bT.set (.bool false)
  refine⟨.bool false,?_,by rw[HV.out];rfl,(below_drewN ((Below.refl _ w).alloc (Nat.le_refl _) _) nd).setCell (p:=⟨w.heap.size,0,none⟩) (Nat.le_refl _) _⟩
  have r1:=bS.cell
  simp[results,Tryz.f124,go_sem,r1]
end Go.Proofs.YtannhfnpigiggaaGreatDoor
namespace Go.Proofs.YtannhfnpigiggaaGreatDoor
set_option linter.unusedSimpArgs false
set_option linter.unusedVariables false
def blkB(c:UInt8):Bool:=isBlank (num c)
def dropR{α:Type}(p:α->Bool)(l:List α):List α:=(l.reverse.dropWhile p).reverse
def trimL{α:Type}(p:α->Bool)(l:List α):List α:=dropR p (l.dropWhile p)
theorem dropR_yes{α:Type}{p:α->Bool}{l:List α}{c:α}(h:p c=true):dropR p (l ++ [c])=dropR p l:=by
 unfold dropR;rw[List.reverse_append,List.reverse_singleton,List.singleton_append,List.dropWhile_cons,if_pos h]
theorem dropR_no{α:Type}{p:α->Bool}{l:List α}{c:α}(h:p c=false):dropR p (l ++ [c])=l ++ [c]:=by
 unfold dropR;rw[List.reverse_append,List.reverse_singleton,List.singleton_append,List.dropWhile_cons,if_neg (by rw[h];simp)];simp
end Go.Proofs.YtannhfnpigiggaaGreatDoor
namespace Go.Proofs.YtannhfnpigiggaaGreatDoor
set_option linter.unusedSimpArgs false
set_option linter.unusedVariables false
open Go.RowKit
theorem class_isBlankT:ClassIs 47 isBlank:=⟨Tryz.call47,asc_isBlank⟩
theorem skip_takeT(L:List UInt8):skipFrom isBlank L 0=(L.takeWhile blkB).length:=by unfold skipFrom;simp;rfl
theorem dw_drop{α:Type}(p:α->Bool):∀(l:List α),l.dropWhile p=l.drop (l.takeWhile p).length
 | []=>rfl
 | c::r=>by
  rw[List.dropWhile_cons,List.takeWhile_cons]
  cases h:p c with
  | true=>rw[if_pos rfl,if_pos rfl,dw_drop p r];rfl
  | false=>rw[if_neg (by simp),if_neg (by simp)];rfl
theorem tw_le{α:Type}(p:α->Bool)(l:List α):(l.takeWhile p).length<=l.length:=(List.takeWhile_sublist p).length_le
def midL(L:List UInt8)(a b:Nat):List UInt8:=(L.take b).drop a
theorem mid_snoc{s:ByteArray}{a b:Nat}(h1:a<=b)(h2:b<s.size):midL (toL s) a (b+1)=midL (toL s) a b ++ [s[b]'h2]:=by
 unfold midL
 have hk:b<(toL s).length:=by rw[toL_length];exact h2
 rw[List.take_succ_eq_append_getElem hk,List.drop_append_of_le_length (by rw[List.length_take];omega),toL_getElem s b h2]
theorem mid_nil(L:List UInt8)(a:Nat):midL L a a=[]:=by
 unfold midL;exact List.drop_eq_nil_of_le (by rw[List.length_take];omega)
theorem mid_all(L:List UInt8)(a b:Nat)(h:L.length<=b):midL L a b=L.drop a:=by unfold midL;rw[List.take_of_length_le h]
theorem mid_ext(s:ByteArray)(a b:Nat):toL (s.extract a b)=midL (toL s) a b:=by rw[extract_toL,cutL,midL,List.drop_take]
set_option maxHeartbeats 2000000 in
set_option maxRecDepth 100000 in
theorem asc_trim(s:ByteArray)(w:World)(hs:s.size<=1000000000):Calls Tryz.prog 30 #[.string s] w fun e w'=>e=.returned (.string (ofL (trimL blkB (toL s))))/\w=w':=by
 have HL:=Lib.hid (toL_length s)
 have HSK:=Lib.hid (fun wx=>show Calls Tryz.prog 46 #[.string s,.int .i64 0,.func (.func 47) #[] #[]] wx fun e w'=>e=.returned (.int .i64 (skipFrom isBlank (toL s) 0))/\wx=w' from asc_skip 47 isBlank class_isBlankT s 0 wx (by unfold maxLen;omega) (Nat.zero_le _))
 rw[skip_takeT]at HSK
 have hfr:=tw_le blkB (toL s)
 rw[HL.out]at hfr
 have HV:=Lib.hid (show trimL blkB (toL s)=dropR blkB (midL (toL s) ((toL s).takeWhile blkB).length s.size) from by
  unfold trimL;rw[dw_drop,mid_all _ _ _ (by rw[HL.out];exact Nat.le_refl _)])
 generalize ((toL s).takeWhile blkB).length=fr at *
 generalize hT:trimL blkB (toL s)=T at *
 clear hT
 go_enter Tryz.func30,Tryz.ntmps30
 go_wp2_with ((go_at_call 46;(with_reducible refine(HSK.out _).mono ?_);rintro e w' ⟨rfl,rfl⟩))
 go_loop [4] (fun v=>∃k:Nat,fr<=k/\k<=s.size/\v=.int .i64 (k:Int)/\T=dropR blkB (midL (toL s) fr k)) (fun v=>(intOf v).toNat)
 case atStart=>exact⟨s.size,hfr,by omega,rfl,HV.out⟩
 case round =>
  obtain⟨k,hfk,hk,rfl,hp⟩:=hrel
  have HP:=Lib.hid hp;clear hp
  have k0:(0:Int)<=(k:Int):=by omega
  have f0:(0:Int)<=(fr:Int):=by omega
  have kf:(fr:Int)<=(k:Int):=by omega
  have ks:(k:Int)<=(s.size:Int):=by omega
  by_cases hlt:fr<k
  ·obtain⟨j,rfl⟩:∃j,k=j+1:=⟨k-1,by omega⟩
   have hj:j<s.size:=by omega
   have k1:(fr:Int)<((j+1:Nat):Int):=by omega
   have m1:decide ((fr:Int)<((j+1:Nat):Int))=true:=by simp only[decide_eq_true_eq];omega
   have x1:IntKind.i64.wrap (((j+1:Nat):Int)-1)=(j:Int):=by rw[show((j+1:Nat):Int)-1=(j:Int) from by omega];exact IntWalk.i64_in _ (by omega)
   have x2:((j+1:Nat):Int)-1=(j:Int):=by omega
   have j0:(0:Int)<=(j:Int):=by omega
   have j1:(j:Int)<(s.size:Int):=by omega
   have HSN:=Lib.hid (mid_snoc (s:=s) (a:=fr) (b:=j) (by omega) hj)
   have HBK:=Lib.hid (fun wx=>show Calls Tryz.prog 47 #[.int .u8 (num (s[j]'hj))] wx fun e w'=>e=.returned (.bool (blkB (s[j]'hj)))/\wx=w' from asc_isBlank _ _)
   rcases hb:blkB (s[j]'hj) with _|_
   ·rw[hb]at HBK
    have HR:=Lib.hid (show T=toL (s.extract fr (j+1)) from by rw[HP.out,HSN.out,dropR_no hb,mid_ext,HSN.out])
    clear hb
    go_wp2_with ((go_at_call 47;(with_reducible refine(HBK.out _).mono ?_);rintro e w' ⟨rfl,rfl⟩))
    go_ret
    exact⟨by rw[HR.out,ofL_toL];rfl,rfl⟩
   ·rw[hb]at HBK
    have HR:=Lib.hid (show T=dropR blkB (midL (toL s) fr j) from by rw[HP.out,HSN.out,dropR_yes hb])
    clear hb
    go_wp2_with ((go_at_call 47;(with_reducible refine(HBK.out _).mono ?_);rintro e w' ⟨rfl,rfl⟩))
    go_round
    case rel=>exact⟨j,by omega,by omega,by go_num,HR.out⟩
    case measure=>simp[intOf]<;>omega
  ·obtain rfl:k=fr:=by omega
   have m1:decide ((k:Int)<(k:Int))=false:=by simp
   have HR:=Lib.hid (show T=[] from by rw[HP.out,mid_nil];rfl)
   go_wp2_with fail
   go_ret
   exact⟨by rw[HR.out];rfl,rfl⟩
end Go.Proofs.YtannhfnpigiggaaGreatDoor
