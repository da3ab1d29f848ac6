import Derived.Test.YtannhfnpigiggaaGreatDoorPt34
import Derived.Lib.AppendZeros
namespace Go.Proofs.YtannhfnpigiggaaGreatDoor
set_option linter.unusedSimpArgs false
set_option linter.unusedVariables false
open Go.RowKit
theorem sl_grow0(w:World):Calls Tryz.prog 71 #[.slice none 0 0,.int .i64 0] w fun e w'=>e=.returned (.slice none 0 0)/\w=w':=by
 go_enter Tryz.func71,Tryz.ntmps71
 go_wp2
 go_ret
 exact⟨rfl,rfl⟩
set_option maxHeartbeats 2000000 in
set_option maxRecDepth 100000 in
theorem sl_grow1(n:Nat)(h0:0<n)(hn:n<=1000)(w:World):Calls Tryz.prog 71 #[.slice none 0 0,.int .i64 (n:Int)] w fun e w'=>∃c,e=.returned (.slice (some ⟨w.heap.size,0,none⟩) 0 c)/\w'.ownsRow w.heap.size 81 5 (.slice (some ⟨w.heap.size,0,none⟩) 0 c) 0 []/\Below w.heap.size w w':=by
 obtain⟨i,hi,hz,hs5,hb⟩:=info_parts info_rule
 have hrun:=fun ty=>Lib.run_append_nil_zeros (P:=Tryz.prog) w 73 3 ty 81 i (.agg (ruleC ⟨#[]⟩ 0 false 0 .nilIface)) .i64 .i64 Tryz.underlying73 Tryz.underlying3 hi hz n h0 (by omega) (by omega) (by rw[hb];omega)
 have hge:=grownCap_ge w n 0 81
 have hle:=grownCap_le_maxLen w n 0 81 (by unfold maxLen;omega)
 obtain⟨G,hG⟩:∃G,grownCap w n 0 81=G:=⟨_,rfl⟩
 rw[hG]at hrun hge hle
 have HOWN:=Lib.hid (World.ownsRow_made (w:=w.drew) (base:=w.heap.size) (e:=81) (size:=5) (Builtin.zeroCells (Value.agg (ruleC ⟨#[]⟩ 0 false 0 .nilIface)).cells n++Builtin.zeroCells (Value.agg (ruleC ⟨#[]⟩ 0 false 0 .nilIface)).cells (G-n)) G (Nat.le_refl _) hle (by
  rw[Array.size_append,size_zeroCells,size_zeroCells]
  show n*5+(G-n)*5=G*5
  omega))
 have hm:G<=9223372036854775807:=by unfold maxLen at hle;omega
 generalize Builtin.zeroCells (Value.agg (ruleC ⟨#[]⟩ 0 false 0 .nilIface)).cells n++Builtin.zeroCells (Value.agg (ruleC ⟨#[]⟩ 0 false 0 .nilIface)).cells (G-n)=Z at *
 have HB:=Lib.hid ((Below.refl w.heap.size w).drew.alloc (Nat.le_refl _) (.cells Z 81))
 have h1:¬ (n:Int)<0:=by omega
 have h2:(0:Int)<(n:Int):=by omega
 have h3:IntKind.i64.wrap (n:Int)=(n:Int):=IntWalk.i64_in _ (by omega)
 have HRUN:=Lib.hid hrun
 clear hrun hi hz hs5 hb hG hle
 go_enter Tryz.func71,Tryz.ntmps71
 go_wp2_with (at_builtin;refine Lib.wpList_append_run _ rfl _ _ _ _ rfl _ _ rfl rfl _ _ (HRUN.out _) ?_)
 go_ret
 exact⟨G,rfl,HOWN.out,HB.out⟩
theorem sl_grow(n:Nat)(hn:n<=1000)(w:World):Calls Tryz.prog 71 #[.slice none 0 0,.int .i64 (n:Int)] w fun e w'=>∃A c,e=.returned (.slice A 0 c)/\w'.ownsRow w.heap.size 81 5 (.slice A 0 c) 0 []/\Below w.heap.size w w':=by
 rcases Nat.eq_zero_or_pos n with rfl|h0
 ·exact(sl_grow0 w).mono fun e w' ⟨h1,h2⟩=>by subst h2;exact⟨none,0,h1,World.ownsRow_nil _ _ _ _,Below.refl _ _⟩
 ·exact(sl_grow1 n h0 hn w).mono fun e w' ⟨c,h1,h2,h3⟩=>⟨_,c,h1,h2,h3⟩
set_option maxHeartbeats 4000000 in
set_option maxRecDepth 100000 in
theorem sl_concat{w:World}{g:Nat}{A B:Option Addr}{n1 n2 c1 c2:Nat}{xs ys:List Value}(hg0:w.cell? ⟨g,0,none⟩=some (.slice A n1 c1))(hg1:w.cell? ⟨g,1,none⟩=some (.slice B n2 c2))(hgz:g<w.heap.size)
  (hx:Row w A xs) (hy:Row w B ys) (hxl:xs.length=n1*5) (hyl:ys.length=n2*5) (hx1:∀u∈xs,u.oneCell'=true) (hy1:∀u∈ys,u.oneCell'=true) (hn:n1+n2<=400) :
  Calls Tryz.prog 41 #[.slice (some ⟨g,0,none⟩) 2 2] w fun e w'=>∃D c,e=.returned (.slice D (n1+n2) c)/\w'.ownsRow w.heap.size 81 5 (.slice D (n1+n2) c) (n1+n2) (xs++ys)/\Below w.heap.size w w':=by
 have HG:=Lib.hid (fun wx=>sl_grow (n1+n2) (by omega) wx)
 have HX:=Lib.hid hx
 have HY:=Lib.hid hy
 have HX1:=Lib.hid hx1
 have HY1:=Lib.hid hy1
 have G0:=Lib.hid hg0
 have G1:=Lib.hid hg1
 have hxn:=hx.none_len (size:=5) hxl (by omega)
 have hyn:=hy.none_len (size:=5) hyl (by omega)
 have HXN:=Lib.hid hxn
 have HYN:=Lib.hid hyn
 obtain⟨m,hm⟩:∃m,n1+n2=m:=⟨_,rfl⟩
 have HM:=Lib.hid hm
 rw[hm]at HG hn⊢
 have hn1:n1<=m:=by omega
 have hn2:n2<=m:=by omega
 clear hx hy hx1 hy1 hxn hyn hm
 go_enter Tryz.func41,Tryz.ntmps41
 go_wp2_with fail
 go_loop [3,11] (fun v3 v11=>(v11=.int .i64 0/\v3=.int .i64 0)\/(v11=.int .i64 1/\v3=.int .i64 (n1:Int))\/(v11=.int .i64 2/\v3=.int .i64 (m:Int))) (fun _ v11=>2-(intOf v11).toNat)
 case atStart=>exact .inl ⟨rfl,rfl⟩
 case round =>
  rcases hrel with⟨rfl,rfl⟩|⟨rfl,rfl⟩|⟨rfl,rfl⟩
  ·have y1:¬ (n1:Int)<0:=by omega
   have y2:IntKind.i64.wrap (n1:Int)=(n1:Int):=IntWalk.i64_in _ (by omega)
   go_wp2_with fail
   go_round
   case rel=>exact .inr (.inl ⟨rfl,rfl⟩)
   case measure=>simp[intOf]
  ·have y0:IntKind.i64.wrap ((n1:Int)+(n2:Int))=(m:Int):=by rw[IntWalk.i64_in _ (by have:=HM.out;omega)];have:=HM.out;omega
   have y1:¬ (m:Int)<0:=by omega
   go_wp2_with fail
   go_round
   case rel=>exact .inr (.inr ⟨rfl,rfl⟩)
   case measure=>simp[intOf]
  ·go_upto_region 10 with(go_at_call 71;(with_reducible refine(HG.out _).mono ?_);rintro e w2 ⟨D0,c0,rfl,hown2,hb2⟩;have HO2:=Lib.hid hown2;have HB2:=Lib.hid hb2;clear hown2 hb2)
   have g0:=(HB2.out.cell (p:=⟨g,0,none⟩) hgz).trans G0.out
   have g1:=(HB2.out.cell (p:=⟨g,1,none⟩) hgz).trans G1.out
   have HXR:=Lib.hid (HX.out.below HB2.out)
   have HYR:=Lib.hid (HY.out.below HB2.out)
   clear hg0 hg1
   obtain⟨w0,rfl⟩:∃w0:World,w0=w:=⟨_,rfl⟩
   go_wp2_with fail
   go_loopw [6,27] (fun v6 v27 wr=>∃(k:Nat) (zs:List Value) (D:Option Addr) (c:Nat),v6=.slice D k c/\wr.ownsRow w0.heap.size 81 5 v6 k zs/\Below w0.heap.size w0 wr/\((v27=.int .i64 0/\k=0/\zs=[])\/(v27=.int .i64 1/\k=n1/\zs=xs)\/(v27=.int .i64 2/\k=m/\zs=xs++ys))) (fun _ v27 _=>2-(intOf v27).toNat)
   case atStart=>exact⟨0, [],D0,c0,rfl,HO2.out,HB2.out,.inl ⟨rfl,rfl,rfl⟩⟩
   case round =>
    obtain⟨k,zs,D,c,rfl,hown,hb,hcs⟩:=hrel
    have HO:=Lib.hid hown
    have HB:=Lib.hid hb
    have g0:=(hb.cell (p:=⟨g,0,none⟩) hgz).trans G0.out
    have g1:=(hb.cell (p:=⟨g,1,none⟩) hgz).trans G1.out
    have hbz:=hb.size
    clear hown hb
    rcases hcs with⟨rfl,rfl,rfl⟩|⟨rfl,rfl,rfl⟩|⟨rfl,rfl,rfl⟩
    ·go_wp2_with (at_builtin;go_loud (refine wpList_pour el_rule (by rfl) (.tmp 31) (.tmp 32) (by rfl) HO.out (by rfl) (A:=A) (m:=n1) (c:=c1) (news:=xs) (by rfl) (HX.out.below HB.out) hxl HX1.out HXN.out (by omega) (by unfold maxLen;omega) hbz ?_);intro v4 w4 hown4 hg4 hat4;rw[Nat.zero_add,List.nil_append]at hown4;obtain⟨D4,d4,rfl,_⟩:=own_row hown4)
     go_roundw
     case rel=>exact⟨n1,xs,D4,d4,rfl,hown4,HB.out.grown hg4 hbz (fun k e=>(HO.out.lt k e).1),.inr (.inl ⟨rfl,rfl,rfl⟩)⟩
     case measure=>simp[intOf]
    ·go_wp2_with (at_builtin;go_loud (refine wpList_pour el_rule (by rfl) (.tmp 31) (.tmp 32) (by rfl) HO.out (by rfl) (A:=B) (m:=n2) (c:=c2) (news:=ys) (by rfl) (HY.out.below HB.out) hyl HY1.out HYN.out (by have:=HM.out;omega) (by have:=HM.out;unfold maxLen;omega) hbz ?_);intro v4 w4 hown4 hg4 hat4;rw[HM.out]at hown4;obtain⟨D4,d4,rfl,_⟩:=own_row hown4)
     go_roundw
     case rel=>exact⟨m,_,D4,d4,rfl,hown4,HB.out.grown hg4 hbz (fun k e=>(HO.out.lt k e).1),.inr (.inr ⟨rfl,rfl,rfl⟩)⟩
     case measure=>simp[intOf]
    ·go_wp2_with fail
     go_ret
     exact⟨D,c,rfl,HO.out,HB.out⟩
theorem rusV_one:∀(l:List RuleS) (vs:List Value),(∀v∈vs,v.oneCell'=true)->∀u∈rusV l vs,u.oneCell'=true
 | [],_,_,u,hu=>by simp[rusV]at hu
 | _::_, [],_,u,hu=>by simp[rusV]at hu
 | r::l,v::vs,h,u,hu=>by
  rw[rusV,List.mem_append]at hu
  rcases hu with hu|hu
  ·simp only[ruV,ruleC,List.mem_cons,List.not_mem_nil,or_false]at hu
   rcases hu with rfl|rfl|rfl|rfl|rfl
   ·rfl
   ·rfl
   ·rfl
   ·rfl
   ·exact h _ (by simp)
  ·exact rusV_one l vs (fun v hv=>h v (by simp[hv])) u hu
set_option maxHeartbeats 4000000 in
set_option maxRecDepth 100000 in
theorem sc_append_limit{w:World}{ra rb:Nat}{la lb:List RuleS}(hA:RulesIn w ra la)(hB:RulesIn w rb lb)(hl1:la.length<=200)(hl2:lb.length<=200)(hn:200<la.length+lb.length) :
  Calls Tryz.prog 26 #[.pointer (some ⟨ra,0,none⟩),.pointer (some ⟨rb,0,none⟩)] w fun e w'=>e=.returned (.tuple #[.pointer none,.int .i64 9])/\Below w.heap.size w w':=by
 obtain⟨A,c,vs,hbx,_⟩:=hA
 obtain⟨B,d,us,hby,_⟩:=hB
 have a0:w.cell? ⟨ra,0,none⟩=some (.slice A la.length c):=by rw[Lib.cell_of_heap hbx];rfl
 have b0:w.cell? ⟨rb,0,none⟩=some (.slice B lb.length d):=by rw[Lib.cell_of_heap hby];rfl
 obtain⟨m,hm⟩:∃m,la.length+lb.length=m:=⟨_,rfl⟩
 have y0:IntKind.i64.wrap ((la.length:Int)+(lb.length:Int))=(m:Int):=by rw[IntWalk.i64_in _ (by omega)];omega
 have y1:(200:Int)<(m:Int):=by omega
 clear hbx hby hm
 go_enter Tryz.func26,Tryz.ntmps26
 go_upto_region 3 with fail
 go_quiet (fail)
 go_wp2_with fail
 go_ret2
 exact⟨rfl,below_drewN (Below.refl _ _) nq⟩
set_option maxHeartbeats 8000000 in
set_option maxRecDepth 100000 in
theorem sc_append{w:World}{ra rb:Nat}{la lb:List RuleS}(hA:RulesIn w ra la)(hB:RulesIn w rb lb)(hn:la.length+lb.length<=200) :
  Calls Tryz.prog 26 #[.pointer (some ⟨ra,0,none⟩),.pointer (some ⟨rb,0,none⟩)] w fun e w'=>∃rc,e=.returned (.tuple #[.pointer (some ⟨rc,0,none⟩),.int .i64 0])/\RulesIn w' rc (la++lb)/\Below w.heap.size w w':=by
 obtain⟨A,c,vs,hbx,hrow,hlen,hcap,hcond,hok⟩:=hA
 obtain⟨B,d,us,hby,hrow2,hlen2,hcap2,hcond2,hok2⟩:=hB
 have HBX:=Lib.hid hbx
 have HBY:=Lib.hid hby
 have HR1:=Lib.hid hrow
 have HR2:=Lib.hid hrow2
 have HL1:=Lib.hid hlen
 have HL2:=Lib.hid hlen2
 have HC1:=Lib.hid hcond
 have HC2:=Lib.hid hcond2
 have HOK:=Lib.hid (show ∀r∈la++lb,RuleOk r from fun r hr=>(List.mem_append.1 hr).elim (hok r) (hok2 r))
 have HO1:=Lib.hid (rusV_one la vs (fun v hv=>by
  obtain⟨i,hi,rfl⟩:=List.getElem_of_mem hv
  exact condO_one (hcond i (by omega) hi)))
 have HO2:=Lib.hid (rusV_one lb us (fun v hv=>by
  obtain⟨i,hi,rfl⟩:=List.getElem_of_mem hv
  exact condO_one (hcond2 i (by omega) hi)))
 have hv1:=rusV_length la vs hlen
 have hv2:=rusV_length lb us hlen2
 have a0:w.cell? ⟨ra,0,none⟩=some (.slice A la.length c):=by rw[Lib.cell_of_heap hbx];rfl
 have b0:w.cell? ⟨rb,0,none⟩=some (.slice B lb.length d):=by rw[Lib.cell_of_heap hby];rfl
 have HV1:=Lib.hid hv1
 have HV2:=Lib.hid hv2
 obtain⟨m,hm⟩:∃m,la.length+lb.length=m:=⟨_,rfl⟩
 have y0:IntKind.i64.wrap ((la.length:Int)+(lb.length:Int))=(m:Int):=by rw[IntWalk.i64_in _ (by omega)];omega
 have y1:¬ (200:Int)<(m:Int):=by omega
 have HM:=Lib.hid hm
 have hn2:la.length+lb.length<=400:=by omega
 have HN:=Lib.hid hn2
 clear hbx hby hm hrow hrow2 hlen hlen2 hcap hcap2 hcond hcond2 hok hok2 hv1 hv2 hn hn2
 go_enter Tryz.func26,Tryz.ntmps26
 go_upto_region 3 with fail
 go_quiet (fail)
 have HB0:=Lib.hid (below_drewN (Below.refl w.heap.size w) nq)
 have HR1:=Lib.hid (HR1.out.below HB0.out)
 have HR2:=Lib.hid (HR2.out.below HB0.out)
 have HBX:=Lib.hid ((HB0.out.block ra (heap_lt HBX.out)).trans HBX.out)
 have HBY:=Lib.hid ((HB0.out.block rb (heap_lt HBY.out)).trans HBY.out)
 have hz0:=HB0.out.size
 clear a0 b0
 generalize w.drewN nq=W at *
 have a0:W.cell? ⟨ra,0,none⟩=some (.slice A la.length c):=by rw[Lib.cell_of_heap HBX.out];rfl
 have b0:W.cell? ⟨rb,0,none⟩=some (.slice B lb.length d):=by rw[Lib.cell_of_heap HBY.out];rfl
 have HB1:=Lib.hid ((alloc_bel W (.cells #[.slice A la.length c,.slice B lb.length d] 73)).drew)
 have HX1:=Lib.hid (show((W.alloc (.cells #[.slice A la.length c,.slice B lb.length d] 73)).drew).heap[W.heap.size]?=some (.cells #[.slice A la.length c,.slice B lb.length d] 73 (0,0)) from heap_alloc_new W _)
 have HCC:=Lib.hid (sl_concat (w:=(W.alloc (.cells #[.slice A la.length c,.slice B lb.length d] 73)).drew) (g:=W.heap.size) (c1:=c) (c2:=d) (by rw[Lib.cell_of_heap HX1.out];rfl) (by rw[Lib.cell_of_heap HX1.out];rfl) (heap_lt HX1.out) (HR1.out.below HB1.out) (HR2.out.below HB1.out) HV1.out HV2.out HO1.out HO2.out HN.out)
 go_upto_region 5 with fail
 go_region_law ((go_simp;go_at_call 41;(with_reducible refine HCC.out.mono ?_);rintro e w2 ⟨D,cc,rfl,hown2,hb2⟩;have HOW:=Lib.hid hown2;have HB2:=Lib.hid hb2;clear hown2 hb2;dsimp only))
 all_goals
  have HBA:=Lib.hid (HB0.out.trans ((HB1.out.trans (HB2.out.mono HB1.out.size)).mono hz0))
  have hz2:=HBA.out.size
  go_wp2_with fail
  go_ret2
  refine⟨w2.heap.size,rfl,?_,HBA.out.alloc hz2 _⟩
  have hal:=alloc_bel w2 (.cells #[.slice D (la.length+lb.length) cc] 75)
  have hcd:la.length+lb.length<=cc:=by
   obtain⟨A',c',e,h1,_⟩:=own_row_cap HOW.out
   injection e with _ _ e3
   omega
  obtain⟨A',c',e,hr'⟩:=own_row HOW.out
  injection e with e1 e2 e3
  subst e1
  refine⟨D,cc,vs++us,by rw[List.length_append];exact heap_alloc_new w2 _,?_,by simp[HL1.out,HL2.out],by rw[List.length_append];exact hcd,fun i h1 h2=>?_,HOK.out⟩
  ·rw[rusV_app lb us la vs HL1.out];exact hr'.below hal
  ·by_cases hi:i<la.length
   ·have hi2:i<vs.length:=by rw[HL1.out];exact hi
    rw[List.getElem_append_left hi,List.getElem_append_left hi2]
    exact condO_below (HC1.out i hi hi2) (HBA.out.alloc hz2 _)
   ·have hi2:¬ i<vs.length:=by rw[HL1.out];exact hi
    have h3:i-la.length<lb.length:=by rw[List.length_append]at h1;omega
    have h4:i-la.length<us.length:=by rw[HL2.out];exact h3
    rw[List.getElem_append_right (by omega),List.getElem_append_right (by omega)]
    simp only[HL1.out]
    exact condO_below (HC2.out _ h3 h4) (HBA.out.alloc hz2 _)
end Go.Proofs.YtannhfnpigiggaaGreatDoor
