import Derived.Test.YtannhfnpigiggaaGreatDoorPl4
import Derived.Test.YtannhfnpigiggaaGreatDoorPlS
import Derived.Test.YtannhfnpigiggaaGreatDoorPl17
import Derived.Test.YtannhfnpigiggaaGreatDoorPl8
import Derived.Handy
namespace Go.Proofs.YtannhfnpigiggaaGreatDoor
set_option linter.unusedSimpArgs false
set_option linter.unusedVariables false
open Go.RowKit
def emV:Em->Value
 | .lit c=>.iface 257 (.string (ofL [c]))
 | .single=>.iface 252 (.agg #[])
 | .star=>.iface 253 (.agg #[])
 | .cls l=>.iface 254 (.string (ofL l))
theorem idx_byte(s:ByteArray)(c:UInt8)(w:World):Calls Tryz.prog 176 #[.string s,.int .u8 (num c)] w fun e w'=>e=.returned (.int .i64 (Lib.indexByte (toL s) c))/\w=w':=by
 refine(Tryz.strings_IndexByte s (num c) w).mono ?_
 rintro e w' ⟨rfl,rfl⟩
 refine⟨ret_int ?_,rfl⟩
 have:(num c).toNat.toUInt8=c:=by simp[num]
 rw[this];rfl
theorem ta_no(T:TypeId)(v:Value)(w:World)(h:T=257\/T=252\/T=254):(Instr.typeAssert (.iface T v) 284 253 true).run Tryz.prog w=.ok (.tuple #[.agg #[],.bool false]) w:=by
 rcases h with rfl|rfl|rfl<;>kernel_rfl
theorem ta_yes(w:World):(Instr.typeAssert (.iface 253 (.agg #[])) 284 253 true).run Tryz.prog w=.ok (.tuple #[.agg #[],.bool true]) w:=by
 kernel_rfl
set_option maxHeartbeats 1000000 in
set_option maxRecDepth 100000 in
theorem em_isStar(x:Em)(w:World):Calls Tryz.prog 222 #[emV x] w fun e w'=>e=.returned (.bool x.isStar)/\Below w.heap.size w w':=by
 have h1:=fun v w=>ta_no 257 v w (by simp)
 have h2:=fun v w=>ta_no 252 v w (by simp)
 have h3:=fun v w=>ta_no 254 v w (by simp)
 have h4:=ta_yes
 cases x<;>simp only[emV]
 all_goals
  go_enter Tryz.func222,Tryz.ntmps222
  go_wp2_with fail
  go_ret
  exact⟨rfl,(Below.refl _ _).alloc (Nat.le_refl _) _⟩
set_option maxHeartbeats 1000000 in
set_option maxRecDepth 100000 in
theorem em_chars1(c:Em)(w:World):Calls Tryz.prog 223 #[.agg #[]] w fun e w'=>e=.returned (.string (ofL nameC))/\Below w.heap.size w w':=by
 go_enter Tryz.func223,Tryz.ntmps223
 go_wp2_with fail
 go_ret
 exact⟨rfl,(Below.refl _ _).alloc (Nat.le_refl _) _⟩
set_option maxHeartbeats 1000000 in
set_option maxRecDepth 100000 in
theorem em_chars2(c:Em)(w:World):Calls Tryz.prog 224 #[.agg #[]] w fun e w'=>e=.returned (.string (ofL nameC))/\Below w.heap.size w w':=by
 go_enter Tryz.func224,Tryz.ntmps224
 go_wp2_with fail
 go_ret
 exact⟨rfl,(Below.refl _ _).alloc (Nat.le_refl _) _⟩
set_option maxHeartbeats 1000000 in
set_option maxRecDepth 100000 in
theorem em_chars3(s:ByteArray)(w:World):Calls Tryz.prog 226 #[.string s] w fun e w'=>e=.returned (.string s)/\Below w.heap.size w w':=by
 go_enter Tryz.func226,Tryz.ntmps226
 go_wp2_with fail
 go_ret
 exact⟨rfl,(Below.refl _ _)⟩
set_option maxHeartbeats 1000000 in
set_option maxRecDepth 100000 in
theorem em_chars4(s:ByteArray)(w:World):Calls Tryz.prog 225 #[.string s] w fun e w'=>e=.returned (.string s)/\Below w.heap.size w w':=by
 go_enter Tryz.func225,Tryz.ntmps225
 go_wp2_with fail
 go_ret
 exact⟨rfl,(Below.refl _ _)⟩
theorem index_has(l:Bs)(c:UInt8):decide (0<=Lib.indexByte l c)=l.contains c:=by
 rw[Bool.eq_iff_iff,decide_eq_true_iff,List.contains_iff_mem]
 have hge:=Lib.indexByte_ge l c
 constructor
 ·intro h
  obtain⟨o,ho⟩:∃o:Nat,Lib.indexByte l c=o:=⟨(Lib.indexByte l c).toNat,by omega⟩
  exact List.mem_of_getElem? (Lib.indexByte_some ho).1
 ·intro h
  rcases Int.lt_or_le (Lib.indexByte l c) 0 with h'|h'
  ·obtain⟨k,hk,e⟩:=List.getElem_of_mem h
   exact absurd (by rw[List.getElem?_eq_getElem hk,e]) (Lib.indexByte_none (l:=l) (c:=c) (by omega) k)
  ·exact h'
set_option maxHeartbeats 1000000 in
set_option maxRecDepth 100000 in
theorem em_stands (x : Em) (c : UInt8) (w : World) : Calls Tryz.prog 221 #[emV x, .int .u8 (num c)] w fun e w' => e = .returned (.bool (x.chars.contains c)) ∧ Below w.heap.size w w' := by
  cases x <;> simp only [emV]
  all_goals
    go_enter Tryz.func221, Tryz.ntmps221
    go_wp2_with fail
    (first
      | (with_reducible refine (em_chars1 .star _).mono ?_)
      | (with_reducible refine (em_chars2 .star _).mono ?_)
      | (with_reducible refine (em_chars3 _ _).mono ?_)
      | (with_reducible refine (em_chars4 _ _).mono ?_))
    rintro e w1 ⟨rfl, hb1⟩
    go_wp2_with fail
    (with_reducible refine (idx_byte _ c _).mono ?_)
    rintro e w' ⟨rfl, rfl⟩
    go_wp2_with fail
    go_ret
    exact ⟨ret_bool (index_has _ _), hb1⟩
abbrev emsV(es:List Em):List Value:=es.map emV
theorem Row.em{w:World}{A:Option Addr}{es:List Em}(h:Row w A (emsV es)){k:Nat}(hk:k<es.length) :
  ∃b off,A=some ⟨b,off,none⟩/\w.cell? ⟨b,off+k,none⟩=some (emV es[k]):=by
 obtain⟨b,off,e,hc⟩:=h.cell (k:=k) (by simpa using hk)
 exact⟨b,off,e,by rw[hc,List.getElem_map]⟩
def PatAt(w:World)(b:Nat)(txt:ByteArray)(es:List Em):Prop := ∃A c,w.heap[b]?=some (.cells #[.string txt,.slice A es.length c] 196 (0,0))/\Row w A (emsV es)
theorem PatAt.cells{w:World}{b:Nat}{txt:ByteArray}{es:List Em}(h:PatAt w b txt es):∃A c,w.cell? ⟨b,0,none⟩=some (.string txt)/\w.cell? ⟨b,1,none⟩=some (.slice A es.length c)/\Row w A (emsV es):=by
 obtain⟨A,c,h1,h2⟩:=h
 exact⟨A,c,by rw[Lib.cell_of_heap h1];rfl,by rw[Lib.cell_of_heap h1];rfl,h2⟩
theorem PatAt.lt{w:World}{b:Nat}{txt:ByteArray}{es:List Em}(h:PatAt w b txt es):b<w.heap.size:=by
 obtain⟨A,c,h1,h2⟩:=h
 exact heap_lt h1
set_option maxHeartbeats 1000000 in
theorem pat_string(b:Nat)(txt:ByteArray)(es:List Em)(w:World)(h:PatAt w b txt es) :
  Calls Tryz.prog 88 #[.pointer (some ⟨b,0,none⟩)] w fun e w'=>e=.returned (.string txt)/\w=w':=by
 obtain⟨A,c,h0,h1,h2⟩:=h.cells
 clear h h2
 go_enter Tryz.func88,Tryz.ntmps88
 go_wp2_with fail
 go_ret
 exact⟨rfl,rfl⟩
def BoolsAt(w:World)(b:Nat)(l:List Bool):Prop:=w.heap[b]?=some (.cells (l.map Value.bool).toArray 4 (0,0))
theorem BoolsAt.cell{w:World}{b:Nat}{l:List Bool}(h:BoolsAt w b l)(k:Nat)(hk:k<l.length):w.cell? ⟨b,k,none⟩=some (.bool (l.getD k false)):=by
 rw[Lib.cell_of_heap h];simp[List.getD,hk]
theorem BoolsAt.free{w:World}{b:Nat}{l:List Bool}(h:BoolsAt w b l)(k:Nat):w.frozen? ⟨b,k,none⟩=false:=by
 unfold World.frozen?
 rw[show w.heap[(⟨b,k,none⟩:Addr).block]?=_ from h]
 simp
theorem BoolsAt.set{w:World}{b:Nat}{l:List Bool}(h:BoolsAt w b l)(k:Nat)(x:Bool):BoolsAt (w.setCell ⟨b,k,none⟩ (.bool x)) b (l.set k x):=by
 unfold BoolsAt
 rw[heap_set h]
 congr 2
 apply Array.ext'
 simp
theorem BoolsAt.below{w w':World}{b:Nat}{l:List Bool}(h:BoolsAt w b l)(hb:Below w.heap.size w w'):BoolsAt w' b l:=(hb.block _ (heap_lt h)).trans h
theorem grown_below{a w w':World}{m:Nat}(h:a.grownBy w (some m))(hb:Below w.heap.size w w'):a.grownBy w' (some m) :=
 ⟨hb.os.trans h.os,hb.tape.trans h.tape,hb.output.trans h.output,Nat.le_trans h.size hb.size,fun k hk hne=>(hb.block k (Nat.lt_of_lt_of_le hk h.size)).trans (h.block k hk hne)⟩
theorem grown_set{a w:World}{m:Nat}(h:a.grownBy w (some m))(k:Nat)(v:Value):a.grownBy (w.setCell ⟨m,k,none⟩ v) (some m) :=
 ⟨h.os,h.tape,h.output,by simpa using h.size,fun j hj hne=>(Below.heap_setCell _ _ _ _ (fun e=>hne (by rw[e]))).trans (h.block j hj hne)⟩
def PatUnder(N:Nat)(w:World)(b:Nat)(txt:ByteArray)(es:List Em):Prop := ∃A c,b<N/\w.heap[b]?=some (.cells #[.string txt,.slice A es.length c] 196 (0,0))/\Row w A (emsV es)/\∀bb off,A=some ⟨bb,off,none⟩->es=[]\/bb<N
theorem PatAt.under{w:World}{b:Nat}{txt:ByteArray}{es:List Em}(h:PatAt w b txt es):PatUnder w.heap.size w b txt es:=by
 obtain⟨A,c,h1,h2⟩:=h
 refine⟨A,c,heap_lt h1,h1,h2,fun bb off e=>?_⟩
 rcases h2 with h2|⟨bb',off',e',hlt,hc⟩
 ·left;simpa using h2
 ·rw[e']at e;injection e with e;injection e with e;subst e;exact .inr hlt
theorem PatUnder.below{N:Nat}{w w':World}{b:Nat}{txt:ByteArray}{es:List Em}(h:PatUnder N w b txt es)(hb:Below N w w'):PatUnder N w' b txt es:=by
 obtain⟨A,c,hb',h1,h2,h3⟩:=h
 refine⟨A,c,hb',(hb.block _ hb').trans h1,?_,h3⟩
 rcases h2 with h2|⟨bb,off,rfl,hlt,hc⟩
 ·exact .inl h2
 ·rcases h3 bb off rfl with h4|h4
  ·exact .inl (by simp[h4])
  ·exact .inr ⟨bb,off,rfl,Nat.lt_of_lt_of_le hlt hb.size,fun j v hv=>by rw[hb.cell (p:=⟨bb,off+j,none⟩) h4];exact hc j v hv⟩
def SpreadPost(w:World)(m:Nat)(l:List Bool)(e:Ending)(w':World):Prop:=e=.returned (.tuple #[])/\BoolsAt w' m l/\w.grownBy w' (some m)
theorem emAt_get(es:List Em)(k:Nat)(h:k<es.length):emAt es k=es[k]:=by simp[emAt,List.getD,h]
theorem row_grown{N:Nat}{w w':World}{m:Nat}{A:Option Addr}{es:List Em}(h:Row w A (emsV es))(h3:∀bb off,A=some ⟨bb,off,none⟩->es=[]\/bb<N)(hg:w.grownBy w' (some m))(hm:N<=m):Row w' A (emsV es):=by
 rcases h with h2|⟨bb,off,rfl,hlt,hc⟩
 ·exact .inl h2
 ·rcases h3 bb off rfl with h4|h4
  ·exact .inl (by simp[h4])
  ·exact .inr ⟨bb,off,rfl,Nat.lt_of_lt_of_le hlt hg.size,fun j v hv=>by rw[hg.cell_far ⟨bb,off+j,none⟩ hlt (fun e=>by injection e with e;have e':bb=m:=e;omega)];exact hc j v hv⟩
set_option maxHeartbeats 4000000 in
set_option maxRecDepth 100000 in
theorem wm_spread(pb m:Nat)(txt:ByteArray)(es:List Em)(l:List Bool)(cap:Nat)(N:Nat)(w:World)(hp:PatUnder N w pb txt es)(hm:BoolsAt w m l)(hN:N<=m)(hl:l.length=es.length+1)(he:es.length<=1000) :
  Calls Tryz.prog 220 #[.pointer (some ⟨pb,0,none⟩),.slice (some ⟨m,0,none⟩) (es.length+1) cap] w (SpreadPost w m (spr es l es.length)):=by
 obtain⟨A,c,hpb,hh,hrow,hund⟩:=hp
 have h1:w.cell? ⟨pb,1,none⟩=some (.slice A es.length c):=by rw[Lib.cell_of_heap hh];rfl
 have HROW:=Lib.hid (fun wx (hg:w.grownBy wx (some m))=>row_grown hrow hund hg hN)
 have HM:=Lib.hid hm;have HL:=Lib.hid hl
 clear hm hl hrow hund hh
 go_enter Tryz.func220,Tryz.ntmps220
 go_wp2_with fail
 go_loopw [11,4] (fun v _ wr=>∃k:Nat,k<=es.length/\v=.int .i64 k/\BoolsAt wr m (spr es l k)/\w.grownBy wr (some m)) (fun v _ _=>es.length-(intOf v).toNat)
 case atStart=>exact⟨0,by omega,rfl,HM.out,World.grownBy.refl _ _⟩
 case round =>
  obtain⟨k,hk,rfl,hB,hg⟩:=hrel
  clear h1
  by_cases hlt:k<es.length
  ·have hk1:(0:Int)<=(k:Int):=by omega
   have hk2:(k:Int)<(es.length:Int):=by omega
   have hk3:(k:Int)<((es.length+1:Nat):Int):=by omega
   have hk4:(0:Int)<=(k:Int)+1:=by omega
   have hk5:(k:Int)+1<((es.length+1:Nat):Int):=by omega
   obtain⟨b,off,hA,hcell⟩:=(HROW.out _ hg).em hlt
   have HSL:=Lib.hid (spr_length es l k)
   have hc1:=hB.cell k (by rw[HSL.out,HL.out];omega)
   have hc2:=hB.cell (k+1) (by rw[HSL.out,HL.out];omega)
   have hf2:=hB.free (k+1)
   have HS:=Lib.hid (spr_succ es l k)
   rw[sprStep,emAt_get es k hlt]at HS
   have HB:=Lib.hid hB;have HG:=Lib.hid hg
   subst hA
   clear hB hg
   have hmlt:=heap_lt HB.out
   generalize es[k]=x at *
   generalize (spr es l k).getD (k+1) false=old at *
   rcases hb0:(spr es l k).getD k false with _|_
   ·rw[hb0]at hc1
    rw[hb0,Bool.false_and,if_neg (by simp)]at HS
    clear hb0
    go_wp2_with fail
    go_roundw
    case rel=>exact⟨k+1,by omega,by go_num,by rw[HS.out];exact HB.out,HG.out⟩
    case measure=>simp[intOf]<;>omega
   ·rw[hb0]at hc1
    rw[hb0,Bool.true_and]at HS
    clear hb0
    go_wp2_with fail
    (with_reducible refine(em_isStar x _).mono ?_)
    rintro e w1 ⟨rfl,hb1⟩
    have HB1:=Lib.hid (HB.out.below hb1)
    have HG1:=Lib.hid (grown_below HG.out hb1)
    have hc3:w1.cell? ⟨m,k+1,none⟩=some (.bool old):=(hb1.cell (p:=⟨m,k+1,none⟩) hmlt).trans hc2
    have hf3:w1.frozen? ⟨m,k+1,none⟩=false:=HB1.out.free (k+1)
    have hlt3:m<w1.heap.size:=Nat.lt_of_lt_of_le hmlt hb1.size
    clear hc1 hc2 hf2 hb1 hcell
    rcases hx:x.isStar with _|_
    ·rw[hx,if_neg (by simp)]at HS
     go_wp2_with fail
     go_roundw
     case rel=>exact⟨k+1,by omega,by go_num,by rw[HS.out];exact HB1.out,HG1.out⟩
     case measure=>simp[intOf]<;>omega
    ·rw[hx,if_pos rfl]at HS
     go_wp2_with fail
     go_roundw
     case rel=>exact⟨k+1,by omega,by go_num,by rw[HS.out];exact HB1.out.set _ _,grown_set HG1.out _ _⟩
     case measure=>simp[intOf]<;>omega
  ·obtain rfl:k=es.length:=by omega
   have HB:=Lib.hid hB
   go_wp2_with fail
   exact bodyPost_ret (results_none rfl _ _ _) rfl ⟨rfl,HB.out,hg⟩
theorem info_bool:(Tryz.prog.info? 4).map (fun i=>(i.zero,i.size,i.bytes))=some (some (.bool false),1,1):=by kernel_rfl
theorem made_bools(n:Nat):madeCells (Value.bool false).cells n=(List.replicate n (Value.bool false)).toArray:=by
 apply Array.ext'
 apply List.ext_getElem
 ·simp[madeCells]
 ·intro k h1 h2
  have:k%1=0:=by omega
  simp[madeCells,Value.cells,this]
theorem run_make_bools(w:World)(n:Nat)(l:Int)(hl:l=n)(hn:n<=1000000):∃W,(Instr.makeSlice 179 (.int .i64 l) (.int .i64 l)).run Tryz.prog w=.ok (.slice (some ⟨w.heap.size,0,none⟩) n n) W/\BoolsAt W w.heap.size (List.replicate n false)/\Below w.heap.size w W:=by
 subst hl
 obtain⟨i,hi,h0,h1,h2⟩:=info_parts info_bool
 refine⟨_,run_makeSlice (P:=Tryz.prog) w 179 4 i (.bool false) Tryz.underlying179 hi h0 .i64 .i64 n n (by omega) (by omega) (by rw[h1];simp;omega) (by rw[h2];simp;omega) (by omega),?_,(Below.refl _ _).alloc (Nat.le_refl _) _⟩
 unfold BoolsAt
 rw[h1,Int.toNat_natCast,Nat.mul_one,made_bools]
 rw[heap_alloc_new w]
 simp
structure MatchAt(w:World)(bs:Nat)(es:List Em)(l:Bs)(k m:Nat)(wr:World):Prop where
 bools:BoolsAt wr m (marks es (l.take k))
 le:w.heap.size<=m
 bel:Below w.heap.size w wr
 row:Row wr (some ⟨bs,0,none⟩) (bytesV l)
set_option maxHeartbeats 4000000 in
set_option maxRecDepth 100000 in
theorem pat_match(pb:Nat)(txt:ByteArray)(es:List Em)(s:ByteArray)(w:World)(hp:PatAt w pb txt es)(he:es.length<=1000)(hok:∀e∈es,e.Ok)(hs:s.size<=100000) :
  Calls Tryz.prog 219 #[.pointer (some ⟨pb,0,none⟩),.string s] w fun e w'=>e=.returned (.bool (matchF es (toL s)))/\Below w.heap.size w w':=by
 obtain⟨A,c,h0,h1,h2⟩:=hp.cells
 have hpb:=hp.lt
 have HP:=Lib.hid hp.under
 have HROW:=Lib.hid h2
 have HM:=Lib.hid (marks_match es hok (toL s))
 have HL:=Lib.hid (toL_length s)
 clear hok
 obtain⟨W1,hmk,hB1,hb1⟩:=run_make_bools w (es.length+1) ((es.length:Int)+1) (by omega) (by omega)
 clear hp h2
 have hc0:=hB1.cell 0 (by simp)
 have hf0:=hB1.free 0
 have hlt0:=heap_lt hB1
 have hq:(0:Int)<((es.length+1:Nat):Int):=by omega
 have HB2:=Lib.hid (hB1.set 0 true)
 have HBEL:=Lib.hid (hb1.setCell (p:=⟨w.heap.size,0,none⟩) (Nat.le_refl _) (.bool true))
 have HE:=Lib.hid (show(List.replicate (es.length+1) false).set 0 true=true::List.replicate es.length false by rw[List.replicate_succ];rfl)
 rw[HE.out]at HB2
 clear HE hB1
 go_enter Tryz.func219,Tryz.ntmps219
 go_wp2_with fail
 clear hmk hc0 hf0 hlt0 hb1
 generalize W1.setCell ⟨w.heap.size,0,none⟩ (.bool true)=W2 at *
 (with_reducible refine(wm_spread pb w.heap.size txt es _ _ w.heap.size W2 (HP.out.below HBEL.out) HB2.out (Nat.le_refl _) (by simp) he).mono ?_)
 rintro e w3 ⟨rfl,hB3,hg3⟩
 have hbel3:Below w.heap.size w w3:=HBEL.out.grown hg3 HBEL.out.size (fun k hk=>by injection hk with hk;omega)
 have hlt3:=heap_lt hB3
 have hconv:=Lib.run_convert_string_bytes (P:=Tryz.prog) w3 9 50 5 s Tryz.underlying9 Tryz.underlying50 Tryz.underlying5
 have HB3:=Lib.hid (hB3.below (bytesWorld_below w3 5 s))
 have HB3E:=Lib.hid (bytesWorld_below w3 5 s)
 have HBY:=Lib.hid (bytesWorld_row w3 5 s)
 clear hB3 hg3 HB2 HBEL
 go_wp2_with fail
 clear hconv
 generalize Lib.bytesWorld w3 5 s=W4 at *
 have hbel4:Below w.heap.size w W4:=hbel3.trans (HB3E.out.mono hbel3.size)
 have hN4:w.heap.size<=w3.heap.size:=hbel3.size
 generalize w3.heap.size=bs at *
 clear HB3E hbel3 h0
 have hHS:(toL s).length=s.size:=HL.out
 go_loopw [5,28] (fun v5 v28 wr=>∃(k m cap:Nat),k<=s.size/\v28=.int .i64 k/\v5=.slice (some ⟨m,0,none⟩) (es.length+1) cap/\MatchAt w bs es (toL s) k m wr) (fun _ v28 _=>s.size-(intOf v28).toNat)
 case atStart=>exact⟨0,w.heap.size,_,by omega,rfl,rfl,⟨HB3.out,Nat.le_refl _,hbel4,HBY.out⟩⟩
 case round =>
  obtain⟨k,m,cap,hk,rfl,rfl,hM⟩:=hrel
  clear HB3 HBY hbel4
  obtain⟨wo,rfl⟩:∃wo:World,wo=wr:=⟨_,rfl⟩
  have hcp:wo.cell? ⟨pb,1,none⟩=some (.slice A es.length c):=(hM.bel.cell (p:=⟨pb,1,none⟩) hpb).trans h1
  by_cases hlt:k<s.size
  ·have hk1:(0:Int)<=(k:Int):=by omega
   have hk2:(k:Int)<(s.size:Int):=by omega
   have hkl:k<(toL s).length:=by omega
   obtain⟨bb,off,hA,hcell⟩:=hM.row.cell (k:=k) (by simpa using hkl)
   rw[List.getElem_map]at hcell
   simp only[Option.some.injEq,Addr.mk.injEq]at hA
   obtain⟨rfl,rfl,_⟩:=hA
   rw[Nat.zero_add]at hcell
   have HTK:=Lib.hid (List.take_succ_eq_append_getElem hkl)
   generalize (toL s)[k]=ch at *
   have HSN:=Lib.hid (marks_snoc es ((toL s).take k) ch)
   rw[<-HTK.out]at HSN
   clear HTK
   have HML:=Lib.hid (marks_length es ((toL s).take k))
   obtain⟨W5,hmk,hB5,hb5⟩:=run_make_bools wo (es.length+1) ((es.length:Int)+1) (by omega) (by omega)
   have hcp5:W5.cell? ⟨pb,1,none⟩=some (.slice A es.length c):=(hb5.cell (p:=⟨pb,1,none⟩) (Nat.lt_of_lt_of_le hpb hM.bel.size)).trans hcp
   have HM1:=Lib.hid hM
   clear hM h1 hcp
   have HB5:=Lib.hid hB5
   clear hB5
   generalize hmm:wo.heap.size=m4 at *
   go_wp2_with fail
   clear hmk hcell
   go_loopw [40,9] (fun v40 _ wx=>∃j:Nat,j<=es.length/\v40=.int .i64 j/\BoolsAt wx m4 (nxt es (marks es ((toL s).take k)) ch j)/\Below m4 wo wx) (fun v40 _ _=>es.length-(intOf v40).toNat)
   case atStart=>exact⟨0,by omega,rfl,by rw[nxt_zero,HML.out];exact HB5.out,hb5⟩
   case round =>
    obtain⟨j,hj,rfl,hB,hbx⟩:=hrel
    clear HB5 hb5 hcp5
    obtain⟨wi,rfl⟩:∃wi:World,wi=wr:=⟨_,rfl⟩
    by_cases hlj:j<es.length
    ·have hj1:(0:Int)<=(j:Int):=by omega
     have hj2:(j:Int)<(es.length:Int):=by omega
     have hj3:(j:Int)<((es.length+1:Nat):Int):=by omega
     have hj4:(0:Int)<=(j:Int)+1:=by omega
     have hj5:(j:Int)+1<((es.length+1:Nat):Int):=by omega
     have hwi:Below w.heap.size w wi:=HM1.out.bel.trans (hbx.mono (by rw[<-hmm];exact HM1.out.bel.size))
     obtain⟨eb,off,hA,hcell⟩:=(HROW.out.below hwi).em hlj
     subst hA
     have HNS:=Lib.hid (nxt_succ es (marks es ((toL s).take k)) ch j)
     rw[nxtStep,emAt_get es j hlj]at HNS
     have hmlt:m<m4:=by rw[<-hmm];exact heap_lt HM1.out.bools
     have hc1:wi.cell? ⟨m,j,none⟩=some (.bool ((marks es ((toL s).take k)).getD j false)):=(hbx.cell (p:=⟨m,j,none⟩) hmlt).trans (HM1.out.bools.cell j (by rw[HML.out];omega))
     have HBX:=Lib.hid hbx;have HB:=Lib.hid hB
     have hwsz:=hwi.size
     have h4lt:=heap_lt hB
     clear hbx hB hwi
     generalize es[j]=x at *
     have HNL:=Lib.hid (nxt_length es (marks es ((toL s).take k)) ch j)
     rw[HML.out]at HNL
     rcases hb0:(marks es ((toL s).take k)).getD j false with _|_
     ·rw[hb0]at hc1
      rw[hb0,Bool.not_false,Bool.true_or,if_pos rfl]at HNS
      clear hb0
      go_wp2_with fail
      go_roundw
      case rel=>exact⟨j+1,by omega,by go_num,by rw[HNS.out];exact HB.out,HBX.out⟩
      case measure=>simp[intOf]<;>omega
     ·rw[hb0]at hc1
      rw[hb0,Bool.not_true,Bool.false_or]at HNS
      clear hb0
      go_wp2_with fail
      (with_reducible refine(em_stands x ch _).mono ?_)
      rintro e w1 ⟨rfl,hb1⟩
      have HB1:=Lib.hid (HB.out.below hb1)
      have HBX1:=Lib.hid (HBX.out.trans (hb1.mono (Nat.le_of_lt h4lt)))
      have h4lt1:m4<w1.heap.size:=Nat.lt_of_lt_of_le h4lt hb1.size
      clear hc1 hcell hb1 HB HBX
      rcases hx:x.chars.contains ch with _|_
      ·rw[hx,Bool.not_false,if_pos rfl]at HNS
       go_wp2_with fail
       go_roundw
       case rel=>exact⟨j+1,by omega,by go_num,by rw[HNS.out];exact HB1.out,HBX1.out⟩
       case measure=>simp[intOf]<;>omega
      ·rw[hx,Bool.not_true,if_neg (by simp)]at HNS
       go_wp2_with fail
       (with_reducible refine(em_isStar x _).mono ?_)
       rintro e w2 ⟨rfl,hb2⟩
       have HB2:=Lib.hid (HB1.out.below hb2)
       have HBX2:=Lib.hid (HBX1.out.trans (hb2.mono (Nat.le_of_lt h4lt1)))
       have h4lt2:m4<w2.heap.size:=Nat.lt_of_lt_of_le h4lt1 hb2.size
       clear hb2 HB1 HBX1
       rcases hy:x.isStar with _|_
       ·rw[hy,if_neg (by simp)]at HNS
        have hcc:=HB2.out.cell (j+1) (by rw[HNL.out];omega)
        have hff:=HB2.out.free (j+1)
        go_wp2_with fail
        go_roundw
        case rel=>exact⟨j+1,by omega,by go_num,by rw[HNS.out];exact HB2.out.set _ _,HBX2.out.setCell (Nat.le_refl _) _⟩
        case measure=>simp[intOf]<;>omega
       ·rw[hy,if_pos rfl]at HNS
        have hcc:=HB2.out.cell j (by rw[HNL.out];omega)
        have hff:=HB2.out.free j
        go_wp2_with fail
        go_roundw
        case rel=>exact⟨j+1,by omega,by go_num,by rw[HNS.out];exact HB2.out.set _ _,HBX2.out.setCell (Nat.le_refl _) _⟩
        case measure=>simp[intOf]<;>omega
    ·obtain rfl:j=es.length:=by omega
     have hwi:Below w.heap.size w wi:=HM1.out.bel.trans (hbx.mono (by rw[<-hmm];exact HM1.out.bel.size))
     have hle4:w.heap.size<=m4:=by rw[<-hmm];exact HM1.out.bel.size
     have HNL:=Lib.hid (nxt_length es (marks es ((toL s).take k)) ch es.length)
     rw[HML.out]at HNL
     have HB:=Lib.hid hB;have HBX:=Lib.hid hbx
     have h4lt:=heap_lt hB
     clear hB hbx
     go_wp2_with fail
     (with_reducible refine(wm_spread pb m4 txt es _ _ w.heap.size wi (HP.out.below hwi) HB.out hle4 HNL.out he).mono ?_)
     rintro e w6 ⟨rfl,hB6,hg6⟩
     have hbel6:Below m4 wo w6:=HBX.out.grown hg6 (Nat.le_of_lt h4lt) (fun k hk=>by injection hk with hk;omega)
     rw[<-HSN.out]at hB6
     have hrow6:Row w6 (some ⟨bs,0,none⟩) (bytesV (toL s)):=HM1.out.row.below (by rw[hmm];exact hbel6)
     have HFIN:=Lib.hid (show MatchAt w bs es (toL s) (k+1) m4 w6 from⟨hB6,hle4,HM1.out.bel.trans (hbel6.mono hle4),hrow6⟩)
     clear hB6 hg6 hbel6 hrow6 hwi
     go_wp2_with fail
     go_roundw
     case rel=>exact⟨k+1,m4,_,by omega,by go_num,rfl,HFIN.out⟩
     case measure=>simp[intOf]<;>omega
  ·obtain rfl:k=s.size:=by omega
   have HTK:=Lib.hid (show(toL s).take s.size=toL s from by rw[List.take_of_length_le (by omega)])
   have hend:=hM.bools.cell es.length (by rw[marks_length];omega)
   rw[HTK.out,HM.out]at hend
   have hi1:(0:Int)<=(es.length:Int):=by omega
   have hi2:(es.length:Int)<((es.length+1:Nat):Int):=by omega
   go_wp2_with fail
   go_ret
   exact⟨rfl,hM.bel⟩
def ItemsPost(L:Bs)(w:World)(e:Ending)(w':World):Prop:=e=.returned (.tuple #[.string (ofL (itemsF 0 true L).1),.int .i64 ((itemsF 0 true L).2:Nat)])/\Below w.heap.size w w'
def ItemsAt(L X:Bs)(k:Nat)(f:Bool):Prop:=itemsF 0 true L=(X++(itemsF 0 f (L.drop k)).1,(itemsF 0 f (L.drop k)).2+k)
theorem items_done{L X:Bs}{k:Nat}{f:Bool}(h:ItemsAt L X k f)(hd:itemsF 0 f (L.drop k)=([],0)):itemsF 0 true L=(X,k):=by
 rw[h,hd];simp
theorem items_post{L:Bs}{X:ByteArray}{k:Nat}{w w':World}(h:itemsF 0 true L=(toL X,k))(hb:Below w.heap.size w w'):ItemsPost L w (.returned (.tuple #[.string X,.int .i64 k])) w':=by
 refine⟨?_,hb⟩
 rw[h];simp[ofL_toL]
theorem plainC_num(f:Bool)(c:UInt8):plainC f c=(isAl c || num c==43 || num c==95 || num c==46 || (num c==45&&f)):=by
 have h1:=byte_all (fun c=>plainC true c==(isAl c || num c==43 || num c==95 || num c==46 || (num c==45&&true))) (by decide +kernel) c
 have h2:=byte_all (fun c=>plainC false c==(isAl c || num c==43 || num c==95 || num c==46 || (num c==45&&false))) (by decide +kernel) c
 cases f
 ·simpa using h2
 ·simpa using h1
theorem isChar_num(c:UInt8):isChar c=(isAl c || num c==43 || num c==45 || num c==95 || num c==46):=by
 have h1:=byte_all (fun c=>isChar c==(isAl c || num c==43 || num c==45 || num c==95 || num c==46)) (by decide +kernel) c
 simpa using h1
theorem eq_num(c d:UInt8):(num c==num d)=(c==d):=by
 rw[Bool.eq_iff_iff,beq_iff_eq,beq_iff_eq]
 constructor
 ·intro h;exact UInt8.toNat_inj.1 (by simp only[num]at h;omega)
 ·rintro rfl;rfl
theorem drop_at{L:Bs}{k:Nat}{c:UInt8}(h:L[k]?=some c):L.drop k=c::L.drop (k+1):=by
 obtain⟨hk,rfl⟩:=List.getElem?_eq_some_iff.1 h
 exact List.drop_eq_getElem_cons hk
theorem isRange_at(L:Bs)(k:Nat)(c d:UInt8)(hd:L[k+1]?=some d):isRange c (L.drop (k+1))=(isAl c&&(num d==45)&&decide (k+2<L.length)):=by
 unfold isRange
 have e:(num d==45)=(d==45):=eq_num d 45
 rw[e]
 congr 1
 ·congr 1
  simp[hd]
 ·simp;omega
theorem isRange_end(L:Bs)(k:Nat)(c:UInt8)(h:¬ k+2<L.length):isRange c (L.drop (k+1))=false:=by
 have:¬ (1<L.length-(k+1)):=by omega
 simp[isRange,this]
theorem isRange_no(L:Bs)(c:UInt8)(h:isAl c=false):isRange c L=false:=by simp[isRange,h]
theorem items_one{L X:Bs}{k:Nat}{f:Bool}(h:ItemsAt L X k f)(c:UInt8)(hc:L[k]?=some c)(hr:isRange c (L.drop (k+1))=false)(hp:plainC f c=true):ItemsAt L (X ++ [c]) (k+1) false:=by
 unfold ItemsAt at *
 rw[h,drop_at hc,itemsF_one f _ _ hr hp]
 simp;omega
theorem items_rng{L X:Bs}{k:Nat}{f:Bool}(h:ItemsAt L X k f)(c d:UInt8)(hc:L[k]?=some c)(hd:L[k+2]?=some d)(hr:isRange c (L.drop (k+1))=true)(hp:okRange c d=true):ItemsAt L (X++rangeB c d) (k+3) false:=by
 have e:(L.drop (k+1)).getD 1 0=d:=by simp[List.getD,show k+1+1=k+2 from rfl,hd]
 unfold ItemsAt at *
 rw[h,drop_at hc,itemsF_range f _ _ hr (by rw[e];exact hp),e]
 simp[show k+1+2=k+3 from rfl];omega
theorem items_bad{L X:Bs}{k:Nat}{f:Bool}(h:ItemsAt L X k f)(c d:UInt8)(hc:L[k]?=some c)(hd:L[k+2]?=some d)(hr:isRange c (L.drop (k+1))=true)(hp:okRange c d=false):itemsF 0 true L=(X,k):=by
 have e:(L.drop (k+1)).getD 1 0=d:=by simp[List.getD,show k+1+1=k+2 from rfl,hd]
 refine items_done h ?_
 rw[drop_at hc,itemsF_bad f _ _ hr (by rw[e];exact hp)]
theorem items_stop{L X:Bs}{k:Nat}{f:Bool}(h:ItemsAt L X k f)(c:UInt8)(hc:L[k]?=some c)(hr:isRange c (L.drop (k+1))=false)(hp:plainC f c=false):itemsF 0 true L=(X,k):=by
 refine items_done h ?_
 rw[drop_at hc,itemsF_stop f _ _ hr hp]
theorem items_end{L X:Bs}{k:Nat}{f:Bool}(h:ItemsAt L X k f)(hk:L.length<=k):itemsF 0 true L=(X,k):=by
 refine items_done h ?_
 rw[List.drop_eq_nil_of_le hk,itemsF_end]
def rangeTo(c:UInt8)(x:Nat):Bs:=(List.range (x-c.toNat)).map fun i=>UInt8.ofNat (c.toNat + i)
theorem rangeTo_snoc(c:UInt8)(x:Nat)(h1:c.toNat<=x):rangeTo c (x+1)=rangeTo c x ++ [UInt8.ofNat x]:=by
 unfold rangeTo
 rw[show x+1-c.toNat = (x-c.toNat)+1 by omega,List.range_succ,List.map_append,List.map_cons,List.map_nil,show c.toNat + (x-c.toNat)=x by omega]
theorem rangeTo_zero(c:UInt8):rangeTo c c.toNat=[]:=by simp[rangeTo]
theorem rangeTo_all(c d:UInt8):rangeTo c (d.toNat + 1)=rangeB c d:=rfl
theorem byte_at(s:ByteArray)(k:Nat)(h:k<s.size):(toL s)[k]?=some (s[k]'h):=by
 rw[List.getElem?_eq_getElem (by rw[toL_length];exact h),toL_getElem s k h]
theorem conv_one(T:TypeId)(hT:Tryz.prog.underlying T=some .string)(w:World)(c:UInt8):(convert 50 T (.slice (some ⟨w.heap.size,0,none⟩) 1 1)).run Tryz.prog (w.alloc (.cells #[.int .u8 (num c)] 5))=.ok (.string ⟨#[c]⟩) (w.alloc (.cells #[.int .u8 (num c)] 5)) :=
 run_convert_bytes_back (P:=Tryz.prog) _ 50 T 5 ⟨w.heap.size,0,none⟩ 1 [c] Tryz.underlying50 Tryz.underlying5 hT (fun j hj=>by
  obtain rfl:j=0:=by simpa using hj
  simp[Addr.add])
theorem le_num(c d:UInt8):decide (c.toNat<=d.toNat) = !decide (num d<num c):=by
 rw[Bool.eq_iff_iff];simp only[num,decide_eq_true_eq,Bool.not_eq_true',decide_eq_false_iff_not];omega
theorem okRange_parts{c d:UInt8}(ha:isAl c=true)(h:okRange c d=true):decide (num d<num c)=false/\isLower (num d)=isLower (num c)/\isDigit (num d)=isDigit (num c)/\d.toNat<=122/\c.toNat<=d.toNat:=by
 have hd:=okRange_char ha h (x:=d) (by simp only[okRange,Bool.and_eq_true,decide_eq_true_eq]at h;exact h.1.1) (Nat.le_refl _)
 simp only[okRange,Bool.and_eq_true,le_num,beq_iff_eq,Bool.not_eq_true']at h
 refine⟨h.1.1,h.1.2.symm,h.2.symm,?_,?_⟩
 ·simp[isAl,isLower,isDigit]at hd;simp only[num]at hd;omega
 ·have:=h.1.1;simp at this;exact this
theorem bad_flags{c d:UInt8}(h:okRange c d=false)(h1:decide (num d<num c)=false)(h2:isLower (num d)=isLower (num c))(h3:isDigit (num d)=isDigit (num c)):False:=by
 have:okRange c d=true:=by
  unfold okRange
  rw[le_num,h1,h2,h3];simp
 rw[this]at h;cases h
theorem num_succ(x:UInt8)(h:x.toNat < 255):num (x+1)=num x+1:=by
 simp only[num,UInt8.toNat_add]
 have:(1:UInt8).toNat = 1:=rfl
 omega
theorem rangeTo_step(c x:UInt8)(h1:c.toNat<=x.toNat)(h:x.toNat < 255):rangeTo c (x+1).toNat = rangeTo c x.toNat ++ [x]:=by
 have:(x+1).toNat = x.toNat + 1:=by have:=num_succ x h;simp only[num]at this;omega
 rw[this,rangeTo_snoc c _ h1];simp
theorem wrap_u8(x:Int)(h0:0<=x)(h1:x<256):IntKind.u8.wrap x=x:=IntWalk.u8_in x ⟨h0,by omega⟩
theorem toL_app(a b:ByteArray):toL (a++b)=toL a++toL b:=by simp[toL]
set_option maxHeartbeats 4000000 in
set_option maxRecDepth 100000 in
theorem wm_items (s : ByteArray) (w : World) (hs : s.size ≤ 1000) :
    Calls Tryz.prog 184 #[.string s] w (ItemsPost (toL s) w) := by
  have HL := Lib.hid (toL_length s)
  have hcv := conv_one 9 Tryz.underlying9
  go_enter Tryz.func184, Tryz.ntmps184
  go_wp2_with fail
  go_loopw [2, 3] (fun v n wr => ∃ (k : Nat) (X : ByteArray), k ≤ s.size ∧ v = .string X ∧ n = .int .i64 k ∧ ItemsAt (toL s) (toL X) k (decide (k = 0)) ∧ X.size ≤ 256 * k ∧ Below w.heap.size w wr) (fun _ n _ => s.size - (intOf n).toNat)
  case atStart => exact ⟨0, ⟨#[]⟩, by omega, rfl, rfl, rfl, by decide, Below.refl _ _⟩
  case round =>
    obtain ⟨k, X, hk, rfl, rfl, hat, hX, hbel⟩ := hrel
    have HT := Lib.hid hat; clear hat
    by_cases hlt : k < s.size
    · have HC := Lib.hid (byte_at s k hlt)
      have HONE := Lib.hid (items_one HT.out _ HC.out)
      have HSTOP := Lib.hid (items_stop HT.out _ HC.out)
      have hk1 : (0 : Int) ≤ (k : Int) := by omega
      have hk2 : (k : Int) < (s.size : Int) := by omega
      rcases hal : isAl (s[k]'hlt) with _ | _
      · have hal2 : isLower (num (s[k]'hlt)) = false ∧ isDigit (num (s[k]'hlt)) = false := by simpa [isAl] using hal
        obtain ⟨h1, h2⟩ := hal2
        have HR := Lib.hid (isRange_no ((toL s).drop (k + 1)) _ hal)
        have HPL := Lib.hid (plainC_num (decide (k = 0)) (s[k]'hlt))
        rw [hal] at HPL
        clear hal
        obtain ⟨z, hz⟩ : ∃ z : Bool, z = decide (k = 0) := ⟨_, rfl⟩
        have hz' : ((k : Int) == 0) = z := by rw [hz, Bool.eq_iff_iff, beq_iff_eq, decide_eq_true_iff]; omega
        rw [← hz] at HPL HONE HSTOP
        clear hz
        rcases z with _ | _
        all_goals
          rcases e1 : (num (s[k]'hlt) == 43) with _ | _
          all_goals
            rcases e2 : (num (s[k]'hlt) == 95) with _ | _
            all_goals
              rcases e3 : (num (s[k]'hlt) == 46) with _ | _
              all_goals
                rcases e4 : (num (s[k]'hlt) == 45) with _ | _
                all_goals
                  rw [e1, e2, e3, e4] at HPL
                  go_wp2_with (first | (go_at_call 102; (with_reducible refine (asc_isLower _ _).mono ?_); rintro e w' ⟨rfl, rfl⟩) | (go_at_call 104; (with_reducible refine (asc_isDigit _ _).mono ?_); rintro e w' ⟨rfl, rfl⟩))
                  first
                    | (go_ret2; exact items_post (HSTOP.out HR.out HPL.out) hbel)
                    | (go_roundw
                       case rel => exact ⟨k + 1, _, by omega, rfl, by go_num, by rw [toL_app]; exact HONE.out HR.out HPL.out, by rw [app_size, one_size]; omega, hbel.trans (((Below.refl _ _).alloc (Nat.le_refl _) _).mono hbel.size)⟩
                       case measure => simp [intOf] <;> omega)
      · have HPL := Lib.hid (show plainC (decide (k = 0)) (s[k]'hlt) = true by simp [plainC, hal])
        have HAL := Lib.hid hal
        have hl3 : isLower (num (s[k]'hlt)) = true ∨ (isLower (num (s[k]'hlt)) = false ∧ isDigit (num (s[k]'hlt)) = true) := by
          rcases h : isLower (num (s[k]'hlt)) with _ | _
          · right; simpa [isAl, h] using hal
          · left; rfl
        clear hal
        by_cases hk3 : k + 2 < s.size
        · have hk4 : decide ((k : Int) + 2 < (s.size : Int)) = true := by simp; omega
          have hk5 : (0 : Int) ≤ (k : Int) + 1 := by omega
          have hk6 : (k : Int) + 1 < (s.size : Int) := by omega
          have hk7 : (0 : Int) ≤ (k : Int) + 2 := by omega
          have hk8 : (k : Int) + 2 < (s.size : Int) := by omega
          have hk9 : k + 1 < s.size := by omega
          have HRA := Lib.hid (isRange_at (toL s) k (s[k]'hlt) _ (byte_at s (k + 1) hk9))
          rw [HAL.out, HL.out, decide_eq_true hk3] at HRA
          have HRNG := Lib.hid (items_rng HT.out _ _ HC.out (byte_at s (k + 2) hk3))
          have HBAD := Lib.hid (items_bad HT.out _ _ HC.out (byte_at s (k + 2) hk3))
          rcases e45 : (num (s[k + 1]'hk9) == 45) with _ | _
          · rw [e45] at HRA
            rcases hl3 with h1 | ⟨h1, h2⟩
            all_goals
              go_wp2_with (first | (go_at_call 102; (with_reducible refine (asc_isLower _ _).mono ?_); rintro e w' ⟨rfl, rfl⟩) | (go_at_call 104; (with_reducible refine (asc_isDigit _ _).mono ?_); rintro e w' ⟨rfl, rfl⟩))
              go_roundw
              case rel => exact ⟨k + 1, _, by omega, rfl, by go_num, by rw [toL_app]; exact HONE.out HRA.out HPL.out, by rw [app_size, one_size]; omega, hbel.trans (((Below.refl _ _).alloc (Nat.le_refl _) _).mono hbel.size)⟩
              case measure => simp [intOf] <;> omega
          · rw [e45] at HRA
            have HRT := Lib.hid (show isRange (s[k]'hlt) ((toL s).drop (k + 1)) = true by rw [HRA.out]; rfl)
            clear HRA
            rcases hok : okRange (s[k]'hlt) (s[k + 2]'hk3) with _ | _
            · have HNO := Lib.hid (HBAD.out HRT.out hok)
              rcases Nat.lt_or_ge (s[k + 2]'hk3).toNat (s[k]'hlt).toNat with f1 | f1
              all_goals
                rcases f2 : isLower (num (s[k + 2]'hk3)) with _ | _
                all_goals
                  rcases f3 : isDigit (num (s[k + 2]'hk3)) with _ | _
                  all_goals
                    rcases f4 : isDigit (num (s[k]'hlt)) with _ | _
                    all_goals
                      rcases f5 : isLower (num (s[k]'hlt)) with _ | _
                      all_goals
                        first
                          | exact (bad_flags hok (by simp [num]; exact f1) (f2.trans f5.symm) (f3.trans f4.symm)).elim
                          | (exfalso; simp [f4, f5] at hl3; done)
                          | (clear hok hl3
                             go_wp2_with (first | (go_at_call 102; (with_reducible refine (asc_isLower _ _).mono ?_); rintro e w' ⟨rfl, rfl⟩) | (go_at_call 104; (with_reducible refine (asc_isDigit _ _).mono ?_); rintro e w' ⟨rfl, rfl⟩))
                             go_ret2
                             exact items_post HNO.out hbel)
            · have HYES := Lib.hid (HRNG.out HRT.out hok)
              obtain ⟨g1, g2, g3, g4, g5⟩ := okRange_parts HAL.out hok
              clear hok HBAD HRNG HONE HSTOP HPL
              obtain ⟨wo, rfl⟩ : ∃ wo : World, wo = wr := ⟨_, rfl⟩
              rcases hl3 with h1 | ⟨h1, h2⟩
              all_goals
                (try rw [h1] at g2)
                rcases f4 : isDigit (num (s[k]'hlt)) with _ | _
                all_goals
                  rw [f4] at g3
                  first
                    | (exfalso; simp [f4] at h2; done)
                    | ((try clear h2)
                       go_wp2_with (first | (go_at_call 102; (with_reducible refine (asc_isLower _ _).mono ?_); rintro e w' ⟨rfl, rfl⟩) | (go_at_call 104; (with_reducible refine (asc_isDigit _ _).mono ?_); rintro e w' ⟨rfl, rfl⟩))
                       go_loopw [2, 7] (fun v x wr => ∃ (y : UInt8) (Y : ByteArray), v = .string Y ∧ x = .int .u8 (num y) ∧ (s[k]'hlt).toNat ≤ y.toNat ∧ y.toNat ≤ (s[k + 2]'hk3).toNat + 1 ∧ toL Y = toL X ++ rangeTo (s[k]'hlt) y.toNat ∧ Y.size ≤ X.size + y.toNat ∧ Below w.heap.size w wr) (fun _ x _ => 256 - (intOf x).toNat)
                       case atStart => exact ⟨s[k]'hlt, X, rfl, rfl, Nat.le_refl _, by omega, by rw [rangeTo_zero]; simp, by omega, hbel⟩
                       case round =>
                         obtain ⟨y, Y, rfl, rfl, hy1, hy2, hY, hYs, hbel2⟩ := hrel
                         have HY := Lib.hid hY; clear hY
                         by_cases hyl : y.toNat ≤ (s[k + 2]'hk3).toNat
                         · have hy3 : decide (num y ≤ num (s[k + 2]'hk3)) = true := by simp [num]; omega
                           have HST := Lib.hid (rangeTo_step (s[k]'hlt) y hy1 (by omega))
                           have HNS := Lib.hid (num_succ y (by omega))
                           have hy4 : IntKind.u8.wrap (num y + 1) = num y + 1 := wrap_u8 _ (by simp only [num]; omega) (by simp only [num]; omega)
                           go_wp2_with fail
                           go_roundw
                           case rel => exact ⟨y + 1, _, rfl, by rw [HNS.out], by have := HNS.out; simp only [num] at this; omega, by have := HNS.out; simp only [num] at this; omega, by rw [toL_app, HY.out, HST.out]; simp [toL], by have := HNS.out; simp only [num] at this; rw [app_size, one_size]; omega, hbel2.trans (((Below.refl _ _).alloc (Nat.le_refl _) _).mono hbel2.size)⟩
                           case measure => simp [intOf, num] <;> omega
                         · have hy3 : decide (num y ≤ num (s[k + 2]'hk3)) = false := by simp [num]; omega
                           have HEQ := Lib.hid (show rangeTo (s[k]'hlt) y.toNat = rangeB (s[k]'hlt) (s[k + 2]'hk3) by rw [← rangeTo_all, show y.toNat = (s[k + 2]'hk3).toNat + 1 by omega])
                           go_wp2_with fail
                           go_roundw
                           case rel => exact ⟨k + 3, Y, by omega, rfl, by go_num, by rw [HY.out, HEQ.out]; exact HYES.out, by omega, hbel2⟩
                           case measure => simp [intOf] <;> omega)
        · have hk4 : decide ((k : Int) + 2 < (s.size : Int)) = false := by simp; omega
          have HRA := Lib.hid (isRange_end (toL s) k (s[k]'hlt) (by rw [HL.out]; exact hk3))
          rcases hl3 with h1 | ⟨h1, h2⟩
          all_goals
            go_wp2_with (first | (go_at_call 102; (with_reducible refine (asc_isLower _ _).mono ?_); rintro e w' ⟨rfl, rfl⟩) | (go_at_call 104; (with_reducible refine (asc_isDigit _ _).mono ?_); rintro e w' ⟨rfl, rfl⟩))
            go_roundw
            case rel => exact ⟨k + 1, _, by omega, rfl, by go_num, by rw [toL_app]; exact HONE.out HRA.out HPL.out, by rw [app_size, one_size]; omega, hbel.trans (((Below.refl _ _).alloc (Nat.le_refl _) _).mono hbel.size)⟩
            case measure => simp [intOf] <;> omega
    · have HE := Lib.hid (items_end HT.out (by rw [HL.out]; omega))
      go_wp2_with fail
      go_ret2
      exact items_post HE.out hbel
end Go.Proofs.YtannhfnpigiggaaGreatDoor
