import Derived.Test.YtannhfnpigiggaaGreatDoorPl26
import Derived.Test.YtannhfnpigiggaaGreatDoorPl27
namespace Go.Proofs.YtannhfnpigiggaaGreatDoor
set_option linter.unusedSimpArgs false
set_option linter.unusedVariables false
def parseG(L:Bs):Except (Nat × Nat × Int) (List RuleS):=if 65536<L.length then .error (0,0,5) else rulesG (linesM L) 0 0
def wWatchN:Bs := [119,97,116,99,104,10]
def watchL:Nat->Bs
 | 0=>[]
 | n+1=>wWatchN++watchL n
theorem watchL_length:∀n,(watchL n).length=6*n
 | 0=>rfl
 | n+1=>by rw[watchL,List.length_append,watchL_length n];simp[wWatchN];omega
theorem watchL_snoc:∀n,watchL (n+1)=watchL n++wWatchN
 | 0=>rfl
 | n+1=>by
  have h:=watchL_snoc n
  show wWatchN++watchL (n+1)=(wWatchN++watchL n)++wWatchN
  rw[h,List.append_assoc]
theorem lines_watch:∀n,linesM (watchL n)=List.replicate n wWatch ++ [[]]
 | 0=>rfl
 | n+1=>by
  have e:watchL (n+1)=wWatch++10::watchL n:=rfl
  rw[e,lines_some _ _ (by decide),lines_watch n,List.replicate_succ,List.cons_append]
def ruW:RuleS:=⟨wWatch,0,none,none⟩
theorem toks_watch:toksF wWatch=.ok [⟨1,wWatch,0,1⟩,⟨0, [],0,6⟩]:=by rfl
theorem line_watch(k:Nat):lineF wWatch k=if 200<=k then .error (1,9) else .ok ruW:=by
 unfold lineF
 rw[toks_watch]
 show(if 200<=k then _ else _)=_
 split
 ·rfl
 ·rfl
theorem rules_watch:∀n i m,m+n<=200->rulesG (List.replicate n wWatch ++ [[]]) i m=.ok (List.replicate n ruW)
 | 0,i,m,h=>by rfl
 | n+1,i,m,h=>by
  rw[List.replicate_succ,List.cons_append]
  unfold rulesG
  rw[if_neg (by decide),line_watch,if_neg (by omega),rules_watch n (i+1) (m+1) (by omega)]
  rfl
theorem rules_many:∀n i m,m<=200->200<m+n->rulesG (List.replicate n wWatch ++ [[]]) i m=.error (i+(200-m)+1,1,9)
 | 0,i,m,h,h2=>by omega
 | n+1,i,m,h,h2=>by
  rw[List.replicate_succ,List.cons_append]
  unfold rulesG
  rw[if_neg (by decide),line_watch]
  by_cases hm:m=200
  ·subst hm;rfl
  ·rw[if_neg (by omega),rules_many n (i+1) (m+1) (by omega) (by omega)]
   simp only
   congr 2;omega
theorem parse_watch(n:Nat)(h:n<=10000):parseG (watchL n)=if n<=200 then .ok (List.replicate n ruW) else .error (201,1,9):=by
 unfold parseG
 rw[if_neg (by rw[watchL_length];omega),lines_watch]
 split
 ·exact rules_watch n 0 0 (by omega)
 ·rw[rules_many n 0 0 (by omega) (by omega)]
theorem lines_nl:∀n,linesM (List.replicate n 10)=List.replicate (n+1) []
 | 0=>rfl
 | n+1=>by
  have e:(List.replicate (n+1) 10:Bs)=[]++10::List.replicate n 10:=rfl
  rw[e,lines_some _ _ (by simp),lines_nl n];rfl
theorem rules_nl:∀n i m,rulesG (List.replicate n []) i m=.ok []
 | 0,i,m=>rfl
 | n+1,i,m=>by
  rw[List.replicate_succ]
  unfold rulesG
  rw[if_pos (show idleF []=true from rfl)]
  exact rules_nl n (i+1) m
theorem parse_nl(n:Nat):parseG (List.replicate n 10)=if 65536<n then .error (0,0,5) else .ok []:=by
 unfold parseG
 rw[List.length_replicate]
 split
 ·rfl
 ·rw[lines_nl,rules_nl]
def ladL(d:Nat):Bs := [107,105,108,108,32,105,102,32]++((List.range d).flatMap fun i=>if i%2=0 then [110,111,116,32] else [40]) ++ [97,103,101,32,61,32,49]++List.replicate (d / 2) 41
end Go.Proofs.YtannhfnpigiggaaGreatDoor
namespace Go.Proofs.YtannhfnpigiggaaGreatDoor
set_option linter.unusedSimpArgs false
set_option linter.unusedVariables false
open Go.RowKit
structure InV(x:InS)(IC:Array Value)(A:Option Addr)(gc:Nat):Prop where
 size:IC.size=25
 c0:IC[0]?=some (.string (ofL x.name))
 c1:IC[1]?=some (.string (ofL x.subject))
 c2:IC[2]?=some (.string (ofL x.body))
 au:x.author.length=16
 cau:∀(i:Nat) (h:i<x.author.length),IC[3+i]?=some (.int .u8 (num x.author[i]))
 c19:IC[19]?=some (.slice A x.groups.length gc)
 c20:IC[20]?=some (.int .i64 x.age)
 c21:IC[21]?=some (.int .i64 x.bytes)
 c22:IC[22]?=some (.int .i64 x.lines)
 c23:IC[23]?=some (.int .i64 x.depth)
 c24:IC[24]?=some (.int .i64 x.answers)
 one:∀v∈IC.toList,v.oneCell'=true
 s0:x.name.length<=1000000
 s1:x.subject.length<=1000000
 s2:x.body.length<=1000000
 gn:x.groups.length<=1000
 gs:∀g∈x.groups,g.length<=1000
abbrev inB(w:World)(IC:Array Value):World:=w.alloc (.cells IC 26)
theorem in_cell{w:World}{IC:Array Value}{b i:Nat}{v:Value}(h:w.heap[b]?=some (.cells IC 26 (0,0)))(hi:IC[i]?=some v):w.cell? ⟨b,i,none⟩=some v:=by
 rw[Lib.cell_of_heap h];exact hi
theorem in_new(w:World)(IC:Array Value):(inB w IC).heap[w.heap.size]?=some (.cells IC 26 (0,0)):=heap_alloc_new _ _
set_option maxHeartbeats 2000000 in
theorem in_age{x:InS}{IC:Array Value}{A:Option Addr}{gc:Nat}(h:InV x IC A gc)(w:World):Calls Tryz.prog 167 #[.agg IC] w fun e w'=>e=.returned (.int .i64 x.age)/\Below w.heap.size w w':=by
 have c:=in_cell (in_new w IC) h.c20
 have HB:=Lib.hid (alloc_bel w (.cells IC 26))
 clear h
 go_enter Tryz.func167,Tryz.ntmps167
 go_wp2_with fail
 go_ret
 exact⟨rfl,HB.out⟩
set_option maxHeartbeats 2000000 in
theorem in_bytes{x:InS}{IC:Array Value}{A:Option Addr}{gc:Nat}(h:InV x IC A gc)(w:World):Calls Tryz.prog 168 #[.agg IC] w fun e w'=>e=.returned (.int .i64 x.bytes)/\Below w.heap.size w w':=by
 have c:=in_cell (in_new w IC) h.c21
 have HB:=Lib.hid (alloc_bel w (.cells IC 26))
 clear h
 go_enter Tryz.func168,Tryz.ntmps168
 go_wp2_with fail
 go_ret
 exact⟨rfl,HB.out⟩
set_option maxHeartbeats 2000000 in
theorem in_lines{x:InS}{IC:Array Value}{A:Option Addr}{gc:Nat}(h:InV x IC A gc)(w:World):Calls Tryz.prog 169 #[.agg IC] w fun e w'=>e=.returned (.int .i64 x.lines)/\Below w.heap.size w w':=by
 have c:=in_cell (in_new w IC) h.c22
 have HB:=Lib.hid (alloc_bel w (.cells IC 26))
 clear h
 go_enter Tryz.func169,Tryz.ntmps169
 go_wp2_with fail
 go_ret
 exact⟨rfl,HB.out⟩
set_option maxHeartbeats 2000000 in
theorem in_depth{x:InS}{IC:Array Value}{A:Option Addr}{gc:Nat}(h:InV x IC A gc)(w:World):Calls Tryz.prog 170 #[.agg IC] w fun e w'=>e=.returned (.int .i64 x.depth)/\Below w.heap.size w w':=by
 have c:=in_cell (in_new w IC) h.c23
 have HB:=Lib.hid (alloc_bel w (.cells IC 26))
 clear h
 go_enter Tryz.func170,Tryz.ntmps170
 go_wp2_with fail
 go_ret
 exact⟨rfl,HB.out⟩
set_option maxHeartbeats 2000000 in
theorem in_answers{x:InS}{IC:Array Value}{A:Option Addr}{gc:Nat}(h:InV x IC A gc)(w:World):Calls Tryz.prog 171 #[.agg IC] w fun e w'=>e=.returned (.int .i64 x.answers)/\Below w.heap.size w w':=by
 have c:=in_cell (in_new w IC) h.c24
 have HB:=Lib.hid (alloc_bel w (.cells IC 26))
 clear h
 go_enter Tryz.func171,Tryz.ntmps171
 go_wp2_with fail
 go_ret
 exact⟨rfl,HB.out⟩
set_option maxHeartbeats 2000000 in
theorem in_name{x:InS}{IC:Array Value}{A:Option Addr}{gc:Nat}(h:InV x IC A gc)(w:World):Calls Tryz.prog 172 #[.agg IC] w fun e w'=>e=.returned (.string (ofL x.name))/\Below w.heap.size w w':=by
 have c:=in_cell (in_new w IC) h.c0
 have HB:=Lib.hid (alloc_bel w (.cells IC 26))
 clear h
 go_enter Tryz.func172,Tryz.ntmps172
 go_wp2_with fail
 go_ret
 exact⟨rfl,HB.out⟩
set_option maxHeartbeats 2000000 in
theorem in_subject{x:InS}{IC:Array Value}{A:Option Addr}{gc:Nat}(h:InV x IC A gc)(w:World):Calls Tryz.prog 173 #[.agg IC] w fun e w'=>e=.returned (.string (ofL x.subject))/\Below w.heap.size w w':=by
 have c:=in_cell (in_new w IC) h.c1
 have HB:=Lib.hid (alloc_bel w (.cells IC 26))
 clear h
 go_enter Tryz.func173,Tryz.ntmps173
 go_wp2_with fail
 go_ret
 exact⟨rfl,HB.out⟩
set_option maxHeartbeats 2000000 in
theorem in_body{x:InS}{IC:Array Value}{A:Option Addr}{gc:Nat}(h:InV x IC A gc)(w:World):Calls Tryz.prog 174 #[.agg IC] w fun e w'=>e=.returned (.string (ofL x.body))/\Below w.heap.size w w':=by
 have c:=in_cell (in_new w IC) h.c2
 have HB:=Lib.hid (alloc_bel w (.cells IC 26))
 clear h
 go_enter Tryz.func174,Tryz.ntmps174
 go_wp2_with fail
 go_ret
 exact⟨rfl,HB.out⟩
theorem in_num{x:InS}{IC:Array Value}{A:Option Addr}{gc:Nat}(h:InV x IC A gc){f:Bs}(hf:f∈numFs)(w:World):Calls Tryz.prog (numFn f) #[.agg IC] w fun e w'=>e=.returned (.int .i64 (numOf f x))/\Below w.heap.size w w':=by
 simp only[numFs,List.mem_cons,List.not_mem_nil,or_false]at hf
 rcases hf with rfl|rfl|rfl|rfl|rfl
 ·exact in_age h w
 ·exact in_bytes h w
 ·exact in_lines h w
 ·exact in_depth h w
 ·exact in_answers h w
theorem in_txt{x:InS}{IC:Array Value}{A:Option Addr}{gc:Nat}(h:InV x IC A gc){f:Bs}(hf:f∈txtFs)(w:World):Calls Tryz.prog (txtFn f) #[.agg IC] w fun e w'=>e=.returned (.string (ofL (txtOf f x)))/\Below w.heap.size w w':=by
 simp only[txtFs,List.mem_cons,List.not_mem_nil,or_false]at hf
 rcases hf with rfl|rfl|rfl
 ·exact in_name h w
 ·exact in_subject h w
 ·exact in_body h w
theorem num_enters{f:Bs}(hf:f∈numFs):∀args w,(callFunc (numFn f) args).run Tryz.prog w=.ok (.enter (numFn f) args) w:=by
 simp only[numFs,List.mem_cons,List.not_mem_nil,or_false]at hf
 rcases hf with rfl|rfl|rfl|rfl|rfl
 ·exact Tryz.call167
 ·exact Tryz.call168
 ·exact Tryz.call169
 ·exact Tryz.call170
 ·exact Tryz.call171
theorem txt_enters{f:Bs}(hf:f∈txtFs):∀args w,(callFunc (txtFn f) args).run Tryz.prog w=.ok (.enter (txtFn f) args) w:=by
 simp only[txtFs,List.mem_cons,List.not_mem_nil,or_false]at hf
 rcases hf with rfl|rfl|rfl
 ·exact Tryz.call172
 ·exact Tryz.call173
 ·exact Tryz.call174
def OkIn(w:World)(v:Value):Prop := ∃u,(Instr.loadAt 26 v).run Tryz.prog w=.ok u w
noncomputable def inOf(w:World)(v:Value):Value:=by
 classical exact if h:OkIn w v then h.choose else undef
theorem in_of{w:World}{v u:Value}(h:(Instr.loadAt 26 v).run Tryz.prog w=.ok u w):OkIn w v/\inOf w v=u:=by
 have hk:OkIn w v:=⟨u,h⟩
 refine⟨hk,?_⟩
 have h2:=h.symm.trans hk.choose_spec
 unfold inOf
 rw[dif_pos hk]
 injection h2 with h2 _
 exact h2.symm
theorem wp_load_in{d:Option Tmp}{ty:TypeId}{pos:String}{af:Array Edge}{x:Operand}{a:Act}{w:World}{K:Act->World->Prop}{Q:Exit->Act->World->Prop}{g:Option (Nat × Bool)}(h:OkIn w (a.eval x)) :
  Oper.wp Tryz.prog { dst:=d,op:=.load 26 x,type:=ty,pos:=pos,after:=af,guard:=g } a w K Q=K (a.put d (inOf w (a.eval x))) w:=by
 obtain⟨u,hu⟩:=h
 rw[(in_of hu).2]
 unfold Oper.wp execOp
 simp only[hu,Sem.run_bind,Sem.run_pure,Result.andThen_ok]
 rfl
theorem size_In:(Tryz.prog.info? 26).map (·.size)=some 25:=by kernel_rfl
theorem in_load{w:World}{IC:Array Value}{b:Nat}(h:w.heap[b]?=some (.cells IC 26 (0,0)))(hs:IC.size=25):(Instr.loadAt 26 (.pointer (some ⟨b,0,none⟩))).run Tryz.prog w=.ok (.agg IC) w:=by
 have hr:w.rangeAt b 0 IC.toList:=fun j v hv=>by
  rw[Nat.zero_add,Lib.cell_of_heap h];simpa using hv
 have:=range_loadS (T:=26) hr Tryz.underlying26 rfl (by rw[size_In];simp[hs])
 simpa using this
attribute [local go_sem ↓] wp_load_in
def HoP(q:Bool)(w:World)(e:Ending)(w':World):Prop:=e=.returned (.bool q)/\Below w.heap.size w w'
theorem two_new(w:World)(o1 o2:Obj):((w.alloc o1).alloc o2).heap[w.heap.size]?=some o1/\((w.alloc o1).alloc o2).heap[w.heap.size+1]?=some o2/\Below w.heap.size w ((w.alloc o1).alloc o2)/\((w.alloc o1).alloc o2).heap.size=w.heap.size+2:=by
 have b1:=alloc_bel w o1
 have b2:=alloc_bel (w.alloc o1) o2
 have z1:(w.alloc o1).heap.size=w.heap.size+1:=by simp
 refine⟨(b2.block _ (by omega)).trans (heap_alloc_new w o1),by rw[<-z1];exact heap_alloc_new _ _,b1.trans (b2.mono b1.size),by simp⟩
set_option maxHeartbeats 4000000 in
set_option maxRecDepth 100000 in
theorem h_cmp{x:InS}{IC:Array Value}{A:Option Addr}{gc:Nat}(h:InV x IC A gc){f op:Bs}{n:Nat}(hf:f∈numFs)(ho:op∈cmpOps)(w:World) :
  Calls Tryz.prog 210 #[.agg #[.string (ofL f),.func (.func (numFn f)) #[] #[],.string (ofL op),.int .i64 (n:Int)],.agg IC] w (HoP (cmpS (numOf f x) op n) w):=by
 have HN:=Lib.hid (fun wx=>in_num h hf wx)
 have hen:=num_enters hf
 obtain⟨FS,hFS⟩:∃FS,ofL f=FS:=⟨_,rfl⟩
 obtain⟨OS,hOS⟩:∃OS,ofL op=OS:=⟨_,rfl⟩
 have E1:=Lib.hid (act_eq op [61])
 have E2:=Lib.hid (act_eq op [33,61])
 have E3:=Lib.hid (act_eq op [60])
 have E4:=Lib.hid (act_eq op [60,61])
 have E5:=Lib.hid (act_eq op [62])
 have HSZ:=Lib.hid h.size
 rw[hFS,hOS]
 rw[hOS]at E1 E2 E3 E4 E5
 clear hFS hOS hf h
 generalize numOf f x=a at *
 generalize numFn f=F at *
 obtain⟨Q,hQ⟩:∃Q,cmpS a op n=Q:=⟨_,rfl⟩
 have HQ:=Lib.hid hQ
 rw[hQ]
 clear hQ
 simp only[cmpOps,List.mem_cons,List.not_mem_nil,or_false]at ho
 go_enter Tryz.func210,Tryz.ntmps210
 go_upto_region 1 with fail
 obtain⟨q0,q1,q2,q3⟩:=two_new w (.cells #[.string FS,.func (.func F) #[] #[],.string OS,.int .i64 (n:Int)] 162) (.cells IC 26)
 have HB:=Lib.hid q2
 have c1:((w.alloc (.cells #[.string FS,.func (.func F) #[] #[],.string OS,.int .i64 (n:Int)] 162)).alloc (.cells IC 26)).cell? ⟨w.heap.size,1,none⟩=some (.func (.func F) #[] #[]):=by rw[Lib.cell_of_heap q0];rfl
 have c2:((w.alloc (.cells #[.string FS,.func (.func F) #[] #[],.string OS,.int .i64 (n:Int)] 162)).alloc (.cells IC 26)).cell? ⟨w.heap.size,2,none⟩=some (.string OS):=by rw[Lib.cell_of_heap q0];rfl
 have c3:((w.alloc (.cells #[.string FS,.func (.func F) #[] #[],.string OS,.int .i64 (n:Int)] 162)).alloc (.cells IC 26)).cell? ⟨w.heap.size,3,none⟩=some (.int .i64 (n:Int)):=by rw[Lib.cell_of_heap q0];rfl
 obtain⟨o1,e1⟩:=in_of (in_load q1 HSZ.out)
 have hz:w.heap.size<((w.alloc (.cells #[.string FS,.func (.func F) #[] #[],.string OS,.int .i64 (n:Int)] 162)).alloc (.cells IC 26)).heap.size:=by omega
 clear q0 q1 q2 q3
 generalize (w.alloc (.cells #[.string FS,.func (.func F) #[] #[],.string OS,.int .i64 (n:Int)] 162)).alloc (.cells IC 26)=W at *
 rcases ho with rfl|rfl|rfl|rfl|rfl|rfl
 all_goals
  first|(have f1:(OS.toList == [61])=true:=(by rw[E1.out];decide))|(have f1:(OS.toList == [61])=false:=(by rw[E1.out];decide))
  first|(have f2:(OS.toList == [33,61])=true:=(by rw[E2.out];decide))|(have f2:(OS.toList == [33,61])=false:=(by rw[E2.out];decide))
  first|(have f3:(OS.toList == [60])=true:=(by rw[E3.out];decide))|(have f3:(OS.toList == [60])=false:=(by rw[E3.out];decide))
  first|(have f4:(OS.toList == [60,61])=true:=(by rw[E4.out];decide))|(have f4:(OS.toList == [60,61])=false:=(by rw[E4.out];decide))
  first|(have f5:(OS.toList == [62])=true:=(by rw[E5.out];decide))|(have f5:(OS.toList == [62])=false:=(by rw[E5.out];decide))
  go_wp2_with ((with_reducible refine(HN.out _).mono ?_);rintro e w2 ⟨rfl,hb2⟩;have HB2:=Lib.hid (HB.out.trans (hb2.mono HB.out.size));have d2:=(hb2.cell (p:=⟨w.heap.size,2,none⟩) hz).trans c2;have d3:=(hb2.cell (p:=⟨w.heap.size,3,none⟩) hz).trans c3;clear hb2)
  go_ret
  refine⟨ret_bool ?_,HB2.out⟩
  rw[<-HQ.out,Bool.eq_iff_iff]
  simp[cmpS]
attribute [local go_sem ↓] wp_load_in
theorem index_inL:∀(s p:Bs),decide (0<=Lib.index s p)=inL s p
 | [],p=>by
  unfold Lib.index inL
  cases p<;>simp
 | c::r,p=>by
  have ih:=index_inL r p
  unfold Lib.index inL
  cases h:p.isPrefixOf (c::r)
  ·rw[Bool.false_or, ← ih]
   simp only[h,Bool.false_eq_true,if_false]
   by_cases h1:Lib.index r p = -1
   ·simp[h1]
   ·have:decide (0<=Lib.index r p+1)=decide (0<=Lib.index r p):=by
     rw[Bool.eq_iff_iff]
     simp only[decide_eq_true_eq]
     constructor
     ·intro h2;omega
     ·intro h2;omega
    simp[h1,this]
  ·simp[h]
set_option maxHeartbeats 1000000 in
set_option maxRecDepth 100000 in
theorem asc_indexFold(a b:ByteArray)(w:World)(ha:a.size<=1000000)(hb:b.size<=1000000)(hsh:w.ShapedOpen Tryz.prog) :
  Calls Tryz.prog 213 #[.string a,.string b] w fun e w'=>(∃i:Int,e=.returned (.int .i64 i)/\decide (0<=i)=inL (lowerL (toL a)) (lowerL (toL b)))/\Below w.heap.size w w':=by
 have HA:=Lib.hid (asc_lower a w (by unfold maxLen;omega))
 have HB:=Lib.hid (fun wx=>asc_lower b wx (by unfold maxLen;omega))
 have hla:(ofL (lowerL (toL a))).size<4294967281:=by rw[ofL_size,lowerL_length,toL_length];omega
 have HI:=Lib.hid (fun wx (hx:Below w.heap.size w wx)=>Tryz.strings_Index_shaped (ofL (lowerL (toL a))) (ofL (lowerL (toL b))) wx (shaped_below hsh hx) hla)
 have HV:=Lib.hid (index_inL (lowerL (toL a)) (lowerL (toL b)))
 clear hsh hla
 obtain⟨LA,hLA⟩:∃LA,ofL (lowerL (toL a))=LA:=⟨_,rfl⟩
 obtain⟨LB,hLB⟩:∃LB,ofL (lowerL (toL b))=LB:=⟨_,rfl⟩
 have HLA:=Lib.hid (show LA.data.toList=lowerL (toL a) from by rw[<-hLA];rfl)
 have HLB:=Lib.hid (show LB.data.toList=lowerL (toL b) from by rw[<-hLB];rfl)
 rw[hLA]at HA HI
 rw[hLB]at HI
 have HB2:=Lib.hid (show ∀wx,Calls Tryz.prog 214 #[.string b] wx fun e w'=>e=.returned (.string LB)/\Below wx.heap.size wx w' from hLB ▸ HB.out)
 clear hLA hLB HB
 go_enter Tryz.func213,Tryz.ntmps213
 go_wp2_with (first
  | (go_at_call 76;(with_reducible refine(HI.out _ HBB.out).mono ?_);rintro e w3 ⟨rfl,rfl⟩)
  | ((with_reducible refine HA.out.mono ?_);rintro e w1 ⟨rfl,hb1⟩;have HB1:=Lib.hid hb1;clear hb1)
  | ((with_reducible refine(HB2.out _).mono ?_);rintro e w2 ⟨rfl,hb2⟩;have HBB:=Lib.hid (HB1.out.trans (hb2.mono HB1.out.size));clear hb2))
 go_ret
 exact⟨⟨_,rfl,by rw[HLA.out,HLB.out];exact HV.out⟩,HBB.out⟩
attribute [local go_sem ↓] wp_load_in
abbrev TxP(W:World)(b:Nat)(TS:ByteArray)(wx:World):Prop:=wx.cell? ⟨b,3,none⟩=some (.string TS)/\Below W.heap.size W wx
theorem TxP.later{W wx wy:World}{b:Nat}{TS:ByteArray}(h:TxP W b TS wx)(hb:Below wx.heap.size wx wy)(hz:b<W.heap.size):TxP W b TS wy :=
 ⟨(hb.cell (p:=⟨b,3,none⟩) (Nat.lt_of_lt_of_le hz h.2.size)).trans h.1,h.2.trans (hb.mono h.2.size)⟩
set_option maxHeartbeats 8000000 in
set_option maxRecDepth 100000 in
theorem h_txt{x:InS}{IC:Array Value}{A:Option Addr}{gc:Nat}(h:InV x IC A gc){f m t:Bs}(hf:f∈txtFs)(hm:m∈modesL)(ht:t.length<=1000000)(w:World)(hsh:w.ShapedOpen Tryz.prog) :
  Calls Tryz.prog 211 #[.agg #[.string (ofL f),.func (.func (txtFn f)) #[] #[],.string (ofL m),.string (ofL t)],.agg IC] w (HoP (txtS m (txtOf f x) t) w):=by
 have HN:=Lib.hid (fun wx=>in_txt h hf wx)
 have hen:=txt_enters hf
 have hxs:(txtOf f x).length<=1000000:=by
  have h0:=h.s0;have h1:=h.s1;have h2:=h.s2
  unfold txtOf
  split
  ·exact h0
  ·split
   ·exact h1
   ·exact h2
 have HSH:=Lib.hid hsh
 have HSZ:=Lib.hid h.size
 clear hsh
 obtain⟨FS,hFS⟩:∃FS,ofL f=FS:=⟨_,rfl⟩
 obtain⟨MS,hMS⟩:∃MS,ofL m=MS:=⟨_,rfl⟩
 obtain⟨TS,hTS⟩:∃TS,ofL t=TS:=⟨_,rfl⟩
 obtain⟨XS,hXS⟩:∃XS,ofL (txtOf f x)=XS:=⟨_,rfl⟩
 have E1:=Lib.hid (act_eq m wIs)
 have E2:=Lib.hid (act_eq m wHas)
 rw[hMS]at E1 E2
 have HT:=Lib.hid (show toL TS=t from by rw[<-hTS,toL_ofL])
 have HX:=Lib.hid (show toL XS=txtOf f x from by rw[<-hXS,toL_ofL])
 have hts:TS.size<=1000000:=by rw[<-hTS,ofL_size];exact ht
 have hxz:XS.size<=1000000:=by rw[<-hXS,ofL_size];exact hxs
 rw[hXS]at HN
 rw[hFS,hMS,hTS, ← HX.out, ← HT.out]
 clear hFS hMS hTS hXS hf h hxs ht HX HT
 generalize txtFn f=F at *
 have HEF:=Lib.hid (fun wx=>asc_equalFold XS TS wx (by unfold maxLen;omega) (by unfold maxLen;omega))
 have HIF:=Lib.hid (fun wx (hx:Below w.heap.size w wx)=>asc_indexFold XS TS wx hxz hts (shaped_below HSH.out hx))
 clear HSH
 go_enter Tryz.func211,Tryz.ntmps211
 go_upto_region 1 with fail
 obtain⟨q0,q1,q2,q3⟩:=two_new w (.cells #[.string FS,.func (.func F) #[] #[],.string MS,.string TS] 165) (.cells IC 26)
 have HB:=Lib.hid q2
 have c1:((w.alloc (.cells #[.string FS,.func (.func F) #[] #[],.string MS,.string TS] 165)).alloc (.cells IC 26)).cell? ⟨w.heap.size,1,none⟩=some (.func (.func F) #[] #[]):=by rw[Lib.cell_of_heap q0];rfl
 have c2:((w.alloc (.cells #[.string FS,.func (.func F) #[] #[],.string MS,.string TS] 165)).alloc (.cells IC 26)).cell? ⟨w.heap.size,2,none⟩=some (.string MS):=by rw[Lib.cell_of_heap q0];rfl
 have c3:((w.alloc (.cells #[.string FS,.func (.func F) #[] #[],.string MS,.string TS] 165)).alloc (.cells IC 26)).cell? ⟨w.heap.size,3,none⟩=some (.string TS):=by rw[Lib.cell_of_heap q0];rfl
 obtain⟨o1,e1⟩:=in_of (in_load q1 HSZ.out)
 have hz:w.heap.size<((w.alloc (.cells #[.string FS,.func (.func F) #[] #[],.string MS,.string TS] 165)).alloc (.cells IC 26)).heap.size:=by omega
 clear q0 q1 q2 q3
 generalize (w.alloc (.cells #[.string FS,.func (.func F) #[] #[],.string MS,.string TS] 165)).alloc (.cells IC 26)=W at *
 simp only[modesL,List.mem_cons,List.not_mem_nil,or_false]at hm
 rcases hm with rfl|rfl|rfl
 ·have f1:(MS.toList == [105,115])=true:=E1.out.trans (by decide)
  have HV:=Lib.hid (show txtS wIs (toL XS) (toL TS)=foldEq (toL XS) (toL TS) from rfl)
  generalize foldEq (toL XS) (toL TS)=q at *
  go_wp2_with (first
   | (go_at_call 212;(with_reducible refine(HEF.out _).mono ?_);rintro e w3 ⟨rfl,hb3⟩;have HB3:=Lib.hid (HB2.out.trans (hb3.mono HB2.out.size));clear hb3)
   | ((with_reducible refine(HN.out _).mono ?_);rintro e w2 ⟨rfl,hb2⟩;have HB2:=Lib.hid (HB.out.trans (hb2.mono HB.out.size));have d2:=(hb2.cell (p:=⟨w.heap.size,2,none⟩) hz).trans c2;have d3:=(hb2.cell (p:=⟨w.heap.size,3,none⟩) hz).trans c3;clear hb2))
  go_ret
  exact⟨ret_bool HV.out.symm,HB3.out⟩
 ·have f1:(MS.toList == [105,115])=false:=E1.out.trans (by decide)
  have f2:(MS.toList == [104,97,115])=true:=E2.out.trans (by decide)
  have HV:=Lib.hid (show txtS wHas (toL XS) (toL TS)=inL (lowerL (toL XS)) (lowerL (toL TS)) from rfl)
  generalize inL (lowerL (toL XS)) (lowerL (toL TS))=q at *
  go_wp2_with (first
   | (go_at_call 213;(with_reducible refine(HIF.out _ HB2.out).mono ?_);rintro e w3 ⟨⟨i,rfl,hi⟩,hb3⟩;have HI:=Lib.hid hi;have HB3:=Lib.hid (HB2.out.trans (hb3.mono HB2.out.size));clear hb3 hi)
   | ((with_reducible refine(HN.out _).mono ?_);rintro e w2 ⟨rfl,hb2⟩;have HB2:=Lib.hid (HB.out.trans (hb2.mono HB.out.size));have d2:=(hb2.cell (p:=⟨w.heap.size,2,none⟩) hz).trans c2;have d3:=(hb2.cell (p:=⟨w.heap.size,3,none⟩) hz).trans c3;clear hb2))
  go_ret
  exact⟨ret_bool (HI.out.trans HV.out.symm),HB3.out⟩
 ·have f1:(MS.toList == [105,115])=false:=E1.out.trans (by decide)
  have f2:(MS.toList == [104,97,115])=false:=E2.out.trans (by decide)
  have HL:=Lib.hid (show(toL XS).length=XS.size/\(toL TS).length=TS.size from⟨toL_length _,toL_length _⟩)
  have HV:=Lib.hid (show txtS wBegins (toL XS) (toL TS)=(decide ((toL TS).length<=(toL XS).length)&&foldEq ((toL XS).take (toL TS).length) (toL TS)) from rfl)
  rw[HL.out.1,HL.out.2]at HV
  by_cases hle:TS.size<=XS.size
  ·rw[decide_eq_true hle,Bool.true_and]at HV
   have hle':decide (TS.size<=XS.size)=true:=decide_eq_true hle
   have HE2:=Lib.hid (fun wx=>asc_equalFold (XS.extract 0 TS.size) TS wx (by rw[ByteArray.size_extract];unfold maxLen;omega) (by unfold maxLen;omega))
   rw[show toL (XS.extract 0 TS.size)=(toL XS).take TS.size from by rw[extract_toL];unfold cutL;simp]at HE2
   generalize foldEq ((toL XS).take TS.size) (toL TS)=q at *
   go_upto_region 7 with(((with_reducible refine(HN.out _).mono ?_);rintro e w2 ⟨rfl,hb2⟩;have HB2:=Lib.hid (HB.out.trans (hb2.mono HB.out.size));have d2:=(hb2.cell (p:=⟨w.heap.size,2,none⟩) hz).trans c2;have d3:=(hb2.cell (p:=⟨w.heap.size,3,none⟩) hz).trans c3;have hz2:=Nat.lt_of_lt_of_le hz hb2.size;clear hb2))
   have HK:=Lib.hid (show TxP w2 w.heap.size TS w2.drew from⟨d3,(Below.refl _ _).drew⟩)
   go_region_held3 (fun w'=>w'.cell? ⟨w.heap.size,3,none⟩=some (.string TS)/\Below w2.heap.size w2 w')
    (first|exact HK.out|exact TxP.later (by assumption) hb5 hz2)
    ((go_at_call 212;(with_reducible refine(HE2.out _).mono ?_);rintro e w5 ⟨rfl,hb5⟩))
   rename_i hS
   go_wp2_with fail
   go_ret
   exact⟨ret_bool HV.out.symm,HB2.out.trans (hS.2.mono HB2.out.size)⟩
  ·rw[decide_eq_false hle,Bool.false_and]at HV
   have hle':decide (TS.size<=XS.size)=false:=decide_eq_false hle
   go_upto_region 7 with(((with_reducible refine(HN.out _).mono ?_);rintro e w2 ⟨rfl,hb2⟩;have HB2:=Lib.hid (HB.out.trans (hb2.mono HB.out.size));have d2:=(hb2.cell (p:=⟨w.heap.size,2,none⟩) hz).trans c2;have d3:=(hb2.cell (p:=⟨w.heap.size,3,none⟩) hz).trans c3;have hz2:=Nat.lt_of_lt_of_le hz hb2.size;clear hb2))
   go_quiet (fail)
   go_wp2_with fail
   go_ret
   exact⟨ret_bool HV.out.symm,HB2.out.trans ((below_drewN (Below.refl w2.heap.size w2) nq).mono HB2.out.size)⟩
abbrev xC(k:Int)(L:Value)(f op:ByteArray)(n:Int)(t:ByteArray):Array Value:=#[.int .u8 k,L,.string f,.string op,.int .i64 n,.string t]
inductive XIn (A:Nat->Prop) (w:World):Cond->Array Value->Prop
 | either {l:List Cond} {vs:List (Array Value)} {b off c:Nat} (hl:vs.length=l.length) (hp:0<l.length) (hm:l.length<=2000000) (hb:A b) (hr:Row w (some ⟨b,off,none⟩) (vs.flatMap (·.toList))) (hs:∀(i:Nat) (h1:i<l.length) (h2:i<vs.length),XIn A w l[i] vs[i]):XIn A w (.either l) (xC 111 (.slice (some ⟨b,off,none⟩) l.length c) ⟨#[]⟩ ⟨#[]⟩ 0 ⟨#[]⟩)
 | both {l:List Cond} {vs:List (Array Value)} {b off c:Nat} (hl:vs.length=l.length) (hp:0<l.length) (hm:l.length<=2000000) (hb:A b) (hr:Row w (some ⟨b,off,none⟩) (vs.flatMap (·.toList))) (hs:∀(i:Nat) (h1:i<l.length) (h2:i<vs.length),XIn A w l[i] vs[i]):XIn A w (.both l) (xC 97 (.slice (some ⟨b,off,none⟩) l.length c) ⟨#[]⟩ ⟨#[]⟩ 0 ⟨#[]⟩)
 | neg {x:Cond} {v:Array Value} {b off c:Nat} (hb:A b) (hr:Row w (some ⟨b,off,none⟩) v.toList) (h:XIn A w x v):XIn A w (.neg x) (xC 110 (.slice (some ⟨b,off,none⟩) 1 c) ⟨#[]⟩ ⟨#[]⟩ 0 ⟨#[]⟩)
 | cmp {f op:Bs} {n:Nat} (hf:f∈numFs) (ho:op∈cmpOps) (hn:n<=2147483647):XIn A w (.cmp f op n) (xC 116 (.slice none 0 0) (ofL f) (ofL op) (n:Int) ⟨#[]⟩)
 | txt {f m t:Bs} (hf:f∈txtFs) (hm:m∈modesL) (ht:t.length<=1000000):XIn A w (.txt f m t) (xC 116 (.slice none 0 0) (ofL f) (ofL m) 0 (ofL t))
 | auth {t:Bs} (ht:authB t=true):XIn A w (.auth t) (xC 116 (.slice none 0 0) (ofL wAuthor) (ofL wIs) 0 (ofL t))
 | grp {t:Bs} (ht:(compF t).2.2=0) (hl:t.length<=1000000):XIn A w (.grp t) (xC 116 (.slice none 0 0) (ofL wGroup) (ofL wIs) 0 (ofL t))
theorem row_blk{w w':World}{b off:Nat}{vs:List Value}(h:Row w (some ⟨b,off,none⟩) vs)(hk:w'.heap[b]?=w.heap[b]?)(hz:w.heap.size<=w'.heap.size):Row w' (some ⟨b,off,none⟩) vs:=by
 rcases h with h|⟨bb,o,e,hlt,hc⟩
 ·exact .inl h
 ·injection e with e;injection e with e1 e2;subst e1;subst e2
  exact .inr ⟨b,off,rfl,Nat.lt_of_lt_of_le hlt hz,fun j v hv=>by rw[World.cell?_of_block (a:=⟨b,off+j,none⟩) hk];exact hc j v hv⟩
theorem XIn.keep{A:Nat->Prop}{w w':World}{x:Cond}{v:Array Value}(h:XIn A w x v)(hk:∀k,A k->w'.heap[k]?=w.heap[k]?)(hz:w.heap.size<=w'.heap.size):XIn A w' x v:=by
 induction h with
 | either hl hp hm hb hr hs ih=>exact .either hl hp hm hb (row_blk hr (hk _ hb) hz) ih
 | both hl hp hm hb hr hs ih=>exact .both hl hp hm hb (row_blk hr (hk _ hb) hz) ih
 | neg hb hr h ih=>exact .neg hb (row_blk hr (hk _ hb) hz) ih
 | cmp hf ho hn=>exact .cmp hf ho hn
 | txt hf hm ht=>exact .txt hf hm ht
 | auth ht=>exact .auth ht
 | grp ht hl=>exact .grp ht hl
theorem XIn.mono{A B:Nat->Prop}{w:World}{x:Cond}{v:Array Value}(h:XIn A w x v)(hs:∀k,A k->B k):XIn B w x v:=by
 induction h with
 | either hl hp hm hb hr hs' ih=>exact .either hl hp hm (hs _ hb) hr ih
 | both hl hp hm hb hr hs' ih=>exact .both hl hp hm (hs _ hb) hr ih
 | neg hb hr h ih=>exact .neg (hs _ hb) hr ih
 | cmp hf ho hn=>exact .cmp hf ho hn
 | txt hf hm ht=>exact .txt hf hm ht
 | auth ht=>exact .auth ht
 | grp ht hl=>exact .grp ht hl
def xP(z:Nat)(c:Cond)(v:Value)(w:World):Prop := ∃cs,v=.agg cs/\XIn (fun k=>z<=k/\k<w.heap.size) w c cs
def allFs:List Bs := [wAge,wBytes,wLines,wDepth,wAnswers,wName,wSubject,wBody,wAuthor,wGroup]
theorem oneF_of{L:List Bs}{t:Tok}{r:List Tok}(hk:t.kind=1\/t.kind=4)(hx:t.text∈L):oneF L (t::r)=.ok (t.text,r):=by
 unfold oneF
 simp only
 rw[if_pos]
 rw[List.any_eq_true]
 refine⟨t.text,hx,?_⟩
 unfold isT
 rcases hk with h|h<;>simp[h]
abbrev xZ:Array Value:=#[.int .u8 0,.slice none 0 0,.string ⟨#[]⟩,.string ⟨#[]⟩,.int .i64 0,.string ⟨#[]⟩]
def isLs:List Bs := [wIs]
abbrev A10:Array Value:=#[.string ⟨#[97,103,101]⟩,.string ⟨#[98,121,116,101,115]⟩,.string ⟨#[108,105,110,101,115]⟩,.string ⟨#[100,101,112,116,104]⟩,.string ⟨#[97,110,115,119,101,114,115]⟩,.string ⟨#[110,97,109,101]⟩,.string ⟨#[115,117,98,106,101,99,116]⟩,.string ⟨#[98,111,100,121]⟩,.string ⟨#[97,117,116,104,111,114]⟩,.string ⟨#[103,114,111,117,112]⟩]
theorem row_A10(w:World)(t:TypeId):Row (w.alloc (.cells A10 t)) (some ⟨w.heap.size,0,none⟩) (strsL allFs):=row_block (heap_alloc_new w (.cells A10 t))
abbrev A5:Array Value:=#[.string ⟨#[97,103,101]⟩,.string ⟨#[98,121,116,101,115]⟩,.string ⟨#[108,105,110,101,115]⟩,.string ⟨#[100,101,112,116,104]⟩,.string ⟨#[97,110,115,119,101,114,115]⟩]
theorem row_A5(w:World)(t:TypeId):Row (w.alloc (.cells A5 t)) (some ⟨w.heap.size,0,none⟩) (strsL numFs):=row_block (heap_alloc_new w (.cells A5 t))
abbrev A6:Array Value:=#[.string ⟨#[61]⟩,.string ⟨#[33,61]⟩,.string ⟨#[60]⟩,.string ⟨#[60,61]⟩,.string ⟨#[62]⟩,.string ⟨#[62,61]⟩]
theorem row_A6(w:World)(t:TypeId):Row (w.alloc (.cells A6 t)) (some ⟨w.heap.size,0,none⟩) (strsL cmpOps):=row_block (heap_alloc_new w (.cells A6 t))
abbrev A3t:Array Value:=#[.string ⟨#[110,97,109,101]⟩,.string ⟨#[115,117,98,106,101,99,116]⟩,.string ⟨#[98,111,100,121]⟩]
theorem row_A3t(w:World)(t:TypeId):Row (w.alloc (.cells A3t t)) (some ⟨w.heap.size,0,none⟩) (strsL txtFs):=row_block (heap_alloc_new w (.cells A3t t))
abbrev A3m:Array Value:=#[.string ⟨#[105,115]⟩,.string ⟨#[104,97,115]⟩,.string ⟨#[98,101,103,105,110,115]⟩]
theorem row_A3m(w:World)(t:TypeId):Row (w.alloc (.cells A3m t)) (some ⟨w.heap.size,0,none⟩) (strsL modesL):=row_block (heap_alloc_new w (.cells A3m t))
abbrev A1i:Array Value:=#[.string ⟨#[105,115]⟩]
theorem row_A1i(w:World)(t:TypeId):Row (w.alloc (.cells A1i t)) (some ⟨w.heap.size,0,none⟩) (strsL isLs):=row_block (heap_alloc_new w (.cells A1i t))
theorem rf_one_lit{n:Nat}{wx:World}{b:Nat}{A:Option Addr}{cap k En N:Nat}{l:List RT}{LA:Array Value}{L:List Bs}(hrow:∀(w:World) (t:TypeId),Row (w.alloc (.cells LA t)) (some ⟨w.heap.size,0,none⟩) (strsL L))(hN:L.length=N)(hL:L.length<=1000)(h:PkR wx b A cap l En k)(hn:n<=wx.heap.size)(hnb:n<=b){a:Bs × List Tok}(ha:oneF L ((allT l En).drop k)=.ok a) :
  Calls Tryz.prog 58 #[.pointer (some ⟨b,0,none⟩),.slice (some ⟨wx.heap.size,0,none⟩) N N] (wx.alloc (.cells LA 9)) fun e w'=>e=.returned (.string (ofL a.1))/\Fr n (fun i=>i=b) wx w'/\∃k',PkR w' b A cap l En k'/\a.2=(allT l En).drop k':=by
 have hb:=alloc_bel wx (.cells LA 9)
 have hbz:=heap_lt h.box
 refine(rf_one (n:=n) (h.below hb) (Nat.le_trans hn hb.size) hnb _ L N hN N (hrow wx _) hL (fun bb o e=>by injection e with e;injection e with e;omega) ha).mono fun e w' hp=>?_
 obtain⟨v,k',h1,h2,h3,h4⟩:=hp.res
 subst h2
 exact⟨h1,(Fr.of (n:=n) (S:=fun i=>i=b) hb hn).trans hp.fr (fun i hi=>.inl hi),k',h3,h4⟩
theorem rf_in_lit{wx:World}{N:Nat}{LA:Array Value}{L:List Bs}(hrow:∀(w:World) (t:TypeId),Row (w.alloc (.cells LA t)) (some ⟨w.heap.size,0,none⟩) (strsL L))(hN:L.length=N)(hL:L.length<=1000)(s:ByteArray){q:Bool}(hq:inBs L (toL s)=q) :
  Calls Tryz.prog 59 #[.slice (some ⟨wx.heap.size,0,none⟩) N N,.string s] (wx.alloc (.cells LA 9)) fun e w'=>e=.returned (.bool q)/\wx.alloc (.cells LA 9)=w':=by
 rw[<-hq]
 exact rf_in _ L N hN N (hrow wx _) hL s
structure TS(n b:Nat)(A:Option Addr)(cap:Nat)(l:List RT)(En:Nat)(w:World)(xb:Nat)(k:Nat)(cs:Array Value)(W:World):Prop where
 pk:PkR W b A cap l En k
 fr:Fr n (fun i=>i=b) w W
 rbox:W.heap[w.heap.size]?=some (.cells xZ 57 (0,0))
 xbox:W.heap[xb]?=some (.cells cs 57 (0,0))
 lt:w.heap.size<xb
 bl:b<w.heap.size
 nz:n<=w.heap.size
section
variable {n b : Nat} {A : Option Addr} {cap : Nat} {l : List RT} {En : Nat} {w : World} {xb k : Nat} {cs : Array Value} {W W' : World}
theorem TS.below(h:TS n b A cap l En w xb k cs W)(hb:Below W.heap.size W W'):TS n b A cap l En w xb k cs W' :=
 ⟨h.pk.below hb,h.fr.trans (Fr.of (S:=fun i=>i=b) hb (by have:=h.fr.size;have:=h.nz;omega)) (fun i hi=>.inl hi),(hb.block _ (heap_lt h.rbox)).trans h.rbox,(hb.block _ (heap_lt h.xbox)).trans h.xbox,h.lt,h.bl,h.nz⟩
theorem TS.step(h:TS n b A cap l En w xb k cs W)(hf:Fr n (fun i=>i=b) W W'){k':Nat}(hp:PkR W' b A cap l En k'):TS n b A cap l En w xb k' cs W' :=
 ⟨hp,h.fr.trans hf (fun i hi=>.inl hi),(hf.oth _ (heap_lt h.rbox) (by have:=h.bl;omega)).trans h.rbox,(hf.oth _ (heap_lt h.xbox) (by have:=h.bl;have:=h.lt;omega)).trans h.xbox,h.lt,h.bl,h.nz⟩
theorem TS.set(h:TS n b A cap l En w xb k cs W)(i:Nat)(v:Value):TS n b A cap l En w xb k (cs.setIfInBounds i v) (W.setCell ⟨xb,i,none⟩ v) :=
 ⟨h.pk.oth (by have:=h.bl;have:=h.lt;omega) v,h.fr.set v (by have:=h.nz;have:=h.lt;omega) (.inr (Nat.le_of_lt h.lt)),by rw[heap_set_ne v (by have:=h.lt;omega)];exact h.rbox,by rw[heap_set h.xbox],h.lt,h.bl,h.nz⟩
theorem xBox_cells{k:Int}{L:Value}{f op:ByteArray}{m:Int}{t:ByteArray}(h:W.heap[xb]?=some (.cells (xC k L f op m t) 57 (0,0))):W.cell? ⟨xb,0,none⟩=some (.int .u8 k)/\W.cell? ⟨xb,1,none⟩=some L/\W.cell? ⟨xb,2,none⟩=some (.string f)/\W.cell? ⟨xb,3,none⟩=some (.string op)/\W.cell? ⟨xb,4,none⟩=some (.int .i64 m)/\W.cell? ⟨xb,5,none⟩=some (.string t)/\(∀i,W.frozen? ⟨xb,i,none⟩=false)/\xb<W.heap.size :=
 ⟨by rw[Lib.cell_of_heap h];rfl,by rw[Lib.cell_of_heap h];rfl,by rw[Lib.cell_of_heap h];rfl,by rw[Lib.cell_of_heap h];rfl,by rw[Lib.cell_of_heap h];rfl,by rw[Lib.cell_of_heap h];rfl,fun i=>Lib.frozen_of_heap h i,heap_lt h⟩
theorem TS.zle(h:TS n b A cap l En w xb k cs W):n<=W.heap.size:=by have:=h.fr.size;have:=h.nz;omega
end
abbrev putX(z:Nat)(k:Int)(L:Value)(f op:ByteArray)(m:Int)(t:ByteArray)(W:World):World :=
 (((((W.setCell ⟨z,0,none⟩ (.int .u8 k)).setCell ⟨z,1,none⟩ L).setCell ⟨z,2,none⟩ (.string f)).setCell ⟨z,3,none⟩ (.string op)).setCell ⟨z,4,none⟩ (.int .i64 m)).setCell ⟨z,5,none⟩ (.string t)
section
variable {n b z : Nat} {A : Option Addr} {cap : Nat} {l : List RT} {En : Nat} {w W : World} {k : Int} {L : Value} {f op : ByteArray} {m : Int} {t : ByteArray}
theorem putX_box{a0 a1 a2 a3 a4 a5:Value}(h:W.heap[z]?=some (.cells #[a0,a1,a2,a3,a4,a5] 57 (0,0))):(putX z k L f op m t W).heap[z]?=some (.cells (xC k L f op m t) 57 (0,0)):=by
 unfold putX
 rw[heap_set (heap_set (heap_set (heap_set (heap_set (heap_set h _) _) _) _) _) _]
 rfl
theorem putX_pk{j:Nat}(h:PkR W b A cap l En j)(hz:b<z):PkR (putX z k L f op m t W) b A cap l En j:=((((((h.oth hz _).oth hz _).oth hz _).oth hz _).oth hz _).oth hz _)
theorem putX_fr{S:Nat->Prop}(h:Fr n S w W)(hn:n<=z)(hz:S z\/w.heap.size<=z):Fr n S w (putX z k L f op m t W):=((((((h.set _ hn hz).set _ hn hz).set _ hn hz).set _ hn hz).set _ hn hz).set _ hn hz)
theorem putX_ne{q:Nat}(hq:q≠z):(putX z k L f op m t W).heap[q]?=W.heap[q]?:=by
 unfold putX
 rw[heap_set_ne _ hq,heap_set_ne _ hq,heap_set_ne _ hq,heap_set_ne _ hq,heap_set_ne _ hq,heap_set_ne _ hq]
theorem putX_size:(putX z k L f op m t W).heap.size=W.heap.size:=by simp
end
theorem tst_ret{Q:Ending->World->Prop}{W:World}{r:Nat}{k:Int}{L:Value}{f op:ByteArray}{m:Int}{t:ByteArray}{T:Array Value}(hb:W.heap[r]?=some (.cells (xC k L f op m t) 57 (0,0)))
  (hT2:T[2]?=some (.pointer (some ⟨r,0,none⟩))) (hQ:Q (.returned (.agg (xC k L f op m t))) W) :
  bodyPost Tryz.prog Tryz.f132 Q .ret { tmps:=T,defers := [] } W:=by
 obtain⟨c0,c1,c2,c3,c4,c5,_,_⟩:=xBox_cells hb
 refine bodyPost_ret (v:=.agg (xC k L f op m t)) ?_ rfl hQ
 simp[results,Tryz.f132,go_sem,hT2,c0,c1,c2,c3,c4,c5]
theorem TS.ret{n b:Nat}{A:Option Addr}{cap:Nat}{l:List RT}{En:Nat}{w:World}{xb k:Nat}{W:World}{kk:Int}{L:Value}{f op:ByteArray}{m:Int}{t:ByteArray}(h:TS n b A cap l En w xb k (xC kk L f op m t) W){T:Array Value}{c:Cond}{r:List Tok}(hc:∀(A:Nat->Prop) (W:World),XIn A W c (xC kk L f op m t))(hr:r=(allT l En).drop k)
  (hT2:T[2]?=some (.pointer (some ⟨w.heap.size,0,none⟩))):bodyPost Tryz.prog Tryz.f132 (PrR (xP w.heap.size) n b A cap l En (c,r) w) .ret { tmps:=T,defers := [] } (putX w.heap.size kk L f op m t W) :=
 tst_ret (putX_box h.rbox) hT2 ⟨putX_fr h.fr h.nz (.inr (Nat.le_refl _)),_,k,rfl,⟨_,rfl,hc _ _⟩,putX_pk h.pk h.bl,hr⟩
set_option maxHeartbeats 8000000 in
set_option maxRecDepth 100000 in
theorem rf_test_cmp{n:Nat}{w:World}{b:Nat}{A:Option Addr}{cap k En:Nat}{l:List RT}(h:PkR w b A cap l En k)(hn:n<=w.heap.size)(hnb:n<=b){t:Tok}{o:Bs × List Tok}{m:Nat × List Tok}(h1:t.kind=1)(h2:t.text∈numFs)(h3:oneF cmpOps ((allT l En).drop k).tail=.ok o)(h4:numF 2147483647 o.2=.ok m)(h5:(allT l En).drop k=t::((allT l En).drop k).tail) :
  Calls Tryz.prog 132 #[.pointer (some ⟨b,0,none⟩)] w (PrR (xP w.heap.size) n b A cap l En (Cond.cmp t.text o.1 m.1,m.2) w):=by
 have hone:oneF allFs ((allT l En).drop k)=.ok (t.text,((allT l En).drop k).tail):=by
  rw[h5];exact oneF_of (.inl h1) (by simp only[numFs,allFs,List.mem_cons,List.not_mem_nil,or_false]at h2⊢;rcases h2 with h|h|h|h|h<;>simp[h])
 have hbz:=heap_lt h.box
 have HX0:=Lib.hid (heap_alloc_new w (.cells xZ 57))
 have HB0:=Lib.hid (alloc_bel w (.cells xZ 57))
 have HP0:=Lib.hid (h.below HB0.out)
 clear h
 obtain⟨T,hT⟩:∃T,ofL t.text=T:=⟨_,rfl⟩
 have HT:=Lib.hid hT
 have H3:=Lib.hid h3
 have H4:=Lib.hid h4
 have hin5:inBs numFs (toL T)=true:=by
  rw[<-hT,toL_ofL]
  unfold inBs
  rw[List.any_eq_true]
  exact⟨t.text,h2,by simp⟩
 have HIN5:=Lib.hid (fun (wx:World)=>rf_in_lit (N:=5) (wx:=wx) row_A5 rfl (by decide) T hin5)
 have HO1:=Lib.hid (fun (wx:World) (hp:PkR wx b A cap l En k) (hz:n<=wx.heap.size)=>rf_one_lit (n:=n) (N:=10) row_A10 rfl (by decide) hp hz hnb hone)
 rw[show ofL ((t.text,((allT l En).drop k).tail):Bs × List Tok).1=T from hT]at HO1
 obtain⟨O,hO⟩:∃O,ofL o.1=O:=⟨_,rfl⟩
 have HO2:=Lib.hid (fun (wx:World) (kx:Nat) (hp:PkR wx b A cap l En kx) (hz:n<=wx.heap.size) (hk:((allT l En).drop k).tail=(allT l En).drop kx)=>rf_one_lit (n:=n) (N:=6) row_A6 rfl (by decide) hp hz hnb (show oneF cmpOps ((allT l En).drop kx)=.ok o from by rw[<-hk];exact h3))
 rw[hO]at HO2
 have HOO:=Lib.hid hO
 have HN2:=Lib.hid (fun (wx:World) (kx:Nat) (hp:PkR wx b A cap l En kx) (hz:n<=wx.heap.size) (hk:o.2=(allT l En).drop kx)=>show Calls Tryz.prog 61 #[.pointer (some ⟨b,0,none⟩),.int .i64 2147483647] wx (PrR (fun (x:Nat) v _=>v=.int .i64 (x:Int)/\x<=2147483647) n b A cap l En m wx) from rf_num hp hz hnb 2147483647 (by omega) (show numF 2147483647 ((allT l En).drop kx)=.ok m from by rw[<-hk];exact h4))
 have ho:o.1∈cmpOps:=oneF_mem h3
 clear hT h3 h4 h5 hin5 hO
 go_enter Tryz.func132,Tryz.ntmps132
 go_upto_region 1 with fail
 generalize w.alloc (.cells xZ 57)=W0 at *
 have hz0:=HB0.out.size
 go_upto_region 2 with((go_at_call 58;(with_reducible refine(HO1.out _ HP0.out (by omega)).mono ?_);(rintro e w2 ⟨rfl,hf2,k2,hp2,hk2⟩;have HF2:=Lib.hid ((Fr.of (n:=n) (S:=fun i=>i=b) HB0.out hn).trans hf2 (fun i hi=>.inl hi));have HP2:=Lib.hid hp2;have HK2:=Lib.hid hk2;have HX2:=Lib.hid ((hf2.oth w.heap.size (heap_lt HX0.out) (by omega)).trans HX0.out);clear hf2 hp2 hk2)))
 have hz2:=HF2.out.size
 have HT3:=Lib.hid ((show TS n b A cap l En w w2.heap.size k2 (xC 116 (.slice none 0 0) T ⟨#[]⟩ 0 ⟨#[]⟩) (w2.alloc (.cells (xC 116 (.slice none 0 0) T ⟨#[]⟩ 0 ⟨#[]⟩) 57)) from⟨HP2.out.below (alloc_bel _ _),HF2.out.trans (Fr.of (n:=n) (S:=fun i=>i=b) (alloc_bel _ _) (by omega)) (fun i hi=>.inl hi),((alloc_bel w2 _).block _ (heap_lt HX2.out)).trans HX2.out,heap_alloc_new w2 _,heap_lt HX2.out,hbz,hn⟩))
 go_upto_region 3 with fail
 generalize w2.alloc (.cells (xC 116 (.slice none 0 0) T ⟨#[]⟩ 0 ⟨#[]⟩) 57)=W3 at *
 generalize w2.heap.size=xb at *
 obtain⟨_,_,_,e3,_,hbw⟩:=HT3.out.pk.cells
 go_upto_region 6 with((go_at_call 59;(with_reducible refine(HIN5.out _).mono ?_);(rintro e w4 ⟨rfl,rfl⟩)))
 have HT4:=Lib.hid (HT3.out.below (alloc_bel W3 (.cells A5 9)))
 generalize W3.alloc (.cells A5 9)=W4 at *
 go_upto_region 7 with((go_at_call 58;(with_reducible refine(HO2.out _ _ HT4.out.pk HT4.out.zle HK2.out).mono ?_);(rintro e w5 ⟨rfl,hf5,k5,hp5,hk5⟩;have HT5:=Lib.hid (HT4.out.step hf5 hp5);have HK5:=Lib.hid hk5;obtain⟨c0,c1,c2,c3,c4,c5,hfz,hxw⟩:=xBox_cells HT5.out.xbox;clear hf5 hp5 hk5)))
 have HT6:=Lib.hid (show TS n b A cap l En w xb k5 (xC 116 (.slice none 0 0) T O 0 ⟨#[]⟩) (w5.setCell ⟨xb,3,none⟩ (.string O)) from HT5.out.set 3 (.string O))
 clear c0 c1 c2 c3 c4 c5 hfz hxw
 generalize w5.setCell ⟨xb,3,none⟩ (.string O)=W6 at *
 go_upto_region 8 with((go_at_call 61;(with_reducible refine(HN2.out _ _ HT6.out.pk HT6.out.zle HK5.out).mono ?_);(rintro e w7 ⟨hf7,v7,k7,rfl,⟨rfl,hm7⟩,hp7,hk7⟩;have HT7:=Lib.hid (HT6.out.step hf7 hp7);have HK7:=Lib.hid hk7;obtain⟨c0,c1,c2,c3,c4,c5,hfz,hxw⟩:=xBox_cells HT7.out.xbox;clear hf7 hp7 hk7)))
 have HT8:=Lib.hid (show TS n b A cap l En w xb k7 (xC 116 (.slice none 0 0) T O m.1 ⟨#[]⟩) (w7.setCell ⟨xb,4,none⟩ (.int .i64 (m.1:Int))) from HT7.out.set 4 (.int .i64 (m.1:Int)))
 clear c0 c1 c2 c3 c4 c5 hfz hxw
 generalize w7.setCell ⟨xb,4,none⟩ (.int .i64 (m.1:Int))=W8 at *
 obtain⟨c0,c1,c2,c3,c4,c5,hfz,hxw⟩:=xBox_cells HT8.out.xbox
 obtain⟨d0,d1,d2,d3,d4,d5,hfd,hdw⟩:=xBox_cells HT8.out.rbox
 have hxd:=HT8.out.lt
 go_wp2_with fail
 exact TS.ret HT8.out (fun A W=>by rw[<-HT.out, ← HOO.out];exact .cmp h2 ho hm7) HK7.out rfl
theorem fld_tokR1(a b c d:Value)(w:World):(Instr.field 98 (.agg #[a,b,c,d]) 1).run Tryz.prog w=.ok b w:=by kernel_rfl
theorem fld_tokR3(a b c d:Value)(w:World):(Instr.field 98 (.agg #[a,b,c,d]) 3).run Tryz.prog w=.ok d w:=by kernel_rfl
attribute [local go_sem] fld_tokR1 fld_tokR3
theorem rf_in_at{wx:World}{N z:Nat}{LA:Array Value}{L:List Bs}(hz:z=wx.heap.size)(hrow:∀(w:World) (t:TypeId),Row (w.alloc (.cells LA t)) (some ⟨w.heap.size,0,none⟩) (strsL L))(hN:L.length=N)(hL:L.length<=1000)(s:ByteArray){q:Bool}(hq:inBs L (toL s)=q) :
  Calls Tryz.prog 59 #[.slice (some ⟨z,0,none⟩) N N,.string s] (wx.alloc (.cells LA 9)) fun e w'=>e=.returned (.bool q)/\wx.alloc (.cells LA 9)=w':=by
 subst hz;exact rf_in_lit hrow hN hL s hq
theorem rf_text_at{n:Nat}{w:World}{b:Nat}{A:Option Addr}{cap k En:Nat}{l:List RT}(h:PkR w b A cap l En k)(hn:n<=w.heap.size)(hnb:n<=b){a:Tok × List Tok}(ha:quoF ((allT l En).drop k)=.ok a) :
  Calls Tryz.prog 148 #[.pointer (some ⟨b,0,none⟩)] w fun e w'=>e=.returned (.agg #[.int .u8 115,.string (ofL a.1.text),.int .i64 (a.1.num:Int),.int .i64 (a.1.col:Int)])/\a.1.text.length<=1000000/\Fr n (fun i=>i=b) w w'/\∃k',PkR w' b A cap l En k'/\a.2=(allT l En).drop k' :=
 (rf_text h hn hnb ha).mono fun e w' hp=>by
  obtain⟨v,k',h1,⟨h2,h5⟩,h3,h4⟩:=hp.res
  subst h2
  exact⟨h1,h5,hp.fr,k',h3,h4⟩
set_option maxHeartbeats 8000000 in
set_option maxRecDepth 100000 in
theorem rf_test_txt{n:Nat}{w:World}{b:Nat}{A:Option Addr}{cap k En:Nat}{l:List RT}(h:PkR w b A cap l En k)(hn:n<=w.heap.size)(hnb:n<=b){t:Tok}{o:Bs × List Tok}{m:Tok × List Tok}(h1:t.kind=1)(h0:t.text∉numFs)(h2:t.text∈txtFs)(h3:oneF modesL ((allT l En).drop k).tail=.ok o)(h4:quoF o.2=.ok m)(h5:(allT l En).drop k=t::((allT l En).drop k).tail) :
  Calls Tryz.prog 132 #[.pointer (some ⟨b,0,none⟩)] w (PrR (xP w.heap.size) n b A cap l En (Cond.txt t.text o.1 m.1.text,m.2) w):=by
 have hone:oneF allFs ((allT l En).drop k)=.ok (t.text,((allT l En).drop k).tail):=by
  rw[h5];exact oneF_of (.inl h1) (by simp only[txtFs,allFs,List.mem_cons,List.not_mem_nil,or_false]at h2⊢;rcases h2 with h|h|h<;>simp[h])
 have hbz:=heap_lt h.box
 have HX0:=Lib.hid (heap_alloc_new w (.cells xZ 57))
 have HB0:=Lib.hid (alloc_bel w (.cells xZ 57))
 have HP0:=Lib.hid (h.below HB0.out)
 clear h
 obtain⟨T,hT⟩:∃T,ofL t.text=T:=⟨_,rfl⟩
 have HT:=Lib.hid hT
 have H3:=Lib.hid h3
 have H4:=Lib.hid h4
 have hin5:inBs numFs (toL T)=false:=by
  rw[<-hT,toL_ofL]
  unfold inBs
  rw[List.any_eq_false]
  intro x hx e
  exact h0 (by rw[show t.text=x from(by have e:=(beq_iff_eq).1 e;exact e.symm)];exact hx)
 have hin3:inBs txtFs (toL T)=true:=by
  rw[<-hT,toL_ofL]
  unfold inBs
  rw[List.any_eq_true]
  exact⟨t.text,h2,by simp⟩
 have HIN5:=Lib.hid (fun (wx:World)=>rf_in_lit (N:=5) (wx:=wx) row_A5 rfl (by decide) T hin5)
 have HIN3:=Lib.hid (fun (wx:World) (z:Nat) (hz:z=wx.heap.size)=>rf_in_at (N:=3) hz row_A3t rfl (by decide) T hin3)
 have HO1:=Lib.hid (fun (wx:World) (hp:PkR wx b A cap l En k) (hz:n<=wx.heap.size)=>rf_one_lit (n:=n) (N:=10) row_A10 rfl (by decide) hp hz hnb hone)
 rw[show ofL ((t.text,((allT l En).drop k).tail):Bs × List Tok).1=T from hT]at HO1
 obtain⟨O,hO⟩:∃O,ofL o.1=O:=⟨_,rfl⟩
 have HO2:=Lib.hid (fun (wx:World) (kx:Nat) (hp:PkR wx b A cap l En kx) (hz:n<=wx.heap.size) (hk:((allT l En).drop k).tail=(allT l En).drop kx)=>rf_one_lit (n:=n) (N:=3) row_A3m rfl (by decide) hp hz hnb (show oneF modesL ((allT l En).drop kx)=.ok o from by rw[<-hk];exact h3))
 rw[hO]at HO2
 have HOO:=Lib.hid hO
 have HN2:=Lib.hid (fun (wx:World) (kx:Nat) (hp:PkR wx b A cap l En kx) (hz:n<=wx.heap.size) (hk:o.2=(allT l En).drop kx)=>rf_text_at hp hz hnb (show quoF ((allT l En).drop kx)=.ok m from by rw[<-hk];exact h4))
 obtain⟨M,hM⟩:∃M,ofL m.1.text=M:=⟨_,rfl⟩
 rw[hM]at HN2
 have HMM:=Lib.hid hM
 have ho:o.1∈modesL:=oneF_mem (r:=o.2) h3
 clear hT h3 h4 h5 hin5 hin3 hO hM
 go_enter Tryz.func132,Tryz.ntmps132
 go_upto_region 1 with fail
 generalize w.alloc (.cells xZ 57)=W0 at *
 have hz0:=HB0.out.size
 go_upto_region 2 with((go_at_call 58;(with_reducible refine(HO1.out _ HP0.out (by omega)).mono ?_);(rintro e w2 ⟨rfl,hf2,k2,hp2,hk2⟩;have HF2:=Lib.hid ((Fr.of (n:=n) (S:=fun i=>i=b) HB0.out hn).trans hf2 (fun i hi=>.inl hi));have HP2:=Lib.hid hp2;have HK2:=Lib.hid hk2;have HX2:=Lib.hid ((hf2.oth w.heap.size (heap_lt HX0.out) (by omega)).trans HX0.out);clear hf2 hp2 hk2)))
 have hz2:=HF2.out.size
 have HT3:=Lib.hid ((show TS n b A cap l En w w2.heap.size k2 (xC 116 (.slice none 0 0) T ⟨#[]⟩ 0 ⟨#[]⟩) (w2.alloc (.cells (xC 116 (.slice none 0 0) T ⟨#[]⟩ 0 ⟨#[]⟩) 57)) from⟨HP2.out.below (alloc_bel _ _),HF2.out.trans (Fr.of (n:=n) (S:=fun i=>i=b) (alloc_bel _ _) (by omega)) (fun i hi=>.inl hi),((alloc_bel w2 _).block _ (heap_lt HX2.out)).trans HX2.out,heap_alloc_new w2 _,heap_lt HX2.out,hbz,hn⟩))
 go_upto_region 3 with fail
 generalize w2.alloc (.cells (xC 116 (.slice none 0 0) T ⟨#[]⟩ 0 ⟨#[]⟩) 57)=W3 at *
 generalize w2.heap.size=xb at *
 obtain⟨_,_,_,e3,_,hbw⟩:=HT3.out.pk.cells
 go_upto_region 9 with(go_at_call 59;(with_reducible refine(HIN5.out _).mono ?_);(rintro e w4 ⟨rfl,rfl⟩))
 have HT3b:=Lib.hid (HT3.out.below (alloc_bel W3 (.cells A5 9)))
 generalize W3.alloc (.cells A5 9)=W3b at *
 go_upto_region 10 with(go_at_call 59;(with_reducible refine(HIN3.out _ _ (by simp)).mono ?_);(rintro e w4 ⟨rfl,rfl⟩))
 have HT4:=Lib.hid (HT3b.out.below (alloc_bel W3b (.cells A3t 9)))
 generalize W3b.alloc (.cells A3t 9)=W4 at *
 go_upto_region 11 with((go_at_call 58;(with_reducible refine(HO2.out _ _ HT4.out.pk HT4.out.zle HK2.out).mono ?_);(rintro e w5 ⟨rfl,hf5,k5,hp5,hk5⟩;have HT5:=Lib.hid (HT4.out.step hf5 hp5);have HK5:=Lib.hid hk5;obtain⟨c0,c1,c2,c3,c4,c5,hfz,hxw⟩:=xBox_cells HT5.out.xbox;clear hf5 hp5 hk5)))
 have HT6:=Lib.hid (show TS n b A cap l En w xb k5 (xC 116 (.slice none 0 0) T O 0 ⟨#[]⟩) (w5.setCell ⟨xb,3,none⟩ (.string O)) from HT5.out.set 3 (.string O))
 clear c0 c1 c2 c3 c4 c5 hfz hxw
 generalize w5.setCell ⟨xb,3,none⟩ (.string O)=W6 at *
 go_upto_region 12 with((go_at_call 148;(with_reducible refine(HN2.out _ _ HT6.out.pk HT6.out.zle HK5.out).mono ?_);(rintro e w7 ⟨rfl,hm7,hf7,k7,hp7,hk7⟩;have HT7:=Lib.hid (HT6.out.step hf7 hp7);have HK7:=Lib.hid hk7;obtain⟨c0,c1,c2,c3,c4,c5,hfz,hxw⟩:=xBox_cells HT7.out.xbox;clear hf7 hp7 hk7)))
 have HT8:=Lib.hid (show TS n b A cap l En w xb k7 (xC 116 (.slice none 0 0) T O 0 M) (w7.setCell ⟨xb,5,none⟩ (.string M)) from HT7.out.set 5 (.string M))
 clear c0 c1 c2 c3 c4 c5 hfz hxw
 generalize w7.setCell ⟨xb,5,none⟩ (.string M)=W8 at *
 obtain⟨c0,c1,c2,c3,c4,c5,hfz,hxw⟩:=xBox_cells HT8.out.xbox
 obtain⟨d0,d1,d2,d3,d4,d5,hfd,hdw⟩:=xBox_cells HT8.out.rbox
 have hxd:=HT8.out.lt
 go_wp2_with fail
 exact TS.ret HT8.out (fun A W=>by rw[<-HT.out, ← HOO.out, ← HMM.out];exact .txt h2 ho hm7) HK7.out rfl
theorem nib_cases(c:UInt8)(h:hexC c=true):(isDigit (num c)=true/\num c-48=(hexV c:Int))\/(isDigit (num c)=false/\97<=num c/\num c<=102/\num c-87=(hexV c:Int)):=by
 have h2:∀k:Fin 256,hexC (UInt8.ofNat k.val)=true->(isDigit (num (UInt8.ofNat k.val))=true/\num (UInt8.ofNat k.val)-48=(hexV (UInt8.ofNat k.val):Int))\/(isDigit (num (UInt8.ofNat k.val))=false/\97<=num (UInt8.ofNat k.val)/\num (UInt8.ofNat k.val)<=102/\num (UInt8.ofNat k.val)-87=(hexV (UInt8.ofNat k.val):Int)):=by decide +kernel
 have:=h2 ⟨c.toNat,c.toNat_lt⟩
 simp only[UInt8.ofNat_toNat]at this
 exact this h
set_option maxHeartbeats 1000000 in
theorem rf_nibble(c:UInt8)(hc:hexC c=true)(w:World):Calls Tryz.prog 164 #[.int .u8 (num c)] w fun e w'=>e=.returned (.int .i64 (hexV c:Int))/\w=w':=by
 have HD:=Lib.hid (ref_digit (num c) w)
 have h0:(0:Int)<=num c/\num c<=255:=by have:=c.toNat_lt;unfold num;omega
 have hcs:=nib_cases c hc
 generalize hexV c=v at *
 generalize num c=m at *
 have x1:IntKind.i64.wrap m=m:=IntWalk.i64_in _ (by omega)
 rcases hcs with⟨h1,h2⟩|⟨h1,h3,h4,h2⟩
 ·rw[h1]at HD
  have x2:IntKind.i64.wrap (m-48)=(v:Int):=by rw[h2];exact IntWalk.i64_in _ (by omega)
  go_enter Tryz.func164,Tryz.ntmps164
  go_wp2_with (go_at_call 181;(with_reducible refine HD.out.mono ?_);rintro e w' ⟨rfl,rfl⟩)
  go_ret
  exact⟨rfl,rfl⟩
 ·rw[h1]at HD
  have x2:IntKind.i64.wrap (m-87)=(v:Int):=by rw[h2];exact IntWalk.i64_in _ (by omega)
  go_enter Tryz.func164,Tryz.ntmps164
  go_wp2_with (go_at_call 181;(with_reducible refine HD.out.mono ?_);rintro e w' ⟨rfl,rfl⟩)
  go_ret
  exact⟨rfl,rfl⟩
theorem el_u8r:Elem Tryz.prog 50 5 1 1:=Elem.of Tryz.underlying50 (z:=.int .u8 0) (by kernel_rfl) rfl (by omega)
set_option maxHeartbeats 4000000 in
set_option maxRecDepth 100000 in
theorem rf_unhex(s:ByteArray)(w:World)(hs:s.size<=1000000)(hx:hexOk (toL s)=true) :
  Calls Tryz.prog 149 #[.string s] w fun e w'=>(∃v,e=.returned (.tuple #[v,.int .i64 0]))/\Below w.heap.size w w':=by
 simp only[hexOk,Bool.and_eq_true,decide_eq_true_eq,toL_length]at hx
 obtain⟨he,ha⟩:=hx
 have HX:=Lib.hid ha
 have e1:¬ ((s.size:Int)%2=1):=by omega
 clear ha
 go_enter Tryz.func149,Tryz.ntmps149
 go_wp2_with fail
 go_loopw [4,5] (fun v vi wr=>∃k:Nat,∃xs,2*k<=s.size/\vi=.int .i64 (2*(k:Int))/\wr.ownsRow w.heap.size 5 1 v k xs/\Below w.heap.size w wr) (fun v vi _=>s.size-(intOf vi).toNat)
 case atStart=>exact⟨0, [],by omega,rfl,World.ownsRow_nil _ _ _ _,Below.refl _ _⟩
 case round =>
  obtain⟨k2,xs,hk2,rfl,hown,hbel⟩:=hrel
  obtain⟨A,c,rfl,hrw⟩:=own_row hown
  have hz:=hbel.size
  by_cases hlt:2*k2<s.size
  ·have hlt2:2*k2+1<s.size:=by omega
   have hc1:hexC (s[2*k2]'hlt)=true:=by
    rw[<-toL_getElem s _ hlt];exact List.all_eq_true.1 HX.out _ (List.getElem_mem _)
   have hc2:hexC (s[2*k2+1]'hlt2)=true:=by
    rw[<-toL_getElem s _ hlt2];exact List.all_eq_true.1 HX.out _ (List.getElem_mem _)
   have HV1:=Lib.hid (fun wx=>rf_nibble _ hc1 wx)
   have HV2:=Lib.hid (fun wx=>rf_nibble _ hc2 wx)
   have hv1:=(hexV_lt _ hc1).1
   have hv2:=(hexV_lt _ hc2).1
   generalize hexV (s[2*k2]'hlt)=a1 at *
   generalize hexV (s[2*k2+1]'hlt2)=a2 at *
   have j1:(0:Int)<=2*(k2:Int):=by omega
   have j2:2*(k2:Int)<(s.size:Int):=by omega
   have j3:2*(k2:Int)+1<(s.size:Int):=by omega
   have j4:(0:Int)<=2*(k2:Int)+1:=by omega
   have c1:IntKind.i64.wrap (2*(k2:Int)+1)=2*(k2:Int)+1:=IntWalk.i64_in _ (by omega)
   have c2:(2*(k2:Int)).toNat = 2*k2:=by omega
   have c3:(2*(k2:Int)+1).toNat = 2*k2+1:=by omega
   have n1:¬ (a1:Int)<0:=by omega
   have n2:¬ (a2:Int)<0:=by omega
   go_wp2_with fail
   go_quiet (first|(go_at_call 164;(with_reducible exact quiet_left' (HV1.out _)))|(go_at_call 164;(with_reducible exact quiet_left' (HV2.out _))))
   have hownq:=own_below hown (below_drewN (Below.refl wr.heap.size wr) nq)
   have hbq:=below_drewN hbel nq
   have hzq:w.heap.size<=(wr.drewN nq).heap.size:=hbq.size
   generalize wr.drewN nq=wq at *
   go_wp2_with ((at_builtin;refine wpList_push el_u8r rfl _ _ rfl hownq #[_] rfl rfl rfl (by simp[Value.oneCell']) (by omega) (by unfold maxLen;omega) hzq ?_;intro g cap w3 hown3 hg3 hat3))
   have hb3:Below w.heap.size w w3:=hbq.grown hg3 hzq (fun k hk=>(hownq.lt k hk).1)
   go_roundw
   case rel=>exact⟨_,_,_,_,⟨k2+1,by omega,rfl,⟨_,hown3⟩,hb3⟩,rfl,rfl,rfl,by go_num⟩
   case measure=>simp[intOf]<;>omega
  ·have k3:¬ 2*(k2:Int)<(s.size:Int):=by omega
   go_wp2_with fail
   go_ret2
   exact⟨⟨_,rfl⟩,hbel⟩
attribute [local go_sem] fld_tokR1 fld_tokR3
set_option maxHeartbeats 8000000 in
set_option maxRecDepth 100000 in
theorem rf_test_auth{n:Nat}{w:World}{b:Nat}{A:Option Addr}{cap k En:Nat}{l:List RT}(h:PkR w b A cap l En k)(hn:n<=w.heap.size)(hnb:n<=b){t:Tok}{o:Bs × List Tok}{m:Tok × List Tok}(h1:t.kind=1)(h0:t.text∉numFs)(h2:t.text∉txtFs)(hw:t.text=wAuthor)(hv:authB m.1.text=true)(h3:oneF isLs ((allT l En).drop k).tail=.ok o)(h4:quoF o.2=.ok m)(h5:(allT l En).drop k=t::((allT l En).drop k).tail) :
  Calls Tryz.prog 132 #[.pointer (some ⟨b,0,none⟩)] w (PrR (xP w.heap.size) n b A cap l En (Cond.auth m.1.text,m.2) w):=by
 have hone:oneF allFs ((allT l En).drop k)=.ok (t.text,((allT l En).drop k).tail):=by
  rw[h5];exact oneF_of (.inl h1) (by rw[hw];decide)
 have hbz:=heap_lt h.box
 have HX0:=Lib.hid (heap_alloc_new w (.cells xZ 57))
 have HB0:=Lib.hid (alloc_bel w (.cells xZ 57))
 have HP0:=Lib.hid (h.below HB0.out)
 clear h
 obtain⟨T,hT⟩:∃T,ofL t.text=T:=⟨_,rfl⟩
 have HT:=Lib.hid hT
 have H3:=Lib.hid h3
 have H4:=Lib.hid h4
 have hin5:inBs numFs (toL T)=false:=by
  rw[<-hT,toL_ofL]
  unfold inBs
  rw[List.any_eq_false]
  intro x hx e
  exact h0 (by rw[show t.text=x from(by have e:=(beq_iff_eq).1 e;exact e.symm)];exact hx)
 have hin3:inBs txtFs (toL T)=false:=by
  rw[<-hT,toL_ofL]
  unfold inBs
  rw[List.any_eq_false]
  intro x hx e
  exact h2 (by rw[show t.text=x from(by have e:=(beq_iff_eq).1 e;exact e.symm)];exact hx)
 have hTW:T=ofL wAuthor:=by rw[<-hT,hw]
 have HIN5:=Lib.hid (fun (wx:World)=>rf_in_lit (N:=5) (wx:=wx) row_A5 rfl (by decide) T hin5)
 have HIN3:=Lib.hid (fun (wx:World) (z:Nat) (hz:z=wx.heap.size)=>rf_in_at (N:=3) hz row_A3t rfl (by decide) T hin3)
 have HO1:=Lib.hid (fun (wx:World) (hp:PkR wx b A cap l En k) (hz:n<=wx.heap.size)=>rf_one_lit (n:=n) (N:=10) row_A10 rfl (by decide) hp hz hnb hone)
 rw[show ofL ((t.text,((allT l En).drop k).tail):Bs × List Tok).1=T from hT]at HO1
 obtain⟨O,hO⟩:∃O,ofL o.1=O:=⟨_,rfl⟩
 have HO2:=Lib.hid (fun (wx:World) (kx:Nat) (hp:PkR wx b A cap l En kx) (hz:n<=wx.heap.size) (hk:((allT l En).drop k).tail=(allT l En).drop kx)=>rf_one_lit (n:=n) (N:=1) row_A1i rfl (by decide) hp hz hnb (show oneF isLs ((allT l En).drop kx)=.ok o from by rw[<-hk];exact h3))
 rw[hO]at HO2
 have HOO:=Lib.hid hO
 have HN2:=Lib.hid (fun (wx:World) (kx:Nat) (hp:PkR wx b A cap l En kx) (hz:n<=wx.heap.size) (hk:o.2=(allT l En).drop kx)=>rf_text_at hp hz hnb (show quoF ((allT l En).drop kx)=.ok m from by rw[<-hk];exact h4))
 obtain⟨M,hM⟩:∃M,ofL m.1.text=M:=⟨_,rfl⟩
 rw[hM]at HN2
 have HMM:=Lib.hid hM
 have ho:o.1=wIs:=by have:=oneF_mem (l:=isLs) (r:=o.2) (x:=o.1) h3;simpa[isLs] using this
 rw[authB_hex,Bool.and_eq_true,decide_eq_true_eq]at hv
 have hM32:M.size=32:=by rw[<-toL_length, ← hM,toL_ofL];exact hv.2
 have hMx:hexOk (toL M)=true:=by rw[<-hM,toL_ofL];exact hv.1
 have HUX:=Lib.hid (fun (wx:World)=>rf_unhex M wx (by omega) hMx)
 have HV:=Lib.hid hv
 have hEQ:(T.toList == [97,117,116,104,111,114])=true:=by rw[hTW];decide +kernel
 clear hTW hv
 clear hT h3 h4 h5 hin5 hin3 hO hM
 go_enter Tryz.func132,Tryz.ntmps132
 go_upto_region 1 with fail
 generalize w.alloc (.cells xZ 57)=W0 at *
 have hz0:=HB0.out.size
 go_upto_region 2 with((go_at_call 58;(with_reducible refine(HO1.out _ HP0.out (by omega)).mono ?_);(rintro e w2 ⟨rfl,hf2,k2,hp2,hk2⟩;have HF2:=Lib.hid ((Fr.of (n:=n) (S:=fun i=>i=b) HB0.out hn).trans hf2 (fun i hi=>.inl hi));have HP2:=Lib.hid hp2;have HK2:=Lib.hid hk2;have HX2:=Lib.hid ((hf2.oth w.heap.size (heap_lt HX0.out) (by omega)).trans HX0.out);clear hf2 hp2 hk2)))
 have hz2:=HF2.out.size
 have HT3:=Lib.hid ((show TS n b A cap l En w w2.heap.size k2 (xC 116 (.slice none 0 0) T ⟨#[]⟩ 0 ⟨#[]⟩) (w2.alloc (.cells (xC 116 (.slice none 0 0) T ⟨#[]⟩ 0 ⟨#[]⟩) 57)) from⟨HP2.out.below (alloc_bel _ _),HF2.out.trans (Fr.of (n:=n) (S:=fun i=>i=b) (alloc_bel _ _) (by omega)) (fun i hi=>.inl hi),((alloc_bel w2 _).block _ (heap_lt HX2.out)).trans HX2.out,heap_alloc_new w2 _,heap_lt HX2.out,hbz,hn⟩))
 go_upto_region 3 with fail
 generalize w2.alloc (.cells (xC 116 (.slice none 0 0) T ⟨#[]⟩ 0 ⟨#[]⟩) 57)=W3 at *
 generalize w2.heap.size=xb at *
 obtain⟨_,_,_,e3,_,hbw⟩:=HT3.out.pk.cells
 go_upto_region 9 with(go_at_call 59;(with_reducible refine(HIN5.out _).mono ?_);(rintro e w4 ⟨rfl,rfl⟩))
 have HT3b:=Lib.hid (HT3.out.below (alloc_bel W3 (.cells A5 9)))
 generalize W3.alloc (.cells A5 9)=W3b at *
 go_upto_region 13 with(go_at_call 59;(with_reducible refine(HIN3.out _ _ (by simp)).mono ?_);(rintro e w4 ⟨rfl,rfl⟩))
 have HT4:=Lib.hid (HT3b.out.below (alloc_bel W3b (.cells A3t 9)))
 generalize W3b.alloc (.cells A3t 9)=W4 at *
 go_upto_region 14 with((go_at_call 58;(with_reducible refine(HO2.out _ _ HT4.out.pk HT4.out.zle HK2.out).mono ?_);(rintro e w5 ⟨rfl,hf5,k5,hp5,hk5⟩;have HT5:=Lib.hid (HT4.out.step hf5 hp5);have HK5:=Lib.hid hk5;obtain⟨c0,c1,c2,c3,c4,c5,hfz,hxw⟩:=xBox_cells HT5.out.xbox;clear hf5 hp5 hk5)))
 have HT6:=Lib.hid (show TS n b A cap l En w xb k5 (xC 116 (.slice none 0 0) T O 0 ⟨#[]⟩) (w5.setCell ⟨xb,3,none⟩ (.string O)) from HT5.out.set 3 (.string O))
 clear c0 c1 c2 c3 c4 c5 hfz hxw
 generalize w5.setCell ⟨xb,3,none⟩ (.string O)=W6 at *
 go_upto_region 16 with((go_at_call 148;(with_reducible refine(HN2.out _ _ HT6.out.pk HT6.out.zle HK5.out).mono ?_);(rintro e w7 ⟨rfl,hm7,hf7,k7,hp7,hk7⟩;have HT7:=Lib.hid (HT6.out.step hf7 hp7);have HK7:=Lib.hid hk7;obtain⟨c0,c1,c2,c3,c4,c5,hfz,hxw⟩:=xBox_cells HT7.out.xbox;clear hf7 hp7 hk7)))
 have HT8:=Lib.hid ((show TS n b A cap l En w xb k7 (xC 116 (.slice none 0 0) T O 0 M) (w7.setCell ⟨xb,5,none⟩ (.string M)) from HT7.out.set 5 (.string M)).below (alloc_bel _ (.cells #[.int .u8 115,.string M,.int .i64 (m.1.num:Int),.int .i64 (m.1.col:Int)] 98)))
 have HTB:=Lib.hid (alloc_at (w7.setCell ⟨xb,5,none⟩ (.string M)) (.cells #[.int .u8 115,.string M,.int .i64 (m.1.num:Int),.int .i64 (m.1.col:Int)] 98) w7.heap.size (by simp))
 clear c0 c1 c2 c3 c4 c5 hfz hxw
 generalize (w7.setCell ⟨xb,5,none⟩ (.string M)).alloc (.cells #[.int .u8 115,.string M,.int .i64 (m.1.num:Int),.int .i64 (m.1.col:Int)] 98)=W8 at *
 generalize w7.heap.size=tb at *
 obtain⟨_,_,_,e8,_,hbw8⟩:=HT8.out.pk.cells
 obtain⟨t0,t1,t2,t3⟩:=tokBox_cells HTB.out
 have hM32i:(M.size:Int)=32:=by omega
 go_wp2_with ((go_at_call 149;(with_reducible refine(HUX.out _).mono ?_);(rintro e w9 ⟨⟨v9,rfl⟩,hb9⟩;have HT9:=Lib.hid (HT8.out.below hb9);have HTB9:=Lib.hid ((hb9.block _ (heap_lt HTB.out)).trans HTB.out);clear hb9;obtain⟨t0,t1,t2,t3⟩:=tokBox_cells HTB9.out;obtain⟨c0,c1,c2,c3,c4,c5,hfz,hxw⟩:=xBox_cells HT9.out.xbox;obtain⟨d0,d1,d2,d3,d4,d5,hfd,hdw⟩:=xBox_cells HT9.out.rbox;have hxd:=HT9.out.lt)))
 exact TS.ret HT9.out (fun A W=>by rw[<-HT.out,hw, ← HOO.out,ho, ← HMM.out];exact .auth (by rw[authB_hex,HV.out.1,HV.out.2];rfl)) HK7.out rfl
end Go.Proofs.YtannhfnpigiggaaGreatDoor
namespace Go.Proofs.YtannhfnpigiggaaGreatDoor
set_option linter.unusedSimpArgs false
set_option linter.unusedVariables false
open Go.Lib (decDigits)
def kT1:Bs := [43,49,48,32,105,102,32,115,117,98,106,101,99,116,32,104,97,115,32,34,103,111,34,32,97,110,100,32,110,111,116,32,40,97,103,101,32,62,32,49,52,52,48,32,111,114,32,108,105,110,101,115,32,60,32,51,41,10]
def kT2:Bs := [107,105,108,108,32,105,102,32,40,40,110,97,109,101,32,105,115,32,34,120,34,41,41]
def kT3:Bs := [10,35,32,120,10,107,105,108]
def kT4:Bs := [43,53,32,105,102]
def kP2:Bs := [107,105,108,108,32,105,102,32,110,97,109,101,32,105,115,32,34,120,34,10]
def kL1:List RuleS := [⟨[43],10,none,some (.both [.txt wSubject wHas [103,111],.neg (.either [.cmp wAge [62] 1440,.cmp wLines [60] 3])])⟩]
def kL2:List RuleS := [⟨wKill,0,none,some (.txt wName wIs [120])⟩]
def kX:InS:=⟨[], [71,111,112,104,101,114,115], [],List.replicate 16 0, [],5,0,9,0,0⟩
theorem kn1:parseG kT1=.ok kL1:=by kernel_rfl
theorem kn2:parseG kT2=.ok kL2:=by kernel_rfl
theorem kn3:parseG kT3=.error (3,1,29):=by kernel_rfl
theorem kn4:parseG kT4=.error (1,6,29):=by kernel_rfl
theorem kd10:decDigits 10=[49,48]:=dec_val [49,48] (by decide)
theorem kd1440:decDigits 1440=[49,52,52,48]:=dec_val [49,52,52,48] (by decide)
theorem kd3:decDigits 3=[51]:=dec_val [51] (by decide)
theorem kpr1:printRs kL1=kT1:=by
 have e:printRs kL1=printR kL1[0] ++ [10]:=by simp[printRs,kL1]
 rw[e]
 simp[kL1,printR,printF,printAnd,printOr,isOr,isList,decI,kd10,kd1440,kd3]
 decide
theorem kpr2:printRs kL2=kP2:=by kernel_rfl
theorem krt:rateF kL1 kX=⟨10,false,false,1⟩:=by kernel_rfl
end Go.Proofs.YtannhfnpigiggaaGreatDoor
