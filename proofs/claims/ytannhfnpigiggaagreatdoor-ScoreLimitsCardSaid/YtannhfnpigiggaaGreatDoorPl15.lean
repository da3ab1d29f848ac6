import Derived.Test.YtannhfnpigiggaaGreatDoorPl9
import Derived.Test.YtannhfnpigiggaaGreatDoorPl13
import Derived.Test.YtannhfnpigiggaaGreatDoorPl14
namespace Go.Proofs.YtannhfnpigiggaaGreatDoor
set_option linter.unusedSimpArgs false
set_option linter.unusedVariables false
open Go.RowKit
abbrev tokC(t:Tok):Array Value:=#[.int .i64 (t.kind:Int),.string (ofL t.text),.int .i64 (t.num:Int),.int .i64 (t.col:Int)]
abbrev tokV(t:Tok):Value:=.agg (tokC t)
def failV(f:Fl):Value:=.iface 110 (.agg #[.int .i64 (f.1:Int),.int .i64 f.2])
abbrev failE(f:Fl):Ending:=.panicked [{ v:=failV f,recovered:=false }]
structure TokPost(x:Except Fl (Tok × Nat))(w:World)(e:Ending)(w':World):Prop where
 bel:Below w.heap.size w w'
 res:match x with
  | .error f=>e=failE f
  | .ok t=>e=.returned (.tuple #[tokV t.1,.int .i64 (t.2:Int)])
theorem TokPost.err{x:Except Fl (Tok × Nat)}{f:Fl}{w w':World}(hx:x=.error f)(hb:Below w.heap.size w w'){e:Ending}(he:e=failE f):TokPost x w e w':=⟨hb,by rw[hx];exact he⟩
theorem TokPost.yes{x:Except Fl (Tok × Nat)}{t:Tok × Nat}{w w':World}(hx:x=.ok t)(hb:Below w.heap.size w w'){e:Ending}(he:e=.returned (.tuple #[tokV t.1,.int .i64 (t.2:Int)])):TokPost x w e w':=⟨hb,by rw[hx];exact he⟩
set_option maxHeartbeats 400000 in
theorem sc_span(f:Nat)(p:Int->Bool)(hf:ClassIs f p)(s:ByteArray)(w:World)(hs:s.size<=maxLen) :
  Calls Tryz.prog 103 #[.string s,.func (.func f) #[] #[]] w fun e w'=>e=.returned (.int .i64 (skipFrom p (toL s) 0))/\w=w':=by
 unfold maxLen at hs
 have he:=hf.enters
 go_enter Tryz.func103,Tryz.ntmps103
 go_wp2_with fail
 go_loop [5] (fun v=>∃k:Nat,k<=s.size/\skipFrom p (toL s) 0=skipFrom p (toL s) k/\v=.int .i64 k) (fun v=>s.size-(intOf v).toNat)
 case atStart=>exact⟨0,by omega,rfl,rfl⟩
 case round =>
  obtain⟨k,hk,heq,rfl⟩:=hrel
  have HQ:=Lib.hid heq;clear heq
  by_cases hlt:k<s.size
  ·by_cases hp:p (num s[k])=true
   ·have H2:=Lib.hid (skipFrom_step p (toL s) k (by rw[toL_length];exact hlt) (by rw[toL_getElem _ _ hlt];exact hp))
    go_wp2_with (refine(hf.calls _ _).mono ?_;rintro e w' ⟨rfl,rfl⟩)
    go_round
    case rel=>exact⟨k+1,by omega,HQ.out.trans H2.out,by go_num⟩
    case measure=>simp[intOf]<;>omega
   ·have hp':p (num s[k])=false:=by simpa using hp
    have H2:=Lib.hid (skipFrom_stop p (toL s) k (by rw[toL_length];exact hlt) (by rw[toL_getElem _ _ hlt];exact hp'))
    clear hp
    go_wp2_with (refine(hf.calls _ _).mono ?_;rintro e w' ⟨rfl,rfl⟩)
    go_ret
    exact⟨ret_int (by rw[HQ.out,H2.out]),rfl⟩
  ·have H2:=Lib.hid (skipFrom_end p (toL s) k (by rw[toL_length];omega))
   go_wp2_with fail
   go_ret
   exact⟨ret_int (by rw[HQ.out,H2.out]),rfl⟩
theorem endQ_ge:∀(n:Nat) (l:Bs) (i e:Nat),l.length<=n->endQ l i=some e->i<=e/\e<i+l.length:=by
 intro n
 induction n with
 | zero=>intro l i e h he;rw[List.eq_nil_of_length_eq_zero (l:=l) (by omega),endQ]at he;cases he
 | succ n ih =>
  intro l i e h he
  cases l with
  | nil=>rw[endQ]at he;cases he
  | cons c r =>
   rw[endQ.eq_def]at he
   simp only at he
   split at he
   ·injection he with he;simp;omega
   ·split at he
    ·cases r with
     | nil=>cases he
     | cons d r' =>
      have:=ih r' (i+2) e (by simp at h;omega) he
      simp;omega
    ·have:=ih r (i+1) e (by simpa using h) he
     simp;omega
theorem endQ_nil(i:Nat):endQ [] i=none:=by rw[endQ]
theorem endQ_hit(r:Bs)(i:Nat):endQ (34::r) i=some i:=by rw[endQ.eq_def];rfl
theorem endQ_esc(r:Bs)(i:Nat):endQ (92::r) i=endQ (r.drop 1) (i+2):=by
 rw[endQ.eq_def]
 cases r with
 | nil=>simp[endQ_nil]
 | cons d r'=>simp
theorem endQ_next{c:UInt8}(r:Bs)(i:Nat)(h1:c≠34)(h2:c≠92):endQ (c::r) i=endQ r (i+1):=by
 rw[endQ.eq_def];simp[h1,h2]
theorem unescQ_nil(i:Nat):unescQ [] i=([],none):=by rw[unescQ]
theorem unescQ_bad{d:UInt8}(r:Bs)(i:Nat)(h:¬ (d=34\/d=92)):unescQ (92::d::r) i=([],some i):=by
 rw[unescQ.eq_def];simp[h]
theorem unescQ_esc{d:UInt8}(r:Bs)(i:Nat)(h:d=34\/d=92):unescQ (92::d::r) i=(d::(unescQ r (i+2)).1,(unescQ r (i+2)).2):=by
 rw[unescQ.eq_def];simp[h]
theorem unescQ_next{c:UInt8}(r:Bs)(i:Nat)(h:c≠92):unescQ (c::r) i=(c::(unescQ r (i+1)).1,(unescQ r (i+1)).2):=by
 rw[unescQ.eq_def];simp[h]
theorem drop_at'(L:Bs)(k:Nat)(h:k<L.length):L.drop k=L[k]::L.drop (k+1):=List.drop_eq_getElem_cons h
theorem q34(c:UInt8):(num c==34)=decide (c=34):=numq c 34 (by omega)
theorem q92(c:UInt8):(num c==92)=decide (c=92):=numq c 92 (by omega)
theorem n34(c:UInt8):(num c != 34) = !decide (c=34):=by rw[bne,q34]
theorem n92(c:UInt8):(num c != 92) = !decide (c=92):=by rw[bne,q92]
theorem tokBox_cells{W:World}{r:Nat}{a b c d:Value}{t:TypeId}(h:W.heap[r]?=some (.cells #[a,b,c,d] t (0,0))):W.cell? ⟨r,0,none⟩=some a/\W.cell? ⟨r,1,none⟩=some b/\W.cell? ⟨r,2,none⟩=some c/\W.cell? ⟨r,3,none⟩=some d :=
 ⟨by rw[Lib.cell_of_heap h];rfl,by rw[Lib.cell_of_heap h];rfl,by rw[Lib.cell_of_heap h];rfl,by rw[Lib.cell_of_heap h];rfl⟩
theorem box4_set{W:World}{r:Nat}{a b c d x0 x1 x2 x3:Value}{t:TypeId}(h:W.heap[r]?=some (.cells #[a,b,c,d] t (0,0))) :
  ((((W.setCell ⟨r,0,none⟩ x0).setCell ⟨r,1,none⟩ x1).setCell ⟨r,2,none⟩ x2).setCell ⟨r,3,none⟩ x3).heap[r]?=some (.cells #[x0,x1,x2,x3] t (0,0)):=by
 exact heap_set (heap_set (heap_set (heap_set h x0) x1) x2) x3
theorem box4_below{n:Nat}{w W:World}{r:Nat}{x0 x1 x2 x3:Value}(hb:Below n w W)(hr:n<=r) :
  Below n w ((((W.setCell ⟨r,0,none⟩ x0).setCell ⟨r,1,none⟩ x1).setCell ⟨r,2,none⟩ x2).setCell ⟨r,3,none⟩ x3) :=
 (((hb.setCell (p:=⟨r,0,none⟩) hr x0).setCell (p:=⟨r,1,none⟩) hr x1).setCell (p:=⟨r,2,none⟩) hr x2).setCell (p:=⟨r,3,none⟩) hr x3
theorem str_ret{Q:Ending->World->Prop}{W:World}{r n:Nat}{t:Tok}{T:Array Value}(hb:W.heap[r]?=some (.cells (tokC t) 118 (0,0)))
  (hT2:T[4]?=some (.pointer (some ⟨r,0,none⟩))) (hT5:T[5]?=some (.int .i64 (n:Int))) (hQ:Q (.returned (.tuple #[tokV t,.int .i64 (n:Int)])) W) :
  bodyPost Tryz.prog Tryz.f106 Q .ret { tmps:=T,defers := [] } W:=by
 obtain⟨c0,c1,c2,c3⟩:=tokBox_cells hb
 refine bodyPost_ret (v:=.tuple #[tokV t,.int .i64 (n:Int)]) ?_ rfl hQ
 simp[results,Tryz.f106,go_sem,hT2,hT5,c0,c1,c2,c3]
structure UnAt(L:Bs)(e i:Nat)(acc:Bs):Prop where
 val:unescQ ((L.take e).drop 1) 1=(acc++(unescQ ((L.take e).drop i) i).1,(unescQ ((L.take e).drop i) i).2)
 pos:endQ (L.drop i) i=some e
 lo:1<=i
 le:i<=e
 few:acc.length<=i
theorem UnAt.zero{L:Bs}{e:Nat}(h:endQ (L.drop 1) 1=some e):UnAt L e 1 []:=⟨by simp,h,by omega,(endQ_ge _ _ _ _ (Nat.le_refl _) h).1,by simp⟩
theorem UnAt.done{L:Bs}{e:Nat}{acc:Bs}(h:UnAt L e e acc):unescQ ((L.take e).drop 1) 1=(acc,none):=by
 rw[h.val,List.drop_eq_nil_of_le (by simp;omega),unescQ_nil];simp
theorem take_drop_at{L:Bs}{e i:Nat}(h:i<e)(he:e<=L.length):(L.take e).drop i=L[i]'(by omega)::(L.take e).drop (i+1):=by
 rw[List.drop_eq_getElem_cons (by simp;omega)];simp
theorem UnAt.next{L:Bs}{e i:Nat}{acc:Bs}(h:UnAt L e i acc)(hi:i<e)(he:e<L.length)(h92:L[i]'(by omega)≠92):UnAt L e (i+1) (acc ++ [L[i]'(by omega)]):=by
 have h34:L[i]'(by omega)≠34:=fun e2=>by
  have:=h.pos
  rw[drop_at' L i (by omega),e2,endQ_hit]at this
  injection this with this;omega
 refine⟨?_,?_,by have:=h.lo;omega,by omega,by have:=h.few;simp;omega⟩
 ·rw[h.val,take_drop_at hi (by omega),unescQ_next _ _ h92];simp
 ·have:=h.pos
  rw[drop_at' L i (by omega),endQ_next _ _ h34 h92]at this;exact this
theorem UnAt.two{L:Bs}{e i:Nat}{acc:Bs}(h:UnAt L e i acc)(hi:i<e)(he:e<L.length)(h92:L[i]'(by omega)=92):i+1<e:=by
 have h1:=h.pos
 rw[drop_at' L i (by omega),h92,endQ_esc]at h1
 have:=(endQ_ge _ _ _ _ (Nat.le_refl _) h1).1
 omega
theorem UnAt.esc{L:Bs}{e i:Nat}{acc:Bs}(h:UnAt L e i acc)(hi:i<e)(he:e<L.length)(h92:L[i]'(by omega)=92)(h2:i+1<e)(hd:L[i+1]'(by omega)=34\/L[i+1]'(by omega)=92):UnAt L e (i+2) (acc ++ [L[i+1]'(by omega)]):=by
 refine⟨?_,?_,by omega,by omega,by have:=h.few;simp;omega⟩
 ·rw[h.val,take_drop_at hi (by omega),h92,take_drop_at h2 (by omega),unescQ_esc _ _ hd];simp
 ·have h1:=h.pos
  rw[drop_at' L i (by omega),h92,endQ_esc,List.drop_drop]at h1;exact h1
theorem UnAt.bad{L:Bs}{e i:Nat}{acc:Bs}(h:UnAt L e i acc)(hi:i<e)(he:e<L.length)(h92:L[i]'(by omega)=92)(h2:i+1<e)(hd:¬ (L[i+1]'(by omega)=34\/L[i+1]'(by omega)=92)):unescQ ((L.take e).drop 1) 1=(acc,some i):=by
 rw[h.val,take_drop_at hi (by omega),h92,take_drop_at h2 (by omega),unescQ_bad _ _ hd];simp
theorem str_none{L:Bs}{col:Nat}(h:endQ (L.drop 1) 1=none):strT L col=.error (col,3):=by unfold strT;rw[h]
theorem str_bad{L:Bs}{col e i:Nat}{acc:Bs}(h:endQ (L.drop 1) 1=some e)(hu:unescQ ((L.take e).drop 1) 1=(acc,some i)):strT L col=.error (col+i,3):=by unfold strT;rw[h];simp only[hu]
theorem str_long{L:Bs}{col e:Nat}{acc:Bs}(h:endQ (L.drop 1) 1=some e)(hu:unescQ ((L.take e).drop 1) 1=(acc,none))(hl:200<acc.length):strT L col=.error (col,5):=by unfold strT;rw[h];simp only[hu];rw[if_pos hl]
theorem str_ctl{L:Bs}{col e:Nat}{acc:Bs}(h:endQ (L.drop 1) 1=some e)(hu:unescQ ((L.take e).drop 1) 1=(acc,none))(hl:¬ 200<acc.length)(hc:ctlB acc=true):strT L col=.error (col,6):=by unfold strT;rw[h];simp only[hu];rw[if_neg hl,if_pos hc]
theorem str_yes{L:Bs}{col e:Nat}{acc:Bs}(h:endQ (L.drop 1) 1=some e)(hu:unescQ ((L.take e).drop 1) 1=(acc,none))(hl:¬ 200<acc.length)(hc:ctlB acc=false):strT L col=.ok (⟨3,acc,0,col⟩,e+1):=by unfold strT;rw[h];simp only[hu];rw[if_neg hl,hc];rfl
set_option maxHeartbeats 8000000 in
set_option maxRecDepth 100000 in
theorem sc_stringAt(s:ByteArray)(col:Nat)(w:World)(hs:s.size<=900000)(hc:col<=1000000)(h0:0<s.size):Calls Tryz.prog 106 #[.string s,.int .i64 (col:Int)] w (TokPost (strT (toL s) col) w):=by
 have HL:=Lib.hid (toL_length s)
 have HAT:=Lib.hid (fun k (hk:k<s.size)=>toL_getElem s k hk)
 go_enter Tryz.func106,Tryz.ntmps106
 go_wp2_with fail
 go_loop [6] (fun v=>∃k:Nat,1<=k/\k<=s.size+1/\v=.int .i64 (k:Int)/\endQ ((toL s).drop 1) 1=endQ ((toL s).drop k) k) (fun v=>s.size+1-(intOf v).toNat)
 case atStart=>exact⟨1,by omega,by omega,rfl,rfl⟩
 case round =>
  obtain⟨k,hk1,hk,rfl,heq⟩:=hrel
  have HQ:=Lib.hid heq;clear heq
  have k0:(0:Int)<=(k:Int):=by omega
  by_cases hlt:k<s.size
  ·have k1:(k:Int)<(s.size:Int):=by omega
   have HD:=Lib.hid (show(toL s).drop k=(s[k]'hlt)::(toL s).drop (k+1) from by rw[drop_at' (toL s) k (by rw[HL.out];exact hlt),HAT.out k hlt])
   by_cases h34:(s[k]'hlt)=34
   ·have q1:(num (s[k]'hlt) != 34)=false:=by rw[n34,decide_eq_true h34];rfl
    have HE:=Lib.hid (show endQ ((toL s).drop 1) 1=some k from by rw[HQ.out,HD.out,h34,endQ_hit])
    have HBW:=Lib.hid (show Below w.heap.size w ((w.alloc (.cells #[.int .i64 0,.string ⟨#[]⟩,.int .i64 0,.int .i64 0] 118)).alloc (.cells #[.pointer none,.slice none 0 0] 87)) from(alloc_bel _ _).alloc (by simp) _)
    have HTB:=Lib.hid (show((w.alloc (.cells #[.int .i64 0,.string ⟨#[]⟩,.int .i64 0,.int .i64 0] 118)).alloc (.cells #[.pointer none,.slice none 0 0] 87)).heap[w.heap.size]?=some (.cells #[.int .i64 0,.string ⟨#[]⟩,.int .i64 0,.int .i64 0] 118 (0,0)) from(Lib.alloc_old _ _ _ (by simp)).trans (heap_alloc_new _ _))
    have HBD:=Lib.hid (bld_new (w.alloc (.cells #[.int .i64 0,.string ⟨#[]⟩,.int .i64 0,.int .i64 0] 118)) (w.heap.size+1) (by simp))
    have hz2:((w.alloc (.cells #[.int .i64 0,.string ⟨#[]⟩,.int .i64 0,.int .i64 0] 118)).alloc (.cells #[.pointer none,.slice none 0 0] 87)).heap.size=w.heap.size+2:=by simp
    have HU:=Lib.hid (UnAt.zero HE.out)
    clear h34
    go_wp2_with fail
    generalize (w.alloc (.cells #[.int .i64 0,.string ⟨#[]⟩,.int .i64 0,.int .i64 0] 118)).alloc (.cells #[.pointer none,.slice none 0 0] 87)=W2 at *
    go_loopw [8,9] (fun v8 _ wr=>∃(i:Nat) (acc:Bs),v8=.int .i64 (i:Int)/\UnAt (toL s) k i acc/\Lib.IsBuilder 87 5 (w.heap.size+1) (w.heap.size+1) (Lib.byteCells acc) wr/\Below (w.heap.size+1) W2 wr) (fun v8 _ _=>k-(intOf v8).toNat)
    case atStart=>exact⟨1, [],rfl,HU.out,HBD.out,Below.refl _ _⟩
    case round =>
     obtain⟨i,acc,rfl,hu,hbd,hb⟩:=hrel
     have HU1:=Lib.hid hu;have HBD1:=Lib.hid hbd;have HB1:=Lib.hid hb
     have hi:=hu.le
     have hi1:=hu.lo
     have hfew:=hu.few
     have hzr:=hb.size
     clear hu hbd hb HU HBD
     have i0:(0:Int)<=(i:Int):=by omega
     by_cases hik:i<k
     ·have i1:(i:Int)<(k:Int):=by omega
      have i2:(i:Int)<(s.size:Int):=by omega
      have his:i<s.size:=by omega
      by_cases h92:(s[i]'his)=92
      ·have q3:(num (s[i]'his)==92)=true:=by rw[q92,decide_eq_true h92]
       have h92':(toL s)[i]'(by rw[HL.out];exact his)=92:=by rw[HAT.out i his];exact h92
       have h2:=HU1.out.two hik (by rw[HL.out];exact hlt) h92'
       have his2:i+1<s.size:=by omega
       have i3:(i:Int)+1<(s.size:Int):=by omega
       have HAT2:=Lib.hid (HAT.out (i+1) his2)
       by_cases hd:(s[i+1]'his2)=34\/(s[i+1]'his2)=92
       ·have HN:=Lib.hid (HU1.out.esc hik (by rw[HL.out];exact hlt) h92' h2 (by rw[HAT2.out];exact hd))
        rw[HAT2.out]at HN
        have HWB:=Lib.hid (bld_byte (w.heap.size+1) (w.heap.size+1) acc (s[i+1]'his2) (num (s[i+1]'his2)) rfl wr HBD1.out (by omega) (by omega))
        have hcs:((num (s[i+1]'his2) != 34)=false)\/((num (s[i+1]'his2) != 34)=true/\(num (s[i+1]'his2) != 92)=false):=by
         rw[n34,n92]
         rcases hd with h|h
         ·rw[h];exact .inl rfl
         ·rw[h];exact .inr ⟨rfl,rfl⟩
        clear h92 h92' hd
        rcases hcs with q4|⟨q4,q5⟩
        all_goals
         go_wp2_with ((go_at_call 35;(with_reducible refine HWB.out.mono ?_);rintro e w4 ⟨rfl,hbd4,hb4⟩;have HBD4:=Lib.hid hbd4;have HB4:=Lib.hid hb4;clear hbd4 hb4))
         go_roundw
         case rel=>exact⟨i+2,_,by go_num,HN.out,HBD4.out,HB1.out.trans HB4.out⟩
         case measure=>simp[intOf]<;>omega
       ·have HN:=Lib.hid (HU1.out.bad hik (by rw[HL.out];exact hlt) h92' h2 (by rw[HAT2.out];exact hd))
        have q4:(num (s[i+1]'his2) != 34)=true:=by rw[n34,decide_eq_false (fun e=>hd (.inl e))];rfl
        have q5:(num (s[i+1]'his2) != 92)=true:=by rw[n92,decide_eq_false (fun e=>hd (.inr e))];rfl
        clear h92 h92' hd
        go_wp2_with fail
        exact⟨rfl,TokPost.err (str_bad HE.out HN.out) (HBW.out.trans (HB1.out.mono (by omega))) (by unfold failE failV;rw[Int.natCast_add])⟩
      ·have q3:(num (s[i]'his)==92)=false:=by rw[q92,decide_eq_false h92]
       have HN:=Lib.hid (HU1.out.next hik (by rw[HL.out];exact hlt) (by rw[HAT.out i his];exact h92))
       rw[HAT.out i his]at HN
       have HWB:=Lib.hid (bld_byte (w.heap.size+1) (w.heap.size+1) acc (s[i]'his) (num (s[i]'his)) rfl wr HBD1.out (by omega) (by omega))
       clear h92
       go_wp2_with ((go_at_call 35;(with_reducible refine HWB.out.mono ?_);rintro e w4 ⟨rfl,hbd4,hb4⟩;have HBD4:=Lib.hid hbd4;have HB4:=Lib.hid hb4;clear hbd4 hb4))
       go_roundw
       case rel=>exact⟨i+1,_,by go_num,HN.out,HBD4.out,HB1.out.trans HB4.out⟩
       case measure=>simp[intOf]<;>omega
     ·have i1:(k:Int)<=(i:Int):=by omega
      obtain rfl:i=k:=by omega
      have HX:=Lib.hid HU1.out.done
      have hlb:(Lib.byteCells acc).length=acc.length:=Lib.byteCells_length acc
      have HLN:=Lib.hid ((Tryz.Builder_Len (w.heap.size+1) (w.heap.size+1) (Lib.byteCells acc) wr HBD1.out).mono (R':=fun e w'=>e=.returned (.int .i64 (acc.length:Int))/\wr=w') (fun e w' h=>⟨by rw[h.1,hlb],h.2.symm⟩))
      clear hlb
      have HTR:=Lib.hid ((HB1.out.block w.heap.size (by omega)).trans HTB.out)
      by_cases hl:200<acc.length
      ·have l1:(200:Int)<(acc.length:Int):=by omega
       go_wp2_with ((go_at_call 123;(with_reducible refine HLN.out.mono ?_);rintro e w' ⟨rfl,rfl⟩))
       exact⟨rfl,TokPost.err (str_long HE.out HX.out hl) (HBW.out.trans (HB1.out.mono (by omega))) rfl⟩
      ·have l1:(acc.length:Int)<=200:=by omega
       have HSG:=Lib.hid (fun wx hx hz=>Tryz.Builder_String_any_f (w.heap.size+1) (w.heap.size+1) acc wx hx hz)
       have HPR:=Lib.hid (fun wx=>show Calls Tryz.prog 124 #[.string ⟨acc.toArray⟩] wx fun e w'=>e=.returned (.bool (!ctlB acc))/\Below wx.heap.size wx w' from u8_printable (ofL acc) wx (by rw[ofL_size];omega))
       have HFD:=Lib.hid (Lib.IsBuilderF.of HBD1.out)
       have hzr1:w.heap.size+1<=wr.heap.size:=by omega
       rcases hct:ctlB acc with _|_
       ·rw[hct]at HPR
        have HV:=Lib.hid (str_yes (col:=col) HE.out HX.out hl hct)
        clear hl hct
        go_wp2_with (first
         | (go_at_call 123;(with_reducible refine HLN.out.mono ?_);rintro e w' ⟨rfl,rfl⟩)
         | (go_at_call 36;(with_reducible refine(HSG.out wr HFD.out hzr1).mono ?_);rintro e w5 ⟨rfl,hf5,hb5⟩;have HF5:=Lib.hid hf5;have HB5:=Lib.hid hb5;have hz5:=Nat.le_trans hzr1 hb5.size;clear hf5 hb5)
         | (go_at_call 124;(with_reducible refine(HPR.out w5).mono ?_);rintro e w6 ⟨rfl,hb6⟩;have HF6:=Lib.hid (bldF_below HF5.out hb6);have HB6:=Lib.hid (HB5.out.trans (hb6.mono hz5));have hz6:=Nat.le_trans hz5 hb6.size;clear hb6)
         | (go_at_call 36;(with_reducible refine(HSG.out w6 HF6.out hz6).mono ?_);rintro e w7 ⟨rfl,hf7,hb7⟩;have HB7:=Lib.hid (HB6.out.trans hb7);have HT7:=Lib.hid (((HB6.out.trans hb7).block w.heap.size (by omega)).trans HTR.out);obtain⟨d0,d1,d2,d3⟩:=tokBox_cells HT7.out;have f0:=Lib.frozen_of_heap HT7.out 0;have f1:=Lib.frozen_of_heap HT7.out 1;have f2:=Lib.frozen_of_heap HT7.out 2;have f3:=Lib.frozen_of_heap HT7.out 3;clear hf7 hb7))
        exact str_ret (r:=w.heap.size) (n:=i+1) (t:=⟨3,acc,0,col⟩) (box4_set HT7.out) rfl rfl (TokPost.yes HV.out (box4_below (HBW.out.trans ((HB1.out.trans HB7.out).mono (by omega))) (Nat.le_refl _)) rfl)
       ·rw[hct]at HPR
        have HV:=Lib.hid (str_ctl (col:=col) HE.out HX.out hl hct)
        clear hl hct
        go_wp2_with (first
         | (go_at_call 123;(with_reducible refine HLN.out.mono ?_);rintro e w' ⟨rfl,rfl⟩)
         | (go_at_call 36;(with_reducible refine(HSG.out wr HFD.out hzr1).mono ?_);rintro e w5 ⟨rfl,hf5,hb5⟩;have HF5:=Lib.hid hf5;have HB5:=Lib.hid hb5;have hz5:=Nat.le_trans hzr1 hb5.size;clear hf5 hb5)
         | (go_at_call 124;(with_reducible refine(HPR.out w5).mono ?_);rintro e w6 ⟨rfl,hb6⟩;have HB6:=Lib.hid (HB5.out.trans (hb6.mono hz5));clear hb6))
        exact⟨rfl,TokPost.err HV.out (HBW.out.trans ((HB1.out.trans HB6.out).mono (by omega))) rfl⟩
   ·have q1:(num (s[k]'hlt) != 34)=true:=by rw[n34,decide_eq_false h34];rfl
    by_cases h92:(s[k]'hlt)=92
    ·have q2:(num (s[k]'hlt)==92)=true:=by rw[q92,decide_eq_true h92]
     have HN:=Lib.hid (show endQ ((toL s).drop 1) 1=endQ ((toL s).drop (k+2)) (k+2) from by
      rw[HQ.out,HD.out,h92,endQ_esc,List.drop_drop])
     clear h34 h92
     go_wp2_with fail
     go_round
     case rel=>exact⟨k+2,by omega,by omega,by go_num,HN.out⟩
     case measure=>simp[intOf]<;>omega
    ·have q2:(num (s[k]'hlt)==92)=false:=by rw[q92,decide_eq_false h92]
     have HN:=Lib.hid (show endQ ((toL s).drop 1) 1=endQ ((toL s).drop (k+1)) (k+1) from by
      rw[HQ.out,HD.out,endQ_next _ _ h34 h92])
     clear h34 h92
     go_wp2_with fail
     go_round
     case rel=>exact⟨k+1,by omega,by omega,by go_num,HN.out⟩
     case measure=>simp[intOf]<;>omega
  ·have k1:(s.size:Int)<=(k:Int):=by omega
   have HN:=Lib.hid (show endQ ((toL s).drop 1) 1=none from by rw[HQ.out,List.drop_eq_nil_of_le (by rw[HL.out];omega),endQ_nil])
   go_wp2_with fail
   exact⟨rfl,TokPost.err (str_none HN.out) (alloc_bel _ _) rfl⟩
theorem tat_ret{Q:Ending->World->Prop}{W:World}{r n:Nat}{t:Tok}{T:Array Value}(hb:W.heap[r]?=some (.cells (tokC t) 118 (0,0)))
  (hT2:T[4]?=some (.pointer (some ⟨r,0,none⟩))) (hT5:T[5]?=some (.int .i64 (n:Int))) (hQ:Q (.returned (.tuple #[tokV t,.int .i64 (n:Int)])) W) :
  bodyPost Tryz.prog Tryz.f77 Q .ret { tmps:=T,defers := [] } W:=by
 obtain⟨c0,c1,c2,c3⟩:=tokBox_cells hb
 refine bodyPost_ret (v:=.tuple #[tokV t,.int .i64 (n:Int)]) ?_ rfl hQ
 simp[results,Tryz.f77,go_sem,hT2,hT5,c0,c1,c2,c3]
theorem class_isLower:ClassIs 102 isLower:=⟨Tryz.call102,asc_isLower⟩
theorem class_isDig:ClassIs 104 isDigit:=⟨Tryz.call104,asc_isDigit⟩
theorem skip_take(p:Int->Bool)(L:Bs):skipFrom p L 0=(L.takeWhile fun c=>p (num c)).length:=by unfold skipFrom;simp
theorem take_skip(p:Int->Bool)(L:Bs):L.take (skipFrom p L 0)=L.takeWhile fun c=>p (num c):=by
 have:=cut_skip p L 0
 unfold cutL at this
 simpa using this
abbrev symA:Array Value:=#[.string ⟨#[33,61]⟩,.string ⟨#[60,61]⟩,.string ⟨#[62,61]⟩,.string ⟨#[40]⟩,.string ⟨#[41]⟩,.string ⟨#[43]⟩,.string ⟨#[45]⟩,.string ⟨#[61]⟩,.string ⟨#[60]⟩,.string ⟨#[62]⟩]
theorem sym_at{W:World}{b k:Nat}{t:TypeId}(h:W.heap[b]?=some (.cells symA t (0,0)))(hk:k<10):W.cell? ⟨b,k,none⟩=some (.string (ofL (syms.getD k []))):=by
 rw[Lib.cell_of_heap h]
 iterate 10 (rcases k with _|k;· rfl)
 omega
theorem sym_step{k:Nat}(hk:k<10):syms.drop k=syms.getD k []::syms.drop (k+1):=by
 have:∀k<10,syms.drop k=syms.getD k []::syms.drop (k+1):=by decide
 exact this k hk
set_option maxHeartbeats 8000000 in
set_option maxRecDepth 100000 in
theorem sc_tokenAt(s:ByteArray)(i:Nat)(w:World)(hi:i<s.size)(hs:s.size<=900000):Calls Tryz.prog 77 #[.string s,.int .i64 (i:Int)] w (TokPost (tokT ((toL s).drop i) (i+1)) w):=by
 have i0:(0:Int)<=(i:Int):=by omega
 have i1:(i:Int)<=(s.size:Int):=by omega
 have w1:IntKind.i64.wrap ((i:Int)+1)=(i:Int)+1:=IntWalk.i64_in _ (by omega)
 obtain⟨X,hX⟩:∃X,s.extract i s.size=X:=⟨_,rfl⟩
 have HX:=Lib.hid (show toL X=(toL s).drop i from by rw[<-hX];exact ext_drop s i)
 have hXs:X.size=s.size-i:=by rw[<-hX];exact extract_size _ _ _ (Nat.le_refl _)
 have hX0:0<X.size:=by omega
 obtain⟨r,er,hr⟩:=toL_head hX0
 have HER:=Lib.hid er;clear er
 have HXL:=Lib.hid (toL_length X)
 have HIL:=Lib.hid (fun wx=>asc_isLower (num (X[0]'hX0)) wx)
 have HID:=Lib.hid (fun wx=>asc_isDigit (num (X[0]'hX0)) wx)
 have HBW:=Lib.hid (alloc_bel w (.cells #[.int .i64 0,.string ⟨#[]⟩,.int .i64 0,.int .i64 0] 118))
 have HTB:=Lib.hid (heap_alloc_new w (.cells #[.int .i64 0,.string ⟨#[]⟩,.int .i64 0,.int .i64 0] 118))
 have hz1:(w.alloc (.cells #[.int .i64 0,.string ⟨#[]⟩,.int .i64 0,.int .i64 0] 118)).heap.size=w.heap.size+1:=by simp
 rw[<-HX.out]
 obtain⟨TT,hTT⟩:∃TT,tokT (toL X) (i+1)=TT:=⟨_,rfl⟩
 rw[hTT]
 have HT:=Lib.hid (show tokT (toL X) (i+1)=TT from hTT)
 clear hTT
 rcases h1:isLower (num (X[0]'hX0)) with _|_
 ·rw[h1]at HIL
  rcases h2:isDigit (num (X[0]'hX0)) with _|_
  ·rw[h2]at HID
   by_cases h34:(X[0]'hX0)=34
   ·have q1:(num (X[0]'hX0)==34)=true:=by rw[q34,decide_eq_true h34]
    have HV:=Lib.hid (show TT=strT (toL X) (i+1) from by
     rw[<-HT.out,HER.out]
     unfold tokT
     simp only
     rw[if_neg (by show ¬ isLower (num (X[0]'hX0))=true;rw[h1];simp),if_neg (by show ¬ isDigit (num (X[0]'hX0))=true;rw[h2];simp),if_pos h34])
    have HSA:=Lib.hid (fun wx=>sc_stringAt X (i+1) wx (by omega) (by omega) hX0)
    rw[<-HV.out,Int.natCast_add]at HSA
    have HSA:=Lib.hid (show ∀wx,Calls Tryz.prog 106 #[.string X,.int .i64 ((i:Int)+1)] wx (TokPost TT wx) from HSA.out)
    clear h1 h2 h34
    rcases hTT:TT with f|⟨t,n⟩
    ·rw[hTT]at HSA
     have HSB:=Lib.hid (fun wx=>(HSA.out wx).mono (R':=fun e w'=>e=failE f/\Below wx.heap.size wx w') (fun e w' h=>⟨h.res,h.bel⟩))
     clear hTT
     go_enter Tryz.func77,Tryz.ntmps77
     go_wp2_with (first
      | (go_at_call 102;(with_reducible refine(HIL.out _).mono ?_);rintro e w' ⟨rfl,rfl⟩)
      | (go_at_call 104;(with_reducible refine(HID.out _).mono ?_);rintro e w' ⟨rfl,rfl⟩)
      | (go_at_call 106;(with_reducible refine(HSB.out _).mono ?_);rintro e w2 ⟨rfl,hb2⟩;have HB2:=Lib.hid hb2;clear hb2))
     exact⟨rfl,TokPost.err rfl (HBW.out.trans (HB2.out.mono (by simp))) rfl⟩
    ·rw[hTT]at HSA
     have HSB:=Lib.hid (fun wx=>(HSA.out wx).mono (R':=fun e w'=>e=.returned (.tuple #[tokV t,.int .i64 (n:Int)])/\Below wx.heap.size wx w') (fun e w' h=>⟨h.res,h.bel⟩))
     clear hTT
     go_enter Tryz.func77,Tryz.ntmps77
     go_wp2_with (first
      | (go_at_call 102;(with_reducible refine(HIL.out _).mono ?_);rintro e w' ⟨rfl,rfl⟩)
      | (go_at_call 104;(with_reducible refine(HID.out _).mono ?_);rintro e w' ⟨rfl,rfl⟩)
      | (go_at_call 106;(with_reducible refine(HSB.out _).mono ?_);rintro e w2 ⟨rfl,hb2⟩;have HB2:=Lib.hid hb2;have HT7:=Lib.hid ((hb2.block w.heap.size (by simp)).trans HTB.out);obtain⟨d0,d1,d2,d3⟩:=tokBox_cells HT7.out;have f0:=Lib.frozen_of_heap HT7.out 0;have f1:=Lib.frozen_of_heap HT7.out 1;have f2:=Lib.frozen_of_heap HT7.out 2;have f3:=Lib.frozen_of_heap HT7.out 3;clear hb2))
     exact tat_ret (r:=w.heap.size) (n:=n) (t:=t) (box4_set HT7.out) rfl rfl (TokPost.yes rfl (box4_below (HBW.out.trans (HB2.out.mono (by simp))) (Nat.le_refl _)) rfl)
   ·have q1:(num (X[0]'hX0)==34)=false:=by rw[q34,decide_eq_false h34]
    have HV:=Lib.hid (show TT=symT (toL X) (i+1) from by
     rw[<-HT.out,HER.out]
     unfold tokT
     simp only
     rw[if_neg (by show ¬ isLower (num (X[0]'hX0))=true;rw[h1];simp),if_neg (by show ¬ isDigit (num (X[0]'hX0))=true;rw[h2];simp),if_neg h34])
    clear h1 h2 h34
    go_enter Tryz.func77,Tryz.ntmps77
    go_wp2_with (first
     | (go_at_call 102;(with_reducible refine(HIL.out _).mono ?_);rintro e w' ⟨rfl,rfl⟩)
     | (go_at_call 104;(with_reducible refine(HID.out _).mono ?_);rintro e w' ⟨rfl,rfl⟩))
    have HT2:=Lib.hid (show((w.alloc (.cells #[.int .i64 0,.string ⟨#[]⟩,.int .i64 0,.int .i64 0] 118)).alloc (.cells symA 9)).heap[w.heap.size]?=some (.cells #[.int .i64 0,.string ⟨#[]⟩,.int .i64 0,.int .i64 0] 118 (0,0)) from(Lib.alloc_old _ _ _ (by simp)).trans HTB.out)
    have HSY:=Lib.hid (fun k (hk:k<10)=>sym_at (W:=(w.alloc (.cells #[.int .i64 0,.string ⟨#[]⟩,.int .i64 0,.int .i64 0] 118)).alloc (.cells symA 9)) (b:=w.heap.size+1) (alloc_at _ _ _ hz1.symm) hk)
    have HBX:=Lib.hid (show Below w.heap.size w ((w.alloc (.cells #[.int .i64 0,.string ⟨#[]⟩,.int .i64 0,.int .i64 0] 118)).alloc (.cells symA 9)) from HBW.out.alloc (by simp) _)
    generalize (w.alloc (.cells #[.int .i64 0,.string ⟨#[]⟩,.int .i64 0,.int .i64 0] 118)).alloc (.cells symA 9)=W2 at *
    go_loop [14,65] (fun _ v=>∃k:Nat,k<=10/\v=.int .i64 (k:Int)/\syms.find? (fun x=>x.isPrefixOf (toL X))=(syms.drop k).find? (fun x=>x.isPrefixOf (toL X))) (fun _ v=>10-(intOf v).toNat)
    case atStart=>exact⟨0,by omega,rfl,rfl⟩
    case round =>
     obtain⟨k,hk,rfl,hf⟩:=hrel
     have HF:=Lib.hid hf;clear hf
     have k0:(0:Int)<=(k:Int):=by omega
     by_cases hlt:k<10
     ·have k1:(k:Int)<10:=by omega
      have c1:=HSY.out k hlt
      have hsl:(syms.getD k []).length<=2:=by
       have:∀k<10,(syms.getD k []).length<=2:=by decide
       exact this k hlt
      have HF2:=Lib.hid (HF.out.trans (by rw[sym_step hlt]))
      rw[List.find?_cons]at HF2
      generalize syms.getD k []=Y at *
      have HHP:=Lib.hid (fun wx=>(Tryz.strings_HasPrefix X (ofL Y) wx).mono (R':=fun e w'=>e=.returned (.bool (Y.isPrefixOf (toL X)))/\wx=w') (fun e w' h=>⟨h.1,h.2.symm⟩))
      obtain⟨Z,hZ⟩:∃Z,ofL Y=Z:=⟨_,rfl⟩
      have hZs:Z.size=Y.length:=by rw[<-hZ,ofL_size]
      have HZ:=Lib.hid (show toL Z=Y from by rw[<-hZ,toL_ofL])
      rw[hZ]at HHP c1
      clear hZ
      rcases hp:Y.isPrefixOf (toL X) with _|_
      ·rw[hp]at HHP HF2
       clear hp
       go_wp2_with ((go_at_call 107;(with_reducible refine(HHP.out _).mono ?_);rintro e w' ⟨rfl,rfl⟩))
       go_round
       case rel=>exact⟨k+1,by omega,by go_num,HF2.out⟩
       case measure=>simp[intOf]<;>omega
      ·rw[hp]at HHP HF2
       clear hp
       have HTT:=Lib.hid (show TT=.ok (⟨4,Y,0,i+1⟩,Y.length) from by rw[HV.out];unfold symT;rw[HF2.out])
       obtain⟨d0,d1,d2,d3⟩:=tokBox_cells HT2.out
       have f0:=Lib.frozen_of_heap HT2.out 0;have f1:=Lib.frozen_of_heap HT2.out 1;have f2:=Lib.frozen_of_heap HT2.out 2;have f3:=Lib.frozen_of_heap HT2.out 3
       go_wp2_with ((go_at_call 107;(with_reducible refine(HHP.out _).mono ?_);rintro e w' ⟨rfl,rfl⟩))
       exact tat_ret (r:=w.heap.size) (n:=Y.length) (t:=⟨4,Y,0,i+1⟩) (by show _=some (Obj.cells #[_,.string (ofL Y),_,_] _ _);rw[<-HZ.out,ofL_toL];exact box4_set HT2.out) rfl (by rw[<-hZs];rfl) (TokPost.yes HTT.out (box4_below HBX.out (Nat.le_refl _)) rfl)
     ·have k1:(10:Int)<=(k:Int):=by omega
      have HTT:=Lib.hid (show TT=.error (i+1,6) from by rw[HV.out];unfold symT;rw[HF.out,List.drop_eq_nil_of_le (by show 10<=k;omega)];rfl)
      go_wp2_with fail
      exact⟨rfl,TokPost.err HTT.out HBX.out (by unfold failE failV;rw[Int.natCast_add];rfl)⟩
  ·rw[h2]at HID
   have hsk:=skipFrom_le isDigit (toL X) 0 (Nat.zero_le _)
   rw[HXL.out]at hsk
   have HSK:=Lib.hid (fun wx=>sc_span 104 isDigit class_isDig X wx (by unfold maxLen;omega))
   have HST:=Lib.hid (skip_take isDigit (toL X));have HTS:=Lib.hid (take_skip isDigit (toL X))
   generalize skipFrom isDigit (toL X) 0=n at *
   have n1:(n:Int)<=(X.size:Int):=by omega
   obtain⟨Y,hY⟩:∃Y,X.extract 0 n=Y:=⟨_,rfl⟩
   have HY:=Lib.hid (show toL Y=(toL X).takeWhile digB from by rw[<-hY,ext_take];exact HTS.out)
   have hYs:Y.size<=900000:=by rw[<-toL_length,HY.out];have:=(List.takeWhile_sublist digB (l:=toL X)).length_le;rw[HXL.out]at this;omega
   have HNM:=Lib.hid (fun wx=>asc_numberM Y wx (by omega))
   have HV:=Lib.hid (show tokT (toL X) (i+1)=if (numM 2147483647 (toL Y)).2≠0 then .error (i+1,(numM 2147483647 (toL Y)).2) else .ok (⟨2, [],(numM 2147483647 (toL Y)).1,i+1⟩,n) from by
    rw[HER.out]
    unfold tokT
    simp only
    rw[if_neg (by show ¬ isLower (num (X[0]'hX0))=true;rw[h1];simp),if_pos (by show isDigit (num (X[0]'hX0))=true;exact h2), ← HER.out,HY.out,HST.out];rfl)
   rw[HT.out]at HV
   generalize numM 2147483647 (toL Y)=nm at *
   obtain⟨v,er⟩:=nm
   simp only at HV
   clear h1 h2
   by_cases he:er=0
   ·subst he
    have HV2:=Lib.hid (show TT=.ok (⟨2, [],v,i+1⟩,n) from by rw[HV.out,if_neg (by simp)])
    clear HV
    go_enter Tryz.func77,Tryz.ntmps77
    go_wp2_with (first
     | (go_at_call 102;(with_reducible refine(HIL.out _).mono ?_);rintro e w' ⟨rfl,rfl⟩)
     | (go_at_call 104;(with_reducible refine(HID.out _).mono ?_);rintro e w' ⟨rfl,rfl⟩)
     | (go_at_call 103;(with_reducible refine(HSK.out _).mono ?_);rintro e w' ⟨rfl,rfl⟩)
     | (go_at_call 105;(with_reducible refine(HNM.out _).mono ?_);rintro e w' ⟨rfl,rfl⟩))
    exact tat_ret (r:=w.heap.size) (n:=n) (t:=⟨2, [],v,i+1⟩) (heap_alloc_new w _) rfl rfl (TokPost.yes HV2.out (alloc_bel w _) rfl)
   ·have e1:(er != 0)=true:=by simpa using he
    have HV2:=Lib.hid (show TT=.error (i+1,er) from by rw[HV.out,if_pos he])
    clear HV he
    go_enter Tryz.func77,Tryz.ntmps77
    go_wp2_with (first
     | (go_at_call 102;(with_reducible refine(HIL.out _).mono ?_);rintro e w' ⟨rfl,rfl⟩)
     | (go_at_call 104;(with_reducible refine(HID.out _).mono ?_);rintro e w' ⟨rfl,rfl⟩)
     | (go_at_call 103;(with_reducible refine(HSK.out _).mono ?_);rintro e w' ⟨rfl,rfl⟩)
     | (go_at_call 105;(with_reducible refine(HNM.out _).mono ?_);rintro e w' ⟨rfl,rfl⟩))
    exact⟨rfl,TokPost.err HV2.out (HBW.out) (by unfold failE failV;rw[Int.natCast_add];rfl)⟩
 ·rw[h1]at HIL
  have hsk:=skipFrom_le isLower (toL X) 0 (Nat.zero_le _)
  rw[HXL.out]at hsk
  have HSK:=Lib.hid (fun wx=>sc_span 102 isLower class_isLower X wx (by unfold maxLen;omega))
  have HST:=Lib.hid (skip_take isLower (toL X));have HTS:=Lib.hid (take_skip isLower (toL X))
  generalize skipFrom isLower (toL X) 0=n at *
  have n1:(n:Int)<=(X.size:Int):=by omega
  obtain⟨Y,hY⟩:∃Y,X.extract 0 n=Y:=⟨_,rfl⟩
  have HY:=Lib.hid (show toL Y=(toL X).takeWhile lowS from by rw[<-hY,ext_take];exact HTS.out)
  have HV:=Lib.hid (show TT=.ok (⟨1,toL Y,0,i+1⟩,n) from by
   rw[<-HT.out,HER.out]
   unfold tokT
   simp only
   rw[if_pos (by show isLower (num (X[0]'hX0))=true;exact h1), ← HER.out,HY.out,HST.out];rfl)
  clear h1
  go_enter Tryz.func77,Tryz.ntmps77
  go_wp2_with (first
   | (go_at_call 102;(with_reducible refine(HIL.out _).mono ?_);rintro e w' ⟨rfl,rfl⟩)
   | (go_at_call 103;(with_reducible refine(HSK.out _).mono ?_);rintro e w' ⟨rfl,rfl⟩))
  exact tat_ret (r:=w.heap.size) (n:=n) (t:=⟨1,toL Y,0,i+1⟩) (heap_alloc_new w _) rfl rfl (TokPost.yes HV.out (alloc_bel w _) rfl)
theorem str_len{L:Bs}{col:Nat}{x:Tok × Nat}(h:strT L col=.ok x)(h0:L≠[]):1<=x.2/\x.2<=L.length:=by
 unfold strT at h
 split at h
 ·cases h
 ·rename_i e he
  have h1:=endQ_ge _ _ _ _ (Nat.le_refl _) he
  have h2:0<L.length:=List.length_pos_iff.2 h0
  rw[List.length_drop]at h1
  simp only at h
  split at h
  ·cases h
  ·split at h
   ·cases h
   ·split at h
    ·cases h
    ·injection h with h;subst h;simp only;omega
theorem sym_len{L:Bs}{col:Nat}{x:Tok × Nat}(h:symT L col=.ok x):1<=x.2/\x.2<=L.length:=by
 unfold symT at h
 split at h
 ·rename_i s hs
  injection h with h;subst h
  have h1:=List.find?_some hs
  have h2:s∈syms:=List.mem_of_find?_eq_some hs
  have h3:=(List.isPrefixOf_iff_prefix.1 h1).length_le
  have h4:∀s∈syms,1<=s.length:=by decide
  exact⟨h4 s h2,h3⟩
 ·cases h
theorem tok_len{L:Bs}{col:Nat}{x:Tok × Nat}(h:tokT L col=.ok x):1<=x.2/\x.2<=L.length:=by
 unfold tokT at h
 split at h
 ·cases h
 ·rename_i c r
  split at h
  ·rename_i hc
   injection h with h;subst h
   simp only
   refine⟨?_,(List.takeWhile_sublist lowS (l:=c::r)).length_le⟩
   rw[List.takeWhile_cons,if_pos hc];simp
  ·split at h
   ·rename_i hc
    split at h
    ·cases h
    ·injection h with h;subst h
     simp only
     refine⟨?_,(List.takeWhile_sublist digB (l:=c::r)).length_le⟩
     rw[List.takeWhile_cons,if_pos hc];simp
   ·split at h
    ·exact str_len h (by simp)
    ·exact sym_len h
theorem toksG_fuel:∀(g h:Nat) (rest:Bs) (i:Nat),rest.length<g->rest.length<h->toksG g rest i=toksG h rest i
 | 0,_,_,_,hg,_=>by omega
 | _,0,_,_,_,hh=>by omega
 | g+1,h+1,rest,i,hg,hh=>by
  cases rest with
  | nil=>rfl
  | cons c r =>
   rw[toksG,toksG]
   by_cases hb:blkS c=true
   ·rw[if_pos hb,if_pos hb];exact toksG_fuel g h r (i+1) (by simpa using hg) (by simpa using hh)
   ·rw[if_neg hb,if_neg hb]
    rcases ht:tokT (c::r) (i+1) with f|⟨t,n⟩
    ·rfl
    ·have hn:=tok_len ht
     simp only at hn⊢
     rw[toksG_fuel g h ((c::r).drop n) (i+n) (by rw[List.length_drop];simp at hg⊢;omega) (by rw[List.length_drop];simp at hh⊢;omega)]
def toksR(L:Bs)(i:Nat):Except Fl (List Tok):=toksG ((L.drop i).length+1) (L.drop i) i
def preE(acc:List Tok)(x:Except Fl (List Tok)):Except Fl (List Tok):=match x with
 | .error f=>.error f
 | .ok l=>.ok (acc++l)
theorem toksF_R(L:Bs):toksF L=preE [] (toksR L 0):=by
 unfold toksF toksR preE
 rw[List.drop_zero]
 split<;>simp_all
theorem toksR_end(L:Bs):toksR L L.length=.ok [⟨0, [],0,L.length+1⟩]:=by unfold toksR;rw[List.drop_length];rfl
theorem toksR_blank{L:Bs}{i:Nat}(h:i<L.length)(hb:blkS L[i]=true):toksR L i=toksR L (i+1):=by
 unfold toksR
 rw[drop_at' L i h,toksG]
 rw[if_pos hb]
 exact toksG_fuel _ _ _ _ (by simp;omega) (by simp)
theorem toksR_err{L:Bs}{i:Nat}{f:Fl}(h:i<L.length)(hb:blkS L[i]=false)(ht:tokT (L.drop i) (i+1)=.error f):toksR L i=.error f:=by
 unfold toksR
 rw[drop_at' L i h]at ht⊢
 rw[toksG]
 rw[if_neg (by rw[hb];simp),ht]
theorem toksR_tok{L:Bs}{i n:Nat}{t:Tok}(h:i<L.length)(hb:blkS L[i]=false)(ht:tokT (L.drop i) (i+1)=.ok (t,n)):toksR L i=preE [t] (toksR L (i+n)):=by
 have hn:=tok_len ht
 simp only at hn
 rw[List.length_drop]at hn
 unfold toksR
 rw[drop_at' L i h]at ht⊢
 rw[toksG]
 rw[if_neg (by rw[hb];simp),ht]
 simp only
 have e:(L[i]::L.drop (i+1)).drop n=L.drop (i+n):=by rw[<-drop_at' L i h,List.drop_drop]
 rw[e,toksG_fuel _ ((L.drop (i+n)).length+1) _ _ (by simp;omega) (by simp)]
 unfold preE
 cases toksG ((L.drop (i+n)).length+1) (L.drop (i+n)) (i+n)<;>rfl
theorem preE_pre(a b:List Tok)(x:Except Fl (List Tok)):preE a (preE b x)=preE (a++b) x:=by
 unfold preE
 cases x<;>simp
def toksV(l:List Tok):List Value:=l.flatMap fun t=>(tokC t).toList
theorem toksV_snoc(l:List Tok)(t:Tok):toksV (l ++ [t])=toksV l++(tokC t).toList:=by simp[toksV]
theorem toksV_length(l:List Tok):(toksV l).length=l.length*4:=by
 induction l with
 | nil=>rfl
 | cons t r ih=>simp only[toksV,List.flatMap_cons,List.length_append]at ih⊢;rw[ih];simp;omega
theorem info_tok:(Tryz.prog.info? 118).map (fun i=>(i.zero,i.size,i.bytes))=some (some (.agg #[.int .i64 0,.string ⟨#[]⟩,.int .i64 0,.int .i64 0]),4,40):=by kernel_rfl
theorem el_tok:Elem Tryz.prog 113 118 4 40:=Elem.of Tryz.underlying113 info_tok rfl (by omega)
structure TksPost(x:Except Fl (List Tok))(w:World)(e:Ending)(w':World):Prop where
 bel:Below w.heap.size w w'
 res:match x with
  | .error f=>e=failE f
  | .ok l=>∃v,e=.returned v/\w'.ownsRow w.heap.size 118 4 v l.length (toksV l)
theorem TksPost.err{x:Except Fl (List Tok)}{f:Fl}{w w':World}(hx:x=.error f)(hb:Below w.heap.size w w'){e:Ending}(he:e=failE f):TksPost x w e w':=⟨hb,by rw[hx];exact he⟩
theorem TksPost.yes{x:Except Fl (List Tok)}{l:List Tok}{w w':World}{v:Value}(hx:x=.ok l)(hb:Below w.heap.size w w')(ho:w'.ownsRow w.heap.size 118 4 v l.length (toksV l)):TksPost x w (.returned v) w':=⟨hb,by rw[hx];exact⟨v,rfl,ho⟩⟩
set_option maxHeartbeats 8000000 in
set_option maxRecDepth 100000 in
theorem sc_tokens(s:ByteArray)(w:World)(hs:s.size<=900000):Calls Tryz.prog 49 #[.string s] w (TksPost (toksF (toL s)) w):=by
 have HL:=Lib.hid (toL_length s)
 have HAT:=Lib.hid (fun k (hk:k<s.size)=>toL_getElem s k hk)
 have HST:=Lib.hid (toksF_R (toL s))
 generalize toksF (toL s)=TT at *
 go_enter Tryz.func49,Tryz.ntmps49
 go_wp2_with fail
 go_loopw [3,4,5,6] (fun v3 v4 _ _ wr=>∃(i:Nat) (acc:List Tok),i<=s.size/\v4=.int .i64 (i:Int)/\acc.length<=i/\wr.ownsRow w.heap.size 118 4 v3 acc.length (toksV acc)/\Below w.heap.size w wr/\TT=preE acc (toksR (toL s) i)) (fun _ v4 _ _ _=>s.size-(intOf v4).toNat)
 case atStart=>exact⟨0, [],by omega,rfl,by simp,World.ownsRow_nil _ _ _ _,Below.refl _ _,HST.out⟩
 case round =>
  obtain⟨i,acc,hi,rfl,hacc,hown,hb,htt⟩:=hrel
  have HB:=Lib.hid hb
  have HTT:=Lib.hid htt
  have hzr:=hb.size
  clear hb htt HST
  have i0:(0:Int)<=(i:Int):=by omega
  by_cases hlt:i<s.size
  ·have i1:(i:Int)<(s.size:Int):=by omega
   have HLT:=Lib.hid (show i<(toL s).length from by rw[HL.out];exact hlt)
   have HAI:=Lib.hid (HAT.out i hlt)
   have HBK:=Lib.hid (fun wx=>asc_isBlank (num (s[i]'hlt)) wx)
   rcases hbk:isBlank (num (s[i]'hlt)) with _|_
   ·rw[hbk]at HBK
    have HBS:=Lib.hid (show blkS ((toL s)[i]'HLT.out)=false from by rw[HAI.out];exact hbk)
    have HTA:=Lib.hid (sc_tokenAt s i wr hlt hs)
    clear hbk
    rcases htk:tokT ((toL s).drop i) (i+1) with f|⟨t,n⟩
    ·rw[htk]at HTA
     have HV:=Lib.hid (show TT=.error f from by rw[HTT.out,toksR_err HLT.out HBS.out htk];rfl)
     have HTB:=Lib.hid (HTA.out.mono (R':=fun e w'=>e=failE f/\Below wr.heap.size wr w') (fun e w' h=>⟨h.res,h.bel⟩))
     clear htk
     go_wp2_with (first
      | (go_at_call 47;(with_reducible refine(HBK.out _).mono ?_);rintro e w' ⟨rfl,rfl⟩)
      | (go_at_call 77;(with_reducible refine HTB.out.mono ?_);rintro e w2 ⟨rfl,hb2⟩;have HB2:=Lib.hid hb2;clear hb2))
     exact⟨rfl,TksPost.err HV.out (HB.out.trans (HB2.out.mono hzr)) rfl⟩
    ·rw[htk]at HTA
     have hn:=tok_len htk
     simp only[List.length_drop,HL.out]at hn
     have HV:=Lib.hid (show TT=preE (acc ++ [t]) (toksR (toL s) (i+n)) from by rw[HTT.out,toksR_tok HLT.out HBS.out htk,preE_pre])
     have HTB:=Lib.hid (HTA.out.mono (R':=fun e w'=>e=.returned (.tuple #[tokV t,.int .i64 (n:Int)])/\Below wr.heap.size wr w') (fun e w' h=>⟨h.res,h.bel⟩))
     clear htk
     have x1:IntKind.i64.wrap ((i:Int)+(n:Int))=(i:Int)+(n:Int):=IntWalk.i64_in _ (by omega)
     go_upto_region 7 with(first
      | (go_at_call 47;(with_reducible refine(HBK.out _).mono ?_);rintro e w' ⟨rfl,rfl⟩)
      | (go_at_call 77;(with_reducible refine HTB.out.mono ?_);rintro e w2 ⟨rfl,hb2⟩;have HB2:=Lib.hid hb2;clear hb2))
     have HB3:=Lib.hid (HB2.out.trans ((alloc_bel w2 (.cells (tokC t) 118)).mono HB2.out.size))
     have HBX:=Lib.hid (heap_alloc_new w2 (.cells (tokC t) 118))
     clear HB2
     generalize w2.alloc (.cells (tokC t) 118)=W3 at *
     generalize w2.heap.size=q at *
     obtain⟨c0,c1,c2,c3⟩:=tokBox_cells HBX.out
     have hown2:=own_below hown HB3.out
     have hbs2:=Nat.le_trans hzr HB3.out.size
     go_wp2_with ((at_builtin;refine wpList_push el_tok rfl _ _ rfl hown2 (tokC t) rfl rfl rfl (by simp[Value.oneCell']) (by omega) (by unfold maxLen;omega) hbs2 ?_;intro g cap w3 hown3 hg3 hat3))
     have hb3:Below w.heap.size w w3:=(HB.out.trans (HB3.out.mono hzr)).grown hg3 hbs2 (fun k hk=>(hown2.lt k hk).1)
     go_roundw
     case rel=>exact⟨i+n,acc ++ [t],by omega,by go_num,by simp;omega,by rw[toksV_snoc,List.length_append];exact hown3,hb3,HV.out⟩
     case measure=>simp[intOf]<;>omega
   ·rw[hbk]at HBK
    have HV:=Lib.hid (show TT=preE acc (toksR (toL s) (i+1)) from by rw[HTT.out,toksR_blank HLT.out (by rw[HAI.out];exact hbk)])
    clear hbk
    go_wp2_with ((go_at_call 47;(with_reducible refine(HBK.out _).mono ?_);rintro e w' ⟨rfl,rfl⟩))
    go_roundw
    case rel=>exact⟨i+1,acc,by omega,by go_num,by omega,hown,HB.out,HV.out⟩
    case measure=>simp[intOf]<;>omega
  ·have i1:(s.size:Int)<=(i:Int):=by omega
   obtain rfl:i=s.size:=by omega
   have HV:=Lib.hid (show TT=.ok (acc ++ [⟨0, [],0,s.size+1⟩]) from by
    have h:=toksR_end (toL s)
    rw[HL.out]at h
    rw[HTT.out,h];rfl)
   have x1:IntKind.i64.wrap ((s.size:Int)+1)=(s.size:Int)+1:=IntWalk.i64_in _ (by omega)
   go_wp2_with ((at_builtin;refine wpList_push el_tok rfl _ _ rfl hown #[.int .i64 0,.string ⟨#[]⟩,.int .i64 0,.int .i64 ((s.size:Int)+1)] rfl rfl rfl (by simp[Value.oneCell']) (by omega) (by unfold maxLen;omega) hzr ?_;intro g cap w3 hown3 hg3 hat3))
   have hb3:Below w.heap.size w w3:=HB.out.grown hg3 hzr (fun k hk=>(hown.lt k hk).1)
   go_ret
   refine TksPost.yes HV.out hb3 ?_
   rw[toksV_snoc,List.length_append]
   exact hown3
def letK(k:Nat):Int:=if k=1 then 119 else if k=2 then 110 else if k=3 then 115 else if k=4 then 121 else 0
def rtC(t:Tok)(x:Bs):Array Value:=#[.int .u8 (letK t.kind),.string (ofL x),.int .i64 (t.num:Int),.int .i64 (t.col:Int)]
def rtV(t:Tok)(x:Bs):Value:=.agg (rtC t x)
def RtOk(t:Tok)(x:Bs):Prop:=t.kind≠2->x=t.text
set_option maxHeartbeats 400000 in
theorem rf_blank(c:Int)(w:World):Calls Tryz.prog 37 #[.int .u8 c] w fun e w'=>e=.returned (.bool (isBlank c))/\w=w':=by
 go_enter Tryz.func37,Tryz.ntmps37
 go_wp2
 all_goals (go_ret;exact⟨ret_bool (by simp[isBlank, *]<;>omega),rfl⟩)
set_option maxHeartbeats 400000 in
theorem rf_lowerC(c:Int)(w:World):Calls Tryz.prog 54 #[.int .u8 c] w fun e w'=>e=.returned (.bool (isLower c))/\w=w':=by
 go_enter Tryz.func54,Tryz.ntmps54
 go_wp2
 all_goals (go_ret;exact⟨ret_bool (by simp[isLower, *]<;>omega),rfl⟩)
set_option maxHeartbeats 400000 in
theorem rf_digit(c:Int)(w:World):Calls Tryz.prog 55 #[.int .u8 c] w fun e w'=>e=.returned (.bool (isDigit c))/\w=w':=by
 go_enter Tryz.func55,Tryz.ntmps55
 go_wp2
 all_goals (go_ret;exact⟨ret_bool (by simp[isDigit, *]<;>omega),rfl⟩)
theorem num_ret{Q:Ending->World->Prop}{W:World}{r:Nat}{t:Tok}{x:Bs}{T:Array Value}{n:Int}(hb:W.heap[r]?=some (.cells (rtC t x) 98 (0,0)))
  (hT2:T[4]?=some (.pointer (some ⟨r,0,none⟩))) (hT3:T[5]?=some (.int .i64 n)) (hT4:T[6]?=some (.int .i64 0)) (hQ:Q (.returned (.tuple #[rtV t x,.int .i64 n,.int .i64 0])) W) :
  bodyPost Tryz.prog Tryz.f56 Q .ret { tmps:=T,defers := [] } W:=by
 obtain⟨c0,c1,c2,c3⟩:=tokBox_cells hb
 refine bodyPost_ret (v:=.tuple #[rtV t x,.int .i64 n,.int .i64 0]) ?_ rfl hQ
 simp[results,Tryz.f56,go_sem,hT2,hT3,hT4,c0,c1,c2,c3,rtV,rtC]
structure DigAt(L:Bs)(k T:Nat):Prop where
 ge:k<T
 le:T<=L.length
 dig:∀(j:Nat) (h:j<L.length),k<=j->j<T->digB L[j]=true
 stop:∀(h:T<L.length),digB L[T]=false
 tw:(L.drop k).takeWhile digB=(L.drop k).take (T-k)
theorem digAt_of{L:Bs}{k:Nat}(hk:k<L.length)(hd:digB L[k]=true):∃T,DigAt L k T:=by
 refine⟨k+((L.drop k).takeWhile digB).length,?_⟩
 have hle:=(List.takeWhile_sublist digB (l:=L.drop k)).length_le
 rw[List.length_drop]at hle
 have e:(L.drop k).takeWhile digB=(L.drop k).take ((L.drop k).takeWhile digB).length:=by
  have:=List.takeWhile_append_dropWhile (p:=digB) (l:=L.drop k)
  have h:=List.take_left (l₁:=(L.drop k).takeWhile digB) (l₂:=(L.drop k).dropWhile digB)
  rw[this]at h;exact h.symm
 have hp:0<((L.drop k).takeWhile digB).length:=by
  rw[List.drop_eq_getElem_cons hk,List.takeWhile_cons,if_pos hd];simp
 refine⟨by omega,by omega,fun j h h1 h2=>?_,fun h=>?_,by rw[Nat.add_sub_cancel_left];exact e⟩
 ·have hm:L[j]∈(L.drop k).takeWhile digB:=by
   rw[e,List.mem_take_iff_getElem]
   exact⟨j-k,by rw[List.length_drop];omega,by simp[show k+(j-k)=j by omega]⟩
  exact List.all_eq_true.1 (List.all_takeWhile (p:=digB) (l:=L.drop k)) _ hm
 ·have h3:=List.takeWhile_append_dropWhile (p:=digB) (l:=L.drop k)
  have h4:(L.drop k).drop ((L.drop k).takeWhile digB).length=(L.drop k).dropWhile digB:=by
   have h:=List.drop_left (l₁:=(L.drop k).takeWhile digB) (l₂:=(L.drop k).dropWhile digB)
   rw[h3]at h;exact h
  rw[List.drop_drop,List.drop_eq_getElem_cons h]at h4
  have h5:=List.head?_dropWhile_not digB (L.drop k)
  rw[<-h4]at h5
  simpa only[List.head?_cons] using h5
set_option maxHeartbeats 4000000 in
set_option maxRecDepth 100000 in
theorem rf_number(s:ByteArray)(k T:Nat)(w:World)(hs:s.size<=900000)(hk:k<s.size)(hT:DigAt (toL s) k T)(hn:(numM 2147483647 (((toL s).drop k).take (T-k))).2=0) :
  Calls Tryz.prog 56 #[.string s,.int .i64 (k:Int)] w fun e w'=>∃x,e=.returned (.tuple #[rtV ⟨2, [],(numM 2147483647 (((toL s).drop k).take (T-k))).1,k+1⟩ x,.int .i64 (T:Int),.int .i64 0])/\Below w.heap.size w w':=by
 have HL:=Lib.hid (toL_length s)
 have HAT:=Lib.hid (fun k (hk:k<s.size)=>toL_getElem s k hk)
 have hT1:=hT.ge
 have hT2:=hT.le
 rw[HL.out]at hT2
 have HT:=Lib.hid hT
 have hbad:badNum (((toL s).drop k).take (T-k))=false/\valD (((toL s).drop k).take (T-k))<=2147483647/\(numM 2147483647 (((toL s).drop k).take (T-k))).1=valD (((toL s).drop k).take (T-k)):=by
  unfold numM at hn⊢
  split at hn
  ·cases hn
  ·rename_i h1
   split at hn
   ·cases hn
   ·rename_i h2
    rw[if_neg h1,if_neg h2]
    exact⟨by simpa using h1,by omega,rfl⟩
 obtain⟨hb1,hb2,hb3⟩:=hbad
 have hzero:(num (s[k]'hk)==48)=false\/(num (s[k]'hk)==48)=true/\T=k+1:=by
  rcases h0:(num (s[k]'hk)==48) with _|_
  ·exact .inl rfl
  ·right
   refine⟨rfl,?_⟩
   rw[List.drop_eq_getElem_cons (by rw[HL.out];exact hk),HAT.out k hk,show T-k=(T-k-1)+1 by omega,List.take_succ_cons,badNum_cons]at hb1
   have hc:(s[k]'hk==48)=true:=by
    have h1:num (s[k]'hk)=48:=by simpa using h0
    have:(s[k]'hk)=48:=UInt8.toNat_inj.1 (by simp only[num]at h1;simpa using(show(s[k]'hk).toNat = 48 by omega))
    simp[this]
   rw[hc]at hb1
   simp only[Bool.true_and,Bool.or_eq_false_iff,Bool.not_eq_false',List.isEmpty_iff,Bool.not_eq_eq_eq_not,Bool.not_false]at hb1
   have h2:=congrArg List.length hb1.2
   rw[List.length_take,List.length_drop,HL.out]at h2
   simp at h2
   omega
 obtain⟨V,hV⟩:∃V,valD (((toL s).drop k).take (T-k))=V:=⟨_,rfl⟩
 have HV:=Lib.hid hV
 rw[hb3,hV]
 have HPX:=Lib.hid (fun j (hj:j<=T-k)=>show valD (((toL s).drop k).take j)<=2147483647 from by
  have:=valD_take_le (((toL s).drop k).take (T-k)) j
  rw[List.take_take,Nat.min_eq_left hj]at this;omega)
 clear hb1 hb2 hb3 hn hV hT
 go_enter Tryz.func56,Tryz.ntmps56
 go_wp2_with fail
 have HB0:=Lib.hid (alloc_bel w (.cells #[.int .u8 0,.string ⟨#[]⟩,.int .i64 0,.int .i64 0] 98))
 have HX0:=Lib.hid (heap_alloc_new w (.cells #[.int .u8 0,.string ⟨#[]⟩,.int .i64 0,.int .i64 0] 98))
 generalize w.alloc (.cells #[.int .u8 0,.string ⟨#[]⟩,.int .i64 0,.int .i64 0] 98)=W1 at *
 go_loop [7] (fun v=>∃t:Nat,k<=t/\t<=T/\v=.int .i64 (t:Int)) (fun v=>T-(intOf v).toNat)
 case atStart=>exact⟨k,by omega,by omega,rfl⟩
 case round =>
  obtain⟨t,ht1,ht2,rfl⟩:=hrel
  have t0:(0:Int)<=(t:Int):=by omega
  by_cases hlt:t<T
  ·have t1:(t:Int)<(s.size:Int):=by omega
   have hts:t<s.size:=by omega
   have hd:=HT.out.dig t (by rw[HL.out];exact hts) ht1 hlt
   rw[HAT.out t hts]at hd
   have HD:=Lib.hid (fun wx=>show Calls Tryz.prog 55 #[.int .u8 (num (s[t]'hts))] wx (fun e w'=>e=.returned (.bool true)/\wx=w') from by
    have:=rf_digit (num (s[t]'hts)) wx
    rw[show isDigit (num (s[t]'hts))=true from hd]at this;exact this)
   clear hd
   go_wp2_with ((go_at_call 55;(with_reducible refine(HD.out _).mono ?_);rintro e w' ⟨rfl,rfl⟩))
   go_round
   case rel=>exact⟨t+1,by omega,by omega,by go_num⟩
   case measure=>simp[intOf]<;>omega
  ·obtain rfl:t=T:=by omega
   have HS2:=Lib.hid (fun (h:t<s.size) wx=>show Calls Tryz.prog 55 #[.int .u8 (num (s[t]'h))] wx (fun e w'=>e=.returned (.bool false)/\wx=w') from by
    have hd:=HT.out.stop (by rw[HL.out];exact h)
    rw[HAT.out t h]at hd
    have:=rf_digit (num (s[t]'h)) wx
    rw[show isDigit (num (s[t]'h))=false from hd]at this;exact this)
   have k0:(0:Int)<=(k:Int):=by omega
   have k1:(k:Int)<(s.size:Int):=by omega
   have y0:IntKind.i64.wrap ((k:Int)+1)=(k:Int)+1:=IntWalk.i64_in _ (by omega)
   have y1:(num (s[k]'hk)==48)=false\/(num (s[k]'hk)==48)=true/\decide ((k:Int)+1<(t:Int))=false:=by
    rcases hzero with h|⟨h,e⟩
    ·exact .inl h
    ·exact .inr ⟨h,decide_eq_false (by omega)⟩
   clear hzero
   by_cases hts:t<s.size
   ·have t1:(t:Int)<(s.size:Int):=by omega
    have HS3:=Lib.hid (HS2.out hts)
    clear HS2
    rcases y1 with y1|⟨y1,y2⟩
    ·go_wp2_with ((go_at_call 55;(with_reducible refine(HS3.out _).mono ?_);rintro e w' ⟨rfl,rfl⟩))
     go_loop [8,9] (fun vn vi=>∃i:Nat,k<=i/\i<=t/\vi=.int .i64 (i:Int)/\vn=.int .i64 (valD (((toL s).drop k).take (i-k)):Nat)) (fun _ vi=>t-(intOf vi).toNat)
     case atStart=>exact⟨k,by omega,by omega,rfl,by rw[Nat.sub_self];rfl⟩
     case round =>
      obtain⟨i,hi1,hi2,rfl,rfl⟩:=hrel
      have i0:(0:Int)<=(i:Int):=by omega
      by_cases hlt2:i<t
      ·have i1:(i:Int)<(t:Int):=by omega
       have his:i<s.size:=by omega
       have i2:(i:Int)<(s.size:Int):=by omega
       have hd:=HT.out.dig i (by rw[HL.out];exact his) hi1 hlt2
       rw[HAT.out i his]at hd
       have hq:=dig_num hd
       have HN:=Lib.hid (show valD (((toL s).drop k).take (i+1-k))=10*valD (((toL s).drop k).take (i-k))+((s[i]'his).toNat - 48) from by
        rw[show i+1-k=(i-k)+1 by omega,List.take_succ_eq_append_getElem (by rw[List.length_drop,HL.out];omega),valD_snoc,List.getElem_drop]
        simp only[show k+(i-k)=i by omega]
        rw[HAT.out i his])
       have hp:=HPX.out (i+1-k) (by omega)
       rw[HN.out]at hp
       generalize valD (((toL s).drop k).take (i-k))=N at *
       have hq2:48<=(s[i]'his).toNat/\(s[i]'his).toNat<=57:=by simp only[num]at hq;omega
       have z1:IntKind.i64.wrap (10*(N:Int))=10*(N:Int):=IntWalk.i64_in _ (by omega)
       have z2:IntKind.u8.wrap (((s[i]'his).toNat:Int)-48)=((s[i]'his).toNat:Int)-48:=IntWalk.u8_in _ (by omega)
       obtain⟨M,hM⟩:∃M,10*N+((s[i]'his).toNat - 48)=M:=⟨_,rfl⟩
       have z3:IntKind.i64.wrap (10*(N:Int)+(((s[i]'his).toNat:Int)-48))=(M:Int):=by rw[IntWalk.i64_in _ (by omega)];omega
       have z4:(M:Int)<=2147483647:=by omega
       rw[hM]at HN
       clear hM hp hd hq
       go_wp2_with fail
       go_round
       case rel=>exact⟨i+1,by omega,by omega,by go_num,by rw[HN.out]⟩
       case measure=>simp[intOf]<;>omega
      ·obtain rfl:i=t:=by omega
       have hsl:(k:Int)<=(i:Int):=by omega
       have hsl2:(i:Int)<=(s.size:Int):=by omega
       obtain⟨X,hX⟩:∃X,s.extract k i=ofL X:=⟨toL (s.extract k i),(ofL_toL _).symm⟩
       obtain⟨d0,d1,d2,d3⟩:=tokBox_cells HX0.out
       have f0:=Lib.frozen_of_heap HX0.out 0
       have f1:=Lib.frozen_of_heap HX0.out 1
       have f2:=Lib.frozen_of_heap HX0.out 2
       have f3:=Lib.frozen_of_heap HX0.out 3
       rw[HV.out]
       go_wp2_with fail
       exact num_ret (r:=w.heap.size) (t:=⟨2, [],V,k+1⟩) (x:=X) (box4_set HX0.out) rfl rfl rfl ⟨⟨X,rfl⟩,box4_below HB0.out (Nat.le_refl _)⟩
    ·go_wp2_with ((go_at_call 55;(with_reducible refine(HS3.out _).mono ?_);rintro e w' ⟨rfl,rfl⟩))
     go_loop [8,9] (fun vn vi=>∃i:Nat,k<=i/\i<=t/\vi=.int .i64 (i:Int)/\vn=.int .i64 (valD (((toL s).drop k).take (i-k)):Nat)) (fun _ vi=>t-(intOf vi).toNat)
     case atStart=>exact⟨k,by omega,by omega,rfl,by rw[Nat.sub_self];rfl⟩
     case round =>
      obtain⟨i,hi1,hi2,rfl,rfl⟩:=hrel
      have i0:(0:Int)<=(i:Int):=by omega
      by_cases hlt2:i<t
      ·have i1:(i:Int)<(t:Int):=by omega
       have his:i<s.size:=by omega
       have i2:(i:Int)<(s.size:Int):=by omega
       have hd:=HT.out.dig i (by rw[HL.out];exact his) hi1 hlt2
       rw[HAT.out i his]at hd
       have hq:=dig_num hd
       have HN:=Lib.hid (show valD (((toL s).drop k).take (i+1-k))=10*valD (((toL s).drop k).take (i-k))+((s[i]'his).toNat - 48) from by
        rw[show i+1-k=(i-k)+1 by omega,List.take_succ_eq_append_getElem (by rw[List.length_drop,HL.out];omega),valD_snoc,List.getElem_drop]
        simp only[show k+(i-k)=i by omega]
        rw[HAT.out i his])
       have hp:=HPX.out (i+1-k) (by omega)
       rw[HN.out]at hp
       generalize valD (((toL s).drop k).take (i-k))=N at *
       have hq2:48<=(s[i]'his).toNat/\(s[i]'his).toNat<=57:=by simp only[num]at hq;omega
       have z1:IntKind.i64.wrap (10*(N:Int))=10*(N:Int):=IntWalk.i64_in _ (by omega)
       have z2:IntKind.u8.wrap (((s[i]'his).toNat:Int)-48)=((s[i]'his).toNat:Int)-48:=IntWalk.u8_in _ (by omega)
       obtain⟨M,hM⟩:∃M,10*N+((s[i]'his).toNat - 48)=M:=⟨_,rfl⟩
       have z3:IntKind.i64.wrap (10*(N:Int)+(((s[i]'his).toNat:Int)-48))=(M:Int):=by rw[IntWalk.i64_in _ (by omega)];omega
       have z4:(M:Int)<=2147483647:=by omega
       rw[hM]at HN
       clear hM hp hd hq
       go_wp2_with fail
       go_round
       case rel=>exact⟨i+1,by omega,by omega,by go_num,by rw[HN.out]⟩
       case measure=>simp[intOf]<;>omega
      ·obtain rfl:i=t:=by omega
       have hsl:(k:Int)<=(i:Int):=by omega
       have hsl2:(i:Int)<=(s.size:Int):=by omega
       obtain⟨X,hX⟩:∃X,s.extract k i=ofL X:=⟨toL (s.extract k i),(ofL_toL _).symm⟩
       obtain⟨d0,d1,d2,d3⟩:=tokBox_cells HX0.out
       have f0:=Lib.frozen_of_heap HX0.out 0
       have f1:=Lib.frozen_of_heap HX0.out 1
       have f2:=Lib.frozen_of_heap HX0.out 2
       have f3:=Lib.frozen_of_heap HX0.out 3
       rw[HV.out]
       go_wp2_with fail
       exact num_ret (r:=w.heap.size) (t:=⟨2, [],V,k+1⟩) (x:=X) (box4_set HX0.out) rfl rfl rfl ⟨⟨X,rfl⟩,box4_below HB0.out (Nat.le_refl _)⟩
   ·have t1:(s.size:Int)<=(t:Int):=by omega
    clear HS2
    rcases y1 with y1|⟨y1,y2⟩
    ·go_wp2_with fail
     go_loop [8,9] (fun vn vi=>∃i:Nat,k<=i/\i<=t/\vi=.int .i64 (i:Int)/\vn=.int .i64 (valD (((toL s).drop k).take (i-k)):Nat)) (fun _ vi=>t-(intOf vi).toNat)
     case atStart=>exact⟨k,by omega,by omega,rfl,by rw[Nat.sub_self];rfl⟩
     case round =>
      obtain⟨i,hi1,hi2,rfl,rfl⟩:=hrel
      have i0:(0:Int)<=(i:Int):=by omega
      by_cases hlt2:i<t
      ·have i1:(i:Int)<(t:Int):=by omega
       have his:i<s.size:=by omega
       have i2:(i:Int)<(s.size:Int):=by omega
       have hd:=HT.out.dig i (by rw[HL.out];exact his) hi1 hlt2
       rw[HAT.out i his]at hd
       have hq:=dig_num hd
       have HN:=Lib.hid (show valD (((toL s).drop k).take (i+1-k))=10*valD (((toL s).drop k).take (i-k))+((s[i]'his).toNat - 48) from by
        rw[show i+1-k=(i-k)+1 by omega,List.take_succ_eq_append_getElem (by rw[List.length_drop,HL.out];omega),valD_snoc,List.getElem_drop]
        simp only[show k+(i-k)=i by omega]
        rw[HAT.out i his])
       have hp:=HPX.out (i+1-k) (by omega)
       rw[HN.out]at hp
       generalize valD (((toL s).drop k).take (i-k))=N at *
       have hq2:48<=(s[i]'his).toNat/\(s[i]'his).toNat<=57:=by simp only[num]at hq;omega
       have z1:IntKind.i64.wrap (10*(N:Int))=10*(N:Int):=IntWalk.i64_in _ (by omega)
       have z2:IntKind.u8.wrap (((s[i]'his).toNat:Int)-48)=((s[i]'his).toNat:Int)-48:=IntWalk.u8_in _ (by omega)
       obtain⟨M,hM⟩:∃M,10*N+((s[i]'his).toNat - 48)=M:=⟨_,rfl⟩
       have z3:IntKind.i64.wrap (10*(N:Int)+(((s[i]'his).toNat:Int)-48))=(M:Int):=by rw[IntWalk.i64_in _ (by omega)];omega
       have z4:(M:Int)<=2147483647:=by omega
       rw[hM]at HN
       clear hM hp hd hq
       go_wp2_with fail
       go_round
       case rel=>exact⟨i+1,by omega,by omega,by go_num,by rw[HN.out]⟩
       case measure=>simp[intOf]<;>omega
      ·obtain rfl:i=t:=by omega
       have hsl:(k:Int)<=(i:Int):=by omega
       have hsl2:(i:Int)<=(s.size:Int):=by omega
       obtain⟨X,hX⟩:∃X,s.extract k i=ofL X:=⟨toL (s.extract k i),(ofL_toL _).symm⟩
       obtain⟨d0,d1,d2,d3⟩:=tokBox_cells HX0.out
       have f0:=Lib.frozen_of_heap HX0.out 0
       have f1:=Lib.frozen_of_heap HX0.out 1
       have f2:=Lib.frozen_of_heap HX0.out 2
       have f3:=Lib.frozen_of_heap HX0.out 3
       rw[HV.out]
       go_wp2_with fail
       exact num_ret (r:=w.heap.size) (t:=⟨2, [],V,k+1⟩) (x:=X) (box4_set HX0.out) rfl rfl rfl ⟨⟨X,rfl⟩,box4_below HB0.out (Nat.le_refl _)⟩
    ·go_wp2_with fail
     go_loop [8,9] (fun vn vi=>∃i:Nat,k<=i/\i<=t/\vi=.int .i64 (i:Int)/\vn=.int .i64 (valD (((toL s).drop k).take (i-k)):Nat)) (fun _ vi=>t-(intOf vi).toNat)
     case atStart=>exact⟨k,by omega,by omega,rfl,by rw[Nat.sub_self];rfl⟩
     case round =>
      obtain⟨i,hi1,hi2,rfl,rfl⟩:=hrel
      have i0:(0:Int)<=(i:Int):=by omega
      by_cases hlt2:i<t
      ·have i1:(i:Int)<(t:Int):=by omega
       have his:i<s.size:=by omega
       have i2:(i:Int)<(s.size:Int):=by omega
       have hd:=HT.out.dig i (by rw[HL.out];exact his) hi1 hlt2
       rw[HAT.out i his]at hd
       have hq:=dig_num hd
       have HN:=Lib.hid (show valD (((toL s).drop k).take (i+1-k))=10*valD (((toL s).drop k).take (i-k))+((s[i]'his).toNat - 48) from by
        rw[show i+1-k=(i-k)+1 by omega,List.take_succ_eq_append_getElem (by rw[List.length_drop,HL.out];omega),valD_snoc,List.getElem_drop]
        simp only[show k+(i-k)=i by omega]
        rw[HAT.out i his])
       have hp:=HPX.out (i+1-k) (by omega)
       rw[HN.out]at hp
       generalize valD (((toL s).drop k).take (i-k))=N at *
       have hq2:48<=(s[i]'his).toNat/\(s[i]'his).toNat<=57:=by simp only[num]at hq;omega
       have z1:IntKind.i64.wrap (10*(N:Int))=10*(N:Int):=IntWalk.i64_in _ (by omega)
       have z2:IntKind.u8.wrap (((s[i]'his).toNat:Int)-48)=((s[i]'his).toNat:Int)-48:=IntWalk.u8_in _ (by omega)
       obtain⟨M,hM⟩:∃M,10*N+((s[i]'his).toNat - 48)=M:=⟨_,rfl⟩
       have z3:IntKind.i64.wrap (10*(N:Int)+(((s[i]'his).toNat:Int)-48))=(M:Int):=by rw[IntWalk.i64_in _ (by omega)];omega
       have z4:(M:Int)<=2147483647:=by omega
       rw[hM]at HN
       clear hM hp hd hq
       go_wp2_with fail
       go_round
       case rel=>exact⟨i+1,by omega,by omega,by go_num,by rw[HN.out]⟩
       case measure=>simp[intOf]<;>omega
      ·obtain rfl:i=t:=by omega
       have hsl:(k:Int)<=(i:Int):=by omega
       have hsl2:(i:Int)<=(s.size:Int):=by omega
       obtain⟨X,hX⟩:∃X,s.extract k i=ofL X:=⟨toL (s.extract k i),(ofL_toL _).symm⟩
       obtain⟨d0,d1,d2,d3⟩:=tokBox_cells HX0.out
       have f0:=Lib.frozen_of_heap HX0.out 0
       have f1:=Lib.frozen_of_heap HX0.out 1
       have f2:=Lib.frozen_of_heap HX0.out 2
       have f3:=Lib.frozen_of_heap HX0.out 3
       rw[HV.out]
       go_wp2_with fail
       exact num_ret (r:=w.heap.size) (t:=⟨2, [],V,k+1⟩) (x:=X) (box4_set HX0.out) rfl rfl rfl ⟨⟨X,rfl⟩,box4_below HB0.out (Nat.le_refl _)⟩
theorem rfq_ret{Q:Ending->World->Prop}{W:World}{r:Nat}{t:Tok}{x:Bs}{T:Array Value}{n:Int}(hb:W.heap[r]?=some (.cells (rtC t x) 98 (0,0)))
  (hT2:T[4]?=some (.pointer (some ⟨r,0,none⟩))) (hT3:T[5]?=some (.int .i64 n)) (hT4:T[6]?=some (.int .i64 0)) (hT5:T[7]?=some (.int .i64 0)) (hQ:Q (.returned (.tuple #[rtV t x,.int .i64 n,.int .i64 0,.int .i64 0])) W) :
  bodyPost Tryz.prog Tryz.f57 Q .ret { tmps:=T,defers := [] } W:=by
 obtain⟨c0,c1,c2,c3⟩:=tokBox_cells hb
 refine bodyPost_ret (v:=.tuple #[rtV t x,.int .i64 n,.int .i64 0,.int .i64 0]) ?_ rfl hQ
 simp[results,Tryz.f57,go_sem,hT2,hT3,hT4,hT5,c0,c1,c2,c3,rtV,rtC]
theorem strT_ok{L:Bs}{col:Nat}{x:Tok × Nat}(h:strT L col=.ok x):∃e acc,endQ (L.drop 1) 1=some e/\unescQ ((L.take e).drop 1) 1=(acc,none)/\acc.length<=200/\ctlB acc=false/\x=(⟨3,acc,0,col⟩,e+1):=by
 unfold strT at h
 split at h
 ·cases h
 ·rename_i e he
  simp only at h
  split at h
  ·cases h
  ·rename_i hu
   split at h
   ·cases h
   ·rename_i h1
    split at h
    ·cases h
    ·rename_i h2
     injection h with h
     exact⟨e,_,he,Prod.ext rfl hu,Nat.le_of_not_lt h1,by simpa using h2,h.symm⟩
theorem app_one(a:Bs)(c:UInt8)(X:ByteArray)(h:toL X=[c]):ofL a++X=ofL (a ++ [c]):=by
 rw[<-ofL_toL X,h,ofL_append]
set_option maxHeartbeats 8000000 in
set_option maxRecDepth 100000 in
theorem rf_quoted(s:ByteArray)(k:Nat)(w:World)(hs:s.size<=900000)(hk:k<s.size){t:Tok}{n:Nat}(ht:strT ((toL s).drop k) (k+1)=.ok (t,n)) :
  Calls Tryz.prog 57 #[.string s,.int .i64 (k:Int)] w fun e w'=>e=.returned (.tuple #[rtV t t.text,.int .i64 ((k+n:Nat):Int),.int .i64 0,.int .i64 0])/\Below w.heap.size w w':=by
 obtain⟨e,acc0,h1,h2,h3,h4,h5⟩:=strT_ok ht
 injection h5 with h5 h6
 subst h5 h6
 obtain⟨R,hR⟩:∃R,(toL s).drop k=R:=⟨_,rfl⟩
 rw[hR]at h1 h2
 have hRl:R.length=s.size-k:=by rw[<-hR,List.length_drop,toL_length]
 have HAT:=Lib.hid (fun i (hi:k+i<s.size)=>show R[i]'(by omega)=s[k+i]'hi from by
  have:=toL_getElem s (k+i) hi
  rw[<-this]
  simp[<-hR])
 have hge:=endQ_ge _ _ _ _ (Nat.le_refl _) h1
 rw[List.length_drop,hRl]at hge
 have HE:=Lib.hid h1
 have HU:=Lib.hid h2
 have HCT:=Lib.hid h4
 have HUA:=Lib.hid (UnAt.zero h1)
 have HB0:=Lib.hid (alloc_bel w (.cells #[.int .u8 0,.string ⟨#[]⟩,.int .i64 0,.int .i64 0] 98))
 have HX0:=Lib.hid (heap_alloc_new w (.cells #[.int .u8 0,.string ⟨#[]⟩,.int .i64 0,.int .i64 0] 98))
 have x1:IntKind.i64.wrap ((k:Int)+1)=((k+1:Nat):Int):=by rw[IntWalk.i64_in _ (by omega)];omega
 clear ht h1 h2 h4 hR
 go_enter Tryz.func57,Tryz.ntmps57
 go_wp2_with fail
 generalize w.alloc (.cells #[.int .u8 0,.string ⟨#[]⟩,.int .i64 0,.int .i64 0] 98)=W1 at *
 go_loop [9] (fun v=>∃p i:Nat,k+i=p/\1<=i/\v=.int .i64 (p:Int)/\endQ (R.drop i) i=some e) (fun v=>s.size+2-(intOf v).toNat)
 case atStart=>exact⟨k+1,1,rfl,by omega,rfl,HE.out⟩
 case round =>
  obtain⟨p,i,hp,hi,rfl,hq⟩:=hrel
  have HQ:=Lib.hid hq
  have HP:=Lib.hid hp
  have hil:i<R.length:=by
   rcases Nat.lt_or_ge i R.length with q|q
   ·exact q
   ·rw[List.drop_eq_nil_of_le q,endQ_nil]at hq;cases hq
  have hps:p<s.size:=by omega
  have p0:(0:Int)<=(p:Int):=by omega
  have p1:(p:Int)<(s.size:Int):=by omega
  have HD:=Lib.hid (show R.drop i=(s[p]'hps)::R.drop (i+1) from by
   rw[drop_at' R i hil,HAT.out i (by omega)]
   subst hp;rfl)
  have hmp:=hp
  clear hq hp HE
  by_cases h34:(s[p]'hps)=34
  ·have q1:(num (s[p]'hps) != 34)=false:=by rw[n34,decide_eq_true h34];rfl
   have hie:i=e:=by
    have:=HQ.out
    rw[HD.out,h34,endQ_hit]at this
    injection this
   subst hie
   have p2:¬ (s.size:Int)<=(p:Int):=by omega
   have x2:IntKind.i64.wrap ((p:Int)+1)=(p:Int)+1:=IntWalk.i64_in _ (by omega)
   clear h34 HQ
   go_wp2_with fail
   go_loop [8,10] (fun vt vq=>∃q j:Nat,∃acc:Bs,k+j=q/\vt=.string (ofL acc)/\vq=.int .i64 (q:Int)/\UnAt R i j acc) (fun _ vq=>p-(intOf vq).toNat)
   case atStart=>exact⟨k+1,1, [],rfl,rfl,rfl,HUA.out⟩
   case round =>
    obtain⟨q,j,acc,hqj,rfl,rfl,hu⟩:=hrel
    have HU1:=Lib.hid hu
    have hj:=hu.le
    have hj1:=hu.lo
    have hfew:=hu.few
    have HQJ:=Lib.hid hqj
    clear hu HUA
    have q0:(0:Int)<=(q:Int):=by omega
    have hsa:(ofL acc).size=acc.length:=ofL_size acc
    by_cases hji:j<i
    ·have q1':(q:Int)<(p:Int):=by omega
     have hqs:q<s.size:=by omega
     have q2:(q:Int)<(s.size:Int):=by omega
     have hRq:R[j]'(by omega)=s[q]'hqs:=by
      have:=HAT.out j (by omega)
      subst hqj;exact this
     by_cases h92:(s[q]'hqs)=92
     ·have q3:(num (s[q]'hqs)==92)=true:=by rw[q92,decide_eq_true h92]
      have h92':R[j]'(by omega)=92:=by rw[hRq];exact h92
      have h2:=HU1.out.two hji (by omega) h92'
      have hqs2:q+1<s.size:=by omega
      have q4:(q:Int)+1<(s.size:Int):=by omega
      have q5:IntKind.i64.wrap ((q:Int)+1)=(q:Int)+1:=IntWalk.i64_in _ (by omega)
      have q6:IntKind.i64.wrap ((q:Int)+1+1)=(q:Int)+1+1:=IntWalk.i64_in _ (by omega)
      have hRq2:R[j+1]'(by omega)=s[q+1]'hqs2:=by
       have:=HAT.out (j+1) (by omega)
       subst hqj;exact this
      have hd:(s[q+1]'hqs2)=34\/(s[q+1]'hqs2)=92:=by
       rw[<-hRq2]
       rcases Classical.em (R[j+1]'(by omega)=34\/R[j+1]'(by omega)=92) with h|h
       ·exact h
       ·have hb:=HU1.out.bad hji (by omega) h92' h2 h
        rw[HU.out]at hb
        injection hb with _ hb;cases hb
      have HN:=Lib.hid (HU1.out.esc hji (by omega) h92' h2 (by rw[hRq2];exact hd))
      rw[hRq2]at HN
      have hcs:((num (s[q+1]'hqs2) != 34)=false)\/((num (s[q+1]'hqs2) != 34)=true/\(num (s[q+1]'hqs2) != 92)=false):=by
       rw[n34,n92]
       rcases hd with h|h
       ·rw[h];exact .inl rfl
       ·rw[h];exact .inr ⟨rfl,rfl⟩
      obtain⟨X,hX⟩:∃X,s.extract (q+1) (q+2)=X:=⟨_,rfl⟩
      have hXl:toL X=[s[q+1]'hqs2]:=by
       rw[<-hX,extract_toL]
       have:=cutL_step (toL s) (q+1) (q+1) (Nat.le_refl _) (by rw[toL_length];exact hqs2)
       rw[this,toL_getElem s _ hqs2]
       simp[cutL]
      have HXA:=Lib.hid (app_one acc _ X hXl)
      have hXz:X.size=1:=by rw[<-toL_length,hXl];rfl
      clear h92 h92' hd hRq hRq2 hXl hqj
      rcases hcs with q7|⟨q7,q8⟩
      all_goals
       go_wp2_with fail
       go_round
       case rel=>exact⟨q+2,j+2,_,by have:=HQJ.out;omega,by rw[<-HXA.out],by go_num,HN.out⟩
       case measure=>simp[intOf]<;>omega
     ·have q3:(num (s[q]'hqs)==92)=false:=by rw[q92,decide_eq_false h92]
      have HN:=Lib.hid (HU1.out.next hji (by omega) (by rw[hRq];exact h92))
      rw[hRq]at HN
      have q5:IntKind.i64.wrap ((q:Int)+1)=(q:Int)+1:=IntWalk.i64_in _ (by omega)
      obtain⟨X,hX⟩:∃X,s.extract q (q+1)=X:=⟨_,rfl⟩
      have hXl:toL X=[s[q]'hqs]:=by
       rw[<-hX,extract_toL]
       have:=cutL_step (toL s) q q (Nat.le_refl _) (by rw[toL_length];exact hqs)
       rw[this,toL_getElem s _ hqs]
       simp[cutL]
      have HXA:=Lib.hid (app_one acc _ X hXl)
      have hXz:X.size=1:=by rw[<-toL_length,hXl];rfl
      clear h92 hRq hXl hqj
      go_wp2_with fail
      go_round
      case rel=>exact⟨q+1,j+1,_,by have:=HQJ.out;omega,by rw[<-HXA.out],by go_num,HN.out⟩
      case measure=>simp[intOf]<;>omega
    ·obtain rfl:j=i:=by omega
     have q1':(p:Int)<=(q:Int):=by omega
     have HAC:=Lib.hid (show acc=acc0 from by
      have:=HU1.out.done
      rw[HU.out]at this
      injection this with this
      exact this.symm)
     have hac:=HAC.out
     subst hac
     have h200:¬ (200:Int)<(acc.length:Int):=by omega
     have hall:=r3_all (ofL acc) W1 (by omega)
     rw[toL_ofL]at hall
     unfold AllPost at hall
     have hln:(allF acc 0).1.length<=1000001:=by
      have:=all_len (acc.length+1) acc 0
      exact Nat.le_trans this (by omega)
     have hcb:(allF acc 0).1.any (fun x=>ctlU x.2)=false/\(chkF acc).2=0:=by
      have:=HCT.out
      unfold ctlB at this
      simpa using this
     rw[hcb.2]at hall
     have hcb1:=hcb.1
     clear hcb
     obtain⟨RR,hRR⟩:∃RR,(allF acc 0).1=RR:=⟨_,rfl⟩
     rw[hRR]at hall hln hcb1
     have HCB:=Lib.hid (fun (m:Nat) (hm:m<RR.length)=>show ctlU RR[m].2=false from by
      have:=List.any_eq_false.1 hcb1 RR[m] (List.getElem_mem hm)
      simpa using this)
     have HALL:=Lib.hid (show Calls Tryz.prog 89 #[.string (ofL acc)] W1 (fun e w'=>∃Aa ca Ab cb n1,e=.returned (.tuple #[.slice Aa RR.length ca,.slice Ab RR.length cb,.int .i64 n1,.int .i64 0])/\Row w' Aa (ints (RR.map (·.2)))/\Below W1.heap.size W1 w') from hall.mono fun e w' ⟨va,vb,h1,⟨Aa,ca,h2,h3⟩,⟨Ab,cb,h4,h5⟩,h6⟩=>⟨Aa,ca,Ab,cb,(((chkF acc).1:Nat):Int),by subst h1 h2 h4;rw[List.length_map,List.length_map],h3,h6⟩)
     clear hall hcb1 hRR
     go_wp2_with ((go_at_call 89;(with_reducible refine HALL.out.mono ?_);rintro e' w1 ⟨Aa,ca,Ab,cb,n1,rfl,hra,hb1⟩;have HRA:=Lib.hid hra;have HB1:=Lib.hid hb1;clear hra hb1))
     go_loop [14,15] (fun ve v=>ve=.int .i64 0/\∃m:Nat,m<=RR.length/\v=.int .i64 (m:Int)) (fun _ v=>RR.length-(intOf v).toNat)
     case atStart=>exact⟨rfl,0,by omega,rfl⟩
     case round =>
      obtain⟨rfl,m,hm,rfl⟩:=hrel
      have m0:(0:Int)<=(m:Int):=by omega
      by_cases hmr:m<RR.length
      ·have m1:(m:Int)<(RR.length:Int):=by omega
       obtain⟨ba,oa,rfl,hca⟩:=HRA.out.cell (k:=m) (by rw[ints_len,List.length_map];exact hmr)
       simp only[ints,List.getElem_map]at hca
       have HCM:=HCB.out m hmr
       generalize RR[m]=x at *
       obtain⟨o,r⟩:=x
       simp only at hca HCM
       have HCC:=Lib.hid (fun wx=>r3_control (r:Int) wx)
       rw[ctlI_nat,HCM]at HCC
       go_wp2_with ((go_at_call 90;(with_reducible refine(HCC.out _).mono ?_);rintro e w' ⟨rfl,rfl⟩))
       go_round
       case rel=>exact⟨rfl,m+1,by omega,by go_num⟩
       case measure=>simp[intOf]<;>omega
      ·obtain rfl:m=RR.length:=by omega
       have m1:(RR.length:Int)<=(RR.length:Int):=by omega
       have HX1:=Lib.hid ((HB1.out.block w.heap.size (heap_lt HX0.out)).trans HX0.out)
       obtain⟨d0,d1,d2,d3⟩:=tokBox_cells HX1.out
       have f0:=Lib.frozen_of_heap HX1.out 0
       have f1:=Lib.frozen_of_heap HX1.out 1
       have f2:=Lib.frozen_of_heap HX1.out 2
       have f3:=Lib.frozen_of_heap HX1.out 3
       go_wp2_with fail
       have hend:(k:Int)+((j:Int)+1)=(p:Int)+1:=by have:=HP.out;omega
       rw[hend]
       exact rfq_ret (r:=w.heap.size) (t:=⟨3,acc,0,k+1⟩) (x:=acc) (box4_set HX1.out) rfl rfl rfl rfl ⟨rfl,box4_below (HB0.out.trans (HB1.out.mono HB0.out.size)) (Nat.le_refl _)⟩
  ·have q1:(num (s[p]'hps) != 34)=true:=by rw[n34,decide_eq_false h34];rfl
   by_cases h92:(s[p]'hps)=92
   ·have q2:(num (s[p]'hps)==92)=true:=by rw[q92,decide_eq_true h92]
    have HN:=Lib.hid (show endQ (R.drop (i+2)) (i+2)=some e from by
     have:=HQ.out
     rw[HD.out,h92,endQ_esc,List.drop_drop]at this;exact this)
    clear h34 h92
    go_wp2_with fail
    go_round
    case rel=>exact⟨p+2,i+2,by omega,by omega,by go_num,HN.out⟩
    case measure=>simp[intOf]<;>omega
   ·have q2:(num (s[p]'hps)==92)=false:=by rw[q92,decide_eq_false h92]
    have HN:=Lib.hid (show endQ (R.drop (i+1)) (i+1)=some e from by
     have:=HQ.out
     rw[HD.out,endQ_next _ _ h34 h92]at this;exact this)
    clear h34 h92
    go_wp2_with fail
    go_round
    case rel=>exact⟨p+1,i+1,by omega,by omega,by go_num,HN.out⟩
    case measure=>simp[intOf]<;>omega
structure RunAt(p:UInt8->Bool)(L:Bs)(k T:Nat):Prop where
 ge:k<T
 le:T<=L.length
 all:∀(j:Nat) (h:j<L.length),k<=j->j<T->p L[j]=true
 stop:∀(h:T<L.length),p L[T]=false
 tw:(L.drop k).takeWhile p=(L.drop k).take (T-k)
theorem runAt_of{p:UInt8->Bool}{L:Bs}{k:Nat}(hk:k<L.length)(hd:p L[k]=true):∃T,RunAt p L k T:=by
 refine⟨k+((L.drop k).takeWhile p).length,?_⟩
 have hle:=(List.takeWhile_sublist p (l:=L.drop k)).length_le
 rw[List.length_drop]at hle
 have h3:=List.takeWhile_append_dropWhile (p:=p) (l:=L.drop k)
 have e:(L.drop k).takeWhile p=(L.drop k).take ((L.drop k).takeWhile p).length:=by
  have h:=List.take_left (l₁:=(L.drop k).takeWhile p) (l₂:=(L.drop k).dropWhile p)
  rw[h3]at h;exact h.symm
 have hp:0<((L.drop k).takeWhile p).length:=by
  rw[List.drop_eq_getElem_cons hk,List.takeWhile_cons,if_pos hd];simp
 refine⟨by omega,by omega,fun j h h1 h2=>?_,fun h=>?_,by rw[Nat.add_sub_cancel_left];exact e⟩
 ·have hm:L[j]∈(L.drop k).takeWhile p:=by
   rw[e,List.mem_take_iff_getElem]
   exact⟨j-k,by rw[List.length_drop];omega,by simp[show k+(j-k)=j by omega]⟩
  exact List.all_eq_true.1 (List.all_takeWhile (p:=p) (l:=L.drop k)) _ hm
 ·have h4:(L.drop k).drop ((L.drop k).takeWhile p).length=(L.drop k).dropWhile p:=by
   have h:=List.drop_left (l₁:=(L.drop k).takeWhile p) (l₂:=(L.drop k).dropWhile p)
   rw[h3]at h;exact h
  rw[List.drop_drop,List.drop_eq_getElem_cons h]at h4
  have h5:=List.head?_dropWhile_not p (L.drop k)
  rw[<-h4]at h5
  simpa only[List.head?_cons] using h5
abbrev RT:=Tok × Bs
def rtsV(l:List RT):List Value:=l.flatMap fun p=>(rtC p.1 p.2).toList
theorem rtsV_snoc(l:List RT)(t:Tok)(x:Bs):rtsV (l ++ [(t,x)])=rtsV l++(rtC t x).toList:=by simp[rtsV]
theorem rtsV_length(l:List RT):(rtsV l).length=l.length*4:=by
 induction l with
 | nil=>rfl
 | cons t r ih=>simp only[rtsV,List.flatMap_cons,List.length_append]at ih⊢;rw[ih];simp[rtC];omega
theorem info_rt:(Tryz.prog.info? 98).map (fun i=>(i.zero,i.size,i.bytes))=some (some (.agg #[.int .u8 0,.string ⟨#[]⟩,.int .i64 0,.int .i64 0]),4,40):=by kernel_rfl
theorem el_rt:Elem Tryz.prog 94 98 4 40:=Elem.of Tryz.underlying94 info_rt rfl (by omega)
def RtsOk(l:List RT):Prop := ∀p∈l,RtOk p.1 p.2
theorem RtsOk.snoc{l:List RT}(h:RtsOk l){t:Tok}{x:Bs}(hx:RtOk t x):RtsOk (l ++ [(t,x)]):=fun p hp=>by
 rcases List.mem_append.1 hp with hp|hp
 ·exact h p hp
 ·simp only[List.mem_singleton]at hp;subst hp;exact hx
theorem sym_cases{c:UInt8}{r:Bs}{col:Nat}{x:Tok × Nat}(h:symT (c::r) col=.ok x):((∃r',r=61::r')/\(c=33\/c=60\/c=62)/\x=(⟨4,(c::r).take 2,0,col⟩,2))\/((c=40\/c=41\/c=43\/c=45\/c=61\/((c=60\/c=62)/\r.head?≠some 61))/\x=(⟨4,(c::r).take 1,0,col⟩,1)):=by
 by_cases hr:∃r',r=61::r'
 ·obtain⟨r',rfl⟩:=hr
  by_cases h1:c=33
  ·subst h1
   have:symT (33::61::r') col=.ok (⟨4, [33,61],0,col⟩,2):=rfl
   rw[this]at h;injection h with h
   exact .inl ⟨⟨r',rfl⟩,.inl rfl,h.symm⟩
  by_cases h2:c=60
  ·subst h2
   have:symT (60::61::r') col=.ok (⟨4, [60,61],0,col⟩,2):=rfl
   rw[this]at h;injection h with h
   exact .inl ⟨⟨r',rfl⟩,.inr (.inl rfl),h.symm⟩
  by_cases h3:c=62
  ·subst h3
   have:symT (62::61::r') col=.ok (⟨4, [62,61],0,col⟩,2):=rfl
   rw[this]at h;injection h with h
   exact .inl ⟨⟨r',rfl⟩,.inr (.inr rfl),h.symm⟩
  right
  have f1:((33:UInt8)==c)=false:=by rw[beq_eq_false_iff_ne];exact fun e=>h1 e.symm
  have f2:((60:UInt8)==c)=false:=by rw[beq_eq_false_iff_ne];exact fun e=>h2 e.symm
  have f3:((62:UInt8)==c)=false:=by rw[beq_eq_false_iff_ne];exact fun e=>h3 e.symm
  by_cases g1:c=40
  ·subst g1;have:symT (40::61::r') col=.ok (⟨4, [40],0,col⟩,1):=rfl
   rw[this]at h;injection h with h;exact⟨.inl rfl,h.symm⟩
  by_cases g2:c=41
  ·subst g2;have:symT (41::61::r') col=.ok (⟨4, [41],0,col⟩,1):=rfl
   rw[this]at h;injection h with h;exact⟨.inr (.inl rfl),h.symm⟩
  by_cases g3:c=43
  ·subst g3;have:symT (43::61::r') col=.ok (⟨4, [43],0,col⟩,1):=rfl
   rw[this]at h;injection h with h;exact⟨.inr (.inr (.inl rfl)),h.symm⟩
  by_cases g4:c=45
  ·subst g4;have:symT (45::61::r') col=.ok (⟨4, [45],0,col⟩,1):=rfl
   rw[this]at h;injection h with h;exact⟨.inr (.inr (.inr (.inl rfl))),h.symm⟩
  by_cases g5:c=61
  ·subst g5;have:symT (61::61::r') col=.ok (⟨4, [61],0,col⟩,1):=rfl
   rw[this]at h;injection h with h;exact⟨.inr (.inr (.inr (.inr (.inl rfl)))),h.symm⟩
  exfalso
  have e1:((40:UInt8)==c)=false:=by rw[beq_eq_false_iff_ne];exact fun e=>g1 e.symm
  have e2:((41:UInt8)==c)=false:=by rw[beq_eq_false_iff_ne];exact fun e=>g2 e.symm
  have e3:((43:UInt8)==c)=false:=by rw[beq_eq_false_iff_ne];exact fun e=>g3 e.symm
  have e4:((45:UInt8)==c)=false:=by rw[beq_eq_false_iff_ne];exact fun e=>g4 e.symm
  have e5:((61:UInt8)==c)=false:=by rw[beq_eq_false_iff_ne];exact fun e=>g5 e.symm
  simp[symT,syms,List.find?_cons,List.isPrefixOf,f1,f2,f3,e1,e2,e3,e4,e5]at h
 ·right
  have pre2:∀a:UInt8,List.isPrefixOf [a,61] (c::r)=false:=fun a=>by
   cases r with
   | nil=>simp[List.isPrefixOf]
   | cons d r' =>
    have:((61:UInt8)==d)=false:=by rw[beq_eq_false_iff_ne];intro e;subst e;exact hr ⟨r',rfl⟩
    simp[List.isPrefixOf,this]
  have hh:r.head?≠some 61:=fun e=>by
   cases r with
   | nil=>cases e
   | cons d r'=>simp at e;subst e;exact hr ⟨r',rfl⟩
  unfold symT syms at h
  rw[List.find?_cons,pre2,List.find?_cons,pre2,List.find?_cons,pre2]at h
  simp only at h
  split at h
  ·rename_i s hs
   injection h with h
   have h1:=List.find?_some hs
   have h2:=List.mem_of_find?_eq_some hs
   simp only[List.mem_cons,List.not_mem_nil,or_false]at h2
   have one:∀a:UInt8,List.isPrefixOf [a] (c::r)=true->c=a:=fun a ha=>by
    simp[List.isPrefixOf]at ha;exact ha.symm
   rcases h2 with rfl|rfl|rfl|rfl|rfl|rfl|rfl
   ·have:=one _ h1;subst this;exact⟨.inl rfl,h.symm⟩
   ·have:=one _ h1;subst this;exact⟨.inr (.inl rfl),h.symm⟩
   ·have:=one _ h1;subst this;exact⟨.inr (.inr (.inl rfl)),h.symm⟩
   ·have:=one _ h1;subst this;exact⟨.inr (.inr (.inr (.inl rfl))),h.symm⟩
   ·have:=one _ h1;subst this;exact⟨.inr (.inr (.inr (.inr (.inl rfl)))),h.symm⟩
   ·have:=one _ h1;subst this;exact⟨.inr (.inr (.inr (.inr (.inr ⟨.inl rfl,hh⟩)))),h.symm⟩
   ·have:=one _ h1;subst this;exact⟨.inr (.inr (.inr (.inr (.inr ⟨.inr rfl,hh⟩)))),h.symm⟩
  ·cases h
set_option maxHeartbeats 16000000 in
set_option maxRecDepth 100000 in
theorem rf_tokens(s:ByteArray)(w:World)(hs:s.size<=800000){all:List Tok}(hall:toksF (toL s)=.ok all):Calls Tryz.prog 38 #[.string s] w fun e w' =>
  ∃v l,e=.returned (.tuple #[v,.int .i64 0,.int .i64 0])/\w'.ownsRow w.heap.size 98 4 v l.length (rtsV l)/\RtsOk l/\all=l.map (·.1) ++ [⟨0, [],0,s.size+1⟩]/\Below w.heap.size w w':=by
 have HL:=Lib.hid (toL_length s)
 have HAT:=Lib.hid (fun k (hk:k<s.size)=>toL_getElem s k hk)
 have HST:=Lib.hid (show(.ok all:Except Fl (List Tok))=preE [] (toksR (toL s) 0) from by rw[<-hall];exact toksF_R (toL s))
 clear hall
 go_enter Tryz.func38,Tryz.ntmps38
 go_wp2_with fail
 go_loopw [5,6] (fun v5 v6 wr=>∃(i:Nat) (acc:List RT),i<=s.size/\v6=.int .i64 (i:Int)/\acc.length<=i/\wr.ownsRow w.heap.size 98 4 v5 acc.length (rtsV acc)/\Below w.heap.size w wr/\RtsOk acc ∧ .ok all=preE (acc.map (·.1)) (toksR (toL s) i)) (fun _ v6 _=>s.size-(intOf v6).toNat)
 case atStart=>exact⟨0, [],by omega,rfl,by simp,World.ownsRow_nil _ _ _ _,Below.refl _ _,(fun p hp=>by cases hp),HST.out⟩
 case round =>
  obtain⟨i,acc,hi,rfl,hacc,hown,hb,hok,htt⟩:=hrel
  have HB:=Lib.hid hb
  have HTT:=Lib.hid htt
  have HOK:=Lib.hid hok
  have hzr:=hb.size
  obtain⟨wo,rfl⟩:∃wo:World,wo=wr:=⟨_,rfl⟩
  clear hb htt HST hok
  have i0:(0:Int)<=(i:Int):=by omega
  have x1:IntKind.i64.wrap ((i:Int)+1)=(i:Int)+1:=IntWalk.i64_in _ (by omega)
  by_cases hlt:i<s.size
  ·have i1:(i:Int)<(s.size:Int):=by omega
   have HLT:=Lib.hid (show i<(toL s).length from by rw[HL.out];exact hlt)
   have HAI:=Lib.hid (HAT.out i hlt)
   have HBK:=Lib.hid (fun wx=>rf_blank (num (s[i]'hlt)) wx)
   have HLW:=Lib.hid (fun wx=>rf_lowerC (num (s[i]'hlt)) wx)
   have HDG:=Lib.hid (fun wx=>rf_digit (num (s[i]'hlt)) wx)
   rcases hbk:isBlank (num (s[i]'hlt)) with _|_
   ·rw[hbk]at HBK
    have HBS:=Lib.hid (show blkS ((toL s)[i]'HLT.out)=false from by rw[HAI.out];exact hbk)
    clear hbk
    rcases htk:tokT ((toL s).drop i) (i+1) with f|⟨t,n⟩
    ·exfalso
     have:=HTT.out
     rw[toksR_err HLT.out HBS.out htk]at this
     cases this
    ·have hn:=tok_len htk
     simp only[List.length_drop,HL.out]at hn
     have HV:=Lib.hid (fun (x:Bs)=>show(.ok all:Except Fl (List Tok))=preE ((acc ++ [(t,x)]).map (·.1)) (toksR (toL s) (i+n)) from by rw[HTT.out,toksR_tok HLT.out HBS.out htk,preE_pre,List.map_append];rfl)
     rw[drop_at' (toL s) i HLT.out,HAI.out]at htk
     unfold tokT at htk
     simp only at htk
     rw[<-HAI.out, ← drop_at' (toL s) i HLT.out,HAI.out]at htk
     rcases hlw:isLower (num (s[i]'hlt)) with _|_
     ·rw[hlw]at HLW
      rw[if_neg (by unfold lowS;rw[hlw];simp)]at htk
      rcases hdg:isDigit (num (s[i]'hlt)) with _|_
      ·rw[hdg]at HDG
       rw[if_neg (by unfold digB;rw[hdg];simp)]at htk
       by_cases h34:(s[i]'hlt)=34
       ·rw[if_pos h34]at htk
        have hq34:(num (s[i]'hlt)==34)=true:=by rw[q34,decide_eq_true h34]
        obtain⟨e0,TX,_,_,hx3,_,hx5⟩:=strT_ok htk
        have hnb:=rf_quoted s i wo (by omega) hlt htk
        injection hx5 with hx5 hx6
        subst hx5
        have HNB:=Lib.hid (show Calls Tryz.prog 57 #[.string s,.int .i64 (i:Int)] wo (fun e w'=>e=.returned (.tuple #[.agg #[.int .u8 115,.string (ofL TX),.int .i64 0,.int .i64 ((i:Int)+1)],.int .i64 ((i+n:Nat):Int),.int .i64 0,.int .i64 0])/\Below wo.heap.size wo w') from hnb)
        clear htk hnb hx6 hx3 h34
        go_upto_region 30 with(first
         | (go_at_call 37;(with_reducible refine(HBK.out _).mono ?_);rintro e w' ⟨rfl,rfl⟩)
         | (go_at_call 54;(with_reducible refine(HLW.out _).mono ?_);rintro e w' ⟨rfl,rfl⟩)
         | (go_at_call 55;(with_reducible refine(HDG.out _).mono ?_);rintro e w' ⟨rfl,rfl⟩)
         | (go_at_call 57;(with_reducible refine HNB.out.mono ?_);rintro e w2 ⟨rfl,hb2⟩;have HB2:=Lib.hid (hb2.trans ((alloc_bel w2 (.cells #[.int .u8 115,.string (ofL TX),.int .i64 0,.int .i64 ((i:Int)+1)] 98)).mono hb2.size));have HBX:=Lib.hid (heap_alloc_new w2 (.cells #[.int .u8 115,.string (ofL TX),.int .i64 0,.int .i64 ((i:Int)+1)] 98));have hown2:=own_below hown HB2.out;have hz2:=Nat.le_trans hzr HB2.out.size;clear hb2))
        generalize w2.alloc (.cells #[.int .u8 115,.string (ofL TX),.int .i64 0,.int .i64 ((i:Int)+1)] 98)=W3 at *
        generalize w2.heap.size=qq at *
        obtain⟨e0',e1',e2',e3'⟩:=tokBox_cells HBX.out
        go_wp2_with ((at_builtin;refine wpList_push el_rt rfl _ _ rfl hown2 #[.int .u8 115,.string (ofL TX),.int .i64 0,.int .i64 ((i:Int)+1)] rfl rfl rfl (by simp[Value.oneCell']) (by omega) (by unfold maxLen;omega) hz2 ?_;intro g cap w3 hown3 hg3 hat3))
        have HVX:=Lib.hid (HV.out TX)
        rw[show i+n=(i+n) by omega]at HVX
        have hb3:Below w.heap.size w w3:=(HB.out.trans (HB2.out.mono hzr)).grown hg3 hz2 (fun k hk=>(hown2.lt k hk).1)
        go_roundw
        case rel=>exact⟨(i+n),acc ++ [(⟨3,TX,0,i+1⟩,TX)],by omega,by go_num,by simp;omega,by rw[rtsV_snoc,List.length_append];exact hown3,hb3,HOK.out.snoc (fun _=>rfl),HVX.out⟩
        case measure=>simp[intOf]<;>omega
       ·rw[if_neg h34,drop_at' (toL s) i HLT.out,HAI.out]at htk
        rcases sym_cases htk with⟨⟨r',hr'⟩,hc,hx⟩|⟨hc,hx⟩
        ·injection hx with hx1 hx2
         have hsz:i+1<s.size:=by
          have:=congrArg List.length hr'
          rw[List.length_drop,HL.out]at this
          simp at this;omega
         have hnx:(s[i+1]'hsz)=61:=by
          have h1:=drop_at' (toL s) (i+1) (by rw[HL.out];exact hsz)
          rw[HAT.out (i+1) hsz,hr']at h1
          injection h1 with h1;exact h1.symm
         have y1:(i:Int)+1<(s.size:Int):=by omega
         have y2:(num (s[i+1]'hsz)==61)=true:=by rw[hnx];rfl
         have x2:IntKind.i64.wrap ((i:Int)+2)=(i:Int)+2:=IntWalk.i64_in _ (by omega)
         have hX:s.extract i (i+2)=ofL ((s[i]'hlt::(toL s).drop (i+1)).take 2):=by
          rw[extract_ofL, ← HAI.out, ← drop_at' (toL s) i HLT.out];unfold cutL
          rw[show i+2-i=2 by omega]
         obtain⟨TX,hTX⟩:∃TX,(s[i]'hlt::(toL s).drop (i+1)).take 2=TX:=⟨_,rfl⟩
         rw[hTX]at hX hx1
         subst hx1 hx2
         rcases hc with hv|hv|hv
         ·replace hv:num (s[i]'hlt)=33:=by rw[hv];rfl
          clear htk hnx hr' hTX h34
          have q34:(num (s[i]'hlt)==34)=false:=by rw[hv];rfl
          have q40:(num (s[i]'hlt)==40)=false:=by rw[hv];rfl
          have q41:(num (s[i]'hlt)==41)=false:=by rw[hv];rfl
          have q43:(num (s[i]'hlt)==43)=false:=by rw[hv];rfl
          have q45:(num (s[i]'hlt)==45)=false:=by rw[hv];rfl
          have q61:(num (s[i]'hlt)==61)=false:=by rw[hv];rfl
          have q60:(num (s[i]'hlt)==60)=false:=by rw[hv];rfl
          have q62:(num (s[i]'hlt)==62)=false:=by rw[hv];rfl
          have q33:(num (s[i]'hlt)==33)=true:=by rw[hv];rfl
          have HVX:=Lib.hid (HV.out TX)
          clear HV hv
          go_wp2_with (first
           | (go_at_call 37;(with_reducible refine(HBK.out _).mono ?_);rintro e w' ⟨rfl,rfl⟩)
           | (go_at_call 54;(with_reducible refine(HLW.out _).mono ?_);rintro e w' ⟨rfl,rfl⟩)
           | (go_at_call 55;(with_reducible refine(HDG.out _).mono ?_);rintro e w' ⟨rfl,rfl⟩)
           | (at_builtin;refine wpList_push el_rt rfl _ _ rfl hown #[.int .u8 121,.string (ofL TX),.int .i64 0,.int .i64 ((i:Int)+1)] rfl rfl rfl (by simp[Value.oneCell']) (by omega) (by unfold maxLen;omega) hzr ?_;intro g cap w3 hown3 hg3 hat3))
          have hb3:Below w.heap.size w w3:=HB.out.grown hg3 hzr (fun k hk=>(hown.lt k hk).1)
          go_roundw
          case rel=>exact⟨i+2,acc ++ [(⟨4,TX,0,i+1⟩,TX)],by omega,by go_num,by simp;omega,by rw[rtsV_snoc,List.length_append];exact hown3,hb3,HOK.out.snoc (fun _=>rfl),HVX.out⟩
          case measure=>simp[intOf]<;>omega
         ·replace hv:num (s[i]'hlt)=60:=by rw[hv];rfl
          clear htk hnx hr' hTX h34
          have q34:(num (s[i]'hlt)==34)=false:=by rw[hv];rfl
          have q40:(num (s[i]'hlt)==40)=false:=by rw[hv];rfl
          have q41:(num (s[i]'hlt)==41)=false:=by rw[hv];rfl
          have q43:(num (s[i]'hlt)==43)=false:=by rw[hv];rfl
          have q45:(num (s[i]'hlt)==45)=false:=by rw[hv];rfl
          have q61:(num (s[i]'hlt)==61)=false:=by rw[hv];rfl
          have q60:(num (s[i]'hlt)==60)=true:=by rw[hv];rfl
          have q62:(num (s[i]'hlt)==62)=false:=by rw[hv];rfl
          have q33:(num (s[i]'hlt)==33)=false:=by rw[hv];rfl
          have HVX:=Lib.hid (HV.out TX)
          clear HV hv
          go_wp2_with (first
           | (go_at_call 37;(with_reducible refine(HBK.out _).mono ?_);rintro e w' ⟨rfl,rfl⟩)
           | (go_at_call 54;(with_reducible refine(HLW.out _).mono ?_);rintro e w' ⟨rfl,rfl⟩)
           | (go_at_call 55;(with_reducible refine(HDG.out _).mono ?_);rintro e w' ⟨rfl,rfl⟩)
           | (at_builtin;refine wpList_push el_rt rfl _ _ rfl hown #[.int .u8 121,.string (ofL TX),.int .i64 0,.int .i64 ((i:Int)+1)] rfl rfl rfl (by simp[Value.oneCell']) (by omega) (by unfold maxLen;omega) hzr ?_;intro g cap w3 hown3 hg3 hat3))
          have hb3:Below w.heap.size w w3:=HB.out.grown hg3 hzr (fun k hk=>(hown.lt k hk).1)
          go_roundw
          case rel=>exact⟨i+2,acc ++ [(⟨4,TX,0,i+1⟩,TX)],by omega,by go_num,by simp;omega,by rw[rtsV_snoc,List.length_append];exact hown3,hb3,HOK.out.snoc (fun _=>rfl),HVX.out⟩
          case measure=>simp[intOf]<;>omega
         ·replace hv:num (s[i]'hlt)=62:=by rw[hv];rfl
          clear htk hnx hr' hTX h34
          have q34:(num (s[i]'hlt)==34)=false:=by rw[hv];rfl
          have q40:(num (s[i]'hlt)==40)=false:=by rw[hv];rfl
          have q41:(num (s[i]'hlt)==41)=false:=by rw[hv];rfl
          have q43:(num (s[i]'hlt)==43)=false:=by rw[hv];rfl
          have q45:(num (s[i]'hlt)==45)=false:=by rw[hv];rfl
          have q61:(num (s[i]'hlt)==61)=false:=by rw[hv];rfl
          have q60:(num (s[i]'hlt)==60)=false:=by rw[hv];rfl
          have q62:(num (s[i]'hlt)==62)=true:=by rw[hv];rfl
          have q33:(num (s[i]'hlt)==33)=false:=by rw[hv];rfl
          have HVX:=Lib.hid (HV.out TX)
          clear HV hv
          go_wp2_with (first
           | (go_at_call 37;(with_reducible refine(HBK.out _).mono ?_);rintro e w' ⟨rfl,rfl⟩)
           | (go_at_call 54;(with_reducible refine(HLW.out _).mono ?_);rintro e w' ⟨rfl,rfl⟩)
           | (go_at_call 55;(with_reducible refine(HDG.out _).mono ?_);rintro e w' ⟨rfl,rfl⟩)
           | (at_builtin;refine wpList_push el_rt rfl _ _ rfl hown #[.int .u8 121,.string (ofL TX),.int .i64 0,.int .i64 ((i:Int)+1)] rfl rfl rfl (by simp[Value.oneCell']) (by omega) (by unfold maxLen;omega) hzr ?_;intro g cap w3 hown3 hg3 hat3))
          have hb3:Below w.heap.size w w3:=HB.out.grown hg3 hzr (fun k hk=>(hown.lt k hk).1)
          go_roundw
          case rel=>exact⟨i+2,acc ++ [(⟨4,TX,0,i+1⟩,TX)],by omega,by go_num,by simp;omega,by rw[rtsV_snoc,List.length_append];exact hown3,hb3,HOK.out.snoc (fun _=>rfl),HVX.out⟩
          case measure=>simp[intOf]<;>omega
        ·injection hx with hx1 hx2
         have hX:s.extract i (i+1)=ofL ((s[i]'hlt::(toL s).drop (i+1)).take 1):=by
          rw[extract_ofL, ← HAI.out, ← drop_at' (toL s) i HLT.out];unfold cutL
          rw[show i+1-i=1 by omega]
         obtain⟨TX,hTX⟩:∃TX,(s[i]'hlt::(toL s).drop (i+1)).take 1=TX:=⟨_,rfl⟩
         rw[hTX]at hX hx1
         subst hx1 hx2
         rcases hc with hv|hv|hv|hv|hv|⟨hc,hh⟩
         ·replace hv:num (s[i]'hlt)=40:=by rw[hv];rfl
          clear htk hTX h34
          have q34:(num (s[i]'hlt)==34)=false:=by rw[hv];rfl
          have q40:(num (s[i]'hlt)==40)=true:=by rw[hv];rfl
          have q41:(num (s[i]'hlt)==41)=false:=by rw[hv];rfl
          have q43:(num (s[i]'hlt)==43)=false:=by rw[hv];rfl
          have q45:(num (s[i]'hlt)==45)=false:=by rw[hv];rfl
          have q61:(num (s[i]'hlt)==61)=false:=by rw[hv];rfl
          have q60:(num (s[i]'hlt)==60)=false:=by rw[hv];rfl
          have q62:(num (s[i]'hlt)==62)=false:=by rw[hv];rfl
          have q33:(num (s[i]'hlt)==33)=false:=by rw[hv];rfl
          have HVX:=Lib.hid (HV.out TX)
          clear HV hv
          go_wp2_with (first
           | (go_at_call 37;(with_reducible refine(HBK.out _).mono ?_);rintro e w' ⟨rfl,rfl⟩)
           | (go_at_call 54;(with_reducible refine(HLW.out _).mono ?_);rintro e w' ⟨rfl,rfl⟩)
           | (go_at_call 55;(with_reducible refine(HDG.out _).mono ?_);rintro e w' ⟨rfl,rfl⟩)
           | (at_builtin;refine wpList_push el_rt rfl _ _ rfl hown #[.int .u8 121,.string (ofL TX),.int .i64 0,.int .i64 ((i:Int)+1)] rfl rfl rfl (by simp[Value.oneCell']) (by omega) (by unfold maxLen;omega) hzr ?_;intro g cap w3 hown3 hg3 hat3))
          have hb3:Below w.heap.size w w3:=HB.out.grown hg3 hzr (fun k hk=>(hown.lt k hk).1)
          go_roundw
          case rel=>exact⟨i+1,acc ++ [(⟨4,TX,0,i+1⟩,TX)],by omega,by go_num,by simp;omega,by rw[rtsV_snoc,List.length_append];exact hown3,hb3,HOK.out.snoc (fun _=>rfl),HVX.out⟩
          case measure=>simp[intOf]<;>omega
         ·replace hv:num (s[i]'hlt)=41:=by rw[hv];rfl
          clear htk hTX h34
          have q34:(num (s[i]'hlt)==34)=false:=by rw[hv];rfl
          have q40:(num (s[i]'hlt)==40)=false:=by rw[hv];rfl
          have q41:(num (s[i]'hlt)==41)=true:=by rw[hv];rfl
          have q43:(num (s[i]'hlt)==43)=false:=by rw[hv];rfl
          have q45:(num (s[i]'hlt)==45)=false:=by rw[hv];rfl
          have q61:(num (s[i]'hlt)==61)=false:=by rw[hv];rfl
          have q60:(num (s[i]'hlt)==60)=false:=by rw[hv];rfl
          have q62:(num (s[i]'hlt)==62)=false:=by rw[hv];rfl
          have q33:(num (s[i]'hlt)==33)=false:=by rw[hv];rfl
          have HVX:=Lib.hid (HV.out TX)
          clear HV hv
          go_wp2_with (first
           | (go_at_call 37;(with_reducible refine(HBK.out _).mono ?_);rintro e w' ⟨rfl,rfl⟩)
           | (go_at_call 54;(with_reducible refine(HLW.out _).mono ?_);rintro e w' ⟨rfl,rfl⟩)
           | (go_at_call 55;(with_reducible refine(HDG.out _).mono ?_);rintro e w' ⟨rfl,rfl⟩)
           | (at_builtin;refine wpList_push el_rt rfl _ _ rfl hown #[.int .u8 121,.string (ofL TX),.int .i64 0,.int .i64 ((i:Int)+1)] rfl rfl rfl (by simp[Value.oneCell']) (by omega) (by unfold maxLen;omega) hzr ?_;intro g cap w3 hown3 hg3 hat3))
          have hb3:Below w.heap.size w w3:=HB.out.grown hg3 hzr (fun k hk=>(hown.lt k hk).1)
          go_roundw
          case rel=>exact⟨i+1,acc ++ [(⟨4,TX,0,i+1⟩,TX)],by omega,by go_num,by simp;omega,by rw[rtsV_snoc,List.length_append];exact hown3,hb3,HOK.out.snoc (fun _=>rfl),HVX.out⟩
          case measure=>simp[intOf]<;>omega
         ·replace hv:num (s[i]'hlt)=43:=by rw[hv];rfl
          clear htk hTX h34
          have q34:(num (s[i]'hlt)==34)=false:=by rw[hv];rfl
          have q40:(num (s[i]'hlt)==40)=false:=by rw[hv];rfl
          have q41:(num (s[i]'hlt)==41)=false:=by rw[hv];rfl
          have q43:(num (s[i]'hlt)==43)=true:=by rw[hv];rfl
          have q45:(num (s[i]'hlt)==45)=false:=by rw[hv];rfl
          have q61:(num (s[i]'hlt)==61)=false:=by rw[hv];rfl
          have q60:(num (s[i]'hlt)==60)=false:=by rw[hv];rfl
          have q62:(num (s[i]'hlt)==62)=false:=by rw[hv];rfl
          have q33:(num (s[i]'hlt)==33)=false:=by rw[hv];rfl
          have HVX:=Lib.hid (HV.out TX)
          clear HV hv
          go_wp2_with (first
           | (go_at_call 37;(with_reducible refine(HBK.out _).mono ?_);rintro e w' ⟨rfl,rfl⟩)
           | (go_at_call 54;(with_reducible refine(HLW.out _).mono ?_);rintro e w' ⟨rfl,rfl⟩)
           | (go_at_call 55;(with_reducible refine(HDG.out _).mono ?_);rintro e w' ⟨rfl,rfl⟩)
           | (at_builtin;refine wpList_push el_rt rfl _ _ rfl hown #[.int .u8 121,.string (ofL TX),.int .i64 0,.int .i64 ((i:Int)+1)] rfl rfl rfl (by simp[Value.oneCell']) (by omega) (by unfold maxLen;omega) hzr ?_;intro g cap w3 hown3 hg3 hat3))
          have hb3:Below w.heap.size w w3:=HB.out.grown hg3 hzr (fun k hk=>(hown.lt k hk).1)
          go_roundw
          case rel=>exact⟨i+1,acc ++ [(⟨4,TX,0,i+1⟩,TX)],by omega,by go_num,by simp;omega,by rw[rtsV_snoc,List.length_append];exact hown3,hb3,HOK.out.snoc (fun _=>rfl),HVX.out⟩
          case measure=>simp[intOf]<;>omega
         ·replace hv:num (s[i]'hlt)=45:=by rw[hv];rfl
          clear htk hTX h34
          have q34:(num (s[i]'hlt)==34)=false:=by rw[hv];rfl
          have q40:(num (s[i]'hlt)==40)=false:=by rw[hv];rfl
          have q41:(num (s[i]'hlt)==41)=false:=by rw[hv];rfl
          have q43:(num (s[i]'hlt)==43)=false:=by rw[hv];rfl
          have q45:(num (s[i]'hlt)==45)=true:=by rw[hv];rfl
          have q61:(num (s[i]'hlt)==61)=false:=by rw[hv];rfl
          have q60:(num (s[i]'hlt)==60)=false:=by rw[hv];rfl
          have q62:(num (s[i]'hlt)==62)=false:=by rw[hv];rfl
          have q33:(num (s[i]'hlt)==33)=false:=by rw[hv];rfl
          have HVX:=Lib.hid (HV.out TX)
          clear HV hv
          go_wp2_with (first
           | (go_at_call 37;(with_reducible refine(HBK.out _).mono ?_);rintro e w' ⟨rfl,rfl⟩)
           | (go_at_call 54;(with_reducible refine(HLW.out _).mono ?_);rintro e w' ⟨rfl,rfl⟩)
           | (go_at_call 55;(with_reducible refine(HDG.out _).mono ?_);rintro e w' ⟨rfl,rfl⟩)
           | (at_builtin;refine wpList_push el_rt rfl _ _ rfl hown #[.int .u8 121,.string (ofL TX),.int .i64 0,.int .i64 ((i:Int)+1)] rfl rfl rfl (by simp[Value.oneCell']) (by omega) (by unfold maxLen;omega) hzr ?_;intro g cap w3 hown3 hg3 hat3))
          have hb3:Below w.heap.size w w3:=HB.out.grown hg3 hzr (fun k hk=>(hown.lt k hk).1)
          go_roundw
          case rel=>exact⟨i+1,acc ++ [(⟨4,TX,0,i+1⟩,TX)],by omega,by go_num,by simp;omega,by rw[rtsV_snoc,List.length_append];exact hown3,hb3,HOK.out.snoc (fun _=>rfl),HVX.out⟩
          case measure=>simp[intOf]<;>omega
         ·replace hv:num (s[i]'hlt)=61:=by rw[hv];rfl
          clear htk hTX h34
          have q34:(num (s[i]'hlt)==34)=false:=by rw[hv];rfl
          have q40:(num (s[i]'hlt)==40)=false:=by rw[hv];rfl
          have q41:(num (s[i]'hlt)==41)=false:=by rw[hv];rfl
          have q43:(num (s[i]'hlt)==43)=false:=by rw[hv];rfl
          have q45:(num (s[i]'hlt)==45)=false:=by rw[hv];rfl
          have q61:(num (s[i]'hlt)==61)=true:=by rw[hv];rfl
          have q60:(num (s[i]'hlt)==60)=false:=by rw[hv];rfl
          have q62:(num (s[i]'hlt)==62)=false:=by rw[hv];rfl
          have q33:(num (s[i]'hlt)==33)=false:=by rw[hv];rfl
          have HVX:=Lib.hid (HV.out TX)
          clear HV hv
          go_wp2_with (first
           | (go_at_call 37;(with_reducible refine(HBK.out _).mono ?_);rintro e w' ⟨rfl,rfl⟩)
           | (go_at_call 54;(with_reducible refine(HLW.out _).mono ?_);rintro e w' ⟨rfl,rfl⟩)
           | (go_at_call 55;(with_reducible refine(HDG.out _).mono ?_);rintro e w' ⟨rfl,rfl⟩)
           | (at_builtin;refine wpList_push el_rt rfl _ _ rfl hown #[.int .u8 121,.string (ofL TX),.int .i64 0,.int .i64 ((i:Int)+1)] rfl rfl rfl (by simp[Value.oneCell']) (by omega) (by unfold maxLen;omega) hzr ?_;intro g cap w3 hown3 hg3 hat3))
          have hb3:Below w.heap.size w w3:=HB.out.grown hg3 hzr (fun k hk=>(hown.lt k hk).1)
          go_roundw
          case rel=>exact⟨i+1,acc ++ [(⟨4,TX,0,i+1⟩,TX)],by omega,by go_num,by simp;omega,by rw[rtsV_snoc,List.length_append];exact hown3,hb3,HOK.out.snoc (fun _=>rfl),HVX.out⟩
          case measure=>simp[intOf]<;>omega
         ·have hy:((s.size:Int)<=(i:Int)+1)\/∃hsz:i+1<s.size,(num (s[i+1]'hsz)==61)=false:=by
           rcases Nat.lt_or_ge (i+1) s.size with q|q
           ·refine .inr ⟨q,?_⟩
            rw[drop_at' (toL s) (i+1) (by rw[HL.out];exact q),HAT.out (i+1) q]at hh
            rw[beq_eq_false_iff_ne]
            intro e
            refine hh ?_
            have:(s[i+1]'q)=61:=UInt8.toNat_inj.1 (by simp only[num]at e;simpa using(show(s[i+1]'q).toNat = 61 by omega))
            rw[this];rfl
           ·exact .inl (by omega)
          rcases hy with y1|⟨hsz,y2⟩
          ·rcases hc with hv|hv
           ·replace hv:num (s[i]'hlt)=60:=by rw[hv];rfl
            clear htk hTX h34 hh
            have q34:(num (s[i]'hlt)==34)=false:=by rw[hv];rfl
            have q40:(num (s[i]'hlt)==40)=false:=by rw[hv];rfl
            have q41:(num (s[i]'hlt)==41)=false:=by rw[hv];rfl
            have q43:(num (s[i]'hlt)==43)=false:=by rw[hv];rfl
            have q45:(num (s[i]'hlt)==45)=false:=by rw[hv];rfl
            have q61:(num (s[i]'hlt)==61)=false:=by rw[hv];rfl
            have q60:(num (s[i]'hlt)==60)=true:=by rw[hv];rfl
            have q62:(num (s[i]'hlt)==62)=false:=by rw[hv];rfl
            have q33:(num (s[i]'hlt)==33)=false:=by rw[hv];rfl
            have HVX:=Lib.hid (HV.out TX)
            clear HV hv
            go_wp2_with (first
             | (go_at_call 37;(with_reducible refine(HBK.out _).mono ?_);rintro e w' ⟨rfl,rfl⟩)
             | (go_at_call 54;(with_reducible refine(HLW.out _).mono ?_);rintro e w' ⟨rfl,rfl⟩)
             | (go_at_call 55;(with_reducible refine(HDG.out _).mono ?_);rintro e w' ⟨rfl,rfl⟩)
             | (at_builtin;refine wpList_push el_rt rfl _ _ rfl hown #[.int .u8 121,.string (ofL TX),.int .i64 0,.int .i64 ((i:Int)+1)] rfl rfl rfl (by simp[Value.oneCell']) (by omega) (by unfold maxLen;omega) hzr ?_;intro g cap w3 hown3 hg3 hat3))
            have hb3:Below w.heap.size w w3:=HB.out.grown hg3 hzr (fun k hk=>(hown.lt k hk).1)
            go_roundw
            case rel=>exact⟨i+1,acc ++ [(⟨4,TX,0,i+1⟩,TX)],by omega,by go_num,by simp;omega,by rw[rtsV_snoc,List.length_append];exact hown3,hb3,HOK.out.snoc (fun _=>rfl),HVX.out⟩
            case measure=>simp[intOf]<;>omega
           ·replace hv:num (s[i]'hlt)=62:=by rw[hv];rfl
            clear htk hTX h34 hh
            have q34:(num (s[i]'hlt)==34)=false:=by rw[hv];rfl
            have q40:(num (s[i]'hlt)==40)=false:=by rw[hv];rfl
            have q41:(num (s[i]'hlt)==41)=false:=by rw[hv];rfl
            have q43:(num (s[i]'hlt)==43)=false:=by rw[hv];rfl
            have q45:(num (s[i]'hlt)==45)=false:=by rw[hv];rfl
            have q61:(num (s[i]'hlt)==61)=false:=by rw[hv];rfl
            have q60:(num (s[i]'hlt)==60)=false:=by rw[hv];rfl
            have q62:(num (s[i]'hlt)==62)=true:=by rw[hv];rfl
            have q33:(num (s[i]'hlt)==33)=false:=by rw[hv];rfl
            have HVX:=Lib.hid (HV.out TX)
            clear HV hv
            go_wp2_with (first
             | (go_at_call 37;(with_reducible refine(HBK.out _).mono ?_);rintro e w' ⟨rfl,rfl⟩)
             | (go_at_call 54;(with_reducible refine(HLW.out _).mono ?_);rintro e w' ⟨rfl,rfl⟩)
             | (go_at_call 55;(with_reducible refine(HDG.out _).mono ?_);rintro e w' ⟨rfl,rfl⟩)
             | (at_builtin;refine wpList_push el_rt rfl _ _ rfl hown #[.int .u8 121,.string (ofL TX),.int .i64 0,.int .i64 ((i:Int)+1)] rfl rfl rfl (by simp[Value.oneCell']) (by omega) (by unfold maxLen;omega) hzr ?_;intro g cap w3 hown3 hg3 hat3))
            have hb3:Below w.heap.size w w3:=HB.out.grown hg3 hzr (fun k hk=>(hown.lt k hk).1)
            go_roundw
            case rel=>exact⟨i+1,acc ++ [(⟨4,TX,0,i+1⟩,TX)],by omega,by go_num,by simp;omega,by rw[rtsV_snoc,List.length_append];exact hown3,hb3,HOK.out.snoc (fun _=>rfl),HVX.out⟩
            case measure=>simp[intOf]<;>omega
          ·have y1:(i:Int)+1<(s.size:Int):=by omega
           rcases hc with hv|hv
           ·replace hv:num (s[i]'hlt)=60:=by rw[hv];rfl
            clear htk hTX h34 hh
            have q34:(num (s[i]'hlt)==34)=false:=by rw[hv];rfl
            have q40:(num (s[i]'hlt)==40)=false:=by rw[hv];rfl
            have q41:(num (s[i]'hlt)==41)=false:=by rw[hv];rfl
            have q43:(num (s[i]'hlt)==43)=false:=by rw[hv];rfl
            have q45:(num (s[i]'hlt)==45)=false:=by rw[hv];rfl
            have q61:(num (s[i]'hlt)==61)=false:=by rw[hv];rfl
            have q60:(num (s[i]'hlt)==60)=true:=by rw[hv];rfl
            have q62:(num (s[i]'hlt)==62)=false:=by rw[hv];rfl
            have q33:(num (s[i]'hlt)==33)=false:=by rw[hv];rfl
            have HVX:=Lib.hid (HV.out TX)
            clear HV hv
            go_wp2_with (first
             | (go_at_call 37;(with_reducible refine(HBK.out _).mono ?_);rintro e w' ⟨rfl,rfl⟩)
             | (go_at_call 54;(with_reducible refine(HLW.out _).mono ?_);rintro e w' ⟨rfl,rfl⟩)
             | (go_at_call 55;(with_reducible refine(HDG.out _).mono ?_);rintro e w' ⟨rfl,rfl⟩)
             | (at_builtin;refine wpList_push el_rt rfl _ _ rfl hown #[.int .u8 121,.string (ofL TX),.int .i64 0,.int .i64 ((i:Int)+1)] rfl rfl rfl (by simp[Value.oneCell']) (by omega) (by unfold maxLen;omega) hzr ?_;intro g cap w3 hown3 hg3 hat3))
            have hb3:Below w.heap.size w w3:=HB.out.grown hg3 hzr (fun k hk=>(hown.lt k hk).1)
            go_roundw
            case rel=>exact⟨i+1,acc ++ [(⟨4,TX,0,i+1⟩,TX)],by omega,by go_num,by simp;omega,by rw[rtsV_snoc,List.length_append];exact hown3,hb3,HOK.out.snoc (fun _=>rfl),HVX.out⟩
            case measure=>simp[intOf]<;>omega
           ·replace hv:num (s[i]'hlt)=62:=by rw[hv];rfl
            clear htk hTX h34 hh
            have q34:(num (s[i]'hlt)==34)=false:=by rw[hv];rfl
            have q40:(num (s[i]'hlt)==40)=false:=by rw[hv];rfl
            have q41:(num (s[i]'hlt)==41)=false:=by rw[hv];rfl
            have q43:(num (s[i]'hlt)==43)=false:=by rw[hv];rfl
            have q45:(num (s[i]'hlt)==45)=false:=by rw[hv];rfl
            have q61:(num (s[i]'hlt)==61)=false:=by rw[hv];rfl
            have q60:(num (s[i]'hlt)==60)=false:=by rw[hv];rfl
            have q62:(num (s[i]'hlt)==62)=true:=by rw[hv];rfl
            have q33:(num (s[i]'hlt)==33)=false:=by rw[hv];rfl
            have HVX:=Lib.hid (HV.out TX)
            clear HV hv
            go_wp2_with (first
             | (go_at_call 37;(with_reducible refine(HBK.out _).mono ?_);rintro e w' ⟨rfl,rfl⟩)
             | (go_at_call 54;(with_reducible refine(HLW.out _).mono ?_);rintro e w' ⟨rfl,rfl⟩)
             | (go_at_call 55;(with_reducible refine(HDG.out _).mono ?_);rintro e w' ⟨rfl,rfl⟩)
             | (at_builtin;refine wpList_push el_rt rfl _ _ rfl hown #[.int .u8 121,.string (ofL TX),.int .i64 0,.int .i64 ((i:Int)+1)] rfl rfl rfl (by simp[Value.oneCell']) (by omega) (by unfold maxLen;omega) hzr ?_;intro g cap w3 hown3 hg3 hat3))
            have hb3:Below w.heap.size w w3:=HB.out.grown hg3 hzr (fun k hk=>(hown.lt k hk).1)
            go_roundw
            case rel=>exact⟨i+1,acc ++ [(⟨4,TX,0,i+1⟩,TX)],by omega,by go_num,by simp;omega,by rw[rtsV_snoc,List.length_append];exact hown3,hb3,HOK.out.snoc (fun _=>rfl),HVX.out⟩
            case measure=>simp[intOf]<;>omega
      ·rw[hdg]at HDG
       rw[if_pos (by unfold digB;rw[hdg])]at htk
       obtain⟨T,hT⟩:=digAt_of HLT.out (by rw[HAI.out];exact hdg)
       have hT1:=hT.ge
       have hT2:=hT.le
       rw[HL.out]at hT2
       rw[hT.tw]at htk
       split at htk
       ·cases htk
       ·rename_i hne
        injection htk with htk
        injection htk with ht1 ht2
        have hnT:n=T-i:=by rw[<-ht2,List.length_take,List.length_drop,HL.out];omega
        have hnb:=rf_number s i T wo (by omega) hlt hT (by simpa using hne)
        subst ht1
        generalize (numM 2147483647 (((toL s).drop i).take (T-i))).1=VV at *
        have HNB:=Lib.hid (show Calls Tryz.prog 56 #[.string s,.int .i64 (i:Int)] wo (fun e w'=>∃x,e=.returned (.tuple #[.agg #[.int .u8 110,.string (ofL x),.int .i64 (VV:Int),.int .i64 ((i:Int)+1)],.int .i64 (T:Int),.int .i64 0])/\Below wo.heap.size wo w') from hnb)
        clear ht2 hT hne hnb
        go_upto_region 24 with(first
         | (go_at_call 37;(with_reducible refine(HBK.out _).mono ?_);rintro e w' ⟨rfl,rfl⟩)
         | (go_at_call 54;(with_reducible refine(HLW.out _).mono ?_);rintro e w' ⟨rfl,rfl⟩)
         | (go_at_call 55;(with_reducible refine(HDG.out _).mono ?_);rintro e w' ⟨rfl,rfl⟩)
         | (go_at_call 56;(with_reducible refine HNB.out.mono ?_);rintro e w2 ⟨x,rfl,hb2⟩;have HB2:=Lib.hid (hb2.trans ((alloc_bel w2 (.cells #[.int .u8 110,.string (ofL x),.int .i64 (VV:Int),.int .i64 ((i:Int)+1)] 98)).mono hb2.size));have HBX:=Lib.hid (heap_alloc_new w2 (.cells #[.int .u8 110,.string (ofL x),.int .i64 (VV:Int),.int .i64 ((i:Int)+1)] 98));have hown2:=own_below hown HB2.out;have hz2:=Nat.le_trans hzr HB2.out.size;clear hb2))
        generalize w2.alloc (.cells #[.int .u8 110,.string (ofL x),.int .i64 (VV:Int),.int .i64 ((i:Int)+1)] 98)=W3 at *
        generalize w2.heap.size=qq at *
        obtain⟨e0',e1',e2',e3'⟩:=tokBox_cells HBX.out
        go_wp2_with ((at_builtin;refine wpList_push el_rt rfl _ _ rfl hown2 #[.int .u8 110,.string (ofL x),.int .i64 (VV:Int),.int .i64 ((i:Int)+1)] rfl rfl rfl (by simp[Value.oneCell']) (by omega) (by unfold maxLen;omega) hz2 ?_;intro g cap w3 hown3 hg3 hat3))
        have HVX:=Lib.hid (HV.out x)
        rw[show i+n=T by omega]at HVX
        have hb3:Below w.heap.size w w3:=(HB.out.trans (HB2.out.mono hzr)).grown hg3 hz2 (fun k hk=>(hown2.lt k hk).1)
        go_roundw
        case rel=>exact⟨T,acc ++ [(⟨2, [],VV,i+1⟩,x)],by omega,by go_num,by simp;omega,by rw[rtsV_snoc,List.length_append];exact hown3,hb3,HOK.out.snoc (fun h=>absurd rfl h),HVX.out⟩
        case measure=>simp[intOf]<;>omega
     ·rw[hlw]at HLW
      rw[if_pos (by unfold lowS;rw[hlw])]at htk
      injection htk with htk
      injection htk with ht1 ht2
      obtain⟨T,hT⟩:=runAt_of (p:=lowS) HLT.out (by rw[HAI.out];exact hlw)
      have hT1:=hT.ge
      have hT2:=hT.le
      rw[HL.out]at hT2
      have HT:=Lib.hid hT
      rw[hT.tw]at ht1 ht2
      have hnT:n=T-i:=by rw[<-ht2,List.length_take,List.length_drop,HL.out];omega
      subst ht1
      clear ht2 hT
      go_wp2_with (first
       | (go_at_call 37;(with_reducible refine(HBK.out _).mono ?_);rintro e w' ⟨rfl,rfl⟩)
       | (go_at_call 54;(with_reducible refine(HLW.out _).mono ?_);rintro e w' ⟨rfl,rfl⟩))
      go_loop [8] (fun v=>∃j:Nat,i<=j/\j<=T/\v=.int .i64 (j:Int)) (fun v=>T-(intOf v).toNat)
      case atStart=>exact⟨i,by omega,by omega,rfl⟩
      case round =>
       obtain⟨j,hj1,hj2,rfl⟩:=hrel
       have j0:(0:Int)<=(j:Int):=by omega
       by_cases hjt:j<T
       ·have hjs:j<s.size:=by omega
        have j1:(j:Int)<(s.size:Int):=by omega
        have hd:=HT.out.all j (by rw[HL.out];exact hjs) hj1 hjt
        rw[HAT.out j hjs]at hd
        have HD:=Lib.hid (fun wx=>show Calls Tryz.prog 54 #[.int .u8 (num (s[j]'hjs))] wx (fun e w'=>e=.returned (.bool true)/\wx=w') from by
         have:=rf_lowerC (num (s[j]'hjs)) wx
         rw[show isLower (num (s[j]'hjs))=true from hd]at this;exact this)
        clear hd
        go_wp2_with ((go_at_call 54;(with_reducible refine(HD.out _).mono ?_);rintro e w' ⟨rfl,rfl⟩))
        go_round
        case rel=>exact⟨j+1,by omega,by omega,by go_num⟩
        case measure=>simp[intOf]<;>omega
       ·obtain rfl:j=T:=by omega
        have HD:=Lib.hid (fun (h:j<s.size) wx=>show Calls Tryz.prog 54 #[.int .u8 (num (s[j]'h))] wx (fun e w'=>e=.returned (.bool false)/\wx=w') from by
         have hd:=HT.out.stop (by rw[HL.out];exact h)
         rw[HAT.out j h]at hd
         have:=rf_lowerC (num (s[j]'h)) wx
         rw[show isLower (num (s[j]'h))=false from hd]at this;exact this)
        by_cases hjs:j<s.size
        ·have j1:(j:Int)<(s.size:Int):=by omega
         have HD2:=Lib.hid (HD.out hjs)
         have hX:s.extract i j=ofL (((toL s).drop i).take (j-i)):=by rw[extract_ofL];rfl
         obtain⟨TX,hTX⟩:∃TX,((toL s).drop i).take (j-i)=TX:=⟨_,rfl⟩
         have HVX:=Lib.hid (HV.out TX)
         rw[hTX]at hX HVX
         rw[show i+n=j by omega]at HVX
         clear hTX HV
         go_wp2_with (first|(go_at_call 54;(with_reducible refine(HD2.out _).mono ?_);rintro e w' ⟨rfl,rfl⟩)|(at_builtin;refine wpList_push el_rt rfl _ _ rfl hown #[.int .u8 119,.string (ofL TX),.int .i64 0,.int .i64 ((i:Int)+1)] rfl rfl rfl (by simp[Value.oneCell']) (by omega) (by unfold maxLen;omega) hzr ?_;intro g cap w3 hown3 hg3 hat3))
         have hb3:Below w.heap.size w w3:=HB.out.grown hg3 hzr (fun k hk=>(hown.lt k hk).1)
         go_roundw
         case rel=>exact⟨j,acc ++ [(⟨1,TX,0,i+1⟩,TX)],by omega,by go_num,by simp;omega,by rw[rtsV_snoc,List.length_append];exact hown3,hb3,HOK.out.snoc (fun _=>rfl),HVX.out⟩
         case measure=>simp[intOf]<;>omega
        ·have j1:(s.size:Int)<=(j:Int):=by omega
         have hX:s.extract i j=ofL (((toL s).drop i).take (j-i)):=by rw[extract_ofL];rfl
         obtain⟨TX,hTX⟩:∃TX,((toL s).drop i).take (j-i)=TX:=⟨_,rfl⟩
         have HVX:=Lib.hid (HV.out TX)
         rw[hTX]at hX HVX
         rw[show i+n=j by omega]at HVX
         clear hTX HV
         go_wp2_with ((at_builtin;refine wpList_push el_rt rfl _ _ rfl hown #[.int .u8 119,.string (ofL TX),.int .i64 0,.int .i64 ((i:Int)+1)] rfl rfl rfl (by simp[Value.oneCell']) (by omega) (by unfold maxLen;omega) hzr ?_;intro g cap w3 hown3 hg3 hat3))
         have hb3:Below w.heap.size w w3:=HB.out.grown hg3 hzr (fun k hk=>(hown.lt k hk).1)
         go_roundw
         case rel=>exact⟨j,acc ++ [(⟨1,TX,0,i+1⟩,TX)],by omega,by go_num,by simp;omega,by rw[rtsV_snoc,List.length_append];exact hown3,hb3,HOK.out.snoc (fun _=>rfl),HVX.out⟩
         case measure=>simp[intOf]<;>omega
   ·rw[hbk]at HBK
    have HV:=Lib.hid (show(.ok all:Except Fl (List Tok))=preE (acc.map (·.1)) (toksR (toL s) (i+1)) from by rw[HTT.out,toksR_blank HLT.out (by rw[HAI.out];exact hbk)])
    clear hbk
    go_wp2_with ((go_at_call 37;(with_reducible refine(HBK.out _).mono ?_);rintro e w' ⟨rfl,rfl⟩))
    go_roundw
    case rel=>exact⟨i+1,acc,by omega,by go_num,by omega,hown,HB.out,HOK.out,HV.out⟩
    case measure=>simp[intOf]<;>omega
  ·have i1:(s.size:Int)<=(i:Int):=by omega
   obtain rfl:i=s.size:=by omega
   have HE:=Lib.hid (show all=acc.map (·.1) ++ [⟨0, [],0,s.size+1⟩] from by
    have h:=toksR_end (toL s)
    rw[HL.out]at h
    have:=HTT.out
    rw[h]at this
    injection this)
   go_wp2_with fail
   go_ret3
   exact⟨_,acc,rfl,hown,HOK.out,HE.out,HB.out⟩
end Go.Proofs.YtannhfnpigiggaaGreatDoor
