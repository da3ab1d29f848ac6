import Derived.Test.YtannhfnpigiggaaGreatDoorPl2
import Derived.WalkSpells
import Derived.WalkLawsBesides
import Derived.Lib.Hide
import Derived.Deep.QuietTactic
import Derived.BigQuiet
import Derived.IntWalk
import Derived.Deep.LoopGhost
import Derived.Laws.IdiomStrings
namespace Go.Proofs.YtannhfnpigiggaaGreatDoor
set_option linter.unusedSimpArgs false
set_option linter.unusedVariables false
open Go.RowKit
theorem ret_bool{a b:Bool}(h:a=b):Ending.returned (.bool a)=.returned (.bool b):=by rw[h]
theorem ret_int{k:IntKind}{a b:Int}(h:a=b):Ending.returned (.int k a)=.returned (.int k b):=by rw[h]
theorem heap_lt{w:World}{k:Nat}{o:Obj}(h:w.heap[k]?=some o):k<w.heap.size:=by
 rcases Nat.lt_or_ge k w.heap.size with h'|h'
 ·exact h'
 ·rw[Array.getElem?_eq_none h']at h;cases h
theorem heap_set{w:World}{p i:Nat}{cs:Array Value}{t:TypeId}{fr:Nat × Nat}(h:w.heap[p]?=some (.cells cs t fr))(u:Value):(w.setCell ⟨p,i,none⟩ u).heap[p]?=some (.cells (cs.setIfInBounds i u) t fr):=by
 simp[World.setCell,Array.getElem?_modify,h]
def KeepsBut(t1 t2:TypeId)(w w':World):Prop := ∀(k:Nat) (c:Array Value) (t:TypeId) (fr:Nat × Nat),w.heap[k]?=some (.cells c t fr)->t≠t1->t≠t2->w'.heap[k]?=some (.cells c t fr)
theorem KeepsBut.refl(t1 t2:TypeId)(w:World):KeepsBut t1 t2 w w:=fun _ _ _ _ h _ _=>h
theorem own_form{w:World}{base:Nat}{e:TypeId}{size n:Nat}{v:Value}{xs:List Value}(h:w.ownsRow base e size v n xs) :
  (v=.slice none 0 0/\n=0)\/∃g cap,v=.slice (some ⟨g,0,none⟩) n cap/\base<=g/\g<w.heap.size/\n<=cap/\∀j u,xs[j]?=some u->w.cell? ⟨g,j,none⟩=some u:=by
 rcases h.2 with h2|⟨g,cap,cur,hv,hg,hh,hnc,hcm,hcs,ht⟩
 ·exact .inl h2
 ·refine .inr ⟨g,cap,hv,hg,?_,hnc,fun j u hu=>?_⟩
  ·rcases Nat.lt_or_ge g w.heap.size with h'|h'
   ·exact h'
   ·rw[Array.getElem?_eq_none h']at hh;cases hh
  ·rw[Lib.cell_of_heap hh]
   rw[<-ht,List.getElem?_take]at hu
   split at hu
   ·simpa using hu
   ·cases hu
theorem ofL_append(a b:List UInt8):ofL a++ofL b=ofL (a++b):=by
 apply toL_inj;simp[toL,ofL]
theorem Row.cell{w:World}{A:Option Addr}{xs:List Value}(h:Row w A xs){k:Nat}(hk:k<xs.length) :
  ∃b off,A=some ⟨b,off,none⟩/\w.cell? ⟨b,off+k,none⟩=some xs[k]:=by
 obtain⟨b,off,e,_,hc⟩:=h.at hk
 exact⟨b,off,e,hc k _ (List.getElem?_eq_getElem hk)⟩
theorem own_row{w:World}{base:Nat}{e:TypeId}{size n:Nat}{v:Value}{xs:List Value}(h:w.ownsRow base e size v n xs):∃A c,v=.slice A n c/\Row w A xs:=by
 rcases own_form h with⟨rfl,h0⟩|⟨g,cap,rfl,hg,hlt,hcap,hc⟩
 ·refine⟨none,0,by rw[h0],.inl ?_⟩
  have:=h.1
  rw[h0]at this
  exact List.eq_nil_of_length_eq_zero (by omega)
 ·exact⟨_,_,rfl,Row.mk _ _ _ _ hlt fun j v hv=>by rw[Nat.zero_add];exact hc j v hv⟩
theorem own_row_cap{w:World}{base:Nat}{e:TypeId}{size n:Nat}{v:Value}{xs:List Value}(h:w.ownsRow base e size v n xs):∃A c,v=.slice A n c/\n<=c/\Row w A xs:=by
 rcases own_form h with⟨rfl,h0⟩|⟨g,cap,rfl,hg,hlt,hcap,hc⟩
 ·refine⟨none,0,by rw[h0],by omega,.inl ?_⟩
  have:=h.1
  rw[h0]at this
  exact List.eq_nil_of_length_eq_zero (by omega)
 ·exact⟨_,_,rfl,hcap,Row.mk _ _ _ _ hlt fun j v hv=>by rw[Nat.zero_add];exact hc j v hv⟩
theorem toList_nil{s:ByteArray}(h:s.size=0):s.toList=[]:=by
 rw[ByteArray.toList_eq];exact List.eq_nil_of_length_eq_zero ((toL_length s).trans h)
theorem toList_cons{s:ByteArray}(h:¬ s.size=0):s.toList.isEmpty=false:=by
 rw[ByteArray.toList_eq];cases e:s.data.toList with
 | nil=>exact absurd (by rw[<-toL_length,toL,e];rfl) h
 | cons=>rfl
theorem below_drewN{B:Nat}{a w:World}(h:Below B a w)(n:Nat):Below B a (w.drewN n):=⟨h.os,h.tape,h.output,h.size,h.block⟩
theorem extract_size(s:ByteArray)(i k:Nat)(h:k<=s.size):(s.extract i k).size=k-i:=by rw[extract_ofL,ofL_size,cutL_length _ _ _ (by rw[toL_length];exact h)]
theorem extract_toL(s:ByteArray)(i k:Nat):toL (s.extract i k)=cutL (toL s) i k:=by rw[extract_ofL,toL_ofL]
theorem one_size(c:UInt8):(⟨#[c]⟩:ByteArray).size=1:=rfl
theorem app_size(a b:ByteArray):(a++b).size=a.size+b.size:=by rw[<-toL_length, ← toL_length, ← toL_length];simp[toL]
theorem cutL_step(l:List UInt8)(f k:Nat)(h:f<=k)(hk:k<l.length):cutL l f (k+1)=cutL l f k ++ [l[k]]:=by
 unfold cutL
 rw[show k+1-f=(k-f)+1 from by omega,List.take_succ_eq_append_getElem (by simp;omega)]
 simp[show f+(k-f)=k from by omega]
theorem beq_toList(a b:ByteArray):(a.toList==b.toList)=decide (toL a=toL b):=by
 rw[ByteArray.toList_eq,ByteArray.toList_eq,Bool.eq_iff_iff,beq_iff_eq,decide_eq_true_iff];rfl
structure BytesAt(w:World)(N:Nat)(l:List UInt8):Prop where
 cells:∀j (h:j<l.length),w.cell? ⟨N,j,none⟩=some (u8 l[j])
 free:∀j,j<l.length->w.frozen? ⟨N,j,none⟩=false
theorem BytesAt.set{w:World}{N:Nat}{l:List UInt8}(h:BytesAt w N l)(k:Nat)(c:UInt8):BytesAt (w.setCell ⟨N,k,none⟩ (u8 c)) N (l.set k c):=by
 refine⟨fun j hj=>?_,fun j hj=>?_⟩
 ·simp only[List.length_set]at hj
  by_cases e:k=j
  ·subst e
   rw[World.cell?_setCell_same _ _ _ (h.cells k hj)];simp
  ·rw[World.cell?_setCell_other _ _ _ _ (by simp[e]),h.cells j hj,List.getElem_set_ne e]
 ·simp only[List.length_set]at hj
  rw[World.frozen?_setCell];exact h.free j hj
theorem bytesAt_new(w:World)(e:TypeId)(s:ByteArray):BytesAt (Lib.bytesWorld w e s) w.heap.size (toL s):=by
 refine⟨fun j hj=>?_,fun j hj=>?_⟩
 ·rw[toL_length]at hj
  rw[Lib.bytesWorld_cell w e s j hj,toL_getElem s j hj]
  simp[List.getD]
  rw[Array.getElem?_eq_getElem (by exact hj)];rfl
 ·rw[toL_length]at hj
  have h1:=Lib.bytesWorld_at_new w e s
  have h2:s.size<=(Lib.bytesCells w e s).size:=by simp[Lib.bytesCells]
  simp only[World.frozen?,h1]
  simp;omega
theorem quiet_left'{P:Program}{f:FuncId}{args:Array Value}{w:World}{n:Nat}{v:Value}
  (h:Calls P f args (w.drewN n) fun e w'=>e=.returned v/\w.drewN n=w'):Calls P f args (w.drewN n) fun e w''=>e=.returned v/\∃m,w''=w.drewN m :=
 h.mono fun _ _ ⟨he,hm⟩=>⟨he,n,hm.symm⟩
end Go.Proofs.YtannhfnpigiggaaGreatDoor
