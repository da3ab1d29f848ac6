import Derived.Test.YtannhfnpigiggaaGreatDoorPl1
import Derived.WalkKit
import Derived.Deep.Draws
import Derived.Lib.ConvBytes
import Derived.Lib.Builder
import Derived.Deep.AppendLies
namespace Go.Proofs.YtannhfnpigiggaaGreatDoor
set_option linter.unusedSimpArgs false
set_option linter.unusedVariables false
open Go.RowKit
def Row(w:World)(A:Option Addr)(xs:List Value):Prop :=
 xs=[]\/∃b off,A=some ⟨b,off,none⟩/\b<w.heap.size/\∀j v,xs[j]?=some v->w.cell? ⟨b,off+j,none⟩=some v
theorem Row.nil(w:World)(A:Option Addr):Row w A []:=.inl rfl
theorem Row.at{w:World}{A:Option Addr}{xs:List Value}(h:Row w A xs){k:Nat}(hk:k<xs.length) :
  ∃b off,A=some ⟨b,off,none⟩/\b<w.heap.size/\∀j v,xs[j]?=some v->w.cell? ⟨b,off+j,none⟩=some v:=by
 rcases h with rfl|h
 ·simp at hk
 ·exact h
theorem Row.below{w w':World}{A:Option Addr}{xs:List Value}(h:Row w A xs)(hb:Below w.heap.size w w'):Row w' A xs:=by
 rcases h with rfl|⟨b,off,rfl,hlt,hc⟩
 ·exact .inl rfl
 ·exact .inr ⟨b,off,rfl,Nat.lt_of_lt_of_le hlt hb.size,fun j v hv=>(hb.cell (p:=⟨b,off+j,none⟩) hlt).trans (hc j v hv)⟩
abbrev u8(c:UInt8):Value:=.int .u8 (num c)
abbrev bytesV(l:List UInt8):List Value:=l.map u8
abbrev strsL(l:List (List UInt8)):List Value:=l.map fun x=>.string (ofL x)
theorem own_below{w w':World}{base:Nat}{e:TypeId}{size n:Nat}{v:Value}{xs:List Value}(h:w.ownsRow base e size v n xs)(hb:Below w.heap.size w w'):w'.ownsRow base e size v n xs:=by
 refine⟨h.1,?_⟩
 rcases h.2 with h2|⟨g,cap,cur,hv,hg,hh,r⟩
 ·exact .inl h2
 ·refine .inr ⟨g,cap,cur,hv,hg,(hb.block g ?_).trans hh,r⟩
  rcases Nat.lt_or_ge g w.heap.size with h'|h'
  ·exact h'
  ·rw[Array.getElem?_eq_none h']at hh;cases hh
theorem Row.mk(w:World)(b off:Nat)(xs:List Value)(hb:b<w.heap.size)(h:∀j v,xs[j]?=some v->w.cell? ⟨b,off+j,none⟩=some v):Row w (some ⟨b,off,none⟩) xs :=
 .inr ⟨b,off,rfl,hb,h⟩
theorem bytesWorld_below(w:World)(e:TypeId)(s:ByteArray):Below w.heap.size w (Lib.bytesWorld w e s) :=
 ⟨rfl,rfl,rfl,by simp[Lib.bytesWorld,World.freeze],fun k hk=>Lib.bytesWorld_at_old w e s k hk⟩
theorem bytesWorld_size(w:World)(e:TypeId)(s:ByteArray):(Lib.bytesWorld w e s).heap.size=w.heap.size+1:=by simp[Lib.bytesWorld,World.freeze]
theorem bytesWorld_row(w:World)(e:TypeId)(s:ByteArray):Row (Lib.bytesWorld w e s) (some ⟨w.heap.size,0,none⟩) (bytesV (toL s)):=by
 refine Row.mk _ _ _ _ (by rw[bytesWorld_size];omega) fun j v hv=>?_
 simp only[World.cell?,Lib.bytesWorld_at_new]
 have hj:j<s.size:=by
  rcases Nat.lt_or_ge j s.size with h|h
  ·exact h
  ·simp[toL_length,h]at hv
 simp only[List.getElem?_map]at hv
 have:(toL s)[j]?=some s[j]:=by rw[List.getElem?_eq_getElem (by rw[toL_length];exact hj),toL_getElem s j hj]
 rw[this]at hv
 simp only[Option.map_some,Option.some.injEq]at hv
 subst hv
 simp[Lib.bytesCells,hj,Array.getElem?_append]
 rfl
structure Elem(P:Program)(t e:TypeId)(size bytes:Nat):Prop where
 under:P.underlying t=some (.slice e)
 info:∃i z,P.info? e=some i/\i.zero=some z/\i.size=size/\i.bytes=bytes/\z.cells.size=size
 pos:0<size
theorem Elem.of{P:Program}{t e:TypeId}{z:Value}{size bytes:Nat}(hu:P.underlying t=some (.slice e))(h:(P.info? e).map (fun i=>(i.zero,i.size,i.bytes))=some (some z,size,bytes))(hz:z.cells.size=size)(hp:0<size):Elem P t e size bytes:=by
 obtain⟨i,hi,h0,h1,h2⟩:=info_parts h
 exact⟨hu,⟨i,z,hi,h0,h1,h2,hz⟩,hp⟩
theorem wpList_push{P:Program}{w:World}{ops:Array Oper}{rest:List Oper}{o:Oper}{a:Act}{Q:Exit->Act->World->Prop}{t e:TypeId}{size bytes:Nat}(E:Elem P t e size bytes)(hgd:o.guard=none)(s x:Operand)
  (ho:o.op=.call { callee:=.builtin .append,args:=#[s,x],argTypes:=#[t,t] }) {base:Nat} {v:Value} {n:Nat} {xs:List Value} (hown:w.ownsRow base e size v n xs) (cs:Array Value) (hs:a.eval s=v)
  (hx:a.eval x=.slice (some ⟨w.heap.size,0,none⟩) 1 1) (hl:cs.size=size) (h1:∀u∈cs.toList,u.oneCell'=true) (hn:(n+1)*bytes<=140737488355328) (hn2:n+1<=maxLen) (hbase:base<=w.heap.size)
  (h:∀g cap w',w'.ownsRow base e size (.slice (some ⟨g,0,none⟩) (n+1) cap) (n+1) (xs++cs.toList)->w.grownBy w' v.ownBlock->(v.ownBlock=some g\/w.heap.size<g)->wpList P ops Q rest (a.put o.dst (.slice (some ⟨g,0,none⟩) (n+1) cap)) w') :
  wpList P ops Q (o::rest) a (w.alloc (.cells cs e)):=by
 obtain⟨i,z,hi,hz0,hz1,hz2,hzs⟩:=E.info
 refine wpList_append_lies _ hgd s x t ho base e i z size bytes E.under hi hz0 hz1 hz2 hzs E.pos v n xs hs (hown.alloc _) ⟨w.heap.size,0,none⟩ 1 1 cs.toList hx (by simp[hl]) (World.news_of_block (t:=e) (fr:=(0,0)) (heap_alloc_new w _)) h1 (by omega) hn2 hn (by simp;omega) (w.heap.size+1) (by simp) ?_
 intro g cap w' ho' hg hat _
 refine h g cap w' ho' ⟨hg.os,hg.tape,hg.output,Nat.le_trans (by simp) hg.size,fun k hk hne=>(hg.block k (by simp;omega) hne).trans (Lib.alloc_old w _ k hk)⟩ ?_
 rcases hat with hat|hat
 ·exact .inl hat
 ·exact .inr (by omega)
end Go.Proofs.YtannhfnpigiggaaGreatDoor
