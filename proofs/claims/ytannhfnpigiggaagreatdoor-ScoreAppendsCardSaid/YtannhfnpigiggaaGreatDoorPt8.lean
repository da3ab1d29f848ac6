import Derived.Test.YtannhfnpigiggaaGreatDoorPt3
import Derived.Maps.AppendAt
import Derived.Laws.OwnMore
import Derived.ChangeAgain
import Derived.OpenShut
namespace Go.Proofs.YtannhfnpigiggaaGreatDoor
set_option linter.unusedSimpArgs false
set_option linter.unusedVariables false
open Go.RowKit
theorem shaped_below{P:Program}{w w':World}(h:w.ShapedOpen P)(hb:Below w.heap.size w w'):w'.ShapedOpen P :=
 h.keptBut (hb.frame (fun _=>False)) (fun _ h=>h.elim)
theorem run_pour{P:Program}{t e:TypeId}{size bytes:Nat}(E:Elem P t e size bytes)(w:World)(base:Nat)(ty:TypeId)(v:Value)(n:Nat)(xs:List Value)(hown:w.ownsRow base e size v n xs)
  (A:Option Addr) (m c:Nat) (news:List Value) (hr:Row w A news) (hl:news.length=m*size) (h1:∀u∈news,u.oneCell'=true) (hnil:A=none->m=0)
  (h63:n+m<=maxLen) (hbytes:(n+m)*bytes<=140737488355328) (hbase:base<=w.heap.size) :
  ∃v' w',(Builtin.append_ #[t,t] ty #[v,.slice A m c]).run P w=.ok v' w'/\w'.ownsRow base e size v' (n+m) (xs++news)/\w.grownBy w' v.ownBlock/\(v'.ownBlock=v.ownBlock\/v'.ownBlock=some w.heap.size):=by
 obtain⟨i,z,hi,hz0,hz1,hz2,hzs⟩:=E.info
 have ht:=E.under
 rcases A with _|ad
 ·have hm:=hnil rfl
  subst hm
  have hn:news=[]:=List.eq_nil_of_length_eq_zero (by simpa using hl)
  subst hn
  refine⟨v,w,?_,by simpa using hown,World.grownBy.refl w _,.inl rfl⟩
  rcases hown.2 with⟨rfl,rfl⟩|⟨g,cap,cur,rfl,_,_,hnc,_⟩
  ·simp[Builtin.append_,run_underlying ht,sizeOf,typeInfo,hi,Builtin.lenOf,Builtin.firstCells]
  ·simp[Builtin.append_,run_underlying ht,sizeOf,typeInfo,hi,Builtin.lenOf,Builtin.firstCells,hnc,storeCells]
 ·have hcells:∀j u,news[j]?=some u->w.cell? (ad.add j)=some u:=by
   intro j u hu
   rcases hr with rfl|⟨b,off,e1,_,hc⟩
   ·simp at hu
   ·injection e1 with e1;subst e1
    have:(⟨b,off,none⟩:Addr).add j=⟨b,off+j,none⟩:=by
     unfold Addr.add;split
     ·rename_i h;subst h;rfl
     ·rfl
    rw[this];exact hc j u hu
  obtain⟨v',w',hrun,h2,h3,_,h5⟩:=run_append_own_at (P:=P) w base t ty e i z size bytes ht hi hz0 hz1 hz2 hzs E.pos v n xs hown ad m c news hl hcells h1 h63 hbytes hbase
  exact⟨v',w',hrun,h2,h3,h5⟩
theorem wpList_pour{P:Program}{w:World}{ops:Array Oper}{rest:List Oper}{o:Oper}{a:Act}{Q:Exit->Act->World->Prop}{t e:TypeId}{size bytes:Nat}(E:Elem P t e size bytes)(hgd:o.guard=none)(s x:Operand)
  (ho:o.op=.call { callee:=.builtin .append,args:=#[s,x],argTypes:=#[t,t] }) {base:Nat} {v:Value} {n:Nat} {xs:List Value} (hown:w.ownsRow base e size v n xs) (hs:a.eval s=v)
  {A:Option Addr} {m c:Nat} {news:List Value} (hx:a.eval x=.slice A m c) (hr:Row w A news) (hl:news.length=m*size) (h1:∀u∈news,u.oneCell'=true) (hnil:A=none->m=0)
  (hbytes:(n+m)*bytes<=140737488355328) (h63:n+m<=maxLen) (hbase:base<=w.heap.size)
  (h:∀v' w',w'.ownsRow base e size v' (n+m) (xs++news)->w.grownBy w' v.ownBlock->(v'.ownBlock=v.ownBlock\/v'.ownBlock=some w.heap.size)->wpList P ops Q rest (a.put o.dst v') w') :
  wpList P ops Q (o::rest) a w:=by
 obtain⟨v',w',hrun,h2,h3,h4⟩:=run_pour E w base o.type v n xs hown A m c news hr hl h1 hnil h63 hbytes hbase
 refine wpList_plain hgd fun _ hK=>?_
 unfold Oper.wp execOp
 simp only[ho,resolve,invoke,builtin,Sem.run_bind,Sem.run_pure,Result.andThen_ok,List.map_toArray,List.map_cons,List.map_nil,hs,hx,hrun]
 exact hK _ _ (h v' w' h2 h3 h4)
theorem Row.none_len{w:World}{A:Option Addr}{news:List Value}{m size:Nat}(h:Row w A news)(hl:news.length=m*size)(hp:0<size):A=none->m=0:=by
 intro hA
 rcases h with rfl|⟨b,off,e1,_⟩
 ·have hz:m*size=0:=by simpa using hl.symm
  rcases Nat.mul_eq_zero.1 hz with h|h
  ·exact h
  ·omega
 ·rw[hA]at e1;cases e1
end Go.Proofs.YtannhfnpigiggaaGreatDoor
