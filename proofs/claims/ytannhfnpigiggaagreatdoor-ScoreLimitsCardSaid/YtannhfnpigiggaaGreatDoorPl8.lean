import Derived.Test.YtannhfnpigiggaaGreatDoorPl3
import Derived.Maps.AppendAt
import Derived.Laws.OwnMore
import Derived.ChangeAgain
import Derived.OpenShut
namespace Go.Proofs.YtannhfnpigiggaaGreatDoor
set_option linter.unusedSimpArgs false
set_option linter.unusedVariables false
open Go.RowKit
theorem shaped_below{P:Program}{w w':World}(h:w.ShapedOpen P)(hb:Below w.heap.size w w'):w'.ShapedOpen P :=
 h.keptBut (hb.frame (fun _=>False)) (fun _ h=>h.elim)
theorem run_pour{P:Program}{t e:TypeId}{size bytes:Nat}(E:Elem P t e size bytes)(w:World)(base:Nat)(ty:TypeId)(v:Value)(n:Nat)(xs:List Value)(hown:w.ownsRow base e size v n xs)
  (A:Option Addr) (m c:Nat) (news:List Value) (hr:Row w A news) (hl:news.length=m*size) (h1:∀u∈news,u.oneCell'=true) (hnil:A=none->m=0)
  (h63:n+m<=maxLen) (hbytes:(n+m)*bytes<=140737488355328) (hbase:base<=w.heap.size) :
  ∃v' w',(Builtin.append_ #[t,t] ty #[v,.slice A m c]).run P w=.ok v' w'/\w'.ownsRow base e size v' (n+m) (xs++news)/\w.grownBy w' v.ownBlock/\(v'.ownBlock=v.ownBlock\/v'.ownBlock=some w.heap.size):=by
 obtain⟨i,z,hi,hz0,hz1,hz2,hzs⟩:=E.info
 have ht:=E.under
 rcases A with _|ad
 ·have hm:=hnil rfl
  subst hm
  have hn:news=[]:=List.eq_nil_of_length_eq_zero (by simpa using hl)
  subst hn
  refine⟨v,w,?_,by simpa using hown,World.grownBy.refl w _,.inl rfl⟩
  rcases hown.2 with⟨rfl,rfl⟩|⟨g,cap,cur,rfl,_,_,hnc,_⟩
  ·simp[Builtin.append_,run_underlying ht,sizeOf,typeInfo,hi,Builtin.lenOf,Builtin.firstCells]
  ·simp[Builtin.append_,run_underlying ht,sizeOf,typeInfo,hi,Builtin.lenOf,Builtin.firstCells,hnc,storeCells]
 ·have hcells:∀j u,news[j]?=some u->w.cell? (ad.add j)=some u:=by
   intro j u hu
   rcases hr with rfl|⟨b,off,e1,_,hc⟩
   ·simp at hu
   ·injection e1 with e1;subst e1
    have:(⟨b,off,none⟩:Addr).add j=⟨b,off+j,none⟩:=by
     unfold Addr.add;split
     ·rename_i h;subst h;rfl
     ·rfl
    rw[this];exact hc j u hu
  obtain⟨v',w',hrun,h2,h3,_,h5⟩:=run_append_own_at (P:=P) w base t ty e i z size bytes ht hi hz0 hz1 hz2 hzs E.pos v n xs hown ad m c news hl hcells h1 h63 hbytes hbase
  exact⟨v',w',hrun,h2,h3,h5⟩
end Go.Proofs.YtannhfnpigiggaaGreatDoor
