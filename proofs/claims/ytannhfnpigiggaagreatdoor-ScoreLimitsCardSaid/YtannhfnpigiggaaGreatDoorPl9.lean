import Derived.Test.YtannhfnpigiggaaGreatDoorPl8
import Derived.Test.YtannhfnpigiggaaGreatDoorPl4
import Derived.Deep.MidRow
namespace Go.Proofs.YtannhfnpigiggaaGreatDoor
set_option linter.unusedSimpArgs false
set_option linter.unusedVariables false
open Go.RowKit
theorem alloc_bel(w:World)(o:Obj):Below w.heap.size w (w.alloc o):=(Below.refl _ _).alloc (Nat.le_refl _) _
theorem heap_set_ne{w:World}{p q i:Nat}(u:Value)(h:q≠p):(w.setCell ⟨p,i,none⟩ u).heap[q]?=w.heap[q]?:=Below.heap_setCell _ _ _ _ h
theorem alloc_at(w:World)(o:Obj)(n:Nat)(h:n=w.heap.size):(w.alloc o).heap[n]?=some o:=by subst h;exact heap_alloc_new _ _
structure Fr(n:Nat)(S:Nat->Prop)(w w':World):Prop where
 bel:Below n w w'
 oth:∀k,k<w.heap.size->¬ S k->w'.heap[k]?=w.heap[k]?
theorem Fr.size{n:Nat}{S:Nat->Prop}{w w':World}(h:Fr n S w w'):w.heap.size<=w'.heap.size:=h.bel.size
theorem Fr.of{n:Nat}{S:Nat->Prop}{w w':World}(h:Below w.heap.size w w')(hn:n<=w.heap.size):Fr n S w w':=⟨h.mono hn,fun k hk _=>h.block k hk⟩
theorem Fr.refl(n:Nat)(S:Nat->Prop)(w:World):Fr n S w w:=⟨Below.refl _ _,fun _ _ _=>rfl⟩
theorem Fr.trans{n:Nat}{S T:Nat->Prop}{w w1 w2:World}(h:Fr n S w w1)(k:Fr n T w1 w2)(hT:∀i,T i->S i\/w.heap.size<=i):Fr n S w w2 :=
 ⟨h.bel.trans k.bel,fun i hi hs=>(k.oth i (Nat.lt_of_lt_of_le hi h.size) (fun ht=>(hT i ht).elim hs (fun g=>by omega))).trans (h.oth i hi hs)⟩
theorem Fr.grown{n:Nat}{S:Nat->Prop}{w w1 w2:World}{row:Option Nat}(h:Fr n S w w1)(hg:w1.grownBy w2 row)(hn:n<=w.heap.size)(hr:∀k,row=some k->n<=k/\(S k\/w.heap.size<=k)):Fr n S w w2 :=
 ⟨h.bel.grown hg (Nat.le_trans hn h.size) (fun k hk=>(hr k hk).1),fun i hi hs=>(hg.block i (Nat.lt_of_lt_of_le hi h.size) (fun e=>(hr i e.symm).2.elim hs (fun g=>by omega))).trans (h.oth i hi hs)⟩
theorem Fr.below{n:Nat}{S:Nat->Prop}{w w1 w2:World}(h:Fr n S w w1)(hb:Below w1.heap.size w1 w2)(hn:n<=w.heap.size):Fr n S w w2 :=
 ⟨h.bel.trans (hb.mono (Nat.le_trans hn h.size)),fun i hi hs=>(hb.block i (Nat.lt_of_lt_of_le hi h.size)).trans (h.oth i hi hs)⟩
theorem Fr.set{n:Nat}{S:Nat->Prop}{w w1:World}(h:Fr n S w w1){B i:Nat}(u:Value)(hB:n<=B)(hS:S B\/w.heap.size<=B):Fr n S w (w1.setCell ⟨B,i,none⟩ u) :=
 ⟨h.bel.setCell (p:=⟨B,i,none⟩) hB u,fun k hk hs=>(heap_set_ne u (fun e=>by subst e;exact hS.elim hs (fun g=>by omega))).trans (h.oth k hk hs)⟩
theorem Fr.drew{n:Nat}{S:Nat->Prop}{w w1:World}(h:Fr n S w w1):Fr n S w w1.drew:=⟨h.bel.drew,h.oth⟩
theorem own_oth{w w':World}{base:Nat}{e:TypeId}{size n:Nat}{v:Value}{xs:List Value}(h:w.ownsRow base e size v n xs)(hk:∀k,v.ownBlock=some k->w'.heap[k]?=w.heap[k]?):w'.ownsRow base e size v n xs:=by
 refine⟨h.1,?_⟩
 rcases h.2 with h2|⟨g,cap,cur,rfl,hg',hh,r⟩
 ·exact .inl h2
 ·exact .inr ⟨g,cap,cur,rfl,hg',(hk g rfl).trans hh,r⟩
end Go.Proofs.YtannhfnpigiggaaGreatDoor
