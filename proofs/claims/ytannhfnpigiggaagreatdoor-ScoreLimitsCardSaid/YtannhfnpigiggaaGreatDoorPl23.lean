import Derived.Test.YtannhfnpigiggaaGreatDoorPl8
import Derived.Test.YtannhfnpigiggaaGreatDoorPl4
import GoSem.Instr.MapUpdate
import GoSem.Instr.MakeMap
import Derived.MapKept
namespace Go.Proofs.YtannhfnpigiggaaGreatDoor
set_option linter.unusedSimpArgs false
set_option linter.unusedVariables false
open Go.RowKit
abbrev kS(p:List UInt8):Value:=.string (ofL p)
theorem beq_ba(a b:ByteArray):(a==b)=decide (a=b):=by
 have h:(a==b)=(a.data==b.data):=rfl
 rw[h]
 by_cases e:a=b
 ·subst e;simp
 ·have:a.data≠b.data:=fun h=>e (by cases a;cases b;simp at h;rw[h])
  simp[e,this]
theorem same_str(p q:List UInt8):Instr.sameNow .string (kS p) (kS q)=some (decide (p=q)):=by
 show some (ofL p==ofL q)=_
 rw[beq_ba]
 by_cases h:p=q
 ·subst h;simp
 ·have:ofL p≠ofL q:=fun e=>h (by have:=congrArg toL e;rwa [toL_ofL,toL_ofL]at this)
  simp[h,this]
theorem key_str{P:Program}{K:TypeId}(hK:P.underlying K=some .string)(w:World)(b:Bool)(p:List UInt8):(Instr.checkKey b 10000 K (kS p)).run P w=.ok () w:=by
 rw[Instr.checkKey]
 simp[run_underlying hK]
def EntA(es:List MapEntry)(ps:List (List UInt8 × Value)):Prop:=es.map (fun e=>(e.key,e.val))=ps.map fun q=>(kS q.1,q.2)
def keyIn(p:List UInt8)(ps:List (List UInt8 × Value)):Option Value:=(ps.find? fun q=>decide (p=q.1)).map (·.2)
theorem now_missA(p:List UInt8):∀(es:List MapEntry) (ps:List (List UInt8 × Value)) (i:Nat),EntA es ps->keyIn p ps=none->Instr.findNow .string (kS p) es i=some none:=by
 intro es
 induction es with
 | nil=>intro ps i _ _;rfl
 | cons e es ih =>
  intro ps i h hp
  cases ps with
  | nil=>simp[EntA]at h
  | cons q ps =>
   simp only[EntA,List.map_cons,List.cons.injEq,Prod.mk.injEq]at h
   have hne:p≠q.1:=fun e=>by simp[keyIn,e]at hp
   have hp':keyIn p ps=none:=by simpa[keyIn,hne] using hp
   rw[Instr.findNow,h.1.1,same_str,decide_eq_false hne]
   exact ih ps (i+1) h.2 hp'
theorem now_hitA(p:List UInt8):∀(es:List MapEntry) (ps:List (List UInt8 × Value)) (i:Nat) (v:Value),EntA es ps->keyIn p ps=some v->∃j,Instr.findNow .string (kS p) es i=some (some (j,v)):=by
 intro es
 induction es with
 | nil =>
  intro ps i v h hp
  cases ps with
  | nil=>simp[keyIn]at hp
  | cons q ps=>simp[EntA]at h
 | cons e es ih =>
  intro ps i v h hp
  cases ps with
  | nil=>simp[keyIn]at hp
  | cons q ps =>
   simp only[EntA,List.map_cons,List.cons.injEq,Prod.mk.injEq]at h
   by_cases hpq:p=q.1
   ·have hv:v=q.2:=by simp[keyIn,hpq]at hp;exact hp.symm
    exact⟨i,by rw[Instr.findNow,h.1.1,same_str,decide_eq_true hpq,h.1.2,hv]⟩
   ·have hp':keyIn p ps=some v:=by simpa[keyIn,hpq] using hp
    obtain⟨j,hj⟩:=ih ps (i+1) v h.2 hp'
    refine⟨j,?_⟩
    rw[Instr.findNow,h.1.1,same_str,decide_eq_false hpq]
    exact hj
def AMap(w:World)(b:Nat)(ps:List (List UInt8 × Value)):Prop := ∃es clock,w.heap[b]?=some (.map es clock)/\EntA es.toList ps
theorem AMap.look{P:Program}{M K E:TypeId}{z:Value}(hK:P.underlying K=some .string)(hM:P.underlying M=some (.map K E))(hz:∀w,(zeroValue E).run P w=.ok z w){w:World}{b:Nat}{ps:List (List UInt8 × Value)}(h:AMap w b ps)(s:ByteArray) :
  (Instr.lookup M (.map (some b)) (.string s) true).run P w=.ok (.tuple #[(keyIn (toL s) ps).getD z,.bool (keyIn (toL s) ps).isSome]) w:=by
 obtain⟨es,clock,hb,he⟩:=h
 have hs:Value.string s=kS (toL s):=by show _=Value.string (ofL (toL s));rw[ofL_toL]
 rw[hs]
 generalize toL s=p
 unfold Instr.lookup
 have hg:(getObj b).run P w=.ok (.map es clock) w:=MapKept.run_getObj_map hb
 have hk:=key_str hK w es.isEmpty p
 rcases hp:keyIn p ps with _|v
 ·have hj:=now_missA p es.toList ps 0 he hp
  simp[Sem.run_bind,run_underlying hM,Result.andThen_ok,hg,hk,Instr.findKey,run_underlying hK,hj,Sem.run_pure,hp,hz]
 ·obtain⟨j,hj⟩:=now_hitA p es.toList ps 0 v he hp
  simp[Sem.run_bind,run_underlying hM,Result.andThen_ok,hg,hk,Instr.findKey,run_underlying hK,hj,Sem.run_pure,hp]
theorem AMap.put{P:Program}{M K E:TypeId}(hK:P.underlying K=some .string)(hM:P.underlying M=some (.map K E)){w:World}{b:Nat}{ps:List (List UInt8 × Value)}(h:AMap w b ps)(s:ByteArray)(v:Value)(hn:keyIn (toL s) ps=none) :
  ∃w',(Instr.mapUpdate M (.map (some b)) (.string s) v).run P w=.ok () w'/\AMap w' b (ps ++ [(toL s,v)])/\w.grownBy w' (some b)/\w'.heap.size=w.heap.size:=by
 obtain⟨es,clock,hb,he⟩:=h
 have hs:Value.string s=kS (toL s):=by show _=Value.string (ofL (toL s));rw[ofL_toL]
 rw[hs]
 generalize toL s=p at *
 have hg:(getObj b).run P w=.ok (.map es clock) w:=MapKept.run_getObj_map hb
 have hk:=key_str hK w false p
 have hlt:=heap_lt hb
 have grow:∀o:Obj,w.grownBy { w with heap:=w.heap.setIfInBounds b o } (some b):=fun o=>by
  refine⟨rfl,rfl,rfl,by simp,fun k hk hne=>?_⟩
  have:b≠k:=fun e=>hne (by rw[e])
  simp[this]
 have hj:=now_missA p es.toList ps 0 he hn
 refine⟨_,?_,⟨es.push { key:=kS p,val:=v,born:=clock },clock+1,?_,?_⟩,grow (.map (es.push { key:=kS p,val:=v,born:=clock }) (clock+1)),by simp⟩
 ·unfold Instr.mapUpdate
  simp only[Sem.run_bind,run_underlying hM,Result.andThen_ok,hg,hk,Instr.findKey,run_underlying hK,hj,Sem.run_pure]
  rw[MapKept.run_setObj_map _ hb]
 ·simp[hlt]
 ·unfold EntA at he⊢
  simp[he]
end Go.Proofs.YtannhfnpigiggaaGreatDoor
