import Derived.Test.YtannhfnpigiggaaGreatDoorPt26
import Derived.Test.YtannhfnpigiggaaGreatDoorPt32
namespace Go.Proofs.YtannhfnpigiggaaGreatDoor
set_option linter.unusedSimpArgs false
set_option linter.unusedVariables false
def Dlm(X:Bs):Prop := ∀c r,X=c::r->c=32\/c=40\/c=41
theorem dlm_nil:Dlm []:=fun c r h=>by cases h
theorem dlm_blank(r:Bs):Dlm (32::r):=fun c r' h=>by injection h with h;exact .inl h.symm
theorem dlm_rp(r:Bs):Dlm (41::r):=fun c r' h=>by injection h with h;exact .inr (.inr h.symm)
theorem takeWhile_stop{P:UInt8->Bool}{X:Bs}(hX:∀c r,X=c::r->P c=false):∀L:Bs,(L++X).takeWhile P=L.takeWhile P
 | []=>by
  cases X with
  | nil=>rfl
  | cons c r=>simp[List.takeWhile_cons,hX c r rfl]
 | c::r=>by
  rw[List.cons_append,List.takeWhile_cons,List.takeWhile_cons,takeWhile_stop hX r]
theorem Dlm.low{X:Bs}(h:Dlm X):∀c r,X=c::r->lowS c=false:=fun c r e=>by
 rcases h c r e with rfl|rfl|rfl<;>rfl
theorem Dlm.dig{X:Bs}(h:Dlm X):∀c r,X=c::r->digB c=false:=fun c r e=>by
 rcases h c r e with rfl|rfl|rfl<;>rfl
theorem endQ_app(X:Bs):∀(n:Nat) (L:Bs) (i e:Nat),L.length<=n->endQ L i=some e->endQ (L++X) i=some e/\e<i+L.length
 | _, [],i,e,_,h=>by cases h
 | 0,c::r,i,e,hn,h=>by simp at hn
 | n+1,c::r,i,e,hn,h=>by
  simp only[List.length_cons]at hn
  unfold endQ at h
  rw[List.cons_append]
  unfold endQ
  split at h
  ·rename_i h1
   rw[if_pos h1]
   injection h with h
   exact⟨by rw[h],by simp only[List.length_cons];omega⟩
  ·rename_i h1
   rw[if_neg h1]
   split at h
   ·rename_i h2
    rw[if_pos h2]
    cases r with
    | nil=>cases h
    | cons d r' =>
     simp only at h
     have:=endQ_app X n r' (i+2) e (by simp only[List.length_cons]at hn;omega) h
     simp only[List.cons_append,List.length_cons]
     exact⟨this.1,by omega⟩
   ·rename_i h2
    rw[if_neg h2]
    have:=endQ_app X n r (i+1) e (by omega) h
    simp only[List.length_cons]
    exact⟨this.1,by omega⟩
theorem sym_pre{X:Bs}(hX:Dlm X)(c:UInt8)(r:Bs):∀s∈syms,s.isPrefixOf (c::r++X)=s.isPrefixOf (c::r):=by
 intro s hs
 have two:∀a b:UInt8,b=61->List.isPrefixOf [a,b] (c::r++X)=List.isPrefixOf [a,b] (c::r):=by
  intro a b hb
  cases r with
  | nil =>
   cases X with
   | nil=>rfl
   | cons d X =>
    have hd:(b==d)=false:=by
     subst hb
     rcases hX d X rfl with rfl|rfl|rfl<;>rfl
    simp[List.isPrefixOf,hd]
  | cons d r=>simp[List.isPrefixOf]
 have one:∀a:UInt8,List.isPrefixOf [a] (c::r++X)=List.isPrefixOf [a] (c::r):=by
  intro a;simp[List.isPrefixOf]
 simp only[syms,List.mem_cons,List.not_mem_nil,or_false]at hs
 rcases hs with rfl|rfl|rfl|rfl|rfl|rfl|rfl|rfl|rfl|rfl
 ·exact two _ _ rfl
 ·exact two _ _ rfl
 ·exact two _ _ rfl
 all_goals exact one _
theorem find_eq{f g:Bs->Bool} : ∀l:List Bs,(∀s∈l,f s=g s)->l.find? f=l.find? g
 | [],_=>rfl
 | s::r,h=>by
  rw[List.find?_cons,List.find?_cons,h s (by simp),find_eq r (fun x hx=>h x (by simp[hx]))]
theorem tokT_app{L X:Bs}{col:Nat}{x:Tok × Nat}(h:tokT L col=.ok x)(hX:Dlm X)(col':Nat):∃t,tokT (L++X) col'=.ok (t,x.2)/\ess t=ess x.1:=by
 cases L with
 | nil=>cases h
 | cons c r =>
  unfold tokT at h
  simp only at h
  rw[List.cons_append]
  unfold tokT
  simp only
  split at h
  ·rename_i h1
   injection h with h;subst h
   rw[if_pos h1, ← List.cons_append,takeWhile_stop hX.low]
   exact⟨_,rfl,rfl⟩
  ·rename_i h1
   rw[if_neg h1]
   split at h
   ·rename_i h2
    rw[if_pos h2, ← List.cons_append,takeWhile_stop hX.dig]
    split at h
    ·cases h
    ·rename_i h3
     rw[if_neg h3]
     injection h with h;subst h
     exact⟨_,rfl,rfl⟩
   ·rename_i h2
    rw[if_neg h2]
    split at h
    ·rename_i h3
     rw[if_pos h3]
     unfold strT at h⊢
     split at h
     ·cases h
     ·rename_i e he
      obtain⟨e1,e2⟩:=endQ_app X _ _ _ _ (Nat.le_refl _) he
      simp only[List.drop_succ_cons,List.drop_zero]at e1 e2 h⊢
      rw[e1]
      simp only
      have ht:(c::(r++X)).take e=(c::r).take e:=by
       rw[<-List.cons_append,List.take_append_of_le_length]
       simp only[List.length_cons];omega
      rw[ht]
      split at h
      ·cases h
      ·rename_i h4
       split at h
       ·cases h
       ·rename_i h5
        rw[if_neg h5]
        split at h
        ·cases h
        ·rename_i h6
         rw[if_neg h6]
         injection h with h;subst h
         exact⟨_,rfl,rfl⟩
    ·rename_i h3
     rw[if_neg h3]
     unfold symT at h⊢
     have hf:=find_eq syms (f:=fun s=>s.isPrefixOf (c::(r++X))) (g:=fun s=>s.isPrefixOf (c::r)) (sym_pre hX c r)
     rw[hf]
     split at h
     ·rename_i s hs
      injection h with h;subst h
      exact⟨_,rfl,rfl⟩
     ·cases h
theorem toksG_blank{c:UInt8}(h:blkS c=true)(g:Nat)(r:Bs)(i:Nat):toksG (g+1) (c::r) i=toksG g r (i+1):=by
 conv=>lhs;unfold toksG
 simp only[h,if_true]
theorem toksG_step{c:UInt8}{r:Bs}{i:Nat}{x:Tok × Nat}(h:blkS c=false)(ht:tokT (c::r) (i+1)=.ok x){g:Nat}{lx:List Tok}(hl:toksG g ((c::r).drop x.2) (i+x.2)=.ok lx):toksG (g+1) (c::r) i=.ok (x.1::lx):=by
 conv=>lhs;unfold toksG
 simp only[h,ht,hl]
 simp
theorem toksG_app{X:Bs}(hX:Dlm X):∀(g:Nat) (L:Bs) (i:Nat) (l:List Tok),L.length<g->toksG g L i=.ok l →
  ∃l0 e,l=l0 ++ [e]/\e.kind=0/\(∀x∈l0,x.kind≠0)/\∀(g' i':Nat),(L++X).length<g'->∃l1,l1.map ess=l0.map ess/\∀lx,toksG (X.length+1) X (i'+L.length)=.ok lx->toksG g' (L++X) i'=.ok (l1++lx)
 | 0,L,i,l,hg,h=>by omega
 | g+1, [],i,l,hg,h=>by
  unfold toksG at h
  injection h with h;subst h
  refine⟨[],_,rfl,rfl,by simp,fun g' i' hg'=>⟨[],rfl,fun lx hx=>?_⟩⟩
  simp only[List.nil_append,List.length_nil,Nat.add_zero]at hx hg'⊢
  rw[toksG_fuel g' (X.length+1) X i' hg' (by omega)]
  exact hx
 | g+1,c::r,i,l,hg,h=>by
  simp only[List.length_cons]at hg
  unfold toksG at h
  simp only at h
  split at h
  ·rename_i hb
   obtain⟨l0,e,e1,e2,e3,e4⟩:=toksG_app hX g r (i+1) l (by omega) h
   refine⟨l0,e,e1,e2,e3,fun g' i' hg'=>?_⟩
   cases g' with
   | zero=>omega
   | succ g' =>
    obtain⟨l1,f1,f2⟩:=e4 g' (i'+1) (by simp only[List.cons_append,List.length_cons]at hg';omega)
    refine⟨l1,f1,fun lx hx=>?_⟩
    rw[List.cons_append,toksG_blank hb]
    exact f2 lx (by rw[<-hx];congr 1;simp only[List.length_cons];omega)
  ·rename_i hb
   have hb:blkS c=false:=by simpa using hb
   split at h
   ·cases h
   ·rename_i t n ht
    split at h
    ·cases h
    ·rename_i l2 hl2
     injection h with h;subst h
     have hl:=tok_len ht
     have hk:=(tok_ok ht).1
     simp only[List.length_cons]at hl hk
     obtain⟨l0,e,e1,e2,e3,e4⟩:=toksG_app hX g ((c::r).drop n) (i+n) l2 (by rw[List.length_drop,List.length_cons];omega) hl2
     refine⟨t::l0,e,by rw[e1];rfl,e2,?_,fun g' i' hg'=>?_⟩
     ·intro x hx
      rcases List.mem_cons.1 hx with rfl|hx
      ·exact hk
      ·exact e3 x hx
     ·cases g' with
      | zero=>omega
      | succ g' =>
       obtain⟨t',ht',hee⟩:=tokT_app ht hX (i'+1)
       have hd:(c::(r++X)).drop n=(c::r).drop n++X:=by
        rw[<-List.cons_append,List.drop_append_of_le_length (by simp only[List.length_cons];omega)]
       obtain⟨l1,f1,f2⟩:=e4 g' (i'+n) (by
        rw[List.length_append,List.length_drop]
        simp only[List.cons_append,List.length_cons,List.length_append]at hg'⊢;omega)
       refine⟨t'::l1,by simp only[List.map_cons,f1];rw[hee],fun lx hx=>?_⟩
       rw[List.cons_append,List.cons_append] at *
       refine toksG_step (x:=(t',n)) hb ht' ?_
       simp only
       rw[hd]
       exact f2 lx (by rw[<-hx];congr 1;rw[List.length_drop,List.length_cons];omega)
def parseG(L:Bs):Except (Nat × Nat × Int) (List RuleS):=if 65536<L.length then .error (0,0,5) else rulesG (linesM L) 0 0
end Go.Proofs.YtannhfnpigiggaaGreatDoor
namespace Go.Proofs.YtannhfnpigiggaaGreatDoor
set_option linter.unusedSimpArgs false
set_option linter.unusedVariables false
open Go.Lib (decDigits)
theorem decI_len{m:Int}(h : -10000<=m/\m<=10000):(decI m).length<=6:=by
 unfold decI
 split
 ·have:=dec_len_lt 4 m.natAbs (by omega);simp only[List.length_cons];omega
 ·have:=dec_len_lt 4 m.toNat (by omega);omega
theorem ruleF_steps{ts:List Tok}{r:RuleS}(h:ruleF ts=.ok r):∃a m u c,oneF actsL ts=.ok a/\amtF a.1 a.2=.ok m/\tilF m.2=.ok u/\ifF u.2=.ok c/\endT c.2=true/\r=⟨a.1,m.1,u.1,c.1⟩:=by
 unfold ruleF at h
 obtain⟨a,h1,h⟩:=bindE_ok h
 obtain⟨m,h2,h⟩:=bindE_ok h
 obtain⟨u,h3,h⟩:=bindE_ok h
 obtain⟨c,h4,h⟩:=bindE_ok h
 split at h
 ·rename_i he
  injection h with h
  exact⟨a,m,u,c,h1,h2,h3,h4,he,h.symm⟩
 ·cases h
theorem amtF_ok{x:Bs}{ts:List Tok}{m:Int × List Tok}(h:amtF x ts=.ok m) : -10000<=m.1/\m.1<=10000/\wtL m.2<=wtL ts/\(x=yPlus\/x=yMinus\/x=yEq->wtL m.2+16<=wtL ts)/\(¬(x=yPlus\/x=yMinus\/x=yEq)->m.1=0)/\(x≠yEq->0<=m.1):=by
 unfold amtF at h
 split at h
 ·rename_i hx
  obtain⟨n,h1,h⟩:=bindE_ok h
  obtain⟨t,e1,_,e2,_⟩:=numF_cons h1
  injection h with h;subst h
  rw[e1];simp only[wtL,wtT]
  exact⟨by omega,by omega,by omega,fun _=>by omega,fun hn=>absurd (hx.elim .inl (fun g=>.inr (.inl g))) hn,fun _=>by omega⟩
 ·split at h
  ·rename_i hx
   split at h
   ·rename_i hm
    obtain⟨n,h1,h⟩:=bindE_ok h
    obtain⟨t,e1,_,e2,_⟩:=numF_cons h1
    have e3:=isT_tail hm
    rw[e1]at e3
    injection h with h;subst h
    simp only[wtL,wtT]at e3⊢
    exact⟨by omega,by omega,by omega,fun _=>by omega,fun hn=>absurd (.inr (.inr hx)) hn,fun hn=>absurd hx hn⟩
   ·obtain⟨n,h1,h⟩:=bindE_ok h
    obtain⟨t,e1,_,e2,_⟩:=numF_cons h1
    injection h with h;subst h
    rw[e1];simp only[wtL,wtT]
    exact⟨by omega,by omega,by omega,fun _=>by omega,fun hn=>absurd (.inr (.inr hx)) hn,fun hn=>absurd hx hn⟩
  ·rename_i h1 h2
   injection h with h;subst h
   dsimp only
   exact⟨by omega,by omega,by omega,fun hh=>by rcases hh with hh|hh|hh;exact absurd (.inl hh) h1;exact absurd (.inr hh) h1;exact absurd hh h2,fun _=>rfl,fun _=>by omega⟩
theorem tilF_ok{ts:List Tok}{u:Option Nat × List Tok}(h:tilF ts=.ok u):(u=(none,ts)/\isT wUntil ts=false)\/∃n,isT wUntil ts=true/\numF 105190559 ts.tail=.ok n/\n.1<=105190559/\u=(some n.1,n.2):=by
 unfold tilF at h
 split at h
 ·rename_i hu
  obtain⟨n,h1,h⟩:=bindE_ok h
  obtain⟨t,e1,_,e2,_⟩:=numF_cons h1
  injection h with h
  exact .inr ⟨n,hu,h1,e2,h.symm⟩
 ·rename_i hu
  injection h with h
  exact .inl ⟨h.symm,by simpa using hu⟩
theorem ifF_ok{ts:List Tok}{u:Option Cond × List Tok}(h:ifF ts=.ok u):(u=(none,ts)/\isT wIf ts=false)\/∃c,isT wIf ts=true/\condF 32 ts.tail=.ok c/\u=(some c.1,c.2):=by
 unfold ifF at h
 split at h
 ·rename_i hu
  obtain⟨n,h1,h⟩:=bindE_ok h
  injection h with h
  exact .inr ⟨n,hu,h1,h.symm⟩
 ·rename_i hu
  injection h with h
  exact .inl ⟨h.symm,by simpa using hu⟩
theorem acts_len{o:Bs}(h:o∈actsL):o.length<=5:=by
 have:∀x∈actsL,x.length<=5:=by decide
 exact this o h
def tilL(u:Option Nat):Bs:=match u with
 | none=>[]
 | some n=>[32,117,110,116,105,108,32]++decDigits n
def condL(c:Option Cond):Bs:=match c with
 | none=>[]
 | some c=>[32,105,102,32]++printF c
theorem printR_eq(r:RuleS):printR r=r.act++((if r.act=yPlus\/r.act=yMinus\/r.act=yEq then decI r.amt else [])++(tilL r.til++condL r.cond)):=rfl
theorem ruleF_wt{ts:List Tok}{r:RuleS}(h:ruleF ts=.ok r):(printR r).length+1<=wtL ts/\r.til.getD 0<=105190559 ∧ -10000<=r.amt/\r.amt<=10000/\r.act∈actsL/\∀c,r.cond=some c->(printF c).length<=wtL ts:=by
 obtain⟨a,m,u,c,h1,h2,h3,h4,h5,rfl⟩:=ruleF_steps h
 obtain⟨t0,a1,a2,a3,_⟩:=oneF_cons h1
 obtain⟨b1,b2,b3,b4,b5,_⟩:=amtF_ok h2
 have la:=acts_len a3
 have ld:=decI_len ⟨b1,b2⟩
 have hc:(condL c.1).length+1<=1+wtL u.2/\∀x,c.1=some x->(printF x).length<=wtL u.2:=by
  rcases ifF_ok h4 with⟨rfl,_⟩|⟨x,g1,g2,rfl⟩
  ·exact⟨by simp[condL],fun x e=>by cases e⟩
  ·have e3:=isT_tail g1
   have e4:=cond_wt _ _ _ g2
   have l1:wIf.length=2:=rfl
   simp only[condL,List.length_append,List.length_cons,List.length_nil]
   refine⟨by omega,fun y e=>?_⟩
   injection e with e;subst e;omega
 have hu:(tilL u.1).length+wtL u.2<=wtL m.2/\u.1.getD 0<=105190559:=by
  rcases tilF_ok h3 with⟨rfl,_⟩|⟨n,g1,g2,g3,rfl⟩
  ·exact⟨by simp[tilL],by simp⟩
  ·have e3:=isT_tail g1
   obtain⟨t,e1,_⟩:=numF_cons g2
   rw[e1]at e3
   have d:=dec_len_lt 8 n.1 (by omega)
   have l1:wUntil.length=5:=rfl
   simp only[wtL,wtT]at e3
   simp only[tilL,List.length_append,List.length_cons,List.length_nil,Option.getD_some]
   exact⟨by omega,g3⟩
 rw[a1]
 simp only[wtL,wtT,a2]
 refine⟨?_,hu.2,b1,b2,a3,fun x e=>by have:=hc.2 x e;omega⟩
 rw[printR_eq]
 simp only[List.length_append]
 have h6:(if a.1=yPlus\/a.1=yMinus\/a.1=yEq then decI m.1 else []).length+wtL m.2<=wtL a.2:=by
  by_cases hx:a.1=yPlus\/a.1=yMinus\/a.1=yEq
  ·have:=b4 hx
   rw[if_pos hx];omega
  ·rw[if_neg hx];simpa using b3
 omega
theorem unescQ_len:∀(n:Nat) (L:Bs) (i:Nat),L.length<=n->(unescQ L i).1.length<=L.length
 | _, [],i,_=>by simp[unescQ]
 | 0,c::r,i,h=>by simp at h
 | n+1,c::r,i,h=>by
  simp only[List.length_cons]at h
  unfold unescQ
  split
  ·split
   ·simp
   ·rename_i d r'
    split
    ·have:=unescQ_len n r' (i+2) (by simp only[List.length_cons]at h;omega)
     simp only[List.length_cons];omega
    ·simp
  ·have:=unescQ_len n r (i+1) (by omega)
   simp only[List.length_cons];omega
theorem tok_wt{L:Bs}{col:Nat}{x:Tok × Nat}(h:tokT L col=.ok x):wtT x.1<=18*x.2:=by
 have hl:=tok_len h
 cases L with
 | nil=>cases h
 | cons c r =>
  unfold tokT at h
  simp only at h
  split at h
  ·injection h with h;subst h
   simp only[wtT]at hl⊢;omega
  ·split at h
   ·split at h
    ·cases h
    ·injection h with h;subst h
     simp only[wtT,List.length_nil]at hl⊢;omega
   ·split at h
    ·unfold strT at h
     split at h
     ·cases h
     ·rename_i e he
      simp only at h
      split at h
      ·cases h
      ·split at h
       ·cases h
       ·split at h
        ·cases h
        ·injection h with h;subst h
         have:=unescQ_len _ (((c::r).take e).drop 1) 1 (Nat.le_refl _)
         have h2:(((c::r).take e).drop 1).length<=e:=by rw[List.length_drop,List.length_take];omega
         simp only[wtT]at hl⊢
         omega
    ·unfold symT at h
     split at h
     ·rename_i s hs
      injection h with h;subst h
      simp only[wtT]at hl⊢;omega
     ·cases h
theorem toksG_wt:∀(g:Nat) (rest:Bs) (i:Nat) (l:List Tok),toksG g rest i=.ok l->wtL l<=18*rest.length+16
 | 0,rest,i,l,h=>by
  unfold toksG at h
  injection h with h;subst h;simp[wtL,wtT]
 | g+1, [],i,l,h=>by
  unfold toksG at h
  injection h with h;subst h;simp[wtL,wtT]
 | g+1,c::r,i,l,h=>by
  unfold toksG at h
  simp only at h
  split at h
  ·have:=toksG_wt g r (i+1) l h
   simp only[List.length_cons];omega
  ·split at h
   ·cases h
   ·rename_i t n ht
    split at h
    ·cases h
    ·rename_i l2 hl2
     injection h with h;subst h
     have hl:=tok_len ht
     have hw:=tok_wt ht
     have:=toksG_wt g _ _ _ hl2
     simp only[List.length_cons]at hl
     simp only[wtL,List.length_drop,List.length_cons]at this hw⊢
     omega
theorem lineF_ok{L:Bs}{n:Nat}{r:RuleS}(h:lineF L n=.ok r):n<200/\∃ts,toksF L=.ok ts/\ruleF ts=.ok r:=by
 unfold lineF at h
 obtain⟨ts,h1,h⟩:=bindE_ok h
 split at h
 ·cases h
 ·exact⟨by omega,ts,h1,h⟩
theorem lineF_wt{L:Bs}{n:Nat}{r:RuleS}(h:lineF L n=.ok r):(printR r).length+1<=18*L.length+16:=by
 obtain⟨_,ts,h1,h2⟩:=lineF_ok h
 have:=toksG_wt _ _ _ _ h1
 have:=ruleF_wt h2
 omega
def lensL:List Bs->Nat
 | []=>0
 | x::r=>x.length+1+lensL r
theorem rulesG_wt:∀(ls:List Bs) (i n:Nat) (l:List RuleS),rulesG ls i n=.ok l->(printRs l).length<=18*lensL ls
 | [],i,n,l,h=>by unfold rulesG at h;injection h with h;subst h;simp[printRs]
 | x::r,i,n,l,h=>by
  unfold rulesG at h
  split at h
  ·have:=rulesG_wt r (i+1) n l h
   simp only[lensL];omega
  ·split at h
   ·cases h
   ·rename_i a ha
    split at h
    ·cases h
    ·rename_i l2 hl2
     injection h with h;subst h
     have h1:=rulesG_wt r (i+1) (n+1) l2 hl2
     have h2:=lineF_wt ha
     have e:printRs (a::l2)=(printR a ++ [10])++printRs l2:=by simp[printRs]
     rw[e]
     simp only[lensL,List.length_append,List.length_cons,List.length_nil]at h1 h2⊢
     omega
theorem rulesG_few:∀(ls:List Bs) (i n:Nat) (l:List RuleS),n<=200->rulesG ls i n=.ok l->n+l.length<=200
 | [],i,n,l,hn,h=>by unfold rulesG at h;injection h with h;subst h;simpa using hn
 | x::r,i,n,l,hn,h=>by
  unfold rulesG at h
  split at h
  ·exact rulesG_few r (i+1) n l hn h
  ·split at h
   ·cases h
   ·rename_i a ha
    split at h
    ·cases h
    ·rename_i l2 hl2
     injection h with h;subst h
     have h1:=rulesG_few r (i+1) (n+1) l2 (by have:=(lineF_ok ha).1;omega) hl2
     simp only[List.length_cons];omega
end Go.Proofs.YtannhfnpigiggaaGreatDoor
namespace Go.Proofs.YtannhfnpigiggaaGreatDoor
set_option linter.unusedSimpArgs false
set_option linter.unusedVariables false
theorem bindE_err{α β:Type}{x:Except Fl α}{k:α->Except Fl β}{f:Fl}(h:bindE x k=.error f):x=.error f\/∃a,x=.ok a/\k a=.error f:=by
 cases x with
 | error g=>exact .inl (by injection h with h;rw[h])
 | ok a=>exact .inr ⟨a,rfl,h⟩
def Nz{α:Type}(p:Pr α):Prop := ∀ts f,p ts=.error f->f.2≠0
theorem nz_one(l:List Bs):Nz (oneF l):=by
 intro ts f h
 cases ts with
 | nil=>injection h with h;subst h;simp
 | cons t r =>
  unfold oneF at h
  simp only at h
  split at h
  ·cases h
  ·injection h with h;subst h;simp
theorem nz_num(m:Nat):Nz (numF m):=by
 intro ts f h
 cases ts with
 | nil=>injection h with h;subst h;simp
 | cons t r =>
  unfold numF at h
  simp only at h
  split at h
  ·injection h with h;subst h;simp
  ·split at h
   ·injection h with h;subst h;simp
   ·cases h
theorem nz_quo:Nz quoF:=by
 intro ts f h
 cases ts with
 | nil=>injection h with h;subst h;simp
 | cons t r =>
  unfold quoF at h
  simp only at h
  split at h
  ·injection h with h;subst h;simp
  ·cases h
theorem nz_who:Nz whoF:=by
 intro ts f h
 rw[whoF_eq]at h
 rcases bindE_err h with h|⟨a,_,h⟩
 ·exact nz_one _ _ _ h
 rcases bindE_err h with h|⟨b,_,h⟩
 ·exact nz_one _ _ _ h
 rcases bindE_err h with h|⟨c,_,h⟩
 ·exact nz_quo _ _ h
 split at h
 ·split at h
  ·injection h with h;subst h;simp
  ·cases h
 ·split at h
  ·cases h
  ·injection h with h;subst h;simp
theorem nz_test:Nz testF:=by
 intro ts f h
 cases ts with
 | nil=>injection h with h;subst h;simp
 | cons t r =>
  unfold testF at h
  simp only at h
  split at h
  ·injection h with h;subst h;simp
  ·split at h
   ·rcases bindE_err h with h|⟨a,_,h⟩
    ·exact nz_one _ _ _ h
    rcases bindE_err h with h|⟨b,_,h⟩
    ·exact nz_num _ _ _ h
    cases h
   ·split at h
    ·rcases bindE_err h with h|⟨a,_,h⟩
     ·exact nz_one _ _ _ h
     rcases bindE_err h with h|⟨b,_,h⟩
     ·exact nz_quo _ _ h
     cases h
    ·exact nz_who _ _ h
theorem nz_more(word:Bs){p:Pr Cond}(hp:Nz p):∀g,Nz (moreF word p g)
 | 0,ts,f,h=>by unfold moreF at h;cases h
 | g+1,ts,f,h=>by
  unfold moreF at h
  split at h
  ·rcases bindE_err h with h|⟨a,_,h⟩
   ·exact hp _ _ h
   rcases bindE_err h with h|⟨b,_,h⟩
   ·exact nz_more word hp g _ _ h
   cases h
  ·cases h
theorem nz_list(word:Bs)(mk:List Cond->Cond){p:Pr Cond}(hp:Nz p):Nz (listC word mk p):=by
 intro ts f h
 unfold listC at h
 rcases bindE_err h with h|⟨a,_,h⟩
 ·exact hp _ _ h
 rcases bindE_err h with h|⟨b,_,h⟩
 ·exact nz_more word hp _ _ _ h
 cases h
theorem nz_single:∀n,Nz (singleF n)
 | n,ts,f,h=>by
  unfold singleF at h
  split at h
  ·exact nz_test _ _ h
  ·cases n with
   | zero=>injection h with h;subst h;simp
   | succ n =>
    simp only at h
    split at h
    ·rcases bindE_err h with h|⟨a,_,h⟩
     ·exact nz_single n _ _ h
     cases h
    ·rcases bindE_err h with h|⟨a,_,h⟩
     ·exact nz_list _ _ (nz_list _ _ (nz_single n)) _ _ h
     rcases bindE_err h with h|⟨b,_,h⟩
     ·exact nz_one _ _ _ h
     cases h
theorem nz_rule:∀ts f,ruleF ts=.error f->f.2≠0:=by
 intro ts f h
 unfold ruleF at h
 rcases bindE_err h with h|⟨a,_,h⟩
 ·exact nz_one _ _ _ h
 rcases bindE_err h with h|⟨b,_,h⟩
 ·unfold amtF at h
  split at h
  ·rcases bindE_err h with h|⟨c,_,h⟩
   ·exact nz_num _ _ _ h
   cases h
  ·split at h
   ·split at h
    ·rcases bindE_err h with h|⟨c,_,h⟩
     ·exact nz_num _ _ _ h
     cases h
    ·rcases bindE_err h with h|⟨c,_,h⟩
     ·exact nz_num _ _ _ h
     cases h
   ·cases h
 rcases bindE_err h with h|⟨c,_,h⟩
 ·unfold tilF at h
  split at h
  ·rcases bindE_err h with h|⟨d,_,h⟩
   ·exact nz_num _ _ _ h
   cases h
  ·cases h
 rcases bindE_err h with h|⟨d,_,h⟩
 ·unfold ifF at h
  split at h
  ·rcases bindE_err h with h|⟨e,_,h⟩
   ·exact nz_list _ _ (nz_list _ _ (nz_single 32)) _ _ h
   cases h
  ·cases h
 split at h
 ·cases h
 ·injection h with h;subst h;simp
theorem nz_tok{L:Bs}{col:Nat}{f:Fl}(h:tokT L col=.error f):f.2≠0:=by
 unfold tokT at h
 split at h
 ·injection h with h;subst h;simp
 ·split at h
  ·cases h
  ·split at h
   ·split at h
    ·rename_i hn
     injection h with h;subst h;exact hn
    ·cases h
   ·split at h
    ·unfold strT at h
     split at h
     ·injection h with h;subst h;simp
     ·simp only at h
      split at h
      ·injection h with h;subst h;simp
      ·split at h
       ·injection h with h;subst h;simp
       ·split at h
        ·injection h with h;subst h;simp
        ·cases h
    ·unfold symT at h
     split at h
     ·cases h
     ·injection h with h;subst h;simp
theorem nz_toks:∀(g:Nat) (L:Bs) (i:Nat) (f:Fl),toksG g L i=.error f->f.2≠0
 | 0,L,i,f,h=>by unfold toksG at h;cases h
 | g+1, [],i,f,h=>by unfold toksG at h;cases h
 | g+1,c::r,i,f,h=>by
  unfold toksG at h
  simp only at h
  split at h
  ·exact nz_toks g r (i+1) f h
  ·split at h
   ·rename_i ht
    injection h with h;subst h;exact nz_tok ht
   ·split at h
    ·rename_i hh
     injection h with h;subst h;exact nz_toks g _ _ _ hh
    ·cases h
theorem nz_line{L:Bs}{n:Nat}{f:Fl}(h:lineF L n=.error f):f.2≠0:=by
 unfold lineF at h
 rcases bindE_err h with h|⟨ts,_,h⟩
 ·exact nz_toks _ _ _ _ h
 ·split at h
  ·injection h with h;subst h;simp
  ·exact nz_rule _ _ h
end Go.Proofs.YtannhfnpigiggaaGreatDoor
namespace Go.Proofs.YtannhfnpigiggaaGreatDoor
set_option linter.unusedSimpArgs false
set_option linter.unusedVariables false
open Go.Lib (decDigits)
def kT1:Bs := [43,49,48,32,105,102,32,115,117,98,106,101,99,116,32,104,97,115,32,34,103,111,34,32,97,110,100,32,110,111,116,32,40,97,103,101,32,62,32,49,52,52,48,32,111,114,32,108,105,110,101,115,32,60,32,51,41,10]
def kT2:Bs := [107,105,108,108,32,105,102,32,40,40,110,97,109,101,32,105,115,32,34,120,34,41,41]
def kT3:Bs := [10,35,32,120,10,107,105,108]
def kT4:Bs := [43,53,32,105,102]
def kP2:Bs := [107,105,108,108,32,105,102,32,110,97,109,101,32,105,115,32,34,120,34,10]
def kL1:List RuleS := [⟨[43],10,none,some (.both [.txt wSubject wHas [103,111],.neg (.either [.cmp wAge [62] 1440,.cmp wLines [60] 3])])⟩]
def kL2:List RuleS := [⟨wKill,0,none,some (.txt wName wIs [120])⟩]
def kX:InS:=⟨[], [71,111,112,104,101,114,115], [],List.replicate 16 0, [],5,0,9,0,0⟩
theorem kn1:parseG kT1=.ok kL1:=by kernel_rfl
theorem kn2:parseG kT2=.ok kL2:=by kernel_rfl
theorem kn3:parseG kT3=.error (3,1,29):=by kernel_rfl
theorem kn4:parseG kT4=.error (1,6,29):=by kernel_rfl
theorem kd10:decDigits 10=[49,48]:=dec_val [49,48] (by decide)
theorem kd1440:decDigits 1440=[49,52,52,48]:=dec_val [49,52,52,48] (by decide)
theorem kd3:decDigits 3=[51]:=dec_val [51] (by decide)
theorem kpr1:printRs kL1=kT1:=by
 have e:printRs kL1=printR kL1[0] ++ [10]:=by simp[printRs,kL1]
 rw[e]
 simp[kL1,printR,printF,printAnd,printOr,isOr,isList,decI,kd10,kd1440,kd3]
 decide
theorem kpr2:printRs kL2=kP2:=by kernel_rfl
theorem krt:rateF kL1 kX=⟨10,false,false,1⟩:=by kernel_rfl
end Go.Proofs.YtannhfnpigiggaaGreatDoor
namespace Go.Proofs.YtannhfnpigiggaaGreatDoor
set_option linter.unusedSimpArgs false
set_option linter.unusedVariables false
def TkG(ts:List Tok):Prop := ∀t∈ts,t.kind=3->TxtOk t.text
theorem TkG.tail{ts:List Tok}(h:TkG ts):TkG ts.tail:=fun t ht=>h t (List.mem_of_mem_tail ht)
theorem TkG.cons{t:Tok}{r:List Tok}(h:TkG (t::r)):TkG r:=fun x hx=>h x (List.mem_cons_of_mem _ hx)
def OkP{α:Type}(P:α->Prop)(p:Pr α):Prop := ∀ts a,TkG ts->p ts=.ok a->P a.1/\TkG a.2
def Ps(n:Nat)(c:Cond):Prop:=Gd c/\depC c<=n/\(isList c=true->depC c+1<=n)
def Pb(n:Nat)(c:Cond):Prop:=Gd c/\depC c<=n/\(isOr c=true->depC c+1<=n)
def Po(n:Nat)(c:Cond):Prop:=Gd c/\depC c<=n
theorem Ps.b{n:Nat}{c:Cond}(h:Ps n c):Pb n c:=⟨h.1,h.2.1,fun e=>h.2.2 (by cases c<;>first|rfl|cases e)⟩
theorem Pb.o{n:Nat}{c:Cond}(h:Pb n c):Po n c:=⟨h.1,h.2.1⟩
theorem depA_le{n:Nat} : ∀l:List Cond,(∀c∈l,Ps n c)->depA l<=n
 | [],_=>by rw[depA];omega
 | c::r,h=>by
  have h1:=h c (by simp)
  have h2:=depA_le r (fun x hx=>h x (by simp[hx]))
  have h3:=h1.b.2.2
  have h4:=h1.2.1
  rw[depA]
  cases e:isOr c
  ·simp only[Bool.false_eq_true,if_false];omega
  ·have:=h3 e
   simp only[if_true];omega
theorem depO_le{n:Nat} : ∀l:List Cond,(∀c∈l,Pb n c)->depO l<=n
 | [],_=>by rw[depO];omega
 | c::r,h=>by
  have h1:=(h c (by simp)).2.1
  have h2:=depO_le r (fun x hx=>h x (by simp[hx]))
  rw[depO];omega
theorem oneF_tk{l:List Bs} : OkP (fun x=>x∈l) (oneF l):=fun ts a h e=>by
 obtain⟨t,e1,_,e3,_⟩:=oneF_cons e
 rw[e1]at h
 exact⟨e3,h.cons⟩
theorem numF_tk{m:Nat} : OkP (fun x=>x<=m) (numF m):=fun ts a h e=>by
 obtain⟨t,e1,_,e3,_⟩:=numF_cons e
 rw[e1]at h
 exact⟨e3,h.cons⟩
theorem quoF_tk:OkP (fun x=>TxtOk x.text) quoF:=fun ts a h e=>by
 obtain⟨e1,e2⟩:=quoF_cons e
 rw[e1]at h
 exact⟨h a.1 (by simp) e2,h.cons⟩
theorem testF_ps(n:Nat):OkP (Ps n) testF:=fun ts a h e=>by
 rcases testF_cases e with⟨t,o,m,hk,h1,ho,hm,_,rfl⟩|⟨t,m,q,hk,_,h1,hm,hq,_,rfl⟩|⟨t,f,i,q,_,hk,_,_,hf,hi,hq,h2,h3⟩
 ·have g1:=oneF_tk _ _ h.tail ho
  have g2:=numF_tk _ _ g1.2 hm
  exact⟨⟨by rw[Gd];exact⟨h1,g1.1,g2.1⟩,by rw[depC];omega,fun e=>by cases e⟩,g2.2⟩
 ·have g1:=oneF_tk _ _ h.tail hm
  have g2:=quoF_tk _ _ g1.2 hq
  exact⟨⟨by rw[Gd];exact⟨h1,g1.1,g2.1⟩,by rw[depC];omega,fun e=>by cases e⟩,g2.2⟩
 ·have g1:=oneF_tk _ _ h hf
  have g2:=oneF_tk _ _ g1.2 hi
  have g3:=quoF_tk _ _ g2.2 hq
  rw[h2]
  rcases h3 with⟨_,h4,h5⟩|⟨_,h4,h5⟩
  ·rw[h5];exact⟨⟨by rw[Gd];exact⟨h4,g3.1⟩,by rw[depC];omega,fun e=>by cases e⟩,g3.2⟩
  ·rw[h5];exact⟨⟨by rw[Gd];exact⟨h4,g3.1⟩,by rw[depC];omega,fun e=>by cases e⟩,g3.2⟩
theorem more_ok{P:Cond->Prop}{word:Bs}{p:Pr Cond}(hp:OkP P p):∀g,OkP (fun l=>∀c∈l,P c) (moreF word p g)
 | 0,ts,a,h,e=>by unfold moreF at e;injection e with e;rw[<-e];exact⟨fun c hc=>(by cases hc),h⟩
 | g+1,ts,a,h,e=>by
  unfold moreF at e
  split at e
  ·obtain⟨x,h1,e⟩:=bindE_ok e
   obtain⟨y,h2,e⟩:=bindE_ok e
   have e1:=hp _ _ h.tail h1
   have e2:=more_ok hp g _ _ e1.2 h2
   injection e with e;rw[<-e]
   refine⟨fun c hc=>?_,e2.2⟩
   rcases List.mem_cons.1 hc with rfl|hc
   ·exact e1.1
   ·exact e2.1 c hc
  ·injection e with e;rw[<-e];exact⟨fun c hc=>(by cases hc),h⟩
theorem both_ps{n:Nat}{p:Pr Cond}(hp:OkP (Ps n) p):OkP (Pb n) (bothF p):=fun ts a h e=>by
 unfold bothF listC at e
 obtain⟨x,h1,e⟩:=bindE_ok e
 obtain⟨y,h2,e⟩:=bindE_ok e
 have e1:=hp _ _ h h1
 have e2:=more_ok hp _ _ _ e1.2 h2
 injection e with e;rw[<-e]
 refine⟨?_,e2.2⟩
 have h3:=e2.1
 rcases hy:y.1 with _|⟨d,r⟩
 ·exact e1.1.b
 ·rw[hy]at h3
  have h4:∀c∈x.1::d::r,Ps n c:=fun c hc=>by
   rcases List.mem_cons.1 hc with rfl|hc
   ·exact e1.1
   ·exact h3 c hc
  simp only[joinC]
  exact⟨by rw[Gd,GdL_iff];exact⟨by simp,fun c hc=>(h4 c hc).1⟩,by rw[depC];exact depA_le _ h4,fun e=>by cases e⟩
theorem or_po{n:Nat}{p:Pr Cond}(hp:OkP (Ps n) p):OkP (Po n) (orF p):=fun ts a h e=>by
 unfold orF listC at e
 obtain⟨x,h1,e⟩:=bindE_ok e
 obtain⟨y,h2,e⟩:=bindE_ok e
 have e1:=both_ps hp _ _ h h1
 have e2:=more_ok (both_ps hp) _ _ _ e1.2 h2
 injection e with e;rw[<-e]
 refine⟨?_,e2.2⟩
 have h3:=e2.1
 rcases hy:y.1 with _|⟨d,r⟩
 ·exact e1.1.o
 ·rw[hy]at h3
  have h4:∀c∈x.1::d::r,Pb n c:=fun c hc=>by
   rcases List.mem_cons.1 hc with rfl|hc
   ·exact e1.1
   ·exact h3 c hc
  simp only[joinC]
  exact⟨by rw[Gd,GdL_iff];exact⟨by simp,fun c hc=>(h4 c hc).1⟩,by rw[depC];exact depO_le _ h4⟩
theorem single_ps:∀n,OkP (Ps n) (singleF n)
 | n,ts,a,h,e=>by
  unfold singleF at e
  split at e
  ·exact testF_ps n _ _ h e
  ·cases n with
   | zero=>cases e
   | succ n =>
    simp only at e
    split at e
    ·obtain⟨x,h1,e⟩:=bindE_ok e
     have e1:=single_ps n _ _ h.tail h1
     injection e with e;rw[<-e]
     refine⟨⟨by rw[Gd];exact e1.1.1,?_,fun e=>by cases e⟩,e1.2⟩
     have h2:=e1.1.2.1
     have h3:=e1.1.2.2
     rw[depC]
     cases e:isList x.1
     ·simp only[Bool.false_eq_true,if_false];omega
     ·have:=h3 e
      simp only[if_true];omega
    ·obtain⟨x,h1,e⟩:=bindE_ok e
     obtain⟨y,h2,e⟩:=bindE_ok e
     have e1:=or_po (single_ps n) _ _ h.tail h1
     have e2:=oneF_tk _ _ e1.2 h2
     injection e with e;rw[<-e]
     have h3:=e1.1.2
     exact⟨⟨e1.1.1,Nat.le_succ_of_le h3,fun _=>Nat.succ_le_succ h3⟩,e2.2⟩
theorem cond_po(n:Nat):OkP (Po n) (condF n):=or_po (single_ps n)
abbrev Es:=Nat × Bs × Nat
def eLp:Es:=(4,yLp,0)
def eRp:Es:=(4,yRp,0)
def eW(w:Bs):Es:=(1,w,0)
mutual
def tC:Cond->List Es
 | .either l=>tO l
 | .both l=>tA l
 | .neg c=>eW wNot::(if isList c then eLp::(tC c ++ [eRp]) else tC c)
 | .cmp f op n=>[(1,f,0),(4,op,0),(2, [],n)]
 | .txt f m t=>[(1,f,0),(1,m,0),(3,t,0)]
 | .auth t=>[eW wAuthor,eW wIs,(3,t,0)]
 | .grp t=>[eW wGroup,eW wIs,(3,t,0)]
def tO:List Cond->List Es
 | []=>[]
 | c::r=>tC c++tOr r
def tOr:List Cond->List Es
 | []=>[]
 | c::r=>eW wOr::(tC c++tOr r)
def tA:List Cond->List Es
 | []=>[]
 | c::r=>(if isOr c then eLp::(tC c ++ [eRp]) else tC c)++tAr r
def tAr:List Cond->List Es
 | []=>[]
 | c::r=>eW wAnd::((if isOr c then eLp::(tC c ++ [eRp]) else tC c)++tAr r)
end
def tP(c:Cond):List Es:=if isOr c then eLp::(tC c ++ [eRp]) else tC c
def tMore(word:Bs)(tk:Cond->List Es):List Cond->List Es
 | []=>[]
 | c::r=>eW word::(tk c++tMore word tk r)
theorem tOr_more:∀l,tOr l=tMore wOr tC l
 | []=>by rw[tOr];rfl
 | c::r=>by rw[tOr,tOr_more r];rfl
theorem tAr_more:∀l,tAr l=tMore wAnd tP l
 | []=>by rw[tAr];rfl
 | c::r=>by rw[tAr,tAr_more r];rfl
theorem tMore_len(word:Bs)(tk:Cond->List Es):∀l:List Cond,l.length<=(tMore word tk l).length
 | []=>Nat.zero_le _
 | c::r=>by
  have:=tMore_len word tk r
  simp only[tMore,List.length_cons,List.length_append];omega
def Rd(p:Pr Cond)(W:List Tok->Prop)(tk:Cond->List Es)(c:Cond):Prop := ∀us r,us.map ess=tk c->W r->p (us++r)=.ok (c,r)
theorem ess_app{us:List Tok}{a b:List Es}(h:us.map ess=a++b):∃u v,us=u++v/\u.map ess=a/\v.map ess=b:=List.map_eq_append_iff.1 h
theorem ess_cons{us:List Tok}{a:Es}{b:List Es}(h:us.map ess=a::b):∃u v,us=u::v/\ess u=a/\v.map ess=b:=List.map_eq_cons_iff.1 h
theorem ess_parts{t:Tok}{k n:Nat}{x:Bs}(h:ess t=(k,x,n)):t.kind=k/\t.text=x/\t.num=n:=by
 unfold ess at h;injection h with h1 h;injection h with h2 h3;exact⟨h1,h2,h3⟩
theorem isT_word{t:Tok}{w x:Bs}{r:List Tok}(h:ess t=eW w):isT x (t::r)=(w==x):=by
 obtain⟨h1,h2,_⟩:=ess_parts h
 simp[isT,h1,h2]
theorem isT_sym{t:Tok}{w x:Bs}{r:List Tok}(h:ess t=(4,w,0)):isT x (t::r)=(w==x):=by
 obtain⟨h1,h2,_⟩:=ess_parts h
 simp[isT,h1,h2]
theorem more_rd{word:Bs}{p:Pr Cond}{W:List Tok->Prop}{tk:Cond->List Es}(hW:∀t r,ess t=eW word->W (t::r)):∀(l:List Cond) (g:Nat) (us r:List Tok),(∀c∈l,Rd p W tk c)->l.length<=g->us.map ess=tMore word tk l->W r->isT word r=false->moreF word p g (us++r)=.ok (l,r)/\W (us++r)
 | [],g,us,r,_,_,h,hr,hs=>by
  have:us=[]:=by simpa[tMore] using h
  subst this
  exact⟨more_stop hs g,hr⟩
 | c::l,0,us,r,_,hg,_,_,_=>by simp at hg
 | c::l,g+1,us,r,hp,hg,h,hr,hs=>by
  obtain⟨t,us1,rfl,ht,h⟩:=ess_cons h
  obtain⟨u,v,rfl,hu,hv⟩:=ess_app h
  have ih:=more_rd hW l g v r (fun x hx=>hp x (by simp[hx])) (by simp only[List.length_cons]at hg;omega) hv hr hs
  have h1:=hp c (by simp) u (v++r) hu ih.2
  refine⟨?_,by rw[List.cons_append];exact hW _ _ ht⟩
  unfold moreF
  rw[List.cons_append,isT_word ht,if_pos (by simp),List.tail_cons,List.append_assoc,bindE_is h1]
  simp only
  rw[bindE_is ih.1]
theorem list_rd{word:Bs}{mk:List Cond->Cond}{p:Pr Cond}{W:List Tok->Prop}{tk:Cond->List Es}(hW:∀t r,ess t=eW word->W (t::r)){c d:Cond}{l:List Cond}(hp:∀x∈c::d::l,Rd p W tk x){us r:List Tok}(h:us.map ess=tk c++tMore word tk (d::l))(hr:W r)(hs:isT word r=false) :
  listC word mk p (us++r)=.ok (mk (c::d::l),r):=by
 obtain⟨u,v,rfl,hu,hv⟩:=ess_app h
 have hlen:(d::l).length<=(v++r).length:=by
  have h1:=tMore_len word tk (d::l)
  have h2:v.length=(tMore word tk (d::l)).length:=by rw[<-hv,List.length_map]
  rw[List.length_append];omega
 have h2:=more_rd hW (d::l) (v++r).length v r (fun x hx=>hp x (List.mem_cons_of_mem _ hx)) hlen hv hr hs
 have h1:=hp c (by simp) u (v++r) hu h2.2
 unfold listC
 rw[List.append_assoc,bindE_is h1]
 simp only
 rw[bindE_is h2.1]
 rfl
theorem list_one{word:Bs}{mk:List Cond->Cond}{p:Pr Cond}{W:List Tok->Prop}{tk:Cond->List Es}{c:Cond}(hp:Rd p W tk c){us r:List Tok}(h:us.map ess=tk c)(hr:W r)(hs:isT word r=false):listC word mk p (us++r)=.ok (c,r):=by
 have h1:=hp us r h hr
 unfold listC
 rw[bindE_is h1]
 simp only
 rw[bindE_is (more_stop hs _)]
 rfl
theorem one_rd{l:List Bs}{t:Tok}{x:Bs}{k:Nat}(r:List Tok)(ht:ess t=(k,x,0))(hk:k=1\/k=4)(hx:x∈l):oneF l (t::r)=.ok (x,r):=by
 obtain⟨h1,h2,_⟩:=ess_parts ht
 unfold oneF
 simp only
 rw[if_pos,h2]
 rw[List.any_eq_true]
 refine⟨x,hx,?_⟩
 unfold isT
 simp only
 rw[h1,h2]
 rcases hk with rfl|rfl<;>simp
theorem num_rd{m:Nat}{t:Tok}{n:Nat}(r:List Tok)(ht:ess t=(2, [],n))(hn:n<=m):numF m (t::r)=.ok (n,r):=by
 obtain⟨h1,_,h3⟩:=ess_parts ht
 unfold numF
 simp only
 rw[h1,h3,if_neg (by simp),if_neg (by omega)]
theorem quo_rd{t:Tok}{x:Bs}(r:List Tok)(ht:ess t=(3,x,0)):quoF (t::r)=.ok (t,r)/\t.text=x:=by
 obtain⟨h1,h2,_⟩:=ess_parts ht
 unfold quoF
 simp only
 rw[h1,if_neg (by simp)]
 exact⟨rfl,h2⟩
theorem leaf_single{n:Nat}{t:Tok}{r:List Tok}{f:Bs}(ht:ess t=(1,f,0))(h1:(f==wNot)=false)(h2:(f==yLp)=false):singleF n (t::r)=testF (t::r):=by
 have e1:isT wNot (t::r)=false:=by rw[isT_word (w:=f) ht];exact h1
 have e2:isT yLp (t::r)=false:=by rw[isT_word (w:=f) ht];exact h2
 unfold singleF
 rw[e1,e2]
 rfl
def Any(_:List Tok):Prop:=True
theorem cmp_rd{n:Nat}{f op:Bs}{k:Nat}(h:Gd (.cmp f op k)):Rd (singleF n) Any tC (.cmp f op k):=by
 intro us r hu _
 rw[Gd]at h
 rw[tC]at hu
 obtain⟨t1,u1,rfl,e1,hu⟩:=ess_cons hu
 obtain⟨t2,u2,rfl,e2,hu⟩:=ess_cons hu
 obtain⟨t3,u3,rfl,e3,hu⟩:=ess_cons hu
 have:u3=[]:=by simpa using hu
 subst this
 have hf:(f==wNot)=false/\(f==yLp)=false:=by
  have h1:=h.1
  simp only[numFs,List.mem_cons,List.not_mem_nil,or_false]at h1
  rcases h1 with rfl|rfl|rfl|rfl|rfl<;>exact⟨rfl,rfl⟩
 obtain⟨k1,k2,_⟩:=ess_parts e1
 simp only[List.cons_append,List.nil_append]
 rw[leaf_single e1 hf.1 hf.2]
 unfold testF
 simp only
 rw[k1,k2,if_neg (by simp),if_pos h.1,bindE_is (one_rd _ e2 (.inr rfl) h.2.1)]
 simp only
 rw[bindE_is (num_rd _ e3 h.2.2)]
theorem txt_rd{n:Nat}{f m t:Bs}(h:Gd (.txt f m t)):Rd (singleF n) Any tC (.txt f m t):=by
 intro us r hu _
 rw[Gd]at h
 rw[tC]at hu
 obtain⟨t1,u1,rfl,e1,hu⟩:=ess_cons hu
 obtain⟨t2,u2,rfl,e2,hu⟩:=ess_cons hu
 obtain⟨t3,u3,rfl,e3,hu⟩:=ess_cons hu
 have:u3=[]:=by simpa using hu
 subst this
 have hf:(f==wNot)=false/\(f==yLp)=false/\f∉numFs:=by
  have h1:=h.1
  simp only[txtFs,List.mem_cons,List.not_mem_nil,or_false]at h1
  rcases h1 with rfl|rfl|rfl<;>exact⟨rfl,rfl,by decide⟩
 obtain⟨k1,k2,_⟩:=ess_parts e1
 obtain⟨q1,q2⟩:=quo_rd r e3
 simp only[List.cons_append,List.nil_append]
 rw[leaf_single e1 hf.1 hf.2.1]
 unfold testF
 simp only
 rw[k1,k2,if_neg (by simp),if_neg hf.2.2,if_pos h.1,bindE_is (one_rd _ e2 (.inl rfl) h.2.1)]
 simp only
 rw[bindE_is q1,q2]
theorem who_start{us:List Tok}{w t:Bs}(h:us.map ess=[eW w,eW wIs,(3,t,0)]):∃t1 t2 t3,us=[t1,t2,t3]/\ess t1=(1,w,0)/\ess t2=(1,wIs,0)/\ess t3=(3,t,0):=by
 obtain⟨t1,u1,rfl,e1,h⟩:=ess_cons h
 obtain⟨t2,u2,rfl,e2,h⟩:=ess_cons h
 obtain⟨t3,u3,rfl,e3,h⟩:=ess_cons h
 have:u3=[]:=by simpa using h
 subst this
 exact⟨t1,t2,t3,rfl,e1,e2,e3⟩
theorem who_rd{n:Nat}{w t:Bs}{t1 t2 t3:Tok}(r:List Tok)(e1:ess t1=(1,w,0))(e2:ess t2=(1,wIs,0))(e3:ess t3=(3,t,0))(hw:w∈([wAuthor,wGroup]:List Bs)) :
  singleF n ([t1,t2,t3]++r)=if w=wGroup then (if (compF t).2.2≠0 then .error (t3.col,3) else .ok (.grp t,r)) else (if authB t then .ok (.auth t,r) else .error (t3.col,3)):=by
 have hf:(w==wNot)=false/\(w==yLp)=false/\w∉numFs/\w∉txtFs:=by
  have h1:=hw
  simp only[List.mem_cons,List.not_mem_nil,or_false]at h1
  rcases h1 with rfl|rfl<;>exact⟨rfl,rfl,by decide,by decide⟩
 obtain⟨k1,k2,_⟩:=ess_parts e1
 obtain⟨q1,q2⟩:=quo_rd r e3
 simp only[List.cons_append,List.nil_append]
 rw[leaf_single e1 hf.1 hf.2.1]
 unfold testF
 simp only
 rw[k1,k2,if_neg (by simp),if_neg hf.2.2.1,if_neg hf.2.2.2,whoF_eq,bindE_is (one_rd (l:=whoL) _ e1 (.inl rfl) hw)]
 simp only
 rw[bindE_is (one_rd (l:=isL) _ e2 (.inl rfl) (show wIs ∈ [wIs] from by simp))]
 simp only
 rw[bindE_is q1,q2]
theorem grp_rd{n:Nat}{t:Bs}(h:Gd (.grp t)):Rd (singleF n) Any tC (.grp t):=by
 intro us r hu _
 rw[Gd]at h
 rw[tC]at hu
 obtain⟨t1,t2,t3,rfl,e1,e2,e3⟩:=who_start hu
 rw[who_rd r e1 e2 e3 (by simp),if_pos rfl,if_neg (by rw[h.1];simp)]
theorem auth_rd{n:Nat}{t:Bs}(h:Gd (.auth t)):Rd (singleF n) Any tC (.auth t):=by
 intro us r hu _
 rw[Gd]at h
 rw[tC]at hu
 obtain⟨t1,t2,t3,rfl,e1,e2,e3⟩:=who_start hu
 rw[who_rd r e1 e2 e3 (by simp),if_neg (by decide),if_pos h.1]
def NoA(r:List Tok):Prop:=isT wAnd r=false
def NoO(r:List Tok):Prop:=isT wAnd r=false/\isT wOr r=false
structure RdAll(n:Nat)(c:Cond):Prop where
 one:isList c=false->Rd (singleF n) Any tC c
 both:isOr c=false->Rd (bothF (singleF n)) NoA tC c
 any:Rd (orF (singleF n)) NoO tC c
theorem of_both{n:Nat}{c:Cond}(h1:isList c=false->Rd (singleF n) Any tC c)(h:Rd (bothF (singleF n)) NoA tC c):RdAll n c :=
 ⟨h1,fun _=>h,fun us r hu hr=>list_one h hu hr.1 hr.2⟩
theorem of_one{n:Nat}{c:Cond}(h:Rd (singleF n) Any tC c):RdAll n c:=of_both (fun _=>h) fun us r hu hr=>list_one h hu trivial hr
theorem wrap_rd{n:Nat}{c:Cond}(h:Rd (orF (singleF n)) NoO tC c){us r:List Tok}(hu:us.map ess=eLp::(tC c ++ [eRp])):singleF (n+1) (us++r)=.ok (c,r):=by
 obtain⟨t,u1,rfl,e1,hu⟩:=ess_cons hu
 obtain⟨u,v,rfl,h1,hv⟩:=ess_app hu
 obtain⟨y,v1,rfl,e2,hv⟩:=ess_cons hv
 have:v1=[]:=by simpa using hv
 subst this
 have a1:isT wNot (t::(u ++ [y]++r))=false:=by rw[isT_sym (w:=yLp) e1];rfl
 have a2:isT yLp (t::(u ++ [y]++r))=true:=by rw[isT_sym (w:=yLp) e1];rfl
 have b:NoO (y::r):=⟨by rw[isT_sym (w:=yRp) e2];rfl,by rw[isT_sym (w:=yRp) e2];rfl⟩
 have h2:=h u (y::r) h1 b
 rw[List.cons_append]
 unfold singleF
 rw[a1,a2]
 simp only[Bool.not_false,Bool.not_true,Bool.and_false,Bool.false_eq_true,if_false,List.tail_cons,List.append_assoc,List.cons_append,List.nil_append]
 rw[bindE_is h2]
 simp only
 rw[bindE_is (one_rd r e2 (.inr rfl) (by simp))]
theorem not_rd{n:Nat}{c:Cond}{t:Tok}{us r:List Tok}(ht:ess t=eW wNot)(h:singleF n (us++r)=.ok (c,r)):singleF (n+1) (t::us++r)=.ok (.neg c,r):=by
 have a1:isT wNot (t::(us++r))=true:=by rw[isT_word ht];rfl
 rw[List.cons_append]
 unfold singleF
 rw[a1]
 simp only[Bool.not_true,Bool.false_and,Bool.false_eq_true,if_false,if_true,List.tail_cons]
 rw[bindE_is h]
theorem depO_mem{c:Cond} : ∀ {l:List Cond},c∈l->depC c<=depO l
 | [],h=>by cases h
 | d::r,h=>by
  rw[depO]
  rcases List.mem_cons.1 h with rfl|h
  ·omega
  ·have:=depO_mem h;omega
theorem depA_mem{c:Cond} : ∀ {l:List Cond},c∈l->(if isOr c then depC c+1 else depC c)<=depA l
 | [],h=>by cases h
 | d::r,h=>by
  rw[depA]
  rcases List.mem_cons.1 h with rfl|h
  ·omega
  ·have:=depA_mem h;omega
mutual
theorem rd_all:∀c:Cond,Gd c->Flat c->∀n,depC c<=n->RdAll n c
 | .either l,hg,hf,n,hn=>by
  rw[Gd]at hg
  rw[Flat]at hf
  rw[depC]at hn
  have ih:=rd_list l hg.2 hf.2
  refine⟨fun e=>(by cases e),fun e=>(by cases e),fun us r hu hr=>?_⟩
  rcases l with _|⟨c,_|⟨d,l⟩⟩
  ·simp at hg
  ·simp at hg
  rw[tC,tO,tOr_more]at hu
  exact list_rd (W:=NoA) (tk:=tC) (fun t r ht=>by show isT wAnd (t::r)=false;rw[isT_word ht];rfl) (fun x hx=>(ih x hx n (Nat.le_trans (depO_mem hx) hn)).both (hf.1 x hx)) hu hr.1 hr.2
 | .both l,hg,hf,n,hn=>by
  rw[Gd]at hg
  rw[Flat]at hf
  rw[depC]at hn
  have ih:=rd_list l hg.2 hf.2
  refine of_both (fun e=>(by cases e)) fun us r hu hr=>?_
  rcases l with _|⟨c,_|⟨d,l⟩⟩
  ·simp at hg
  ·simp at hg
  rw[tC,tA,tAr_more]at hu
  refine list_rd (W:=Any) (tk:=tP) (fun t r ht=>trivial) (fun x hx=>?_) hu trivial hr
  have hd:=Nat.le_trans (depA_mem hx) hn
  intro us r hu _
  unfold tP at hu
  cases e:isOr x
  ·rw[e]at hu hd
   have ha:=hf.1 x hx
   exact(ih x hx n hd).one (by cases x<;>first|rfl|(cases ha;done)|(cases e;done)) us r hu trivial
  ·rw[e]at hu hd
   simp only[if_true]at hd hu
   obtain⟨m,rfl⟩:∃m,n=m+1:=⟨n-1,by omega⟩
   exact wrap_rd (ih x hx m (by omega)).any hu
 | .neg c,hg,hf,n,hn=>by
  rw[Gd]at hg
  rw[Flat]at hf
  rw[depC]at hn
  have ih:=rd_all c hg hf
  refine of_one fun us r hu _=>?_
  rw[tC]at hu
  obtain⟨t,u,rfl,e1,hu⟩:=ess_cons hu
  cases e:isList c
  ·rw[e]at hu hn
   simp only[Bool.false_eq_true,if_false]at hn hu
   obtain⟨m,rfl⟩:∃m,n=m+1:=⟨n-1,by omega⟩
   exact not_rd e1 ((ih m (by omega)).one e u r hu trivial)
  ·rw[e]at hu hn
   simp only[if_true]at hn hu
   obtain⟨m,rfl⟩:∃m,n=m+2:=⟨n-2,by omega⟩
   exact not_rd e1 (wrap_rd (ih m (by omega)).any hu)
 | .cmp f op k,hg,hf,n,hn=>of_one (cmp_rd hg)
 | .txt f m t,hg,hf,n,hn=>of_one (txt_rd hg)
 | .auth t,hg,hf,n,hn=>of_one (auth_rd hg)
 | .grp t,hg,hf,n,hn=>of_one (grp_rd hg)
theorem rd_list:∀l:List Cond,GdL l->FlatL l->∀c∈l,∀n,depC c<=n->RdAll n c
 | [],_,_,c,hc=>by cases hc
 | d::l,hg,hf,c,hc=>by
  rw[GdL]at hg
  rw[FlatL]at hf
  rcases List.mem_cons.1 hc with h|hc
  ·rw[h];exact rd_all d hg.1 hf.1
  ·exact rd_list l hg.2 hf.2 c hc
end
end Go.Proofs.YtannhfnpigiggaaGreatDoor
namespace Go.Proofs.YtannhfnpigiggaaGreatDoor
open Go.Lib (decDigits)
set_option linter.unusedSimpArgs false
set_option linter.unusedVariables false
def Tks(L:Bs)(es:List Es):Prop := ∀i,∃l e,toksG (L.length+1) L i=.ok (l ++ [e])/\e.kind=0/\l.map ess=es
theorem Tks.app{L X:Bs}{a b:List Es}(h:Tks L a)(hX:Dlm X)(hb:Tks X b):Tks (L++X) (a++b):=fun i=>by
 obtain⟨l,e,h1,h2,h3⟩:=h i
 obtain⟨l0,e',h4,h5,_,h6⟩:=toksG_app hX _ L i _ (Nat.lt_succ_self _) h1
 obtain⟨l1,h7,h8⟩:=h6 ((L++X).length+1) i (Nat.lt_succ_self _)
 obtain⟨lx,ex,h9,h10,h11⟩:=hb (i+L.length)
 have he:l=l0:=by
  have:=List.append_inj h4 (by have:=congrArg List.length h4;simp at this;exact this)
  exact this.1
 refine⟨l1++lx,ex,?_,h10,?_⟩
 ·rw[h8 _ h9,List.append_assoc]
 ·rw[List.map_append,h7, ← he,h3,h11]
theorem Tks.blank{X:Bs}{b:List Es}(h:Tks X b):Tks (32::X) b:=fun i=>by
 obtain⟨l,e,h1,h2,h3⟩:=h (i+1)
 exact⟨l,e,by rw[List.length_cons,toksG_blank rfl];exact h1,h2,h3⟩
theorem Tks.lp{X:Bs}{b:List Es}(h:Tks X b):Tks (40::X) (eLp::b):=fun i=>by
 obtain⟨l,e,h1,h2,h3⟩:=h (i+1)
 refine⟨⟨4,yLp,0,i+1⟩::l,e,?_,h2,by rw[List.map_cons,h3];rfl⟩
 rw[List.length_cons]
 exact toksG_step (x:=(⟨4,yLp,0,i+1⟩,1)) rfl rfl h1
theorem tks_rp:Tks [41] [eRp]:=fun i=>⟨[⟨4,yRp,0,i+1⟩],⟨0, [],0,i+2⟩,rfl,rfl,rfl⟩
theorem tks_numf{f:Bs}(h:f∈numFs):Tks f [(1,f,0)]:=fun i=>by
 simp only[numFs,List.mem_cons,List.not_mem_nil,or_false]at h
 rcases h with rfl|rfl|rfl|rfl|rfl<;>exact⟨[⟨1,_,0,i+1⟩],⟨0, [],0,_⟩,rfl,rfl,rfl⟩
theorem tks_txtf{f:Bs}(h:f∈txtFs):Tks f [(1,f,0)]:=fun i=>by
 simp only[txtFs,List.mem_cons,List.not_mem_nil,or_false]at h
 rcases h with rfl|rfl|rfl<;>exact⟨[⟨1,_,0,i+1⟩],⟨0, [],0,_⟩,rfl,rfl,rfl⟩
theorem tks_mode{f:Bs}(h:f∈modesL):Tks f [(1,f,0)]:=fun i=>by
 simp only[modesL,List.mem_cons,List.not_mem_nil,or_false]at h
 rcases h with rfl|rfl|rfl<;>exact⟨[⟨1,_,0,i+1⟩],⟨0, [],0,_⟩,rfl,rfl,rfl⟩
theorem tks_op{f:Bs}(h:f∈cmpOps):Tks f [(4,f,0)]:=fun i=>by
 simp only[cmpOps,List.mem_cons,List.not_mem_nil,or_false]at h
 rcases h with rfl|rfl|rfl|rfl|rfl|rfl<;>exact⟨[⟨4,_,0,i+1⟩],⟨0, [],0,_⟩,rfl,rfl,rfl⟩
theorem tks_not:Tks wNot [eW wNot]:=fun i=>⟨[⟨1,wNot,0,i+1⟩],⟨0, [],0,_⟩,rfl,rfl,rfl⟩
theorem tks_or:Tks wOr [eW wOr]:=fun i=>⟨[⟨1,wOr,0,i+1⟩],⟨0, [],0,_⟩,rfl,rfl,rfl⟩
theorem tks_and:Tks wAnd [eW wAnd]:=fun i=>⟨[⟨1,wAnd,0,i+1⟩],⟨0, [],0,_⟩,rfl,rfl,rfl⟩
theorem tks_is:Tks wIs [eW wIs]:=fun i=>⟨[⟨1,wIs,0,i+1⟩],⟨0, [],0,_⟩,rfl,rfl,rfl⟩
theorem tks_author:Tks wAuthor [eW wAuthor]:=fun i=>⟨[⟨1,wAuthor,0,i+1⟩],⟨0, [],0,_⟩,rfl,rfl,rfl⟩
theorem tks_group:Tks wGroup [eW wGroup]:=fun i=>⟨[⟨1,wGroup,0,i+1⟩],⟨0, [],0,_⟩,rfl,rfl,rfl⟩
theorem endQ_of_esc:∀(t:Bs) (X:Bs) (i:Nat),endQ (escL t++34::X) i=some (i+(escL t).length)
 | [],X,i=>by
  show endQ (34::X) i=_
  unfold endQ
  rw[if_pos rfl];rfl
 | c::t,X,i=>by
  by_cases h:c=34\/c=92
  ·have e:escL (c::t)=92::c::escL t:=by unfold escL;rw[List.flatMap_cons,if_pos h];rfl
   rw[e,List.cons_append,List.cons_append]
   unfold endQ
   rw[if_neg (by decide),if_pos rfl]
   simp only
   rw[endQ_of_esc t X (i+2)]
   simp only[List.length_cons];congr 1;omega
  ·have e:escL (c::t)=c::escL t:=by unfold escL;rw[List.flatMap_cons,if_neg h];rfl
   rw[e,List.cons_append]
   unfold endQ
   rw[if_neg (fun g=>h (.inl g)),if_neg (fun g=>h (.inr g)),endQ_of_esc t X (i+1)]
   simp only[List.length_cons];congr 1;omega
theorem unesc_esc:∀(t:Bs) (i:Nat),unescQ (escL t) i=(t,none)
 | [],i=>rfl
 | c::t,i=>by
  by_cases h:c=34\/c=92
  ·have e:escL (c::t)=92::c::escL t:=by unfold escL;rw[List.flatMap_cons,if_pos h];rfl
   rw[e]
   unfold unescQ
   rw[if_pos rfl]
   simp only
   rw[if_pos h,unesc_esc t (i+2)]
  ·have e:escL (c::t)=c::escL t:=by unfold escL;rw[List.flatMap_cons,if_neg h];rfl
   rw[e]
   unfold unescQ
   rw[if_neg (fun g=>h (.inr g)),unesc_esc t (i+1)]
theorem toksG_nil(g i:Nat):toksG g [] i=.ok [⟨0, [],0,i+1⟩]:=by cases g<;>rfl
theorem tks_one{c:UInt8}{r:Bs}{k n:Nat}{x:Bs}(hb:blkS c=false)(h:∀i,tokT (c::r) i=.ok (⟨k,x,n,i⟩,(c::r).length)):Tks (c::r) [(k,x,n)]:=fun i =>
 ⟨[⟨k,x,n,i+1⟩],⟨0, [],0,i+(c::r).length+1⟩,toksG_step hb (h (i+1)) (by rw[List.drop_length];exact toksG_nil _ _),rfl,rfl⟩
theorem tks_quote{t:Bs}(h:TxtOk t):Tks (quoteL t) [(3,t,0)]:=by
 unfold quoteL
 refine tks_one rfl fun i=>?_
 unfold tokT
 simp only
 rw[if_neg (by decide),if_neg (by decide),if_pos trivial]
 unfold strT
 rw[List.drop_succ_cons,List.drop_zero,endQ_of_esc t [] 1]
 simp only
 have e:((34::(escL t ++ [34])).take (1+(escL t).length)).drop 1=escL t:=by
  rw[Nat.add_comm,List.take_succ_cons,List.drop_succ_cons,List.drop_zero,List.take_left']
  rfl
 rw[e,unesc_esc]
 simp only
 rw[if_neg (by have:=h.1;omega),h.2.1]
 simp only[Bool.false_eq_true,if_false,List.length_cons,List.length_append,List.length_nil]
 congr 2;omega
theorem tw_all{P:UInt8->Bool} : ∀L:Bs,(∀x∈L,P x=true)->L.takeWhile P=L
 | [],_=>rfl
 | c::r,h=>by rw[List.takeWhile_cons,if_pos (h c (by simp)),tw_all r (fun x hx=>h x (by simp[hx]))]
theorem tks_num{n:Nat}(h:n<=2147483647):Tks (decDigits n) [(2, [],n)]:=by
 obtain⟨h1,h2,h3,h4⟩:=dec_dig n
 have hb:badNum (decDigits n)=false:=by
  unfold badNum
  split
  ·rename_i e;exact absurd e h2
  ·rename_i c r e
   rw[e]at h1 h4 h3
   have hall:(c::r).all digB=true:=by
    rw[List.all_eq_true];intro x hx;have:=h1 x hx;simp[digB,isDigit,num];omega
   rw[e,hall]
   by_cases hc:c=48
   ·subst hc
    have hn:=h4 rfl
    subst hn
    have:decDigits 0=[48]:=by rw[decDigits];rfl
    rw[this]at e;injection e with _ e;subst e;rfl
   ·simp[hc]
 have hm:numM 2147483647 (decDigits n)=(n,0):=by
  unfold numM
  rw[hb,h3]
  simp;omega
 have hall:(decDigits n).takeWhile digB=decDigits n:=by
  refine tw_all _ fun x hx=>?_
  have:=h1 x hx;simp[digB,isDigit,num];omega
 generalize decDigits n=D at *
 cases D with
 | nil=>exact absurd rfl h2
 | cons c r =>
  have hc:=h1 c (by simp)
  refine tks_one (by simp[blkS,isBlank,num];omega) fun i=>?_
  unfold tokT
  simp only
  rw[hall,hm,if_neg (by simp[lowS,isLower,num];omega),if_pos (by simp[digB,isDigit,num];omega)]
  rfl
end Go.Proofs.YtannhfnpigiggaaGreatDoor
namespace Go.Proofs.YtannhfnpigiggaaGreatDoor
set_option linter.unusedSimpArgs false
set_option linter.unusedVariables false
mutual
theorem tks_print:∀c:Cond,Gd c->Tks (printF c) (tC c)
 | .either l,h=>by
  rw[Gd]at h
  rw[printF,tC]
  exact tks_printO l h.2 (by intro e;rw[e]at h;simp at h)
 | .both l,h=>by
  rw[Gd]at h
  rw[printF,tC]
  exact tks_printA l h.2 (by intro e;rw[e]at h;simp at h)
 | .neg c,h=>by
  rw[Gd]at h
  have ih:=tks_print c h
  rw[printF,tC]
  cases e:isList c
  ·simp only[Bool.false_eq_true,if_false]
   exact tks_not.app (dlm_blank _) ih.blank
  ·simp only[if_true]
   exact tks_not.app (dlm_blank _) ((ih.app (dlm_rp []) tks_rp).lp).blank
 | .cmp f op n,h=>by
  rw[Gd]at h
  rw[printF,tC]
  exact(tks_numf h.1).app (dlm_blank _) (((tks_op h.2.1).app (dlm_blank _) (tks_num h.2.2).blank).blank)
 | .txt f m t,h=>by
  rw[Gd]at h
  rw[printF,tC]
  exact(tks_txtf h.1).app (dlm_blank _) (((tks_mode h.2.1).app (dlm_blank _) (tks_quote h.2.2).blank).blank)
 | .auth t,h=>by
  rw[Gd]at h
  rw[printF,tC]
  exact tks_author.app (dlm_blank _) ((tks_is.app (dlm_blank _) (tks_quote h.2).blank).blank)
 | .grp t,h=>by
  rw[Gd]at h
  rw[printF,tC]
  exact tks_group.app (dlm_blank _) ((tks_is.app (dlm_blank _) (tks_quote h.2).blank).blank)
theorem tks_printO:∀l:List Cond,GdL l->l≠[]->Tks (printOr l) (tO l)
 | [],_,h=>absurd rfl h
 | [c],h,_=>by
  rw[GdL]at h
  rw[printOr,tO,tOr,List.append_nil]
  exact tks_print c h.1
 | c::d::r,h,_=>by
  rw[GdL]at h
  have ih:=tks_printO (d::r) h.2 (by simp)
  rw[tO]at ih
  rw[printOr,tO,tOr]
  exact(tks_print c h.1).app (dlm_blank _) ((tks_or.app (dlm_blank _) ih.blank).blank)
theorem tks_printA:∀l:List Cond,GdL l->l≠[]->Tks (printAnd l) (tA l)
 | [],_,h=>absurd rfl h
 | c::r,h,_=>by
  rw[GdL]at h
  have hp:Tks (pieceA c) (if isOr c then eLp::(tC c ++ [eRp]) else tC c):=by
   have ih:=tks_print c h.1
   unfold pieceA
   cases e:isOr c
   ·simp only[Bool.false_eq_true,if_false];exact ih
   ·simp only[if_true];exact(ih.app (dlm_rp []) tks_rp).lp
  rw[printAnd_cons,tA]
  cases r with
  | nil=>rw[if_pos rfl,tAr,List.append_nil,List.append_nil];exact hp
  | cons d r =>
   have ih:=tks_printA (d::r) h.2 (by simp)
   rw[tA]at ih
   rw[if_neg (show ¬(d::r=[]) from by simp),tAr]
   exact hp.app (dlm_blank _) ((tks_and.app (dlm_blank _) ih.blank).blank)
end
theorem unesc_sub:∀(n:Nat) (L:Bs) (i:Nat),L.length<=n->∀c∈(unescQ L i).1,c∈L
 | _, [],i,_,c,hc=>by unfold unescQ at hc;cases hc
 | 0,d::r,i,hn,c,hc=>by simp at hn
 | n+1,d::r,i,hn,c,hc=>by
  simp only[List.length_cons]at hn
  unfold unescQ at hc
  split at hc
  ·cases r with
   | nil=>cases hc
   | cons e r' =>
    simp only at hc
    split at hc
    ·rcases List.mem_cons.1 hc with rfl|hc
     ·simp
     ·have:=unesc_sub n r' (i+2) (by simp only[List.length_cons]at hn;omega) c hc
      simp[this]
    ·cases hc
  ·rcases List.mem_cons.1 hc with rfl|hc
   ·simp
   ·have:=unesc_sub n r (i+1) (by omega) c hc
    simp[this]
theorem tokT_g{L:Bs}(hL:∀c∈L,c≠10){col:Nat}{x:Tok × Nat}(h:tokT L col=.ok x):x.1.kind=3->TxtOk x.1.text:=by
 cases L with
 | nil=>cases h
 | cons c r =>
  unfold tokT at h
  simp only at h
  split at h
  ·injection h with h;subst h;intro e;cases e
  ·split at h
   ·split at h
    ·cases h
    ·injection h with h;subst h;intro e;cases e
   ·split at h
    ·unfold strT at h
     split at h
     ·cases h
     ·simp only at h
      split at h
      ·cases h
      ·split at h
       ·cases h
       ·split at h
        ·cases h
        ·rename_i h1 h2
         injection h with h;subst h
         intro _
         exact⟨by simp only;omega,by simpa using h2,fun d hd=>hL d (List.mem_of_mem_take (List.mem_of_mem_drop (unesc_sub _ _ _ (Nat.le_refl _) d hd)))⟩
    ·unfold symT at h
     split at h
     ·injection h with h;subst h;intro e;cases e
     ·cases h
theorem toksG_g:∀(g:Nat) (rest:Bs) (i:Nat) (l:List Tok),(∀c∈rest,c≠10)->toksG g rest i=.ok l->TkG l
 | 0,rest,i,l,hr,h=>by
  unfold toksG at h
  injection h with h;subst h
  intro t ht e
  simp only[List.mem_singleton]at ht;subst ht;cases e
 | g+1, [],i,l,hr,h=>by
  unfold toksG at h
  injection h with h;subst h
  intro t ht e
  simp only[List.mem_singleton]at ht;subst ht;cases e
 | g+1,c::r,i,l,hr,h=>by
  unfold toksG at h
  simp only at h
  split at h
  ·exact toksG_g g _ _ _ (fun x hx=>hr x (List.mem_cons_of_mem _ hx)) h
  ·split at h
   ·cases h
   ·rename_i t n ht
    split at h
    ·cases h
    ·rename_i l2 hl
     injection h with h;subst h
     intro x hx e
     rcases List.mem_cons.1 hx with rfl|hx
     ·exact tokT_g hr ht e
     ·exact toksG_g g _ _ _ (fun y hy=>hr y (List.mem_of_mem_drop hy)) hl x hx e
end Go.Proofs.YtannhfnpigiggaaGreatDoor
namespace Go.Proofs.YtannhfnpigiggaaGreatDoor
open Go.Lib (decDigits)
set_option linter.unusedSimpArgs false
set_option linter.unusedVariables false
def sgnA(a:Bs):Prop:=a=yPlus\/a=yMinus\/a=yEq
instance (a:Bs):Decidable (sgnA a):=by unfold sgnA;infer_instance
structure RuOk(r:RuleS):Prop where
 act:r.act∈actsL
 lo : -10000<=r.amt
 hi:r.amt<=10000
 pos:r.act≠yEq->0<=r.amt
 zero:¬ sgnA r.act->r.amt=0
 til:∀u,r.til=some u->u<=105190559
 cond:∀c,r.cond=some c->Gd c/\depC c<=32
theorem amtF_tk{x:Bs}{ts:List Tok}{m:Int × List Tok}(h:amtF x ts=.ok m)(ht:TkG ts):TkG m.2:=by
 unfold amtF at h
 split at h
 ·obtain⟨n,h1,h⟩:=bindE_ok h
  have:=(numF_tk _ _ ht h1).2
  injection h with h;subst h;exact this
 ·split at h
  ·split at h
   ·obtain⟨n,h1,h⟩:=bindE_ok h
    have:=(numF_tk _ _ ht.tail h1).2
    injection h with h;subst h;exact this
   ·obtain⟨n,h1,h⟩:=bindE_ok h
    have:=(numF_tk _ _ ht h1).2
    injection h with h;subst h;exact this
  ·injection h with h;subst h;exact ht
theorem rule_ok{ts:List Tok}{r:RuleS}(h:ruleF ts=.ok r)(ht:TkG ts):RuOk r:=by
 obtain⟨a,m,u,c,h1,h2,h3,h4,h5,rfl⟩:=ruleF_steps h
 have g1:=oneF_tk _ _ ht h1
 have g2:=amtF_tk h2 g1.2
 obtain⟨b1,b2,_,_,b5,b6⟩:=amtF_ok h2
 have g3:TkG u.2/\∀n,u.1=some n->n<=105190559:=by
  rcases tilF_ok h3 with⟨rfl,_⟩|⟨n,k1,k2,k3,rfl⟩
  ·exact⟨g2,fun n e=>by cases e⟩
  ·exact⟨(numF_tk _ _ g2.tail k2).2,fun n e=>by injection e with e;subst e;exact k3⟩
 refine⟨g1.1,b1,b2,b6,b5,g3.2,fun x e=>?_⟩
 rcases ifF_ok h4 with⟨rfl,_⟩|⟨y,k1,k2,rfl⟩
 ·cases e
 ·injection e with e;subst e
  exact(cond_po 32 _ _ g3.1.tail k2).1
def nfR(r:RuleS):RuleS := { r with cond:=r.cond.map nfC }
theorem nfR_print{r:RuleS}(h:RuOk r):printR (nfR r)=printR r:=by
 rw[printR_eq,printR_eq]
 have:condL (nfR r).cond=condL r.cond:=by
  unfold nfR
  cases e:r.cond with
  | none=>rfl
  | some c=>simp only[Option.map_some,condL];rw[print_nf c (h.cond c e).1]
 rw[this];rfl
theorem nfR_ok {r : RuleS} (h : RuOk r) : RuOk (nfR r) :=
  ⟨h.act, h.lo, h.hi, h.pos, h.zero, h.til, fun c e => by
    unfold nfR at e
    cases e2 : r.cond with
    | none => rw [e2] at e; cases e
    | some d =>
      rw [e2] at e; injection e with e; subst e
      have := h.cond d e2
      exact ⟨gd_nf d this.1, by rw [dep_nf]; exact this.2⟩⟩
theorem nfR_flat(r:RuleS):∀c,(nfR r).cond=some c->Flat c:=fun c e=>by
 unfold nfR at e
 cases e2:r.cond with
 | none=>rw[e2]at e;cases e
 | some d=>rw[e2]at e;injection e with e;subst e;exact flat_nf d
def tAct(a:Bs):Es:=if sgnA a then (4,a,0) else (1,a,0)
def tAmt(a:Bs)(m:Int):List Es:=if sgnA a then (if m<0 then [(4,yMinus,0),(2, [],m.natAbs)] else [(2, [],m.toNat)]) else []
def tTil:Option Nat->List Es
 | none=>[]
 | some u=>[eW wUntil,(2, [],u)]
def tIf:Option Cond->List Es
 | none=>[]
 | some c=>eW wIf::tC c
def tR(r:RuleS):List Es:=tAct r.act::(tAmt r.act r.amt++(tTil r.til++tIf r.cond))
theorem tks_until:Tks wUntil [eW wUntil]:=fun i=>⟨[⟨1,wUntil,0,i+1⟩],⟨0, [],0,_⟩,rfl,rfl,rfl⟩
theorem tks_if:Tks wIf [eW wIf]:=fun i=>⟨[⟨1,wIf,0,i+1⟩],⟨0, [],0,_⟩,rfl,rfl,rfl⟩
theorem tks_nil:Tks [] []:=fun i=>⟨[],⟨0, [],0,i+1⟩,rfl,rfl,rfl⟩
theorem Tks.plus{X:Bs}{b:List Es}(h:Tks X b):Tks (43::X) ((4,yPlus,0)::b):=fun i=>by
 obtain⟨l,e,h1,h2,h3⟩:=h (i+1)
 refine⟨⟨4,yPlus,0,i+1⟩::l,e,?_,h2,by rw[List.map_cons,h3];rfl⟩
 rw[List.length_cons]
 exact toksG_step (x:=(⟨4,yPlus,0,i+1⟩,1)) rfl rfl h1
theorem Tks.minus{X:Bs}{b:List Es}(h:Tks X b):Tks (45::X) ((4,yMinus,0)::b):=fun i=>by
 obtain⟨l,e,h1,h2,h3⟩:=h (i+1)
 refine⟨⟨4,yMinus,0,i+1⟩::l,e,?_,h2,by rw[List.map_cons,h3];rfl⟩
 rw[List.length_cons]
 exact toksG_step (x:=(⟨4,yMinus,0,i+1⟩,1)) rfl rfl h1
theorem Tks.equal{X:Bs}{b:List Es}(h:Tks X b):Tks (61::X) ((4,yEq,0)::b):=fun i=>by
 obtain⟨l,e,h1,h2,h3⟩:=h (i+1)
 refine⟨⟨4,yEq,0,i+1⟩::l,e,?_,h2,by rw[List.map_cons,h3];rfl⟩
 rw[List.length_cons]
 exact toksG_step (x:=(⟨4,yEq,0,i+1⟩,1)) rfl rfl h1
theorem tks_tail{r:RuleS}(h:RuOk r):Tks (tilL r.til++condL r.cond) (tTil r.til++tIf r.cond)/\Dlm (tilL r.til++condL r.cond):=by
 have h1:Tks (condL r.cond) (tIf r.cond)/\Dlm (condL r.cond):=by
  cases e:r.cond with
  | none=>exact⟨tks_nil,dlm_nil⟩
  | some c=>exact⟨(tks_if.app (dlm_blank _) (tks_print c (h.cond c e).1).blank).blank,dlm_blank _⟩
 cases e:r.til with
 | none=>exact h1
 | some u =>
  refine⟨?_,dlm_blank _⟩
  have h2:=h.til u e
  exact(tks_until.app (dlm_blank _) ((tks_num (n:=u) (by omega)).app h1.2 h1.1).blank).blank
theorem tks_rule{r:RuleS}(h:RuOk r):Tks (printR r) (tR r):=by
 obtain⟨h1,h2⟩:=tks_tail h
 rw[printR_eq]
 unfold tR
 have hlo:=h.lo
 have hhi:=h.hi
 have hm:sgnA r.act->Tks (decI r.amt++(tilL r.til++condL r.cond)) (tAmt r.act r.amt++(tTil r.til++tIf r.cond)):=fun hs=>by
  unfold tAmt decI
  rw[if_pos hs]
  split
  ·exact((tks_num (n:=r.amt.natAbs) (by omega)).app h2 h1).minus
  ·exact(tks_num (n:=r.amt.toNat) (by omega)).app h2 h1
 have ha:=h.act
 by_cases hs:sgnA r.act
 ·have hm:=hm hs
  have hs':=hs
  unfold sgnA at hs'
  rw[if_pos hs']
  unfold tAct
  rw[if_pos hs]
  generalize decI r.amt++(tilL r.til++condL r.cond)=X at *
  rcases hs' with e|e|e
  ·rw[e]at hm⊢;exact hm.plus
  ·rw[e]at hm⊢;exact hm.minus
  ·rw[e]at hm⊢;exact hm.equal
 ·have hs':=hs
  unfold sgnA at hs'
  rw[if_neg hs']
  unfold tAct tAmt
  rw[if_neg hs,if_neg hs]
  have hw:Tks r.act [(1,r.act,0)]:=fun i=>by
   simp only[actsL,List.mem_cons,List.not_mem_nil,or_false]at ha
   rcases ha with e|e|e|e|e|e
   ·exact absurd (.inl e) hs'
   ·exact absurd (.inr (.inl e)) hs'
   ·exact absurd (.inr (.inr e)) hs'
   all_goals (rw[e];exact⟨[⟨1,_,0,i+1⟩],⟨0, [],0,_⟩,rfl,rfl,rfl⟩)
  exact hw.app h2 h1
theorem isT_end{x:Bs}{e:Tok}(he:e.kind=0):isT x [e]=false:=by unfold isT;simp only;rw[he];rfl
theorem if_rd{c:Option Cond}(hc:∀x,c=some x->Gd x/\Flat x/\depC x<=32){us:List Tok}{e:Tok}(hu:us.map ess=tIf c)(he:e.kind=0):ifF (us ++ [e])=.ok (c, [e])/\isT wUntil (us ++ [e])=false:=by
 cases c with
 | none =>
  have:us=[]:=by simpa[tIf] using hu
  subst this
  unfold ifF
  rw[List.nil_append,isT_end he,isT_end he]
  exact⟨rfl,rfl⟩
 | some c =>
  obtain⟨t,u,rfl,e1,hu⟩:=ess_cons hu
  obtain⟨h1,h2,h3⟩:=hc c rfl
  have h4:=(rd_all c h1 h2 32 h3).any u [e] hu ⟨isT_end he,isT_end he⟩
  unfold ifF
  rw[List.cons_append,isT_word e1,isT_word e1,if_pos (by simp),List.tail_cons]
  refine⟨?_,by decide⟩
  rw[bindE_is (show condF 32 (u ++ [e])=_ from h4)]
theorem til_rd{u:Option Nat}(hu:∀n,u=some n->n<=105190559){us r:List Tok}(h:us.map ess=tTil u)(hr:isT wUntil r=false):tilF (us++r)=.ok (u,r):=by
 cases u with
 | none =>
  have:us=[]:=by simpa[tTil] using h
  subst this
  unfold tilF
  rw[List.nil_append,hr];rfl
 | some n =>
  obtain⟨t,u1,rfl,e1,h⟩:=ess_cons h
  obtain⟨t2,u2,rfl,e2,h⟩:=ess_cons h
  have:u2=[]:=by simpa using h
  subst this
  unfold tilF
  simp only[List.cons_append,List.nil_append]
  rw[isT_word e1,if_pos (by simp),List.tail_cons,bindE_is (num_rd r e2 (hu n rfl))]
theorem amt_rd{a:Bs}{m:Int}(hlo : -10000<=m)(hhi:m<=10000)(hp:a≠yEq->0<=m)(hz:¬ sgnA a->m=0){us r:List Tok}(h:us.map ess=tAmt a m):amtF a (us++r)=.ok (m,r):=by
 unfold tAmt at h
 by_cases hs:sgnA a
 ·rw[if_pos hs]at h
  by_cases hm:m<0
  ·have ha:a=yEq:=by
    rcases Decidable.em (a=yEq) with e|e
    ·exact e
    ·have:=hp e;omega
   subst ha
   rw[if_pos hm]at h
   obtain⟨t,u1,rfl,e1,h⟩:=ess_cons h
   obtain⟨t2,u2,rfl,e2,h⟩:=ess_cons h
   have:u2=[]:=by simpa using h
   subst this
   unfold amtF
   simp only[List.cons_append,List.nil_append]
   rw[if_neg (by decide),if_pos trivial,isT_sym e1,if_pos (by simp),List.tail_cons,bindE_is (num_rd r e2 (by omega))]
   simp only
   congr 2;omega
  ·rw[if_neg hm]at h
   obtain⟨t,u1,rfl,e1,h⟩:=ess_cons h
   have:u1=[]:=by simpa using h
   subst this
   have hn:=num_rd (m:=10000) r e1 (by omega)
   have hi:isT yMinus (t::r)=false:=by
    obtain⟨k1,_,_⟩:=ess_parts e1
    unfold isT;simp only;rw[k1];rfl
   unfold amtF
   simp only[List.cons_append,List.nil_append]
   split
   ·rw[bindE_is hn];simp only;congr 2;omega
   ·rename_i h1
    have ha:a=yEq:=by rcases hs with e|e|e;exact absurd (.inl e) h1;exact absurd (.inr e) h1;exact e
    rw[if_pos ha,hi,if_neg (by simp),bindE_is hn];simp only;congr 2;omega
 ·rw[if_neg hs]at h
  have:us=[]:=by simpa using h
  subst this
  unfold amtF
  rw[List.nil_append,if_neg (fun g=>hs (g.elim .inl (fun x=>.inr (.inl x)))),if_neg (fun g=>hs (.inr (.inr g))),hz hs]
theorem rule_rd{r:RuleS}(h:RuOk r)(hf:∀c,r.cond=some c->Flat c){us:List Tok}{e:Tok}(hu:us.map ess=tR r)(he:e.kind=0):ruleF (us ++ [e])=.ok r:=by
 unfold tR at hu
 obtain⟨t,u,rfl,e1,hu⟩:=ess_cons hu
 obtain⟨u1,u2,rfl,hu1,hu⟩:=ess_app hu
 obtain⟨u3,u4,rfl,hu3,hu4⟩:=ess_app hu
 have h4:=if_rd (fun x hx=>⟨(h.cond x hx).1,hf x hx,(h.cond x hx).2⟩) hu4 he
 have h3:=til_rd h.til hu3 h4.2
 have h2:=amt_rd h.lo h.hi h.pos h.zero hu1 (r:=u3++(u4 ++ [e]))
 have h1:oneF actsL (t::(u1++(u3++(u4 ++ [e]))))=.ok (r.act,u1++(u3++(u4 ++ [e]))):=by
  unfold tAct at e1
  split at e1
  ·exact one_rd _ e1 (.inr rfl) h.act
  ·exact one_rd _ e1 (.inl rfl) h.act
 unfold ruleF
 simp only[List.cons_append,List.append_assoc]
 rw[bindE_is h1]
 simp only
 rw[bindE_is h2]
 simp only
 rw[bindE_is h3]
 simp only
 rw[bindE_is h4.1]
 simp only
 rw[if_pos (by unfold endT;simp only;rw[he];rfl)]
def NoNl(L:Bs):Prop := ∀c∈L,isNl c=false
theorem NoNl.app{L M:Bs}(h:NoNl L)(g:NoNl M):NoNl (L++M):=fun c hc=>(List.mem_append.1 hc).elim (h c) (g c)
theorem NoNl.cons{c:UInt8}{L:Bs}(h:isNl c=false)(g:NoNl L):NoNl (c::L):=fun d hd=>by
 rcases List.mem_cons.1 hd with rfl|hd
 ·exact h
 ·exact g d hd
theorem nonl_nil:NoNl []:=fun c h=>by cases h
theorem nonl_dec(n:Nat):NoNl (decDigits n):=fun c hc=>by
 have:=(dec_dig n).1 c hc
 simp[isNl];intro e;subst e;simp at this
theorem nonl_esc:∀t:Bs,NoNl t->NoNl (escL t)
 | [],_=>nonl_nil
 | c::t,h=>by
  have ih:=nonl_esc t (fun x hx=>h x (List.mem_cons_of_mem _ hx))
  have hc:=h c (by simp)
  unfold escL at ih⊢
  rw[List.flatMap_cons]
  split
  ·exact(NoNl.cons rfl (NoNl.cons hc nonl_nil)).app ih
  ·exact(NoNl.cons hc nonl_nil).app ih
theorem nonl_txt{t:Bs}(h:TxtOk t):NoNl (quoteL t):=by
 have h1:NoNl t:=fun c hc=>by
  have h2:=h.2.2 c hc
  simp[isNl,h2]
 unfold quoteL
 exact NoNl.cons rfl ((nonl_esc t h1).app (NoNl.cons rfl nonl_nil))
theorem nonl_fix{l:List Bs}(h:l.all (fun x=>x.all fun c => !isNl c)=true){x:Bs}(hx:x∈l):NoNl x:=fun c hc=>by
 have h1:=List.all_eq_true.1 (List.all_eq_true.1 h x hx) c hc
 simpa using h1
theorem nonl_num{x:Bs}(h:x∈numFs):NoNl x:=nonl_fix (by decide +kernel) h
theorem nonl_txf{x:Bs}(h:x∈txtFs):NoNl x:=nonl_fix (by decide +kernel) h
theorem nonl_op{x:Bs}(h:x∈cmpOps):NoNl x:=nonl_fix (by decide +kernel) h
theorem nonl_mode{x:Bs}(h:x∈modesL):NoNl x:=nonl_fix (by decide +kernel) h
theorem nonl_act{x:Bs}(h:x∈actsL):NoNl x:=nonl_fix (by decide +kernel) h
theorem nonl_lit{x:Bs}(h:(x.all fun c => !isNl c)=true):NoNl x:=nonl_fix (l := [x]) (by simpa using h) (by simp)
mutual
theorem nonl_print:∀c:Cond,Gd c->NoNl (printF c)
 | .either l,h=>by
  unfold Gd at h;unfold printF
  exact nonl_or l h.2
 | .both l,h=>by
  unfold Gd at h;unfold printF
  exact nonl_and l h.2
 | .neg c,h=>by
  unfold Gd at h;unfold printF
  have ih:=nonl_print c h
  split
  ·exact(nonl_lit (by decide +kernel)).app ((nonl_lit (by decide +kernel)).app (ih.app (nonl_lit (by decide +kernel))))
  ·exact(nonl_lit (by decide +kernel)).app (NoNl.cons rfl ih)
 | .cmp f op n,h=>by
  unfold Gd at h;unfold printF
  exact(nonl_num h.1).app (NoNl.cons rfl ((nonl_op h.2.1).app (NoNl.cons rfl (nonl_dec n))))
 | .txt f m t,h=>by
  unfold Gd at h;unfold printF
  exact(nonl_txf h.1).app (NoNl.cons rfl ((nonl_mode h.2.1).app (NoNl.cons rfl (nonl_txt h.2.2))))
 | .auth t,h=>by
  unfold Gd at h;unfold printF
  exact(nonl_lit (by decide +kernel)).app (NoNl.cons rfl ((nonl_lit (by decide +kernel)).app (NoNl.cons rfl (nonl_txt h.2))))
 | .grp t,h=>by
  unfold Gd at h;unfold printF
  exact(nonl_lit (by decide +kernel)).app (NoNl.cons rfl ((nonl_lit (by decide +kernel)).app (NoNl.cons rfl (nonl_txt h.2))))
theorem nonl_or:∀l:List Cond,GdL l->NoNl (printOr l)
 | [],h=>by unfold printOr;exact nonl_nil
 | [c],h=>by
  unfold GdL at h;unfold printOr
  exact nonl_print c h.1
 | c::d::r,h=>by
  unfold GdL at h;unfold printOr
  exact(nonl_print c h.1).app ((nonl_lit (by decide +kernel)).app (nonl_or (d::r) h.2))
theorem nonl_and:∀l:List Cond,GdL l->NoNl (printAnd l)
 | [],h=>by unfold printAnd;exact nonl_nil
 | [c],h=>by
  unfold GdL at h;unfold printAnd
  have ih:=nonl_print c h.1
  split
  ·exact NoNl.cons rfl (ih.app (nonl_lit (by decide +kernel)))
  ·exact ih
 | c::d::r,h=>by
  unfold GdL at h;unfold printAnd
  have ih:=nonl_print c h.1
  have hr:=(nonl_lit (x := [32,97,110,100,32]) (by decide +kernel)).app (nonl_and (d::r) h.2)
  split
  ·exact NoNl.app (NoNl.cons rfl (ih.app (nonl_lit (by decide +kernel)))) hr
  ·exact NoNl.app ih hr
end
theorem nonl_decI(n:Int):NoNl (decI n):=by
 unfold decI
 split
 ·exact NoNl.cons rfl (nonl_dec _)
 ·exact nonl_dec _
theorem nonl_rule{r:RuleS}(h:RuOk r):NoNl (printR r):=by
 rw[printR_eq]
 refine(nonl_act h.act).app (NoNl.app ?_ (NoNl.app ?_ ?_))
 ·split
  ·exact nonl_decI _
  ·exact nonl_nil
 ·cases r.til with
  | none=>exact nonl_nil
  | some u=>exact(nonl_lit (by decide +kernel)).app (nonl_dec u)
 ·cases e:r.cond with
  | none=>exact nonl_nil
  | some c=>exact(nonl_lit (by decide +kernel)).app (nonl_print c (h.cond c e).1)
theorem idle_rule{r:RuleS}(h:RuOk r):idleF (printR r)=false:=by
 rw[printR_eq]
 generalize ((if r.act=yPlus\/r.act=yMinus\/r.act=yEq then decI r.amt else [])++(tilL r.til++condL r.cond))=X
 have ha:=h.act
 simp only[actsL,List.mem_cons,List.not_mem_nil,or_false]at ha
 rcases ha with e|e|e|e|e|e<;>(rw[e];rfl)
theorem line_rule{r:RuleS}(h:RuOk r){n:Nat}(hn:n<200):lineF (printR r) n=.ok (nfR r):=by
 have h1:=tks_rule (nfR_ok h)
 rw[nfR_print h]at h1
 obtain⟨l,e,h2,h3,h4⟩:=h1 0
 have h5:=rule_rd (nfR_ok h) (nfR_flat r) h4 h3
 unfold lineF
 rw[bindE_is (show toksF (printR r)=.ok (l ++ [e]) from h2),if_neg (by omega)]
 exact h5
theorem lines_rules:∀l:List RuleS,(∀r∈l,RuOk r)->linesM (printRs l)=l.map printR ++ [[]]
 | [],_=>rfl
 | r::l,h=>by
  have e:printRs (r::l)=printR r++10::printRs l:=by simp[printRs]
  rw[e,lines_some _ _ (nonl_rule (h r (by simp))),lines_rules l (fun x hx=>h x (by simp[hx]))]
  rfl
theorem rules_back:∀(l:List RuleS) (i n:Nat),(∀r∈l,RuOk r)->n+l.length<=200->rulesG (l.map printR ++ [[]]) i n=.ok (l.map nfR)
 | [],i,n,_,_=>rfl
 | r::l,i,n,h,hn=>by
  simp only[List.length_cons]at hn
  have hr:=h r (by simp)
  rw[List.map_cons,List.cons_append]
  unfold rulesG
  rw[idle_rule hr,if_neg (by simp),line_rule hr (by omega)]
  simp only
  rw[rules_back l (i+1) (n+1) (fun x hx=>h x (by simp[hx])) (by omega)]
  rfl
theorem lines_nonl(L:Bs):∀cur,NoNl cur->∀x∈splitNa L cur,NoNl x:=by
 induction L with
 | nil =>
  intro cur hc x hx
  simp only[splitNa,List.mem_singleton]at hx;subst hx;exact hc
 | cons c r ih =>
  intro cur hc x hx
  rw[splitNa]at hx
  split at hx
  ·rcases List.mem_cons.1 hx with rfl|hx
   ·exact hc
   ·exact ih [] nonl_nil x hx
  ·rename_i hn
   exact ih _ (hc.app (NoNl.cons (by simpa using hn) nonl_nil)) x hx
theorem rulesG_all:∀(ls:List Bs) (i n:Nat) (l:List RuleS),(∀x∈ls,NoNl x)->rulesG ls i n=.ok l->∀r∈l,RuOk r
 | [],i,n,l,hl,h=>by unfold rulesG at h;injection h with h;subst h;simp
 | x::r,i,n,l,hl,h=>by
  unfold rulesG at h
  split at h
  ·exact rulesG_all r (i+1) n l (fun y hy=>hl y (by simp[hy])) h
  ·split at h
   ·cases h
   ·rename_i a ha
    split at h
    ·cases h
    ·rename_i l2 hl2
     injection h with h;subst h
     intro y hy
     rcases List.mem_cons.1 hy with rfl|hy
     ·obtain⟨_,ts,h1,h2⟩:=lineF_ok ha
      refine rule_ok h2 (toksG_g _ _ _ _ (fun c hc=>?_) h1)
      have:=hl x (by simp) c hc
      unfold isNl at this
      simpa using this
     ·exact rulesG_all r (i+1) (n+1) l2 (fun y hy=>hl y (by simp[hy])) hl2 y hy
theorem lens_split(L:Bs):∀cur,lensL (splitNa L cur)=cur.length+L.length+1:=by
 induction L with
 | nil=>intro cur;simp[splitNa,lensL]
 | cons c r ih =>
  intro cur
  rw[splitNa]
  split
  ·simp only[lensL,ih,List.length_cons,List.length_nil];omega
  ·rw[ih];simp only[List.length_append,List.length_cons,List.length_nil];omega
theorem print_nfRs:∀l:List RuleS,(∀r∈l,RuOk r)->printRs (l.map nfR)=printRs l
 | [],_=>rfl
 | r::l,h=>by
  have e:∀(r:RuleS) l,printRs (r::l)=printR r++10::printRs l:=fun r l=>by simp[printRs]
  rw[List.map_cons,e,e,nfR_print (h r (by simp)),print_nfRs l (fun x hx=>h x (by simp[hx]))]
theorem parse_back{L:Bs}{l:List RuleS}(hL:L.length<=3000)(h:parseG L=.ok l):(∀r∈l,RuOk r)/\l.length<=200/\(printRs l).length<=65536/\parseG (printRs l)=.ok (l.map nfR)/\printRs (l.map nfR)=printRs l:=by
 unfold parseG at h
 rw[if_neg (by omega)]at h
 have h1:=rulesG_all _ _ _ _ (lines_nonl L [] nonl_nil) h
 have h2:=rulesG_few _ _ _ _ (by omega) h
 have h3:=rulesG_wt _ _ _ _ h
 have h4:lensL (linesM L)=L.length+1:=by unfold linesM;rw[lens_split];simp
 refine⟨h1,by omega,by omega,?_,print_nfRs l h1⟩
 unfold parseG
 rw[if_neg (by omega),lines_rules l h1]
 exact rules_back l 0 0 h1 h2
end Go.Proofs.YtannhfnpigiggaaGreatDoor
