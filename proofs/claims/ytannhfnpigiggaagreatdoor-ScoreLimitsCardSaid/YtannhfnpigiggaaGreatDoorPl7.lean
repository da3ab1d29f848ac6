import Derived.Test.YtannhfnpigiggaaGreatDoorPl6
import Derived.Lib.ItoaNum
namespace Go.Proofs.YtannhfnpigiggaaGreatDoor
set_option linter.unusedSimpArgs false
set_option linter.unusedVariables false
open Go.Lib (decDigits)
def ctlB(L:Bs):Bool:=(allF L 0).1.any (fun x=>ctlU x.2) || decide ((chkF L).2≠0)
def valD(L:Bs):Nat:=L.foldl (fun v c=>10*v+(c.toNat - 48)) 0
def digB(c:UInt8):Bool:=isDigit (num c)
def badNum(L:Bs):Bool:=match L with
 | []=>true
 | c::r => !(L.all digB) || (c==48 && !r.isEmpty)
theorem dec_len_lt(k n:Nat)(h:n<10 ^ (k+1)):(decDigits n).length<=k+1:=by
 induction k generalizing n with
 | zero=>rw[decDigits,dif_pos (by simpa using h)];simp
 | succ k ih =>
  rw[decDigits];split
  ·simp
  ·have:=ih (n / 10) (by rw[Nat.pow_succ]at h;omega);simp;omega
theorem digB_nat(c:UInt8):digB c=true↔48<=c.toNat/\c.toNat<=57:=by simp[digB,isDigit,num];omega
theorem valD_snoc(L:Bs)(c:UInt8):valD (L ++ [c])=10*valD L+(c.toNat - 48):=by simp[valD,List.foldl_append]
theorem rev_ind{P:Bs->Prop}(h0:P [])(h1:∀r c,P r->P (r ++ [c])):∀L,P L:=by
 intro L
 rw[<-List.reverse_reverse L]
 induction L.reverse with
 | nil=>exact h0
 | cons c r ih=>rw[List.reverse_cons];exact h1 _ _ ih
theorem valD_pos:∀(L:Bs),(∀c∈L,digB c=true)->L.head?≠some 48->L≠[]->0<valD L:=by
 refine rev_ind (fun _ _ h=>absurd rfl h) fun r c ih h h0 _=>?_
 rw[valD_snoc]
 by_cases hr:r=[]
 ·subst hr
  have hc:=(digB_nat c).1 (h c (by simp))
  have hn:c≠48:=fun e=>h0 (by rw[e];rfl)
  have h48:(48:UInt8).toNat = 48:=rfl
  have:c.toNat ≠ 48:=fun e=>hn (UInt8.toNat_inj.1 (by rw[e,h48]))
  omega
 ·have:=ih (fun x hx=>h x (by simp[hx])) (by
   cases r with
   | nil=>exact absurd rfl hr
   | cons a t=>simpa using h0) hr
  omega
theorem dec_val:∀(L:Bs),badNum L=false->decDigits (valD L)=L:=by
 have main:∀(L:Bs),(∀c∈L,digB c=true)->L≠[]->(L.head?=some 48->L=[48])->decDigits (valD L)=L:=by
  refine rev_ind (fun _ h _=>absurd rfl h) fun r c ih h _ h0=>?_
  ·have hc:=(digB_nat c).1 (h c (by simp))
   have hcn:UInt8.ofNat (48+(c.toNat - 48))=c:=by
    apply UInt8.toNat_inj.1
    rw[UInt8.toNat_ofNat']
    have:=c.toNat_lt;omega
   by_cases hr:r=[]
   ·subst hr
    simp only[List.nil_append]
    have hv:valD [c]=c.toNat - 48:=by simp[valD]
    rw[hv,decDigits,dif_pos (by omega),hcn]
   ·have hh:r.head?≠some 48:=by
     cases r with
     | nil=>exact absurd rfl hr
     | cons a t =>
      intro e
      have:=h0 (by simpa using e)
      simp at this
    have hpos:=valD_pos r (fun x hx=>h x (by simp[hx])) hh hr
    rw[valD_snoc,decDigits,dif_neg (by omega),show(10*valD r+(c.toNat - 48)) / 10=valD r from by omega,show(10*valD r+(c.toNat - 48))%10=c.toNat - 48 from by omega,hcn]
    rw[ih (fun x hx=>h x (by simp[hx])) hr (fun e=>absurd e hh)]
 intro L hb
 unfold badNum at hb
 split at hb
 ·cases hb
 ·rename_i c r
  simp only[Bool.or_eq_false_iff,Bool.not_eq_false',Bool.and_eq_false_iff]at hb
  refine main _ (fun x hx=>List.all_eq_true.1 hb.1 x hx) (by simp) fun e=>?_
  simp at e
  subst e
  rcases hb.2 with h|h
  ·simp at h
  ·simp at h;rw[h]
def wNot:Bs := [110,111,116]
def wOr:Bs := [111,114]
def wAnd:Bs := [97,110,100]
def wUntil:Bs := [117,110,116,105,108]
def wIf:Bs := [105,102]
def wIs:Bs := [105,115]
def wHas:Bs := [104,97,115]
def wBegins:Bs := [98,101,103,105,110,115]
def wAuthor:Bs := [97,117,116,104,111,114]
def wGroup:Bs := [103,114,111,117,112]
def wKill:Bs := [107,105,108,108]
def wWatch:Bs := [119,97,116,99,104]
def wStop:Bs := [115,116,111,112]
def yLp:Bs := [40]
def yRp:Bs := [41]
def yPlus:Bs := [43]
def yMinus:Bs := [45]
def yEq:Bs := [61]
def wAge:Bs := [97,103,101]
def wBytes:Bs := [98,121,116,101,115]
def wLines:Bs := [108,105,110,101,115]
def wDepth:Bs := [100,101,112,116,104]
def wAnswers:Bs := [97,110,115,119,101,114,115]
def wName:Bs := [110,97,109,101]
def wSubject:Bs := [115,117,98,106,101,99,116]
def wBody:Bs := [98,111,100,121]
structure Tok where
 kind:Nat
 text:Bs
 num:Nat
 col:Nat
abbrev Fl:=Nat × Int
def lowS(c:UInt8):Bool:=isLower (num c)
def blkS(c:UInt8):Bool:=isBlank (num c)
def numM(most:Nat)(d:Bs):Nat × Int:=if badNum d then (0,3) else if most<valD d then (0,2) else (valD d,0)
def endQ:Bs->Nat->Option Nat
 | [],_=>none
 | c::r,i=>if c=34 then some i else if c=92 then (match r with
   | []=>none
   | _::r'=>endQ r' (i+2)) else endQ r (i+1)
def unescQ:Bs->Nat->Bs × Option Nat
 | [],_=>([],none)
 | c::r,i=>if c=92 then (match r with
   | []=>([],some i)
   | d::r'=>if d=34\/d=92 then (d::(unescQ r' (i+2)).1,(unescQ r' (i+2)).2) else ([],some i)) else (c::(unescQ r (i+1)).1,(unescQ r (i+1)).2)
def strT(rest:Bs)(col:Nat):Except Fl (Tok × Nat) :=
 match endQ (rest.drop 1) 1 with
 | none=>.error (col,3)
 | some e =>
  let x:=unescQ ((rest.take e).drop 1) 1
  match x.2 with
  | some i=>.error (col+i,3)
  | none=>if 200<x.1.length then .error (col,5) else if ctlB x.1 then .error (col,6) else .ok (⟨3,x.1,0,col⟩,e+1)
def syms:List Bs := [[33,61], [60,61], [62,61], [40], [41], [43], [45], [61], [60], [62]]
def symT(rest:Bs)(col:Nat):Except Fl (Tok × Nat):=match syms.find? (fun s=>s.isPrefixOf rest) with
 | some s=>.ok (⟨4,s,0,col⟩,s.length)
 | none=>.error (col,6)
def tokT(rest:Bs)(col:Nat):Except Fl (Tok × Nat) :=
 match rest with
 | []=>.error (col,6)
 | c::_ =>
  if lowS c then .ok (⟨1,rest.takeWhile lowS,0,col⟩,(rest.takeWhile lowS).length)
  else if digB c then
   if (numM 2147483647 (rest.takeWhile digB)).2≠0 then .error (col,(numM 2147483647 (rest.takeWhile digB)).2)
   else .ok (⟨2, [],(numM 2147483647 (rest.takeWhile digB)).1,col⟩,(rest.takeWhile digB).length)
  else if c=34 then strT rest col
  else symT rest col
def toksG:Nat->Bs->Nat->Except Fl (List Tok)
 | 0,_,i=>.ok [⟨0, [],0,i+1⟩]
 | g+1,rest,i=>match rest with
  | []=>.ok [⟨0, [],0,i+1⟩]
  | c::r=>if blkS c then toksG g r (i+1) else
   match tokT rest (i+1) with
   | .error f=>.error f
   | .ok (t,n)=>match toksG g (rest.drop n) (i+n) with
    | .error f=>.error f
    | .ok l=>.ok (t::l)
def toksF(line:Bs):Except Fl (List Tok):=toksG (line.length+1) line 0
inductive Cond
 | either (l:List Cond)
 | both (l:List Cond)
 | neg (c:Cond)
 | cmp (f op:Bs) (n:Nat)
 | txt (f m t:Bs)
 | auth (t:Bs)
 | grp (t:Bs)
def numFs:List Bs := [wAge,wBytes,wLines,wDepth,wAnswers]
def txtFs:List Bs := [wName,wSubject,wBody]
def cmpOps:List Bs := [[61], [33,61], [60], [60,61], [62], [62,61]]
def modesL:List Bs := [wIs,wHas,wBegins]
def actsL:List Bs := [yPlus,yMinus,yEq,wKill,wWatch,wStop]
def isT(x:Bs)(ts:List Tok):Bool:=match ts with
 | []=>false
 | t::_=>(t.kind==1 || t.kind==4)&&t.text==x
def colT(ts:List Tok):Nat:=match ts with
 | []=>0
 | t::_=>t.col
abbrev Pr(α:Type):=List Tok->Except Fl (α × List Tok)
def oneF(l:List Bs):Pr Bs:=fun ts=>match ts with
 | []=>.error (0,29)
 | t::r=>if l.any (fun x=>isT x (t::r)) then .ok (t.text,r) else .error (t.col,29)
def numF(most:Nat):Pr Nat:=fun ts=>match ts with
 | []=>.error (0,29)
 | t::r=>if t.kind≠2 then .error (t.col,29) else if most<t.num then .error (t.col,2) else .ok (t.num,r)
def quoF:Pr Tok:=fun ts=>match ts with
 | []=>.error (0,29)
 | t::r=>if t.kind≠3 then .error (t.col,29) else .ok (t,r)
def hexC(c:UInt8):Bool:=digB c || (decide (97<=c.toNat)&&decide (c.toNat<=102))
def authB(t:Bs):Bool:=decide (t.length=32)&&t.all hexC
def bindE{α β:Type}(x:Except Fl α)(k:α->Except Fl β):Except Fl β:=match x with
 | .error f=>.error f
 | .ok a=>k a
def whoF:Pr Cond:=fun ts=>bindE (oneF [wAuthor,wGroup] ts) fun f=>bindE (oneF [wIs] f.2) fun i=>bindE (quoF i.2) fun q =>
 if f.1=wGroup then (if (compF q.1.text).2.2≠0 then .error (q.1.col,3) else .ok (.grp q.1.text,q.2))
 else (if authB q.1.text then .ok (.auth q.1.text,q.2) else .error (q.1.col,3))
def testF:Pr Cond:=fun ts=>match ts with
 | []=>.error (0,29)
 | t::r =>
  if t.kind≠1 then .error (t.col,29)
  else if t.text∈numFs then bindE (oneF cmpOps r) fun o=>bindE (numF 2147483647 o.2) fun n=>.ok (.cmp t.text o.1 n.1,n.2)
  else if t.text∈txtFs then bindE (oneF modesL r) fun m=>bindE (quoF m.2) fun q=>.ok (.txt t.text m.1 q.1.text,q.2)
  else whoF ts
def moreF(word:Bs)(p:Pr Cond):Nat->Pr (List Cond)
 | 0,ts=>.ok ([],ts)
 | g+1,ts=>if isT word ts then bindE (p ts.tail) fun c=>bindE (moreF word p g c.2) fun l=>.ok (c.1::l.1,l.2) else .ok ([],ts)
def joinC(mk:List Cond->Cond)(c:Cond)(l:List Cond):Cond:=match l with
 | []=>c
 | _::_=>mk (c::l)
def listC(word:Bs)(mk:List Cond->Cond)(p:Pr Cond):Pr Cond:=fun ts=>bindE (p ts) fun c=>bindE (moreF word p c.2.length c.2) fun l=>.ok (joinC mk c.1 l.1,l.2)
def bothF(p:Pr Cond):Pr Cond:=listC wAnd .both p
def orF(p:Pr Cond):Pr Cond:=listC wOr .either (bothF p)
def singleF:Nat->Pr Cond
 | n,ts=>if !isT wNot ts && !isT yLp ts then testF ts else match n with
  | 0=>.error (colT ts,9)
  | n+1=>if isT wNot ts then bindE (singleF n ts.tail) fun c=>.ok (.neg c.1,c.2)
   else bindE (orF (singleF n) ts.tail) fun c=>bindE (oneF [yRp] c.2) fun y=>.ok (c.1,y.2)
def condF(n:Nat):Pr Cond:=orF (singleF n)
structure RuleS where
 act:Bs
 amt:Int
 til:Option Nat
 cond:Option Cond
def amtF(a:Bs):Pr Int:=fun ts =>
 if a=yPlus\/a=yMinus then bindE (numF 10000 ts) fun n=>.ok ((n.1:Int),n.2)
 else if a=yEq then (if isT yMinus ts then bindE (numF 10000 ts.tail) fun n=>.ok (-(n.1:Int),n.2) else bindE (numF 10000 ts) fun n=>.ok ((n.1:Int),n.2))
 else .ok (0,ts)
def tilF:Pr (Option Nat):=fun ts=>if isT wUntil ts then bindE (numF 105190559 ts.tail) fun n=>.ok (some n.1,n.2) else .ok (none,ts)
def ifF:Pr (Option Cond):=fun ts=>if isT wIf ts then bindE (condF 32 ts.tail) fun c=>.ok (some c.1,c.2) else .ok (none,ts)
def endT(ts:List Tok):Bool:=match ts with
 | []=>true
 | t::_=>t.kind==0
def ruleF(ts:List Tok):Except Fl RuleS:=bindE (oneF actsL ts) fun a=>bindE (amtF a.1 a.2) fun m=>bindE (tilF m.2) fun u=>bindE (ifF u.2) fun c =>
 if endT c.2 then .ok ⟨a.1,m.1,u.1,c.1⟩ else .error (colT c.2,29)
def lineF(line:Bs)(before:Nat):Except Fl RuleS:=bindE (toksF line) fun ts=>if 200<=before then .error (colT ts,9) else ruleF ts
def idleF(line:Bs):Bool:=match line.dropWhile blkS with
 | []=>true
 | c::_=>c==35
def rulesG:List Bs->Nat->Nat->Except (Nat × Nat × Int) (List RuleS)
 | [],_,_=>.ok []
 | x::r,i,n=>if idleF x then rulesG r (i+1) n else match lineF x n with
  | .error f=>.error (i+1,f.1,f.2)
  | .ok a=>match rulesG r (i+1) (n+1) with
   | .error f=>.error f
   | .ok l=>.ok (a::l)
structure InS where
 name:Bs
 subject:Bs
 body:Bs
 author:Bs
 groups:List Bs
 age:Int
 bytes:Int
 lines:Int
 depth:Int
 answers:Int
def numOf(f:Bs)(x:InS):Int:=if f=wAge then x.age else if f=wBytes then x.bytes else if f=wLines then x.lines else if f=wDepth then x.depth else x.answers
def txtOf(f:Bs)(x:InS):Bs:=if f=wName then x.name else if f=wSubject then x.subject else x.body
def cmpS(a:Int)(op:Bs)(b:Int):Bool:=if op=[61] then decide (a=b) else if op=[33,61] then decide (a≠b) else if op=[60] then decide (a<b) else if op=[60,61] then decide (a<=b) else if op=[62] then decide (b<a) else decide (b<=a)
def inL(s part:Bs):Bool:=match s with
 | []=>part.isEmpty
 | c::r=>part.isPrefixOf (c::r) || inL r part
def txtS(m text t:Bs):Bool:=if m=wIs then foldEq text t else if m=wHas then inL (lowerL text) (lowerL t) else decide (t.length<=text.length)&&foldEq (text.take t.length) t
def hexV(c:UInt8):Nat:=if c.toNat<=57 then c.toNat - 48 else c.toNat - 87
def unhexL:Bs->Bs
 | c::d::r=>UInt8.ofNat (16*hexV c+hexV d)::unhexL r
 | _=>[]
mutual
def holdsF(x:InS):Cond->Bool
 | .either l=>holdsAny x l
 | .both l=>holdsAll x l
 | .neg c => !holdsF x c
 | .cmp f op n=>cmpS (numOf f x) op n
 | .txt f m t=>txtS m (txtOf f x) t
 | .auth t=>x.author==unhexL t
 | .grp t=>x.groups.any fun g=>matchF (compF t).1 g
def holdsAny(x:InS):List Cond->Bool
 | []=>false
 | c::r=>holdsF x c || holdsAny x r
def holdsAll(x:InS):List Cond->Bool
 | []=>true
 | c::r=>holdsF x c&&holdsAll x r
end
def appS(r:RuleS)(x:InS):Bool:=match r.cond with
 | none=>true
 | some c=>holdsF x c
structure OutS where
 score:Int
 killed:Bool
 watched:Bool
 applied:Int
def rateG(x:InS):List RuleS->OutS->OutS
 | [],o=>o
 | r::l,o=>if !appS r x then rateG x l o else
  let o := { o with applied:=o.applied+1 }
  if r.act=yPlus then rateG x l { o with score:=o.score+r.amt }
  else if r.act=yMinus then rateG x l { o with score:=o.score-r.amt }
  else if r.act=yEq then rateG x l { o with score:=r.amt }
  else if r.act=wKill then rateG x l { o with killed:=true }
  else if r.act=wWatch then rateG x l { o with watched:=true }
  else if r.act=wStop then o
  else rateG x l o
def rateF(l:List RuleS)(x:InS):OutS:=rateG x l ⟨0,false,false,0⟩
def escL(s:Bs):Bs:=s.flatMap fun c=>if c=34\/c=92 then [92,c] else [c]
def quoteL(s:Bs):Bs:=34::(escL s ++ [34])
def isOr:Cond->Bool
 | .either _=>true
 | _=>false
def isList:Cond->Bool
 | .either _=>true
 | .both _=>true
 | _=>false
def decI(n:Int):Bs:=if n<0 then 45::decDigits n.natAbs else decDigits n.toNat
mutual
def printF:Cond->Bs
 | .either l=>printOr l
 | .both l=>printAnd l
 | .neg c=>if isList c then wNot++([32,40]++(printF c ++ [41])) else wNot++(32::printF c)
 | .cmp f op n=>f++(32::(op++(32::decDigits n)))
 | .txt f m t=>f++(32::(m++(32::quoteL t)))
 | .auth t=>wAuthor++(32::(wIs++(32::quoteL t)))
 | .grp t=>wGroup++(32::(wIs++(32::quoteL t)))
def printOr:List Cond->Bs
 | []=>[]
 | [c]=>printF c
 | c::d::r=>printF c++([32,111,114,32]++printOr (d::r))
def printAnd:List Cond->Bs
 | []=>[]
 | [c]=>if isOr c then 40::(printF c ++ [41]) else printF c
 | c::d::r=>(if isOr c then 40::(printF c ++ [41]) else printF c)++([32,97,110,100,32]++printAnd (d::r))
end
def printR(r:RuleS):Bs :=
 r.act++((if r.act=yPlus\/r.act=yMinus\/r.act=yEq then decI r.amt else [])++((match r.til with
  | none=>[]
  | some u=>[32,117,110,116,105,108,32]++decDigits u)++(match r.cond with
  | none=>[]
  | some c=>[32,105,102,32]++printF c)))
def printRs(l:List RuleS):Bs:=l.flatMap fun r=>printR r ++ [10]
end Go.Proofs.YtannhfnpigiggaaGreatDoor
namespace Go.Proofs.YtannhfnpigiggaaGreatDoor
set_option linter.unusedSimpArgs false
set_option linter.unusedVariables false
open Go.RowKit
theorem toL_head{s:ByteArray}(h:0<s.size):∃r,toL s=s[0]::r/\r.length+1=s.size:=by
 have hl:(toL s).length=s.size:=toL_length s
 cases e:toL s with
 | nil=>rw[e]at hl;simp at hl;omega
 | cons c r =>
  have:=toL_getElem s 0 h
  simp only[e,List.getElem_cons_zero]at this
  exact⟨r,by rw[this],by rw[e]at hl;simpa using hl⟩
theorem skip_dig(L:Bs):L.all digB=decide (¬ skipFrom isDigit L 0<L.length):=by
 have:skipFrom isDigit L 0=(L.takeWhile digB).length:=by unfold skipFrom;simp;rfl
 rw[this]
 induction L with
 | nil=>rfl
 | cons c r ih =>
  rw[List.all_cons,List.takeWhile_cons]
  cases h:digB c with
  | false=>simp
  | true =>
   rw[if_pos rfl,ih (by unfold skipFrom;simp;rfl),Bool.true_and]
   simp
theorem valD_take_le(L:Bs)(k:Nat):valD (L.take k)<=valD L:=by
 have main:∀(B A:Bs),valD A<=valD (A++B):=by
  intro B
  induction B with
  | nil=>intro A;simp
  | cons c r ih =>
   intro A
   have h1:=ih (A ++ [c])
   rw[List.append_assoc]at h1
   have h2:=valD_snoc A c
   simp only[List.singleton_append]at h1
   omega
 conv=>rhs;rw[<-List.take_append_drop k L]
 exact main _ _
theorem badNum_cons(c:UInt8)(r:Bs):badNum (c::r)=(!((c::r).all digB) || (c==48 && !r.isEmpty)):=rfl
theorem class_isDigit:ClassIs 104 isDigit:=⟨Tryz.call104,asc_isDigit⟩
theorem dig_num{c:UInt8}(h:digB c=true):48<=num c/\num c<=57:=by have:=(digB_nat c).1 h;simp only[num];omega
set_option maxHeartbeats 4000000 in
set_option maxRecDepth 100000 in
theorem asc_numberM(s:ByteArray)(w:World)(hs:s.size<=1000000):Calls Tryz.prog 105 #[.string s,.int .i64 2147483647] w fun e w'=>e=.returned (.tuple #[.int .i64 ((numM 2147483647 (toL s)).1:Nat),.int .i64 (numM 2147483647 (toL s)).2])/\w=w':=by
 have HL:=Lib.hid (toL_length s)
 have HSK:=Lib.hid (fun wx=>show Calls Tryz.prog 46 #[.string s,.int .i64 0,.func (.func 104) #[] #[]] wx fun e w'=>e=.returned (.int .i64 (skipFrom isDigit (toL s) 0))/\wx=w' from asc_skip 104 isDigit class_isDigit s 0 wx (by unfold maxLen;omega) (Nat.zero_le _))
 have HAD:=Lib.hid (skip_dig (toL s))
 rw[HL.out]at HAD
 have hskle:=skipFrom_le isDigit (toL s) 0 (Nat.zero_le _)
 rw[HL.out]at hskle
 generalize skipFrom isDigit (toL s) 0=sk at *
 by_cases h0:s.size=0
 ·have h1:s.toList=[]:=toList_nil h0
  have HV:=Lib.hid (show numM 2147483647 (toL s)=(0,3) from by rw[List.eq_nil_of_length_eq_zero (HL.out.trans h0)];rfl)
  clear h0
  go_enter Tryz.func105,Tryz.ntmps105
  go_wp2_with fail
  go_ret2
  exact⟨by rw[HV.out];rfl,rfl⟩
 ·have h1:s.toList.isEmpty=false:=toList_cons h0
  have h2:0<s.size:=by omega
  obtain⟨r,er,hr⟩:=toL_head h2
  have HER:=Lib.hid er;clear er
  by_cases h3:sk<s.size
  ·have h3':(sk:Int)<(s.size:Int):=by omega
   have HV:=Lib.hid (show numM 2147483647 (toL s)=(0,3) from by
    have hb:badNum (toL s)=true:=by
     rw[HER.out,badNum_cons, ← HER.out,HAD.out,decide_eq_false (by omega)];rfl
    unfold numM;rw[if_pos hb])
   clear h0 h3
   go_enter Tryz.func105,Tryz.ntmps105
   go_wp2_with ((go_at_call 46;(with_reducible refine(HSK.out _).mono ?_);rintro e w' ⟨rfl,rfl⟩))
   go_ret2
   exact⟨by rw[HV.out];rfl,rfl⟩
  ·obtain rfl:sk=s.size:=by omega
   have hall:(toL s).all digB=true:=by rw[HAD.out,decide_eq_true (by omega)]
   by_cases h4:1<s.size/\s[0]=48
   ·obtain⟨g1,g2⟩:=h4
    have g1':(1:Int)<(s.size:Int):=by omega
    have g2':(num s[0]==48)=true:=by rw[g2];rfl
    have HV:=Lib.hid (show numM 2147483647 (toL s)=(0,3) from by
     have hb:badNum (toL s)=true:=by
      rw[HER.out,badNum_cons]
      cases r with
      | nil=>simp at hr;omega
      | cons a t=>simp[g2]
     unfold numM;rw[if_pos hb])
    clear h0 h3 hall
    go_enter Tryz.func105,Tryz.ntmps105
    go_wp2_with ((go_at_call 46;(with_reducible refine(HSK.out _).mono ?_);rintro e w' ⟨rfl,rfl⟩))
    go_ret2
    exact⟨by rw[HV.out];rfl,rfl⟩
   ·have HBD:=Lib.hid (show badNum (toL s)=false from by
     have hall2:=hall
     rw[HER.out]at hall2
     rw[HER.out,badNum_cons,hall2]
     simp only[Bool.not_true,Bool.false_or]
     cases r with
     | nil=>simp
     | cons a t =>
      have:s[0]≠48:=fun e=>h4 ⟨by simp at hr;omega,e⟩
      simp[this])
    have HV:=Lib.hid (show numM 2147483647 (toL s)=if 2147483647<valD (toL s) then (0,2) else (valD (toL s),0) from by unfold numM;rw[if_neg (by rw[HBD.out];simp)])
    have HDG:=Lib.hid (fun k (hk:k<s.size)=>show digB (s[k]'hk)=true from List.all_eq_true.1 hall _ (by rw[<-toL_getElem s k hk];exact List.getElem_mem _))
    have HTK:=Lib.hid (fun k (hk:k<s.size)=>show valD ((toL s).take (k+1))=10*valD ((toL s).take k)+((s[k]'hk).toNat - 48) from by
     have hk':k<(toL s).length:=by rw[HL.out];exact hk
     rw[List.take_succ_eq_append_getElem hk',toL_getElem s k hk,valD_snoc])
    have HLE:=Lib.hid (fun k=>valD_take_le (toL s) k)
    have hway:(s.size:Int)<=1\/((1:Int)<(s.size:Int)/\(num s[0]==48)=false):=by
     by_cases g:1<s.size
     ·refine .inr ⟨by omega,?_⟩
      rw[show(num s[0]==48)=decide (s[0]=48) from numq _ 48 (by omega)]
      exact decide_eq_false fun e=>h4 ⟨g,e⟩
     ·exact .inl (by omega)
    clear h0 h3 hall h4 HBD HAD
    rcases hway with g|⟨g,g'⟩
    all_goals
     go_enter Tryz.func105,Tryz.ntmps105
     go_wp2_with ((go_at_call 46;(with_reducible refine(HSK.out _).mono ?_);rintro e w' ⟨rfl,rfl⟩))
     go_loop [32,6,7,8] (fun v32 v6 _ _=>∃k n:Nat,k<=s.size/\v32=.int .i64 (k:Int)/\v6=.int .i64 (n:Int)/\n=valD ((toL s).take k)/\n<=2147483647) (fun v32 _ _ _=>s.size-(intOf v32).toNat)
     case atStart=>exact⟨0,0,by omega,rfl,rfl,rfl,by omega⟩
     case round =>
      obtain⟨k,n,hk,rfl,rfl,hn,hnm⟩:=hrel
      have HN:=Lib.hid hn;clear hn
      have k0:(0:Int)<=(k:Int):=by omega
      by_cases hlt:k<s.size
      ·have k1:(k:Int)<(s.size:Int):=by omega
       obtain⟨d0,d1⟩:=dig_num (HDG.out k hlt)
       have HSTEP:=Lib.hid (HTK.out k hlt)
       have HLEK:=Lib.hid (HLE.out (k+1))
       obtain⟨d,hd⟩:∃d:Nat,(s[k]'hlt).toNat - 48=d:=⟨_,rfl⟩
       have hdn:num (s[k]'hlt)-48=(d:Int):=by simp only[num]at d0⊢;omega
       have hd9:d<=9:=by simp only[num]at d1;omega
       have x1:IntKind.u8.wrap (num (s[k]'hlt)-48)=(d:Int):=by rw[hdn];exact IntWalk.u8_in _ (by omega)
       have x2:IntKind.i64.wrap (d:Int)=(d:Int):=IntWalk.i64_in _ (by omega)
       have x3:IntKind.i64.wrap (10*(n:Int))=10*(n:Int):=IntWalk.i64_in _ (by omega)
       have x4:IntKind.i64.wrap (10*(n:Int)+(d:Int))=10*(n:Int)+(d:Int):=IntWalk.i64_in _ (by omega)
       have HRNG:=Lib.hid (fun (hb:2147483647<10*n+d)=>show numM 2147483647 (toL s)=(0,2) from by
        rw[HV.out,if_pos]
        have h1:=HLEK.out;have h2:=HSTEP.out
        rw[<-HN.out]at h2;omega)
       by_cases hbig:214748364<n
       ·have b1:(214748364:Int)<(n:Int):=by omega
        have HR:=Lib.hid (HRNG.out (by omega))
        go_wp2_with fail
        go_ret2
        exact⟨by rw[HR.out];rfl,rfl⟩
       ·have b1:(n:Int)<=214748364:=by omega
        by_cases hlast:n=214748364/\7<d
        ·have HR:=Lib.hid (HRNG.out (by omega))
         have b3:((n:Int)==214748364)=true:=by rw[beq_iff_eq];omega
         have b2:(7:Int)<(d:Int):=by omega
         clear hlast
         go_wp2_with fail
         go_ret2
         exact⟨by rw[HR.out];rfl,rfl⟩
        have hfit:10*n+d<=2147483647:=by omega
        have hway2:((n:Int)==214748364)=true/\(d:Int)<=7\/((n:Int)==214748364)=false:=by
         by_cases e:n=214748364
         ·exact .inl ⟨by rw[beq_iff_eq];omega,by omega⟩
         ·refine .inr ?_
          rw[beq_eq_false_iff_ne];omega
        clear hlast
        have HNX:=Lib.hid (show 10*n+d=valD ((toL s).take (k+1)) from by rw[HSTEP.out, ← HN.out,hd])
        rcases hway2 with⟨b3,b2⟩|b3
        all_goals
         go_wp2_with fail
         go_round
         case rel=>exact⟨k+1,10*n+d,by omega,by go_num,by go_num,HNX.out,by omega⟩
         case measure=>simp[intOf]<;>omega
      ·have k1:(s.size:Int)<=(k:Int):=by omega
       have HR:=Lib.hid (show numM 2147483647 (toL s)=(n,0) from by
        have:(toL s).take k=toL s:=List.take_of_length_le (by rw[HL.out];omega)
        have h1:=HN.out
        rw[this]at h1
        rw[HV.out,if_neg (by omega), ← h1])
       go_wp2_with fail
       go_ret2
       exact⟨by rw[HR.out];rfl,rfl⟩
end Go.Proofs.YtannhfnpigiggaaGreatDoor
