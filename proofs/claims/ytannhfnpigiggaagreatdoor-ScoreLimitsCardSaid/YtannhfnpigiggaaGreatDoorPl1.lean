
namespace Go.Proofs.YtannhfnpigiggaaGreatDoor
set_option linter.unusedSimpArgs false
set_option linter.unusedVariables false
def isLower(c:Int):Bool:=decide (97<=c)&&decide (c<=122)
def isUpper(c:Int):Bool:=decide (65<=c)&&decide (c<=90)
def isLetter(c:Int):Bool:=isLower c || isUpper c
def isDigit(c:Int):Bool:=decide (48<=c)&&decide (c<=57)
def isVisible(c:Int):Bool:=decide (33<=c)&&decide (c<=126)
def isBlank(c:Int):Bool:=(c==32) || (c==9)
abbrev num(c:UInt8):Int:=(c.toNat:Int)
def toL(s:ByteArray):List UInt8:=s.data.toList
theorem toL_length(s:ByteArray):(toL s).length=s.size:=by simp[toL]
theorem toL_getElem(s:ByteArray)(k:Nat)(h:k<s.size):(toL s)[k]'(by rw[toL_length];exact h)=s[k]:=by simp[toL];rfl
theorem toL_inj{s t:ByteArray}(h:toL s=toL t):s=t:=by
 cases s with|mk a=>cases t with|mk b=>exact congrArg _ (Array.toList_inj.1 h)
def skipFrom(p:Int->Bool)(l:List UInt8)(k:Nat):Nat:=k+((l.drop k).takeWhile fun c=>p (num c)).length
theorem drop_cons(l:List UInt8)(k:Nat)(h:k<l.length):l.drop k=l[k]::l.drop (k+1):=List.drop_eq_getElem_cons h
theorem skipFrom_end(p:Int->Bool)(l:List UInt8)(k:Nat)(h:l.length<=k):skipFrom p l k=k:=by
 simp[skipFrom,List.drop_eq_nil_of_le h]
theorem skipFrom_stop(p:Int->Bool)(l:List UInt8)(k:Nat)(h:k<l.length)(hp:p (num l[k])=false):skipFrom p l k=k:=by
 rw[skipFrom,drop_cons l k h,List.takeWhile_cons,hp];simp
theorem skipFrom_step(p:Int->Bool)(l:List UInt8)(k:Nat)(h:k<l.length)(hp:p (num l[k])=true):skipFrom p l k=skipFrom p l (k+1):=by
 rw[skipFrom,skipFrom,drop_cons l k h,List.takeWhile_cons,hp];simp;omega
theorem skipFrom_le(p:Int->Bool)(l:List UInt8)(k:Nat)(h:k<=l.length):skipFrom p l k<=l.length:=by
 have h1:=(List.takeWhile_prefix (l:=l.drop k) (fun c=>p (num c))).length_le
 simp[skipFrom] at *;omega
abbrev Bs:=List UInt8
def ofL(l:List UInt8):ByteArray:=⟨l.toArray⟩
theorem toL_ofL(l:List UInt8):toL (ofL l)=l:=rfl
theorem ofL_toL(s:ByteArray):ofL (toL s)=s:=toL_inj (toL_ofL _)
theorem ofL_size(l:List UInt8):(ofL l).size=l.length:=by rw[<-toL_length,toL_ofL]
def cutL(l:List UInt8)(i k:Nat):List UInt8:=(l.drop i).take (k-i)
theorem extract_ofL(s:ByteArray)(i k:Nat):s.extract i k=ofL (cutL (toL s) i k):=by
 apply toL_inj
 rw[toL_ofL]
 simp[toL,cutL,List.extract]
theorem cutL_length(l:List UInt8)(i k:Nat)(h:k<=l.length):(cutL l i k).length=k-i:=by simp[cutL];omega
def wordsAux:List UInt8->List UInt8->List (List UInt8)
 | [],cur=>if cur=[] then [] else [cur]
 | c::r,cur=>if isBlank (num c) then (if cur=[] then wordsAux r [] else cur::wordsAux r []) else wordsAux r (cur ++ [c])
def words(l:List UInt8):List (List UInt8):=wordsAux l []
theorem takeWhile_eq_take(p:UInt8->Bool)(l:List UInt8):l.takeWhile p=l.take (l.takeWhile p).length:=by
 induction l with
 | nil=>rfl
 | cons c r ih=>by_cases h:p c=true<;>simp[h];exact ih
theorem cut_skip(p:Int->Bool)(l:List UInt8)(k:Nat):cutL l k (skipFrom p l k)=(l.drop k).takeWhile fun c=>p (num c):=by
 rw[takeWhile_eq_take,cutL,skipFrom];congr 1;omega
theorem byte_all(p:UInt8->Bool)(h:(List.range 256).all (fun n=>p (UInt8.ofNat n))=true)(c:UInt8):p c=true:=by
 have h1:=List.all_eq_true.1 h c.toNat (List.mem_range.2 (UInt8.toNat_lt c))
 simpa using h1
def nameC:Bs := [43,45,46,48,49,50,51,52,53,54,55,56,57,95,97,98,99,100,101,102,103,104,105,106,107,108,109,110,111,112,113,114,115,116,117,118,119,120,121,122]
def isAl(c:UInt8):Bool:=isLower (num c) || isDigit (num c)
def isChar(c:UInt8):Bool:=isAl c || c==43 || c==45 || c==95 || c==46
theorem nameC_has(c:UInt8):nameC.contains c=isChar c:=by
 have:=byte_all (fun c=>nameC.contains c==isChar c) (by decide +kernel) c
 simpa using this
theorem mem_nameC(c:UInt8):c∈nameC↔isChar c=true:=by
 rw[<-nameC_has,List.contains_iff_mem]
theorem char_lt(c:UInt8)(h:isChar c=true):c.toNat < 128:=by
 have:=byte_all (fun c => !isChar c || decide (c.toNat < 128)) (by decide +kernel) c
 simpa[h] using this
def rangeB(c d:UInt8):Bs:=(List.range (d.toNat + 1-c.toNat)).map fun i=>UInt8.ofNat (c.toNat + i)
theorem mem_rangeB(c d x:UInt8):x∈rangeB c d↔c.toNat<=x.toNat/\x.toNat<=d.toNat:=by
 unfold rangeB
 rw[List.mem_map]
 constructor
 ·rintro⟨i,hi,rfl⟩
  have h1:=List.mem_range.1 hi
  have h2:=UInt8.toNat_lt d
  rw[UInt8.toNat_ofNat',Nat.mod_eq_of_lt (by omega)]
  omega
 ·rintro⟨h1,h2⟩
  refine⟨x.toNat - c.toNat,List.mem_range.2 (by omega),?_⟩
  rw[show c.toNat + (x.toNat - c.toNat)=x.toNat by omega]
  simp
def okRange(c d:UInt8):Bool:=decide (c.toNat<=d.toNat)&&(isLower (num c)==isLower (num d))&&(isDigit (num c)==isDigit (num d))
def plainC(f:Bool)(c:UInt8):Bool:=isAl c || c==43 || c==95 || c==46 || (c==45&&f)
def isRange(c:UInt8)(r:Bs):Bool:=isAl c&&(r[0]?==some 45)&&decide (1<r.length)
def itemsF:Nat->Bool->Bs->Bs × Nat
 | _,_, []=>([],0)
 | k+1,f,_::r=>((itemsF k f r).1,(itemsF k f r).2+1)
 | 0,f,c::r =>
  if isRange c r then (if okRange c (r.getD 1 0) then (rangeB c (r.getD 1 0)++(itemsF 2 false r).1,(itemsF 2 false r).2+1) else ([],0))
  else if plainC f c then (c::(itemsF 0 false r).1,(itemsF 0 false r).2+1) else ([],0)
theorem itemsF_skip(l:Bs):∀k f,k<=l.length->itemsF k f l=((itemsF 0 f (l.drop k)).1,(itemsF 0 f (l.drop k)).2+k):=by
 induction l with
 | nil=>intro k f h;simp at h;subst h;simp
 | cons c r ih =>
  intro k f h
  cases k with
  | zero=>simp
  | succ k =>
   rw[itemsF,ih k f (by simpa using h)]
   simp;omega
theorem itemsF_end(f:Bool):itemsF 0 f []=([],0):=by simp[itemsF]
theorem itemsF_range(f:Bool)(c:UInt8)(r:Bs)(h:isRange c r=true)(ho:okRange c (r.getD 1 0)=true) :
  itemsF 0 f (c::r)=(rangeB c (r.getD 1 0)++(itemsF 0 false (r.drop 2)).1,(itemsF 0 false (r.drop 2)).2+3):=by
 have hl:2<=r.length:=by simp[isRange]at h;omega
 rw[itemsF,if_pos h,if_pos ho,itemsF_skip r 2 false hl]
theorem itemsF_bad(f:Bool)(c:UInt8)(r:Bs)(h:isRange c r=true)(ho:okRange c (r.getD 1 0)=false):itemsF 0 f (c::r)=([],0):=by
 rw[itemsF,if_pos h,if_neg (by rw[ho];simp)]
theorem itemsF_one(f:Bool)(c:UInt8)(r:Bs)(h:isRange c r=false)(ho:plainC f c=true) :
  itemsF 0 f (c::r)=(c::(itemsF 0 false r).1,(itemsF 0 false r).2+1):=by
 rw[itemsF,if_neg (by simp[h]),if_pos ho]
theorem itemsF_stop(f:Bool)(c:UInt8)(r:Bs)(h:isRange c r=false)(ho:plainC f c=false):itemsF 0 f (c::r)=([],0):=by
 rw[itemsF,if_neg (by simp[h]),if_neg (by simp[ho])]
theorem okRange_char{c d x:UInt8}(hc:isAl c=true)(h:okRange c d=true)(h1:c.toNat<=x.toNat)(h2:x.toNat<=d.toNat):isAl x=true:=by
 simp[isAl,isLower,isDigit]at hc⊢
 simp[okRange]at h
 obtain⟨⟨h3,h4⟩,h5⟩:=h
 rw[Bool.eq_iff_iff]at h4 h5
 simp[isLower,isDigit]at h4 h5
 simp only[num] at *
 omega
theorem isAl_char{c:UInt8}(h:isAl c=true):isChar c=true:=by simp[isChar,h]
theorem plainC_char{f:Bool}{c:UInt8}(h:plainC f c=true):isChar c=true:=by
 simp[plainC]at h;simp[isChar];rcases h with(((h|h)|h)|h)|h<;>simp[h]
theorem itemsF_chars:∀(n:Nat) (l:Bs),l.length<=n->∀f,(∀c∈(itemsF 0 f l).1,isChar c=true)/\(∀c∈l.take (itemsF 0 f l).2,isChar c=true)/\(itemsF 0 f l).2<=l.length/\(itemsF 0 f l).1.length<=256*(itemsF 0 f l).2:=by
 intro n
 induction n with
 | zero=>intro l h f;have:l=[]:=List.eq_nil_of_length_eq_zero (by omega);subst this;simp[itemsF]
 | succ n ih =>
  intro l h f
  cases l with
  | nil=>simp[itemsF]
  | cons c r =>
   simp at h
   by_cases hr:isRange c r=true
   ·by_cases ho:okRange c (r.getD 1 0)=true
    ·have h0:=hr
     simp[isRange]at h0
     obtain⟨⟨ha,h45⟩,hl⟩:=h0
     obtain⟨i1,i2,i3,i4⟩:=ih (r.drop 2) (by simp;omega) false
     rw[itemsF_range f c r hr ho]
     have hd:=okRange_char ha ho (x:=r.getD 1 0) (by simp only[okRange,Bool.and_eq_true,decide_eq_true_eq]at ho;exact ho.1.1) (Nat.le_refl _)
     refine⟨fun x hx=>?_,?_,?_,?_⟩
     ·rcases List.mem_append.1 hx with hx|hx
      ·obtain⟨h1,h2⟩:=(mem_rangeB _ _ _).1 hx
       exact isAl_char (okRange_char ha ho h1 h2)
      ·exact i1 x hx
     ·match r,hl with
      | a::b::r',_ =>
       simp at h45 hd
       intro x hx
       simp at hx i2
       rcases hx with rfl|rfl|rfl|hx
       ·exact isAl_char ha
       ·subst h45;decide
       ·exact isAl_char hd
       ·exact i2 x hx
     ·simp at i3⊢;omega
     ·simp[rangeB]at i4⊢
      have:=UInt8.toNat_lt (r[1]?.getD 0);omega
    ·rw[itemsF_bad f c r hr (by simpa using ho)];simp
   ·by_cases hp:plainC f c=true
    ·obtain⟨i1,i2,i3,i4⟩:=ih r (by omega) false
     rw[itemsF_one f c r (by simpa using hr) hp]
     refine⟨fun x hx=>?_,fun x hx=>?_,by simp;omega,by simp;omega⟩
     ·rcases List.mem_cons.1 hx with rfl|hx
      ·exact plainC_char hp
      ·exact i1 x hx
     ·simp at hx
      rcases hx with rfl|hx
      ·exact plainC_char hp
      ·exact i2 x hx
    ·rw[itemsF_stop f c r (by simpa using hr) (by simpa using hp)];simp
def classF(l:Bs):Option (Bs × Nat) :=
 let neg:=l[1]?==some 94
 let fr:=if neg then 2 else 1
 let x:=itemsF 0 true (l.drop fr)
 if x.2=0\/l[fr+x.2]?≠some 93 then none else some (nameC.filter (fun c=>x.1.contains c != neg),fr+x.2+1)
inductive Em where
 | lit (c:UInt8)
 | single
 | star
 | cls (l:Bs)
deriving DecidableEq
def Em.chars:Em->Bs
 | .lit c=>[c]
 | .single=>nameC
 | .star=>nameC
 | .cls l=>l
def Em.isStar:Em->Bool
 | .star=>true
 | _=>false
def Em.Ok(e:Em):Prop := ∃p:UInt8->Bool,e.chars=nameC.filter p
theorem Em.Ok.lit{c:UInt8}(h:isChar c=true):(Em.lit c).Ok:=by
 refine⟨fun x=>x==c,?_⟩
 have:=byte_all (fun c => !isChar c || (nameC.filter (fun x=>x==c) == [c])) (by decide +kernel) c
 simp[h]at this
 simp[Em.chars,this]
theorem filter_true(l:Bs):l.filter (fun _=>true)=l:=by simp
theorem Em.Ok.single:Em.single.Ok:=⟨fun _=>true,(filter_true _).symm⟩
theorem Em.Ok.star:Em.star.Ok:=⟨fun _=>true,(filter_true _).symm⟩
def compGo:Nat->Bs->Nat->List Em->List Em × Nat × Int
 | _, [],_,acc=>(acc,0,0)
 | k+1,_::r,i,acc=>compGo k r (i+1) acc
 | 0,c::r,i,acc =>
  if c=63 then compGo 0 r (i+1) (acc ++ [.single])
  else if c=42 then compGo 0 r (i+1) (acc ++ [.star])
  else if c=91 then (match classF (c::r) with|none=>([],i,3)|some x=>compGo (x.2-1) r (i+1) (acc ++ [.cls x.1]))
  else if isChar c then compGo 0 r (i+1) (acc ++ [.lit c])
  else ([],i,6)
def compF(l:Bs):List Em × Nat × Int:=if l.length=0 then ([],0,4) else if 80<l.length then ([],80,5) else compGo 0 l 0 []
theorem compGo_skip(l:Bs):∀k i acc,k<=l.length->compGo k l i acc=compGo 0 (l.drop k) (i+k) acc:=by
 induction l with
 | nil=>intro k i acc h;simp at h;subst h;simp
 | cons c r ih =>
  intro k i acc h
  cases k with
  | zero=>simp
  | succ k =>
   rw[compGo,ih k _ _ (by simpa using h)]
   simp[Nat.add_assoc,Nat.add_comm 1 k]
theorem compGo_end(i:Nat)(acc:List Em):compGo 0 [] i acc=(acc,0,0):=by simp[compGo]
theorem compGo_any(r:Bs)(i:Nat)(acc:List Em):compGo 0 (63::r) i acc=compGo 0 r (i+1) (acc ++ [.single]):=by rw[compGo,if_pos rfl]
theorem compGo_star(r:Bs)(i:Nat)(acc:List Em):compGo 0 (42::r) i acc=compGo 0 r (i+1) (acc ++ [.star]):=by rw[compGo,if_neg (by decide),if_pos rfl]
theorem compGo_noclass(r:Bs)(i:Nat)(acc:List Em)(h:classF (91::r)=none):compGo 0 (91::r) i acc=([],i,3):=by
 rw[compGo,if_neg (by decide),if_neg (by decide),if_pos rfl,h]
theorem compGo_class(r:Bs)(i:Nat)(acc:List Em)(x:Bs)(n:Nat)(h:classF (91::r)=some (x,n))(h0:0<n)(hn:n<=(91::r).length):compGo 0 (91::r) i acc=compGo 0 ((91::r).drop n) (i+n) (acc ++ [.cls x]):=by
 rw[compGo,if_neg (by decide),if_neg (by decide),if_pos rfl,h]
 simp at hn
 show compGo (n-1) r (i+1) _=_
 rw[compGo_skip r _ _ _ (by omega)]
 match n,h0 with
 | n+1,_=>simp[Nat.add_assoc,Nat.add_comm 1 n]
theorem compGo_lit(c:UInt8)(r:Bs)(i:Nat)(acc:List Em)(h1:c≠63)(h2:c≠42)(h3:c≠91)(hc:isChar c=true):compGo 0 (c::r) i acc=compGo 0 r (i+1) (acc ++ [.lit c]):=by
 rw[compGo,if_neg h1,if_neg h2,if_neg h3,if_pos hc]
theorem compGo_bad(c:UInt8)(r:Bs)(i:Nat)(acc:List Em)(h1:c≠63)(h2:c≠42)(h3:c≠91)(hc:isChar c=false):compGo 0 (c::r) i acc=([],i,6):=by
 rw[compGo,if_neg h1,if_neg h2,if_neg h3,if_neg (by simp[hc])]
theorem classF_range{l:Bs}{x:Bs}{n:Nat}(h:classF l=some (x,n)):2<n/\n<=l.length/\(Em.cls x).Ok:=by
 unfold classF at h
 simp only at h
 have hfr:1<=(if (l[1]?==some 94)=true then 2 else 1):=by split<;>omega
 generalize (if (l[1]?==some 94)=true then 2 else 1)=fr at h hfr
 by_cases hn:(itemsF 0 true (l.drop fr)).2=0\/l[fr+(itemsF 0 true (l.drop fr)).2]?≠some 93
 ·rw[if_pos hn]at h;cases h
 ·rw[if_neg hn]at h
  simp only[Option.some.injEq,Prod.mk.injEq]at h
  obtain⟨rfl,rfl⟩:=h
  simp only[not_or,Decidable.not_not]at hn
  obtain⟨h1,h2⟩:=hn
  have h3:=(List.getElem?_eq_some_iff.1 h2).1
  exact⟨by omega,by omega,⟨_,by rw[Em.chars]⟩⟩
example:(compF [99,111,109,112,46,42]).1.length=6:=by decide +kernel
example:compF [97,91,98]=([],1,3):=by decide +kernel
theorem compGo_ok:∀(n:Nat) (l:Bs),l.length<=n->∀i acc,(∀e∈acc,e.Ok)->∀e∈(compGo 0 l i acc).1,e.Ok:=by
 intro n
 induction n with
 | zero=>intro l h i acc ha;have:l=[]:=List.eq_nil_of_length_eq_zero (by omega);subst this;simpa[compGo] using ha
 | succ n ih =>
  intro l h i acc ha
  have snoc:∀e:Em,e.Ok->∀x∈acc ++ [e],x.Ok:=fun e he x hx=>by
   rcases List.mem_append.1 hx with hx|hx
   ·exact ha x hx
   ·simp at hx;subst hx;exact he
  cases l with
  | nil=>simpa[compGo] using ha
  | cons c r =>
   simp at h
   by_cases h1:c=63
   ·subst h1;rw[compGo_any];exact ih r h _ _ (snoc _ Em.Ok.single)
   by_cases h2:c=42
   ·subst h2;rw[compGo_star];exact ih r h _ _ (snoc _ Em.Ok.star)
   by_cases h3:c=91
   ·subst h3
    cases hc:classF (91::r) with
    | none=>rw[compGo_noclass _ _ _ hc];simp
    | some y =>
     obtain⟨x,m⟩:=y
     obtain⟨g1,g2,g3⟩:=classF_range hc
     rw[compGo_class _ _ _ x m hc (by omega) g2]
     exact ih _ (by simp at g2⊢;omega) _ _ (snoc _ g3)
   by_cases hc:isChar c=true
   ·rw[compGo_lit _ _ _ _ h1 h2 h3 hc];exact ih r h _ _ (snoc _ (Em.Ok.lit hc))
   ·rw[compGo_bad _ _ _ _ h1 h2 h3 (by simpa using hc)];simp
theorem compF_ok(l:Bs):∀e∈(compF l).1,e.Ok:=by
 unfold compF
 split
 ·simp
 ·split
  ·simp
  ·exact compGo_ok _ l (Nat.le_refl _) _ _ (by simp)
theorem compGo_len:∀(n:Nat) (l:Bs),l.length<=n->∀i acc,(compGo 0 l i acc).1.length<=acc.length+l.length/\(compGo 0 l i acc).2.1<=i+l.length/\((compGo 0 l i acc).2.2≠0->(compGo 0 l i acc).1=[])/\0<=(compGo 0 l i acc).2.2/\(compGo 0 l i acc).2.2<=6:=by
 intro n
 induction n with
 | zero=>intro l h i acc;have:l=[]:=List.eq_nil_of_length_eq_zero (by omega);subst this;simp[compGo]
 | succ n ih =>
  intro l h i acc
  cases l with
  | nil=>simp[compGo]
  | cons c r =>
   simp at h
   have step:∀e:Em,compGo 0 (c::r) i acc=compGo 0 r (i+1) (acc ++ [e])->_:=fun e he=>by
    have:=ih r h (i+1) (acc ++ [e])
    rw[<-he]at this
    simp at this
    exact(show(compGo 0 (c::r) i acc).1.length<=acc.length+(c::r).length/\(compGo 0 (c::r) i acc).2.1<=i+(c::r).length/\((compGo 0 (c::r) i acc).2.2≠0->(compGo 0 (c::r) i acc).1=[])/\0<=(compGo 0 (c::r) i acc).2.2/\(compGo 0 (c::r) i acc).2.2<=6 from
     ⟨by simp;omega,by simp;omega,this.2.2.1,this.2.2.2.1,this.2.2.2.2⟩)
   by_cases h1:c=63
   ·subst h1;exact step _ (compGo_any _ _ _)
   by_cases h2:c=42
   ·subst h2;exact step _ (compGo_star _ _ _)
   by_cases h3:c=91
   ·subst h3
    cases hc:classF (91::r) with
    | none=>rw[compGo_noclass _ _ _ hc];simp
    | some y =>
     obtain⟨x,m⟩:=y
     obtain⟨g1,g2,g3⟩:=classF_range hc
     rw[compGo_class _ _ _ x m hc (by omega) g2]
     have:=ih ((91::r).drop m) (by simp at g2⊢;omega) (i+m) (acc ++ [.cls x])
     simp only[List.length_append,List.length_drop,List.length_cons,List.length_nil]at this g2⊢
     exact⟨by omega,by omega,this.2.2.1,this.2.2.2.1,this.2.2.2.2⟩
   by_cases hc:isChar c=true
   ·exact step _ (compGo_lit _ _ _ _ h1 h2 h3 hc)
   ·rw[compGo_bad _ _ _ _ h1 h2 h3 (by simpa using hc)];simp
theorem compF_len(l:Bs):(compF l).1.length<=80/\(compF l).2.1<=80/\((compF l).2.2≠0->(compF l).1=[])/\0<=(compF l).2.2/\(compF l).2.2<=6:=by
 unfold compF
 split
 ·simp
 ·split
  ·simp
  ·have:=compGo_len _ l (Nat.le_refl _) 0 []
   simp only[List.length_nil]at this
   exact⟨by omega,by omega,this.2.2⟩
def starM(f:Bs->Bool):Bs->Bool
 | []=>f []
 | c::r=>f (c::r) || (isChar c&&starM f r)
def oneM(cs:Bs)(f:Bs->Bool):Bs->Bool
 | []=>false
 | c::r=>cs.contains c&&f r
def matchF:List Em->Bs->Bool
 | []=>fun l=>l.isEmpty
 | e::es=>if e.isStar then starM (matchF es) else oneM e.chars (matchF es)
def Chars(l:Bs):Prop := ∀c∈l,isChar c=true
theorem starM_iff(f:Bs->Bool)(l:Bs):starM f l=true ↔ ∃u v,l=u++v/\Chars u/\f v=true:=by
 induction l with
 | nil =>
  constructor
  ·intro h;exact⟨[], [],rfl,by simp[Chars],h⟩
  ·rintro⟨u,v,h,_,hf⟩
   have:u=[]/\v=[]:=by simpa using h.symm
   rw[this.2]at hf;exact hf
 | cons c r ih =>
  rw[starM,Bool.or_eq_true,Bool.and_eq_true,ih]
  constructor
  ·rintro(h|⟨hc,u,v,rfl,hu,hf⟩)
   ·exact⟨[],c::r,rfl,by simp[Chars],h⟩
   ·exact⟨c::u,v,rfl,by simpa[Chars,hc] using hu,hf⟩
  ·rintro⟨u,v,h,hu,hf⟩
   cases u with
   | nil=>left;simp at h;rw[h];exact hf
   | cons a u =>
    simp at h
    obtain⟨rfl,rfl⟩:=h
    right
    exact⟨hu c (by simp),u,v,rfl,fun x hx=>hu x (by simp[hx]),hf⟩
theorem oneM_iff(cs:Bs)(f:Bs->Bool)(l:Bs):oneM cs f l=true ↔ ∃c r,l=c::r/\c∈cs/\f r=true:=by
 cases l with
 | nil=>simp[oneM]
 | cons c r =>
  simp only[oneM,Bool.and_eq_true,List.contains_iff_mem]
  constructor
  ·rintro⟨h1,h2⟩;exact⟨c,r,rfl,h1,h2⟩
  ·rintro⟨c',r',h,h1,h2⟩
   simp at h;obtain⟨rfl,rfl⟩:=h;exact⟨h1,h2⟩
theorem snoc_ind{P:Bs->Prop}(h0:P [])(hs:∀l c,P l->P (l ++ [c])):∀l,P l:=by
 suffices h:∀(n:Nat) (l:Bs),l.length=n->P l from fun l=>h _ l rfl
 intro n
 induction n with
 | zero=>intro l h;rw[List.eq_nil_of_length_eq_zero h];exact h0
 | succ n ih =>
  intro l h
  rcases List.eq_nil_or_concat l with rfl|⟨l,c,rfl⟩
  ·exact h0
  ·rw[List.concat_eq_append]at h⊢
   exact hs l c (ih l (by simpa using h))
theorem matchF_append(a b:List Em):∀l,matchF (a++b) l=true ↔ ∃u v,l=u++v/\matchF a u=true/\matchF b v=true:=by
 induction a with
 | nil =>
  intro l
  constructor
  ·intro h;exact⟨[],l,rfl,rfl,h⟩
  ·rintro⟨u,v,rfl,hu,hv⟩
   have:u=[]:=by simpa[matchF] using hu
   subst this;exact hv
 | cons e es ih =>
  intro l
  by_cases he:e.isStar=true
  ·simp only[List.cons_append,matchF,he,if_true,starM_iff]
   constructor
   ·rintro⟨u,v,rfl,hu,hv⟩
    obtain⟨x,y,rfl,hx,hy⟩:=(ih v).1 hv
    exact⟨u++x,y,by simp,⟨u,x,rfl,hu,hx⟩,hy⟩
   ·rintro⟨u,v,rfl,⟨x,y,rfl,hx,hy⟩,hv⟩
    exact⟨x,y++v,by simp,hx,(ih _).2 ⟨y,v,rfl,hy,hv⟩⟩
  ·have he':e.isStar=false:=by simpa using he
   simp only[List.cons_append,matchF,he',Bool.false_eq_true,if_false,oneM_iff]
   constructor
   ·rintro⟨c,r,rfl,hc,hr⟩
    obtain⟨x,y,rfl,hx,hy⟩:=(ih r).1 hr
    exact⟨c::x,y,by simp,⟨c,x,rfl,hc,hx⟩,hy⟩
   ·rintro⟨u,v,rfl,⟨c,r,rfl,hc,hr⟩,hv⟩
    exact⟨c,r++v,by simp,hc,(ih _).2 ⟨r,v,rfl,hr,hv⟩⟩
theorem matchF_star1(e:Em)(he:e.isStar=true)(l:Bs):matchF [e] l=true↔Chars l:=by
 simp only[matchF,he,if_true,starM_iff]
 constructor
 ·rintro⟨u,v,rfl,hu,hv⟩
  have:v=[]:=by simpa using hv
  subst this;simpa using hu
 ·intro h;exact⟨l, [],by simp,h,rfl⟩
theorem matchF_one1(e:Em)(he:e.isStar=false)(l:Bs):matchF [e] l=true ↔ ∃c,l=[c]/\c∈e.chars:=by
 simp only[matchF,he,Bool.false_eq_true,if_false,oneM_iff]
 constructor
 ·rintro⟨c,r,rfl,hc,hr⟩
  have:r=[]:=by simpa using hr
  subst this;exact⟨c,rfl,hc⟩
 ·rintro⟨c,rfl,hc⟩;exact⟨c, [],rfl,hc,rfl⟩
theorem match_star_nil(es:List Em)(e:Em)(he:e.isStar=true):matchF (es ++ [e]) []=matchF es []:=by
 rw[Bool.eq_iff_iff,matchF_append]
 constructor
 ·rintro⟨u,v,h,hu,hv⟩
  have:u=[]/\v=[]:=by simpa using h.symm
  rw[this.1]at hu;exact hu
 ·intro h;exact⟨[], [],rfl,h,(matchF_star1 e he _).2 (by simp[Chars])⟩
theorem match_star_snoc(es:List Em)(e:Em)(he:e.isStar=true)(l:Bs)(c:UInt8):matchF (es ++ [e]) (l ++ [c])=(matchF es (l ++ [c]) || (isChar c&&matchF (es ++ [e]) l)):=by
 rw[Bool.eq_iff_iff,Bool.or_eq_true,Bool.and_eq_true,matchF_append,matchF_append]
 constructor
 ·rintro⟨u,v,h,hu,hv⟩
  rw[matchF_star1 e he]at hv
  rcases List.eq_nil_or_concat v with rfl|⟨v,d,rfl⟩
  ·left;simp at h;rw[h];exact hu
  ·right
   rw[List.concat_eq_append, ← List.append_assoc]at h
   have h1:=List.append_inj_left' h rfl
   have h2:=List.append_inj_right' h rfl
   simp at h2;subst h2
   exact⟨hv c (by simp),u,v,h1,hu,(matchF_star1 e he _).2 (fun x hx=>hv x (by simp[hx]))⟩
 ·rintro(h|⟨hc,u,v,rfl,hu,hv⟩)
  ·exact⟨l ++ [c], [],by simp,h,(matchF_star1 e he _).2 (by simp[Chars])⟩
  ·refine⟨u,v ++ [c],by simp,hu,(matchF_star1 e he _).2 ?_⟩
   rw[matchF_star1 e he]at hv
   intro x hx
   rcases List.mem_append.1 hx with hx|hx
   ·exact hv x hx
   ·simp at hx;subst hx;exact hc
theorem match_one_nil(es:List Em)(e:Em)(he:e.isStar=false):matchF (es ++ [e]) []=false:=by
 rw[Bool.eq_false_iff,ne_eq,matchF_append]
 rintro⟨u,v,h,hu,hv⟩
 obtain⟨c,rfl,_⟩:=(matchF_one1 e he _).1 hv
 simp at h
theorem match_one_snoc(es:List Em)(e:Em)(he:e.isStar=false)(l:Bs)(c:UInt8):matchF (es ++ [e]) (l ++ [c])=(matchF es l&&e.chars.contains c):=by
 rw[Bool.eq_iff_iff,Bool.and_eq_true,matchF_append,List.contains_iff_mem]
 constructor
 ·rintro⟨u,v,h,hu,hv⟩
  obtain⟨d,rfl,hd⟩:=(matchF_one1 e he _).1 hv
  have h1:=List.append_inj_left' h rfl
  have h2:=List.append_inj_right' h rfl
  simp at h2;subst h1 h2
  exact⟨hu,hd⟩
 ·rintro⟨h1,h2⟩
  exact⟨l, [c],rfl,h1,(matchF_one1 e he _).2 ⟨c,rfl,h2⟩⟩
theorem match_nil_snoc(l:Bs)(c:UInt8):matchF [] (l ++ [c])=false:=by simp[matchF]
/-! The program's way: marked positions. -/
def emAt(es:List Em)(k:Nat):Em:=es.getD k .single
def sprStep(es:List Em)(a:List Bool)(k:Nat):List Bool:=if a.getD k false&&(emAt es k).isStar then a.set (k+1) true else a
def spr(es:List Em)(m:List Bool)(k:Nat):List Bool:=(List.range k).foldl (sprStep es) m
theorem spr_zero(es:List Em)(m:List Bool):spr es m 0=m:=rfl
theorem spr_succ(es:List Em)(m:List Bool)(k:Nat):spr es m (k+1)=sprStep es (spr es m k) k:=by
 unfold spr;rw[List.range_succ,List.foldl_append];rfl
theorem spr_length(es:List Em)(m:List Bool)(k:Nat):(spr es m k).length=m.length:=by
 induction k with
 | zero=>rfl
 | succ k ih=>rw[spr_succ,sprStep];split<;>simp[ih]
def nxtStep(es:List Em)(m:List Bool)(c:UInt8)(a:List Bool)(k:Nat):List Bool :=
 if !m.getD k false || !(emAt es k).chars.contains c then a else if (emAt es k).isStar then a.set k true else a.set (k+1) true
def nxt(es:List Em)(m:List Bool)(c:UInt8)(k:Nat):List Bool:=(List.range k).foldl (nxtStep es m c) (List.replicate m.length false)
theorem nxt_zero(es:List Em)(m:List Bool)(c:UInt8):nxt es m c 0=List.replicate m.length false:=rfl
theorem nxt_succ(es:List Em)(m:List Bool)(c:UInt8)(k:Nat):nxt es m c (k+1)=nxtStep es m c (nxt es m c k) k:=by
 unfold nxt;rw[List.range_succ,List.foldl_append];rfl
theorem nxt_length(es:List Em)(m:List Bool)(c:UInt8)(k:Nat):(nxt es m c k).length=m.length:=by
 induction k with
 | zero=>simp[nxt_zero]
 | succ k ih=>rw[nxt_succ,nxtStep];split<;>(try split)<;>simp[ih]
def marks(es:List Em)(l:Bs):List Bool:=l.foldl (fun m c=>spr es (nxt es m c es.length) es.length) (spr es (true::List.replicate es.length false) es.length)
theorem marks_nil(es:List Em):marks es []=spr es (true::List.replicate es.length false) es.length:=rfl
theorem marks_snoc(es:List Em)(l:Bs)(c:UInt8):marks es (l ++ [c])=spr es (nxt es (marks es l) c es.length) es.length:=by
 unfold marks;rw[List.foldl_append];rfl
theorem marks_length(es:List Em)(l:Bs):(marks es l).length=es.length+1:=by
 induction l using snoc_ind with
 | h0=>rw[marks_nil,spr_length];simp
 | hs l c ih=>rw[marks_snoc,spr_length,nxt_length,ih]
theorem getD_set(a:List Bool)(k j:Nat)(h:k<a.length):(a.set k true).getD j false=(decide (j=k) || a.getD j false):=by
 by_cases e:j=k
 ·subst e;simp[List.getD,h]
 ·have e':¬ k=j:=fun h=>e h.symm
  simp[List.getD,e,e',List.getElem?_set]
def clo(es:List Em)(m:List Bool):Nat->Bool
 | 0=>m.getD 0 false
 | k+1=>m.getD (k+1) false || (clo es m k&&(emAt es k).isStar)
theorem spr_get(es:List Em)(m:List Bool)(hm:m.length=es.length+1):∀j,j<=es.length->∀k,(spr es m j).getD k false=if k<=j then clo es m k else m.getD k false:=by
 intro j
 induction j with
 | zero =>
  intro _ k
  rw[spr_zero]
  by_cases hk:k=0
  ·subst hk;simp[clo]
  ·rw[if_neg (by omega)]
 | succ j ih =>
  intro hj k
  have ih':=ih (by omega)
  rw[spr_succ,sprStep,ih' j,if_pos (Nat.le_refl _)]
  by_cases hs:(clo es m j&&(emAt es j).isStar)=true
  ·rw[if_pos hs,getD_set _ _ _ (by rw[spr_length];omega),ih' k]
   by_cases hk:k=j+1
   ·subst hk;simp[clo,hs]
   ·simp only[hk,decide_false,Bool.false_or]
    by_cases hk':k<=j
    ·rw[if_pos hk',if_pos (by omega)]
    ·rw[if_neg hk',if_neg (by omega)]
  ·rw[if_neg hs,ih' k]
   by_cases hk:k=j+1
   ·subst hk
    have hs':(clo es m j&&(emAt es j).isStar)=false:=by simpa using hs
    rw[if_neg (by omega),if_pos (Nat.le_refl _),clo,hs',Bool.or_false]
   ·by_cases hk':k<=j
    ·rw[if_pos hk',if_pos (by omega)]
    ·rw[if_neg hk',if_neg (by omega)]
def via(es:List Em)(m:List Bool)(c:UInt8)(n k:Nat):Bool :=
 (decide (k<n)&&(m.getD k false&&(emAt es k).chars.contains c)&&(emAt es k).isStar) ||
 (decide (0<k)&&decide (k<=n)&&(m.getD (k-1) false&&(emAt es (k-1)).chars.contains c) && !(emAt es (k-1)).isStar)
theorem nxt_get(es:List Em)(m:List Bool)(c:UInt8)(hm:m.length=es.length+1):∀j,j<=es.length->∀k,(nxt es m c j).getD k false=via es m c j k:=by
 intro j
 induction j with
 | zero =>
  intro _ k
  rw[nxt_zero]
  by_cases hk:k=0
  ·subst hk;simp[via,List.getD];cases m<;>simp
  ·have:¬ (k<=0):=by omega
   simp[via,List.getD,List.getElem?_replicate,this];split<;>simp
 | succ j ih =>
  intro hj k
  have ih':=ih (by omega)
  have hl:=nxt_length es m c j
  rw[nxt_succ,nxtStep]
  by_cases hq:(m.getD j false&&(emAt es j).chars.contains c)=true
  ·have hq':(!m.getD j false || !(emAt es j).chars.contains c)=false:=by
    rw[<-Bool.not_and,hq];rfl
   rw[if_neg (by rw[hq'];simp)]
   by_cases hs:(emAt es j).isStar=true
   ·rw[if_pos hs,getD_set _ _ _ (by omega),ih' k]
    by_cases hk:k=j
    ·subst hk
     simp only[via,decide_true,Bool.true_or,hq,hs]
     simp
    ·have e1:decide (k<j+1)=decide (k<j):=by simp;omega
     have e2:(decide (0<k)&&decide (k<=j+1)&&(m.getD (k-1) false&&(emAt es (k-1)).chars.contains c) && !(emAt es (k-1)).isStar)=(decide (0<k)&&decide (k<=j)&&(m.getD (k-1) false&&(emAt es (k-1)).chars.contains c) && !(emAt es (k-1)).isStar):=by
      by_cases hk2:k=j+1
      ·subst hk2;simp[hs]
      ·have:decide (k<=j+1)=decide (k<=j):=by simp;omega
       rw[this]
     simp only[via,e1,e2,hk,decide_false,Bool.false_or]
   ·have hs':(emAt es j).isStar=false:=by simpa using hs
    rw[if_neg hs,getD_set _ _ _ (by omega),ih' k]
    have e1:(decide (k<j+1)&&(m.getD k false&&(emAt es k).chars.contains c)&&(emAt es k).isStar)=(decide (k<j)&&(m.getD k false&&(emAt es k).chars.contains c)&&(emAt es k).isStar):=by
     by_cases hk2:k=j
     ·subst hk2;simp[hs']
     ·have:decide (k<j+1)=decide (k<j):=by simp;omega
      rw[this]
    by_cases hk:k=j+1
    ·subst hk
     simp only[via,decide_true,Bool.true_or,Nat.add_sub_cancel,hq,hs']
     simp
    ·have:decide (k<=j+1)=decide (k<=j):=by simp;omega
     simp only[via,e1,this,hk,decide_false,Bool.false_or]
  ·have hq0:(m.getD j false&&(emAt es j).chars.contains c)=false:=by simpa using hq
   have hq':(!m.getD j false || !(emAt es j).chars.contains c)=true:=by
    rw[<-Bool.not_and,hq0];rfl
   rw[if_pos hq',ih' k]
   have e1:(decide (k<j+1)&&(m.getD k false&&(emAt es k).chars.contains c)&&(emAt es k).isStar)=(decide (k<j)&&(m.getD k false&&(emAt es k).chars.contains c)&&(emAt es k).isStar):=by
    by_cases hk2:k=j
    ·subst hk2;rw[hq0];simp
    ·have:decide (k<j+1)=decide (k<j):=by simp;omega
     rw[this]
   have e2:(decide (0<k)&&decide (k<=j+1)&&(m.getD (k-1) false&&(emAt es (k-1)).chars.contains c) && !(emAt es (k-1)).isStar)=(decide (0<k)&&decide (k<=j)&&(m.getD (k-1) false&&(emAt es (k-1)).chars.contains c) && !(emAt es (k-1)).isStar):=by
    by_cases hk2:k=j+1
    ·subst hk2;rw[Nat.add_sub_cancel,hq0];simp
    ·have:decide (k<=j+1)=decide (k<=j):=by simp;omega
     rw[this]
   simp only[via,e1,e2]
def reachF(es:List Em)(l:Bs)(k:Nat):Bool:=matchF (es.take (if k<es.length/\(emAt es k).isStar=true then k+1 else k)) l
theorem take_em(es:List Em)(k:Nat)(h:k<es.length):es.take (k+1)=es.take k ++ [emAt es k]:=by
 rw[List.take_succ_eq_append_getElem h];simp[emAt,List.getD,h]
theorem reach_at(es:List Em)(l:Bs)(k:Nat)(h:k<es.length)(hs:(emAt es k).isStar=true):reachF es l k=matchF (es.take (k+1)) l:=by
 unfold reachF;rw[if_pos ⟨h,hs⟩]
theorem reach_no(es:List Em)(l:Bs)(k:Nat)(hs:¬ (k<es.length/\(emAt es k).isStar=true)):reachF es l k=matchF (es.take k) l:=by
 unfold reachF;rw[if_neg hs]
theorem reach_nil(es:List Em)(m:List Bool)(hm0:m.getD 0 false=true)(hm:∀k,m.getD (k+1) false=false):∀k,k<=es.length->clo es m k=reachF es [] k:=by
 have base:∀k,reachF es [] k=matchF (es.take k) []:=fun k=>by
  by_cases h:k<es.length/\(emAt es k).isStar=true
  ·rw[reach_at es _ k h.1 h.2,take_em es k h.1,match_star_nil _ _ h.2]
  ·rw[reach_no es _ k h]
 intro k
 induction k with
 | zero=>intro _;rw[base];simp[clo,List.getD]at hm0⊢;rw[hm0];rfl
 | succ k ih =>
  intro hk
  rw[clo,hm,Bool.false_or,ih (by omega),base,base,take_em es k (by omega)]
  rcases hs:(emAt es k).isStar with _|_
  ·rw[match_one_nil _ _ hs];simp
  ·rw[match_star_nil _ _ hs];simp
theorem reach_snoc(es:List Em)(hes:∀e∈es,e.Ok)(m a:List Bool)(l:Bs)(c:UInt8)(hm:∀k,k<=es.length->m.getD k false=reachF es l k)(ha:∀k,a.getD k false=via es m c es.length k) :
  ∀k,k<=es.length->clo es a k=reachF es (l ++ [c]) k:=by
 have starhas:∀e:Em,e.isStar=true->e.chars.contains c=isChar c:=fun e he=>by
  cases e<;>simp[Em.isStar]at he
  exact nameC_has c
 -- what the elements before k match
 have main:∀k,k<=es.length->(clo es a k=true↔(matchF (es.take k) (l ++ [c])=true\/(k<es.length/\(emAt es k).isStar=true/\isChar c=true/\reachF es l k=true)))/\(reachF es (l ++ [c]) k=true↔(matchF (es.take k) (l ++ [c])=true\/(k<es.length/\(emAt es k).isStar=true/\isChar c=true/\reachF es l k=true))):=by
  intro k
  have R:k<=es.length->(reachF es (l ++ [c]) k=true↔(matchF (es.take k) (l ++ [c])=true\/(k<es.length/\(emAt es k).isStar=true/\isChar c=true/\reachF es l k=true))):=by
   intro hk
   by_cases h:k<es.length/\(emAt es k).isStar=true
   ·rw[reach_at es _ k h.1 h.2,reach_at es _ k h.1 h.2,take_em es k h.1,match_star_snoc _ _ h.2]
    simp[h.1,h.2]
   ·rw[reach_no es _ k h]
    constructor
    ·intro h;exact .inl h
    ·rintro(h'|⟨h1,h2,_⟩)
     ·exact h'
     ·exact absurd ⟨h1,h2⟩ h
  induction k with
  | zero =>
   intro hk
   refine⟨?_,R hk⟩
   rw[clo,ha,List.take_zero,match_nil_snoc]
   simp only[via,Nat.lt_irrefl,decide_false,Bool.false_and,Bool.or_false,Bool.and_eq_true,decide_eq_true_eq,Bool.false_eq_true,false_or]
   constructor
   ·rintro⟨⟨h1,h2,h3⟩,h4⟩
    rw[starhas _ h4]at h3
    rw[hm 0 (by omega)]at h2
    exact⟨h1,h4,h3,h2⟩
   ·rintro⟨h1,h2,h3,h4⟩
    exact⟨⟨h1,by rw[hm 0 (by omega)];exact h4,by rw[starhas _ h2];exact h3⟩,h2⟩
  | succ k ih =>
   intro hk
   refine⟨?_,R hk⟩
   have ih':=ih (fun _=>(by
    by_cases h:k<es.length/\(emAt es k).isStar=true
    ·rw[reach_at es _ k h.1 h.2,reach_at es _ k h.1 h.2,take_em es k h.1,match_star_snoc _ _ h.2]
     simp[h.1,h.2]
    ·rw[reach_no es _ k h]
     constructor
     ·intro h;exact .inl h
     ·rintro(h'|⟨h1,h2,_⟩)
      ·exact h'
      ·exact absurd ⟨h1,h2⟩ h)) (by omega)
   have hkl:k<es.length:=by omega
   rw[clo,ha,Bool.or_eq_true,Bool.and_eq_true]
   have hM:matchF (es.take (k+1)) (l ++ [c])=true↔((emAt es k).isStar=true/\clo es a k=true)\/((emAt es k).isStar=false/\reachF es l k=true/\(emAt es k).chars.contains c=true):=by
    rcases hs:(emAt es k).isStar with _|_
    ·rw[take_em es k hkl,match_one_snoc _ _ hs,Bool.and_eq_true,reach_no es l k (by simp[hs])]
     simp
    ·rw[<-reach_at es _ k hkl hs,ih'.2,ih'.1]
     simp
   rw[hM]
   have hV:via es a c es.length (k+1)=true\/True:=.inr trivial
   have hvia:via es m c es.length (k+1)=true↔(k+1<es.length/\(emAt es (k+1)).isStar=true/\isChar c=true/\reachF es l (k+1)=true)\/((emAt es k).isStar=false/\reachF es l k=true/\(emAt es k).chars.contains c=true):=by
    simp only[via,Nat.add_sub_cancel,Bool.or_eq_true,Bool.and_eq_true,decide_eq_true_eq,Bool.not_eq_true']
    constructor
    ·rintro(⟨⟨h1,h2,h3⟩,h4⟩|⟨⟨⟨h0,h1⟩,h2,h3⟩,h4⟩)
     ·left
      rw[starhas _ h4]at h3
      rw[hm _ hk]at h2
      exact⟨h1,h4,h3,h2⟩
     ·right
      rw[hm _ (by omega)]at h2
      exact⟨h4,h2,h3⟩
    ·rintro(⟨h1,h2,h3,h4⟩|⟨h1,h2,h3⟩)
     ·exact .inl ⟨⟨h1,by rw[hm _ hk];exact h4,by rw[starhas _ h2];exact h3⟩,h2⟩
     ·exact .inr ⟨⟨⟨by omega,by omega⟩,by rw[hm _ (by omega)];exact h2,h3⟩,h1⟩
   rw[hvia]
   constructor
   ·rintro((h|h)|⟨h1,h2⟩)
    ·exact .inr h
    ·exact .inl (.inr h)
    ·exact .inl (.inl ⟨h2,h1⟩)
   ·rintro((⟨h1,h2⟩|h)|h)
    ·exact .inr ⟨h2,h1⟩
    ·exact .inl (.inr h)
    ·exact .inl (.inl h)
 intro k hk
 rw[Bool.eq_iff_iff,(main k hk).1,(main k hk).2]
theorem marks_get(es:List Em)(hes:∀e∈es,e.Ok)(l:Bs):∀k,k<=es.length->(marks es l).getD k false=reachF es l k:=by
 induction l using snoc_ind with
 | h0 =>
  intro k hk
  rw[marks_nil,spr_get es _ (by simp) _ (Nat.le_refl _),if_pos hk]
  refine reach_nil es _ (by simp) (fun k=>?_) k hk
  simp[List.getD,List.getElem?_replicate];split<;>simp
 | hs l c ih =>
  intro k hk
  rw[marks_snoc,spr_get es _ (by rw[nxt_length,marks_length]) _ (Nat.le_refl _),if_pos hk]
  exact reach_snoc es hes (marks es l) _ l c ih (nxt_get es _ c (marks_length es l) _ (Nat.le_refl _)) k hk
theorem marks_match(es:List Em)(hes:∀e∈es,e.Ok)(l:Bs):(marks es l).getD es.length false=matchF es l:=by
 rw[marks_get es hes l _ (Nat.le_refl _),reach_no es l _ (by omega),List.take_length]
def lenU(c:UInt8):Nat:=if 240<=c.toNat/\c.toNat<=244 then 4 else if 224<=c.toNat/\c.toNat<=239 then 3 else if 194<=c.toNat/\c.toNat<=223 then 2 else if c.toNat<=127 then 1 else 0
def lowU(f:UInt8)(i:Nat):Nat:=if i=1 then (if f=224 then 160 else if f=240 then 144 else 128) else 128
def highU(f:UInt8)(i:Nat):Nat:=if i=1 then (if f=237 then 159 else if f=244 then 143 else 191) else 191
def contU(f:UInt8)(i:Nat)(c:UInt8):Bool:=decide (lowU f i<=c.toNat)&&decide (c.toNat<=highU f i)
def runU(f:UInt8)(size:Nat):Nat->List UInt8->Nat
 | _, []=>0
 | i,c::r=>if i<size/\contU f i c=true then runU f size (i+1) r+1 else 0
def measU:List UInt8->Nat
 | []=>0
 | f::r=>if lenU f=0 then 0 else runU f (lenU f) 1 r+1
def leadU(c:UInt8):Nat:=if c.toNat < 128 then c.toNat else if c.toNat < 224 then c.toNat - 192 else if c.toNat < 240 then c.toNat - 224 else c.toNat - 240
def foldU(v:Nat)(l:List UInt8):Nat:=l.foldl (fun v c=>64*v+(c.toNat - 128)) v
def valU:List UInt8->Nat
 | []=>0
 | f::r=>foldU (leadU f) r
def decU(l:List UInt8):Nat × Nat × Int :=
 match l with
 | []=>(0,0,1)
 | f::_=>if measU l=lenU f/\lenU f≠0 then (valU (l.take (measU l)),measU l,0) else if measU l=0 then (0,0,6) else if measU l=l.length then (0,0,23) else (0,0,3)
theorem runU_le(f:UInt8)(size:Nat):∀(l:List UInt8) (i:Nat),runU f size i l<=l.length/\runU f size i l<=size-i
 | [],_=>by simp[runU]
 | c::r,i=>by
  rw[runU]
  have:=runU_le f size r (i+1)
  split
  ·simp;omega
  ·simp
theorem lenU_le(c:UInt8):lenU c<=4:=by unfold lenU;split<;>(try split)<;>(try split)<;>(try split)<;>omega
theorem measU_le(l:List UInt8):measU l<=l.length/\measU l<=4:=by
 cases l with
 | nil=>simp[measU]
 | cons f r =>
  rw[measU]
  have:=runU_le f (lenU f) r 1
  have:=lenU_le f
  split
  ·simp
  ·simp;omega
theorem decU_ok{l:List UInt8}(h:(decU l).2.2=0):1<=(decU l).2.1/\(decU l).2.1<=l.length:=by
 cases l with
 | nil=>simp[decU]at h
 | cons f r =>
  have hm:=measU_le (f::r)
  unfold decU at h⊢
  by_cases h1:measU (f::r)=lenU f/\lenU f≠0
  ·simp only[if_pos h1];omega
  ·simp only[if_neg h1]at h
   exfalso
   split at h
   ·simp at h
   ·split at h<;>simp at h
def ctlU(r:Nat):Bool:=decide (r<=31) || (decide (127<=r)&&decide (r<=159)) || r==8232 || r==8233
def allU:Nat->List UInt8->Nat->List (Nat × Nat) × Option (Nat × Int)
 | 0,_,_=>([],none)
 | n+1,l,i=>match l with
  | []=>([],none)
  | _::_=>if (decU l).2.2≠0 then ([],some (i,(decU l).2.2)) else
    let x:=allU n (l.drop (decU l).2.1) (i+(decU l).2.1)
    ((i,(decU l).1)::x.1,x.2)
def leadN(c:UInt8):Nat:=if c.toNat < 128 then 1 else if 192<=c.toNat/\c.toNat < 224 then 2 else if 224<=c.toNat/\c.toNat < 240 then 3 else if 240<=c.toNat/\c.toNat < 248 then 4 else 0
def leadV(c:UInt8):Nat:=if c.toNat < 128 then c.toNat else if 192<=c.toNat/\c.toNat < 224 then c.toNat - 192 else if 224<=c.toNat/\c.toNat < 240 then c.toNat - 224 else if 240<=c.toNat/\c.toNat < 248 then c.toNat - 240 else 0
def leastU(n:Nat):Nat:=if n=2 then 128 else if n=3 then 2048 else if n=4 then 65536 else 0
def mostU(n:Nat):Nat:=if n=1 then 127 else if n=2 then 2047 else if n=3 then 65535 else if n=4 then 1114111 else 0
def contR(v:Nat):List UInt8->Option Nat
 | []=>some v
 | c::r=>if c.toNat < 128\/191<c.toNat then none else contR (64*v+(c.toNat - 128)) r
def lowR:Nat->Nat->Nat
 | 0,v=>v
 | k+1,v=>lowR k (64*v)
def highR:Nat->Nat->Nat
 | 0,v=>v
 | k+1,v=>highR k (64*v+63)
def okR(n m v:Nat):Bool :=
 !((decide (55296<=max (lowR (n-m) v) (leastU n))&&decide (min (highR (n-m) v) (mostU n)<=57343)) || decide (min (highR (n-m) v) (mostU n)<max (lowR (n-m) v) (leastU n)))
def begR:List UInt8->Option (Nat × Nat)
 | []=>none
 | f::r=>if leadN f=0\/leadN f<r.length+1 then none else match contR (leadV f) r with
  | none=>none
  | some v=>if okR (leadN f) (r.length+1) v then some (leadN f,v) else none
def firstR(l:List UInt8):Nat × Nat × Int:=match begR (l.take 1) with
 | none=>(0,0,6)
 | some x=>if x.1<=l.length then match begR (l.take x.1) with
   | some y=>(y.2,x.1,0)
   | none=>(0,0,3)
  else match begR l with
   | some _=>(0,0,23)
   | none=>(0,0,3)
theorem first_cases(a:UInt8):(lenU a=0/\(128<=a.toNat/\a.toNat < 194\/245<=a.toNat))\/(lenU a=1/\a.toNat < 128)\/(lenU a=2/\194<=a.toNat/\a.toNat < 224)\/(lenU a=3/\224<=a.toNat/\a.toNat < 240)\/(lenU a=4/\240<=a.toNat/\a.toNat < 245):=by
 unfold lenU
 have:=a.toNat_lt
 split
 ·omega
 ·split
  ·omega
  ·split
   ·omega
   ·split<;>omega
theorem beg1_no{a:UInt8}(h:128<=a.toNat/\a.toNat < 194\/245<=a.toNat):begR [a]=none:=by
 have ha:=a.toNat_lt
 rw[begR]
 by_cases h0:leadN a=0\/leadN a<([]:List UInt8).length+1
 ·rw[if_pos h0]
 ·rw[if_neg h0]
  simp only[contR]
  have h1:okR (leadN a) (([]:List UInt8).length+1) (leadV a)=false:=by
   have e:(192<=a.toNat/\a.toNat < 194)\/(245<=a.toNat/\a.toNat < 248):=by
    unfold leadN at h0
    simp only[List.length_nil]at h0
    split at h0<;>(try split at h0)<;>(try split at h0)<;>(try split at h0)<;>omega
   rcases e with e|e
   ·have hn:leadN a=2:=by unfold leadN;rw[if_neg (by omega),if_pos (by omega)]
    have hv:leadV a=a.toNat - 192:=by unfold leadV;rw[if_neg (by omega),if_pos (by omega)]
    rw[hn,hv];simp[okR,lowR,highR,leastU,mostU];omega
   ·have hn:leadN a=4:=by unfold leadN;rw[if_neg (by omega),if_neg (by omega),if_neg (by omega),if_pos (by omega)]
    have hv:leadV a=a.toNat - 240:=by unfold leadV;rw[if_neg (by omega),if_neg (by omega),if_neg (by omega),if_pos (by omega)]
    rw[hn,hv];simp[okR,lowR,highR,leastU,mostU];omega
  exact if_neg (by rw[h1];decide)
theorem lead_is{a:UInt8}(h:lenU a≠0):leadN a=lenU a/\leadV a=leadU a:=by
 have ha:=a.toNat_lt
 rcases first_cases a with⟨e,_⟩|⟨e,h1⟩|⟨e,h1,h2⟩|⟨e,h1,h2⟩|⟨e,h1,h2⟩
 ·exact absurd e h
 ·rw[e];unfold leadN leadV leadU
  exact⟨by rw[if_pos h1],by rw[if_pos h1,if_pos h1]⟩
 ·rw[e];unfold leadN leadV leadU
  exact⟨by rw[if_neg (by omega),if_pos (by omega)],by rw[if_neg (by omega),if_pos (by omega),if_neg (by omega),if_pos (by omega)]⟩
 ·rw[e];unfold leadN leadV leadU
  exact⟨by rw[if_neg (by omega),if_neg (by omega),if_pos (by omega)],by rw[if_neg (by omega),if_neg (by omega),if_pos (by omega),if_neg (by omega),if_neg (by omega),if_pos (by omega)]⟩
 ·rw[e];unfold leadN leadV leadU
  exact⟨by rw[if_neg (by omega),if_neg (by omega),if_neg (by omega),if_pos (by omega)],by rw[if_neg (by omega),if_neg (by omega),if_neg (by omega),if_pos (by omega),if_neg (by omega),if_neg (by omega),if_neg (by omega)]⟩
theorem leadU_of{a:UInt8} : (a.toNat < 128->leadU a=a.toNat)/\(128<=a.toNat->a.toNat < 224->leadU a=a.toNat - 192)/\(224<=a.toNat->a.toNat < 240->leadU a=a.toNat - 224)/\(240<=a.toNat->leadU a=a.toNat - 240):=by
 unfold leadU
 exact⟨fun h=>by rw[if_pos h],fun h g=>by rw[if_neg (by omega),if_pos g],fun h g=>by rw[if_neg (by omega),if_neg (by omega),if_pos g],fun h=>by rw[if_neg (by omega),if_neg (by omega),if_neg (by omega)]⟩
theorem cont_rest{f c:UInt8}{i:Nat}(hi:i≠1):contU f i c=decide (128<=c.toNat/\c.toNat<=191):=by
 unfold contU lowU highU;rw[if_neg hi,if_neg hi,Bool.eq_iff_iff];simp
theorem begR_eq{f:UInt8}{r:List UInt8}(h:lenU f≠0):begR (f::r)=if lenU f<r.length+1 then none else match contR (leadU f) r with
  | none=>none
  | some v=>if okR (lenU f) (r.length+1) v then some (lenU f,v) else none:=by
 obtain⟨h1,h2⟩:=lead_is h
 rw[begR,h1,h2]
 by_cases g:lenU f<r.length+1
 ·rw[if_pos (.inr g),if_pos g]
 ·rw[if_neg (by omega),if_neg g]
theorem beg1{a:UInt8}(h:lenU a≠0):begR [a]=some (lenU a,leadU a):=by
 rw[begR_eq h,if_neg (by simp;omega)]
 simp only[contR,List.length_nil]
 have hk:okR (lenU a) (0+1) (leadU a)=true:=by
  obtain⟨u1,u2,u3,u4⟩:=leadU_of (a:=a)
  rcases first_cases a with⟨e,_⟩|⟨e,h1⟩|⟨e,h1,h2⟩|⟨e,h1,h2⟩|⟨e,h1,h2⟩
  ·exact absurd e h
  ·rw[e,u1 h1];simp[okR,lowR,highR,leastU,mostU];omega
  ·rw[e,u2 (by omega) h2];simp[okR,lowR,highR,leastU,mostU];omega
  ·rw[e,u3 h1 h2];simp[okR,lowR,highR,leastU,mostU];omega
  ·rw[e,u4 h1];simp[okR,lowR,highR,leastU,mostU];omega
 exact if_pos hk
theorem ea{a:UInt8}{n:Nat}(hn:n<256):(a=UInt8.ofNat n)↔a.toNat = n:=by
 rw[<-UInt8.toNat_inj,UInt8.toNat_ofNat',Nat.mod_eq_of_lt hn]
theorem cont1_iff(a b:UInt8):contU a 1 b=true↔(128<=b.toNat/\b.toNat<=191/\(a.toNat = 224->160<=b.toNat)/\(a.toNat = 237->b.toNat<=159)/\(a.toNat = 240->144<=b.toNat)/\(a.toNat = 244->b.toNat<=143)):=by
 have e224:(a=224)↔a.toNat = 224:=ea (n:=224) (by omega)
 have e237:(a=237)↔a.toNat = 237:=ea (n:=237) (by omega)
 have e240:(a=240)↔a.toNat = 240:=ea (n:=240) (by omega)
 have e244:(a=244)↔a.toNat = 244:=ea (n:=244) (by omega)
 unfold contU lowU highU
 simp only[if_true,e224,e237,e240,e244,Bool.and_eq_true,decide_eq_true_eq]
 by_cases h1:a.toNat = 224
 ·simp[h1];omega
 by_cases h2:a.toNat = 237
 ·simp[h2];omega
 by_cases h3:a.toNat = 240
 ·simp[h3];omega
 by_cases h4:a.toNat = 244
 ·simp[h4];omega
 simp[h1,h2,h3,h4]
theorem cont1_range{a b:UInt8}(h:contU a 1 b=true):128<=b.toNat/\b.toNat<=191/\(a.toNat = 224->160<=b.toNat)/\(a.toNat = 237->b.toNat<=159)/\(a.toNat = 240->144<=b.toNat)/\(a.toNat = 244->b.toNat<=143):=(cont1_iff a b).1 h
theorem beg2{a b:UInt8}(h:2<=lenU a):begR [a,b]=if contU a 1 b then some (lenU a,64*leadU a+(b.toNat - 128)) else none:=by
 have hb:=b.toNat_lt
 rw[begR_eq (by omega),if_neg (by simp;omega)]
 simp only[contR,List.length_cons,List.length_nil]
 obtain⟨u1,u2,u3,u4⟩:=leadU_of (a:=a)
 by_cases hc:b.toNat < 128\/191<b.toNat
 ·rw[if_pos hc,if_neg (by rw[cont1_iff];omega)]
 ·rw[if_neg hc]
  have hk:okR (lenU a) (0+1+1) (64*leadU a+(b.toNat - 128))=contU a 1 b:=by
   rw[Bool.eq_iff_iff,cont1_iff]
   rcases first_cases a with⟨e,_⟩|⟨e,h1⟩|⟨e,h1,h2⟩|⟨e,h1,h2⟩|⟨e,h1,h2⟩
   ·omega
   ·omega
   ·rw[e,u2 (by omega) h2];simp[okR,lowR,highR,leastU,mostU];omega
   ·rw[e,u3 h1 h2];simp[okR,lowR,highR,leastU,mostU];omega
   ·rw[e,u4 h1];simp[okR,lowR,highR,leastU,mostU];omega
  simp only[hk]
theorem beg3{a b c:UInt8}(h:3<=lenU a)(hb:contU a 1 b=true):begR [a,b,c]=if contU a 2 c then some (lenU a,64*(64*leadU a+(b.toNat - 128))+(c.toNat - 128)) else none:=by
 rw[begR_eq (by omega),if_neg (by simp;omega)]
 obtain⟨b1,b2,b3,b4,b5,b6⟩:=cont1_range hb
 simp only[contR,List.length_cons,List.length_nil]
 rw[if_neg (by omega),cont_rest (by omega)]
 obtain⟨u1,u2,u3,u4⟩:=leadU_of (a:=a)
 by_cases hc:c.toNat < 128\/191<c.toNat
 ·rw[if_pos hc,if_neg (by simp;omega)]
 ·rw[if_neg hc,if_pos (by simp;omega)]
  have hk:okR (lenU a) (0+1+1+1) (64*(64*leadU a+(b.toNat - 128))+(c.toNat - 128))=true:=by
   rcases first_cases a with⟨e,_⟩|⟨e,h1⟩|⟨e,h1,h2⟩|⟨e,h1,h2⟩|⟨e,h1,h2⟩
   ·omega
   ·omega
   ·omega
   ·rw[e,u3 h1 h2];simp[okR,lowR,highR,leastU,mostU];omega
   ·rw[e,u4 h1];simp[okR,lowR,highR,leastU,mostU];omega
  exact if_pos hk
theorem beg4{a b c d:UInt8}(h:lenU a=4)(hb:contU a 1 b=true)(hc:contU a 2 c=true):begR [a,b,c,d]=if contU a 3 d then some (4,64*(64*(64*leadU a+(b.toNat - 128))+(c.toNat - 128))+(d.toNat - 128)) else none:=by
 rw[begR_eq (by omega),if_neg (by simp;omega)]
 obtain⟨b1,b2,b3,b4,b5,b6⟩:=cont1_range hb
 rw[cont_rest (by omega)]at hc
 simp only[decide_eq_true_eq]at hc
 simp only[contR,List.length_cons,List.length_nil]
 rw[if_neg (by omega),if_neg (by omega),cont_rest (by omega)]
 obtain⟨u1,u2,u3,u4⟩:=leadU_of (a:=a)
 by_cases hd:d.toNat < 128\/191<d.toNat
 ·rw[if_pos hd,if_neg (by simp;omega)]
 ·rw[if_neg hd,if_pos (by simp;omega)]
  have hk:okR (lenU a) (0+1+1+1+1) (64*(64*(64*leadU a+(b.toNat - 128))+(c.toNat - 128))+(d.toNat - 128))=true:=by
   rcases first_cases a with⟨e,_⟩|⟨e,h1⟩|⟨e,h1,h2⟩|⟨e,h1,h2⟩|⟨e,h1,h2⟩
   ·omega
   ·omega
   ·omega
   ·omega
   ·rw[e,u4 h1];simp[okR,lowR,highR,leastU,mostU];omega
  rw[h]at hk⊢
  exact if_pos hk
theorem run_stop(f:UInt8)(size i:Nat)(l:List UInt8)(h:size<=i):runU f size i l=0:=by
 cases l with
 | nil=>rfl
 | cons c r=>rw[runU,if_neg (by omega)]
theorem first_0{a:UInt8}{r:List UInt8}(h:lenU a=0):firstR (a::r)=decU (a::r):=by
 have h1:begR [a]=none:=beg1_no (by
  rcases first_cases a with⟨_,e⟩|⟨e,_⟩|⟨e,_⟩|⟨e,_⟩|⟨e,_⟩<;>omega)
 simp[firstR,h1,decU,measU,h]
theorem first_1{a:UInt8}{r:List UInt8}(h:lenU a=1):firstR (a::r)=decU (a::r):=by
 have h1:begR [a]=some (1,leadU a):=by rw[beg1 (by omega),h]
 have h2:measU (a::r)=1:=by rw[measU,if_neg (by omega),h,run_stop _ _ _ _ (Nat.le_refl _)]
 simp[firstR,h1,decU,h2,h,valU,foldU]
theorem first_2{a:UInt8}{r:List UInt8}(h:lenU a=2):firstR (a::r)=decU (a::r):=by
 have h1:begR [a]=some (2,leadU a):=by rw[beg1 (by omega),h]
 cases r with
 | nil=>simp[firstR,h1,decU,measU,runU,h]
 | cons b s =>
  have h2:=beg2 (a:=a) (b:=b) (by omega)
  rw[h]at h2
  rcases hb:contU a 1 b with _|_
  ·rw[hb,if_neg (by simp)]at h2
   have h3:measU (a::b::s)=1:=by rw[measU,if_neg (by omega),h,runU,if_neg (by simp[hb])]
   simp[firstR,h1,h2,decU,h3,h]
  ·rw[hb,if_pos rfl]at h2
   have h3:measU (a::b::s)=2:=by rw[measU,if_neg (by omega),h,runU,if_pos (by simp[hb]),run_stop _ _ _ _ (by omega)]
   simp[firstR,h1,h2,decU,h3,h,valU,foldU]
theorem first_3{a:UInt8}{r:List UInt8}(h:lenU a=3):firstR (a::r)=decU (a::r):=by
 have h1:begR [a]=some (3,leadU a):=by rw[beg1 (by omega),h]
 cases r with
 | nil=>simp[firstR,h1,decU,measU,runU,h]
 | cons b s =>
  have h2:=beg2 (a:=a) (b:=b) (by omega)
  rw[h]at h2
  rcases hb:contU a 1 b with _|_
  ·rw[hb,if_neg (by simp)]at h2
   have h3:measU (a::b::s)=1:=by rw[measU,if_neg (by omega),h,runU,if_neg (by simp[hb])]
   cases s with
   | nil=>simp[firstR,h1,h2,decU,h3,h]
   | cons c u =>
    have h4:begR [a,b,c]=none:=by
     rw[begR_eq (by omega),if_neg (by simp;omega)]
     have hc:contR (leadU a) [b,c]=none\/∃v,contR (leadU a) [b,c]=some v/\okR (lenU a) 3 v=false:=by
      have hb':=hb
      rw[Bool.eq_false_iff,ne_eq,cont1_iff]at hb'
      obtain⟨_,_,u3,_⟩:=leadU_of (a:=a)
      have ha:224<=a.toNat/\a.toNat < 240:=by
       rcases first_cases a with⟨e,_⟩|⟨e,_⟩|⟨e,_⟩|⟨e,g⟩|⟨e,_⟩<;>omega
      simp only[contR]
      by_cases g1:b.toNat < 128\/191<b.toNat
      ·left;rw[if_pos g1]
      ·rw[if_neg g1]
       by_cases g2:c.toNat < 128\/191<c.toNat
       ·left;rw[if_pos g2]
       ·rw[if_neg g2]
        right
        refine⟨_,rfl,?_⟩
        rw[h,u3 ha.1 ha.2];simp[okR,lowR,highR,leastU,mostU];omega
     rcases hc with hc|⟨v,hc,hk⟩
     ·rw[hc]
     ·rw[hc];exact if_neg (by rw[show([b,c]:List UInt8).length+1=3 from rfl,hk];decide)
    simp[firstR,h1,h4,decU,h3,h]
  ·rw[hb,if_pos rfl]at h2
   cases s with
   | nil =>
    have h3:measU [a,b]=2:=by rw[measU,if_neg (by omega),h,runU,if_pos (by simp[hb])];rfl
    simp[firstR,h1,h2,decU,h3,h]
   | cons c u =>
    have h4:=beg3 (a:=a) (b:=b) (c:=c) (by omega) hb
    rw[h]at h4
    rcases hc:contU a 2 c with _|_
    ·rw[hc,if_neg (by simp)]at h4
     have h3:measU (a::b::c::u)=2:=by rw[measU,if_neg (by omega),h,runU,if_pos (by simp[hb]),runU,if_neg (by simp[hc])]
     simp[firstR,h1,h4,decU,h3,h]
    ·rw[hc,if_pos rfl]at h4
     have h3:measU (a::b::c::u)=3:=by rw[measU,if_neg (by omega),h,runU,if_pos (by simp[hb]),runU,if_pos (by simp[hc]),run_stop _ _ _ _ (by omega)]
     simp[firstR,h1,h4,decU,h3,h,valU,foldU]
theorem no4{a b c d:UInt8}(h:lenU a=4)(hn:¬ (contU a 1 b=true/\contU a 2 c=true)):begR [a,b,c,d]=none/\begR [a,b,c]=none:=by
 obtain⟨_,_,_,u4⟩:=leadU_of (a:=a)
 have ha:240<=a.toNat/\a.toNat < 245:=by
  rcases first_cases a with⟨e,_⟩|⟨e,_⟩|⟨e,_⟩|⟨e,_⟩|⟨e,g⟩<;>omega
 rw[cont1_iff,cont_rest (by omega),decide_eq_true_eq]at hn
 have key:∀l:List UInt8,l=[b,c,d]\/l=[b,c]->begR (a::l)=none:=by
  intro l hl
  rw[begR_eq (by omega),if_neg (by rcases hl with rfl|rfl<;>(simp;omega))]
  have hc:contR (leadU a) l=none\/∃v,contR (leadU a) l=some v/\okR (lenU a) (l.length+1) v=false:=by
   rcases hl with rfl|rfl
   ·simp only[contR]
    by_cases g1:b.toNat < 128\/191<b.toNat
    ·left;rw[if_pos g1]
    ·rw[if_neg g1]
     by_cases g2:c.toNat < 128\/191<c.toNat
     ·left;rw[if_pos g2]
     ·rw[if_neg g2]
      by_cases g3:d.toNat < 128\/191<d.toNat
      ·left;rw[if_pos g3]
      ·rw[if_neg g3]
       right
       refine⟨_,rfl,?_⟩
       rw[h,u4 ha.1];simp[okR,lowR,highR,leastU,mostU];omega
   ·simp only[contR]
    by_cases g1:b.toNat < 128\/191<b.toNat
    ·left;rw[if_pos g1]
    ·rw[if_neg g1]
     by_cases g2:c.toNat < 128\/191<c.toNat
     ·left;rw[if_pos g2]
     ·rw[if_neg g2]
      right
      refine⟨_,rfl,?_⟩
      rw[h,u4 ha.1];simp[okR,lowR,highR,leastU,mostU];omega
  rcases hc with hc|⟨v,hc,hk⟩
  ·rw[hc]
  ·rw[hc];exact if_neg (by rw[hk];decide)
 exact⟨key _ (.inl rfl),key _ (.inr rfl)⟩
theorem first_4{a:UInt8}{r:List UInt8}(h:lenU a=4):firstR (a::r)=decU (a::r):=by
 have h1:begR [a]=some (4,leadU a):=by rw[beg1 (by omega),h]
 cases r with
 | nil=>simp[firstR,h1,decU,measU,runU,h]
 | cons b s =>
  have h2:=beg2 (a:=a) (b:=b) (by omega)
  rw[h]at h2
  cases s with
  | nil =>
   rcases hb:contU a 1 b with _|_
   ·rw[hb,if_neg (by simp)]at h2
    have h3:measU [a,b]=1:=by rw[measU,if_neg (by omega),h,runU,if_neg (by simp[hb])]
    simp[firstR,h1,h2,decU,h3,h]
   ·rw[hb,if_pos rfl]at h2
    have h3:measU [a,b]=2:=by rw[measU,if_neg (by omega),h,runU,if_pos (by simp[hb])];rfl
    simp[firstR,h1,h2,decU,h3,h]
  | cons c u =>
   cases u with
   | nil =>
    rcases hb:contU a 1 b with _|_
    ·have h3:measU [a,b,c]=1:=by rw[measU,if_neg (by omega),h,runU,if_neg (by simp[hb])]
     have h4:=(no4 (d:=c) h (by simp[hb]:¬ (contU a 1 b=true/\contU a 2 c=true))).2
     simp[firstR,h1,h4,decU,h3,h]
    ·have h4:=beg3 (a:=a) (b:=b) (c:=c) (by omega) hb
     rw[h]at h4
     rcases hc:contU a 2 c with _|_
     ·rw[hc,if_neg (by simp)]at h4
      have h3:measU [a,b,c]=2:=by rw[measU,if_neg (by omega),h,runU,if_pos (by simp[hb]),runU,if_neg (by simp[hc])]
      simp[firstR,h1,h4,decU,h3,h]
     ·rw[hc,if_pos rfl]at h4
      have h3:measU [a,b,c]=3:=by rw[measU,if_neg (by omega),h,runU,if_pos (by simp[hb]),runU,if_pos (by simp[hc])];rfl
      simp[firstR,h1,h4,decU,h3,h]
   | cons d x =>
    rcases hb:contU a 1 b with _|_
    ·have h3:measU (a::b::c::d::x)=1:=by rw[measU,if_neg (by omega),h,runU,if_neg (by simp[hb])]
     have h4:=(no4 (d:=d) h (by simp[hb]:¬ (contU a 1 b=true/\contU a 2 c=true))).1
     simp[firstR,h1,h4,decU,h3,h]
    ·rcases hc:contU a 2 c with _|_
     ·have h3:measU (a::b::c::d::x)=2:=by rw[measU,if_neg (by omega),h,runU,if_pos (by simp[hb]),runU,if_neg (by simp[hc])]
      have h4:=(no4 (d:=d) h (by simp[hc]:¬ (contU a 1 b=true/\contU a 2 c=true))).1
      simp[firstR,h1,h4,decU,h3,h]
     ·have h4:=beg4 (a:=a) (b:=b) (c:=c) (d:=d) h hb hc
      rcases hd:contU a 3 d with _|_
      ·rw[hd,if_neg (by simp)]at h4
       have h3:measU (a::b::c::d::x)=3:=by rw[measU,if_neg (by omega),h,runU,if_pos (by simp[hb]),runU,if_pos (by simp[hc]),runU,if_neg (by simp[hd])]
       simp[firstR,h1,h4,decU,h3,h]
      ·rw[hd,if_pos rfl]at h4
       have h3:measU (a::b::c::d::x)=4:=by rw[measU,if_neg (by omega),h,runU,if_pos (by simp[hb]),runU,if_pos (by simp[hc]),runU,if_pos (by simp[hd]),run_stop _ _ _ _ (by omega)]
       simp[firstR,h1,h4,decU,h3,h,valU,foldU]
theorem firstR_eq(a:UInt8)(r:List UInt8):firstR (a::r)=decU (a::r):=by
 rcases first_cases a with⟨e,_⟩|⟨e,_⟩|⟨e,_⟩|⟨e,_⟩|⟨e,_⟩
 ·exact first_0 e
 ·exact first_1 e
 ·exact first_2 e
 ·exact first_3 e
 ·exact first_4 e
def findI{α:Type}(p:α->Bool):List α->Nat->Int
 | [],_ => -1
 | x::r,k=>if p x then (k:Int) else findI p r (k+1)
theorem findI_geq{α:Type}(p:α->Bool)(l:List α):∀k:Nat,decide (0<=findI p l k)=l.any p:=by
 induction l with
 | nil=>intro k;simp[findI]
 | cons x r ih=>intro k;by_cases h:p x=true<;>simp[findI,h, ← ih (k+1)]

end Go.Proofs.YtannhfnpigiggaaGreatDoor
