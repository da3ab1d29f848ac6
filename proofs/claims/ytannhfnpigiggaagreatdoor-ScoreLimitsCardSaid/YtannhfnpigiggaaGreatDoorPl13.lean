import Derived.Test.YtannhfnpigiggaaGreatDoorPl10
import Derived.Test.YtannhfnpigiggaaGreatDoorPl12
namespace Go.Proofs.YtannhfnpigiggaaGreatDoor
set_option linter.unusedSimpArgs false
set_option linter.unusedVariables false
open Go.RowKit
theorem bld_check2(B b:Nat)(bs:List Value)(w:World)(h:Lib.IsBuilder 87 5 B b bs w) :
  Calls Tryz.prog 51 #[.pointer (some ⟨b,0,none⟩)] w fun e w'=>e=.returned (.tuple #[])/\(Lib.BuilderAt 87 5 B b (.pointer (some ⟨b,0,none⟩)) bs w'/\Below B w w'/\KeepsBut 87 5 w w'/\KeepsOthers w w'):=by
 rcases h with h|h
 ·refine(bld_check_fresh b w h.cell0 h.shape h.frozen0).mono ?_
  rintro e w' ⟨rfl,rfl⟩
  refine⟨rfl,h.used _,(Below.refl B w).setCell (p:=⟨b,0,none⟩) h.1 _,fun k c t fr hk h1 h2=>?_,KeepsOthers.setCell _ _ _⟩
  rw[Below.heap_setCell]
  ·exact hk
  ·rintro rfl
   obtain⟨_,v,hb,_⟩:=h
   rw[hb]at hk
   simp at hk
   exact h1 hk.2.1.symm
 ·refine(bld_check_used b w h.cell0).mono ?_
  rintro e w' ⟨rfl,rfl⟩
  exact⟨rfl,h,Below.refl B _,KeepsBut.refl _ _ _,KeepsOthers.refl _⟩
set_option maxHeartbeats 2000000 in
set_option maxRecDepth 100000 in
theorem bld_write2(B b:Nat)(l:List UInt8)(s:ByteArray)(w:World)(h:Lib.IsBuilder 87 5 B b (Lib.byteCells l) w)(hlen:l.length+s.size<=1000000000)(hBw:B<=w.heap.size) :
  Calls Tryz.prog 33 #[.pointer (some ⟨b,0,none⟩),.string s] w fun e w'=>e=.returned (.tuple #[.int .i64 s.size,.nilIface]) ∧
   (Lib.IsBuilder 87 5 B b (Lib.byteCells (l++toL s)) w'/\Below B w w'/\KeepsBut 87 5 w w'/\KeepsOthers w w'):=by
 obtain⟨i0,hi,hz0,hz1,hz2⟩:=info_parts info_byte
 have hl:=Lib.byteCells_length l
 have HL:=Lib.hid hl;clear hl
 go_enter Tryz.func33,Tryz.ntmps33
 go_wp2_with (go_at_call 51;refine(bld_check2 B b _ _ h).mono ?_)
 rintro e w1 ⟨rfl,h1,hb1,hk1,ho1⟩
 obtain⟨hB,v,hbk,hown,hne⟩:=h1
 have HO1:=Lib.hid ho1;clear ho1
 have c0:w1.cell? ⟨b,0,none⟩=some (.pointer (some ⟨b,0,none⟩)):=by rw[Lib.cell_of_heap hbk];rfl
 have c1:w1.cell? ⟨b,1,none⟩=some v:=by rw[Lib.cell_of_heap hbk];rfl
 go_wp2_with (at_builtin;refine Lib.wpList_append_own_string _ rfl _ _ 50 9 rfl B 5 i0 Tryz.underlying50 Tryz.underlying9 hi hz0 hz1 hz2 _ _ _ rfl hown s rfl ?c3 ?c4 ?c5 ?_)
 case c3=>rw[HL.out];unfold maxLen;omega
 case c4=>rw[HL.out];omega
 case c5=>have:=hb1.size;omega
 intro v' w2 hown' hgrow _
 have hlt:b<w1.heap.size:=heap_lt hbk
 have hb2:w2.heap[b]?=some (.cells #[.pointer (some ⟨b,0,none⟩),v] 87 (0,0)):=by
  rw[hgrow.block b hlt (fun e=>hne e.symm)]
  exact hbk
 have HO2:=Lib.hid (show KeepsOthers w1 w2 from KeepsOthers.of_grownBy hgrow (fun j o ej ho=>by
  rcases hown.2 with⟨rfl,_⟩|⟨g,cap',cur,rfl,_,hg,_⟩
  ·simp[Value.ownBlock]at ej
  ·simp[Value.ownBlock]at ej
   subst ej
   rw[hg]at ho;cases ho;rfl))
 have d0:w2.cell? ⟨b,0,none⟩=some (.pointer (some ⟨b,0,none⟩)):=by rw[Lib.cell_of_heap hb2];rfl
 have d1:w2.cell? ⟨b,1,none⟩=some v:=by rw[Lib.cell_of_heap hb2];rfl
 have f1:w2.frozen? ⟨b,1,none⟩=false:=Lib.frozen_of_heap hb2 1
 obtain⟨ao,n',cap,rfl⟩:∃ao n' cap,v'=.slice ao n' cap:=by
  rcases hown'.2 with⟨hv,_⟩|⟨g,cap,cur,hv,_⟩
  ·exact⟨_,_,_,hv⟩
  ·exact⟨_,_,_,hv⟩
 go_wp2
 go_ret2
 have hcells:Lib.byteCells (l++toL s)=Lib.byteCells l++Lib.strCells s:=by simp[Lib.byteCells,Lib.strCells,toL]
 refine⟨rfl,.inr ?_,?_,?_,(HO1.out.trans HO2.out).trans (KeepsOthers.setCell _ _ _)⟩
 ·rw[hcells]
  exact Lib.BuilderAt.put (T:=87) (e:=5) hB hb2 (bs':=Lib.byteCells l++Lib.strCells s) (by simpa[Lib.strCells_length] using hown') (by decide)
 ·exact(hb1.grown hgrow (by have:=hb1.size;omega) (fun k hk=>(hown.lt k hk).1)).setCell (p:=⟨b,1,none⟩) hB _
 ·intro k c t fr hk h1 h2
  have hw1:=hk1 k c t fr hk h1 h2
  have hkb:k≠b:=by
   rintro rfl
   rw[hbk]at hw1
   simp at hw1
   exact h1 hw1.2.1.symm
  rw[Below.heap_setCell _ _ _ _ hkb,hgrow.block k (heap_lt hw1)]
  ·exact hw1
  ·intro e
   rcases hown.2 with⟨rfl,_⟩|⟨g,cap',cur,rfl,_,hg,_⟩
   ·simp[Value.ownBlock]at e
   ·simp[Value.ownBlock]at e
    subst e
    rw[hg]at hw1
    simp at hw1
    exact h2 hw1.2.1.symm
theorem el_u8:Elem Tryz.prog 50 5 1 1:=Elem.of Tryz.underlying50 (z:=.int .u8 0) (by kernel_rfl) rfl (by omega)
set_option maxHeartbeats 2000000 in
set_option maxRecDepth 100000 in
theorem bld_byte(B b:Nat)(l:List UInt8)(c:UInt8)(ci:Int)(hci:ci=(c.toNat:Int))(w:World)(h:Lib.IsBuilder 87 5 B b (Lib.byteCells l) w)(hlen:l.length<=1000000000)(hBw:B<=w.heap.size) :
  Calls Tryz.prog 35 #[.pointer (some ⟨b,0,none⟩),.int .u8 ci] w fun e w'=>e=.returned .nilIface ∧
   (Lib.IsBuilder 87 5 B b (Lib.byteCells (l ++ [c])) w'/\Below B w w'):=by
 subst hci
 have hl:=Lib.byteCells_length l
 have HL:=Lib.hid hl;clear hl
 go_enter Tryz.func35,Tryz.ntmps35
 go_wp2_with (go_at_call 51;refine(bld_check2 B b _ _ h).mono ?_)
 rintro e w1 ⟨rfl,h1,hb1,hk1,ho1⟩
 obtain⟨hB,v,hbk,hown,hne⟩:=h1
 have c0:w1.cell? ⟨b,0,none⟩=some (.pointer (some ⟨b,0,none⟩)):=by rw[Lib.cell_of_heap hbk];rfl
 have c1:w1.cell? ⟨b,1,none⟩=some v:=by rw[Lib.cell_of_heap hbk];rfl
 have hz1:=hb1.size
 clear hk1 ho1
 go_wp2_with (at_builtin;refine wpList_push el_u8 rfl _ _ rfl hown #[.int .u8 (c.toNat:Int)] rfl rfl rfl (by simp[Value.oneCell']) ?c3 ?c4 ?c5 ?_)
 case c3=>rw[HL.out];omega
 case c4=>rw[HL.out];unfold maxLen;omega
 case c5=>omega
 intro g cap w2 hown' hgrow _
 have hlt:b<w1.heap.size:=heap_lt hbk
 have hb2:w2.heap[b]?=some (.cells #[.pointer (some ⟨b,0,none⟩),v] 87 (0,0)):=by
  rw[hgrow.block b hlt (fun e=>hne e.symm)]
  exact hbk
 have d0:w2.cell? ⟨b,0,none⟩=some (.pointer (some ⟨b,0,none⟩)):=by rw[Lib.cell_of_heap hb2];rfl
 have d1:w2.cell? ⟨b,1,none⟩=some v:=by rw[Lib.cell_of_heap hb2];rfl
 have f1:w2.frozen? ⟨b,1,none⟩=false:=Lib.frozen_of_heap hb2 1
 go_wp2
 go_ret
 have hcells:Lib.byteCells (l ++ [c])=Lib.byteCells l ++ [.int .u8 (c.toNat:Int)]:=by simp[Lib.byteCells]
 refine⟨rfl,.inr ?_,?_⟩
 ·rw[hcells]
  exact Lib.BuilderAt.put (T:=87) (e:=5) hB hb2 (bs':=Lib.byteCells l ++ [.int .u8 (c.toNat:Int)]) (by simpa using hown') (by decide)
 ·exact(hb1.grown hgrow (by have:=hb1.size;omega) (fun k hk=>(hown.lt k hk).1)).setCell (p:=⟨b,1,none⟩) hB _
theorem bld_new(W:World)(n:Nat)(h:W.heap.size=n):Lib.IsBuilder 87 5 n n (Lib.byteCells []) (W.alloc (.cells #[.pointer none,.slice none 0 0] 87)):=by
 subst h
 exact .inl ⟨Nat.le_refl _,_,heap_alloc_new _ _,World.ownsRow_nil _ _ _ _,by simp[Value.ownBlock]⟩
theorem bld_below{B b:Nat}{bs:List Value}{W W':World}(h:Lib.IsBuilder 87 5 B b bs W)(hb:Below W.heap.size W W'):Lib.IsBuilder 87 5 B b bs W':=by
 rcases h with⟨h1,v,h2,h3,h4⟩|⟨h1,v,h2,h3,h4⟩
 ·exact .inl ⟨h1,v,(hb.block _ (heap_lt h2)).trans h2,own_below h3 hb,h4⟩
 ·exact .inr ⟨h1,v,(hb.block _ (heap_lt h2)).trans h2,own_below h3 hb,h4⟩
theorem bldAtF_below{T e:TypeId}{B b:Nat}{p:Value}{bs:List Value}{W W':World}(h:Lib.BuilderAtF T e B b p bs W)(hb:Below W.heap.size W W'):Lib.BuilderAtF T e B b p bs W':=by
 obtain⟨hB,v,hv,hown,hne⟩:=h
 exact⟨hB,v,(hb.block b (heap_lt hv)).trans hv,hown.kept (row:=none) ⟨hb.os,hb.tape,hb.output,hb.size,fun k hk _=>hb.block k hk⟩ (Classical.em _),hne⟩
theorem bldF_below{T e:TypeId}{B b:Nat}{bs:List Value}{W W':World}(h:Lib.IsBuilderF T e B b bs W)(hb:Below W.heap.size W W'):Lib.IsBuilderF T e B b bs W' :=
 h.elim (fun x=>.inl (bldAtF_below x hb)) (fun x=>.inr (bldAtF_below x hb))
end Go.Proofs.YtannhfnpigiggaaGreatDoor
