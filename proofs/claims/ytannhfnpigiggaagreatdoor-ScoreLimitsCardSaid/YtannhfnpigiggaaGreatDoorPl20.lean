import Derived.Test.YtannhfnpigiggaaGreatDoorPl19
import Derived.Deep.RegionLaw
namespace Go.Proofs.YtannhfnpigiggaaGreatDoor
set_option linter.unusedSimpArgs false
set_option linter.unusedVariables false
open Go.RowKit
theorem info_em:(Tryz.prog.info? 284).map (fun i=>(i.zero,i.size,i.bytes))=some (some (.nilIface),1,16):=by kernel_rfl
theorem el_ems:Elem Tryz.prog 194 284 1 16:=Elem.of Tryz.underlying194 info_em rfl (by omega)
def PatT(w:World)(b:Nat)(txt:ByteArray)(es:List Em):Prop := ∃A c,w.heap[b]?=some (.cells #[.string txt,.slice A es.length c] 196 (0,0))/\Row w A (emsV es)/\∀bb off,A=some ⟨bb,off,none⟩->∃cur fr,w.heap[bb]?=some (.cells cur 284 fr)
theorem PatT.at{w:World}{b:Nat}{txt:ByteArray}{es:List Em}(h:PatT w b txt es):PatAt w b txt es:=by
 obtain⟨A,c,h1,h2,h3⟩:=h
 exact⟨A,c,h1,h2⟩
theorem PatT.below{w w':World}{b:Nat}{txt:ByteArray}{es:List Em}(h:PatT w b txt es)(hb:Below w.heap.size w w'):PatT w' b txt es:=by
 obtain⟨A,c,h1,h2,h3⟩:=h
 refine⟨A,c,(hb.block _ (heap_lt h1)).trans h1,h2.below hb,fun bb off e=>?_⟩
 obtain⟨cur,fr,h4⟩:=h3 bb off e
 exact⟨cur,fr,(hb.block _ (heap_lt h4)).trans h4⟩
theorem own_type{w:World}{base:Nat}{e:TypeId}{size n:Nat}{v:Value}{xs:List Value}(h:w.ownsRow base e size v n xs)(g:Nat)(hg:v.ownBlock=some g):∃cur,w.heap[g]?=some (.cells cur e (0,0)):=by
 rcases h.2 with⟨rfl,_⟩|⟨g',cap,cur,rfl,_,hh,_⟩
 ·cases hg
 ·simp only[Value.ownBlock,Option.some.injEq]at hg
  subst hg;exact⟨cur,hh⟩
def PatV(w:World)(s:ByteArray)(x:List Em × Nat × Int)(v:Value):Prop:=(x.2.2=0/\∃b,v=.pointer (some ⟨b,0,none⟩)/\PatT w b s x.1)\/(x.2.2≠0/\v=.pointer none)
def CompPost(s:ByteArray)(w:World)(e:Ending)(w':World):Prop := ∃v,e=.returned (.tuple #[v,.int .i64 ((compF (toL s)).2.1:Nat),.int .i64 (compF (toL s)).2.2])/\PatV w' s (compF (toL s)) v/\Below w.heap.size w w'
theorem comp_post_no{s:ByteArray}{w w':World}{n:Nat}{k:Int}(h:compF (toL s)=([],n,k))(hk:k≠0)(hb:Below w.heap.size w w'):CompPost s w (.returned (.tuple #[.pointer none,.int .i64 n,.int .i64 k])) w':=by
 refine⟨.pointer none,by rw[h],?_,hb⟩
 rw[h];exact .inr ⟨hk,rfl⟩
structure CompAt(w:World)(s:ByteArray)(es:List Em)(v:Value)(wr:World):Prop where
 heap:wr.heap[w.heap.size]?=some (.cells #[.string s,v] 196 (0,0))
 own:wr.ownsRow (w.heap.size+1) 284 1 v es.length (emsV es)
 bel:Below w.heap.size w wr
theorem CompAt.pat{w wr:World}{s:ByteArray}{es:List Em}{v:Value}(h:CompAt w s es v wr):PatT wr w.heap.size s es:=by
 have hty:=own_type h.own
 rcases own_form h.own with⟨rfl,h0⟩|⟨g,cap,rfl,hg1,hg2,_,hc⟩
 ·have:es=[]:=List.eq_nil_of_length_eq_zero h0
  subst this
  exact⟨none,0,h.heap,Row.nil _ _,fun bb off e=>by cases e⟩
 ·refine⟨_,_,h.heap,Row.mk _ _ _ _ (by assumption) (fun j v hv=>by rw[Nat.zero_add];exact hc j v hv),fun bb off e=>?_⟩
  injection e with e;injection e with e _;subst e
  obtain⟨cur,h4⟩:=hty _ rfl
  exact⟨cur,_,h4⟩
theorem CompAt.away{w wr:World}{s:ByteArray}{es:List Em}{v:Value}(h:CompAt w s es v wr):v.ownBlock≠some w.heap.size:=fun e=>by have:=(h.own.lt _ e).1;omega
theorem CompAt.later{w wr w1:World}{s:ByteArray}{es:List Em}{v:Value}(h:CompAt w s es v wr)(hb:Below wr.heap.size wr w1):CompAt w s es v w1 :=
 ⟨(hb.block _ (heap_lt h.heap)).trans h.heap,own_below h.own hb,h.bel.trans (hb.mono h.bel.size)⟩
theorem CompAt.push{w wr w1:World}{s:ByteArray}{es:List Em}{v v':Value}{x:Em}(h:CompAt w s es v wr)(hown:w1.ownsRow (w.heap.size+1) 284 1 v' (es.length+1) (emsV es ++ [emV x]))(hg:wr.grownBy w1 v.ownBlock) :
  w1.heap[w.heap.size]?=some (.cells #[.string s,v] 196 (0,0))/\CompAt w s (es ++ [x]) v' (w1.setCell ⟨w.heap.size,1,none⟩ v'):=by
 have hh:w1.heap[w.heap.size]?=some (.cells #[.string s,v] 196 (0,0)):=(hg.block _ (heap_lt h.heap) (Ne.symm h.away)).trans h.heap
 refine⟨hh,⟨?_,?_,?_⟩⟩
 ·exact heap_set hh _
 ·have:=ownsRow_setCell_below (a:=⟨w.heap.size,1,none⟩) hown (by simp) v'
  simpa[emsV] using this
 ·have hs:=h.bel.size
  exact(h.bel.grown hg hs (fun k hk=>Nat.le_of_lt (Nat.lt_of_lt_of_le (Nat.lt_succ_self _) (h.own.lt k hk).1))).setCell (Nat.le_refl _) _
theorem comp_post_yes{s:ByteArray}{w wr:World}{es:List Em}{v:Value}(h:compF (toL s)=(es,0,0))(hc:CompAt w s es v wr):CompPost s w (.returned (.tuple #[.pointer (some ⟨w.heap.size,0,none⟩),.int .i64 0,.int .i64 0])) wr:=by
 refine⟨_,by rw[h];rfl,?_,hc.bel⟩
 rw[h];exact .inl ⟨rfl,_,rfl,hc.pat⟩
theorem compF_go(s:ByteArray)(h0:s.size≠0)(h1:s.size<=80):compF (toL s)=compGo 0 ((toL s).drop 0) 0 []:=by
 rw[compF,if_neg (by rw[toL_length];exact h0),if_neg (by rw[toL_length];omega),List.drop_zero]
theorem nameC_index(c:UInt8):decide (0<=Lib.indexByte nameC c)=isChar c:=by rw[index_has,nameC_has]
theorem one_cut(s:ByteArray)(k:Nat)(h:k<s.size):s.extract k (k+1)=ofL [s[k]'h]:=by
 apply toL_inj
 rw[toL_ofL,extract_toL,cutL]
 have:(toL s).drop k=s[k]'h::(toL s).drop (k+1):=drop_at (byte_at s k h)
 rw[this]
 simp
theorem nameC_toL:toL ⟨#[43,45,46,48,49,50,51,52,53,54,55,56,57,95,97,98,99,100,101,102,103,104,105,106,107,108,109,110,111,112,113,114,115,116,117,118,119,120,121,122]⟩=nameC:=rfl
set_option maxHeartbeats 8000000 in
set_option maxRecDepth 100000 in
theorem wm_compile (s : ByteArray) (w : World) (hs : s.size ≤ 1000000) :
    Calls Tryz.prog 156 #[.string s] w (CompPost s w) := by
  have HL := Lib.hid (toL_length s)
  by_cases h0 : s.size = 0
  · have hE : s = ⟨#[]⟩ := by
      apply toL_inj; rw [List.eq_nil_of_length_eq_zero (HL.out.trans h0)]; rfl
    subst hE
    go_enter Tryz.func156, Tryz.ntmps156
    go_wp2_with fail
    go_ret3
    exact comp_post_no (n := 0) (k := 4) (by decide +kernel) (by decide) (Below.refl _ _)
  have hE : s.toList.isEmpty = false := by
    rw [← Bool.not_eq_true, List.isEmpty_iff]; intro h; apply h0; rw [← HL.out, show toL s = [] from (ByteArray.toList_eq s).symm.trans h]; rfl
  by_cases h80 : 80 < s.size
  · have HC := Lib.hid (show compF (toL s) = ([], 80, 5) from by rw [compF, if_neg (by rw [HL.out]; exact h0), if_pos (by rw [HL.out]; exact h80)])
    go_enter Tryz.func156, Tryz.ntmps156
    go_wp2_with fail
    go_ret3
    exact comp_post_no (n := 80) (k := 5) HC.out (by decide) (Below.refl _ _)
  have HG := Lib.hid (compF_go s h0 (by omega))
  have h80' : s.size ≤ 80 := by omega
  have hB0 := Lib.hid (heap_alloc_new w (.cells #[.string s, .slice none 0 0] 196 (0, 0)))
  have hB1 := Lib.hid ((Below.refl w.heap.size w).alloc (Nat.le_refl _) (.cells #[.string s, .slice none 0 0] 196 (0, 0)))
  go_enter Tryz.func156, Tryz.ntmps156
  go_wp2_with fail
  go_loopw [6, 7] (fun v6 _ wr => ∃ (k : Nat) (es : List Em) (v : Value), k ≤ s.size ∧ v6 = .int .i64 k ∧ es.length ≤ k ∧ compF (toL s) = compGo 0 ((toL s).drop k) k es ∧ CompAt w s es v wr) (fun v6 _ _ => s.size - (intOf v6).toNat)
  case atStart => exact ⟨0, [], .slice none 0 0, by omega, rfl, by simp, HG.out, ⟨hB0.out, World.ownsRow_nil _ _ _ _, hB1.out⟩⟩
  case round =>
    obtain ⟨k, es, v, hk, rfl, hes, hgo, hC⟩ := hrel
    clear hB0 hB1 HG hE
    have HGO := Lib.hid hgo; clear hgo
    obtain ⟨wo, rfl⟩ : ∃ wo : World, wo = wr := ⟨_, rfl⟩
    by_cases hlt : k < s.size
    · have hk1 : (0 : Int) ≤ (k : Int) := by omega
      have hk2 : (k : Int) < (s.size : Int) := by omega
      have HD := Lib.hid (drop_at (byte_at s k hlt))
      have HB := Lib.hid (byte_at s k hlt)
      rw [HD.out] at HGO
      have hcp : wo.cell? ⟨w.heap.size, 1, none⟩ = some v := by rw [Lib.cell_of_heap hC.heap]; rfl
      have hown := hC.own
      have hbs : w.heap.size + 1 ≤ wo.heap.size := heap_lt hC.heap
      have HC := Lib.hid hC; clear hC
      by_cases e63 : s[k]'hlt = 63
      · have f63 : (num (s[k]'hlt) == 63) = true := by rw [e63]; rfl
        rw [e63, compGo_any] at HGO
        clear e63
        go_wp2_with ((at_builtin; refine wpList_push el_ems rfl _ _ rfl hown #[emV .single] rfl rfl rfl (by simp [Value.oneCell', emV]) (by omega) (by unfold maxLen; omega) hbs ?_; intro g cap w3 hown3 hg3 hat3; obtain ⟨hh3, hC3⟩ := HC.out.push hown3 hg3; have hcz : w3.cell? ⟨w.heap.size, 1, none⟩ = some v := (by rw [Lib.cell_of_heap hh3]; rfl); have hfz : w3.frozen? ⟨w.heap.size, 1, none⟩ = false := Lib.frozen_of_heap hh3 1))
        go_roundw
        case rel => exact ⟨k + 1, es ++ [.single], _, by omega, by go_num, by simp; omega, HGO.out, hC3⟩
        case measure => simp [intOf] <;> omega
      have f63 : (num (s[k]'hlt) == 63) = false := by
        have := eq_num (s[k]'hlt) 63; rw [show num 63 = 63 from rfl] at this; rw [this]; exact beq_eq_false_iff_ne.2 e63
      by_cases e42 : s[k]'hlt = 42
      · have f42 : (num (s[k]'hlt) == 42) = true := by rw [e42]; rfl
        rw [e42, compGo_star] at HGO
        clear e42 e63
        go_wp2_with ((at_builtin; refine wpList_push el_ems rfl _ _ rfl hown #[emV .star] rfl rfl rfl (by simp [Value.oneCell', emV]) (by omega) (by unfold maxLen; omega) hbs ?_; intro g cap w3 hown3 hg3 hat3; obtain ⟨hh3, hC3⟩ := HC.out.push hown3 hg3; have hcz : w3.cell? ⟨w.heap.size, 1, none⟩ = some v := (by rw [Lib.cell_of_heap hh3]; rfl); have hfz : w3.frozen? ⟨w.heap.size, 1, none⟩ = false := Lib.frozen_of_heap hh3 1))
        go_roundw
        case rel => exact ⟨k + 1, es ++ [.star], _, by omega, by go_num, by simp; omega, HGO.out, hC3⟩
        case measure => simp [intOf] <;> omega
      have f42 : (num (s[k]'hlt) == 42) = false := by
        have := eq_num (s[k]'hlt) 42; rw [show num 42 = 42 from rfl] at this; rw [this]; exact beq_eq_false_iff_ne.2 e42
      by_cases e91 : s[k]'hlt = 91
      · have f91 : (num (s[k]'hlt) == 91) = true := by rw [e91]; rfl
        rw [← HD.out] at HGO
        rw [e91] at HD
        clear e91 e42 e63
        have hx91 : (toL (s.extract k s.size))[0]? = some 91 := by rw [drop_toL, HD.out]; rfl
        have hxs : (s.extract k s.size).size ≤ 1000 := by rw [extract_size _ _ _ (Nat.le_refl _)]; omega
        have HDT := Lib.hid (drop_toL s k)
        have HDL : Hid (((toL s).drop k).length = s.size - k) := Lib.hid (by rw [List.length_drop, HL.out])
        go_wp2_with fail
        (with_reducible refine (wm_parseClass (s.extract k s.size) wo hxs hx91).mono ?_)
        rintro e w1 ⟨rfl, hb1⟩
        rw [HDT.out]
        clear hx91 hxs HDT
        rcases hcl : classF ((toL s).drop k) with _ | ⟨X, n⟩
        · have HX := Lib.hid hcl; clear hcl
          have HBAD := Lib.hid (show compF (toL s) = ([], k, 3) from by rw [HGO.out, HD.out]; exact compGo_noclass _ _ _ (by rw [← HD.out]; exact HX.out))
          clear HX HD HGO
          simp only [classV]
          have hCb := HC.out.bel.trans (hb1.mono HC.out.bel.size)
          go_wp2_with fail
          go_ret3
          exact comp_post_no HBAD.out (by decide) hCb
        · have HX := Lib.hid hcl
          obtain ⟨hn2, hnl, _⟩ := classF_range hcl
          clear hcl
          have HY := Lib.hid (show compF (toL s) = compGo 0 ((toL s).drop (k + n)) (k + n) (es ++ [.cls X]) from by
            have h91 := compGo_class ((toL s).drop (k + 1)) k es X n (by rw [← HD.out]; exact HX.out) (by omega) (by rw [← HD.out]; exact hnl)
            rw [HGO.out]
            rw [← HD.out, List.drop_drop] at h91
            exact h91)
          rw [HDL.out] at hnl
          clear HX HD HGO HDL
          have HC1 := Lib.hid (HC.out.later hb1)
          clear HC hown hcp
          have HC := HC1; clear HC1
          have hcp : w1.cell? ⟨w.heap.size, 1, none⟩ = some v := by rw [Lib.cell_of_heap HC.out.heap]; rfl
          have hown := HC.out.own
          have hbs : w.heap.size + 1 ≤ w1.heap.size := heap_lt HC.out.heap
          simp only [classV]
          have hn0 : ((n : Int) == 0) = false := beq_eq_false_iff_ne.2 (by omega)
          go_wp2_with ((at_builtin; refine wpList_push el_ems rfl _ _ rfl hown #[emV (.cls X)] rfl rfl rfl (by simp [Value.oneCell', emV]) (by omega) (by unfold maxLen; omega) hbs ?_; intro g cap w3 hown3 hg3 hat3; obtain ⟨hh3, hC3⟩ := HC.out.push hown3 hg3; have hcz : w3.cell? ⟨w.heap.size, 1, none⟩ = some v := (by rw [Lib.cell_of_heap hh3]; rfl); have hfz : w3.frozen? ⟨w.heap.size, 1, none⟩ = false := Lib.frozen_of_heap hh3 1))
          go_roundw
          case rel => exact ⟨k + n, es ++ [.cls X], _, by omega, by go_num, by simp; omega, HY.out, hC3⟩
          case measure => simp [intOf] <;> omega
      have f91 : (num (s[k]'hlt) == 91) = false := by
        have := eq_num (s[k]'hlt) 91; rw [show num 91 = 91 from rfl] at this; rw [this]; exact beq_eq_false_iff_ne.2 e91
      have hni := nameC_index (s[k]'hlt)
      rcases hch : isChar (s[k]'hlt) with _ | _
      · rw [compGo_bad _ _ _ _ e63 e42 e91 hch] at HGO
        rw [hch] at hni
        clear e63 e42 e91 hch
        have hCb := HC.out.bel
        go_wp2_with fail
        (with_reducible refine (idx_byte _ (s[k]'hlt) _).mono ?_)
        rintro e w1 ⟨rfl, rfl⟩
        rw [show toL _ = nameC from nameC_toL]
        go_wp2_with fail
        go_ret3
        exact comp_post_no HGO.out (by decide) hCb
      · rw [compGo_lit _ _ _ _ e63 e42 e91 hch] at HGO
        rw [hch] at hni
        clear e63 e42 e91 hch
        have HONE := Lib.hid (one_cut s k hlt)
        go_wp2_with fail
        (with_reducible refine (idx_byte _ (s[k]'hlt) _).mono ?_)
        rintro e w1 ⟨rfl, rfl⟩
        rw [show toL _ = nameC from nameC_toL]
        have aw := HC.out.away
        have hbl : w.heap.size < wo.heap.size := by omega
        have HHP := Lib.hid HC.out.heap
        obtain ⟨i0, hi0, hz0, hz1, hz2⟩ := info_parts info_em
        have c1 : IntKind.i64.wrap ((k : Int) + 1) = (k : Int) + 1 := IntWalk.i64_in _ (by omega)
        have j0 : (0 : Int) ≤ (k : Int) + 1 := by omega
        have j1 : (k : Int) ≤ (k : Int) + 1 := by omega
        have j2 : (k : Int) + 1 ≤ (s.size : Int) := by omega
        have j3 : ((k : Int) + 1).toNat = k + 1 := by omega
        go_wp2_with fail
        go_region_law
          ((refine step_append_lies _ (by rfl) _ _ _ (by rfl) (w.heap.size + 1) 284 i0 _ 1 16 Tryz.underlying194 hi0 hz0 hz1 hz2 rfl (by omega) v _ (emsV es) (by rfl) ((hown.alloc _).drew)
              ⟨wo.heap.size, 0, none⟩ 1 1 [.iface 257 (.string (s.extract k (k + 1)))] (by rfl) (by rfl) (World.news_of_block (cs := #[.iface 257 (.string (s.extract k (k + 1)))]) (t := 284) (fr := (0, 0)) (heap_alloc_new wo _)) (by simp [Value.oneCell'])
              (by omega) (by unfold maxLen; omega) (by omega) (by simp; omega) (wo.heap.size + 1) (by simp) ?_
            intro gg cap w3 hown3 hgrow hat hlt
            have HB := Lib.hid ((hgrow.block w.heap.size (by simp; omega) (Ne.symm aw)).trans ((Lib.alloc_old wo _ w.heap.size (by omega)).trans HHP.out))
            have hcz : w3.cell? ⟨w.heap.size, 1, none⟩ = some v := by rw [Lib.cell_of_heap HB.out]; rfl
            have hfz : w3.frozen? ⟨w.heap.size, 1, none⟩ = false := Lib.frozen_of_heap HB.out 1))
        all_goals
          have hgw : wo.grownBy w3 v.ownBlock := ⟨hgrow.os, hgrow.tape, hgrow.output, Nat.le_trans (by simp) hgrow.size, fun k hk hne => (hgrow.block k (by simp; omega) hne).trans (Lib.alloc_old wo _ k hk)⟩
          rw [HONE.out] at hown3
          obtain ⟨hh3, hC3⟩ := HC.out.push (x := .lit (s[k]'(by omega))) hown3 hgw
          clear hown3 hgrow hat HHP HB hcz hfz hgw hi0 hz0 hz1 hz2 i0 hh3
          go_wp2_with fail
          go_roundw
          case rel => exact ⟨k + 1, es ++ [.lit (s[k]'(by omega))], _, by omega, by go_num, by simp; omega, HGO.out, hC3⟩
          case measure => simp [intOf] <;> omega
    · obtain rfl : k = s.size := by omega
      have HZ := Lib.hid (show compF (toL s) = (es, 0, 0) from by rw [HGO.out, List.drop_of_length_le (by rw [HL.out]; omega), compGo_end])
      go_wp2_with fail
      go_ret3
      exact comp_post_yes HZ.out hC
end Go.Proofs.YtannhfnpigiggaaGreatDoor
