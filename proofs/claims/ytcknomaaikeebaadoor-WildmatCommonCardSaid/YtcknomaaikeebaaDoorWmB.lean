/- The walk over ParseList. -/
import Derived.Test.YtcknomaaikeebaaDoorWmA
import Derived.Deep.AppendLies
import Derived.Deep.RegionLaw
namespace Go.Proofs.YtcknomaaikeebaaDoor
set_option linter.unusedSimpArgs false
set_option linter.unusedVariables false
open Go.RowKit

theorem wm_split (s : ByteArray) (w : World) (hsh : w.ShapedOpen Tryd.prog) (hs : s.size ≤ 100000) :
    Calls Tryd.prog 27 #[.string s, .string ⟨#[44]⟩] w fun e w' => e = .returned (.slice (some ⟨w.heap.size, 0, none⟩) (splitM (toL s)).length (splitM (toL s)).length) ∧ w' = w.alloc (.cells (strsL (splitM (toL s))).toArray 9) := by
  refine (Tryd.strings_Split_shaped s markS w hsh (by omega) (by decide)).mono ?_
  rintro e w' ⟨rfl, rfl⟩
  exact ⟨by rw [← split_len], by rw [split_cells]⟩
theorem split_bounds (s : ByteArray) (h : s.size ≤ 1000) : (splitM (toL s)).length ≤ 1001 ∧ ∀ x ∈ splitM (toL s), x.length ≤ 1000 := by
  have := splitAux_sum (toL s) []
  rw [toL_length] at this
  exact ⟨by show (splitAux (toL s) []).length ≤ 1001; omega, fun x hx => by have := this.2 x hx; simp at this; omega⟩

theorem own_slice {w : World} {base : Nat} {e : TypeId} {size n : Nat} {v : Value} {xs : List Value} (h : w.ownsRow base e size v n xs) : ∃ A c, v = .slice A n c := by
  rcases own_form h with ⟨rfl, h0⟩ | ⟨g, cap, rfl, _⟩
  · subst h0; exact ⟨none, 0, rfl⟩
  · exact ⟨_, _, rfl⟩
theorem pre_calls (X : ByteArray) (c : UInt8) (w : World) : Calls Tryd.prog 24 #[.string X, .string ⟨#[c]⟩] w fun e w' => e = .returned (.bool ((toL X)[0]? == some c)) ∧ w = w' := by
  refine (Tryd.strings_HasPrefix X ⟨#[c]⟩ w).mono ?_
  rintro e w' ⟨rfl, rfl⟩
  exact ⟨ret_bool (pre_one (toL X) c), rfl⟩

set_option maxHeartbeats 8000000 in
set_option maxRecDepth 100000 in
theorem wm_parseList (s : ByteArray) (w : World) (hsh : w.ShapedOpen Tryd.prog) (hs : s.size ≤ 1000) :
    Calls Tryd.prog 13 #[.string s] w (ListPost s w) := by
  have HL := Lib.hid (toL_length s)
  by_cases h0 : s.size = 0
  · have hE : s = ⟨#[]⟩ := by
      apply toL_inj; rw [List.eq_nil_of_length_eq_zero (HL.out.trans h0)]; rfl
    subst hE
    go_enter Tryd.func13, Tryd.ntmps13
    go_wp2_with fail
    go_ret3
    exact list_post_no (n := 0) (k := 4) (by decide +kernel) (by decide) (Below.refl _ _) 0 rfl
  have hE : s.toList.isEmpty = false := by
    rw [← Bool.not_eq_true, List.isEmpty_iff]; intro h; apply h0; rw [← HL.out, show toL s = [] from (ByteArray.toList_eq s).symm.trans h]; rfl
  have HG := Lib.hid (show listF (toL s) = listGo ((splitM (toL s)).drop 0) 0 [] from by rw [listF, if_neg (by rw [HL.out]; exact h0), List.drop_zero])
  obtain ⟨hpl, hpx⟩ := split_bounds s hs
  have HPX := Lib.hid hpx; clear hpx
  have hB1 := (Below.refl w.heap.size w).alloc (Nat.le_refl _) (.cells #[.string s, .slice none 0 0] 79 (0, 0))
  have HSP := Lib.hid (wm_split s _ (shaped_below hsh hB1) (by omega))
  have hB0 := Lib.hid (heap_alloc_new w (.cells #[.string s, .slice none 0 0] 79 (0, 0)))
  go_enter Tryd.func13, Tryd.ntmps13
  go_wp2_with fail
  (with_reducible refine HSP.out.mono ?_)
  rintro e w1 ⟨rfl, rfl⟩
  have HB2 := Lib.hid (heap_alloc_new (w.alloc (.cells #[.string s, .slice none 0 0] 79 (0, 0))) (.cells (strsL (splitM (toL s))).toArray 9 (0, 0)))
  have HB3 := Lib.hid ((Lib.alloc_old (w.alloc (.cells #[.string s, .slice none 0 0] 79 (0, 0))) (.cells (strsL (splitM (toL s))).toArray 9 (0, 0)) w.heap.size (by simp)).trans hB0.out)
  have HB4 := Lib.hid (hB1.alloc (by simp) (.cells (strsL (splitM (toL s))).toArray 9 (0, 0)))
  clear HSP hB0 hsh hB1
  generalize (w.alloc (.cells #[.string s, .slice none 0 0] 79 (0, 0))).alloc (.cells (strsL (splitM (toL s))).toArray 9 (0, 0)) = W at *
  generalize (w.alloc (.cells #[.string s, .slice none 0 0] 79 (0, 0))).heap.size = sb at *
  have HLS := Lib.hid (show listF (toL s) = listF (toL s) from rfl)
  generalize splitM (toL s) = ps at *
  go_wp2_with fail
  go_loopw [22, 6] (fun v22 v6 wr => ∃ (k i : Nat) (l : List (Nat × Int)) (es : List Ent) (v : Value), k ≤ ps.length ∧ v22 = .int .i64 k ∧ v6 = .int .i64 i ∧ i ≤ k * 2000 ∧ es.length ≤ 64 ∧ listF (toL s) = listGo (ps.drop k) i es ∧ ListW w s sb ps l es v wr) (fun v22 _ _ => ps.length - (intOf v22).toNat)
  case atStart => exact ⟨0, 0, [], [], .slice none 0 0, by omega, rfl, rfl, by omega, by simp, HG.out, ⟨HB3.out, World.ownsRow_nil _ _ _ _, ⟨rfl, fun k p e h => by simp at h⟩, HB2.out, HB4.out⟩⟩
  case round =>
    obtain ⟨k, i, l, es, v, hk, rfl, rfl, hi, hes, hgo, hW⟩ := hrel
    clear HG HB2 HB3 HB4 HLS hE
    have HGO := Lib.hid hgo; clear hgo
    obtain ⟨wo, rfl⟩ : ∃ wo : World, wo = wr := ⟨_, rfl⟩
    by_cases hlt : k < ps.length
    · have hk1 : (0 : Int) ≤ (k : Int) := by omega
      have hk2 : (k : Int) < (ps.length : Int) := by omega
      have hpart : wo.cell? ⟨sb, k, none⟩ = some (.string (ofL ps[k])) := by rw [Lib.cell_of_heap hW.split]; simp [hlt]
      have hcp : wo.cell? ⟨w.heap.size, 1, none⟩ = some v := by rw [Lib.cell_of_heap hW.heap]; rfl
      have hNlt := heap_lt hW.heap
      have hslt := heap_lt hW.split
      have HD := Lib.hid (List.drop_eq_getElem_cons hlt)
      have hxl := HPX.out ps[k] (List.getElem_mem hlt)
      rw [HD.out] at HGO
      obtain ⟨A, c, hvf⟩ := own_slice hW.own
      have hXX : ps[k] = toL (ofL ps[k]) := (toL_ofL _).symm
      generalize hX : ofL ps[k] = X at *
      rw [hXX] at HGO hxl
      clear hXX HD hX
      have hxs : X.size ≤ 1000 := by rw [← toL_length]; exact hxl
      subst hvf
      have HW := Lib.hid hW; clear hW
      by_cases h64 : es.length = 64
      · have h64' : ((es.length : Int) == 64) = true := by rw [beq_iff_eq]; omega
        have HZ := Lib.hid (show listF (toL s) = ([], i, 9) from by rw [HGO.out, listGo_full _ _ _ _ h64])
        have hbel := HW.out.bel
        go_wp2_with fail
        go_ret3
        exact list_post_no HZ.out (by decide) hbel _ rfl
      · have h64' : ((es.length : Int) == 64) = false := beq_eq_false_iff_ne.2 (by omega)
        have h1001 : k ≤ 1001 := by omega
        rcases h33 : ((toL X)[0]? == some 33) with _ | _
        · have HPC := Lib.hid (fun w => pre_calls X 33 w)
          rw [h33] at HPC
          rcases h64c : ((toL X)[0]? == some 64) with _ | _
          · have HVF := Lib.hid (verdF_no (l := toL X) (fun e => by rw [e] at h33; exact absurd h33 (by decide)) (fun e => by rw [e] at h64c; exact absurd h64c (by decide)))
            have HPD := Lib.hid (fun w => pre_calls X 64 w)
            rw [h64c] at HPD
            clear h33 h64c
            go_wp2_with fail
            (with_reducible refine (HPC.out _).mono ?_)
            rintro e w2 ⟨rfl, rfl⟩
            go_wp2_with fail
            (with_reducible refine (HPD.out _).mono ?_)
            rintro e w2 ⟨rfl, rfl⟩
            go_wp2_with fail
            clear HPC HPD
            have HTX := Lib.hid (show (verdF (toL X)).2 = toL X from by rw [HVF.out])
            have HVX := Lib.hid (show (verdF (toL X)).1 = 1 from by rw [HVF.out])
            have hts : X.size ≤ X.size ∧ X.size ≤ X.size + 1 := by omega
            have HA := Lib.hid (HW.out.below ((Below.refl wo.heap.size wo).alloc (Nat.le_refl _) (.cells #[.pointer none, .int .i64 1] 82 (0, 0))))
            have HXB := Lib.hid (heap_alloc_new wo (.cells #[.pointer none, .int .i64 1] 82 (0, 0)))
            clear HVF
            generalize (wo.alloc (.cells #[.pointer none, .int .i64 1] 82)) = wA at *
            have hbv : (Value.slice A es.length c).ownBlock ≠ some wo.heap.size := fun e => by have := (HW.out.own.lt _ e).2; omega
            have hNx : w.heap.size ≤ wo.heap.size := Nat.le_of_lt hNlt
            clear HW hpart hcp hslt
            generalize wo.heap.size = xb at *
            have hTs : X.size ≤ 1000 := by omega
            (with_reducible refine (wm_compile X wA (by omega)).mono ?_)
            rintro e w2 ⟨pv, rfl, hpv, hb2⟩
            have HCL := Lib.hid (compF_len (toL X))
            have HCP := Lib.hid hpv; clear hpv
            have HAb := Lib.hid (HA.out.below hb2)
            have HXb := Lib.hid ((hb2.block _ (heap_lt HXB.out)).trans HXB.out)
            clear HA HXB hb2
            rcases HCP.out with ⟨herr, b, rfl, hpt⟩ | ⟨herr, rfl⟩
            · have HPT := Lib.hid hpt; clear hpt
              rw [herr]
              have HNX := Lib.hid (show listF (toL s) = listGo (ps.drop (k + 1)) (i + X.size + 1) (es ++ [((compF (toL X)).1, (verdF (toL X)).1)]) from by
                rw [HGO.out, listGo_good _ _ _ _ h64 (by rw [HTX.out]; exact herr), HTX.out, toL_length])
              clear herr HCP
              have hvv := HVX.out
              have HENT := Lib.hid (show ((compF (toL X)).1, (verdF (toL X)).1) = ((compF (toL X)).1, 1) from by rw [hvv])
              rw [HENT.out] at HNX
              clear hvv HENT
              generalize (compF (toL X)).2.1 = of at *
              generalize (compF (toL X)).1 = cs at *
              have q0 : w2.cell? ⟨xb, 0, none⟩ = some (.pointer none) := by rw [Lib.cell_of_heap HXb.out]; rfl
              have q1 : w2.frozen? ⟨xb, 0, none⟩ = false := Lib.frozen_of_heap HXb.out 0
              have HG3 := Lib.hid (grown_set (World.grownBy.refl w2 (some xb)) 0 (.pointer (some ⟨b, 0, none⟩)))
              have HW3 := Lib.hid (HAb.out.kept HG3.out HXb.out hbv hNx)
              have HX3 := Lib.hid (heap_set (i := 0) HXb.out (.pointer (some ⟨b, 0, none⟩)))
              have HP3 := Lib.hid (HPT.out.kept HG3.out (fun g e => by injection e with e; subst e; exact ⟨_, _, _, HXb.out, by decide, by decide⟩))
              go_wp2_with fail
              clear q0 q1 HG3 HAb HXb HPT
              generalize w2.setCell ⟨xb, 0, none⟩ (.pointer (some ⟨b, 0, none⟩)) = w3 at *
              have q0 : w3.cell? ⟨xb, 0, none⟩ = some (.pointer (some ⟨b, 0, none⟩)) := by rw [Lib.cell_of_heap HX3.out]; rfl
              have q1 : w3.cell? ⟨xb, 1, none⟩ = some (.int .i64 1) := by rw [Lib.cell_of_heap HX3.out]; rfl
              have q2 : w3.cell? ⟨w.heap.size, 1, none⟩ = some (.slice A es.length c) := by rw [Lib.cell_of_heap HW3.out.heap]; rfl
              have q3 := heap_lt HX3.out
              have q4 := heap_lt HW3.out.heap
              have hown := HW3.out.own
              have HHP := Lib.hid HW3.out.heap
              have aw : (Value.slice A es.length c).ownBlock ≠ some w.heap.size := fun e => by have := (hown.lt _ e).1; omega
              obtain ⟨i0, hi0, hz0, hz1, hz2⟩ := info_parts info_ent
              have hel : es.length ≤ 64 := hes
              go_region_law
                ((refine step_append_lies _ (by rfl) _ _ _ (by rfl) (w.heap.size + 1) 82 i0 _ 2 16 Tryd.underlying77 hi0 hz0 hz1 hz2 rfl (by omega) (.slice A es.length c) _ (entC l) (by rfl) ((hown.alloc _).drew)
                    ⟨w3.heap.size, 0, none⟩ 1 1 [.pointer (some ⟨b, 0, none⟩), .int .i64 1] (by rfl) (by rfl) (World.news_of_block (cs := #[.pointer (some ⟨b, 0, none⟩), .int .i64 1]) (t := 82) (fr := (0, 0)) (heap_alloc_new w3 _)) (by simp [Value.oneCell'])
                    (by omega) (by unfold maxLen; omega) (by omega) (by simp; omega) (w3.heap.size + 1) (by simp) ?_
                  intro gg cap w4 hown3 hgrow hat hlt
                  have HB := Lib.hid ((hgrow.block w.heap.size (by simp; omega) (Ne.symm aw)).trans ((Lib.alloc_old w3 _ w.heap.size (by omega)).trans HHP.out))
                  have hcz : w4.cell? ⟨w.heap.size, 1, none⟩ = some (.slice A es.length c) := by rw [Lib.cell_of_heap HB.out]; rfl
                  have hfz : w4.frozen? ⟨w.heap.size, 1, none⟩ = false := Lib.frozen_of_heap HB.out 1))
              all_goals
                have hgw : w3.grownBy w4 (Value.slice A es.length c).ownBlock := ⟨hgrow.os, hgrow.tape, hgrow.output, Nat.le_trans (by simp) hgrow.size, fun k hk hne => (hgrow.block k (by simp; omega) hne).trans (Lib.alloc_old w3 _ k hk)⟩
                obtain ⟨hh3, hC3⟩ := HW3.out.push (e := (cs, 1)) hown3 hgw HP3.out
                clear hown3 hgrow hat HHP HB hcz hfz hgw hi0 hz0 hz1 hz2 i0 hh3 q0 q1 q2 hown
                go_wp2_with fail
                go_roundw
                case rel => exact ⟨k + 1, i + X.size + 1, _, _, _, by omega, by go_num, by go_num, by omega, by simp; omega, HNX.out, hC3⟩
                case measure => simp [intOf] <;> omega
            · have HBAD := Lib.hid (show listF (toL s) = ([], i + (X.size - X.size) + (compF (toL X)).2.1, (compF (toL X)).2.2) from by
                rw [HGO.out, listGo_bad _ _ _ _ h64 (by rw [HTX.out]; exact herr), HTX.out, toL_length])
              have HE := Lib.hid herr
              have hen : ((compF (toL X)).2.2 != 0) = true := by rw [bne_iff_ne]; exact herr
              have hof : (compF (toL X)).2.1 ≤ 80 := HCL.out.2.1
              have hbel := HAb.out.bel
              clear HCP herr HCL
              generalize (compF (toL X)).2.1 = of at *
              generalize (compF (toL X)).2.2 = er at *
              go_wp2_with fail
              go_ret3
              exact list_post_no HBAD.out HE.out hbel _ (by omega)
          · have HVF := Lib.hid (verdF_64 (l := toL X) (by simpa using h64c))
            have hx0 : 0 < X.size := by
              have h := h64c
              rcases e : (toL X)[0]? with _ | d
              · rw [e] at h; simp at h
              · have := (List.getElem?_eq_some_iff.1 e).1; rw [toL_length] at this; omega
            have HPD := Lib.hid (fun w => pre_calls X 64 w)
            rw [h64c] at HPD
            clear h33 h64c
            go_wp2_with fail
            (with_reducible refine (HPC.out _).mono ?_)
            rintro e w2 ⟨rfl, rfl⟩
            go_wp2_with fail
            (with_reducible refine (HPD.out _).mono ?_)
            rintro e w2 ⟨rfl, rfl⟩
            have j1 : (1 : Int) ≤ (X.size : Int) := by omega
            go_wp2_with fail
            clear HPC HPD
            have HTX := Lib.hid (show (verdF (toL X)).2 = toL (X.extract 1 X.size) from by rw [HVF.out, drop_toL])
            have HVX := Lib.hid (show (verdF (toL X)).1 = 3 from by rw [HVF.out])
            have hts : (X.extract 1 X.size).size ≤ X.size ∧ X.size ≤ (X.extract 1 X.size).size + 1 := by rw [extract_size _ _ _ (Nat.le_refl _)]; omega
            have HA := Lib.hid (HW.out.below ((Below.refl wo.heap.size wo).alloc (Nat.le_refl _) (.cells #[.pointer none, .int .i64 3] 82 (0, 0))).drew)
            have HXB := Lib.hid (show (wo.alloc (.cells #[.pointer none, .int .i64 3] 82)).drew.heap[wo.heap.size]? = _ from heap_alloc_new wo (.cells #[.pointer none, .int .i64 3] 82 (0, 0)))
            go_region
            go_wp2_with fail
            clear HVF
            generalize (wo.alloc (.cells #[.pointer none, .int .i64 3] 82)).drew = wA at *
            have hbv : (Value.slice A es.length c).ownBlock ≠ some wo.heap.size := fun e => by have := (HW.out.own.lt _ e).2; omega
            have hNx : w.heap.size ≤ wo.heap.size := Nat.le_of_lt hNlt
            clear HW hpart hcp hslt
            generalize wo.heap.size = xb at *
            generalize hTT : (X.extract 1 X.size) = T at *
            have hTs : T.size ≤ 1000 := by omega
            (with_reducible refine (wm_compile T wA (by omega)).mono ?_)
            rintro e w2 ⟨pv, rfl, hpv, hb2⟩
            have HCL := Lib.hid (compF_len (toL T))
            have HCP := Lib.hid hpv; clear hpv
            have HAb := Lib.hid (HA.out.below hb2)
            have HXb := Lib.hid ((hb2.block _ (heap_lt HXB.out)).trans HXB.out)
            clear HA HXB hb2
            rcases HCP.out with ⟨herr, b, rfl, hpt⟩ | ⟨herr, rfl⟩
            · have HPT := Lib.hid hpt; clear hpt
              rw [herr]
              have HNX := Lib.hid (show listF (toL s) = listGo (ps.drop (k + 1)) (i + X.size + 1) (es ++ [((compF (toL T)).1, (verdF (toL X)).1)]) from by
                rw [HGO.out, listGo_good _ _ _ _ h64 (by rw [HTX.out]; exact herr), HTX.out, toL_length])
              clear herr HCP
              have hvv := HVX.out
              have HENT := Lib.hid (show ((compF (toL T)).1, (verdF (toL X)).1) = ((compF (toL T)).1, 3) from by rw [hvv])
              rw [HENT.out] at HNX
              clear hvv HENT
              generalize (compF (toL T)).2.1 = of at *
              generalize (compF (toL T)).1 = cs at *
              have q0 : w2.cell? ⟨xb, 0, none⟩ = some (.pointer none) := by rw [Lib.cell_of_heap HXb.out]; rfl
              have q1 : w2.frozen? ⟨xb, 0, none⟩ = false := Lib.frozen_of_heap HXb.out 0
              have HG3 := Lib.hid (grown_set (World.grownBy.refl w2 (some xb)) 0 (.pointer (some ⟨b, 0, none⟩)))
              have HW3 := Lib.hid (HAb.out.kept HG3.out HXb.out hbv hNx)
              have HX3 := Lib.hid (heap_set (i := 0) HXb.out (.pointer (some ⟨b, 0, none⟩)))
              have HP3 := Lib.hid (HPT.out.kept HG3.out (fun g e => by injection e with e; subst e; exact ⟨_, _, _, HXb.out, by decide, by decide⟩))
              go_wp2_with fail
              clear q0 q1 HG3 HAb HXb HPT
              generalize w2.setCell ⟨xb, 0, none⟩ (.pointer (some ⟨b, 0, none⟩)) = w3 at *
              have q0 : w3.cell? ⟨xb, 0, none⟩ = some (.pointer (some ⟨b, 0, none⟩)) := by rw [Lib.cell_of_heap HX3.out]; rfl
              have q1 : w3.cell? ⟨xb, 1, none⟩ = some (.int .i64 3) := by rw [Lib.cell_of_heap HX3.out]; rfl
              have q2 : w3.cell? ⟨w.heap.size, 1, none⟩ = some (.slice A es.length c) := by rw [Lib.cell_of_heap HW3.out.heap]; rfl
              have q3 := heap_lt HX3.out
              have q4 := heap_lt HW3.out.heap
              have hown := HW3.out.own
              have HHP := Lib.hid HW3.out.heap
              have aw : (Value.slice A es.length c).ownBlock ≠ some w.heap.size := fun e => by have := (hown.lt _ e).1; omega
              obtain ⟨i0, hi0, hz0, hz1, hz2⟩ := info_parts info_ent
              have hel : es.length ≤ 64 := hes
              go_region_law
                ((refine step_append_lies _ (by rfl) _ _ _ (by rfl) (w.heap.size + 1) 82 i0 _ 2 16 Tryd.underlying77 hi0 hz0 hz1 hz2 rfl (by omega) (.slice A es.length c) _ (entC l) (by rfl) ((hown.alloc _).drew)
                    ⟨w3.heap.size, 0, none⟩ 1 1 [.pointer (some ⟨b, 0, none⟩), .int .i64 3] (by rfl) (by rfl) (World.news_of_block (cs := #[.pointer (some ⟨b, 0, none⟩), .int .i64 3]) (t := 82) (fr := (0, 0)) (heap_alloc_new w3 _)) (by simp [Value.oneCell'])
                    (by omega) (by unfold maxLen; omega) (by omega) (by simp; omega) (w3.heap.size + 1) (by simp) ?_
                  intro gg cap w4 hown3 hgrow hat hlt
                  have HB := Lib.hid ((hgrow.block w.heap.size (by simp; omega) (Ne.symm aw)).trans ((Lib.alloc_old w3 _ w.heap.size (by omega)).trans HHP.out))
                  have hcz : w4.cell? ⟨w.heap.size, 1, none⟩ = some (.slice A es.length c) := by rw [Lib.cell_of_heap HB.out]; rfl
                  have hfz : w4.frozen? ⟨w.heap.size, 1, none⟩ = false := Lib.frozen_of_heap HB.out 1))
              all_goals
                have hgw : w3.grownBy w4 (Value.slice A es.length c).ownBlock := ⟨hgrow.os, hgrow.tape, hgrow.output, Nat.le_trans (by simp) hgrow.size, fun k hk hne => (hgrow.block k (by simp; omega) hne).trans (Lib.alloc_old w3 _ k hk)⟩
                obtain ⟨hh3, hC3⟩ := HW3.out.push (e := (cs, 3)) hown3 hgw HP3.out
                clear hown3 hgrow hat HHP HB hcz hfz hgw hi0 hz0 hz1 hz2 i0 hh3 q0 q1 q2 hown
                go_wp2_with fail
                go_roundw
                case rel => exact ⟨k + 1, i + X.size + 1, _, _, _, by omega, by go_num, by go_num, by omega, by simp; omega, HNX.out, hC3⟩
                case measure => simp [intOf] <;> omega
            · have HBAD := Lib.hid (show listF (toL s) = ([], i + (X.size - T.size) + (compF (toL T)).2.1, (compF (toL T)).2.2) from by
                rw [HGO.out, listGo_bad _ _ _ _ h64 (by rw [HTX.out]; exact herr), HTX.out, toL_length, toL_length])
              have HE := Lib.hid herr
              have hen : ((compF (toL T)).2.2 != 0) = true := by rw [bne_iff_ne]; exact herr
              have hof : (compF (toL T)).2.1 ≤ 80 := HCL.out.2.1
              have hbel := HAb.out.bel
              clear HCP herr HCL
              generalize (compF (toL T)).2.1 = of at *
              generalize (compF (toL T)).2.2 = er at *
              go_wp2_with fail
              go_ret3
              exact list_post_no HBAD.out HE.out hbel _ (by omega)
        · have HVF := Lib.hid (verdF_33 (l := toL X) (by simpa using h33))
          have hx0 : 0 < X.size := by
            have h := h33
            rcases e : (toL X)[0]? with _ | d
            · rw [e] at h; simp at h
            · have := (List.getElem?_eq_some_iff.1 e).1; rw [toL_length] at this; omega
          have HPC := Lib.hid (fun w => pre_calls X 33 w)
          rw [h33] at HPC
          clear h33
          go_wp2_with fail
          (with_reducible refine (HPC.out _).mono ?_)
          rintro e w2 ⟨rfl, rfl⟩
          have j1 : (1 : Int) ≤ (X.size : Int) := by omega
          go_wp2_with fail
          clear HPC
          have HTX := Lib.hid (show (verdF (toL X)).2 = toL (X.extract 1 X.size) from by rw [HVF.out, drop_toL])
          have HVX := Lib.hid (show (verdF (toL X)).1 = 2 from by rw [HVF.out])
          have hts : (X.extract 1 X.size).size ≤ X.size ∧ X.size ≤ (X.extract 1 X.size).size + 1 := by rw [extract_size _ _ _ (Nat.le_refl _)]; omega
          have HA := Lib.hid (HW.out.below ((Below.refl wo.heap.size wo).alloc (Nat.le_refl _) (.cells #[.pointer none, .int .i64 2] 82 (0, 0))).drew)
          have HXB := Lib.hid (show (wo.alloc (.cells #[.pointer none, .int .i64 2] 82)).drew.heap[wo.heap.size]? = _ from heap_alloc_new wo (.cells #[.pointer none, .int .i64 2] 82 (0, 0)))
          go_region
          go_wp2_with fail
          clear HVF
          generalize (wo.alloc (.cells #[.pointer none, .int .i64 2] 82)).drew = wA at *
          have hbv : (Value.slice A es.length c).ownBlock ≠ some wo.heap.size := fun e => by have := (HW.out.own.lt _ e).2; omega
          have hNx : w.heap.size ≤ wo.heap.size := Nat.le_of_lt hNlt
          clear HW hpart hcp hslt
          generalize wo.heap.size = xb at *
          generalize hTT : (X.extract 1 X.size) = T at *
          have hTs : T.size ≤ 1000 := by omega
          (with_reducible refine (wm_compile T wA (by omega)).mono ?_)
          rintro e w2 ⟨pv, rfl, hpv, hb2⟩
          have HCL := Lib.hid (compF_len (toL T))
          have HCP := Lib.hid hpv; clear hpv
          have HAb := Lib.hid (HA.out.below hb2)
          have HXb := Lib.hid ((hb2.block _ (heap_lt HXB.out)).trans HXB.out)
          clear HA HXB hb2
          rcases HCP.out with ⟨herr, b, rfl, hpt⟩ | ⟨herr, rfl⟩
          · have HPT := Lib.hid hpt; clear hpt
            rw [herr]
            have HNX := Lib.hid (show listF (toL s) = listGo (ps.drop (k + 1)) (i + X.size + 1) (es ++ [((compF (toL T)).1, (verdF (toL X)).1)]) from by
              rw [HGO.out, listGo_good _ _ _ _ h64 (by rw [HTX.out]; exact herr), HTX.out, toL_length])
            clear herr HCP
            have hvv := HVX.out
            have HENT := Lib.hid (show ((compF (toL T)).1, (verdF (toL X)).1) = ((compF (toL T)).1, 2) from by rw [hvv])
            rw [HENT.out] at HNX
            clear hvv HENT
            generalize (compF (toL T)).2.1 = of at *
            generalize (compF (toL T)).1 = cs at *
            have q0 : w2.cell? ⟨xb, 0, none⟩ = some (.pointer none) := by rw [Lib.cell_of_heap HXb.out]; rfl
            have q1 : w2.frozen? ⟨xb, 0, none⟩ = false := Lib.frozen_of_heap HXb.out 0
            have HG3 := Lib.hid (grown_set (World.grownBy.refl w2 (some xb)) 0 (.pointer (some ⟨b, 0, none⟩)))
            have HW3 := Lib.hid (HAb.out.kept HG3.out HXb.out hbv hNx)
            have HX3 := Lib.hid (heap_set (i := 0) HXb.out (.pointer (some ⟨b, 0, none⟩)))
            have HP3 := Lib.hid (HPT.out.kept HG3.out (fun g e => by injection e with e; subst e; exact ⟨_, _, _, HXb.out, by decide, by decide⟩))
            go_wp2_with fail
            clear q0 q1 HG3 HAb HXb HPT
            generalize w2.setCell ⟨xb, 0, none⟩ (.pointer (some ⟨b, 0, none⟩)) = w3 at *
            have q0 : w3.cell? ⟨xb, 0, none⟩ = some (.pointer (some ⟨b, 0, none⟩)) := by rw [Lib.cell_of_heap HX3.out]; rfl
            have q1 : w3.cell? ⟨xb, 1, none⟩ = some (.int .i64 2) := by rw [Lib.cell_of_heap HX3.out]; rfl
            have q2 : w3.cell? ⟨w.heap.size, 1, none⟩ = some (.slice A es.length c) := by rw [Lib.cell_of_heap HW3.out.heap]; rfl
            have q3 := heap_lt HX3.out
            have q4 := heap_lt HW3.out.heap
            have hown := HW3.out.own
            have HHP := Lib.hid HW3.out.heap
            have aw : (Value.slice A es.length c).ownBlock ≠ some w.heap.size := fun e => by have := (hown.lt _ e).1; omega
            obtain ⟨i0, hi0, hz0, hz1, hz2⟩ := info_parts info_ent
            have hel : es.length ≤ 64 := hes
            go_region_law
              ((refine step_append_lies _ (by rfl) _ _ _ (by rfl) (w.heap.size + 1) 82 i0 _ 2 16 Tryd.underlying77 hi0 hz0 hz1 hz2 rfl (by omega) (.slice A es.length c) _ (entC l) (by rfl) ((hown.alloc _).drew)
                  ⟨w3.heap.size, 0, none⟩ 1 1 [.pointer (some ⟨b, 0, none⟩), .int .i64 2] (by rfl) (by rfl) (World.news_of_block (cs := #[.pointer (some ⟨b, 0, none⟩), .int .i64 2]) (t := 82) (fr := (0, 0)) (heap_alloc_new w3 _)) (by simp [Value.oneCell'])
                  (by omega) (by unfold maxLen; omega) (by omega) (by simp; omega) (w3.heap.size + 1) (by simp) ?_
                intro gg cap w4 hown3 hgrow hat hlt
                have HB := Lib.hid ((hgrow.block w.heap.size (by simp; omega) (Ne.symm aw)).trans ((Lib.alloc_old w3 _ w.heap.size (by omega)).trans HHP.out))
                have hcz : w4.cell? ⟨w.heap.size, 1, none⟩ = some (.slice A es.length c) := by rw [Lib.cell_of_heap HB.out]; rfl
                have hfz : w4.frozen? ⟨w.heap.size, 1, none⟩ = false := Lib.frozen_of_heap HB.out 1))
            all_goals
              have hgw : w3.grownBy w4 (Value.slice A es.length c).ownBlock := ⟨hgrow.os, hgrow.tape, hgrow.output, Nat.le_trans (by simp) hgrow.size, fun k hk hne => (hgrow.block k (by simp; omega) hne).trans (Lib.alloc_old w3 _ k hk)⟩
              obtain ⟨hh3, hC3⟩ := HW3.out.push (e := (cs, 2)) hown3 hgw HP3.out
              clear hown3 hgrow hat HHP HB hcz hfz hgw hi0 hz0 hz1 hz2 i0 hh3 q0 q1 q2 hown
              go_wp2_with fail
              go_roundw
              case rel => exact ⟨k + 1, i + X.size + 1, _, _, _, by omega, by go_num, by go_num, by omega, by simp; omega, HNX.out, hC3⟩
              case measure => simp [intOf] <;> omega
          · have HBAD := Lib.hid (show listF (toL s) = ([], i + (X.size - T.size) + (compF (toL T)).2.1, (compF (toL T)).2.2) from by
              rw [HGO.out, listGo_bad _ _ _ _ h64 (by rw [HTX.out]; exact herr), HTX.out, toL_length, toL_length])
            have HE := Lib.hid herr
            have hen : ((compF (toL T)).2.2 != 0) = true := by rw [bne_iff_ne]; exact herr
            have hof : (compF (toL T)).2.1 ≤ 80 := HCL.out.2.1
            have hbel := HAb.out.bel
            clear HCP herr HCL
            generalize (compF (toL T)).2.1 = of at *
            generalize (compF (toL T)).2.2 = er at *
            go_wp2_with fail
            go_ret3
            exact list_post_no HBAD.out HE.out hbel _ (by omega)
    · obtain rfl : k = ps.length := by omega
      have HZ := Lib.hid (show listF (toL s) = (es, 0, 0) from by rw [HGO.out, List.drop_length]; rfl)
      go_wp2_with fail
      go_ret3
      exact list_post_yes HZ.out hW
end Go.Proofs.YtcknomaaikeebaaDoor
