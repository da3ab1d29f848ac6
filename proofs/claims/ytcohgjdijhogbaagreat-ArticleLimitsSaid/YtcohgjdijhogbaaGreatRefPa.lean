/- The walk over the reference's Parse of an article. -/
import Derived.Test.YtcohgjdijhogbaaGreatHeadP
import Derived.Test.YtcohgjdijhogbaaGreatPt19
import Derived.Test.YtcohgjdijhogbaaGreatPt15
import Derived.Test.YtcohgjdijhogbaaGreatRefParse
namespace Go.Proofs.YtcohgjdijhogbaaGreat
set_option linter.unusedSimpArgs false
set_option linter.unusedVariables false
open Go.RowKit

def RArtPost (s : ByteArray) (w : World) (e : Ending) (w' : World) : Prop :=
  ∃ v, e = .returned (.tuple #[.agg #[v, .string (ofL (parF (toL s)).body)], .int .i64 (parF (toL s)).at_, .int .i64 (parF (toL s)).e]) ∧ FldsOwn w w' 66 v (parF (toL s)).fields
theorem RArtPost.err {s : ByteArray} {w w' : World} {a e : Int} (h : parF (toL s) = ⟨[], [], a, e⟩) (hb : Below w.heap.size w w') : RArtPost s w (.returned (.tuple #[.agg #[.slice none 0 0, .string ⟨#[]⟩], .int .i64 a, .int .i64 e])) w' :=
  ⟨.slice none 0 0, by rw [h]; rfl, by rw [h]; exact ⟨World.ownsRow_nil _ _ _ _, hb⟩⟩
theorem FldsOwn.later {w w1 w2 : World} {t : TypeId} {v : Value} {l : List Fd} (h : FldsOwn w w1 t v l) (hb : Below w1.heap.size w1 w2) : FldsOwn w w2 t v l :=
  ⟨own_below h.own hb, h.bel.trans (hb.mono h.bel.size)⟩
theorem hd_found {L : List UInt8} {h : Nat} (e : hdF L = some (h, h)) : newF L = (L.take h, (h : Int) + 1) := by rw [newF_hd, e]
theorem hd_none {L : List UInt8} (e : hdF L = none) : newF L = (L, -1) := by rw [newF_hd, e]
theorem hd_step {L : List UInt8} {i : Nat} (hi : i < L.length) (e : hdF L = (spans L i).find? fun x => x.1 == x.2) :
    if endF L i = i then hdF L = some (i, i) else hdF L = (spans L (endF L i + 1)).find? fun x => x.1 == x.2 := by
  rw [e, spans_step hi, List.find?_cons]
  by_cases h : endF L i = i
  · rw [if_pos h]
    have : (i == endF L i) = true := by rw [beq_iff_eq]; exact h.symm
    simp only [this]; rw [h]
  · rw [if_neg h]
    have : (i == endF L i) = false := by rw [beq_eq_false_iff_ne]; exact fun g => h g.symm
    simp only [this]
theorem hd_over {L : List UInt8} {i : Nat} (hi : L.length ≤ i) (e : hdF L = (spans L i).find? fun x => x.1 == x.2) : hdF L = none := by rw [e, spans_end hi]; rfl
theorem rart_ret {s : ByteArray} {w W : World} {r : Nat} {v : Value} {b : ByteArray} {a e : Int} {T : Array Value} (hb : W.heap[r]? = some (.cells #[v, .string b] 31 (0, 0)))
    (hT2 : T[2]? = some (.pointer (some ⟨r, 0, none⟩))) (hT3 : T[3]? = some (.int .i64 a)) (hT4 : T[4]? = some (.int .i64 e)) (hQ : RArtPost s w (.returned (.tuple #[.agg #[v, .string b], .int .i64 a, .int .i64 e])) W) :
    bodyPost Tryz.prog Tryz.f8 (RArtPost s w) .ret { tmps := T, defers := [] } W := by
  have c0 : W.cell? ⟨r, 0, none⟩ = some v := by rw [Lib.cell_of_heap hb]; rfl
  have c1 : W.cell? ⟨r, 1, none⟩ = some (.string b) := by rw [Lib.cell_of_heap hb]; rfl
  refine bodyPost_ret (v := .tuple #[.agg #[v, .string b], .int .i64 a, .int .i64 e]) ?_ rfl hQ
  simp [results, Tryz.f8, go_sem, hT2, hT3, hT4, c0, c1]
theorem rart_own {W : World} {r n : Nat} {t : TypeId} {v : Value} {xs : List Value} (h : W.ownsRow (r + 1) t 2 v n xs) (x y : Value) : ((W.setCell ⟨r, 0, none⟩ x).setCell ⟨r, 1, none⟩ y).ownsRow r t 2 v n xs :=
  own_mono (own_ne h fun g hg _ => by rw [Below.heap_setCell _ _ _ _ hg, Below.heap_setCell _ _ _ _ hg]) (Nat.le_succ _)
set_option maxHeartbeats 4000000 in
set_option maxRecDepth 100000 in
theorem rf_parse15 (s : ByteArray) (w : World) (hs : s.size ≤ 900000) : Calls Tryz.prog 8 #[.string s] w (RArtPost s w) := by
  have HL := Lib.hid (toL_length s)
  have HV := Lib.hid (show parF (toL s) = if 65536 < s.size then ⟨[], [], 65536, 5⟩
      else if (parseF (newF (toL s)).1).2.2 ≠ 0 then ⟨[], [], (parseF (newF (toL s)).1).2.1, (parseF (newF (toL s)).1).2.2⟩
      else if (newF (toL s)).2 < 0 then ⟨[], [], (s.size : Nat), 4⟩
      else if (bodyF ((toL s).drop (newF (toL s)).2.toNat)).2 ≠ 0 then ⟨[], [], (newF (toL s)).2 + ((bodyF ((toL s).drop (newF (toL s)).2.toNat)).1 : Nat), (bodyF ((toL s).drop (newF (toL s)).2.toNat)).2⟩
      else ⟨(parseF (newF (toL s)).1).1, (toL s).drop (newF (toL s)).2.toNat, 0, 0⟩ from by unfold parF; rw [HL.out])
  have HB0 := Lib.hid (show Below w.heap.size w (w.alloc (.cells #[.slice none 0 0, .string ⟨#[]⟩] 31)) from (Below.refl _ _).alloc (Nat.le_refl _) _)
  have HBX := Lib.hid (show (w.alloc (.cells #[.slice none 0 0, .string ⟨#[]⟩] 31)).heap[w.heap.size]? = some (.cells #[.slice none 0 0, .string ⟨#[]⟩] 31 (0, 0)) from World.alloc_heap_new _ _)
  have HXS := Lib.hid (show (w.alloc (.cells #[.slice none 0 0, .string ⟨#[]⟩] 31)).heap.size = w.heap.size + 1 from World.size_alloc _ _)
  by_cases hz : 65536 < s.size
  · have hz' : (65536 : Int) < (s.size : Int) := by omega
    have HE := Lib.hid (HV.out.trans (if_pos hz))
    clear hz
    go_enter Tryz.func8, Tryz.ntmps8
    go_wp2_with fail
    exact rart_ret HBX.out rfl rfl rfl (RArtPost.err HE.out HB0.out)
  · have hz' : (s.size : Int) ≤ 65536 := by omega
    have HV1 := Lib.hid (HV.out.trans (if_neg hz))
    clear hz HV
    go_enter Tryz.func8, Tryz.ntmps8
    go_wp2_with fail
    generalize (w.alloc (.cells #[.slice none 0 0, .string ⟨#[]⟩] 31)) = X at *
    go_loopw [5, 6, 7] (fun v5 v6 v7 wr => ∃ (i h : Nat) (f : Bool), i ≤ s.size + 1 ∧ v7 = .int .i64 (i : Int) ∧ v5 = .int .i64 (h : Int) ∧ v6 = .bool f ∧ (f = false → h = s.size ∧ hdF (toL s) = (spans (toL s) i).find? fun x => x.1 == x.2) ∧ (f = true → hdF (toL s) = some (h, h) ∧ h < s.size) ∧ wr = X) (fun _ _ v7 _ => s.size + 1 - (intOf v7).toNat)
    case atStart => exact ⟨0, s.size, false, by omega, rfl, rfl, rfl, fun _ => ⟨rfl, rfl⟩, fun h => by simp at h, rfl⟩
    case round =>
      obtain ⟨i, h, f, hi, rfl, rfl, rfl, hf0, hf1, rfl⟩ := hrel
      cases f with
      | true =>
        obtain ⟨hd, hh⟩ := hf1 rfl
        clear hf0 hf1
        have HN := Lib.hid (hd_found hd)
        clear hd
        rw [HN.out] at HV1
        simp only at HV1
        rw [if_neg (show ¬ ((h : Int) + 1 < 0) from by omega), show ((h : Int) + 1).toNat = h + 1 from by omega] at HV1
        have hT := extract_toL s 0 h
        have hH : cutL (toL s) 0 h = (toL s).take h := by unfold cutL; simp
        rw [hH] at hT
        have hxs : (s.extract 0 h).size ≤ 1000000 := by rw [extract_size _ _ _ (by omega)]; omega
        have HP := Lib.hid (fun wx => ref_parse (s.extract 0 h) wx hxs)
        unfold RParsePost at HP
        rw [hT] at HP
        have hX := ext_drop s (h + 1)
        have hys : (s.extract (h + 1) s.size).size ≤ 1000000 := by rw [extract_size _ _ _ (by omega)]; omega
        have HBD := Lib.hid (fun wx => rf_body (s.extract (h + 1) s.size) wx hys)
        rw [hX] at HBD
        have HXE := Lib.hid (show ofL ((toL s).drop (h + 1)) = s.extract (h + 1) s.size from by rw [← hX, ofL_toL])
        have hbl : (bodyF ((toL s).drop (h + 1))).1 ≤ 900000 := by
          have := body_le ((toL s).drop (h + 1)); rw [List.length_drop, HL.out] at this; omega
        have s0 : (0 : Int) ≤ (h : Int) := by omega
        have s1 : (h : Int) ≤ (s.size : Int) := by omega
        have s2 : (h : Int) + 1 ≤ (s.size : Int) := by omega
        have s3 : ((h : Int) + 1).toNat = h + 1 := by omega
        clear hT hH hxs hX hys HN
        rcases (by omega : (i : Int) < (s.size : Int) ∨ (s.size : Int) ≤ (i : Int)) with hcmp | hcmp
        all_goals
          generalize parseF ((toL s).take h) = pf at *
          obtain ⟨pl, pa, pe⟩ := pf
          simp only at HP HV1
          by_cases he : pe = 0
          · subst he
            rw [if_neg (by simp)] at HV1
            generalize bodyF ((toL s).drop (h + 1)) = bf at *
            obtain ⟨ba, be⟩ := bf
            simp only at HBD HV1 hbl
            by_cases hb : be = 0
            · subst hb
              rw [if_neg (by simp)] at HV1
              go_wp2_with fail
              (with_reducible refine (HP.out _).mono ?_)
              rintro e w1 ⟨v, rfl, hown⟩
              have HO := Lib.hid hown; clear hown
              obtain ⟨A, c, rfl, _⟩ := own_row HO.out.own
              have hbx1 := (HO.out.bel.block w.heap.size (by rw [HXS.out]; omega)).trans HBX.out
              have g0 : w1.cell? ⟨w.heap.size, 0, none⟩ = some (.slice none 0 0) := by rw [Lib.cell_of_heap hbx1]; rfl
              have g1 : w1.cell? ⟨w.heap.size, 1, none⟩ = some (.string ⟨#[]⟩) := by rw [Lib.cell_of_heap hbx1]; rfl
              have g2 := Lib.frozen_of_heap hbx1 0
              have g3 := Lib.frozen_of_heap hbx1 1
              have HX1 := Lib.hid hbx1; clear hbx1
              go_wp2_with fail
              (with_reducible refine (HBD.out _).mono ?_)
              rintro e w2 ⟨rfl, hb2⟩
              have hbx2 := (hb2.block w.heap.size (by have := HO.out.bel.size; rw [HXS.out] at this; omega)).trans HX1.out
              have k0 : w2.cell? ⟨w.heap.size, 0, none⟩ = some (.slice none 0 0) := by rw [Lib.cell_of_heap hbx2]; rfl
              have k1 : w2.cell? ⟨w.heap.size, 1, none⟩ = some (.string ⟨#[]⟩) := by rw [Lib.cell_of_heap hbx2]; rfl
              have k2 := Lib.frozen_of_heap hbx2 0
              have k3 := Lib.frozen_of_heap hbx2 1
              have HX2 := Lib.hid hbx2; clear hbx2
              have HB2 := Lib.hid hb2; clear hb2 g0 g1 g2 g3
              go_wp2_with fail
              have HF := Lib.hid (HO.out.later HB2.out)
              have ho := HF.out.own
              rw [HXS.out] at ho
              refine rart_ret (v := .slice A pl.length c) (b := s.extract (h + 1) s.size) (a := 0) (e := 0) (box_set HX2.out _ _) rfl rfl rfl ?_
              exact ⟨_, by rw [HV1.out, HXE.out], by rw [HV1.out]; exact ⟨rart_own ho _ _, below_box (HB0.out.trans (HF.out.bel.mono HB0.out.size)) (Nat.le_refl _) _ _⟩⟩
            · have e1 : (be != 0) = true := by simp [bne, hb]
              rw [if_pos hb] at HV1
              clear hb
              go_wp2_with fail
              (with_reducible refine (HP.out _).mono ?_)
              rintro e w1 ⟨v, rfl, hown⟩
              have HO := Lib.hid hown; clear hown
              have hbx1 := (HO.out.bel.block w.heap.size (by rw [HXS.out]; omega)).trans HBX.out
              have g0 : w1.cell? ⟨w.heap.size, 0, none⟩ = some (.slice none 0 0) := by rw [Lib.cell_of_heap hbx1]; rfl
              have g1 : w1.cell? ⟨w.heap.size, 1, none⟩ = some (.string ⟨#[]⟩) := by rw [Lib.cell_of_heap hbx1]; rfl
              have g2 := Lib.frozen_of_heap hbx1 0
              have g3 := Lib.frozen_of_heap hbx1 1
              have HX1 := Lib.hid hbx1; clear hbx1
              go_wp2_with fail
              (with_reducible refine (HBD.out _).mono ?_)
              rintro e w2 ⟨rfl, hb2⟩
              have hbx2 := (hb2.block w.heap.size (by have := HO.out.bel.size; rw [HXS.out] at this; omega)).trans HX1.out
              have k0 : w2.cell? ⟨w.heap.size, 0, none⟩ = some (.slice none 0 0) := by rw [Lib.cell_of_heap hbx2]; rfl
              have k1 : w2.cell? ⟨w.heap.size, 1, none⟩ = some (.string ⟨#[]⟩) := by rw [Lib.cell_of_heap hbx2]; rfl
              have k2 := Lib.frozen_of_heap hbx2 0
              have k3 := Lib.frozen_of_heap hbx2 1
              have HX2 := Lib.hid hbx2; clear hbx2
              have HB2 := Lib.hid hb2; clear hb2 g0 g1 g2 g3
              go_wp2_with fail
              exact rart_ret (box_set HX2.out _ _) rfl rfl rfl (RArtPost.err HV1.out (below_box (HB0.out.trans ((HO.out.bel.trans (HB2.out.mono HO.out.bel.size)).mono HB0.out.size)) (Nat.le_refl _) _ _))
          · have e1 : (pe != 0) = true := by simp [bne, he]
            rw [if_pos he] at HV1
            clear he
            go_wp2_with fail
            (with_reducible refine (HP.out _).mono ?_)
            rintro e w1 ⟨v, rfl, hown⟩
            have HO := Lib.hid hown; clear hown
            have hbx1 := (HO.out.bel.block w.heap.size (by rw [HXS.out]; omega)).trans HBX.out
            have g0 : w1.cell? ⟨w.heap.size, 0, none⟩ = some (.slice none 0 0) := by rw [Lib.cell_of_heap hbx1]; rfl
            have g1 : w1.cell? ⟨w.heap.size, 1, none⟩ = some (.string ⟨#[]⟩) := by rw [Lib.cell_of_heap hbx1]; rfl
            have g2 := Lib.frozen_of_heap hbx1 0
            have g3 := Lib.frozen_of_heap hbx1 1
            have HX1 := Lib.hid hbx1; clear hbx1
            go_wp2_with fail
            exact rart_ret (box_set HX1.out _ _) rfl rfl rfl (RArtPost.err HV1.out (below_box (HB0.out.trans (HO.out.bel.mono HB0.out.size)) (Nat.le_refl _) _ _))
      | false =>
        obtain ⟨rfl, hd⟩ := hf0 rfl
        clear hf0 hf1
        by_cases hlt : i < s.size
        · have i0 : (0 : Int) ≤ (i : Int) := by omega
          have i1 : (i : Int) < (s.size : Int) := by omega
          have HS := Lib.hid (hd_step (by rw [HL.out]; exact hlt) hd)
          have hge := endF_ge (toL s) i
          have hle := endF_le (toL s) i (by rw [HL.out]; omega)
          rw [HL.out] at hle
          have HEND := Lib.hid (fun wx => rf_end s i wx (by omega) (by omega))
          clear hd
          generalize endF (toL s) i = b at *
          by_cases hb : b = i
          · have e1 : ((b : Int) == (i : Int)) = true := by rw [beq_iff_eq]; omega
            rw [if_pos hb] at HS
            clear HV1
            go_wp2_with ((go_at_call 21; (with_reducible refine (HEND.out _).mono ?_); rintro e w' ⟨rfl, rfl⟩))
            go_roundw
            case rel => exact ⟨b + 1, i, true, by omega, by go_num, rfl, rfl, fun h => by simp at h, fun _ => ⟨HS.out, hlt⟩, by trivial⟩
            case measure => simp [intOf] <;> omega
          · have e1 : ((b : Int) == (i : Int)) = false := beq_eq_false_iff_ne.2 (by omega)
            rw [if_neg hb] at HS
            clear HV1
            go_wp2_with ((go_at_call 21; (with_reducible refine (HEND.out _).mono ?_); rintro e w' ⟨rfl, rfl⟩))
            go_roundw
            case rel => exact ⟨b + 1, s.size, false, by omega, by go_num, rfl, rfl, fun _ => ⟨rfl, HS.out⟩, fun h => by simp at h, by trivial⟩
            case measure => simp [intOf] <;> omega
        · have i1 : (s.size : Int) ≤ (i : Int) := by omega
          have HN := Lib.hid (hd_none (hd_over (by rw [HL.out]; omega) hd))
          clear hd
          rw [HN.out] at HV1
          simp only at HV1
          rw [if_pos (show (-1 : Int) < 0 from by omega)] at HV1
          have HP := Lib.hid (fun wx => ref_parse s wx (by omega))
          unfold RParsePost at HP
          clear HN
          generalize parseF (toL s) = pf at *
          obtain ⟨pl, pa, pe⟩ := pf
          simp only at HP HV1
          by_cases he : pe = 0
          · subst he
            rw [if_neg (by simp)] at HV1
            go_wp2_with fail
            (with_reducible refine (HP.out _).mono ?_)
            rintro e w1 ⟨v, rfl, hown⟩
            have HO := Lib.hid hown; clear hown
            have hbx1 := (HO.out.bel.block w.heap.size (by rw [HXS.out]; omega)).trans HBX.out
            have g0 : w1.cell? ⟨w.heap.size, 0, none⟩ = some (.slice none 0 0) := by rw [Lib.cell_of_heap hbx1]; rfl
            have g1 : w1.cell? ⟨w.heap.size, 1, none⟩ = some (.string ⟨#[]⟩) := by rw [Lib.cell_of_heap hbx1]; rfl
            have g2 := Lib.frozen_of_heap hbx1 0
            have g3 := Lib.frozen_of_heap hbx1 1
            have HX1 := Lib.hid hbx1; clear hbx1
            go_wp2_with fail
            exact rart_ret (box_set HX1.out _ _) rfl rfl rfl (RArtPost.err HV1.out (below_box (HB0.out.trans (HO.out.bel.mono HB0.out.size)) (Nat.le_refl _) _ _))
          · have e1 : (pe != 0) = true := by simp [bne, he]
            rw [if_pos he] at HV1
            clear he
            go_wp2_with fail
            (with_reducible refine (HP.out _).mono ?_)
            rintro e w1 ⟨v, rfl, hown⟩
            have HO := Lib.hid hown; clear hown
            have hbx1 := (HO.out.bel.block w.heap.size (by rw [HXS.out]; omega)).trans HBX.out
            have g0 : w1.cell? ⟨w.heap.size, 0, none⟩ = some (.slice none 0 0) := by rw [Lib.cell_of_heap hbx1]; rfl
            have g1 : w1.cell? ⟨w.heap.size, 1, none⟩ = some (.string ⟨#[]⟩) := by rw [Lib.cell_of_heap hbx1]; rfl
            have g2 := Lib.frozen_of_heap hbx1 0
            have g3 := Lib.frozen_of_heap hbx1 1
            have HX1 := Lib.hid hbx1; clear hbx1
            go_wp2_with fail
            exact rart_ret (box_set HX1.out _ _) rfl rfl rfl (RArtPost.err HV1.out (below_box (HB0.out.trans (HO.out.bel.mono HB0.out.size)) (Nat.le_refl _) _ _))
end Go.Proofs.YtcohgjdijhogbaaGreat
