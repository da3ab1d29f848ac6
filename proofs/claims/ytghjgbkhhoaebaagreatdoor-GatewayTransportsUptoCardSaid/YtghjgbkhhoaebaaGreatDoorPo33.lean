/- Lemmas and walks, part 33. -/
import Derived.Test.YtghjgbkhhoaebaaGreatDoorPo16
import Derived.Test.YtghjgbkhhoaebaaGreatDoorPo22
import Derived.Test.YtghjgbkhhoaebaaGreatDoorPo23
import Derived.Test.YtghjgbkhhoaebaaGreatDoorPo24
import Derived.Test.YtghjgbkhhoaebaaGreatDoorPo30
import Derived.Test.YtghjgbkhhoaebaaGreatDoorPo12
import Derived.Test.YtghjgbkhhoaebaaGreatDoorPo32
namespace Go.Proofs.YtghjgbkhhoaebaaGreatDoor
set_option linter.unusedSimpArgs false
set_option linter.unusedVariables false
open Go.RowKit
open Go.Lib (decDigits)

theorem txtL_snoc (a : List (List UInt8)) (x : List UInt8) : txtL (a ++ [x]) = if levN x = 0 ∧ plnF x ≠ [] then txtL a ++ [plnF x] else txtL a := by
  rw [txtL_app]
  show txtL a ++ (if levN x = 0 ∧ plnF x ≠ [] then plnF x :: txtL [] else txtL []) = _
  split
  · rfl
  · simp [txtL]
theorem row_ne {w w' : World} {row : Option Nat} {A : Option Addr} {xs : List Value} (h : Row w A xs) (hg : w.grownBy w' row) (hr : ∀ g b o, row = some g → A = some ⟨b, o, none⟩ → g ≠ b) : Row w' A xs := by
  rcases h with h | ⟨b, off, rfl, hb, hc⟩
  · exact .inl h
  · refine .inr ⟨b, off, rfl, Nat.lt_of_lt_of_le hb hg.size, fun j v hv => ?_⟩
    have hk := hg.block b hb (fun e => hr b b off e.symm rfl rfl)
    have := hc j v hv
    unfold World.cell? at this ⊢
    rw [hk]; exact this
theorem StrO.later {w wr w1 : World} {v : Value} {l : List (List UInt8)} (h : StrO w wr v l) (hb : Below wr.heap.size wr w1) : StrO w w1 v l := ⟨own_below h.own hb, h.bel.trans (hb.mono h.bel.size)⟩
theorem own_row_isS {w : World} {base n c : Nat} {e : TypeId} {size : Nat} {A : Option Addr} {xs : List Value} (h : w.ownsRow base e size (.slice A n c) n xs) : Row w A xs := by
  obtain ⟨A2, c2, e2, hr⟩ := own_row h
  injection e2 with h1 h2 h3
  rw [h1]; exact hr
theorem row_pre {w : World} {A : Option Addr} {xs ys : List Value} (h : Row w A xs) (hp : ys <+: xs) : Row w A ys := by
  obtain ⟨t, rfl⟩ := hp
  rcases h with h | ⟨b, off, rfl, hb, hc⟩
  · exact .inl (List.append_eq_nil_iff.1 h).1
  · refine .inr ⟨b, off, rfl, hb, fun j v hv => hc j v ?_⟩
    rw [List.getElem?_append_left (List.getElem?_eq_some_iff.1 hv).1]; exact hv
theorem row_lt {w : World} {A : Option Addr} {xs : List Value} (h : Row w A xs) {b o : Nat} (e : A = some ⟨b, o, none⟩) : xs = [] ∨ b < w.heap.size := by
  rcases h with h | ⟨b', off, h1, hb, hc⟩
  · exact .inl h
  · rw [e] at h1; injection h1 with h1; injection h1 with h1; subst h1; exact .inr hb
theorem LnsOwn.pushA {w wr w1 : World} {v v' : Value} {l : List Ln} {x : Ln} {o : Obj} (h : LnsOwn w wr v l) (hown : w1.ownsRow w.heap.size 39 3 v' (l.length + 1) (lnsV l ++ [.int .i64 (x.min : Int), .string (ofL x.nick), .string (ofL x.text)])) (hg : (wr.alloc o).drew.grownBy w1 v.ownBlock) : LnsOwn w w1 v' (l ++ [x]) :=
  ⟨by rw [List.length_append, lnsV_snoc]; exact hown, ((h.bel.alloc h.bel.size o).drew).grown hg (by simp; have := h.bel.size; omega) (fun k hk => (h.own.lt k hk).1)⟩
set_option maxRecDepth 100000 in
set_option maxHeartbeats 8000000 in
theorem lw_spoken (f : Nat → Int) (N S B own : ByteArray) (d : Nat) (w : World) (hN : N.size ≤ 6000) (hS : S.size ≤ 6000) (hB : B.size ≤ 10000) : Calls Tryz.prog 15 #[postV f N S B (d : Int), .string own] w fun e w' => ∃ v, e = .returned v ∧ LnsOwn w w' v ((txtF (toL N) (toL S) (toL B)).map fun t => ⟨d, toL own, t⟩) := by
  have hs1 : (N ++ ⟨#[58, 32]⟩).size ≤ 6002 := by rw [ByteArray.size_append]; show N.size + 2 ≤ _; omega
  have hs2 : ((N ++ ⟨#[58, 32]⟩) ++ S).size ≤ 12002 := by rw [ByteArray.size_append]; omega
  have HTT := Lib.hid (show toL ((N ++ ⟨#[58, 32]⟩) ++ S) = toL N ++ ([58, 32] ++ toL S) from by simp [toL])
  have HP1 := Lib.hid (fun wx => lw_plain ((N ++ ⟨#[58, 32]⟩) ++ S) wx (by omega))
  rw [HTT.out] at HP1
  have HDV := Lib.hid (fun wx => rf_divide B wx (by omega))
  have hdl := (div_len (toL B)).1
  rw [toL_length] at hdl
  have HLN := Lib.hid (fun wx => rf_lines (ofL (divF (toL B)).1) wx (by rw [ofL_size]; omega))
  rw [toL_ofL] at HLN
  have hll := lines_lenT (divF (toL B)).1
  have hle : ∀ x ∈ linesF (divF (toL B)).1, x.length ≤ 10000 := fun x h => by have := line_le h; omega
  have HTL := Lib.hid (show txtF (toL N) (toL S) (toL B) = capT (plnF (toL N ++ ([58, 32] ++ toL S)) :: txtL (linesF (divF (toL B)).1)) from rfl)
  generalize linesF (divF (toL B)).1 = LS at *
  generalize plnF (toL N ++ ([58, 32] ++ toL S)) = TI at *
  clear HTT
  go_enter Tryz.func15, Tryz.ntmps15
  go_upto_region 6 with (first
    | (go_at_call 36; (with_reducible refine (HDV.out _).mono ?_); rintro e w1 ⟨rfl, nd, rfl⟩)
    | (go_at_call 37; (with_reducible refine (HP1.out _).mono ?_); rintro e w2 ⟨rfl, hb2⟩)
    | (go_at_call 38; (with_reducible refine (HLN.out _).mono ?_); rintro e w3 ⟨vb, rfl, hst⟩))
  have hzw : (w.alloc (.cells (postC f N S B d) 25)).heap.size = w.heap.size + 1 := by simp
  have hpc : (w.alloc (.cells (postC f N S B d) 25)).cell? ⟨w.heap.size, 35, none⟩ = some (.int .i64 d) := by rw [Lib.cell_of_heap (heap_alloc_new _ _)]; rfl
  have HW0 := Lib.hid (show Below w.heap.size w (w.alloc (.cells (postC f N S B d) 25)) from (Below.refl _ _).alloc (Nat.le_refl _) _)
  generalize w.alloc (.cells (postC f N S B d) 25) = W0 at *
  have hz2 : W0.heap.size ≤ w2.heap.size := by have := hb2.size; exact this
  have hb0 : Below W0.heap.size W0 w2 := (below_drewN (Below.refl _ _) nd).trans (hb2.mono (Nat.le_refl _))
  have hbA : Below W0.heap.size W0 (w2.alloc (.cells #[.string (ofL TI)] 9)) := hb0.alloc hz2 _
  have HBB := Lib.hid (show Below W0.heap.size W0 w3 from hbA.trans (hst.bel.mono (by simp; omega)))
  have HO0 := Lib.hid (show w3.ownsRow W0.heap.size 9 1 (.slice (some ⟨w2.heap.size, 0, none⟩) 1 1) 1 (strsL [TI]) from
    own_below (w := w2.alloc (.cells #[.string (ofL TI)] 9)) ⟨by simp, .inr ⟨w2.heap.size, 1, #[.string (ofL TI)], rfl, hz2, heap_alloc_new _ _, Nat.le_refl _, by unfold maxLen; omega, rfl, rfl⟩⟩ hst.bel)
  obtain ⟨Ab, cb, rfl, hrb⟩ := own_row hst.own
  have HNE := Lib.hid (show ∀ g b o, (Value.slice (some ⟨w2.heap.size, 0, none⟩) 1 1).ownBlock = some g → Ab = some ⟨b, o, none⟩ → g ≠ b from by
    intro g b o h1 h2
    subst h2
    have h3 := (hst.own.lt b rfl).1
    simp at h3
    have h4 : w2.heap.size = g := by simpa [Value.ownBlock] using h1
    omega)
  have HRB := Lib.hid hrb
  have HLE := Lib.hid (fun x (h : x ∈ LS) => hle x h)
  clear hst hb2 HP1 HDV HLN hb0 hbA hz2 hrb hle
  go_loopw [7, 9, 10, 11] (fun v7 v9 _ _ wr => ∃ k : Nat, k ≤ LS.length ∧ v9 = .int .i64 (k : Int) ∧ StrO W0 wr v7 (TI :: txtL (LS.take k)) ∧ Row wr Ab (strsL LS) ∧ (∀ g b o, v7.ownBlock = some g → Ab = some ⟨b, o, none⟩ → g ≠ b)) (fun _ v9 _ _ _ => LS.length - (intOf v9).toNat)
  case atStart => exact ⟨0, by omega, rfl, ⟨HO0.out, HBB.out⟩, HRB.out, HNE.out⟩
  case round =>
    obtain ⟨k, hk, rfl, hS, hR, hne⟩ := hrel
    have HS := Lib.hid hS; have HR := Lib.hid hR; have HN1 := Lib.hid hne
    clear HO0 HBB HRB HNE
    have k0 : (0 : Int) ≤ (k : Int) := by omega
    by_cases hlt : k < LS.length
    · have k1 : (k : Int) < (LS.length : Int) := by omega
      have hxs := HLE.out _ (List.getElem_mem hlt)
      have HSN := Lib.hid (show txtL (LS.take (k + 1)) = if levN LS[k] = 0 ∧ plnF LS[k] ≠ [] then txtL (LS.take k) ++ [plnF LS[k]] else txtL (LS.take k) from by
        rw [List.take_succ_eq_append_getElem hlt, txtL_snoc])
      obtain ⟨bb, off, rfl, hbl, hcA⟩ := hR.at (k := k) (by simpa using hlt)
      have hc : wr.cell? ⟨bb, off + k, none⟩ = some (.string (ofL LS[k])) := hcA k _ (by simp [strsL, List.getElem?_map, List.getElem?_eq_getElem hlt])
      clear hcA hR hS hne
      have hacc : (txtL (LS.take k)).length ≤ k := by have := txtL_len (LS.take k); rw [List.length_take] at this; omega
      obtain ⟨X, hX⟩ : ∃ X, X = ofL LS[k] := ⟨_, rfl⟩
      have hXL : LS[k] = toL X := by rw [hX, toL_ofL]
      rw [← hX] at hc
      rw [hXL] at hxs HSN
      rw [toL_length] at hxs
      have HLV := Lib.hid (fun wx => rf_level X wx (by omega))
      have HPX := Lib.hid (fun wx => lw_plain X wx (by omega))
      clear hX hXL
      generalize levN (toL X) = nl at *
      generalize levR (toL X) = rl at *
      generalize plnF (toL X) = px at *
      generalize txtL (LS.take k) = acc at *
      by_cases hn : nl = 0
      · subst hn
        have HLV := Lib.hid (show ∀ wx, Calls Tryz.prog 39 #[.string X] wx fun e w' => e = .returned (.tuple #[.int .i64 0, .string (ofL rl)]) ∧ wx = w' from HLV.out)
        by_cases hp : px = []
        · rw [if_neg (by intro h; exact h.2 hp)] at HSN
          subst hp
          have he : (ofL []).toList.isEmpty = true := by rw [ByteArray.toList_eq]; rfl
          go_wp2_with (first
            | (go_at_call 39; (with_reducible refine (HLV.out _).mono ?_); rintro e w' ⟨rfl, rfl⟩)
            | (go_at_call 37; (with_reducible refine (HPX.out _).mono ?_); rintro e w5 ⟨rfl, hb5⟩))
          go_roundw
          case rel => exact ⟨k + 1, by omega, by go_num, by rw [HSN.out]; exact HS.out.later hb5, HR.out.below hb5, HN1.out⟩
          case measure => simp [intOf] <;> omega
        · rw [if_pos ⟨rfl, hp⟩] at HSN
          have he : (ofL px).toList.isEmpty = false := by
            cases px with
            | nil => exact absurd rfl hp
            | cons c r => exact toList_cons (by rw [ofL_size]; simp)
          clear hp
          go_upto_region 9 with (first
            | (go_at_call 39; (with_reducible refine (HLV.out _).mono ?_); rintro e w' ⟨rfl, rfl⟩)
            | (go_at_call 37; (with_reducible refine (HPX.out _).mono ?_); rintro e w5 ⟨rfl, hb5⟩))
          have HS5 := Lib.hid (HS.out.later hb5)
          have HR5 := Lib.hid (HR.out.below hb5)
          have hc5 := (hb5.cell (p := ⟨bb, off + k, none⟩) hbl).trans hc
          have hbl5 := Nat.lt_of_lt_of_le hbl hb5.size
          clear HS HR hc
          go_wp2_with (first
            | (go_at_call 37; (with_reducible refine (HPX.out _).mono ?_); rintro e w6 ⟨rfl, hb6⟩; have hown6 := own_below HS5.out.own hb6; have hbs6 := (HS5.out.later hb6).bel.size; have HB6 := Lib.hid hb6; clear hb6)
            | (at_builtin; refine wpList_push el_str4 rfl _ _ rfl hown6 #[.string (ofL px)] rfl rfl rfl (by simp [Value.oneCell']) (by simp only [List.length_cons]; omega) (by unfold maxLen; simp only [List.length_cons]; omega) hbs6 ?_; intro g cap w7 hown7 hg7 hat7))
          have HF := Lib.hid (show StrO W0 w7 (.slice (some ⟨g, 0, none⟩) ((TI :: acc).length + 1) cap) (TI :: (acc ++ [px])) from ⟨by simpa using hown7, (HS5.out.later HB6.out).bel.grown hg7 hbs6 (fun k hk => (hown6.lt k hk).1)⟩)
          have HRN := Lib.hid (row_ne (HR5.out.below HB6.out) hg7 HN1.out)
          have HN2 := Lib.hid (show ∀ g' b o, (Value.slice (some ⟨g, 0, none⟩) ((TI :: acc).length + 1) cap).ownBlock = some g' → (some ⟨bb, off, none⟩ : Option Addr) = some ⟨b, o, none⟩ → g' ≠ b from by
            intro g' b o h1 h2
            rcases hat7 with h | h
            · exact HN1.out g' b o (h.trans h1) h2
            · injection h2 with h2; injection h2 with h2; subst h2
              have h3 : g = g' := by simpa [Value.ownBlock] using h1
              have := HB6.out.size
              omega)
          go_roundw
          case rel => exact ⟨k + 1, by omega, by go_num, by rw [HSN.out]; exact HF.out, HRN.out, HN2.out⟩
          case measure => simp [intOf] <;> omega
      · have hn1 : ((nl : Int) == 0) = false := by simp; omega
        rw [if_neg (by intro h; exact hn h.1)] at HSN
        go_wp2_with ((go_at_call 39; (with_reducible refine (HLV.out _).mono ?_); rintro e w' ⟨rfl, rfl⟩))
        go_roundw
        case rel => exact ⟨k + 1, by omega, by go_num, by rw [HSN.out]; exact HS.out, HR.out, HN1.out⟩
        case measure => simp [intOf] <;> omega
    · have k1 : (LS.length : Int) ≤ (k : Int) := by omega
      have htk : LS.take k = LS := List.take_of_length_le (by omega)
      rw [htk] at HS
      have htl := txtL_len LS
      obtain ⟨T0, hT0⟩ : ∃ T0, T0 = TI :: txtL LS := ⟨_, rfl⟩
      have HT0 := Lib.hid hT0
      have hTl : T0.length ≤ 10002 := by rw [hT0, List.length_cons]; omega
      rw [← hT0] at HS
      have h0 := hne
      clear hR hS hne HN1 HR HLE htk hT0 htl hll
      have hpos : 0 < T0.length := by rw [HT0.out, List.length_cons]; omega
      obtain ⟨g7, c7, rfl, hcap7, hgb7⟩ := own_pos HS.out.own hpos
      have HR7 := Lib.hid (own_row_isS HS.out.own)
      clear h0
      have HCP := Lib.hid (show capT T0 = if 50 < T0.length then T0.take 49 ++ [moreL (T0.length - 49)] else T0 from rfl)
      go_upto_if 64 with fail
      go_cut [7] (fun s7 wx => StrO W0 wx s7 (capT T0))
      case first =>
        by_cases hgt : 50 < T0.length
        · have q1 : decide (50 < T0.length) = true := decide_eq_true hgt
          rw [if_pos hgt] at HCP
          have m1 : (49 : Int) ≤ (c7 : Int) := by omega
          obtain ⟨F, hF⟩ : ∃ F, F = T0.take 49 := ⟨_, rfl⟩
          have hFl : F.length = 49 := by rw [hF, List.length_take]; omega
          rw [← hF] at HCP
          have HRF := Lib.hid (show Row wr (some ⟨g7, 0, none⟩) (strsL F) from row_pre HR7.out (by rw [hF]; unfold strsL; rw [List.map_take]; exact List.take_prefix _ _))
          obtain ⟨dl, hdl⟩ : ∃ dl : Nat, dl = T0.length - 49 := ⟨_, rfl⟩
          have hdi : dl ≤ 10002 := by omega
          have HDG := Lib.hid (show ∀ wx, Calls Tryz.prog 40 #[.int .i64 ((T0.length : Int) - 49)] wx fun e w' => e = .returned (.string (ofL (decDigits dl))) ∧ Below wx.heap.size wx w' from fun wx => by rw [show (T0.length : Int) - 49 = (dl : Int) from by omega]; exact ref_digits dl (by omega) wx)
          rw [← hdl] at HCP
          clear hdl hF
          have hDs : (ofL (decDigits dl)).size ≤ 20 := by rw [ofL_size]; have := dec_len_lt 19 dl (by omega); omega
          have hs8 : ((⟨#[46, 46, 46, 32, 97, 110, 100, 32]⟩ : ByteArray) ++ ofL (decDigits dl)).size ≤ 28 := by rw [ByteArray.size_append]; show 8 + _ ≤ _; omega
          have hs9 : (((⟨#[46, 46, 46, 32, 97, 110, 100, 32]⟩ : ByteArray) ++ ofL (decDigits dl)) ++ ⟨#[32, 109, 111, 114, 101, 32, 108, 105, 110, 101, 115]⟩).size ≤ 39 := by rw [ByteArray.size_append]; show _ + 11 ≤ _; omega
          have HBE := Lib.hid (show Below wr.heap.size wr (wr.alloc (.cells #[] 9)) from (Below.refl _ _).alloc (Nat.le_refl _) _)
          have hE : (wr.alloc (.cells #[] 9)).ownsRow wr.heap.size 9 1 (.slice (some ⟨wr.heap.size, 0, none⟩) 0 0) 0 [] :=
            ⟨rfl, .inr ⟨wr.heap.size, 0, #[], rfl, Nat.le_refl _, heap_alloc_new _ _, Nat.le_refl _, by unfold maxLen; omega, rfl, rfl⟩⟩
          have hRE := HRF.out.below HBE.out
          have hlF : (strsL F).length = 49 * 1 := by simp [hFl]
          go_wp2_with (first
            | (go_at_call 40; (with_reducible refine (HDG.out _).mono ?_); rintro e w5 ⟨rfl, hb5⟩; have hown5 := own_below hown4 hb5; have hbs5 := Nat.le_trans hz4 hb5.size; have HB5 := Lib.hid hb5; clear hb5)
            | (at_builtin; refine wpList_pour el_str4 rfl _ _ rfl hE rfl (A := some ⟨g7, 0, none⟩) (m := 49) (c := c7) (news := strsL F) rfl hRE hlF (strsL_one F) (by intro h; cases h) (by omega) (by unfold maxLen; omega) (by simp) ?_; intro v4 w4 hown4 hg4 hat4; obtain ⟨g4, cap4, rfl, hcap4, hgb4⟩ := own_pos hown4 (by omega); have hb4 := HBE.out.grown hg4 (by simp) (by intro k hk; simp [Value.ownBlock] at hk; omega); have hz4 := hb4.size; have HB4 := Lib.hid hb4; clear hb4)
            | (at_builtin; go_loud (apply wpList_push (w := w5) (E := el_str4) (s := .tmp 68) (x := .tmp 75) (hown := hown5) (cs := #[.string ((⟨#[46, 46, 46, 32, 97, 110, 100, 32]⟩ ++ ofL (decDigits dl)) ++ ⟨#[32, 109, 111, 114, 101, 32, 108, 105, 110, 101, 115]⟩)]) (hbase := hbs5); (case hgd => rfl); (case ho => rfl); (case hs => rfl); (case hx => rfl); (case hl => rfl); (case h1 => simp [Value.oneCell']); (case hn => omega); (case hn2 => unfold maxLen; omega); intro g cap w7 hown7 hg7 hat7)))
          have HF7 := Lib.hid (show StrO W0 w7 (.slice (some ⟨g, 0, none⟩) (0 + 49 + 1) cap) (F ++ [moreL dl]) from by
            refine ⟨?_, ?_⟩
            · have h := own_mono hown7 HS.out.bel.size
              have e1 : (F ++ [moreL dl]).length = 0 + 49 + 1 := by simp [hFl]
              have e2 : strsL (F ++ [moreL dl]) = ([] ++ strsL F) ++ [.string ((⟨#[46, 46, 46, 32, 97, 110, 100, 32]⟩ ++ ofL (decDigits dl)) ++ ⟨#[32, 109, 111, 114, 101, 32, 108, 105, 110, 101, 115]⟩)] := by
                simp only [strsL, List.map_append, List.map_cons, List.map_nil, List.nil_append]
                congr 2
                first | done | (refine congrArg Value.string (toL_inj ?_); first | done | simp [toL, ofL, moreL])
              rw [e1, e2]; exact h
            · exact HS.out.bel.trans (((HB4.out.trans (HB5.out.mono HB4.out.size)).grown hg7 hbs5 (fun k hk => (hown5.lt k hk).1)).mono HS.out.bel.size))
          go_wp2_with fail
          go_meet
          case rel => rw [HCP.out]; exact HF7.out
        · have q1 : decide (50 < T0.length) = false := decide_eq_false hgt
          rw [if_neg hgt] at HCP
          go_wp2_with fail
          go_meet
          case rel => rw [HCP.out]; exact HS.out
      case rest =>
        have HC := Lib.hid hcut
        have HTF := Lib.hid (show txtF (toL N) (toL S) (toL B) = capT T0 from by rw [HT0.out]; exact HTL.out)
        clear hcut HS HR7 HCP HT0 hcap7 hgb7 HTL
        have hcl := capT_len T0
        have hdc := (HC.out.bel.cell (p := ⟨w.heap.size, 35, none⟩) (by show w.heap.size < _; omega)).trans hpc
        have hzc := HC.out.bel.size
        have hwc : w.heap.size < wc.heap.size := by omega
        have HF := Lib.hid (show txtF (toL N) (toL S) (toL B) = capT T0 from HTF.out)
        generalize capT T0 = T1 at *
        obtain ⟨A8, c8, rfl, hr8⟩ := own_row HC.out.own
        have HR8 := Lib.hid hr8
        clear hr8 hpc
        go_wp2_with fail
        go_loopw [12, 13] (fun v12 v13 wr => ∃ k : Nat, k ≤ T1.length ∧ v13 = .int .i64 (k : Int) ∧ LnsOwn wc wr v12 ((T1.take k).map fun t => ⟨d, toL own, t⟩)) (fun _ v13 _ => T1.length - (intOf v13).toNat)
        case atStart => exact ⟨0, by omega, rfl, LnsOwn.nil _⟩
        case round =>
          obtain ⟨k, hk, rfl, hL⟩ := hrel
          have HL := Lib.hid hL
          have k0 : (0 : Int) ≤ (k : Int) := by omega
          by_cases hlt : k < T1.length
          · have k1 : (k : Int) < (T1.length : Int) := by omega
            obtain ⟨bb, off, rfl, hbl, hcA⟩ := HR8.out.at (k := k) (by simpa using hlt)
            have hcw : wc.cell? ⟨bb, off + k, none⟩ = some (.string (ofL T1[k])) := hcA k _ (by simp [strsL, List.getElem?_map, List.getElem?_eq_getElem hlt])
            have hc : wr.cell? ⟨bb, off + k, none⟩ = some (.string (ofL T1[k])) := (HL.out.bel.cell (p := ⟨bb, off + k, none⟩) hbl).trans (hcA k _ (by simp [strsL, List.getElem?_map, List.getElem?_eq_getElem hlt]))
            have hdr := (HL.out.bel.cell (p := ⟨w.heap.size, 35, none⟩) hwc).trans hdc
            have HTS := Lib.hid (show (T1.take (k + 1)).map (fun t => (⟨d, toL own, t⟩ : Ln)) = (T1.take k).map (fun t => (⟨d, toL own, t⟩ : Ln)) ++ [⟨d, toL own, T1[k]⟩] from by rw [List.take_succ_eq_append_getElem hlt, List.map_append]; rfl)
            have hown := HL.out.own
            have hbs := HL.out.bel.size
            have hlen : ((T1.take k).map (fun t => (⟨d, toL own, t⟩ : Ln))).length ≤ 50 := by rw [List.length_map, List.length_take]; omega
            have HOW := Lib.hid (ofL_toL own)
            clear hcA hL
            generalize T1[k] = t at *
            generalize (T1.take k).map (fun t => (⟨d, toL own, t⟩ : Ln)) = acc at *
            obtain ⟨i0, z, hi0, hz0, hz1, hz2, hzs⟩ := el_Line.info
            have ag : ∀ g, _ = some g → wc.heap.size ≤ g := fun g hg => (hown.lt g hg).1
            have AG := Lib.hid ag; clear ag
            go_wp2_with fail
            go_region_held3 (fun w' => w'.cell? ⟨w.heap.size, 35, none⟩ = some (.int .i64 (d : Int)) ∧ w'.cell? ⟨bb, off + k, none⟩ = some (.string (ofL t)))
              (first
                | go_keep
                | exact ⟨(hgrow.cell_far ⟨w.heap.size, 35, none⟩ (by simp; omega) (fun e => by have := AG.out w.heap.size e.symm; omega)).trans ((World.cell?_of_block (Lib.alloc_old wr _ w.heap.size (by omega))).trans hdr), (hgrow.cell_far ⟨bb, off + k, none⟩ (by simp; omega) (fun e => by have := AG.out bb e.symm; omega)).trans ((World.cell?_of_block (Lib.alloc_old wr _ bb (by omega))).trans hc)⟩)
              ((refine step_append_lies _ (by rfl) _ _ _ (by rfl) wc.heap.size 39 i0 _ 3 _ el_Line.under hi0 hz0 hz1 hz2 hzs (by omega) _ _ _ (by rfl) ((hown.alloc _).drew)
                    ⟨wr.heap.size, 0, none⟩ 1 1 [.int .i64 (d : Int), .string own, .string (ofL t)] (by rfl) (by rfl) (World.news_of_block (cs := #[.int .i64 (d : Int), .string own, .string (ofL t)]) (t := 39) (fr := (0, 0)) (heap_alloc_new wr _)) (by simp [Value.oneCell'])
                    (by omega) (by unfold maxLen; omega) (by omega) (by simp; omega) (wr.heap.size + 1) (by simp) ?_; intro g cap w9 hown9 hgrow hat hlt1))
            have HF9 := Lib.hid (LnsOwn.pushA (x := ⟨d, toL own, t⟩) HL.out (by rw [HOW.out]; exact hown9) hgrow)
            clear hown9 hgrow hat hlt1
            go_wp2_with fail
            go_roundw
            case rel => exact ⟨k + 1, by omega, by go_num, by rw [HTS.out]; exact HF9.out⟩
            case measure => simp [intOf] <;> omega
          · have k1 : (T1.length : Int) ≤ (k : Int) := by omega
            have htk : T1.take k = T1 := List.take_of_length_le (by omega)
            rw [htk] at HL
            go_wp2_with fail
            go_ret
            exact ⟨_, rfl, by rw [HF.out]; exact ⟨own_mono HL.out.own (Nat.le_trans HW0.out.size hzc), HW0.out.trans ((HC.out.bel.trans (HL.out.bel.mono hzc)).mono HW0.out.size)⟩⟩
end Go.Proofs.YtghjgbkhhoaebaaGreatDoor
