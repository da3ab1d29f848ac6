/- Lemmas and walks, part 35. -/
import Derived.Test.YtghjgbkhhoaebaaGreatDoorPo21
import Derived.Test.YtghjgbkhhoaebaaGreatDoorPo22
import Derived.Test.YtghjgbkhhoaebaaGreatDoorPo23
import Derived.Test.YtghjgbkhhoaebaaGreatDoorPo19
import Derived.Test.YtghjgbkhhoaebaaGreatDoorPo33
import Derived.Test.YtghjgbkhhoaebaaGreatDoorPo34
import Derived.Deep.RegionLaw
import Derived.Deep.AppendLies
namespace Go.Proofs.YtghjgbkhhoaebaaGreatDoor
set_option linter.unusedSimpArgs false
set_option linter.unusedVariables false
open Go.RowKit Go.Shelf
open Go.Lib (decDigits)
attribute [local go_sem] Oper.semAt_some

/-- Between two lines of texts: the box holds the slice of the texts so far. -/
structure TxI (LB base : Nat) (TI : List UInt8) (pre : List (LnT 1100000)) (W : World) : Prop where
  ex : ∃ v, Boxed W LB 77 v ∧ W.ownsRow base 9 1 v (TI :: txtL (txL pre)).length (strsL (TI :: txtL (txL pre))) ∧ v.ownBlock ≠ some LB
  sz : base ≤ W.heap.size
theorem TxI.own (LB base : Nat) (TI : List UInt8) : Own (TxI LB base TI) := fun _ _ _ _ hs hg hr => by
  obtain ⟨⟨v, h1, h2, h3⟩, h4⟩ := hs
  exact ⟨⟨v, bx_own h1 hg hr, own_keep h2 hg hr, h3⟩, Nat.le_trans h4 hg.size⟩
theorem TxI.later {LB base : Nat} {TI : List UInt8} {pre pre' : List (LnT 1100000)} {W W' : World} (h : TxI LB base TI pre W) (hb : Below W.heap.size W W') (he : txtL (txL pre') = txtL (txL pre)) : TxI LB base TI pre' W' := by
  obtain ⟨⟨v, h1, h2, h3⟩, h4⟩ := h
  exact ⟨⟨v, bx_below h1 hb, by rw [he]; exact own_below h2 hb, h3⟩, Nat.le_trans h4 hb.size⟩
/-- A piece that ends as it should: whatever else may be asked of other ways to end. -/
theorem wp_normal {P : Program} {c : Code} {K : Act → World → Prop} {Q : Exit → Act → World → Prop} {a : Act} {w : World} (h : c.wp P (Exit.then K (fun _ _ _ => False)) a w) : c.wp P (Exit.then K Q) a w :=
  Code.wp_mono (fun e a w q => by cases e <;> first | exact q | exact q.elim) h
set_option maxRecDepth 100000 in
set_option maxHeartbeats 8000000 in
theorem gw_texts (f : Nat → Int) (N S B : ByteArray) (d : Int) (w : World) (hsh : w.ShapedOpen Tryz.prog) (ht : TabB w) (hn : TabN w) (hN : N.size ≤ 1100000) (hS : S.size ≤ 1100000) (hB : B.size ≤ 1100000) : Calls Tryz.prog 35 #[postV f N S B d] w fun e w' => ∃ v, e = .returned v ∧ StrO w w' v (txtF (toL N) (toL S) (toL B)) := by
  have HSH := Lib.hid hsh; clear hsh
  have HTB := Lib.hid ht; clear ht
  have HTN := Lib.hid hn; clear hn
  have hs1 : (N ++ ⟨#[58, 32]⟩).size ≤ 1100002 := by rw [ByteArray.size_append]; show N.size + 2 ≤ _; omega
  have hs2 : ((N ++ ⟨#[58, 32]⟩) ++ S).size ≤ 2200002 := by rw [ByteArray.size_append]; omega
  have HTT := Lib.hid (show toL ((N ++ ⟨#[58, 32]⟩) ++ S) = toL N ++ ([58, 32] ++ toL S) from by simp [toL])
  have HP1 := Lib.hid (fun wx (hb : Below w.heap.size w wx) => gw_plain ((N ++ ⟨#[58, 32]⟩) ++ S) wx (HTB.out.below hb) (by omega))
  rw [HTT.out] at HP1
  have HDV := Lib.hid (fun wx (hb : Below w.heap.size w wx) => art_divide B wx (shaped_below HSH.out hb) (by omega))
  have hdl := (div_len (toL B)).1
  rw [toL_length] at hdl
  have hfs : (ofL (divF (toL B)).1).size ≤ 1100000 := by rw [ofL_size]; omega
  have hll := lines_lenT (divF (toL B)).1
  have HTL := Lib.hid (show txtF (toL N) (toL S) (toL B) = capT (plnF (toL N ++ ([58, 32] ++ toL S)) :: txtL (linesF (divF (toL B)).1)) from rfl)
  have HFL := Lib.hid (toL_ofL (divF (toL B)).1)
  generalize plnF (toL N ++ ([58, 32] ++ toL S)) = TI at *
  generalize (divF (toL B)).1 = FS at *
  obtain ⟨X, hX⟩ : ∃ X, ofL FS = X := ⟨_, rfl⟩
  rw [hX] at HDV hfs HFL
  have HX := Lib.hid hX
  clear HTT hX
  refine (callsIn_wide (n := 10)).1 ?_
  refine callsIn_of_wp_marks Tryz.func35 rfl trivial ?_ rfl
  simp only [Tryz.ntmps35, List.size_toArray, List.length_cons, List.length_nil, Nat.reduceAdd, Nat.reduceSub, Array.replicate_succ, Array.replicate_zero, List.push_toArray, List.append_toArray, List.nil_append, List.cons_append]
  gi_wp2_with (first
    | (refine ⟨trivial, ?_⟩; gi_at_call 73; refine (callsIn_wide.2 (HP1.out _ ((Below.refl _ _).alloc (Nat.le_refl _) _))).mono ?_; rintro e w1 ⟨rfl, hb1⟩; have p34 := (hb1.cell (p := ⟨w.heap.size, 34, none⟩) (by simp)).trans (show (w.alloc (.cells (postC f N S B d) 25)).cell? ⟨w.heap.size, 34, none⟩ = some (.string B) from by rw [Lib.cell_of_heap (heap_alloc_new _ _)]; rfl); have hz1 : w.heap.size < w1.heap.size := by (have := hb1.size; simp at this; omega))
    | (refine ⟨trivial, ?_⟩; gi_at_call 74; refine (callsIn_wide.2 (HDV.out _ (((((Below.refl _ _).alloc (Nat.le_refl _) _).trans (hb1.mono (by simp))).alloc (by omega) _).alloc (by simp; omega) _))).mono ?_; rintro e w2 ⟨rfl, hb2⟩)
    | (refine ⟨trivial, ?_⟩; gi_at_call 75; refine (art_lines X _ _).mono ?_; rintro e w' ⟨rfl, rfl⟩))
  have hzz : w1.heap.size + 2 ≤ w2.heap.size := by have := hb2.size; simp at this; omega
  have hLB : Boxed w2 (w1.heap.size + 1) 77 (.slice (some ⟨w1.heap.size, 0, none⟩) 1 1) := (hb2.block _ (by simp)).trans (bx_new _ _ (by simp))
  have hOW : w2.ownsRow w.heap.size 9 1 (.slice (some ⟨w1.heap.size, 0, none⟩) 1 1) 1 (strsL [TI]) :=
    own_below (w := (w1.alloc (.cells #[.string (ofL TI)] 9)).alloc (.cells #[.slice (some ⟨w1.heap.size, 0, none⟩) 1 1] 77)) ⟨by simp, .inr ⟨w1.heap.size, 1, #[.string (ofL TI)], rfl, Nat.le_of_lt hz1, (Lib.alloc_old _ _ _ (by simp)).trans (heap_alloc_new _ _), Nat.le_refl _, by unfold maxLen; omega, rfl, rfl⟩⟩ hb2
  have hB2 : Below w.heap.size w w2 := (((((Below.refl _ _).alloc (Nat.le_refl _) _).trans (hb1.mono (by simp))).alloc (Nat.le_of_lt hz1) _).alloc (by simp; omega) _).trans (hb2.mono (by simp; omega))
  have hB0 : Below w.heap.size w (w2.alloc (.cells #[.string X] 9)) := hB2.alloc (by omega) _
  have HI0 := Lib.hid (show TxI (w1.heap.size + 1) w.heap.size TI [] (w2.alloc (.cells #[.string X] 9)) from
    ⟨⟨_, hLB.alloc _, hOW.alloc _, by simp [Value.ownBlock]⟩, by simp; omega⟩)
  have hbx : Boxed (w2.alloc (.cells #[.string X] 9)) w2.heap.size 9 (.string X) := bx_new _ _ rfl
  have hz0 : (w2.alloc (.cells #[.string X] 9)).heap.size = w2.heap.size + 1 := by simp
  obtain ⟨LB, hLBe⟩ : ∃ LB, LB = w1.heap.size + 1 := ⟨_, rfl⟩
  rw [← hLBe] at HI0 ⊢
  have hl1 : w.heap.size < LB := by omega
  clear hb1 hb2 hLB hOW hB2 p34 HP1 HDV
  generalize w2.alloc (.cells #[.string X] 9) = X0 at *
  have hwn : w.heap.size ≤ w2.heap.size := by omega
  generalize w2.heap.size = n1 at *
  clear hLBe hzz hz1
  refine wpIn_rangeFunc_ownG (a₁ := ?a1) rfl (by omega) (gf := 108) (lb := #[.pointer (some ⟨n1, 0, none⟩)]) rfl trivial (enters_of Tryz.func108 (by kernel_rfl) rfl)
    (lines_stops _ (by omega) w X0 HSH.out hB0 n1 hbx.lt X (by omega) hfs hbx.cell) belowK_t (belowK_b (by omega)) (Below.refl _ _) (fun _ => rfl)
    (fun pre W => TxI LB w.heap.size TI pre W ∧ Below w.heap.size w W)
    (fun _ _ _ => False)
    (OwnFrom.and (Own.from (TxI.own _ _ _) _) (ownFrom_below (Nat.le_refl _) (by omega)))
    (fun _ _ _ _ _ hs _ _ => hs)
    ⟨HI0.out, hB0⟩ ?assign ?body ?done ?stop
  case assign =>
    intro l x W K hK
    gi_wp2
    exact hK
  case body =>
    rintro l pre ⟨⟨o, x⟩, hx⟩ W ⟨hI, hB⟩ hlen
    have HI := Lib.hid hI; have HB := Lib.hid hB
    have hx1 : x.size ≤ 1100000 := hx.2
    have HSN := Lib.hid (show txtL (txL (pre ++ [(⟨(o, x), hx⟩ : LnT 1100000)])) = if levN (toL x) = 0 ∧ plnF (toL x) ≠ [] then txtL (txL pre) ++ [plnF (toL x)] else txtL (txL pre) from by rw [txL_snoc]; exact txtL_snoc _ _)
    have hacc : (txtL (txL pre)).length ≤ 2200000 := by
      have h1 := txtL_len (txL pre)
      have h2 : (txL pre).length = pre.length := by simp [txL]
      omega
    have HLV := Lib.hid (fun wx => art_level x wx (by omega))
    have HPX := Lib.hid (fun wx (hb : Below w.heap.size w wx) => gw_plain x wx (HTB.out.below hb) (by omega))
    obtain ⟨⟨v, hbox, hown, hne⟩, hsz⟩ := hI
    obtain ⟨g0, cap0, rfl, hcap0, hg0⟩ := own_pos hown (by simp)
    have hgl := (hown.lt g0 rfl).2
    have c1 := hbox.cell; have d1 := hbox.frozen
    have HBX := Lib.hid hbox; have HOW := Lib.hid hown
    have hne' : g0 ≠ LB := fun e => hne (by simp [Value.ownBlock, e])
    have hlb := hbox.lt
    clear hB hbx hB0 HI0 hlen hbox hown hne
    dsimp only
    generalize levN (toL x) = nl at *
    generalize levR (toL x) = rl at *
    generalize plnF (toL x) = px at *
    by_cases hn : nl = 0
    · subst hn
      have HLV := Lib.hid (show ∀ wx, Calls Tryz.prog 76 #[.string x] wx fun e w' => e = .returned (.tuple #[.int .i64 0, .string (ofL rl)]) ∧ wx = w' from HLV.out)
      by_cases hp : px = []
      · rw [if_neg (by intro h; exact h.2 hp)] at HSN
        subst hp
        have he : (ofL []).toList.isEmpty = true := by rw [ByteArray.toList_eq]; rfl
        gi_wp2_with (first
          | (refine ⟨trivial, ?_⟩; gi_at_call 76; refine (CallsIn.inRound l (callsIn_wide.2 (HLV.out _))).mono ?_; rintro e w' ⟨rfl, rfl⟩)
          | (refine ⟨trivial, ?_⟩; gi_at_call 73; refine (CallsIn.inRound l (callsIn_wide.2 (HPX.out _ HB.out))).mono ?_; rintro e w5 ⟨rfl, hb5⟩))
        exact ⟨keeps_below hb5, hb5.mono (Nat.le_trans HB.out.size (Nat.le_refl _)), HI.out.later hb5 HSN.out, HB.out.trans (hb5.mono HB.out.size)⟩
      · rw [if_pos ⟨rfl, hp⟩] at HSN
        have he : (ofL px).toList.isEmpty = false := by
          cases px with
          | nil => exact absurd rfl hp
          | cons c r => exact toList_cons (by rw [ofL_size]; simp)
        clear hp
        gi_wp2_with (first
          | (refine ⟨trivial, ?_⟩; gi_at_call 76; refine (CallsIn.inRound l (callsIn_wide.2 (HLV.out _))).mono ?_; rintro e w' ⟨rfl, rfl⟩)
          | (refine ⟨trivial, ?_⟩; gi_at_call 73; refine (CallsIn.inRound l (callsIn_wide.2 (HPX.out _ HB.out))).mono ?_; rintro e w5 ⟨rfl, hb5⟩; have c5 := (bx_below HBX.out hb5).cell; have d5 := (bx_below HBX.out hb5).frozen; have hown5 := own_below HOW.out hb5; have hbs5 := Nat.le_trans hsz hb5.size; have HB5 := Lib.hid hb5; have hlb5 := Nat.lt_of_lt_of_le hlb hb5.size; clear hb5)
          | (gi_at_builtin; refine wpListIn_push el_str4 rfl _ _ rfl hown5 #[.string (ofL px)] rfl rfl rfl (by simp [Value.oneCell']) (by simp only [List.length_cons]; omega) (by unfold maxLen; simp only [List.length_cons]; omega) hbs5 ?_; intro g cap w7 hown7 hg7 hat7; have f7 := (World.frozen?_of_block (a := ⟨LB, 0, none⟩) (hg7.block LB (by omega) (fun e => hne' (by simpa [Value.ownBlock] using e.symm)))).trans d5; have c7 := (World.cell?_of_block (a := ⟨LB, 0, none⟩) (hg7.block LB (by omega) (fun e => hne' (by simpa [Value.ownBlock] using e.symm)))).trans c5))
        have hgL : g ≠ LB := by
          rcases hat7 with h | h
          · have : g0 = g := by simpa [Value.ownBlock] using h
            omega
          · omega
        obtain ⟨k1, k2, k3⟩ := push_done (n0 := w.heap.size) (.slice (some ⟨g, 0, none⟩) ((TI :: txtL (txL pre)).length + 1) cap) HB5.out HOW.out HBX.out hg7 hne' (Nat.le_refl _) (by omega) (n1 + 1)
        refine ⟨k1, k2, ⟨⟨_, k3, ?_, by simp [Value.ownBlock]; exact hgL⟩, Nat.le_trans hsz k2.size⟩, HB.out.trans k2⟩
        rw [HSN.out]
        have h := own_other (B := LB) (i := 0) hown7 (by simp [Value.ownBlock]; exact hgL) (.slice (some ⟨g, 0, none⟩) ((TI :: txtL (txL pre)).length + 1) cap)
        have e1 : (TI :: (txtL (txL pre) ++ [px])).length = (TI :: txtL (txL pre)).length + 1 := by simp
        have e2 : strsL (TI :: (txtL (txL pre) ++ [px])) = strsL (TI :: txtL (txL pre)) ++ [.string (ofL px)] := by simp [strsL]
        rw [e1, e2]; exact h
    · have hn1 : ((nl : Int) != 0) = true := by simp; omega
      rw [if_neg (by intro h; exact hn h.1)] at HSN
      gi_wp2_with (first
        | (refine ⟨trivial, ?_⟩; gi_at_call 76; refine (CallsIn.inRound l (callsIn_wide.2 (HLV.out _))).mono ?_; rintro e w' ⟨rfl, rfl⟩))
      exact ⟨KeepsFrom.refl _ _, Below.refl _ _, HI.out.later (Below.refl _ _) HSN.out, HB.out⟩
  case done =>
    rintro D ys W hD hS ⟨hI, hB⟩ hK
    obtain ⟨⟨v, hbox, hown, hne⟩, hsz⟩ := hI
    have hty : txL ys = linesF FS := by rw [← HFL.out]; exact txL_all hS
    rw [hty] at hown
    have hcl := txtL_len (linesF FS)
    obtain ⟨T0, hT0⟩ : ∃ T0, T0 = TI :: txtL (linesF FS) := ⟨_, rfl⟩
    rw [← hT0] at HTL hown
    have hTl : T0.length ≤ 1100002 := by rw [hT0, List.length_cons]; omega
    have hpos : 0 < T0.length := by rw [hT0, List.length_cons]; omega
    obtain ⟨g0, cap0, rfl, hcap0, hg0⟩ := own_pos hown hpos
    have hgl := (hown.lt g0 rfl).2
    have c1 := hbox.cell; have d1 := hbox.frozen
    have HBX := Lib.hid hbox; have HOW := Lib.hid hown
    have hne' : g0 ≠ LB := fun e => hne (by simp [Value.ownBlock, e])
    have hlb := hbox.lt
    have HB := Lib.hid hB; have HK := Lib.hid hK; have HD := Lib.hid hD
    clear hB hK hD hS hty hT0 hbox hown hne hbx hB0 HI0 hll hcl HFL HX
    by_cases hgt : 50 < T0.length
    · have q1 : decide (50 < T0.length) = true := decide_eq_true hgt
      have HV := Lib.hid (show txtF (toL N) (toL S) (toL B) = T0.take 49 ++ [moreL (T0.length - 49)] from by rw [HTL.out]; unfold capT; rw [if_pos hgt])
      obtain ⟨F, hF⟩ : ∃ F, F = T0.take 49 := ⟨_, rfl⟩
      have hFl : F.length = 49 := by rw [hF, List.length_take]; omega
      have HOF := Lib.hid (show ∀ wx, Below W.heap.size W wx → wx.ownsRow w.heap.size 9 1 (.slice (some ⟨g0, 0, none⟩) 49 cap0) 49 (strsL F) from fun wx hb => by
        have h := own_take (own_below HOW.out hb) 49 (by omega)
        have e : (strsL T0).take 49 = strsL F := by rw [hF]; unfold strsL; rw [List.map_take]
        rw [e] at h; exact h)
      have HCX := Lib.hid (show ∀ wx, Below W.heap.size W wx → Boxed wx LB 77 (.slice (some ⟨g0, 0, none⟩) T0.length cap0) from fun wx hb => bx_below HBX.out hb)
      rw [← hF] at HV
      obtain ⟨dl, hdl0⟩ : ∃ dl : Nat, dl = T0.length - 49 := ⟨_, rfl⟩
      rw [← hdl0] at HV
      have HDG := Lib.hid (show ∀ wx, Below W.heap.size W wx → Calls Tryz.prog 48 #[.int .i64 ((T0.length : Int) - 49)] wx fun e w' => e = .returned (.string (ofL (decDigits dl))) ∧ Below wx.heap.size wx w' from fun wx hb => by rw [show (T0.length : Int) - 49 = (dl : Int) from by omega]; exact asc_digits dl (by omega) wx (HTN.out.below (HB.out.trans (hb.mono HB.out.size))))
      have hDs : (ofL (decDigits dl)).size ≤ 20 := by rw [ofL_size]; have := dec_len_lt 19 dl (by omega); omega
      have hs8 : ((⟨#[46, 46, 46, 32, 97, 110, 100, 32]⟩ : ByteArray) ++ ofL (decDigits dl)).size ≤ 28 := by rw [ByteArray.size_append]; show 8 + _ ≤ _; omega
      have k8 : ¬ 9223372036854775807 < 8 + (ofL (decDigits dl)).size := by omega
      have k9 : ¬ 9223372036854775807 < 8 + (ofL (decDigits dl)).size + 11 := by omega
      have hs9 : (((⟨#[46, 46, 46, 32, 97, 110, 100, 32]⟩ : ByteArray) ++ ofL (decDigits dl)) ++ ⟨#[32, 109, 111, 114, 101, 32, 108, 105, 110, 101, 115]⟩).size ≤ 39 := by rw [ByteArray.size_append]; show _ + 11 ≤ _; omega
      obtain ⟨i0, z0, hi0, hz0, hz1, hz2, hzs⟩ := el_str4.info
      have m1 : (49 : Int) ≤ (cap0 : Int) := by omega
      clear hF hdl0
      gi_wp2
      rw [wpIn_wide]
      refine wp_normal ?_
      have HWD := Lib.hid (show Below W.heap.size W W.drew from (Below.refl _ _).drew)
      go_region_law (first
        | (refine step_append_lies _ (by rfl) _ _ _ (by rfl) w.heap.size 9 i0 _ 1 _ el_str4.under hi0 hz0 hz1 hz2 hzs (by omega) (.slice (some ⟨g0, 0, none⟩) 49 cap0) _ (strsL F) (by rfl) ((HOF.out w5 HB5.out).alloc _)
              ⟨w5.heap.size, 0, none⟩ 1 1 [.string ((⟨#[46, 46, 46, 32, 97, 110, 100, 32]⟩ ++ ofL (decDigits dl)) ++ ⟨#[32, 109, 111, 114, 101, 32, 108, 105, 110, 101, 115]⟩)] (by rfl) (by rfl) (World.news_of_block (cs := #[.string ((⟨#[46, 46, 46, 32, 97, 110, 100, 32]⟩ ++ ofL (decDigits dl)) ++ ⟨#[32, 109, 111, 114, 101, 32, 108, 105, 110, 101, 115]⟩)]) (t := 9) (fr := (0, 0)) (heap_alloc_new w5 _)) (by simp [Value.oneCell'])
              (by omega) (by unfold maxLen; omega) (by omega) (by simp; omega) (w5.heap.size + 1) (by simp) ?_
           intro gg cap w7 hown7 hgrow hat hlt1
           have HB7 := Lib.hid ((hgrow.block LB (by simp; omega) (fun e => hne' (by simpa [Value.ownBlock] using e.symm))).trans ((Lib.alloc_old w5 _ LB (by omega)).trans (HCX.out w5 HB5.out)))
           have c7 : w7.cell? ⟨LB, 0, none⟩ = some (.slice (some ⟨g0, 0, none⟩) T0.length cap0) := by rw [Lib.cell_of_heap HB7.out]; rfl
           have d7 : w7.frozen? ⟨LB, 0, none⟩ = false := Lib.frozen_of_heap HB7.out 0)
        | (go_simp; go_at_call 48; (with_reducible refine (HDG.out _ HWD.out).mono ?_); rintro e w5 ⟨rfl, hb5⟩; have HB5 := Lib.hid (HWD.out.trans (hb5.mono HWD.out.size)); have c5 := (HCX.out w5 HB5.out).cell; have d5 := (HCX.out w5 HB5.out).frozen; have z5 := HB5.out.size; have lb5 := Nat.lt_of_lt_of_le hlb z5; clear hb5))
      all_goals
        have hgL : gg ≠ LB := by
          rcases hat with h | h
          · have : g0 = gg := by simpa [Value.ownBlock] using h
            omega
          · omega
        have hDg : D ≠ g0 := fun e => by
          subst e
          rcases HOW.out.2 with h2 | ⟨g, cap, cur, hv, hg', hh, r⟩
          · obtain ⟨h2, _⟩ := h2; cases h2
          · injection hv with hv; injection hv with hv; injection hv with hv
            subst hv
            rw [HK.out] at hh; cases hh
        have hDL : D ≠ LB := fun e => by
          subst e
          have : W.heap[D]? = some (.cells #[_] 77 (0, 0)) := HBX.out
          rw [HK.out] at this; cases this
        have hDW := heap_lt HK.out
        have HK8 := Lib.hid (show (w7.setCell ⟨LB, 0, none⟩ (.slice (some ⟨gg, 0, none⟩) (49 + 1) cap)).heap[D]? = some (.deferred (some [])) from
          (Below.heap_setCell _ _ _ _ hDL).trans ((hgrow.block D (by simp; omega) (fun e => hDg (by simpa [Value.ownBlock] using e))).trans ((Lib.alloc_old w5 _ D (by omega)).trans ((HB5.out.block D hDW).trans HK.out))))
        have HB8 := Lib.hid (show Below w.heap.size w (w7.setCell ⟨LB, 0, none⟩ (.slice (some ⟨gg, 0, none⟩) (49 + 1) cap)) from
          (((HB.out.trans (HB5.out.mono HB.out.size)).alloc (by omega) _).grown hgrow (by simp; omega) (fun k hk => Nat.le_trans hg0 (Nat.le_of_eq (show g0 = k by simpa [Value.ownBlock] using hk)))).setCell (p := ⟨LB, 0, none⟩) (by show w.heap.size ≤ LB; omega) _)
        have HX8 := Lib.hid (show Boxed (w7.setCell ⟨LB, 0, none⟩ (.slice (some ⟨gg, 0, none⟩) (49 + 1) cap)) LB 77 (.slice (some ⟨gg, 0, none⟩) (49 + 1) cap) from (show Boxed w7 LB 77 _ from HB7.out).set _)
        have HO8 := Lib.hid (show (w7.setCell ⟨LB, 0, none⟩ (.slice (some ⟨gg, 0, none⟩) (49 + 1) cap)).ownsRow w.heap.size 9 1 (.slice (some ⟨gg, 0, none⟩) (49 + 1) cap) (F ++ [moreL dl]).length (strsL (F ++ [moreL dl])) from by
          have h := own_other (B := LB) (i := 0) hown7 (by simp [Value.ownBlock]; exact hgL) (.slice (some ⟨gg, 0, none⟩) (49 + 1) cap)
          have e1 : (F ++ [moreL dl]).length = 49 + 1 := by simp [hFl]
          have e2 : strsL (F ++ [moreL dl]) = strsL F ++ [.string ((⟨#[46, 46, 46, 32, 97, 110, 100, 32]⟩ ++ ofL (decDigits dl)) ++ ⟨#[32, 109, 111, 114, 101, 32, 108, 105, 110, 101, 115]⟩)] := by
            simp only [strsL, List.map_append, List.map_cons, List.map_nil]
            congr 2
            first | done | (refine congrArg Value.string (toL_inj ?_); first | done | simp [toL, ofL, moreL])
          rw [e1, e2]; exact h)
        clear hown7 hgrow hat HB7 c7 d7
        generalize w7.setCell ⟨LB, 0, none⟩ (.slice (some ⟨gg, 0, none⟩) (49 + 1) cap) = w8 at *
        have c8 := HX8.out.cell
        gi_wp2
        refine ⟨by simp, .inl ⟨_, _, rfl, run_takeDeferred HK8.out, ?_⟩⟩
        exact ⟨_, results_tmp rfl _ _ _, ⟨_, rfl, by rw [HV.out]; exact ⟨own_keep HO8.out (grownBy_putObj' w8 D (.deferred none)) (fun r e => by cases e; exact ⟨_, HK8.out, rfl⟩), HB8.out.trans (belowK_b (w := w) (Nat.le_refl _) w8 D _ _ (by have := HD.out; omega) HK8.out rfl rfl)⟩⟩⟩
    · have q1 : decide (50 < T0.length) = false := decide_eq_false hgt
      have HV := Lib.hid (show txtF (toL N) (toL S) (toL B) = T0 from by rw [HTL.out]; unfold capT; rw [if_neg hgt])
      gi_wp2
      refine ⟨by simp, .inl ⟨_, _, rfl, run_takeDeferred HK.out, ?_⟩⟩
      exact ⟨_, results_tmp rfl _ _ _, ⟨_, rfl, by rw [HV.out]; exact ⟨own_keep HOW.out (grownBy_putObj' W D (.deferred none)) (fun r e => by cases e; exact ⟨_, HK.out, rfl⟩), HB.out.trans (belowK_b (w := w) (Nat.le_refl _) W D _ _ (by have := HD.out; omega) HK.out rfl rfl)⟩⟩⟩
  case stop =>
    rintro D c pre W _ _ h _
    exact h.elim
end Go.Proofs.YtghjgbkhhoaebaaGreatDoor
