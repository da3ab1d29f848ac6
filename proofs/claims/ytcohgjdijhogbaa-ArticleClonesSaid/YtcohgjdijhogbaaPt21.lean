/- Lemmas and walks, part 21. -/
import Derived.Test.YtcohgjdijhogbaaPt20
import Derived.Laws.EntriesVeiled
namespace Go.Proofs.Ytcohgjdijhogbaa
set_option linter.unusedSimpArgs false
set_option linter.unusedVariables false
open Go.RowKit Go.Shelf
attribute [local go_sem] Oper.semAt_some

theorem quo_cat1 (x : ByteArray) : (⟨#[62]⟩ : ByteArray) ++ x = ofL (62 :: toL x) := by rw [← ofL_toL x, show (⟨#[62]⟩ : ByteArray) = ofL [62] from rfl, ofL_append, toL_ofL]; rfl
theorem quo_cat2 (x : ByteArray) : (⟨#[62, 32]⟩ : ByteArray) ++ x = ofL (62 :: 32 :: toL x) := by rw [← ofL_toL x, show (⟨#[62, 32]⟩ : ByteArray) = ofL [62, 32] from rfl, ofL_append, toL_ofL]; rfl
set_option maxRecDepth 100000 in
set_option maxHeartbeats 4000000 in
theorem art_quoted (x : ByteArray) (w : World) (hs : x.size ≤ 1000000) : Calls Try.prog 37 #[.string x] w fun e w' => e = .returned (.string (ofL (quoL (toL x)))) ∧ w = w' := by
  have HLV := Lib.hid (fun wx => art_level x wx hs)
  have HC1 := Lib.hid (quo_cat1 x); have HC2 := Lib.hid (quo_cat2 x)
  have hnl := levN_le x
  by_cases h0 : x.size = 0
  · have HV := Lib.hid (show ofL (quoL (toL x)) = (⟨#[62]⟩ : ByteArray) ++ x from by rw [HC1.out]; unfold quoL; rw [if_pos (.inl (toL_nil h0))])
    have hE := toList_nil h0
    rw [HV.out]
    generalize levN (toL x) = nl at *
    generalize levR (toL x) = rl at *
    clear h0
    go_enter Try.func37, Try.ntmps37
    go_wp2_with ((go_at_call 19; (with_reducible refine (HLV.out _).mono ?_); rintro e w' ⟨rfl, rfl⟩))
    go_ret
    exact ⟨rfl, rfl⟩
  · have hE := toList_cons h0
    have hne : toL x ≠ [] := fun e => h0 (by rw [← toL_length, e]; rfl)
    by_cases hl : 0 < levN (toL x)
    · have HV := Lib.hid (show ofL (quoL (toL x)) = (⟨#[62]⟩ : ByteArray) ++ x from by rw [HC1.out]; unfold quoL; rw [if_pos (.inr hl)])
      rw [HV.out]
      have hl' : (0 : Int) < (levN (toL x) : Int) := by omega
      generalize levN (toL x) = nl at *
      generalize levR (toL x) = rl at *
      clear h0 hne hl
      go_enter Try.func37, Try.ntmps37
      go_wp2_with ((go_at_call 19; (with_reducible refine (HLV.out _).mono ?_); rintro e w' ⟨rfl, rfl⟩))
      go_ret
      exact ⟨rfl, rfl⟩
    · have HV := Lib.hid (show ofL (quoL (toL x)) = (⟨#[62, 32]⟩ : ByteArray) ++ x from by rw [HC2.out]; unfold quoL; rw [if_neg (by rintro (h | h); exact hne h; exact hl h)])
      rw [HV.out]
      have hl' : (levN (toL x) : Int) ≤ 0 := by omega
      have hl2 : decide ((0 : Int) < (levN (toL x) : Int)) = false := by simp; omega
      generalize levN (toL x) = nl at *
      generalize levR (toL x) = rl at *
      clear h0 hne hl
      go_enter Try.func37, Try.ntmps37
      go_wp2_with ((go_at_call 19; (with_reducible refine (HLV.out _).mono ?_); rintro e w' ⟨rfl, rfl⟩))
      go_ret
      exact ⟨rfl, rfl⟩

/-- Between two lines of Quote. -/
structure QuI (b n : Nat) (pre : List (LnT 10000)) (W : World) : Prop where
  on : QuoOn (txL pre)
  r1 : Boxed W b 9 (.string ⟨#[]⟩)
  r2 : Boxed W (b + 1) 23 (.int .i64 0)
  fn : Boxed W n 68 (.func (.func 37) #[] #[])
  bd : Lib.IsBuilder 72 5 (n + 1) (n + 1) (Lib.byteCells (quoT (txL pre))) W
  sz : n + 1 ≤ W.heap.size
structure QuX (b : Nat) (c : Code) (pre : List (LnT 10000)) (W : World) : Prop where
  ret : c = .ret
  stop : QuoEnd (txL pre)
  r1 : Boxed W b 9 (.string ⟨#[]⟩)
  r2 : Boxed W (b + 1) 23 (.int .i64 5)
theorem QuI.own (b n : Nat) : Own (QuI b n) := fun _ _ _ _ hs hg hr => ⟨hs.on, bx_own hs.r1 hg hr, bx_own hs.r2 hg hr, bx_own hs.fn hg hr, bld_own hs.bd hg hr, Nat.le_trans hs.sz hg.size⟩
theorem QuX.own (b : Nat) (c : Code) : Own (QuX b c) := fun _ _ _ _ hs hg hr => ⟨hs.ret, hs.stop, bx_own hs.r1 hg hr, bx_own hs.r2 hg hr⟩
set_option maxRecDepth 100000 in
set_option maxHeartbeats 4000000 in
theorem art_quote (s : ByteArray) (w : World) (hsh : w.ShapedOpen Try.prog) (hs : s.size ≤ 10000) : Calls Try.prog 17 #[.string s] w fun e w' => e = .returned (.tuple #[.string (ofL (quoF (toL s)).1), .int .i64 (quoF (toL s)).2]) ∧ Below w.heap.size w w' := by
  have HSH := Lib.hid hsh; clear hsh
  have HL := Lib.hid (toL_length s)
  have HV0 := Lib.hid (show quoF (toL s) = if (bodyF (toL s)).2 ≠ 0 then ([], (bodyF (toL s)).2) else quoGo (linesF (toL s)) [] from rfl)
  refine (callsIn_wide (n := 10)).1 ?_
  refine callsIn_of_wp_marks Try.func17 rfl trivial ?_ rfl
  simp only [Try.ntmps17, List.size_toArray, List.length_cons, List.length_nil, Nat.reduceAdd, Nat.reduceSub, Array.replicate_succ, Array.replicate_zero, List.push_toArray, List.append_toArray, List.nil_append, List.cons_append]
  have HBD := Lib.hid (fun wx hx => art_body s wx hx (by omega))
  have g1 : Boxed ((w.alloc (.cells #[.string ⟨#[]⟩] 9)).alloc (.cells #[.int .i64 0] 23)) w.heap.size 9 (.string ⟨#[]⟩) := (bx_new _ _ rfl).alloc _
  have g2 : Boxed ((w.alloc (.cells #[.string ⟨#[]⟩] 9)).alloc (.cells #[.int .i64 0] 23)) (w.heap.size + 1) 23 (.int .i64 0) := bx_new _ _ (by simp)
  have hBa : Below w.heap.size w ((w.alloc (.cells #[.string ⟨#[]⟩] 9)).alloc (.cells #[.int .i64 0] 23)) := ((Below.refl _ _).alloc (Nat.le_refl _) _).alloc (by simp) _
  have hza : ((w.alloc (.cells #[.string ⟨#[]⟩] 9)).alloc (.cells #[.int .i64 0] 23)).heap.size = w.heap.size + 2 := by simp
  have G1 := Lib.hid g1; have G2 := Lib.hid g2; have HBa := Lib.hid hBa; have HZa := Lib.hid hza
  clear g1 g2 hBa hza
  by_cases he : (bodyF (toL s)).2 = 0
  · have HE0 := Lib.hid he
    clear HV0
    generalize bodyF (toL s) = bf at HBD he
    obtain ⟨bn, be⟩ := bf
    simp only at he HBD
    subst he
    gi_wp2_with (first | (refine ⟨trivial, ?_⟩; gi_at_call 11; refine (callsIn_wide.2 (HBD.out _ (shaped_below HSH.out HBa.out))).mono ?_; rintro e w1 ⟨rfl, hb1⟩) | (refine ⟨trivial, ?_⟩; gi_at_call 15; refine (art_lines s _ _).mono ?_; rintro e w' ⟨rfl, rfl⟩))
    have hBw : Below w.heap.size w w1 := HBa.out.trans (hb1.mono HBa.out.size)
    have hz1 : w.heap.size + 2 ≤ w1.heap.size := by have := hb1.size; rw [HZa.out] at this; exact this
    have f1 := bx_below G1.out hb1
    have f2 := bx_below G2.out hb1
    have HI0 := Lib.hid (show QuI w.heap.size w1.heap.size [] (((w1.alloc (.cells #[.func (.func 37) #[] #[]] 68)).alloc (.cells #[.pointer none, .slice none 0 0] 72)).alloc (.cells #[.string s] 9)) from
      ⟨QuoOn.nil, ((f1.alloc _).alloc _).alloc _, ((f2.alloc _).alloc _).alloc _, ((bx_new _ _ rfl).alloc _).alloc _, bld_below (bld_new _ _ (by simp)) ((Below.refl _ _).alloc (Nat.le_refl _) _), by simp⟩)
    have hB0 : Below w.heap.size w (((w1.alloc (.cells #[.func (.func 37) #[] #[]] 68)).alloc (.cells #[.pointer none, .slice none 0 0] 72)).alloc (.cells #[.string s] 9)) := ((hBw.alloc (by omega) _).alloc (by simp; omega) _).alloc (by simp; omega) _
    have hbx : Boxed (((w1.alloc (.cells #[.func (.func 37) #[] #[]] 68)).alloc (.cells #[.pointer none, .slice none 0 0] 72)).alloc (.cells #[.string s] 9)) (w1.heap.size + 1 + 1) 9 (.string s) := bx_new _ _ (by simp)
    have hz0 : (((w1.alloc (.cells #[.func (.func 37) #[] #[]] 68)).alloc (.cells #[.pointer none, .slice none 0 0] 72)).alloc (.cells #[.string s] 9)).heap.size = w1.heap.size + 3 := by simp
    clear hBw hb1 HBD f1 f2
    generalize ((w1.alloc (.cells #[.func (.func 37) #[] #[]] 68)).alloc (.cells #[.pointer none, .slice none 0 0] 72)).alloc (.cells #[.string s] 9) = X at *
    generalize w1.heap.size = n1 at *
    have hwn : w.heap.size ≤ n1 := by omega
    refine wpIn_rangeFunc_ownG (a₁ := ?a1) rfl (by omega) (gf := 35) (lb := #[.pointer (some ⟨n1 + 1 + 1, 0, none⟩)]) rfl trivial (enters_of Try.func35 (by kernel_rfl) rfl)
      (lines_stops _ (by omega) w X HSH.out hB0 (n1 + 1 + 1) hbx.lt s (by omega) hs hbx.cell) belowK_t (belowK_b (by omega)) (Below.refl _ _) (fun _ => rfl)
      (fun pre W => QuI w.heap.size n1 pre W ∧ Below w.heap.size w W)
      (fun c pre W => QuX w.heap.size c pre W ∧ Below w.heap.size w W)
      (OwnFrom.and (Own.from (QuI.own _ _) _) (ownFrom_below (Nat.le_refl _) (by omega)))
      (fun c => OwnFrom.and (Own.from (QuX.own _ _) _) (ownFrom_below (Nat.le_refl _) (by omega)))
      ⟨HI0.out, hB0⟩ ?assign ?body ?done ?stop
    case assign =>
      intro l x W K hK
      gi_wp2
      exact hK
    case body =>
      rintro l pre ⟨⟨o, x⟩, hx⟩ W ⟨hI, hB⟩ hlen
      have HI := Lib.hid hI; have HB := Lib.hid hB
      have hx1 : x.size ≤ 10000 := hx.2
      have HTX := Lib.hid (show txL (pre ++ [⟨(o, x), hx⟩]) = txL pre ++ [toL x] from txL_snoc _ _)
      have HXL := Lib.hid (toL_length x)
      have HSN := Lib.hid (quoT_snoc (txL pre) (toL x))
      have hle : (quoT (txL pre)).length ≤ 110000000 := Nat.le_trans (quoT_le pre) (by have : pre.length * (10000 + 3) ≤ 10001 * (10000 + 3) := Nat.mul_le_mul_right _ (by omega); omega)
      have hq := quoL_le (toL x)
      rw [HXL.out] at hq
      have hqs : (ofL (quoL (toL x))).size = (quoL (toL x)).length := ofL_size _
      have c1 := hI.r1.cell; have d1 := hI.r1.frozen
      have c2 := hI.r2.cell; have d2 := hI.r2.frozen
      have c3 := hI.fn.cell
      have HQL := Lib.hid (fun wx => art_quoted x wx (by omega))
      clear hI hB hbx hB0 hlen HI0
      obtain ⟨q, hqq⟩ : ∃ q, q = ofL (quoL (toL x)) := ⟨_, rfl⟩
      rw [← hqq] at HQL hqs
      have HQ := Lib.hid (show toL q = quoL (toL x) from by rw [hqq, toL_ofL])
      clear hqq
      dsimp only
      by_cases hn : 998 < q.size
      · have HN := Lib.hid (show QuoEnd (txL (pre ++ [⟨(o, x), hx⟩])) from by rw [HTX.out]; exact HI.out.on.stop (by omega))
        have hn' : (998 : Int) < (q.size : Int) := by omega
        clear hn hqs
        gi_wp2_with (first | (refine ⟨trivial, ?_⟩; gi_at_call 37; refine (CallsIn.inRound l (callsIn_wide.2 (HQL.out _))).mono ?_; rintro e w' ⟨rfl, rfl⟩))
        obtain ⟨p1, p2⟩ := bx_two (.string ⟨#[]⟩) (.int .i64 5) HI.out.r1 HI.out.r2
        exact ⟨keeps_two _ _ _ _ _ _, ⟨rfl, HN.out, p1, p2⟩, below_two HB.out (Nat.le_refl _) _ _⟩
      · have HON := Lib.hid (show QuoOn (txL (pre ++ [⟨(o, x), hx⟩])) from by rw [HTX.out]; exact HI.out.on.next (by omega))
        have HN := Lib.hid (show quoT (txL (pre ++ [⟨(o, x), hx⟩])) = (quoT (txL pre) ++ toL q) ++ toL (⟨#[10]⟩ : ByteArray) from by
          rw [HTX.out, HSN.out, HQ.out, List.append_assoc]; rfl)
        have hn' : (q.size : Int) ≤ 998 := by omega
        have HQS := Lib.hid (toL_length q)
        have HL1 := Lib.hid (show (quoT (txL pre) ++ toL q).length ≤ 120000000 from by rw [List.length_append, HQS.out]; omega)
        clear hn hqs
        gi_wp2_with (first | (refine ⟨trivial, ?_⟩; gi_at_call 37; refine (CallsIn.inRound l (callsIn_wide.2 (HQL.out _))).mono ?_; rintro e w' ⟨rfl, rfl⟩))
        refine ⟨trivial, CallsIn.mono (CallsIn.inRound l (callsIn_wide.2 (bld_write2 (n1 + 1) (n1 + 1) _ q W HI.out.bd (by omega) HI.out.sz))) ?_⟩
        rintro e W2 ⟨rfl, hbd2, hb2, hk2, ho2⟩
        have HBD2 := Lib.hid hbd2; have HB2 := Lib.hid hb2; have HK2 := Lib.hid hk2; have HO2 := Lib.hid ho2
        have hz2 := Nat.le_trans HI.out.sz hb2.size
        clear hbd2 hb2 hk2 ho2
        gi_wp2
        refine ⟨trivial, CallsIn.mono (CallsIn.inRound l (callsIn_wide.2 (bld_write2 (n1 + 1) (n1 + 1) _ ⟨#[10]⟩ W2 HBD2.out (by have := HL1.out; rw [one_size]; omega) hz2))) ?_⟩
        rintro e W3 ⟨rfl, hbd3, hb3, hk3, ho3⟩
        have HBD3 := Lib.hid hbd3; have HB3 := Lib.hid (HB2.out.trans hb3); have HK3 := Lib.hid (HK2.out.trans hk3); have HO3 := Lib.hid (HO2.out.trans ho3)
        clear hbd3 hb3 hk3 ho3
        gi_wp2
        exact ⟨HO3.out.from _, HB3.out.mono (by omega), ⟨HON.out, bx_but HI.out.r1 HK3.out (by decide) (by decide), bx_but HI.out.r2 HK3.out (by decide) (by decide), bx_but HI.out.fn HK3.out (by decide) (by decide), by rw [HN.out]; exact HBD3.out, Nat.le_trans HI.out.sz HB3.out.size⟩, HB.out.trans (HB3.out.mono (by omega))⟩
    case done =>
      rintro D ys W hD hS ⟨hI, hB⟩ hK
      have HQV := Lib.hid (quo_done hS HE0.out hI.on)
      have c1 := hI.r1.cell; have d1 := hI.r1.frozen
      have c2 := hI.r2.cell; have d2 := hI.r2.frozen
      have hbd := hI.bd
      have hsz := hI.sz
      have HI := Lib.hid hI; have HB := Lib.hid hB; have HK := Lib.hid hK
      clear hI hB hK hS hbx hB0 HI0
      have HCL := Lib.hid (Lib.byteCells_length (quoT (txL ys)))
      have HLEN := Lib.hid (fun wx hx => Try.Builder_Len (n1 + 1) (n1 + 1) (Lib.byteCells (quoT (txL ys))) wx hx)
      rw [HCL.out] at HLEN
      have HBD := Lib.hid hbd
      generalize hT : quoT (txL ys) = T at *
      clear hT
      by_cases hn : 65536 < T.length
      · have HV := Lib.hid (show quoF (toL s) = ([], 5) from by rw [HQV.out, if_pos hn])
        have hn' : (65536 : Int) < (T.length : Int) := by omega
        clear hn
        gi_wp2_with (refine ⟨trivial, ?_⟩; gi_at_call 39; refine (callsIn_wide.2 (HLEN.out _ HBD.out)).mono ?_; rintro e w2 ⟨rfl, rfl⟩)
        obtain ⟨p1, p2⟩ := bx_two (.string ⟨#[]⟩) (.int .i64 5) HI.out.r1 HI.out.r2
        have hK2 := ((KeepsOthers.setCell w2 ⟨w.heap.size, 0, none⟩ (.string ⟨#[]⟩)).trans (KeepsOthers.setCell _ ⟨w.heap.size + 1, 0, none⟩ (.int .i64 5))).same D _ HK.out rfl
        exact retBox2 rfl p1 p2 hK2 ⟨by rw [HV.out]; rfl, (below_two HB.out (Nat.le_refl _) _ _).trans (belowK_b (w := w) (Nat.le_refl _) _ D _ _ (by omega) hK2 rfl rfl)⟩ rfl rfl (run_isAgg_plain Try.underlying9 rfl) (run_isAgg_plain Try.underlying23 rfl)
      · have HV := Lib.hid (show quoF (toL s) = (T, 0) from by rw [HQV.out, if_neg hn])
        have hn' : (T.length : Int) ≤ 65536 := by omega
        clear hn
        gi_wp2_with (first | (refine ⟨trivial, ?_⟩; gi_at_call 39; refine (callsIn_wide.2 (HLEN.out _ HBD.out)).mono ?_; rintro e w2 ⟨rfl, rfl⟩) | (refine ⟨trivial, ?_⟩; gi_at_call 40; refine (callsIn_wide.2 (Try.Builder_String_any_k _ _ _ _ (Lib.IsBuilderF.of HBD.out) hsz)).mono ?_; rintro e w2 ⟨rfl, _, hb2, hok2⟩; have q1 := (hok2 _ _ HI.out.r1 (by simp; omega) (fun c fz e => by cases e)); have q2 := (hok2 _ _ HI.out.r2 (by simp; omega) (fun c fz e => by cases e)); have q3 := Boxed.cell q1; have q4 := Boxed.frozen q1; have q5 := Boxed.cell q2; have q6 := Boxed.frozen q2))
        have hKs := hok2 D _ HK.out (by simp; omega) (fun c fz e => by cases e)
        obtain ⟨p1, p2⟩ := bx_two (.string (ofL T)) (.int .i64 0) q1 q2
        have hK2 := ((KeepsOthers.setCell w2 ⟨w.heap.size, 0, none⟩ (.string (ofL T))).trans (KeepsOthers.setCell _ ⟨w.heap.size + 1, 0, none⟩ (.int .i64 0))).same D _ hKs rfl
        exact retBox2 rfl p1 p2 hK2 ⟨by rw [HV.out], (below_two (HB.out.trans (hb2.mono (by omega))) (Nat.le_refl _) _ _).trans (belowK_b (w := w) (Nat.le_refl _) _ D _ _ (by omega) hK2 rfl rfl)⟩ rfl rfl (run_isAgg_plain Try.underlying9 rfl) (run_isAgg_plain Try.underlying23 rfl)
    case stop =>
      rintro D c pre W hD hS ⟨⟨rfl, hst, h1, h2⟩, hB⟩ hK
      have HV := Lib.hid (quo_stop hS HE0.out hst)
      gi_wp2
      exact retBox2 rfl h1 h2 hK ⟨by rw [HV.out]; rfl, hB.trans (belowK_b (w := w) (Nat.le_refl _) W D _ _ (by omega) hK rfl rfl)⟩ rfl rfl (run_isAgg_plain Try.underlying9 rfl) (run_isAgg_plain Try.underlying23 rfl)
  · have HV := Lib.hid (show quoF (toL s) = ([], (bodyF (toL s)).2) from by rw [HV0.out, if_pos he])
    clear HV0
    generalize bodyF (toL s) = bf at *
    obtain ⟨bn, be⟩ := bf
    simp only at he HBD HV
    have e1 : (be != 0) = true := by simp [bne, he]
    clear he
    gi_wp2_with (refine ⟨trivial, ?_⟩; gi_at_call 11; refine (callsIn_wide.2 (HBD.out _ (shaped_below HSH.out HBa.out))).mono ?_; rintro e w1 ⟨rfl, hb1⟩; have q1 := (bx_below G1.out hb1).cell; have q2 := (bx_below G1.out hb1).frozen; have q3 := (bx_below G2.out hb1).cell; have q4 := (bx_below G2.out hb1).frozen)
    obtain ⟨p1, p2⟩ := bx_two (.string ⟨#[]⟩) (.int .i64 be) (bx_below G1.out hb1) (bx_below G2.out hb1)
    refine ⟨.tuple #[.string ⟨#[]⟩, .int .i64 be], ?_, by rw [HV.out]; rfl, below_two (HBa.out.trans (hb1.mono HBa.out.size)) (Nat.le_refl _) _ _⟩
    have r1 := p1.cell; have r2 := p2.cell
    simp [results, Try.f17, go_sem, r1, r2]
end Go.Proofs.Ytcohgjdijhogbaa
