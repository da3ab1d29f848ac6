/- For every string, ArticleParses returns true: Parse answers as the reference on the first 5000 bytes; what was parsed is printed and parsed again alike. No condition. -/
import Derived.Test.YtcohgjdijhogbaaGreatPt22
import Derived.Test.YtcohgjdijhogbaaGreatRefPa
import Derived.Test.YtcohgjdijhogbaaGreatSame15
import Derived.Test.YtcohgjdijhogbaaGreatParL
import Derived.Test.YtcohgjdijhogbaaGreatPt23
import Derived.HandedShaped
namespace Go.Proofs.YtcohgjdijhogbaaGreat
set_option linter.unusedSimpArgs false
set_option linter.unusedVariables false
open Go.ChangeShapes Go.WideShapes Go.ChangeAt Go.RowKit
open Go.ChangeMaps (open_string shut_string)

/-- A struct of a slice and a string in a block of its own, and the slice's row. -/
structure ABox (w : World) (r : Nat) (t : TypeId) (A : Option Addr) (l : List Fd) (c : Nat) (b : ByteArray) : Prop where
  box : w.heap[r]? = some (.cells #[.slice A l.length c, .string b] t (0, 0))
  row : Row w A (fldsV l)
theorem ABox.later {w w' : World} {r : Nat} {t : TypeId} {A : Option Addr} {l : List Fd} {c : Nat} {b : ByteArray} (h : ABox w r t A l c b) (hb : Below w.heap.size w w') : ABox w' r t A l c b :=
  ⟨(hb.block _ (heap_lt h.box)).trans h.box, h.row.below hb⟩
theorem ABox.c0 {w : World} {r : Nat} {t : TypeId} {A : Option Addr} {l : List Fd} {c : Nat} {b : ByteArray} (h : ABox w r t A l c b) : w.cell? ⟨r, 0, none⟩ = some (.slice A l.length c) := by rw [Lib.cell_of_heap h.box]; rfl
theorem ABox.c1 {w : World} {r : Nat} {t : TypeId} {A : Option Addr} {l : List Fd} {c : Nat} {b : ByteArray} (h : ABox w r t A l c b) : w.cell? ⟨r, 1, none⟩ = some (.string b) := by rw [Lib.cell_of_heap h.box]; rfl
theorem ABox.new {w1 : World} {t : TypeId} {A : Option Addr} {l : List Fd} {c : Nat} {b : ByteArray} (h : Row w1 A (fldsV l)) : ABox (w1.alloc (.cells #[.slice A l.length c, .string b] t)) w1.heap.size t A l c b :=
  ⟨World.alloc_heap_new _ _, h.below ((Below.refl _ _).alloc (Nat.le_refl _) _)⟩

set_option maxHeartbeats 16000000 in
set_option maxRecDepth 100000 in
theorem ArticleParses_walk (a : ByteArray) (ha : a.size ≤ maxLen) (w : World) (hsh : w.ShapedOpen Tryz.prog) :
    Calls Tryz.prog 3 #[.string a] w fun e w' => e = .returned (.bool true) ∧ Below w.heap.size w w' := by
  have HSH := Lib.hid hsh; clear hsh
  have HS := Lib.hid (fun wx => law_short a ha 5000 5000 rfl wx (by omega))
  have hx := short_size a 5000
  generalize a.extract 0 (min a.size 5000) = x at *
  have HA := Lib.hid (fun wx hw => art_parse x wx hw (by omega))
  have HN := Lib.hid (fun wx => rf_parse15 x wx (by omega))
  unfold ArtPost at HA
  unfold RArtPost at HN
  have HML := Lib.hid (parF_mild (toL x))
  have HLN := Lib.hid (parF_len (toL x))
  have HAT := Lib.hid (parF_at (toL x))
  have HAG := Lib.hid (par_again (toL x) (by rw [toL_length]; omega))
  have HX := Lib.hid (toL_length x)
  generalize parF (toL x) = P at *
  obtain ⟨fs, bd, at_, e0⟩ := P
  simp only at HA HN HML HLN HAT HAG
  obtain ⟨B, hB⟩ : ∃ B, B = ofL bd := ⟨_, rfl⟩
  have HB := Lib.hid (show bd = toL B from by rw [hB, toL_ofL])
  have hBs : B.size ≤ 5000 := by have := HLN.out.2; rw [HX.out] at this; rw [hB, ofL_size]; omega
  rw [← hB] at HA HN
  clear hB
  have hfl : fs.length ≤ 64 := HLN.out.1
  go_enter Tryz.func3, Tryz.ntmps3
  go_wp2_with ((go_at_call 6; (with_reducible refine (HS.out _).mono ?_); rintro e w' ⟨rfl, rfl⟩))
  (with_reducible refine (HA.out _ HSH.out).mono ?_)
  rintro e w1 ⟨v1, rfl, hown1, hb1⟩
  obtain ⟨A1, c1, rfl, hc1, hr1⟩ := own_row_cap hown1
  have HX1 := Lib.hid (ABox.new (t := 25) (c := c1) (b := B) hr1)
  have HB1 := Lib.hid ((hb1.alloc hb1.size (.cells #[.slice A1 fs.length c1, .string B] 25)))
  clear hown1 hb1 hr1
  go_wp2_with fail
  generalize w1.alloc (.cells #[.slice A1 fs.length c1, .string B] 25) = X1 at *
  generalize w1.heap.size = r1 at *
  (with_reducible refine (HN.out _).mono ?_)
  rintro e w2 ⟨v2, rfl, hown2⟩
  obtain ⟨A2, c2, rfl, hc2, hr2⟩ := own_row_cap hown2.own
  have HX2 := Lib.hid (ABox.new (t := 31) (c := c2) (b := B) hr2)
  have hb2 : Below X1.heap.size X1 (w2.alloc (.cells #[.slice A2 fs.length c2, .string B] 31)) := hown2.bel.alloc hown2.bel.size _
  have HX1b := Lib.hid (HX1.out.later hb2)
  have HB2 := Lib.hid (HB1.out.trans (hb2.mono HB1.out.size))
  clear hown2 hb2 hr2 HX1 HB1
  go_wp2_with fail
  generalize w2.alloc (.cells #[.slice A2 fs.length c2, .string B] 31) = X2 at *
  generalize w2.heap.size = r2 at *
  (with_reducible refine (art_known X2 (shaped_below HSH.out HB2.out)).mono ?_)
  rintro e w3 ⟨rfl, hb3⟩
  have HX1c := Lib.hid (HX1b.out.later hb3)
  have HX2c := Lib.hid (HX2.out.later hb3)
  have HB3 := Lib.hid (HB2.out.trans (hb3.mono HB2.out.size))
  have k0 := HX1c.out.c0
  have k1 := HX1c.out.c1
  have k2 := HX2c.out.c0
  have k3 := HX2c.out.c1
  clear hb3 HX1b HX2 HB2
  have HSM := Lib.hid (law_same A1 A2 fs fs c1 c2 B B w3 HX1c.out.row HX2c.out.row (by omega) (by omega))
  rw [show decide (fs = fs ∧ toL B = toL B) = true from decide_eq_true ⟨rfl, rfl⟩] at HSM
  go_wp2_with fail
  (with_reducible refine HSM.out.mono ?_)
  rintro e w4 ⟨rfl, hb4⟩
  have HX1d := Lib.hid (HX1c.out.later hb4)
  have HX2d := Lib.hid (HX2c.out.later hb4)
  have HB4 := Lib.hid (HB3.out.trans (hb4.mono HB3.out.size))
  clear hb4 HX1c HX2c HB3 k0 k1 k2 k3
  by_cases he : e0 = 0
  · subst he
    have hag := HAG.out rfl
    obtain rfl := HAT.out rfl
    have d0 := HX1d.out.c0
    have d1 := HX1d.out.c1
    have HPR := Lib.hid (fun wx hw hr => art_print A1 fs c1 B wx hw hr HML.out (by omega))
    rw [← HB.out] at HPR
    have hpl := priF_le fs bd
    generalize priF fs bd = T at *
    obtain ⟨tt, te⟩ := T
    simp only at HPR hpl hag
    obtain ⟨Q, hQ⟩ : ∃ Q, Q = ofL tt := ⟨_, rfl⟩
    have HQ := Lib.hid (show tt = toL Q from by rw [hQ, toL_ofL])
    have hQs : Q.size ≤ 65536 := by rw [hQ, ofL_size]; exact hpl
    rw [← hQ] at HPR
    clear hQ hpl
    have HPA := Lib.hid (fun wx hw => art_parse Q wx hw (by omega))
    unfold ArtPost at HPA
    rw [← HQ.out] at HPA
    go_wp2_with fail
    (with_reducible refine (HPR.out _ (shaped_below HSH.out HB4.out) HX1d.out.row).mono ?_)
    rintro e w5 ⟨rfl, hb5⟩
    have HX2e := Lib.hid (HX2d.out.later hb5)
    have HB5 := Lib.hid (HB4.out.trans (hb5.mono HB4.out.size))
    clear hb5 HX1d HX2d HB4 d0 d1
    go_wp2_with fail
    (with_reducible refine (HPA.out _ (shaped_below HSH.out HB5.out)).mono ?_)
    rcases hag with h5 | ⟨h0, hp⟩
    · subst h5
      generalize parF tt = P2 at *
      obtain ⟨f2, b2, a2, e2⟩ := P2
      rintro e w6 ⟨v6, rfl, hown6, hb6⟩
      obtain ⟨A6, c6, rfl, _, _⟩ := own_row_cap hown6
      have HB6 := Lib.hid (HB5.out.trans ((hb6.alloc hb6.size (.cells #[.slice A6 f2.length c6, .string (ofL b2)] 25)).mono HB5.out.size))
      clear hb6 hown6
      go_wp2_with fail
      go_ret
      exact ⟨rfl, HB6.out⟩
    · subst h0
      rw [hp]
      simp only
      rintro e w6 ⟨v6, rfl, hown6, hb6⟩
      obtain ⟨A6, c6, rfl, _, hr6⟩ := own_row_cap hown6
      rw [HB.out, ofL_toL]
      have HX6 := Lib.hid (ABox.new (t := 25) (c := c6) (b := B) hr6)
      have hb6' := hb6.alloc hb6.size (.cells #[.slice A6 fs.length c6, .string B] 25)
      have HX2f := Lib.hid (HX2e.out.later hb6')
      have HB6 := Lib.hid (HB5.out.trans (hb6'.mono HB5.out.size))
      clear hb6 hb6' hown6 hr6
      have m0 := HX6.out.c0
      have m1 := HX6.out.c1
      have m2 := HX2f.out.c0
      have m3 := HX2f.out.c1
      go_wp2_with fail
      (with_reducible refine (law_same A6 A2 fs fs c6 c2 B B _ HX6.out.row HX2f.out.row (by omega) (by omega)).mono ?_)
      rintro e w7 ⟨rfl, hb7⟩
      rw [show decide (fs = fs ∧ toL B = toL B) = true from decide_eq_true ⟨rfl, rfl⟩]
      have HB7 := Lib.hid (HB6.out.trans (hb7.mono HB6.out.size))
      go_wp2_with fail
      go_ret
      exact ⟨rfl, HB7.out⟩
  · have e1 : (e0 != 0) = true := by simp [bne, he]
    clear he
    go_wp2_with fail
    go_ret
    exact ⟨rfl, HB4.out⟩

set_option maxRecDepth 100000 in
theorem ArticleParses_lifted (os : Os) (started : os.Started) (H : Type) (enc : TypeId × Value → H) :
    ReturnsInHanded {} Tryz.checked os 3 .any (Rows.articleParsesSpec.pre6 enc Tryz.prog Tryz.f3 Rows.articleParsesRow.domain false) (Rows.articleParsesSpec.post enc Tryz.prog Tryz.f3 false true false false) := by
  refine returnsInHanded_of_change_shaped (C := Tryz.checked) own started (by kernel_rfl) Tryz.func3
    (ChangeSpec.witness6 (enc := enc) (C := Tryz.checked) false ⟨#[], #[.string ByteArray.empty], []⟩ 8 (by kernel_rfl) (by kernel_rfl) (by kernel_rfl) (by kernel_rfl)) ?_
  intro W base args ds gs before hval0 hW hcnd _ hsh _
  have hval : ∀ (j : Nat) t v, Tryz.f3.params[j]? = some t → args[j]? = some v → Value.okWide Tryz.prog W .any base t v := hval0
  have hW' := hW
  obtain ⟨p, q, hA0, hV, rfl, hfz, hnd⟩ := hW
  have hplt : ∀ x ∈ p, x.block < W.heap.size := fun x hx => hW'.lt x (by simp [hx])
  have hA : DataW.TrodAll enc Tryz.prog W 0 (fun _ => true) true Tryz.f3.params.toList args.toList ds p := hA0
  rw [Tryz.params3] at hA hval
  obtain ⟨v0, vs0, d0, ds0, p0, q0, hargs, rfl, rfl, h0, r0⟩ := trodAll_cons hA
  obtain ⟨rfl, rfl, rfl⟩ := trodAll_nil r0
  obtain rfl : args = #[v0] := by cases args; simp_all
  obtain ⟨rfl, rfl⟩ := trodVars_none hV
  obtain ⟨a0, rfl, rfl, rfl, w0⟩ := open_string Tryz.underlying9 (hval 0 9 v0 rfl rfl) h0
  refine (ArticleParses_walk a0 w0 W hsh).mono fun e W' ⟨he, hg⟩ => ?_
  subst he
  exact ⟨_, rfl, law_post hW' rfl rfl rfl (by decide +kernel) hg⟩

theorem ArticleParses_over : Rows.articleParsesRow.holds Tryz.pinned (OpenSpec.ofChange Rows.articleParsesSpec) :=
  OpenClaim.holds_of_wide 3 Tryz.f3 rfl rfl rfl rfl rfl rfl rfl ⟨rfl, rfl, rfl, rfl, rfl⟩ rfl rfl rfl rfl rfl (by kernel_rfl) Tryz.func3 (by kernel_rfl)
    (of_decide_eq_true (by kernel_rfl)) (by unfold Func.isWrapper; first | (rw [if_pos (by decide +kernel)]; kernel_rfl) | (rw [if_neg (by decide +kernel)]; exact ⟨rfl, rfl⟩))
    (fun os started H enc _ => ArticleParses_lifted os started H enc)

theorem ArticleParses_proved : Rows.ArticleParsesSaid := ArticleParses_over
end Go.Proofs.YtcohgjdijhogbaaGreat
