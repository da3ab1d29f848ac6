/- For every article whose values and letters are together at most 1048576, ArticlePrints returns true: Print and Check answer as the reference, and Parse undoes Print. No other condition. -/
import Derived.Test.YtcohgjdijhogbaaGreatPt22
import Derived.Test.YtcohgjdijhogbaaGreatRefPr
import Derived.Test.YtcohgjdijhogbaaGreatSame15
import Derived.Test.YtcohgjdijhogbaaGreatToA
import Derived.Test.YtcohgjdijhogbaaGreatArtChk
import Derived.Test.YtcohgjdijhogbaaGreatABox
import Derived.Test.YtcohgjdijhogbaaGreatPrintP
import Derived.Test.YtcohgjdijhogbaaGreatParL
import Derived.Test.YtcohgjdijhogbaaGreatPt23
import Derived.Test.YtcohgjdijhogbaaGreatOpenA
import Derived.Test.YtcohgjdijhogbaaGreatCondSh
namespace Go.Proofs.YtcohgjdijhogbaaGreat
set_option linter.unusedSimpArgs false
set_option linter.unusedVariables false
open Go.ChangeShapes Go.WideShapes Go.ChangeAt Go.RowKit
open Go.ChangeMaps (open_string shut_string)

theorem own_row_is {w : World} {base n c : Nat} {e : TypeId} {size : Nat} {A : Option Addr} {xs : List Value} (h : w.ownsRow base e size (.slice A n c) n xs) : Row w A xs := by
  obtain ⟨A2, c2, e2, hr⟩ := own_row h
  injection e2 with h1 h2 h3
  rw [h1]; exact hr
set_option maxHeartbeats 16000000 in
set_option maxRecDepth 100000 in
theorem ArticlePrints_walk (A : Option Addr) (l : List Fd) (c : Nat) (b : ByteArray) (hb : b.size ≤ maxLen) (w : World) (hsh : w.ShapedOpen Tryz.prog) (hr : Row w A (fldsV l)) (hml : ∀ f ∈ l, f.1.length ≤ 1048576 ∧ f.2.length ≤ 1048576) :
    Calls Tryz.prog 5 #[.agg #[.slice A l.length c, .string b]] w fun e w' => e = .returned (.bool true) ∧ Below w.heap.size w w' := by
  have HSH := Lib.hid hsh; clear hsh
  have hB0 : Below w.heap.size w (w.alloc (.cells #[.slice A l.length c, .string b] 25)) := (Below.refl _ _).alloc (Nat.le_refl _) _
  have HB0 := Lib.hid hB0
  have HTO := Lib.hid (law_to A l c b _ (hr.below hB0) hb)
  have hBs := short_size b 3000
  generalize b.extract 0 (min b.size 3000) = B at *
  have HML := Lib.hid (show Mild (l.take 70) from ⟨by simp; omega, fun f hf => by have := hml f (List.mem_of_mem_take hf); omega⟩)
  have hl70 : (l.take 70).length ≤ 70 := by simp; omega
  generalize l.take 70 = L at *
  clear hr hml hB0
  have hpp := par_pri L (toL B)
  have hpr := fun A2 c2 wx hs hr => art_print A2 L c2 B wx hs hr HML.out (by omega)
  have hrp := fun A2 c2 wx hr => rf_print15 A2 L c2 B wx hr HML.out (by omega)
  have hck := fun A2 c2 wx hs hr => art_check A2 L c2 B wx hs hr HML.out (by omega)
  have hle := priF_le L (toL B)
  generalize priF L (toL B) = V at *
  obtain ⟨tt, te⟩ := V
  simp only at hpp hpr hrp hck hle
  obtain ⟨Q, hQ⟩ : ∃ Q, Q = ofL tt := ⟨_, rfl⟩
  have HQ := Lib.hid (show tt = toL Q from by rw [hQ, toL_ofL])
  have hQs : Q.size ≤ 65536 := by rw [hQ, ofL_size]; exact hle
  rw [← hQ] at hpr hrp
  have HPP := Lib.hid hpp; have HPR := Lib.hid hpr; have HRP := Lib.hid hrp; have HCK := Lib.hid hck
  have HPA := Lib.hid (fun wx hw => art_parse Q wx hw (by omega))
  unfold ArtPost at HPA
  rw [← HQ.out] at HPA
  clear hQ hle hpp hpr hrp hck
  go_enter Tryz.func5, Tryz.ntmps5
  go_wp2_with fail
  (with_reducible refine HTO.out.mono ?_)
  rintro e w1 ⟨A1, c1, rfl, hown1⟩
  have hb1 := hown1.bel.alloc hown1.bel.size (.cells #[.slice A1 L.length c1, .string B] 31)
  have HX1 := Lib.hid (ABox.new (t := 31) (c := c1) (b := B) (own_row_is hown1.own))
  have HB1 := Lib.hid (HB0.out.trans (hb1.mono HB0.out.size))
  clear hown1 HTO HB0 hb1
  have k0 := HX1.out.c0
  have k1 := HX1.out.c1
  go_wp2_with fail
  generalize w1.alloc (.cells #[.slice A1 L.length c1, .string B] 31) = X1 at *
  generalize w1.heap.size = r1 at *
  (with_reducible refine (law_back A1 L c1 B _ HX1.out.row (by omega)).mono ?_)
  rintro e w2 ⟨A2, c2, rfl, hown2⟩
  have hb2 := hown2.bel.alloc hown2.bel.size (.cells #[.slice A2 L.length c2, .string B] 25)
  have HX2 := Lib.hid (ABox.new (t := 25) (c := c2) (b := B) (own_row_is hown2.own))
  have HX3 := Lib.hid (HX1.out.later hb2)
  have HB2 := Lib.hid (HB1.out.trans (hb2.mono HB1.out.size))
  clear hown2 HX1 HB1 hb2 k0 k1
  have k0 := HX2.out.c0
  have k1 := HX2.out.c1
  go_wp2_with fail
  generalize w2.alloc (.cells #[.slice A2 L.length c2, .string B] 25) = X2 at *
  generalize w2.heap.size = r2 at *
  (with_reducible refine (HPR.out A2 c2 _ (shaped_below HSH.out HB2.out) HX2.out.row).mono ?_)
  rintro e w3 ⟨rfl, hb3⟩
  have HX4 := Lib.hid (HX2.out.later hb3)
  have HX5 := Lib.hid (HX3.out.later hb3)
  have HB3 := Lib.hid (HB2.out.trans (hb3.mono HB2.out.size))
  clear hb3 HX2 HX3 HB2 k0 k1
  have k0 := HX5.out.c0
  have k1 := HX5.out.c1
  go_wp2_with fail
  (with_reducible refine (HRP.out A1 c1 _ HX5.out.row).mono ?_)
  rintro e w4 ⟨rfl, hb4⟩
  have HX6 := Lib.hid (HX4.out.later hb4)
  have HX7 := Lib.hid (HX5.out.later hb4)
  have HB4 := Lib.hid (HB3.out.trans (hb4.mono HB3.out.size))
  clear hb4 HX4 HX5 HB3 k0 k1
  go_wp2_with fail
  (with_reducible refine (art_known w4 (shaped_below HSH.out HB4.out)).mono ?_)
  rintro e w5 ⟨rfl, hb5⟩
  have HX8 := Lib.hid (HX6.out.later hb5)
  have HX9 := Lib.hid (HX7.out.later hb5)
  have HB5 := Lib.hid (HB4.out.trans (hb5.mono HB4.out.size))
  clear hb5 HX6 HX7 HB4
  have k0 := HX8.out.c0
  have k1 := HX8.out.c1
  have k2 := HX9.out.c0
  have k3 := HX9.out.c1
  have gQ : (Q.toList == Q.toList) = true := by simp
  go_wp2_with fail
  (with_reducible refine (HCK.out A2 c2 _ (shaped_below HSH.out HB5.out) HX8.out.row).mono ?_)
  rintro e w6 ⟨rfl, hb6⟩
  have HX10 := Lib.hid (HX9.out.later hb6)
  have HB6 := Lib.hid (HB5.out.trans (hb6.mono HB5.out.size))
  clear hb6 HX8 HX9 HB5 k0 k1 k2 k3
  go_wp2_with fail
  (with_reducible refine (HPA.out _ (shaped_below HSH.out HB6.out)).mono ?_)
  by_cases h0 : te = 0
  · subst h0
    have hp := HPP.out rfl
    rw [hp]
    simp only
    rintro e w7 ⟨v7, rfl, hown7, hb7⟩
    obtain ⟨A7, c7, rfl, _, hr7⟩ := own_row_cap hown7
    rw [ofL_toL]
    have HX11 := Lib.hid (ABox.new (t := 25) (c := c7) (b := B) hr7)
    have hb7' := hb7.alloc hb7.size (.cells #[.slice A7 L.length c7, .string B] 25)
    have HX12 := Lib.hid (HX10.out.later hb7')
    have HB7 := Lib.hid (HB6.out.trans (hb7'.mono HB6.out.size))
    clear hb7 hb7' hown7 hr7
    have m0 := HX11.out.c0
    have m1 := HX11.out.c1
    have m2 := HX12.out.c0
    have m3 := HX12.out.c1
    go_wp2_with fail
    (with_reducible refine (law_same A7 A1 L L c7 c1 B B _ HX11.out.row HX12.out.row (by omega) (by omega)).mono ?_)
    rintro e w8 ⟨rfl, hb8⟩
    rw [show decide (L = L ∧ toL B = toL B) = true from decide_eq_true ⟨rfl, rfl⟩]
    have HB8 := Lib.hid (HB7.out.trans (hb8.mono HB7.out.size))
    go_wp2_with fail
    go_ret
    exact ⟨rfl, HB8.out⟩
  · have e1 : (te != 0) = true := by simp [bne, h0]
    clear h0
    generalize parF tt = P2 at *
    obtain ⟨f2, b2, a2, e2⟩ := P2
    rintro e w7 ⟨v7, rfl, hown7, hb7⟩
    obtain ⟨A7, c7, rfl, _, _⟩ := own_row_cap hown7
    have HB7 := Lib.hid (HB6.out.trans ((hb7.alloc hb7.size (.cells #[.slice A7 f2.length c7, .string (ofL b2)] 25)).mono HB6.out.size))
    clear hb7 hown7
    go_wp2_with fail
    go_ret
    exact ⟨rfl, HB7.out⟩

theorem bulk_mem {H : Type} {d : DataW H} {l : List (DataW H)} (h : d ∈ l) : Rows.uptoBulk d ≤ Rows.uptoBulkAll l := by
  induction l with
  | nil => cases h
  | cons x r ih =>
    simp only [Rows.uptoBulkAll]
    cases List.mem_cons.1 h with
    | inl e => subst e; omega
    | inr e => have := ih e; omega
theorem bulk_fld {H : Type} (f : Fd) : f.1.length + f.2.length ≤ Rows.uptoBulk (fdD H f) := by
  simp only [fdD, Rows.uptoBulk, Rows.uptoBulkAll]; omega
theorem bulk_art {H : Type} {y z : DataW H} {l : List Fd} (hy : y = .nil ∧ l = [] ∨ ∃ sp, y = .slice (l.map (fdD H)) sp) (hk : Rows.uptoSmall H [.agg [y, z]] = true) : ∀ f ∈ l, f.1.length ≤ 1048576 ∧ f.2.length ≤ 1048576 := by
  intro f hf
  have h : Rows.uptoBulkAll [DataW.agg [y, z]] ≤ 1048576 := of_decide_eq_true hk
  rcases hy with ⟨_, rfl⟩ | ⟨sp, rfl⟩
  · cases hf
  · simp only [Rows.uptoBulkAll, Rows.uptoBulk] at h
    have h1 := bulk_mem (H := H) (List.mem_map_of_mem (f := fdD H) hf)
    have h2 := bulk_fld (H := H) f
    omega
set_option maxRecDepth 100000 in
theorem ArticlePrints_lifted (os : Os) (started : os.Started) (H : Type) (enc : TypeId × Value → H) (F : Stop.Interp) :
    ReturnsInHanded {} Tryz.checked os 5 .any ((Rows.OpenSpec.upto Rows.articlePrintsSpec).pre6 enc Tryz.prog Tryz.f5 Rows.articlePrintsUptoRow.domain false) (((Rows.OpenSpec.upto Rows.articlePrintsSpec).at F).post enc Tryz.prog Tryz.f5 false true false false) := by
  refine returnsInHanded_of_cond_shaped (C := Tryz.checked) (s := Rows.OpenSpec.upto Rows.articlePrintsSpec) (k := Rows.uptoSmall) rfl own started (by kernel_rfl) Tryz.func5
    (OpenSpec.witness (enc := enc) (C := Tryz.checked) (s := Rows.OpenSpec.upto Rows.articlePrintsSpec) (k := Rows.uptoSmall) rfl false ⟨#[], #[.agg #[.slice none 0 0, .string .empty]], []⟩ 8 (by kernel_rfl) (by kernel_rfl) (by kernel_rfl)
      (x := ([.agg [.nil, .lit (.string [])]], [], [])) (by kernel_rfl) rfl (by kernel_rfl)) ?_
  intro W base args ds gs before hval0 hW hk hsh
  have hval : ∀ (j : Nat) t v, Tryz.f5.params[j]? = some t → args[j]? = some v → Value.okWide Tryz.prog W .any base t v := hval0
  have hW' := hW
  obtain ⟨p, q, hA0, hV, rfl, hfz, hnd⟩ := hW
  have hplt : ∀ x ∈ p, x.block < W.heap.size := fun x hx => hW'.lt x (by simp [hx])
  have hA : DataW.TrodAll enc Tryz.prog W 0 (fun _ => true) true Tryz.f5.params.toList args.toList ds p := hA0
  rw [Tryz.params5] at hA hval
  obtain ⟨v0, vs0, d0, ds0, p0, q0, hargs, rfl, rfl, h0, r0⟩ := trodAll_cons hA
  obtain ⟨rfl, rfl, rfl⟩ := trodAll_nil r0
  obtain rfl : args = #[v0] := by cases args; simp_all
  obtain ⟨rfl, rfl⟩ := trodVars_none hV
  obtain ⟨A0, l0, c0, b0, rfl, hrow, hsz, hbm, y0, rfl, hy⟩ := open_art Tryz.underlying25 (by kernel_rfl) (by kernel_rfl) rfl rfl Tryz.underlying23 Tryz.underlying64 (by kernel_rfl) (by kernel_rfl) rfl rfl Tryz.underlying9 (hval 0 25 v0 rfl rfl) h0
  simp only [List.append_nil] at hk
  refine (ArticlePrints_walk A0 l0 c0 b0 hbm W hsh hrow (bulk_art hy hk)).mono fun e W' ⟨he, hg⟩ => ?_
  subst he
  exact ⟨_, rfl, law_post hW' rfl rfl rfl (by decide +kernel) hg⟩

theorem ArticlePrints_proved : Rows.ArticlePrintsUptoSaid :=
  OpenClaim.holds_of_cond 5 Tryz.f5 rfl rfl rfl rfl rfl rfl rfl ⟨rfl, rfl, rfl, rfl, rfl⟩ rfl rfl rfl rfl rfl (by kernel_rfl) Tryz.func5 (by kernel_rfl)
    (of_decide_eq_true (by kernel_rfl)) (by unfold Func.isWrapper; first | (rw [if_pos (by decide +kernel)]; kernel_rfl) | (rw [if_neg (by decide +kernel)]; exact ⟨rfl, rfl⟩))
    (fun os started H enc _ F => ArticlePrints_lifted os started H enc F)
end Go.Proofs.YtcohgjdijhogbaaGreat
