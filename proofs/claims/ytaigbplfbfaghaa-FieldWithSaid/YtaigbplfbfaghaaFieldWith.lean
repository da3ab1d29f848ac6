/- For every list of fields and every field, FieldWith returns true: With and Without agree with the reference and change nothing that is passed. No condition. -/
import Derived.Test.YtaigbplfbfaghaaFieldW
import Derived.Deep.DeepCutAuto
import Derived.Deep.RegionWith
import Derived.Deep.RegionHeld3
import Derived.Deep.DeepMust
import Derived.Lib.SmallJoins
namespace Go.Proofs.Ytaigbplfbfaghaa
set_option linter.unusedSimpArgs false
set_option linter.unusedVariables false
open Go.ChangeShapes Go.WideShapes Go.ChangeAt Go.RowKit Go.Joins
open Go.ChangeMaps (open_string shut_string)

set_option maxHeartbeats 4000000 in
set_option maxRecDepth 100000 in
theorem FieldWith_walk (A : Option Addr) (l : List Fd) (c : Nat) {w : World} (hr : Row w A (fldsV l)) (hl : Sized l) (n b : ByteArray) (hn : n.size ≤ maxLen) (hb : b.size ≤ maxLen) (_ : World) :
    Calls Try.prog 9 #[.slice A l.length c, .agg #[.string n, .string b]] w fun e w' => e = .returned (.bool true) ∧ Below w.heap.size w w' := by
  obtain ⟨V0, hV0⟩ : ∃ V0, V0 = Value.slice A l.length c := ⟨_, rfl⟩
  have HA := Lib.hid (fun wx (hx : Below w.heap.size w wx) => law_cut A l c wx (hr.below hx) hl)
  rw [← hV0] at HA ⊢
  clear hV0
  have HB := Lib.hid (fun g wx fr (hg : wx.heap[g]? = some (.cells #[.string n, .string b] 25 fr)) => cut_one g n b wx hg hn hb)
  clear hr hl
  go_enter Try.func9, Try.ntmps9
  go_upto_region 1 with fail
  go_cut [0] (fun s0 wx => Cut1 w wx s0 l w.heap.size)
  case first =>
    have HBX := Lib.hid (show (w.alloc (.cells #[.string n, .string b] 25)).drew.heap[w.heap.size]? = some (.cells #[.string n, .string b] 25 (0, 0)) from heap_alloc_new w _)
    have HB2 := Lib.hid (show ((w.alloc (.cells #[.string n, .string b] 25)).alloc (.cells #[.string n, .string b] 25)).drew.heap[w.heap.size + 1]? = some (.cells #[.string n, .string b] 25 (0, 0)) from by
      have := heap_alloc_new (w.alloc (.cells #[.string n, .string b] 25)) (.cells #[.string n, .string b] 25 (0, 0))
      rw [World.size_alloc] at this
      exact this)
    have HB1 := Lib.hid (show ((w.alloc (.cells #[.string n, .string b] 25)).alloc (.cells #[.string n, .string b] 25)).drew.heap[w.heap.size]? = some (.cells #[.string n, .string b] 25 (0, 0)) from (Lib.alloc_old (w.alloc (.cells #[.string n, .string b] 25)) _ _ (by simp)).trans (heap_alloc_new w _))
    go_region_with (first
      | (go_at_call 14; with_reducible refine (HA.out _ ?hh).mono ?_; (case hh => first | exact ((Below.refl _ _).alloc (Nat.le_refl _) _).drew | exact (((Below.refl _ _).alloc (Nat.le_refl _) _).alloc (by simp) _).drew); rintro e w2 ⟨v2, rfl, hF2⟩
         have hk2 : w2.heap[w.heap.size]? = some (.cells #[.string n, .string b] 25 (0, 0)) := (hF2.bel.block _ (by simp <;> omega)).trans (by first | exact HBX.out | exact HB1.out)
         have hc0 : w2.cell? ⟨w.heap.size, 0, none⟩ = some (.string n) := by rw [Lib.cell_of_heap hk2]; rfl
         have hc1 : w2.cell? ⟨w.heap.size, 1, none⟩ = some (.string b) := by rw [Lib.cell_of_heap hk2]; rfl
         have hlt2 := heap_lt hk2)
      | (go_at_call 14; with_reducible refine (HB.out _ _ (0, 0) ?hh).mono ?_; go_must (case hh => first | exact heap_alloc_new w2 _ | exact (hF2.bel.block (w.heap.size + 1) (by simp <;> omega)).trans HB2.out); go_must (rintro e w3 ⟨gg, cap, n', b', rfl, hn', hb', hns, hbs, hd0, hd1, hgg, hb3⟩)
         have hk3 : w3.heap[w.heap.size]? = some (.cells #[.string n, .string b] 25 (0, 0)) := (hb3.block _ (by first | exact hlt2 | (simp; omega))).trans (by first | exact hk2 | exact (Lib.alloc_old _ _ _ hlt2).trans hk2)
         have hd0' : w3.cell? ⟨w.heap.size, 0, none⟩ = some (.string n) := by rw [Lib.cell_of_heap hk3]; rfl
         have hd1' : w3.cell? ⟨w.heap.size, 1, none⟩ = some (.string b) := by rw [Lib.cell_of_heap hk3]; rfl
         have hz0 : w3.frozen? ⟨w.heap.size, 0, none⟩ = false := Lib.frozen_of_heap hk3 0
         have hz1 : w3.frozen? ⟨w.heap.size, 1, none⟩ = false := Lib.frozen_of_heap hk3 1))
    all_goals
      go_wp2_with fail
      go_meet
      case rel =>
        first
          | exact cut1_mk ((Below.refl _ _).alloc (Nat.le_refl _) _).drew (by simp) hF2 ((alloc_bel w2 _).trans (hb3.mono (by simp))) hk3 hns hbs
          | exact cut1_mk (((Below.refl _ _).alloc (Nat.le_refl _) _).alloc (by simp) _).drew (by simp) hF2 hb3 hk3 hns hbs
  case rest =>
    obtain ⟨hown, ⟨n1, b1, hn1, hb1, hc0, hc1⟩, hbel⟩ := hcut
    clear HA HB hn hb
    obtain ⟨A1, c1, rfl, hcap1, hrow1⟩ := own_row_cap hown
    have HM := Lib.hid (cutList_mild l)
    have hlen : (cutList l).length ≤ 70 := by have := cutList_length l; omega
    generalize cutList l = L at *
    have HR1 := Lib.hid hrow1
    have HBX := Lib.hid (fun wx (hx : Below wc.heap.size wc wx) => (show wx.cell? ⟨w.heap.size, 0, none⟩ = some (.string n1) ∧ wx.cell? ⟨w.heap.size, 1, none⟩ = some (.string b1) from (box2_of hc0 hc1 hx).imp_right And.left))
    clear hrow1 hown hc0 hc1
    go_wp2_with fail
    (with_reducible refine (law_to A1 L c1 wc HR1.out hlen).mono ?_)
    rintro e w2 ⟨v2, rfl, hF2⟩
    obtain ⟨A2, c2, rfl, hrow2⟩ := own_row hF2.own
    have hq2 := hF2.bel
    have HX2 := Lib.hid hrow2
    have HR2 := Lib.hid (HR1.out.below hq2)
    obtain ⟨d0, d1⟩ := HBX.out w2 hq2
    clear hF2 hrow2 HR1
    have hRl : (L.filter fun f => !foldEq f.1 (toL n1)).length ≤ 70 := Nat.le_trans (List.length_filter_le _ _) hlen
    go_wp2_with fail
    (with_reducible refine (ref_without A1 L c1 n1 w2 HR2.out HM.out (le_maxLen (by omega))).mono ?_)
    rintro e w3 ⟨v3, rfl, hF3⟩
    obtain ⟨A3, c3, rfl, hrow3⟩ := own_row hF3.own
    have hb3 := hF3.bel
    have hq3 := hq2.trans (hb3.mono hq2.size)
    have HX3 := Lib.hid (HX2.out.below hb3)
    have HR3 := Lib.hid (HR2.out.below hb3)
    have HT3 := Lib.hid hrow3
    clear hF3 hrow3 HX2 HR2 hb3 d0 d1
    obtain ⟨d0, d1⟩ := HBX.out w3 hq3
    go_wp2_with fail
    (with_reducible refine (fld_without A2 L c2 n1 w3 HX3.out HM.out (by omega)).mono ?_)
    rintro e w4 ⟨v4, rfl, hF4⟩
    obtain ⟨A4, c4, rfl, hrow4⟩ := own_row hF4.own
    have hb4 := hF4.bel
    have hq4 := hq3.trans (hb4.mono hq3.size)
    have HX4 := Lib.hid (HX3.out.below hb4)
    have HT4 := Lib.hid (HT3.out.below hb4)
    have HA4 := Lib.hid hrow4
    have HW4 := Lib.hid (writable_of2 hF4.own)
    clear hF4 hrow4 HT3 d0 d1
    obtain ⟨d0, d1⟩ := HBX.out w4 hq4
    go_wp2_with fail
    (with_reducible refine (fld_with A2 L c2 n1 b1 w4 HX4.out HM.out (by omega)).mono ?_)
    rintro e w5 ⟨v5, rfl, hF5⟩
    generalize (L.filter fun f => !foldEq f.1 (toL n1)) = R at *
    obtain ⟨Rb, hRb⟩ : ∃ Rb, Rb = R ++ [(toL n1, toL b1)] := ⟨_, rfl⟩
    have hRbl : Rb.length ≤ 71 := by rw [hRb]; simp; omega
    have hRbne : Rb ≠ [] := by rw [hRb]; simp
    rw [← hRb] at hF5
    have HRB := Lib.hid hRb; have HNE := Lib.hid hRbne; clear hRb hRbne
    obtain ⟨A5, c5, rfl, hrow5⟩ := own_row hF5.own
    have hb5 := hF5.bel
    have hq5 := hq4.trans (hb5.mono hq4.size)
    have hp5 : Below w3.heap.size w3 w5 := hb4.trans (hb5.mono hb4.size)
    have HT5 := Lib.hid (HT4.out.below hb5)
    have HA5 := Lib.hid (HA4.out.below hb5)
    have HB5 := Lib.hid hrow5
    have HW4' := Lib.hid (HW4.out.below hb5)
    have HW5 := Lib.hid ((writable_of2 hF5.own).low hb4.size)
    clear hF5 hrow5 HX4 HT4 HA4 HW4 d0 d1 hb5
    obtain ⟨d0, d1⟩ := HBX.out w5 hq5
    have HD0 := Lib.hid d0; have HD1 := Lib.hid d1
    have hz3 := hbel.trans (hq3.mono hbel.size)
    clear d0 d1 hq2 hq3 hq4 hb4 HBX
    have HOA := Lib.hid (fun wx (hx : Box2 w5 w.heap.size n1 b1 wx) => law_of A4 R c4 wx (HA5.out.below hx.2.2) (by omega))
    have HOB := Lib.hid (fun wx (hx : Box2 w5 w.heap.size n1 b1 wx) => law_of A5 Rb c5 wx (HB5.out.below hx.2.2) (by omega))
    have HS1 := Lib.hid (fun wx Aa ca (hr : Row wx Aa (fldsV R)) (hx : Box2 w5 w.heap.size n1 b1 wx) => ref_same Aa A3 R R ca c3 wx hr (HT5.out.below hx.2.2) (by omega) (by omega))
    have HS2 := Lib.hid (fun wx Ab cb Ad cd (hs : St w5 wx Rb (some (.slice Ab Rb.length cb)) (.slice Ad Rb.length cd) Rb) => ref_same Ab Ad Rb Rb cb cd wx (hs.rows HNE.out).1 (hs.rows HNE.out).2 (by omega) (by omega))
    simp only [decide_true] at HS1 HS2
    have hR1 : R.length ≤ 1000 := by omega
    have hR2 : Rb.length ≤ 1000 := by omega
    go_upto_region 6 with fail
    go_cut [51] (fun s51 wx => s51 = .bool false ∧ Below w5.heap.size w5 wx)
    case first =>
      go_region_held3 (fun w' => w'.cell? ⟨w.heap.size, 0, none⟩ = some (.string n1) ∧ w'.cell? ⟨w.heap.size, 1, none⟩ = some (.string b1) ∧ Below w5.heap.size w5 w')
        (first
          | exact box2_of HD0.out HD1.out (Below.refl _ _).drew
          | exact box2_of HD0.out HD1.out hSt.bel
          | exact Box2.later (by assumption) hFa.bel
          | exact Box2.later (by assumption) hb7
          | exact Box2.later (by assumption) hb10
          | exact Box2.later (by assumption) ((Below.refl _ _).alloc (Nat.le_refl _) _))
        (first
          | (go_at_call 25; (with_reducible refine (HOA.out _ ?hh).mono ?_); (case hh => assumption); rintro e w6 ⟨va, rfl, hFa⟩; obtain ⟨Aa, ca, rfl, hrowa⟩ := own_row hFa.own)
          | (go_at_call 24; (with_reducible refine (HS1.out _ Aa ca hrowa ?hh).mono ?_); (case hh => assumption); rintro e w7 ⟨rfl, hb7⟩; have hSt := St.start (W0 := w5) (W := w7) (Box2.later (by assumption) hb7).2.2 Rb)
          | (go_at_call 25; (with_reducible refine (HOB.out _ ?hh).mono ?_); (case hh => assumption); rintro e w8 ⟨vb, rfl, hFb⟩; have hSt := St.setb (W0 := w5) (by first | exact hSt | exact hSt.later (alloc_bel _ _) | exact (hSt.later (alloc_bel _ _)).later (alloc_bel _ _)) hFb; obtain ⟨Ab, cb, rfl, hrowb⟩ := own_row hFb.own)
          | (refine step_st0 (W0 := w5) (Rb := Rb) ?hw _ _ (by rfl) (by first | exact hSt | exact hSt.later (alloc_bel _ _) | exact (hSt.later (alloc_bel _ _)).later (alloc_bel _ _)) _ (by rfl) R (A := A3) (c := c3) (by rfl) ?hr hR1 ?_; (case hw => rfl); (case hr => exact HT5.out.below (show Box2 w5 w.heap.size n1 b1 _ by assumption).2.2); intro Ac cc w9 hSt hbA)
          | (refine step_st1 (W0 := w5) (Rb := Rb) (l := R) ?hw _ _ (by rfl) (by first | exact hSt | exact hSt.later (alloc_bel _ _)) (by rfl) n1 b1 (by rfl) ?hr Rb HRB.out hR2 ?_; (case hw => rfl); (case hr => (repeat (first | exact row_g _ _ _ _ _ (by first | rfl | simp) | refine Row.below ?_ hbA | refine Row.below ?_ hFb.bel | refine Row.below ?_ (alloc_bel _ _)))); intro Ad cd w11 hSt)
          | (go_at_call 24; (with_reducible refine (HS2.out _ _ _ _ _ hSt).mono ?_); rintro e w10 ⟨rfl, hb10⟩))
      all_goals
        go_wp2_with fail
        go_meet
        case rel => exact ⟨by trivial, (show Box2 w5 w.heap.size n1 b1 _ by assumption).2.2⟩
    case rest =>
      obtain ⟨rfl, hb6⟩ := hcut
      have hp6 : Below w3.heap.size w3 wc := hp5.trans (hb6.mono hp5.size)
      have HW6 := Lib.hid (HW4'.out.below hb6)
      have HV6 := Lib.hid (HW5.out.below hb6)
      clear HOA HOB HS1 HS2 HD0 HD1 HB5 HA5 HT5 HW4' HW5 HNE HRB hb6 hp5 hq5 hbel
      go_wp2_with fail
      go_loopw [9, 60] (fun v9 _ wr => ∃ k : Nat, k ≤ R.length ∧ v9 = .int .i64 k ∧ Writable wr A4 (R.length * 2) w3.heap.size ∧ Writable wr A5 (Rb.length * 2) w3.heap.size ∧ Below w3.heap.size w3 wr) (fun v9 _ _ => R.length - (intOf v9).toNat)
      case atStart => exact ⟨0, by omega, rfl, HW6.out, HV6.out, hp6⟩
      case round =>
        obtain ⟨k, hk, rfl, hwa, hwb, hbw⟩ := hrel
        obtain ⟨wo, rfl⟩ : ∃ wo : World, wo = wr := ⟨_, rfl⟩
        have HWA := Lib.hid hwa; have HWB := Lib.hid hwb; clear hwa hwb
        by_cases hlt : k < R.length
        · have hk1 : (0 : Int) ≤ (k : Int) := by omega
          have hk2 : (k : Int) < (R.length : Int) := by omega
          obtain ⟨g, v, rfl, hg, hcell, hfr⟩ := HWA.out.at (j := k * 2 + 1) (by omega)
          go_wp2_with fail
          go_roundw
          case rel => exact ⟨k + 1, by omega, by go_num, HWA.out.set _ _, HWB.out.set _ _, hbw.setCell (p := ⟨g, k * 2 + 1, none⟩) hg _⟩
          case measure => simp [intOf] <;> omega
        · clear HW6 HV6 hp6
          go_wp2_with fail
          go_loopw [10, 70] (fun v9 _ wr => ∃ k : Nat, k ≤ Rb.length ∧ v9 = .int .i64 k ∧ Writable wr A5 (Rb.length * 2) w3.heap.size ∧ Below w3.heap.size w3 wr) (fun v9 _ _ => Rb.length - (intOf v9).toNat)
          case atStart => exact ⟨0, by omega, rfl, HWB.out, hbw⟩
          case round =>
            clear HWA HWB hbw hk hlt
            obtain ⟨k, hk, rfl, hwb, hbw⟩ := hrel
            have HWB := Lib.hid hwb; clear hwb
            by_cases hlt : k < Rb.length
            · have hk1 : (0 : Int) ≤ (k : Int) := by omega
              have hk2 : (k : Int) < (Rb.length : Int) := by omega
              obtain ⟨g, v, rfl, hg, hcell, hfr⟩ := HWB.out.at (j := k * 2) (by omega)
              go_wp2_with fail
              go_roundw
              case rel => exact ⟨k + 1, by omega, by go_num, HWB.out.set _ _, hbw.setCell (p := ⟨g, k * 2, none⟩) hg _⟩
              case measure => simp [intOf] <;> omega
            · have hwr := hz3.trans (hbw.mono hz3.size)
              have HX6 := Lib.hid (HX3.out.below hbw)
              have HR6 := Lib.hid (HR3.out.below hbw)
              have HKN := Lib.hid (law_known wr)
              clear HX3 HR3 HWB hbw hz3
              go_wp2_with fail
              (with_reducible refine HKN.out.mono ?_)
              rintro e w7 ⟨rfl, hb7⟩
              have hw7 := hwr.trans (hb7.mono hwr.size)
              have HX7 := Lib.hid (HX6.out.below hb7)
              have HR7 := Lib.hid (HR6.out.below hb7)
              go_wp2_with fail
              (with_reducible refine (law_of A2 L c2 w7 HX7.out (by omega)).mono ?_)
              rintro e w8 ⟨v8, rfl, hF8⟩
              obtain ⟨A8, c8, rfl, hrow8⟩ := own_row hF8.own
              have hw8 := hw7.trans (hF8.bel.mono hw7.size)
              have HR8 := Lib.hid (HR7.out.below hF8.bel)
              have HY8 := Lib.hid hrow8
              clear hF8 hrow8
              go_wp2_with fail
              (with_reducible refine (ref_same A8 A1 L L c8 c1 w8 HY8.out HR8.out (by omega) (by omega)).mono ?_)
              rintro e w9 ⟨rfl, hb9⟩
              simp only [decide_true]
              go_wp2_with fail
              go_ret
              exact ⟨rfl, hw8.trans (hb9.mono hw8.size)⟩

set_option maxRecDepth 100000 in
theorem FieldWith_lifted (os : Os) (started : os.Started) (H : Type) (enc : TypeId × Value → H) :
    ReturnsInHanded {} Try.checked os 9 .any (Rows.fieldWithSpec.pre6 enc Try.prog Try.f9 Rows.fieldWithRow.domain false) (Rows.fieldWithSpec.post enc Try.prog Try.f9 false true false false) := by
  refine returnsInHanded_of_change (C := Try.checked) own started (by kernel_rfl) Try.func9
    (ChangeSpec.witness6 (enc := enc) (C := Try.checked) false ⟨#[], #[.slice none 0 0, .agg #[.string ByteArray.empty, .string ByteArray.empty]], []⟩ 8 (by kernel_rfl) (by kernel_rfl) (by kernel_rfl) (by kernel_rfl)) ?_
  intro W base args ds gs before hval0 hW hcnd _
  have hval : ∀ (j : Nat) t v, Try.f9.params[j]? = some t → args[j]? = some v → Value.okWide Try.prog W .any base t v := hval0
  have hW' := hW
  obtain ⟨p, q, hA0, hV, rfl, hfz, hnd⟩ := hW
  have hplt : ∀ x ∈ p, x.block < W.heap.size := fun x hx => hW'.lt x (by simp [hx])
  have hA : DataW.TrodAll enc Try.prog W 0 (fun _ => true) true Try.f9.params.toList args.toList ds p := hA0
  rw [Try.params9] at hA hval
  obtain ⟨v0, vs0, d0, ds0, p0, q0, hargs, rfl, rfl, h0, r0⟩ := trodAll_cons hA
  obtain ⟨v1, vs1, d1, ds1, p1, q1, rfl, rfl, rfl, h1, r1⟩ := trodAll_cons r0
  obtain ⟨rfl, rfl, rfl⟩ := trodAll_nil r1
  obtain rfl : args = #[v0, v1] := by cases args; simp_all
  obtain ⟨rfl, rfl⟩ := trodVars_none hV
  obtain ⟨A0, l0, c0, hv0, hrow0, hsz0⟩ := open_flds Try.underlying26 Try.underlying25 (by kernel_rfl) (by kernel_rfl) rfl rfl Try.underlying9 (hval 0 26 v0 rfl rfl) h0
  subst hv0
  obtain ⟨x1, y1, z1, u1, m1, rfl, rfl, rfl, hx1, hy1⟩ := open_agg2 Try.underlying25 (by kernel_rfl) (by kernel_rfl) (hval 1 25 v1 rfl rfl) h1
  obtain ⟨n1, e1, rfl, wn1⟩ := DataW.trod_string Try.underlying9 hx1
  obtain ⟨b1, f1, rfl, wb1⟩ := DataW.trod_string Try.underlying9 hy1
  simp at e1 f1
  subst e1 f1
  refine (FieldWith_walk A0 l0 c0 hrow0 hsz0 n1 b1 wn1 wb1 W).mono fun e W' ⟨he, hg⟩ => ?_
  subst he
  exact ⟨_, rfl, law_post hW' rfl rfl rfl (by decide +kernel) hg⟩

theorem FieldWith_over : Rows.fieldWithRow.holds Try.pinned (OpenSpec.ofChange Rows.fieldWithSpec) :=
  OpenClaim.holds_of_wide 9 Try.f9 rfl rfl rfl rfl rfl rfl rfl ⟨rfl, rfl, rfl, rfl, rfl⟩ rfl rfl rfl rfl rfl (by kernel_rfl) Try.func9 (by kernel_rfl)
    (of_decide_eq_true (by kernel_rfl)) (by unfold Func.isWrapper; first | (rw [if_pos (by decide +kernel)]; kernel_rfl) | (rw [if_neg (by decide +kernel)]; exact ⟨rfl, rfl⟩))
    (fun os started H enc _ => FieldWith_lifted os started H enc)

theorem FieldWith_proved : Rows.FieldWithSaid := FieldWith_over

end Go.Proofs.Ytaigbplfbfaghaa
