/- For every pair of numbers, ArticleLimits returns true: articles near the limits are printed and parsed as the reference does. No condition. -/
import Derived.Test.YtcohgjdijhogbaaGreatPt22
import Derived.Test.YtcohgjdijhogbaaGreatRefPr
import Derived.Test.YtcohgjdijhogbaaGreatRefPa
import Derived.Test.YtcohgjdijhogbaaGreatSame15
import Derived.Test.YtcohgjdijhogbaaGreatTbA
import Derived.Test.YtcohgjdijhogbaaGreatABox
import Derived.Test.YtcohgjdijhogbaaGreatParL
import Derived.Test.YtcohgjdijhogbaaGreatPt23
import Derived.Lib.ConvBytes
import Derived.HandedShaped
namespace Go.Proofs.YtcohgjdijhogbaaGreat
set_option linter.unusedSimpArgs false
set_option linter.unusedVariables false
open Go.ChangeShapes Go.WideShapes Go.ChangeAt Go.RowKit
open Go.ChangeMaps (open_string shut_string)

theorem el_u8 : Elem Tryz.prog 40 5 1 1 := Elem.of Tryz.underlying40 (z := .int .u8 0) (by kernel_rfl) rfl (by omega)
theorem info_u8 : (Tryz.prog.info? 5).map (fun i => (i.zero, i.size, i.bytes)) = some (some (.int .u8 0), 1, 1) := by kernel_rfl
structure BytO (w wr : World) (v : Value) (l : List UInt8) : Prop where
  own : wr.ownsRow w.heap.size 5 1 v l.length (bytesV l)
  bel : Below w.heap.size w wr
theorem byt_push {w wr w3 : World} {v : Value} {l : List UInt8} {c : UInt8} {g cap : Nat} (h : BytO w wr v l) (hown : w3.ownsRow w.heap.size 5 1 (.slice (some ⟨g, 0, none⟩) (l.length + 1) cap) (l.length + 1) (bytesV l ++ (#[u8 c] : Array Value).toList)) (hg : wr.grownBy w3 v.ownBlock) :
    BytO w w3 (.slice (some ⟨g, 0, none⟩) (l.length + 1) cap) (l ++ [c]) :=
  ⟨by simpa [bytesV] using hown, h.bel.grown hg h.bel.size (fun k hk => (h.own.lt k hk).1)⟩
theorem conv_byt (T : TypeId) (hT : Tryz.prog.underlying T = some .string) {w : World} {base : Nat} {v : Value} {l : List UInt8} (h : w.ownsRow base 5 1 v l.length (bytesV l)) : (convert 40 T v).run Tryz.prog w = .ok (.string (ofL l)) w := by
  rcases own_form h with ⟨rfl, h0⟩ | ⟨g, cap, rfl, _, _, _, hc⟩
  · have : l = [] := List.eq_nil_of_length_eq_zero h0
    subst this
    rw [run_convert_bytes_string w _ _ 5 none 0 0 Tryz.underlying40 Tryz.underlying5 hT]
    rfl
  · refine run_convert_bytes_back (P := Tryz.prog) w 40 T 5 ⟨g, 0, none⟩ cap l Tryz.underlying40 Tryz.underlying5 hT (fun j hj => ?_)
    have : (⟨g, 0, none⟩ : Addr).add j = ⟨g, j, none⟩ := by
      unfold Addr.add; split
      · rename_i h; subst h; rfl
      · simp
    rw [this]
    exact hc j _ (by simp [hj])
theorem conv_byt2 (T : TypeId) (hT : Tryz.prog.underlying T = some .string) {w : World} {base : Nat} {v : Value} {l : List UInt8} {c : UInt8} (h : w.ownsRow base 5 1 v (l.length + 1) (bytesV l ++ (#[u8 c] : Array Value).toList)) : (convert 40 T v).run Tryz.prog w = .ok (.string (ofL (l ++ [c]))) w :=
  conv_byt T hT (by simpa [bytesV] using h)
theorem u16_range {x : Int} (h : (Lit.int .u16 x).wf = true) : 0 ≤ x ∧ x ≤ 65535 := by
  have h1 : IntKind.u16.min = 0 := by decide
  have h2 : IntKind.u16.max = 65535 := by decide
  simp only [Lit.wf, Bool.and_eq_true, decide_eq_true_eq] at h
  rw [h1, h2] at h
  omega

theorem own_row_is {w : World} {base n c : Nat} {e : TypeId} {size : Nat} {A : Option Addr} {xs : List Value} (h : w.ownsRow base e size (.slice A n c) n xs) : Row w A xs := by
  obtain ⟨A2, c2, e2, hr⟩ := own_row h
  injection e2 with h1 h2 h3
  rw [h1]; exact hr
set_option maxHeartbeats 16000000 in
set_option maxRecDepth 100000 in
theorem ArticleLimits_walk (x : Int) (hx : (Lit.int .u16 x).wf = true) (y : Int) (hy : (Lit.int .u16 y).wf = true) (w : World) (hsh : w.ShapedOpen Tryz.prog) :
    Calls Tryz.prog 4 #[.int .u16 x, .int .u16 y] w fun e w' => e = .returned (.bool true) ∧ Below w.heap.size w w' := by
  have HSH := Lib.hid hsh; clear hsh
  obtain ⟨x0, x1⟩ := u16_range hx
  obtain ⟨y0, y1⟩ := u16_range hy
  clear hx hy
  obtain ⟨m, hm⟩ : ∃ m : Nat, x.tmod 8 = (m : Int) := ⟨(x.tmod 8).toNat, by rw [Int.tmod_eq_emod_of_nonneg x0]; omega⟩
  have hm8 : m < 8 := by rw [Int.tmod_eq_emod_of_nonneg x0] at hm; omega
  obtain ⟨q, hq⟩ : ∃ q : Nat, y.tmod 1002 = (q : Int) := ⟨(y.tmod 1002).toNat, by rw [Int.tmod_eq_emod_of_nonneg y0]; omega⟩
  have hq8 : q < 1002 := by rw [Int.tmod_eq_emod_of_nonneg y0] at hq; omega
  obtain ⟨i0, hi, hz0, hz1, hz2⟩ := info_parts info_u8
  go_enter Tryz.func4, Tryz.ntmps4
  go_wp2_with (at_make; refine wpList_make_own _ rfl _ _ 40 rfl w.heap.size 5 i0 (.int .u8 0) 1 Tryz.underlying40 hi hz0 hz1 .i64 .i64 70000 70000 rfl rfl rfl (by rw [hz2]; decide) (by unfold maxLen; decide) (Nat.le_refl _) ?_; intro w1 hown hgrow)
  have HN0 := Lib.hid (show BytO w w1 (.slice (some ⟨w.heap.size, 0, none⟩) 0 70000) [] from ⟨hown, (Below.refl _ _).grown hgrow (Nat.le_refl _) (fun k hk => by simp at hk)⟩)
  clear hown hgrow hi hz0 hz1 hz2
  generalize (Value.slice (some ⟨w.heap.size, 0, none⟩) 0 70000) = V0 at *
  go_loopw [5, 6, 7] (fun v5 v6 _ wr => ∃ (i : Nat) (acc : List UInt8), i ≤ 60 + m ∧ v6 = .int .i64 (i : Int) ∧ acc.length ≤ i * 999 ∧ BytO w wr v5 acc) (fun _ v6 _ _ => 60 + m - (intOf v6).toNat)
  case atStart => exact ⟨0, [], by omega, rfl, by simp, HN0.out⟩
  case round =>
    obtain ⟨i, acc, hi, rfl, hal, hb⟩ := hrel
    have HB := Lib.hid hb; clear hb HN0
    obtain ⟨wo, rfl⟩ : ∃ wo : World, wo = wr := ⟨_, rfl⟩
    have i0 : (0 : Int) ≤ (i : Int) := by omega
    by_cases hlt : i < 60 + m
    · have i1 : (i : Int) < 60 + (m : Int) := by omega
      go_wp2_with fail
      go_loopw [5, 7] (fun v5 v7 wr => ∃ (k : Nat) (ac : List UInt8), k ≤ 998 ∧ v7 = .int .i64 (k : Int) ∧ ac.length ≤ i * 999 + k ∧ BytO w wr v5 ac) (fun _ v7 _ => 998 - (intOf v7).toNat)
      case atStart => exact ⟨0, acc, by omega, rfl, by omega, HB.out⟩
      case round =>
        obtain ⟨k, ac, hk, rfl, hac, hb⟩ := hrel
        have hown := hb.own
        have hsz := hb.bel.size
        have HB2 := Lib.hid hb; clear hb
        have k0 : (0 : Int) ≤ (k : Int) := by omega
        by_cases hlt2 : k < 998
        · have k1 : (k : Int) < 998 := by omega
          go_wp2_with ((at_builtin; refine wpList_push el_u8 rfl _ _ rfl hown #[u8 97] rfl rfl rfl (by simp [Value.oneCell']) (by omega) (by unfold maxLen; omega) hsz ?_; intro g cap w3 hown3 hg3 hat3))
          have HB3 := Lib.hid (byt_push HB2.out hown3 hg3)
          clear hown3 hg3 hat3 hown hsz
          go_roundw
          case rel => exact ⟨k + 1, ac ++ [97], by omega, by go_num, by simp; omega, HB3.out⟩
          case measure => simp [intOf] <;> omega
        · have k1 : (998 : Int) ≤ (k : Int) := by omega
          go_wp2_with ((at_builtin; refine wpList_push el_u8 rfl _ _ rfl hown #[u8 10] rfl rfl rfl (by simp [Value.oneCell']) (by omega) (by unfold maxLen; omega) hsz ?_; intro g cap w3 hown3 hg3 hat3))
          have HB3 := Lib.hid (byt_push HB2.out hown3 hg3)
          clear hown3 hg3 hat3 hown hsz
          go_roundw
          case rel => exact ⟨i + 1, ac ++ [10], by omega, by go_num, by simp; omega, HB3.out⟩
          case measure => simp [intOf] <;> omega
    · have i1 : 60 + (m : Int) ≤ (i : Int) := by omega
      go_wp2_with fail
      go_loopw [5, 8] (fun v5 v8 wr => ∃ (k : Nat) (ac : List UInt8), k ≤ q ∧ v8 = .int .i64 (k : Int) ∧ ac.length ≤ 66933 + k ∧ BytO w wr v5 ac) (fun _ v8 _ => q - (intOf v8).toNat)
      case atStart => exact ⟨0, acc, by omega, rfl, by omega, HB.out⟩
      case round =>
        obtain ⟨k, ac, hk, rfl, hac, hb⟩ := hrel
        have hown := hb.own
        have hsz := hb.bel.size
        have HB2 := Lib.hid hb; clear hb HB
        have k0 : (0 : Int) ≤ (k : Int) := by omega
        by_cases hlt2 : k < q
        · have k1 : (k : Int) < (q : Int) := by omega
          go_wp2_with ((at_builtin; refine wpList_push el_u8 rfl _ _ rfl hown #[u8 98] rfl rfl rfl (by simp [Value.oneCell']) (by omega) (by unfold maxLen; omega) hsz ?_; intro g cap w3 hown3 hg3 hat3))
          have HB3 := Lib.hid (byt_push HB2.out hown3 hg3)
          clear hown3 hg3 hat3 hown hsz
          go_roundw
          case rel => exact ⟨k + 1, ac ++ [98], by omega, by go_num, by simp; omega, HB3.out⟩
          case measure => simp [intOf] <;> omega
        · have k1 : (q : Int) ≤ (k : Int) := by omega
          obtain ⟨B, hB⟩ : ∃ B, B = ofL (ac ++ [10]) := ⟨_, rfl⟩
          have hBs : B.size ≤ 67935 := by rw [hB, ofL_size]; simp; omega
          go_wp2_with ((at_builtin; refine wpList_push el_u8 rfl _ _ rfl hown #[u8 10] rfl rfl rfl (by simp [Value.oneCell']) (by omega) (by unfold maxLen; omega) hsz ?_; intro g cap w3 hown3 hg3 hat3; have hcv := conv_byt2 9 Tryz.underlying9 hown3; rw [← hB] at hcv))
          rw [← hB]
          have HB3 := Lib.hid (byt_push HB2.out hown3 hg3).bel
          have HX1 := Lib.hid (ABox.new (w1 := w3) (t := 31) (A := none) (l := []) (c := 0) (b := B) (Row.nil _ _))
          have HB4 := Lib.hid (HB3.out.alloc HB3.out.size (.cells #[.slice none 0 0, .string B] 31))
          clear hown3 hg3 hat3 hown hsz hcv hB HB3 HB2 hac
          have hbk : ∀ wx, Calls Tryz.prog 12 #[.agg #[.slice none 0 0, .string B]] wx fun e w' => ∃ A2 c2, e = .returned (.agg #[.slice A2 0 c2, .string B]) ∧ FldsOwn wx w' 64 (.slice A2 0 c2) [] := fun wx => law_back none [] 0 B wx (Row.nil _ _) (by simp)
          have hpr : ∀ (A2 : Option Addr) (c2 : Nat) (wx : World), wx.ShapedOpen Tryz.prog → Row wx A2 (fldsV []) → Calls Tryz.prog 11 #[.agg #[.slice A2 0 c2, .string B]] wx fun e w' => e = .returned (.tuple #[.string (ofL (priF [] (toL B)).1), .int .i64 (priF [] (toL B)).2]) ∧ Below wx.heap.size wx w' := fun A2 c2 wx h1 h2 => art_print A2 [] c2 B wx h1 h2 ⟨by simp, by simp⟩ (by omega)
          have hrp : ∀ (wx : World), Calls Tryz.prog 13 #[.agg #[.slice none 0 0, .string B]] wx fun e w' => e = .returned (.tuple #[.string (ofL (priF [] (toL B)).1), .int .i64 (priF [] (toL B)).2]) ∧ Below wx.heap.size wx w' := fun wx => rf_print15 none [] 0 B wx (Row.nil _ _) ⟨by simp, by simp⟩ (by omega)
          generalize priF [] (toL B) = V at *
          obtain ⟨tt, te⟩ := V
          simp only at hpr hrp
          generalize ofL tt = Q at *
          have HBK := Lib.hid hbk
          have HPR := Lib.hid hpr
          have HRP := Lib.hid hrp
          clear hbk hpr hrp
          have k0 : (w3.alloc (.cells #[.slice none 0 0, .string B] 31)).cell? ⟨w3.heap.size, 0, none⟩ = some (.slice none 0 0) := HX1.out.c0
          have k1 := HX1.out.c1
          (with_reducible refine (HBK.out _).mono ?_)
          rintro e w4 ⟨A2, c2, rfl, hown4⟩
          have HR4 := Lib.hid (own_row_is hown4.own)
          have HX2 := Lib.hid (HX1.out.later hown4.bel)
          have HB5 := Lib.hid (HB4.out.trans (hown4.bel.mono HB4.out.size))
          clear hown4 HX1 HB4 k0 k1
          go_wp2_with fail
          (with_reducible refine (HPR.out A2 c2 _ (shaped_below HSH.out HB5.out) HR4.out).mono ?_)
          rintro e w5 ⟨rfl, hb5⟩
          have HX3 := Lib.hid (HX2.out.later hb5)
          have HB6 := Lib.hid (HB5.out.trans (hb5.mono HB5.out.size))
          clear hb5 HX2 HB5 HPR HR4
          have k0 : w5.cell? ⟨w3.heap.size, 0, none⟩ = some (.slice none 0 0) := HX3.out.c0
          have k1 := HX3.out.c1
          go_wp2_with fail
          (with_reducible refine (HRP.out _).mono ?_)
          rintro e w6 ⟨rfl, hb6⟩
          have HX4 := Lib.hid (HX3.out.later hb6)
          have HB7 := Lib.hid (HB6.out.trans (hb6.mono HB6.out.size))
          clear hb6 HX3 HB6 HRP k0 k1
          have k0 : w6.cell? ⟨w3.heap.size, 0, none⟩ = some (.slice none 0 0) := HX4.out.c0
          have k1 := HX4.out.c1
          go_wp2_with fail
          have hYs : (({ data := #[10] } : ByteArray) ++ B).size ≤ 67936 := by
            rw [ByteArray.size_append]; show 1 + B.size ≤ 67936; omega
          have hpa := fun wx hw => art_parse (({ data := #[10] } : ByteArray) ++ B) wx hw (by omega)
          have hrp := fun wx => rf_parse15 (({ data := #[10] } : ByteArray) ++ B) wx (by omega)
          unfold ArtPost at hpa
          unfold RArtPost at hrp
          have hln := (parF_len (toL (({ data := #[10] } : ByteArray) ++ B))).1
          generalize parF (toL (({ data := #[10] } : ByteArray) ++ B)) = P at hpa hrp hln
          obtain ⟨fs, bd, at_, e0⟩ := P
          simp only at hpa hrp hln
          generalize ofL bd = C at hpa hrp
          have HPA := Lib.hid hpa
          have HRP := Lib.hid hrp
          clear hpa hrp hYs k0 k1
          (with_reducible refine (HPA.out _ (shaped_below HSH.out HB7.out)).mono ?_)
          rintro e w7 ⟨v7, rfl, hown7, hb7⟩
          obtain ⟨A7, c7, rfl, hc7, hr7⟩ := own_row_cap hown7
          have hb7' := hb7.alloc hb7.size (.cells #[.slice A7 fs.length c7, .string C] 25)
          have HX7 := Lib.hid (ABox.new (t := 25) (c := c7) (b := C) hr7)
          have HX5 := Lib.hid (HX4.out.later hb7')
          have HB8 := Lib.hid (HB7.out.trans (hb7'.mono HB7.out.size))
          clear hown7 hb7 hb7' hr7 HX4 HB7 HPA
          have k0 : (w7.alloc (.cells #[.slice A7 fs.length c7, .string C] 25)).cell? ⟨w3.heap.size, 0, none⟩ = some (.slice none 0 0) := HX5.out.c0
          have k1 := HX5.out.c1
          go_wp2_with fail
          generalize w7.alloc (.cells #[.slice A7 fs.length c7, .string C] 25) = X7 at *
          generalize w7.heap.size = r7 at *
          (with_reducible refine (HRP.out _).mono ?_)
          rintro e w8 ⟨v8, rfl, hown8⟩
          obtain ⟨A8, c8, rfl, hc8, hr8⟩ := own_row_cap hown8.own
          have hb8 : Below X7.heap.size X7 (w8.alloc (.cells #[.slice A8 fs.length c8, .string C] 31)) := hown8.bel.alloc hown8.bel.size _
          have HX8 := Lib.hid (ABox.new (t := 31) (c := c8) (b := C) hr8)
          have HX9 := Lib.hid (HX7.out.later hb8)
          have HB9 := Lib.hid (HB8.out.trans (hb8.mono HB8.out.size))
          clear hown8 hb8 hr8 HX7 HX5 HB8 HRP k0 k1
          go_wp2_with fail
          generalize w8.alloc (.cells #[.slice A8 fs.length c8, .string C] 31) = X8 at *
          generalize w8.heap.size = r8 at *
          (with_reducible refine (art_known X8 (shaped_below HSH.out HB9.out)).mono ?_)
          rintro e w9 ⟨rfl, hb9⟩
          have HX10 := Lib.hid (HX9.out.later hb9)
          have HX11 := Lib.hid (HX8.out.later hb9)
          have HB10 := Lib.hid (HB9.out.trans (hb9.mono HB9.out.size))
          have k0 := HX10.out.c0
          have k1 := HX10.out.c1
          have k2 := HX11.out.c0
          have k3 := HX11.out.c1
          clear hb9 HX8 HX9 HB9
          have HSM := Lib.hid (law_same A7 A8 fs fs c7 c8 C C w9 HX10.out.row HX11.out.row (by omega) (by omega))
          rw [show decide (fs = fs ∧ toL C = toL C) = true from decide_eq_true ⟨rfl, rfl⟩] at HSM
          have gQ : (Q.toList == Q.toList) = true := by simp
          go_wp2_with fail
          (with_reducible refine HSM.out.mono ?_)
          rintro e w10 ⟨rfl, hb10⟩
          have HB11 := Lib.hid (HB10.out.trans (hb10.mono HB10.out.size))
          clear hb10
          go_wp2_with fail
          go_ret
          exact ⟨rfl, HB11.out⟩

set_option maxRecDepth 100000 in
theorem ArticleLimits_lifted (os : Os) (started : os.Started) (H : Type) (enc : TypeId × Value → H) :
    ReturnsInHanded {} Tryz.checked os 4 .any (Rows.articleLimitsSpec.pre6 enc Tryz.prog Tryz.f4 Rows.articleLimitsRow.domain false) (Rows.articleLimitsSpec.post enc Tryz.prog Tryz.f4 false true false false) := by
  refine returnsInHanded_of_change_shaped (C := Tryz.checked) own started (by kernel_rfl) Tryz.func4
    (ChangeSpec.witness6 (enc := enc) (C := Tryz.checked) false ⟨#[], #[.int .u16 0, .int .u16 0], []⟩ 8 (by kernel_rfl) (by kernel_rfl) (by kernel_rfl) (by kernel_rfl)) ?_
  intro W base args ds gs before hval0 hW hcnd _ hsh _
  have hval : ∀ (j : Nat) t v, Tryz.f4.params[j]? = some t → args[j]? = some v → Value.okWide Tryz.prog W .any base t v := hval0
  have hW' := hW
  obtain ⟨p, q, hA0, hV, rfl, hfz, hnd⟩ := hW
  have hplt : ∀ x ∈ p, x.block < W.heap.size := fun x hx => hW'.lt x (by simp [hx])
  have hA : DataW.TrodAll enc Tryz.prog W 0 (fun _ => true) true Tryz.f4.params.toList args.toList ds p := hA0
  rw [Tryz.params4] at hA hval
  obtain ⟨v0, vs0, d0, ds0, p0, q0, hargs, rfl, rfl, h0, r0⟩ := trodAll_cons hA
  obtain ⟨v1, vs1, d1, ds1, p1, q1, rfl, rfl, rfl, h1, r1⟩ := trodAll_cons r0
  obtain ⟨rfl, rfl, rfl⟩ := trodAll_nil r1
  obtain rfl : args = #[v0, v1] := by cases args; simp_all
  obtain ⟨rfl, rfl⟩ := trodVars_none hV
  obtain ⟨a0, rfl, rfl, rfl, w0⟩ := open_int Tryz.underlying39 (hval 0 39 v0 rfl rfl) h0
  obtain ⟨a1, rfl, rfl, rfl, w1⟩ := open_int Tryz.underlying39 (hval 1 39 v1 rfl rfl) h1
  refine (ArticleLimits_walk a0 w0 a1 w1 W hsh).mono fun e W' ⟨he, hg⟩ => ?_
  subst he
  exact ⟨_, rfl, law_post hW' rfl rfl rfl (by decide +kernel) hg⟩

theorem ArticleLimits_over : Rows.articleLimitsRow.holds Tryz.pinned (OpenSpec.ofChange Rows.articleLimitsSpec) :=
  OpenClaim.holds_of_wide 4 Tryz.f4 rfl rfl rfl rfl rfl rfl rfl ⟨rfl, rfl, rfl, rfl, rfl⟩ rfl rfl rfl rfl rfl (by kernel_rfl) Tryz.func4 (by kernel_rfl)
    (of_decide_eq_true (by kernel_rfl)) (by unfold Func.isWrapper; first | (rw [if_pos (by decide +kernel)]; kernel_rfl) | (rw [if_neg (by decide +kernel)]; exact ⟨rfl, rfl⟩))
    (fun os started H enc _ => ArticleLimits_lifted os started H enc)

theorem ArticleLimits_proved : Rows.ArticleLimitsSaid := ArticleLimits_over
end Go.Proofs.YtcohgjdijhogbaaGreat
