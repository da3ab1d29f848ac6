/- For every two texts, WildmatCommon returns true: the common string of two patterns agrees with the reference, does not depend on their order, and both match it. No condition. -/
import Derived.Test.YtcknomaaikeebaaDoorWmG
import Derived.Test.YtcknomaaikeebaaDoorWmF
import Derived.Test.YtcknomaaikeebaaDoorWmQ6
import Derived.Test.YtcknomaaikeebaaDoorWmQ8
import Derived.Test.YtcknomaaikeebaaDoorWmQD
namespace Go.Proofs.YtcknomaaikeebaaDoor
set_option linter.unusedSimpArgs false
set_option linter.unusedVariables false
open Go.ChangeShapes Go.WideShapes Go.ChangeAt Go.RowKit
open Go.ChangeMaps (open_string shut_string)

theorem RPatV.shape {w : World} {s : ByteArray} {x : List Em × Nat × Int} {v : Value} (h : RPatV w s x v) : ∃ t A n c, v = .agg #[.string t, .slice A n c] := by
  rcases h with ⟨_, A, c, rfl, _⟩ | ⟨_, rfl⟩ <;> exact ⟨_, _, _, _, rfl⟩
theorem RPatV.yes {w : World} {s : ByteArray} {ps : List Em} {n : Nat} {v : Value} (h : RPatV w s (ps, n, 0) v) : RPat w s ps v := by
  rcases h with ⟨_, h⟩ | ⟨h0, _⟩
  · exact h
  · exact absurd rfl h0
/-- What both patterns and the common text have to do with each other. -/
theorem com_is {ps qs : List Em} (hp : ∀ e ∈ ps, e.Ok) (hq : ∀ e ∈ qs, e.Ok) {X : Bs} (h : comF ps qs = some X) : matchF ps X = true ∧ matchF qs X = true := by
  have hb := comF_best ps hp qs hq
  rw [h] at hb
  exact hb.1
/-- A box of two cells of the struct. -/
structure PBox (w : World) (r : Nat) (t : ByteArray) (A : Option Addr) (n c : Nat) : Prop where
  c0 : w.cell? ⟨r, 0, none⟩ = some (.string t)
  c1 : w.cell? ⟨r, 1, none⟩ = some (.slice A n c)
theorem PBox.later {w w' : World} {r : Nat} {t : ByteArray} {A : Option Addr} {n c : Nat} (h : PBox w r t A n c) (hb : Below w.heap.size w w') : PBox w' r t A n c :=
  ⟨(hb.cell (World.block_lt_of_cell? _ _ h.c0)).trans h.c0, (hb.cell (World.block_lt_of_cell? _ _ h.c1)).trans h.c1⟩
theorem PBox.new (w : World) (t : ByteArray) (A : Option Addr) (n c : Nat) (T : TypeId) : PBox (w.alloc (.cells #[.string t, .slice A n c] T)) w.heap.size t A n c :=
  ⟨by rw [Lib.cell_of_heap (heap_alloc_new w _)]; rfl, by rw [Lib.cell_of_heap (heap_alloc_new w _)]; rfl⟩

set_option maxHeartbeats 8000000 in
set_option maxRecDepth 100000 in
theorem WildmatCommon_walk (a : ByteArray) (ha : a.size ≤ maxLen) (b : ByteArray) (hb : b.size ≤ maxLen) (w : World) (hsh : w.ShapedOpen Tryd.prog) :
    Calls Tryd.prog 3 #[.string a, .string b] w fun e w' => e = .returned (.bool true) ∧ Below w.heap.size w w' := by
  have HSH := Lib.hid hsh; clear hsh
  have HC1 := Lib.hid (fun N (hN : N = ((40 : Nat) : Int)) wx => law_cut' a 40 N hN wx ha (by omega))
  have HC2 := Lib.hid (fun N (hN : N = ((40 : Nat) : Int)) wx => law_cut' b 40 N hN wx hb (by omega))
  have hx := cutB_size a 40
  have hy := cutB_size b 40
  clear ha hb
  generalize cutB a 40 = x at *
  generalize cutB b 40 = y at *
  go_enter Tryd.func3, Tryd.ntmps3
  go_wp2_with fail
  (with_reducible refine (HC1.out 40 rfl _).mono ?_)
  rintro e w' ⟨rfl, rfl⟩
  go_wp2_with fail
  (with_reducible refine (HC2.out 40 rfl _).mono ?_)
  rintro e w' ⟨rfl, rfl⟩
  go_wp2_with fail
  (with_reducible refine (wm_compile x _ (by omega)).mono ?_)
  rintro e w1 ⟨v, rfl, hv, hb1⟩
  have HR1 := Lib.hid (fun wx => rf_compile x wx (by omega))
  have HO1 := Lib.hid (compF_ok (toL x))
  have hl1 := (compF_len (toL x)).1
  unfold RCompPost at HR1
  generalize compF (toL x) = r at *
  obtain ⟨ps, n1, e1⟩ := r
  simp only at HO1 hl1 HR1 ⊢
  go_wp2_with fail
  (with_reducible refine (wm_compile y _ (by omega)).mono ?_)
  rintro e w2 ⟨u, rfl, hu, hb2⟩
  have HR2 := Lib.hid (fun wx => rf_compile y wx (by omega))
  have HO2 := Lib.hid (compF_ok (toL y))
  have hl2 := (compF_len (toL y)).1
  unfold RCompPost at HR2
  generalize compF (toL y) = r at *
  obtain ⟨qs, n2, e2⟩ := r
  simp only at HO2 hl2 HR2 ⊢
  have hw2 := hb1.trans (hb2.mono hb1.size)
  clear HC1 HC2
  have HSH2 := Lib.hid (shaped_below HSH.out hw2)
  have HW2 := Lib.hid hw2
  by_cases h12 : e1 = 0 ∧ e2 = 0
  · obtain ⟨rfl, rfl⟩ := h12
    obtain ⟨b1, rfl, hp⟩ := hv.yes
    obtain ⟨b2, rfl, hq⟩ := hu.yes
    have HP2 := Lib.hid (hp.below hb2)
    have HQ2 := Lib.hid hq
    clear hp hq hb1 hb2 hw2
    go_wp2_with fail
    (with_reducible refine (HR1.out _).mono ?_)
    rintro e w3 ⟨v3, rfl, hv3, hb3⟩
    have hr3 := hv3.yes
    obtain ⟨tx, A3, nn3, c3, rfl⟩ := hv3.shape
    have hba := hb3.trans ((alloc_bel w3 (.cells #[.string tx, .slice A3 nn3 c3] 30)).mono hb3.size)
    have HX3 := Lib.hid (PBox.new w3 tx A3 nn3 c3 30)
    have HRP3 := Lib.hid (hr3.below (alloc_bel w3 (.cells #[.string tx, .slice A3 nn3 c3] 30)))
    have HP3 := Lib.hid (HP2.out.below hba)
    have HQ3 := Lib.hid (HQ2.out.below hba)
    have HW3 := Lib.hid (HW2.out.trans (hba.mono HW2.out.size))
    clear hr3 hv3 hba hb3 HP2 HQ2 HW2 HR1
    go_wp2_with fail
    generalize w3.alloc (.cells #[.string tx, .slice A3 nn3 c3] 30) = X3 at *
    generalize w3.heap.size = r3 at *
    (with_reducible refine (HR2.out _).mono ?_)
    rintro e w4 ⟨v4, rfl, hv4, hb4⟩
    have hr4 := hv4.yes
    obtain ⟨ty, A4, nn4, c4, rfl⟩ := hv4.shape
    have hba := hb4.trans ((alloc_bel w4 (.cells #[.string ty, .slice A4 nn4 c4] 30)).mono hb4.size)
    have HX4 := Lib.hid (PBox.new w4 ty A4 nn4 c4 30)
    have HX3b := Lib.hid (HX3.out.later hba)
    have HRP4 := Lib.hid (hr4.below (alloc_bel w4 (.cells #[.string ty, .slice A4 nn4 c4] 30)))
    have HRP3b := Lib.hid (HRP3.out.below hba)
    have HP4 := Lib.hid (HP3.out.below hba)
    have HQ4 := Lib.hid (HQ3.out.below hba)
    have HW4 := Lib.hid (HW3.out.trans (hba.mono HW3.out.size))
    clear hr4 hv4 hba hb4 HP3 HQ3 HW3 HR2 HX3 HRP3
    go_wp2_with fail
    generalize w4.alloc (.cells #[.string ty, .slice A4 nn4 c4] 30) = X4 at *
    generalize w4.heap.size = r4 at *
    have hK1 := wm_common b1 b2 _ _ ps qs X4 HP4.out.at HQ4.out.at HO1.out (by omega) (by omega)
    have hK2 := fun (wx : World) (h : Below X4.heap.size X4 wx) => rf_common (.agg #[.string tx, .slice A3 nn3 c3]) (.agg #[.string ty, .slice A4 nn4 c4]) x y ps qs wx (HRP3b.out.below h) (HRP4.out.below h) (by omega) (by omega) HO1.out HO2.out
    have hK3 := fun (wx : World) (h : Below X4.heap.size X4 wx) => wm_common b2 b1 _ _ qs ps wx (HQ4.out.below h).at (HP4.out.below h).at HO2.out (by omega) (by omega)
    rw [comF_comm qs ps HO2.out HO1.out] at hK3
    have hci := fun X h => com_is (ps := ps) (qs := qs) HO1.out HO2.out (X := X) h
    have hcl := comF_len ps qs
    unfold RestPost at hK1 hK3
    unfold sOf at hK2
    generalize comF ps qs = K at *
    obtain ⟨S, hS⟩ : ∃ S, S = ofL (K.getD []) := ⟨_, rfl⟩
    rw [← hS] at hK1 hK2 hK3
    have hSs : S.size ≤ 1000 := by
      rw [hS, ofL_size]
      cases hk : K with
      | none => simp
      | some X => have := hcl X hk; simp; omega
    have HMT := Lib.hid (show K.isSome = true → matchF ps (toL S) = true ∧ matchF qs (toL S) = true from by
      cases hk : K with
      | none => intro h; cases h
      | some X => intro _; rw [hS, hk, toL_ofL]; exact hci X hk)
    generalize K.isSome = k at *
    have HK1 := Lib.hid hK1; have HK2 := Lib.hid hK2; have HK3 := Lib.hid hK3
    clear hK1 hK2 hK3 hci hcl hS
    have gS : (S.toList == S.toList) = true := by simp
    (with_reducible refine HK1.out.mono ?_)
    rintro e w5 ⟨rfl, hb5⟩
    have HX5 := Lib.hid (HX3b.out.later hb5)
    have HX6 := Lib.hid (HX4.out.later hb5)
    have k0 := HX5.out.c0; have k1 := HX5.out.c1; have k2 := HX6.out.c0; have k3 := HX6.out.c1
    have HB5 := Lib.hid hb5
    clear hb5 HK1
    go_wp2_with fail
    (with_reducible refine (HK2.out w5 HB5.out).mono ?_)
    rintro e w6 ⟨rfl, hb6⟩
    have HB6 := Lib.hid (HB5.out.trans (hb6.mono HB5.out.size))
    clear hb6 HB5 HK2 k0 k1 k2 k3 HX5 HX6
    go_wp2_with fail
    (with_reducible refine (HK3.out w6 HB6.out).mono ?_)
    rintro e w7 ⟨rfl, hb7⟩
    have HB7 := Lib.hid (HB6.out.trans (hb7.mono HB6.out.size))
    clear hb7 HB6 HK3
    have HW7 := Lib.hid (HW4.out.trans (HB7.out.mono HW4.out.size))
    go_wp2_with fail
    (with_reducible refine (law_known w7 (shaped_below HSH.out HW7.out)).mono ?_)
    rintro e w8 ⟨rfl, hb8⟩
    have HB8 := Lib.hid (HB7.out.trans (hb8.mono HB7.out.size))
    have HW8 := Lib.hid (HW7.out.trans (hb8.mono HW7.out.size))
    clear hb8 HB7 HW7
    cases k with
    | false =>
      go_wp2_with fail
      go_ret
      exact ⟨rfl, HW8.out⟩
    | true =>
      obtain ⟨m1, m2⟩ := HMT.out rfl
      have HM1 := Lib.hid (pat_match b1 _ ps S w8 (HP4.out.below HB8.out).at (by omega) HO1.out (by omega))
      have HM2 := Lib.hid (fun (wx : World) (h : Below X4.heap.size X4 wx) => pat_match b2 _ qs S wx (HQ4.out.below h).at (by omega) HO2.out (by omega))
      rw [m1] at HM1
      rw [m2] at HM2
      clear m1 m2
      go_wp2_with fail
      (with_reducible refine HM1.out.mono ?_)
      rintro e w9 ⟨rfl, hb9⟩
      have HB9 := Lib.hid (HB8.out.trans (hb9.mono HB8.out.size))
      have HW9 := Lib.hid (HW8.out.trans (hb9.mono HW8.out.size))
      clear hb9 HB8 HW8 HM1
      go_wp2_with fail
      (with_reducible refine (HM2.out w9 HB9.out).mono ?_)
      rintro e w10 ⟨rfl, hb10⟩
      have HW10 := Lib.hid (HW9.out.trans (hb10.mono HW9.out.size))
      clear hb10
      go_wp2_with fail
      go_ret
      exact ⟨rfl, HW10.out⟩
  · have h12' : (e1 != 0) = true ∨ ((e1 != 0) = false ∧ (e2 != 0) = true) := by
      by_cases h1 : e1 = 0
      · exact .inr ⟨by simp [h1], by simp only [bne_iff_ne]; intro h2; exact h12 ⟨h1, h2⟩⟩
      · exact .inl (by simp only [bne_iff_ne]; exact h1)
    have HKN := Lib.hid (law_known w2 HSH2.out)
    clear h12 hb1 hb2 hw2 hv hu HR1 HR2
    rcases h12' with g | ⟨g, g'⟩
    all_goals
      go_wp2_with fail
      (with_reducible refine HKN.out.mono ?_)
      rintro e w3 ⟨rfl, hb3⟩
      have hw3 := HW2.out.trans (hb3.mono HW2.out.size)
      clear hb3
      go_wp2_with fail
      go_ret
      exact ⟨rfl, hw3⟩

set_option maxRecDepth 100000 in
theorem WildmatCommon_contract (H : Type) (enc : TypeId × Value → H) (W : World) (base : Nat) (args : Array Value) (ds gs : List (DataW H)) (before : List MemPlace)
    (hval0 : ∀ (j : Nat) t v, Tryd.f3.params[j]? = some t → args[j]? = some v → Value.okWide Tryd.prog W .any base t v)
    (hW : DataW.Whole enc Tryd.prog Tryd.f3.params.toList Rows.wildmatCommonSpec.vars false W args.toList ds gs before) (hsh : W.ShapedOpen Tryd.prog) :
    Calls Tryd.prog 3 args W fun e W' => ∃ v, e = .returned v ∧ Rows.wildmatCommonSpec.post enc Tryd.prog Tryd.f3 false true false false W args v W' := by
  have hval : ∀ (j : Nat) t v, Tryd.f3.params[j]? = some t → args[j]? = some v → Value.okWide Tryd.prog W .any base t v := hval0
  have hW' := hW
  obtain ⟨p, q, hA0, hV, rfl, hfz, hnd⟩ := hW
  have hA : DataW.TrodAll enc Tryd.prog W 0 (fun _ => true) true Tryd.f3.params.toList args.toList ds p := hA0
  rw [Tryd.params3] at hA hval
  obtain ⟨v0, vs0, d0, ds0, p0, q0, hargs, rfl, rfl, h0, r0⟩ := trodAll_cons hA
  obtain ⟨v1, vs1, d1, ds1, p1, q1, rfl, rfl, rfl, h1, r1⟩ := trodAll_cons r0
  obtain ⟨rfl, rfl, rfl⟩ := trodAll_nil r1
  obtain rfl : args = #[v0, v1] := by cases args; simp_all
  obtain ⟨rfl, rfl⟩ := trodVars_none hV
  obtain ⟨a0, rfl, rfl, rfl, w0⟩ := open_string Tryd.underlying9 (hval 0 9 v0 rfl rfl) h0
  obtain ⟨a1, rfl, rfl, rfl, w1⟩ := open_string Tryd.underlying9 (hval 1 9 v1 rfl rfl) h1
  refine (WildmatCommon_walk a0 w0 a1 w1 W hsh).mono fun e W' ⟨he, hg⟩ => ?_
  subst he
  exact ⟨_, rfl, law_post hW' rfl rfl rfl (by decide +kernel) hg⟩

theorem WildmatCommon_reads (os : Os) {H : Type} (enc : TypeId × Value → H) : ∃ places, DataW.whole enc Tryd.prog ((laidWorld os).forCall (fun _ _ => 0) ⟨#[], #[.string ByteArray.empty, .string ByteArray.empty], []⟩).memory Tryd.f3.params.toList Rows.wildmatCommonSpec.vars false ((#[.string ByteArray.empty, .string ByteArray.empty] : Array Value)).toList 8 = some ([.lit (.string []), .lit (.string [])], [], places) :=
  ⟨[], by kernel_rfl⟩

set_option maxRecDepth 100000 in
theorem WildmatCommon_lifted (os : Os) (started : os.Started) (H : Type) (enc : TypeId × Value → H) (F : Stop.Interp) :
    ReturnsInHanded {} Tryd.checked os 3 .any ((OpenSpec.ofChange Rows.wildmatCommonSpec).preRow enc Tryd.prog Tryd.f3 Rows.wildmatCommonRow.domain false Rows.wildmatCommonRow.laid) (((OpenSpec.ofChange Rows.wildmatCommonSpec).at F).post enc Tryd.prog Tryd.f3 false true false false) := by
  obtain ⟨places, hx⟩ := WildmatCommon_reads os enc
  refine returnsInHanded_of_row (C := Tryd.checked) (s := OpenSpec.ofChange Rows.wildmatCommonSpec) own started (by kernel_rfl) Tryd.func3
    (witness_row_at (enc := enc) (C := Tryd.checked) false (laidWorld os) #[.string ByteArray.empty, .string ByteArray.empty] rfl (by kernel_rfl) (by kernel_rfl) (by kernel_rfl)
      (OpenSpec.preRow_of_cond 8 hx (by kernel_rfl) (fun k hk => by cases hk) (by kernel_rfl) (laid_met os #[.string ByteArray.empty, .string ByteArray.empty]))) ?_
  intro W base args ds gs before hval hW _ _ _ hL hsh _
  exact WildmatCommon_contract H enc W base args ds gs before hval hW hsh

theorem WildmatCommon_said : Rows.WildmatCommonSaid :=
  OpenClaim.holds_of_cond 3 Tryd.f3 rfl rfl rfl rfl rfl rfl rfl ⟨rfl, rfl, rfl, rfl, rfl⟩ rfl rfl rfl rfl rfl (by kernel_rfl) Tryd.func3 (by kernel_rfl)
    (of_decide_eq_true (by kernel_rfl)) (by unfold Func.isWrapper; first | (rw [if_pos (by decide +kernel)]; kernel_rfl) | (rw [if_neg (by decide +kernel)]; exact ⟨rfl, rfl⟩))
    (fun os started H enc _ F => by rw [OpenClaim.pre_eq_preRow]; exact WildmatCommon_lifted os started H enc F)

theorem WildmatCommon_plain (f : FuncId) (fn : Func) (hf : Tryd.pinned.checked.prog.funcNamed Rows.wildmatCommonRow.func = some f) (hfn : Tryd.pinned.checked.prog.funcs[f]? = some fn) :
    true = Tryd.pinned.checked.prog.looks [] ∧ ∀ (j : Nat) t, fn.params[j]? = some t → Tryd.pinned.checked.prog.wantsStandIn t = false := by
  obtain rfl : f = 3 := Option.some.inj ((show Tryd.prog.funcNamed Rows.wildmatCommonRow.func = some 3 by kernel_rfl).symm.trans hf) |>.symm
  obtain rfl : fn = Tryd.f3 := (Option.some.inj (Tryd.func3.symm.trans hfn)).symm
  refine ⟨by kernel_rfl, fun j t ht => ?_⟩
  rw [Tryd.params3] at ht
  have hm := Array.mem_of_getElem? ht
  simp only [List.mem_toArray, List.mem_cons, List.not_mem_nil, or_false] at hm
  rcases hm with rfl | rfl
  · exact (show Tryd.prog.wantsStandIn 9 = false by kernel_rfl)
  · exact (show Tryd.prog.wantsStandIn 9 = false by kernel_rfl)

theorem WildmatCommon_proved : Rows.WildmatCommonCardSaid :=
  Claim7.holds_tied_plain_at .later [] _ _ _ _ WildmatCommon_said (fun _ h => by cases h) (by kernel_rfl) (fun _ h => by cases h) wildmatCommon_row_tie rfl ⟨rfl, rfl⟩ (by kernel_rfl) rfl WildmatCommon_plain (by kernel_rfl)
end Go.Proofs.YtcknomaaikeebaaDoor
