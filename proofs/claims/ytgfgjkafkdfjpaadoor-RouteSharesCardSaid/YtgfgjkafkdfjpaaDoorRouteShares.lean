/- For every list of names and any two names, RouteShares returns true: routes that grow from one route share it as their common end. No condition. -/
import Derived.Test.YtgfgjkafkdfjpaaDoorRouteL
import Derived.Test.YtgfgjkafkdfjpaaDoorCommonP
namespace Go.Proofs.YtgfgjkafkdfjpaaDoor
set_option linter.unusedSimpArgs false
set_option linter.unusedVariables false
open Go.ChangeShapes Go.WideShapes Go.ChangeAt Go.RowKit
open Go.ChangeMaps (open_string shut_string)

theorem lastAt_cons (x : Bs) (l : List Bs) (i : Nat) (h : i < l.length) : lastAt (x :: l) i = lastAt l i := by
  unfold lastAt
  rw [List.length_cons, show l.length + 1 - 1 - i = (l.length - 1 - i) + 1 from by omega]
  rfl
theorem common_shares (x y : Bs) (l : List Bs) (h : x ≠ y) : commonR (x :: l) (y :: l) = l := by
  have hc : IsCommon (x :: l) (y :: l) l.length := by
    refine ⟨by simp, by simp, fun i hi => by rw [lastAt_cons _ _ _ hi, lastAt_cons _ _ _ hi], .inr (.inr ?_)⟩
    unfold lastAt
    simpa using h
  have e : commonN (x :: l) (y :: l) = l.length := (common_is _ _).uniq hc
  rw [commonR, e]; simp
theorem prep_ok (l : List Bs) (s : Bs) (hl : l.length ≤ 40) (h : (prependR l s).2 = 0) : (prependR l s).1 = s :: l := by
  unfold prependR at h ⊢
  split at h
  · rename_i h1; exact absurd h h1
  · rename_i h1
    split at h
    · rename_i h2; exact absurd h h2
    · rename_i h2
      rw [if_neg h1, if_neg h2]
      exact List.take_of_length_le (by simp; omega)
theorem SizedS.take {l : List Bs} {c : Nat} (h : SizedS l c) (k : Nat) : SizedS (l.take k) c := ⟨by have := h.1; simp; omega, h.2.1, fun x hx => h.2.2 x (List.mem_of_mem_take hx)⟩

set_option maxHeartbeats 4000000 in
set_option maxRecDepth 100000 in
theorem RouteShares_walk (A : Option Addr) (l : List Bs) (c : Nat) {w : World} (hr : Row w A (strsL l)) (hs : SizedS l c) (one : ByteArray) (ho : one.size ≤ maxLen) (two : ByteArray) (ht : two.size ≤ maxLen) (_ : World) (hsh : w.ShapedOpen Tryd.prog) :
    Calls Tryd.prog 10 #[.slice A l.length c, .string one, .string two] w fun e w' => e = .returned (.bool true) ∧ Below w.heap.size w w' := by
  have HSH := Lib.hid hsh; clear hsh
  unfold maxLen at ho ht
  have HK := Lib.hid (show (min (l.length : Int) 40).toNat = (l.take 40).length by simp; omega)
  have HC := Lib.hid (cut_any A (l.take 40) c w (strs_take hr 40) (hs.take 40))
  have HT := Lib.hid (cutS_tame (l.take 40))
  have hlen : (cutS (l.take 40)).length ≤ 40 := by rw [cutS_length]; simp; omega
  have m1 : (0 : Int) ≤ min (l.length : Int) 40 := by omega
  have m2 : min (l.length : Int) 40 ≤ (c : Int) := by have := hs.1; omega
  have n1 : (0 : Int) ≤ min (one.size : Int) 40 := by omega
  have n2 : min (one.size : Int) 40 ≤ (one.size : Int) := by omega
  have n3 : (0 : Int) ≤ min (two.size : Int) 40 := by omega
  have n4 : min (two.size : Int) 40 ≤ (two.size : Int) := by omega
  have hx1 : (one.extract 0 (min (one.size : Int) 40).toNat).size ≤ 1000000 := by rw [extract_size _ _ _ (by omega)]; omega
  have hx2 : (two.extract 0 (min (two.size : Int) 40).toNat).size ≤ 1000000 := by rw [extract_size _ _ _ (by omega)]; omega
  clear hr hs
  go_enter Tryd.func10, Tryd.ntmps10
  go_wp2_with fail
  rw [HK.out]
  (with_reducible refine HC.out.mono ?_)
  rintro e w1 ⟨A1, c1, rfl, hcap1, hrow1, hw1⟩
  have HR1 := Lib.hid hrow1; clear hrow1 HC HK
  generalize cutS (l.take 40) = L at *
  go_wp2_with fail
  generalize one.extract 0 (min (one.size : Int) 40).toNat = x at *
  have HPX := Lib.hid (prep_ok L (toL x) hlen)
  (with_reducible refine (rt_prepend A1 L c1 x w1 HR1.out HT.out hx1).mono ?_)
  rintro e w2 ⟨v2, rfl, hF2⟩
  obtain ⟨A2, c2, rfl, hcap2, hrow2⟩ := own_row_cap hF2.own
  have hb2 := hF2.bel
  have hw2 := hw1.trans (hb2.mono hw1.size)
  have HR2 := Lib.hid (HR1.out.below hb2)
  have HA2 := Lib.hid hrow2
  clear HR1 hrow2 hF2
  go_wp2_with fail
  generalize two.extract 0 (min (two.size : Int) 40).toNat = y at *
  have HPY := Lib.hid (prep_ok L (toL y) hlen)
  (with_reducible refine (rt_prepend A1 L c1 y w2 HR2.out HT.out hx2).mono ?_)
  rintro e w3 ⟨v3, rfl, hF3⟩
  obtain ⟨A3, c3, rfl, hcap3, hrow3⟩ := own_row_cap hF3.own
  have hb3 := hF3.bel
  have hw3 := hw2.trans (hb3.mono hw2.size)
  have HR3 := Lib.hid (HR2.out.below hb3)
  have HA3 := Lib.hid (HA2.out.below hb3)
  have HB3 := Lib.hid hrow3
  clear HR2 HA2 hrow3 hF3 m1 m2 n1 n2 n3 n4 ho ht
  generalize prependR L (toL x) = px at *
  generalize prependR L (toL y) = py at *
  obtain ⟨LX, ex⟩ := px
  obtain ⟨LY, ey⟩ := py
  simp only at HPX HPY HA3 HB3 hcap2 hcap3 ⊢
  by_cases h1 : ex = 0
  · subst h1
    by_cases h2 : ey = 0
    · subst h2
      have hLX : LX = toL x :: L := HPX.out rfl
      have hLY : LY = toL y :: L := HPY.out rfl
      subst hLX hLY
      simp only [List.length_cons] at hcap2 hcap3 ⊢
      obtain ⟨b2, o2, rfl, q2⟩ := HA3.out.str (k := 0) (by simp) (x := x) (by simp [ofL_toL])
      obtain ⟨b3, o3, rfl, q3⟩ := HB3.out.str (k := 0) (by simp) (x := y) (by simp [ofL_toL])
      rw [Nat.add_zero] at q2 q3
      have z1 : (((L.length + 1 : Nat) : Int) == 0) = false := beq_eq_false_iff_ne.2 (by omega)
      have z2 : (0 : Int) < ((L.length + 1 : Nat) : Int) := by omega
      have HLN := Lib.hid (show (toL x :: L).length = L.length + 1 from rfl)
      have HLN2 := Lib.hid (show (toL y :: L).length = L.length + 1 from rfl)
      generalize hn : L.length + 1 = n at *
      have HN := Lib.hid hn
      clear hn
      rcases e1 : (x.toList == y.toList) with _ | _
      · have HCS := Lib.hid (common_shares (toL x) (toL y) L (by rw [beq_toList] at e1; simpa using e1))
        go_wp2_with fail
        go_quiet (fail)
        have hw4 := below_drewN hw3 nq
        have HR4 := Lib.hid (HR3.out.below (below_drewN (Below.refl _ _) nq))
        have HA4 := Lib.hid (HA3.out.below (below_drewN (Below.refl _ _) nq))
        have HB4 := Lib.hid (HB3.out.below (below_drewN (Below.refl _ _) nq))
        generalize w3.drewN nq = w4 at *
        have HSH4 := Lib.hid (shaped_below HSH.out hw4)
        clear q2 q3
        go_wp2_with fail
        (with_reducible refine (law_known w4 HSH4.out).mono ?_)
        rintro e w5 ⟨rfl, hb5⟩
        have hw5 := hw4.trans (hb5.mono hw4.size)
        have HR5 := Lib.hid (HR4.out.below hb5)
        have HA5 := Lib.hid (HA4.out.below hb5)
        have HB5 := Lib.hid (HB4.out.below hb5)
        have HCC := Lib.hid (rt_common (some ⟨b2, o2, none⟩) (some ⟨b3, o3, none⟩) (toL x :: L) (toL y :: L) c2 c3 w5 HA5.out HB5.out (by rw [HLN.out]; have := HN.out; omega) (by rw [HLN2.out]; have := HN.out; omega) (by rw [HLN.out]; omega))
        rw [HLN.out, HLN2.out, HCS.out] at HCC
        go_wp2_with fail
        (with_reducible refine HCC.out.mono ?_)
        rintro e w6 ⟨v6, rfl, hF6⟩
        obtain ⟨A6, c6, rfl, hrow6⟩ := own_row hF6.own
        have hb6 := hF6.bel
        have hw6 := hw5.trans (hb6.mono hw5.size)
        have HR6 := Lib.hid (HR5.out.below hb6)
        have HD6 := Lib.hid hrow6
        clear hrow6 hF6
        go_wp2_with fail
        (with_reducible refine (refs_same A6 A1 L L c6 c1 w6 HD6.out HR6.out (by omega) (by omega)).mono ?_)
        rintro e w7 ⟨rfl, hb7⟩
        simp only [decide_true]
        go_wp2_with fail
        go_ret
        exact ⟨ret_bool (by simp), hw6.trans (hb7.mono hw6.size)⟩
      · go_wp2_with fail
        go_quiet (fail)
        have hw4 := below_drewN hw3 nq
        generalize w3.drewN nq = w4 at *
        have HSH4 := Lib.hid (shaped_below HSH.out hw4)
        go_wp2_with fail
        (with_reducible refine (law_known w4 HSH4.out).mono ?_)
        rintro e w5 ⟨rfl, hb5⟩
        go_wp2_with fail
        go_ret
        exact ⟨rfl, hw4.trans (hb5.mono hw4.size)⟩
    · have h2' : (ey != 0) = true := by simpa using h2
      clear h2
      go_wp2_with fail
      go_quiet (fail)
      have hw4 := below_drewN hw3 nq
      generalize w3.drewN nq = w4 at *
      have HSH4 := Lib.hid (shaped_below HSH.out hw4)
      go_wp2_with fail
      (with_reducible refine (law_known w4 HSH4.out).mono ?_)
      rintro e w5 ⟨rfl, hb5⟩
      go_wp2_with fail
      go_ret
      exact ⟨rfl, hw4.trans (hb5.mono hw4.size)⟩
  · have h1' : (ex != 0) = true := by simpa using h1
    clear h1
    go_wp2_with fail
    go_quiet (fail)
    have hw4 := below_drewN hw3 nq
    generalize w3.drewN nq = w4 at *
    have HSH4 := Lib.hid (shaped_below HSH.out hw4)
    go_wp2_with fail
    (with_reducible refine (law_known w4 HSH4.out).mono ?_)
    rintro e w5 ⟨rfl, hb5⟩
    go_wp2_with fail
    go_ret
    exact ⟨rfl, hw4.trans (hb5.mono hw4.size)⟩

set_option maxRecDepth 100000 in
theorem RouteShares_contract (H : Type) (enc : TypeId × Value → H) (W : World) (base : Nat) (args : Array Value) (ds gs : List (DataW H)) (before : List MemPlace)
    (hval0 : ∀ (j : Nat) t v, Tryd.f10.params[j]? = some t → args[j]? = some v → Value.okWide Tryd.prog W .any base t v)
    (hW : DataW.Whole enc Tryd.prog Tryd.f10.params.toList Rows.routeSharesSpec.vars false W args.toList ds gs before) (hsh : W.ShapedOpen Tryd.prog) :
    Calls Tryd.prog 10 args W fun e W' => ∃ v, e = .returned v ∧ Rows.routeSharesSpec.post enc Tryd.prog Tryd.f10 false true false false W args v W' := by
  have hval : ∀ (j : Nat) t v, Tryd.f10.params[j]? = some t → args[j]? = some v → Value.okWide Tryd.prog W .any base t v := hval0
  have hW' := hW
  obtain ⟨p, q, hA0, hV, rfl, hfz, hnd⟩ := hW
  have hA : DataW.TrodAll enc Tryd.prog W 0 (fun _ => true) true Tryd.f10.params.toList args.toList ds p := hA0
  rw [Tryd.params10] at hA hval
  obtain ⟨v0, vs0, d0, ds0, p0, q0, hargs, rfl, rfl, h0, r0⟩ := trodAll_cons hA
  obtain ⟨v1, vs1, d1, ds1, p1, q1, rfl, rfl, rfl, h1, r1⟩ := trodAll_cons r0
  obtain ⟨v2, vs2, d2, ds2, p2, q2, rfl, rfl, rfl, h2, r2⟩ := trodAll_cons r1
  obtain ⟨rfl, rfl, rfl⟩ := trodAll_nil r2
  obtain rfl : args = #[v0, v1, v2] := by cases args; simp_all
  obtain ⟨rfl, rfl⟩ := trodVars_none hV
  obtain ⟨A0, l0, c0, hv0, hrow0, hsz0⟩ := open_strs Tryd.underlying22 Tryd.underlying9 (by kernel_rfl) (hval 0 22 v0 rfl rfl) h0
  subst hv0
  obtain ⟨a1, rfl, rfl, rfl, w1⟩ := open_string Tryd.underlying9 (hval 1 9 v1 rfl rfl) h1
  obtain ⟨a2, rfl, rfl, rfl, w2⟩ := open_string Tryd.underlying9 (hval 2 9 v2 rfl rfl) h2
  refine (RouteShares_walk A0 l0 c0 hrow0 hsz0 a1 w1 a2 w2 W hsh).mono fun e W' ⟨he, hg⟩ => ?_
  subst he
  exact ⟨_, rfl, law_post hW' rfl rfl rfl (by decide +kernel) hg⟩

theorem RouteShares_reads (os : Os) {H : Type} (enc : TypeId × Value → H) : ∃ places, DataW.whole enc Tryd.prog ((laidWorld os).forCall (fun _ _ => 0) ⟨#[], #[.slice none 0 0, .string ByteArray.empty, .string ByteArray.empty], []⟩).memory Tryd.f10.params.toList Rows.routeSharesSpec.vars false ((#[.slice none 0 0, .string ByteArray.empty, .string ByteArray.empty] : Array Value)).toList 8 = some ([.nil, .lit (.string []), .lit (.string [])], [], places) :=
  ⟨[], by kernel_rfl⟩

set_option maxRecDepth 100000 in
theorem RouteShares_lifted (os : Os) (started : os.Started) (H : Type) (enc : TypeId × Value → H) (F : Stop.Interp) :
    ReturnsInHanded {} Tryd.checked os 10 .any ((OpenSpec.ofChange Rows.routeSharesSpec).preRow enc Tryd.prog Tryd.f10 Rows.routeSharesRow.domain false Rows.routeSharesRow.laid) (((OpenSpec.ofChange Rows.routeSharesSpec).at F).post enc Tryd.prog Tryd.f10 false true false false) := by
  obtain ⟨places, hx⟩ := RouteShares_reads os enc
  refine returnsInHanded_of_row (C := Tryd.checked) (s := OpenSpec.ofChange Rows.routeSharesSpec) own started (by kernel_rfl) Tryd.func10
    (witness_row_at (enc := enc) (C := Tryd.checked) false (laidWorld os) #[.slice none 0 0, .string ByteArray.empty, .string ByteArray.empty] rfl (by kernel_rfl) (by kernel_rfl) (by kernel_rfl)
      (OpenSpec.preRow_of_cond 8 hx (by kernel_rfl) (fun k hk => by cases hk) (by kernel_rfl) (laid_met os #[.slice none 0 0, .string ByteArray.empty, .string ByteArray.empty]))) ?_
  intro W base args ds gs before hval hW _ _ _ hL hsh _
  exact RouteShares_contract H enc W base args ds gs before hval hW hsh

theorem RouteShares_said : Rows.RouteSharesSaid :=
  OpenClaim.holds_of_cond 10 Tryd.f10 rfl rfl rfl rfl rfl rfl rfl ⟨rfl, rfl, rfl, rfl, rfl⟩ rfl rfl rfl rfl rfl (by kernel_rfl) Tryd.func10 (by kernel_rfl)
    (of_decide_eq_true (by kernel_rfl)) (by unfold Func.isWrapper; first | (rw [if_pos (by decide +kernel)]; kernel_rfl) | (rw [if_neg (by decide +kernel)]; exact ⟨rfl, rfl⟩))
    (fun os started H enc _ F => by rw [OpenClaim.pre_eq_preRow]; exact RouteShares_lifted os started H enc F)

theorem RouteShares_plain (f : FuncId) (fn : Func) (hf : Tryd.pinned.checked.prog.funcNamed Rows.routeSharesRow.func = some f) (hfn : Tryd.pinned.checked.prog.funcs[f]? = some fn) :
    false = Tryd.pinned.checked.prog.looks [] ∧ ∀ (j : Nat) t, fn.params[j]? = some t → Tryd.pinned.checked.prog.wantsStandIn t = false := by
  obtain rfl : f = 10 := Option.some.inj ((show Tryd.prog.funcNamed Rows.routeSharesRow.func = some 10 by kernel_rfl).symm.trans hf) |>.symm
  obtain rfl : fn = Tryd.f10 := (Option.some.inj (Tryd.func10.symm.trans hfn)).symm
  refine ⟨by kernel_rfl, fun j t ht => ?_⟩
  rw [Tryd.params10] at ht
  have hm := Array.mem_of_getElem? ht
  simp only [List.mem_toArray, List.mem_cons, List.not_mem_nil, or_false] at hm
  rcases hm with rfl | rfl | rfl
  · exact (show Tryd.prog.wantsStandIn 22 = false by kernel_rfl)
  · exact (show Tryd.prog.wantsStandIn 9 = false by kernel_rfl)
  · exact (show Tryd.prog.wantsStandIn 9 = false by kernel_rfl)

theorem RouteShares_proved : Rows.RouteSharesCardSaid :=
  Claim7.holds_tied_plain_at .later [] _ _ _ _ RouteShares_said (fun _ h => by cases h) (by kernel_rfl) (fun _ h => by cases h) routeShares_row_tie rfl ⟨rfl, rfl⟩ (by kernel_rfl) rfl RouteShares_plain (by kernel_rfl)

end Go.Proofs.YtgfgjkafkdfjpaaDoor
