/- For every list of names, RouteChecks returns true: Check and String agree with the reference, and Parse is the inverse of String for valid routes. No condition. -/
import Derived.Test.YtgfgjkafkdfjpaaDoorRouteL
namespace Go.Proofs.YtgfgjkafkdfjpaaDoor
set_option linter.unusedSimpArgs false
set_option linter.unusedVariables false
open Go.ChangeShapes Go.WideShapes Go.ChangeAt Go.RowKit
open Go.ChangeMaps (open_string shut_string)

theorem joinM_snoc (l : List Bs) (x : Bs) (h : l ≠ []) : joinM (l ++ [x]) = joinM l ++ 33 :: x := by
  induction l with
  | nil => exact absurd rfl h
  | cons y r ih =>
    cases r with
    | nil => rfl
    | cons z r =>
      have := ih (by simp)
      simp only [List.cons_append, joinM] at this ⊢
      rw [this]; simp
theorem joinM_take (l : List Bs) (k : Nat) (h : k < l.length) (h0 : 0 < k) : joinM (l.take (k + 1)) = joinM (l.take k) ++ 33 :: l[k] := by
  rw [List.take_succ_eq_append_getElem h, joinM_snoc _ _ (fun e => by have h1 := congrArg List.length e; rw [List.length_take, List.length_nil] at h1; omega)]
theorem joinM_take_le (l : List Bs) : ∀ k, (joinM (l.take k)).length ≤ (joinM l).length := by
  induction l with
  | nil => intro k; simp
  | cons x r ih =>
    intro k
    cases k with
    | zero => simp [joinM]
    | succ k =>
      cases r with
      | nil => simp [joinM]
      | cons y r =>
        have := ih k
        cases k with
        | zero => simp [joinM]
        | succ k => simp [joinM] at this ⊢; omega

set_option maxHeartbeats 2000000 in
set_option maxRecDepth 100000 in
theorem refr_text (A : Option Addr) (l : List Bs) (c : Nat) (w : World) (hr : Row w A (strsL l)) (hl : l.length ≤ 1000) (hj : (joinM l).length ≤ 1000000) :
    Calls Tryd.prog 19 #[.slice A l.length c] w fun e w' => e = .returned (.string (ofL (joinM l))) ∧ w = w' := by
  have HR := Lib.hid hr; clear hr
  have HJ := Lib.hid hj; clear hj
  go_enter Tryd.func19, Tryd.ntmps19
  go_wp2_with fail
  go_loop [3, 4] (fun o ix => ∃ (k : Nat) (out : ByteArray), k ≤ l.length ∧ ix = .int .i64 k ∧ o = .string out ∧ toL out = joinM (l.take k)) (fun _ ix => l.length - (intOf ix).toNat)
  case atStart => exact ⟨0, ⟨#[]⟩, by omega, rfl, rfl, by simp [joinM, toL]⟩
  case round =>
    obtain ⟨k, out, hk, rfl, rfl, ho⟩ := hrel
    have HO := Lib.hid ho
    have hos : out.size ≤ 1000000 := by rw [← toL_length, ho]; exact Nat.le_trans (joinM_take_le l k) HJ.out
    clear ho
    by_cases hlt : k < l.length
    · have hk1 : (0 : Int) ≤ (k : Int) := by omega
      have hk2 : (k : Int) < (l.length : Int) := by omega
      obtain ⟨x, hx⟩ : ∃ x, ofL l[k] = x := ⟨_, rfl⟩
      have hxL : l[k] = toL x := by rw [← hx, toL_ofL]
      obtain ⟨b, off, rfl, hcell⟩ := HR.out.str hlt hx
      have hnx := joinM_take_le l (k + 1)
      by_cases h0 : k = 0
      · subst h0
        have HN := Lib.hid (show joinM (l.take 1) = toL x by rw [List.take_succ_eq_append_getElem hlt]; simp [joinM, hxL])
        have hxs : x.size ≤ 1000000 := by
          have := HJ.out
          rw [HN.out, toL_length] at hnx; omega
        rw [Nat.add_zero] at hcell
        clear hx hxL hnx
        have hs1 : out.size + x.size ≤ 4000000 := by omega
        go_wp2_with fail
        go_round
        case rel => exact ⟨1, out ++ x, by omega, rfl, rfl, by
          have h1 : toL (out ++ x) = toL out ++ toL x := by simp [toL]
          rw [h1, HO.out, HN.out]; simp [joinM]⟩
        case measure => simp [intOf] <;> omega
      · have HN := Lib.hid (show joinM (l.take (k + 1)) = joinM (l.take k) ++ 33 :: toL x by rw [joinM_take l k hlt (by omega), hxL])
        have hxs : x.size ≤ 1000000 := by
          have := HJ.out
          rw [HN.out] at hnx; simp [toL_length] at hnx; omega
        have h0' : decide ((0 : Int) < (k : Int)) = true := by simp; omega
        clear hx hxL hnx
        have hs1 : out.size + 1 ≤ 4000000 := by omega
        have hs2 : out.size + 1 + x.size ≤ 4000000 := by omega
        go_wp2_with fail
        go_round
        case rel => exact ⟨k + 1, out ++ ⟨#[33]⟩ ++ x, by omega, by go_num, rfl, by
          have h1 : toL (out ++ ⟨#[33]⟩ ++ x) = toL out ++ 33 :: toL x := by simp [toL]
          rw [h1, HO.out, HN.out]⟩
        case measure => simp [intOf] <;> omega
    · have HE := Lib.hid (show joinM (l.take k) = joinM l by rw [List.take_of_length_le (by omega)])
      go_wp2_with fail
      go_ret
      exact ⟨by rw [← HE.out, ← HO.out, ofL_toL]; rfl, rfl⟩

set_option maxHeartbeats 4000000 in
set_option maxRecDepth 100000 in
theorem RouteChecks_walk (A : Option Addr) (l : List Bs) (c : Nat) {w : World} (hr : Row w A (strsL l)) (hs : SizedS l c) (_ : World) (hsh : w.ShapedOpen Tryd.prog) :
    Calls Tryd.prog 4 #[.slice A l.length c] w fun e w' => e = .returned (.bool true) ∧ Below w.heap.size w w' := by
  have HSH := Lib.hid hsh; clear hsh
  have HC := Lib.hid (cut_any A l c w hr hs)
  have HT := Lib.hid (cutS_tame l)
  have hlen : (cutS l).length ≤ 60 := by rw [cutS_length]; omega
  clear hr hs
  go_enter Tryd.func4, Tryd.ntmps4
  go_wp2_with fail
  (with_reducible refine HC.out.mono ?_)
  rintro e w1 ⟨A1, c1, rfl, hcap1, hrow1, hw1⟩
  have HR1 := Lib.hid hrow1; clear hrow1 HC
  have HJ := Lib.hid (cutS_join l)
  have HJ2 := Lib.hid (show (joinM (cutS l)).length ≤ 100000 by
    have h := joinM_le (cutS l) 40 (fun x hx => by
      simp only [cutS, List.mem_map] at hx
      obtain ⟨y, _, rfl⟩ := hx
      rw [List.length_take]; omega)
    omega)
  generalize cutS l = L at *
  have HPJ := Lib.hid (parse_join L)
  go_wp2_with fail
  (with_reducible refine (rt_string A1 L c1 w1 HR1.out hcap1 HJ.out (by omega)).mono ?_)
  rintro e w2 ⟨rfl, hb2⟩
  have hw2 := hw1.trans (hb2.mono hw1.size)
  have HR2 := Lib.hid (HR1.out.below hb2); clear HR1
  obtain ⟨s, hs⟩ : ∃ s, ofL (joinM L) = s := ⟨_, rfl⟩
  have HS := Lib.hid (show joinM L = toL s by rw [← hs, toL_ofL])
  have HS2 := Lib.hid hs
  rw [hs]
  clear hs
  have hss : s.size ≤ 100000 := by rw [← toL_length, ← HS.out]; exact HJ2.out
  go_wp2_with fail
  (with_reducible refine (rt_check A1 L c1 w2 HR2.out HT.out).mono ?_)
  rintro e w' ⟨rfl, rfl⟩
  go_wp2_with fail
  (with_reducible refine (refr_check A1 L c1 w2 HR2.out HT.out).mono ?_)
  rintro e w' ⟨rfl, rfl⟩
  have hne : (checkR L != checkR L) = false := by simp
  go_wp2_with fail
  (with_reducible refine (refr_text A1 L c1 w2 HR2.out (by omega) HJ.out).mono ?_)
  rintro e w' ⟨rfl, rfl⟩
  rw [HS2.out]
  have hse : (s.toList == s.toList) = true := by simp
  go_wp2_with fail
  (with_reducible refine (rt_check A1 L c1 w2 HR2.out HT.out).mono ?_)
  rintro e w' ⟨rfl, rfl⟩
  have HSH2 := Lib.hid (shaped_below HSH.out hw2)
  by_cases h0 : checkR L = 0
  · have h0' : (checkR L != 0) = false := by simp [h0]
    have HP := Lib.hid (show parseR (toL s) = (L, 0, 0) by rw [← HS.out]; exact HPJ.out h0)
    clear h0
    go_wp2_with fail
    (with_reducible refine (rt_parse s w2 HSH2.out hss).mono ?_)
    rintro e w3 ⟨v3, rfl, hF3⟩
    rw [HP.out] at hF3 ⊢
    simp only at hF3 ⊢
    obtain ⟨A3, c3, rfl, hrow3⟩ := own_row hF3.own
    have hb3 := hF3.bel
    have hw3 := hw2.trans (hb3.mono hw2.size)
    have HR3 := Lib.hid (HR2.out.below hb3)
    have HB3 := Lib.hid hrow3
    clear HR2 hrow3 hF3
    have HSH3 := Lib.hid (shaped_below HSH.out hw3)
    go_wp2_with fail
    (with_reducible refine (law_known w3 HSH3.out).mono ?_)
    rintro e w4 ⟨rfl, hb4⟩
    have hw4 := hw3.trans (hb4.mono hw3.size)
    have HR4 := Lib.hid (HR3.out.below hb4)
    have HB4 := Lib.hid (HB3.out.below hb4)
    go_wp2_with fail
    (with_reducible refine (refs_same A3 A1 L L c3 c1 w4 HB4.out HR4.out (by omega) (by omega)).mono ?_)
    rintro e w5 ⟨rfl, hb5⟩
    simp only [decide_true]
    go_wp2_with fail
    go_ret
    exact ⟨ret_bool (by simp), hw4.trans (hb5.mono hw4.size)⟩
  · have h0' : (checkR L != 0) = true := by simpa using h0
    clear h0
    go_wp2_with fail
    (with_reducible refine (law_known w2 HSH2.out).mono ?_)
    rintro e w4 ⟨rfl, hb4⟩
    go_wp2_with fail
    go_ret
    exact ⟨rfl, hw2.trans (hb4.mono hw2.size)⟩

set_option maxRecDepth 100000 in
theorem RouteChecks_contract (H : Type) (enc : TypeId × Value → H) (W : World) (base : Nat) (args : Array Value) (ds gs : List (DataW H)) (before : List MemPlace)
    (hval0 : ∀ (j : Nat) t v, Tryd.f4.params[j]? = some t → args[j]? = some v → Value.okWide Tryd.prog W .any base t v)
    (hW : DataW.Whole enc Tryd.prog Tryd.f4.params.toList Rows.routeChecksSpec.vars false W args.toList ds gs before) (hsh : W.ShapedOpen Tryd.prog) :
    Calls Tryd.prog 4 args W fun e W' => ∃ v, e = .returned v ∧ Rows.routeChecksSpec.post enc Tryd.prog Tryd.f4 false true false false W args v W' := by
  have hval : ∀ (j : Nat) t v, Tryd.f4.params[j]? = some t → args[j]? = some v → Value.okWide Tryd.prog W .any base t v := hval0
  have hW' := hW
  obtain ⟨p, q, hA0, hV, rfl, hfz, hnd⟩ := hW
  have hA : DataW.TrodAll enc Tryd.prog W 0 (fun _ => true) true Tryd.f4.params.toList args.toList ds p := hA0
  rw [Tryd.params4] at hA hval
  obtain ⟨v0, vs0, d0, ds0, p0, q0, hargs, rfl, rfl, h0, r0⟩ := trodAll_cons hA
  obtain ⟨rfl, rfl, rfl⟩ := trodAll_nil r0
  obtain rfl : args = #[v0] := by cases args; simp_all
  obtain ⟨rfl, rfl⟩ := trodVars_none hV
  obtain ⟨A0, l0, c0, hv0, hrow0, hsz0⟩ := open_strs Tryd.underlying22 Tryd.underlying9 (by kernel_rfl) (hval 0 22 v0 rfl rfl) h0
  subst hv0
  refine (RouteChecks_walk A0 l0 c0 hrow0 hsz0 W hsh).mono fun e W' ⟨he, hg⟩ => ?_
  subst he
  exact ⟨_, rfl, law_post hW' rfl rfl rfl (by decide +kernel) hg⟩

theorem RouteChecks_reads (os : Os) {H : Type} (enc : TypeId × Value → H) : ∃ places, DataW.whole enc Tryd.prog ((laidWorld os).forCall (fun _ _ => 0) ⟨#[], #[.slice none 0 0], []⟩).memory Tryd.f4.params.toList Rows.routeChecksSpec.vars false ((#[.slice none 0 0] : Array Value)).toList 8 = some ([.nil], [], places) :=
  ⟨[], by kernel_rfl⟩

set_option maxRecDepth 100000 in
theorem RouteChecks_lifted (os : Os) (started : os.Started) (H : Type) (enc : TypeId × Value → H) (F : Stop.Interp) :
    ReturnsInHanded {} Tryd.checked os 4 .any ((OpenSpec.ofChange Rows.routeChecksSpec).preRow enc Tryd.prog Tryd.f4 Rows.routeChecksRow.domain false Rows.routeChecksRow.laid) (((OpenSpec.ofChange Rows.routeChecksSpec).at F).post enc Tryd.prog Tryd.f4 false true false false) := by
  obtain ⟨places, hx⟩ := RouteChecks_reads os enc
  refine returnsInHanded_of_row (C := Tryd.checked) (s := OpenSpec.ofChange Rows.routeChecksSpec) own started (by kernel_rfl) Tryd.func4
    (witness_row_at (enc := enc) (C := Tryd.checked) false (laidWorld os) #[.slice none 0 0] rfl (by kernel_rfl) (by kernel_rfl) (by kernel_rfl)
      (OpenSpec.preRow_of_cond 8 hx (by kernel_rfl) (fun k hk => by cases hk) (by kernel_rfl) (laid_met os #[.slice none 0 0]))) ?_
  intro W base args ds gs before hval hW _ _ _ hL hsh _
  exact RouteChecks_contract H enc W base args ds gs before hval hW hsh

theorem RouteChecks_said : Rows.RouteChecksSaid :=
  OpenClaim.holds_of_cond 4 Tryd.f4 rfl rfl rfl rfl rfl rfl rfl ⟨rfl, rfl, rfl, rfl, rfl⟩ rfl rfl rfl rfl rfl (by kernel_rfl) Tryd.func4 (by kernel_rfl)
    (of_decide_eq_true (by kernel_rfl)) (by unfold Func.isWrapper; first | (rw [if_pos (by decide +kernel)]; kernel_rfl) | (rw [if_neg (by decide +kernel)]; exact ⟨rfl, rfl⟩))
    (fun os started H enc _ F => by rw [OpenClaim.pre_eq_preRow]; exact RouteChecks_lifted os started H enc F)

theorem RouteChecks_plain (f : FuncId) (fn : Func) (hf : Tryd.pinned.checked.prog.funcNamed Rows.routeChecksRow.func = some f) (hfn : Tryd.pinned.checked.prog.funcs[f]? = some fn) :
    false = Tryd.pinned.checked.prog.looks [] ∧ ∀ (j : Nat) t, fn.params[j]? = some t → Tryd.pinned.checked.prog.wantsStandIn t = false := by
  obtain rfl : f = 4 := Option.some.inj ((show Tryd.prog.funcNamed Rows.routeChecksRow.func = some 4 by kernel_rfl).symm.trans hf) |>.symm
  obtain rfl : fn = Tryd.f4 := (Option.some.inj (Tryd.func4.symm.trans hfn)).symm
  refine ⟨by kernel_rfl, fun j t ht => ?_⟩
  rw [Tryd.params4] at ht
  have hm := Array.mem_of_getElem? ht
  simp only [List.mem_toArray, List.mem_cons, List.not_mem_nil, or_false] at hm
  subst hm
  exact (show Tryd.prog.wantsStandIn 22 = false by kernel_rfl)

theorem RouteChecks_proved : Rows.RouteChecksCardSaid :=
  Claim7.holds_tied_plain_at .later [] _ _ _ _ RouteChecks_said (fun _ h => by cases h) (by kernel_rfl) (fun _ h => by cases h) routeChecks_row_tie rfl ⟨rfl, rfl⟩ (by kernel_rfl) rfl RouteChecks_plain (by kernel_rfl)

end Go.Proofs.YtgfgjkafkdfjpaaDoor
