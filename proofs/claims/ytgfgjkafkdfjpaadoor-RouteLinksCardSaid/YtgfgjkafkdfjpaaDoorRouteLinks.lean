/- For every list of names, RouteLinks returns true: Links agrees with the reference. No condition. -/
import Derived.Test.YtgfgjkafkdfjpaaDoorRouteL
namespace Go.Proofs.YtgfgjkafkdfjpaaDoor
set_option linter.unusedSimpArgs false
set_option linter.unusedVariables false
open Go.ChangeShapes Go.WideShapes Go.ChangeAt Go.RowKit
open Go.ChangeMaps (open_string shut_string)

theorem linksDown_len (l : List Bs) : ∀ i acc, (linksDown l i acc).length ≤ acc.length + i := by
  intro i
  induction i with
  | zero => intro acc; simp [linksDown]
  | succ i ih =>
    intro acc
    rw [linksDown]
    have h := ih (linkAdd acc (l.getD (i + 1) [], l.getD i []))
    have h2 : (linkAdd acc (l.getD (i + 1) [], l.getD i [])).length ≤ acc.length + 1 := by unfold linkAdd; split <;> simp
    omega

set_option maxHeartbeats 4000000 in
set_option maxRecDepth 100000 in
theorem RouteLinks_walk (A : Option Addr) (l : List Bs) (c : Nat) {w : World} (hr : Row w A (strsL l)) (hs : SizedS l c) (_ : World) (hsh : w.ShapedOpen Tryd.prog) :
    Calls Tryd.prog 8 #[.slice A l.length c] w fun e w' => e = .returned (.bool true) ∧ Below w.heap.size w w' := by
  have HSH := Lib.hid hsh; clear hsh
  have HC := Lib.hid (cut_any A l c w hr hs)
  have HT := Lib.hid (cutS_tame l)
  have hlen : (cutS l).length ≤ 60 := by rw [cutS_length]; omega
  clear hr hs
  go_enter Tryd.func8, Tryd.ntmps8
  go_wp2_with fail
  (with_reducible refine HC.out.mono ?_)
  rintro e w1 ⟨A1, c1, rfl, hcap1, hrow1, hw1⟩
  have HR1 := Lib.hid hrow1; clear hrow1 HC
  have hll := linksDown_len (cutS l) ((cutS l).length - 1) []
  rw [← linksR] at hll
  simp only [List.length_nil, Nat.zero_add] at hll
  generalize cutS l = L at *
  go_wp2_with fail
  (with_reducible refine (rt_links A1 L c1 w1 HR1.out (by omega)).mono ?_)
  rintro e w2 ⟨v2, rfl, hF2⟩
  obtain ⟨A2, c2, rfl, hrow2⟩ := own_row hF2.own
  have hb2 := hF2.bel
  have HP2 := Lib.hid hrow2
  have HR2 := Lib.hid (HR1.out.below hb2)
  have hw2 := hw1.trans (hb2.mono hw1.size)
  clear HR1 hrow2 hF2
  go_wp2_with fail
  (with_reducible refine (refr_links A1 L c1 w2 HR2.out (by omega)).mono ?_)
  rintro e w3 ⟨v3, rfl, hF3⟩
  obtain ⟨A3, c3, rfl, hrow3⟩ := own_row hF3.own
  have hb3 := hF3.bel
  have HQ3 := Lib.hid hrow3
  have HP3 := Lib.hid (HP2.out.below hb3)
  have hw3 := hw2.trans (hb3.mono hw2.size)
  clear HR2 HP2 hrow3 hF3
  generalize linksR L = M at *
  have hM : M.length ≤ 60 := by omega
  have hne : ((M.length : Int) != (M.length : Int)) = false := by simp
  go_wp2_with fail
  go_loopg [6] M.length (fun g ix wr => ∃ k : Nat, g = M.length - k ∧ k ≤ M.length ∧ ix = .int .i64 k ∧ Below w3.heap.size w3 wr)
  case atStart => exact ⟨0, by omega, by omega, rfl, Below.refl _ _⟩
  case round =>
    obtain ⟨k, rfl, hk, rfl, hB⟩ := hrel
    by_cases hlt : k < M.length
    · have hk1 : (0 : Int) ≤ (k : Int) := by omega
      have hk2 : (k : Int) < (M.length : Int) := by omega
      obtain ⟨x, hx⟩ : ∃ x, ofL M[k].1 = x := ⟨_, rfl⟩
      obtain ⟨y, hy⟩ : ∃ y, ofL M[k].2 = y := ⟨_, rfl⟩
      obtain ⟨b1, o1, e1, p1, p2⟩ := (HP3.out.below hB).pair hlt hx hy
      obtain ⟨b2, o2, e2, q1, q2⟩ := (HQ3.out.below hB).pair hlt hx hy
      subst e1 e2
      have h2 : ∀ wx, (Op.equalIn 10000 49 (.agg #[.string x, .string y]) (.agg #[.string x, .string y])).run Tryd.prog wx = .ok true wx := fun wx => by
        have := two_eq two_str wx 9998 x y x y
        simpa using this
      clear hx hy
      go_wp2_with fail
      go_quiet (fail)
      go_wp2_with fail
      go_roundg (M.length - (k + 1))
      case measure => omega
      case rel => exact ⟨k + 1, rfl, by omega, by go_num, below_drewN hB _⟩
    · have hw4 := hw3.trans (hB.mono hw3.size)
      have HSH4 := Lib.hid (shaped_below HSH.out hw4)
      go_wp2_with fail
      (with_reducible refine (law_known wr HSH4.out).mono ?_)
      rintro e w5 ⟨rfl, hb5⟩
      go_wp2_with fail
      go_ret
      exact ⟨rfl, hw4.trans (hb5.mono hw4.size)⟩

set_option maxRecDepth 100000 in
theorem RouteLinks_contract (H : Type) (enc : TypeId × Value → H) (W : World) (base : Nat) (args : Array Value) (ds gs : List (DataW H)) (before : List MemPlace)
    (hval0 : ∀ (j : Nat) t v, Tryd.f8.params[j]? = some t → args[j]? = some v → Value.okWide Tryd.prog W .any base t v)
    (hW : DataW.Whole enc Tryd.prog Tryd.f8.params.toList Rows.routeLinksSpec.vars false W args.toList ds gs before) (hsh : W.ShapedOpen Tryd.prog) :
    Calls Tryd.prog 8 args W fun e W' => ∃ v, e = .returned v ∧ Rows.routeLinksSpec.post enc Tryd.prog Tryd.f8 false true false false W args v W' := by
  have hval : ∀ (j : Nat) t v, Tryd.f8.params[j]? = some t → args[j]? = some v → Value.okWide Tryd.prog W .any base t v := hval0
  have hW' := hW
  obtain ⟨p, q, hA0, hV, rfl, hfz, hnd⟩ := hW
  have hA : DataW.TrodAll enc Tryd.prog W 0 (fun _ => true) true Tryd.f8.params.toList args.toList ds p := hA0
  rw [Tryd.params8] at hA hval
  obtain ⟨v0, vs0, d0, ds0, p0, q0, hargs, rfl, rfl, h0, r0⟩ := trodAll_cons hA
  obtain ⟨rfl, rfl, rfl⟩ := trodAll_nil r0
  obtain rfl : args = #[v0] := by cases args; simp_all
  obtain ⟨rfl, rfl⟩ := trodVars_none hV
  obtain ⟨A0, l0, c0, hv0, hrow0, hsz0⟩ := open_strs Tryd.underlying22 Tryd.underlying9 (by kernel_rfl) (hval 0 22 v0 rfl rfl) h0
  subst hv0
  refine (RouteLinks_walk A0 l0 c0 hrow0 hsz0 W hsh).mono fun e W' ⟨he, hg⟩ => ?_
  subst he
  exact ⟨_, rfl, law_post hW' rfl rfl rfl (by decide +kernel) hg⟩

theorem RouteLinks_reads (os : Os) {H : Type} (enc : TypeId × Value → H) : ∃ places, DataW.whole enc Tryd.prog ((laidWorld os).forCall (fun _ _ => 0) ⟨#[], #[.slice none 0 0], []⟩).memory Tryd.f8.params.toList Rows.routeLinksSpec.vars false ((#[.slice none 0 0] : Array Value)).toList 8 = some ([.nil], [], places) :=
  ⟨[], by kernel_rfl⟩

set_option maxRecDepth 100000 in
theorem RouteLinks_lifted (os : Os) (started : os.Started) (H : Type) (enc : TypeId × Value → H) (F : Stop.Interp) :
    ReturnsInHanded {} Tryd.checked os 8 .any ((OpenSpec.ofChange Rows.routeLinksSpec).preRow enc Tryd.prog Tryd.f8 Rows.routeLinksRow.domain false Rows.routeLinksRow.laid) (((OpenSpec.ofChange Rows.routeLinksSpec).at F).post enc Tryd.prog Tryd.f8 false true false false) := by
  obtain ⟨places, hx⟩ := RouteLinks_reads os enc
  refine returnsInHanded_of_row (C := Tryd.checked) (s := OpenSpec.ofChange Rows.routeLinksSpec) own started (by kernel_rfl) Tryd.func8
    (witness_row_at (enc := enc) (C := Tryd.checked) false (laidWorld os) #[.slice none 0 0] rfl (by kernel_rfl) (by kernel_rfl) (by kernel_rfl)
      (OpenSpec.preRow_of_cond 8 hx (by kernel_rfl) (fun k hk => by cases hk) (by kernel_rfl) (laid_met os #[.slice none 0 0]))) ?_
  intro W base args ds gs before hval hW _ _ _ hL hsh _
  exact RouteLinks_contract H enc W base args ds gs before hval hW hsh

theorem RouteLinks_said : Rows.RouteLinksSaid :=
  OpenClaim.holds_of_cond 8 Tryd.f8 rfl rfl rfl rfl rfl rfl rfl ⟨rfl, rfl, rfl, rfl, rfl⟩ rfl rfl rfl rfl rfl (by kernel_rfl) Tryd.func8 (by kernel_rfl)
    (of_decide_eq_true (by kernel_rfl)) (by unfold Func.isWrapper; first | (rw [if_pos (by decide +kernel)]; kernel_rfl) | (rw [if_neg (by decide +kernel)]; exact ⟨rfl, rfl⟩))
    (fun os started H enc _ F => by rw [OpenClaim.pre_eq_preRow]; exact RouteLinks_lifted os started H enc F)

theorem RouteLinks_plain (f : FuncId) (fn : Func) (hf : Tryd.pinned.checked.prog.funcNamed Rows.routeLinksRow.func = some f) (hfn : Tryd.pinned.checked.prog.funcs[f]? = some fn) :
    false = Tryd.pinned.checked.prog.looks [] ∧ ∀ (j : Nat) t, fn.params[j]? = some t → Tryd.pinned.checked.prog.wantsStandIn t = false := by
  obtain rfl : f = 8 := Option.some.inj ((show Tryd.prog.funcNamed Rows.routeLinksRow.func = some 8 by kernel_rfl).symm.trans hf) |>.symm
  obtain rfl : fn = Tryd.f8 := (Option.some.inj (Tryd.func8.symm.trans hfn)).symm
  refine ⟨by kernel_rfl, fun j t ht => ?_⟩
  rw [Tryd.params8] at ht
  have hm := Array.mem_of_getElem? ht
  simp only [List.mem_toArray, List.mem_cons, List.not_mem_nil, or_false] at hm
  subst hm
  exact (show Tryd.prog.wantsStandIn 22 = false by kernel_rfl)

theorem RouteLinks_proved : Rows.RouteLinksCardSaid :=
  Claim7.holds_tied_plain_at .later [] _ _ _ _ RouteLinks_said (fun _ h => by cases h) (by kernel_rfl) (fun _ h => by cases h) routeLinks_row_tie rfl ⟨rfl, rfl⟩ (by kernel_rfl) rfl RouteLinks_plain (by kernel_rfl)

end Go.Proofs.YtgfgjkafkdfjpaaDoor
