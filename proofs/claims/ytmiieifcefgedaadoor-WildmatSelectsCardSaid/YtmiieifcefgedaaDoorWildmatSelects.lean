/- For every text and every slice of names, WildmatSelects returns true: Selects and Filter agree with the reference. No condition. -/
import Derived.Test.YtmiieifcefgedaaDoorWmG
import Derived.Test.YtmiieifcefgedaaDoorWmQA
import Derived.Test.YtmiieifcefgedaaDoorOpen0
namespace Go.Proofs.YtmiieifcefgedaaDoor
set_option linter.unusedSimpArgs false
set_option linter.unusedVariables false
open Go.ChangeShapes Go.WideShapes Go.ChangeAt Go.RowKit
open Go.ChangeMaps (open_string shut_string)

theorem RListV.yes {w : World} {es : List Ent} {n : Nat} {v : Value} (h : RListV w (es, n, 0) v) : RList w es v := by
  rcases h with ⟨_, h⟩ | ⟨h0, _⟩
  · exact h
  · exact absurd rfl h0
/-- The first names, each cut. -/
def nmF (l : List Bs) (k : Nat) : List Bs := (l.take k).map (·.take 100)
theorem nmF_succ (l : List Bs) (k : Nat) (h : k < l.length) : nmF l (k + 1) = nmF l k ++ [l[k].take 100] := by
  unfold nmF; rw [List.take_succ_eq_append_getElem h, List.map_append]; rfl
theorem nmF_len (l : List Bs) (k : Nat) (h : k ≤ l.length) : (nmF l k).length = k := by simp [nmF]; omega
theorem nmF_small (l : List Bs) (k : Nat) : ∀ x ∈ nmF l k, x.length ≤ 100000 := by
  intro x hx
  simp only [nmF, List.mem_map] at hx
  obtain ⟨y, _, rfl⟩ := hx
  simp; omega
theorem filt_snoc (es : List Ent) (ns : List Bs) (x : Bs) : filtF es (ns ++ [x]) = filtF es ns ++ (if verdictF es x = 1 then [x] else []) := by
  unfold filtF
  rw [List.filter_append]
  by_cases h : verdictF es x = 1 <;> simp [h]
/-- Two slices of the call's own, apart. -/
structure TwoO (w wr : World) (a b : Value) (l m : List Bs) : Prop where
  oa : wr.ownsRow w.heap.size 9 1 a l.length (strsL l)
  ob : wr.ownsRow w.heap.size 9 1 b m.length (strsL m)
  ne : ∀ g, a.ownBlock = some g → b.ownBlock ≠ some g
  bel : Below w.heap.size w wr
theorem TwoO.below {w wr w' : World} {a b : Value} {l m : List Bs} (h : TwoO w wr a b l m) (hb : Below wr.heap.size wr w') : TwoO w w' a b l m :=
  ⟨own_below h.oa hb, own_below h.ob hb, h.ne, h.bel.trans (hb.mono h.bel.size)⟩
theorem TwoO.pushA {w wr w' : World} {a b : Value} {l m : List Bs} {g cap : Nat} {x : ByteArray} (h : TwoO w wr a b l m) (ho : w'.ownsRow w.heap.size 9 1 (.slice (some ⟨g, 0, none⟩) (l.length + 1) cap) (l.length + 1) (strsL l ++ #[.string x].toList)) (hg : wr.grownBy w' a.ownBlock) (hat : a.ownBlock = some g ∨ wr.heap.size < g) :
    TwoO w w' (.slice (some ⟨g, 0, none⟩) (l.length + 1) cap) b (l ++ [toL x]) m := by
  refine ⟨by simpa [ofL_toL] using ho, h.ob.kept hg ?_, fun g' e e2 => ?_, h.bel.grown hg h.bel.size (fun k hk => (h.oa.lt k hk).1)⟩
  · cases hb : b.ownBlock with
    | none => exact .inl rfl
    | some gb => exact .inr (fun e => h.ne gb e.symm hb)
  · simp only [Value.ownBlock, Option.some.injEq] at e
    subst e
    rcases hat with hat | hat
    · exact h.ne _ hat e2
    · have := (h.ob.lt _ e2).2; omega
theorem TwoO.pushB {w wr w' : World} {a b : Value} {l m : List Bs} {g cap : Nat} {x : ByteArray} (h : TwoO w wr a b l m) (ho : w'.ownsRow w.heap.size 9 1 (.slice (some ⟨g, 0, none⟩) (m.length + 1) cap) (m.length + 1) (strsL m ++ #[.string x].toList)) (hg : wr.grownBy w' b.ownBlock) (hat : b.ownBlock = some g ∨ wr.heap.size < g) :
    TwoO w w' a (.slice (some ⟨g, 0, none⟩) (m.length + 1) cap) l (m ++ [toL x]) := by
  refine ⟨h.oa.kept hg ?_, by simpa [ofL_toL] using ho, fun g' e e2 => ?_, h.bel.grown hg h.bel.size (fun k hk => (h.ob.lt k hk).1)⟩
  · cases ha : a.ownBlock with
    | none => exact .inl rfl
    | some ga => exact .inr (fun e => h.ne ga ha e.symm)
  · simp only [Value.ownBlock, Option.some.injEq] at e2
    subst e2
    rcases hat with hat | hat
    · exact h.ne _ e hat
    · have := (h.oa.lt _ e).2; omega
theorem RList.strs {w w' : World} {es : List Ent} {v : Value} (h : RList w es v) (hb : Below w.heap.size w w') : RList w' es v := h.below hb

set_option maxHeartbeats 16000000 in
set_option maxRecDepth 100000 in
theorem WildmatSelects_walk (a : ByteArray) (ha : a.size ≤ maxLen) (A : Option Addr) (l : List Bs) (c : Nat) {w : World} (hr : Row w A (strsL l)) (hs : SizedS l c) (_ : World) (hsh : w.ShapedOpen Tryd.prog) :
    Calls Tryd.prog 11 #[.string a, .slice A l.length c] w fun e w' => e = .returned (.bool true) ∧ Below w.heap.size w w' := by
  have HSH := Lib.hid hsh; clear hsh
  have HR := Lib.hid hr
  have HSZ := Lib.hid hs.2.2
  have hlm : l.length ≤ maxLen := Nat.le_trans hs.1 hs.2.1
  unfold maxLen at hlm
  have HC1 := Lib.hid (fun N (hN : N = ((400 : Nat) : Int)) wx => law_cut' a 400 N hN wx ha (by omega))
  have hx := cutB_size a 400
  clear ha hr hs
  generalize cutB a 400 = x at *
  go_enter Tryd.func11, Tryd.ntmps11
  go_wp2_with fail
  (with_reducible refine (HC1.out 400 rfl _).mono ?_)
  rintro e w' ⟨rfl, rfl⟩
  go_wp2_with fail
  (with_reducible refine (wm_parseList x _ HSH.out (by omega)).mono ?_)
  rintro e w1 ⟨v, rfl, hv, hb1⟩
  have hw1 := hb1
  have HO := Lib.hid (listF_ok (toL x))
  rcases hcf : listF (toL x) with ⟨ps, n1, e1⟩
  have HCF := Lib.hid hcf
  rw [hcf] at hv HO
  clear hcf hb1 HC1
  have hw1s := hw1.size
  have hl64 := HO.out.2.1
  simp only at hl64
  go_wp2_with fail
  (with_reducible refine (rf_parseList x _ (by omega)).mono ?_)
  rintro e w2 ⟨u, rfl, hu, hb2⟩
  rw [HCF.out] at hu ⊢
  have hw2 := hw1.trans (hb2.mono hw1s)
  have HKN := Lib.hid (law_known _ (shaped_below HSH.out hw2))
  simp only
  by_cases h1 : e1 = 0
  · subst h1
    obtain ⟨b1, rfl, hp⟩ := hv.yes
    have HP := Lib.hid (hp.below hb2)
    have HU := Lib.hid hu.yes
    have HR2 := Lib.hid (HR.out.below hw2)
    clear hp hb2 hu HSH hw1 hw1s HR
    go_wp2_with fail
    (with_reducible refine HKN.out.mono ?_)
    rintro e w3 ⟨rfl, hb3⟩
    have hw3 := hw2.trans (hb3.mono hw2.size)
    have HP3 := Lib.hid (show LstV w3 (.pointer (some ⟨b1, 0, none⟩)) ps from .inr ⟨b1, _, rfl, HP.out.below hb3⟩)
    have HU3 := Lib.hid (HU.out.below hb3)
    have HR3 := Lib.hid (HR2.out.below hb3)
    have HW3 := Lib.hid hw3
    clear hb3 hw2 HP HKN HU HR2 hw3
    have HT0 := Lib.hid (show TwoO w3 w3 (.slice none 0 0) (.slice none 0 0) (nmF l 0) (filtF ps (nmF l 0)) from ⟨World.ownsRow_nil _ _ _ _, World.ownsRow_nil _ _ _ _, (fun g e => by cases e), Below.refl _ _⟩)
    go_wp2_with fail
    go_loopw [11, 12, 13] (fun v11 v12 v13 wr => ∃ k : Nat, k ≤ l.length ∧ k ≤ 10 ∧ v13 = .int .i64 (k : Int) ∧ TwoO w3 wr v11 v12 (nmF l k) (filtF ps (nmF l k))) (fun _ _ v13 _ => 10 - (intOf v13).toNat)
    case atStart => exact ⟨0, by omega, by omega, rfl, HT0.out⟩
    case round =>
      obtain ⟨k, hk, hk10, rfl, hT⟩ := hrel
      have HT := Lib.hid hT
      clear HT0 hT
      obtain ⟨wo, rfl⟩ : ∃ wo : World, wo = wr := ⟨_, rfl⟩
      have k0 : (0 : Int) ≤ (k : Int) := by omega
      by_cases hgo : k < l.length ∧ k < 10
      · obtain ⟨hlt, hlt10⟩ := hgo
        have k1 : (k : Int) < (l.length : Int) := by omega
        have k2 : (k : Int) < 10 := by omega
        obtain ⟨bb, off, rfl, hcell⟩ := (HR3.out.below HT.out.bel).cell (k := k) (by simpa using hlt)
        rw [List.getElem_map] at hcell
        have HXS := Lib.hid (show (ofL l[k]).size ≤ maxLen by rw [ofL_size]; exact HSZ.out _ (List.getElem_mem hlt))
        have HNM := Lib.hid (nmF_succ l k hlt)
        have HNL := Lib.hid (nmF_len l k (by omega))
        have HTK := Lib.hid (show l[k].take 100 = toL (cutB (ofL l[k]) 100) from by
          have := take_min (ofL l[k]) 100
          rw [toL_ofL] at this; exact this.symm)
        generalize ofL l[k] = X at *
        rw [HTK.out] at HNM
        clear HTK
        have HCX := Lib.hid (fun N (hN : N = ((100 : Nat) : Int)) wx => law_cut' X 100 N hN wx HXS.out (by omega))
        have hzs := cutB_size X 100
        generalize cutB X 100 = Z at *
        have hown := HT.out.oa
        have hsz := HT.out.bel.size
        have hl1 : (nmF l k).length + 1 ≤ 11 := by rw [HNL.out]; omega
        have hl3 : (filtF ps (nmF l k)).length ≤ 10 := Nat.le_trans (List.length_filter_le _ _) (by rw [HNL.out]; omega)
        have HF := Lib.hid (filt_snoc ps (nmF l k) (toL Z))
        rw [← HNM.out] at HF
        generalize filtF ps (nmF l k) = fl at *
        generalize hnn : nmF l k = nn at *
        clear hnn HNL
        go_upto_region 12 with (first | (go_at_call 13; (with_reducible refine (HCX.out 100 rfl _).mono ?_); rintro e w' ⟨rfl, rfl⟩) | (at_builtin; refine wpList_push el_strs' rfl _ _ rfl hown #[.string Z] rfl rfl rfl (by simp [Value.oneCell']) (by omega) (by unfold maxLen; omega) hsz ?_; intro g cap w4 hown4 hg4 hat4))
        have HT4 := Lib.hid (HT.out.pushA hown4 hg4 hat4)
        clear hown hown4 hg4 hat4 HT HCX hsz hcell
        go_wp2_with fail
        (with_reducible refine (rf_verdict u ps Z w4 (HU3.out.below HT4.out.bel) HO.out.1 hl64 (by omega)).mono ?_)
        rintro e w5 ⟨rfl, hb5⟩
        have HT5 := Lib.hid (HT4.out.below hb5)
        have hown := HT5.out.ob
        have hsz := HT5.out.bel.size
        clear HT4 hb5
        by_cases hv1 : verdictF ps (toL Z) = 1
        · rw [if_pos hv1] at HF
          rw [hv1]
          clear hv1
          go_wp2_with ((at_builtin; refine wpList_push el_strs' rfl _ _ rfl hown #[.string Z] rfl rfl rfl (by simp [Value.oneCell']) (by omega) (by unfold maxLen; omega) hsz ?_; intro g2 cap2 w6 hown6 hg6 hat6))
          have HT6 := Lib.hid (HT5.out.pushB hown6 hg6 hat6)
          clear hown hown6 hg6 hat6
          go_roundw
          case rel => exact ⟨k + 1, by omega, by omega, by go_num, by rw [HF.out, HNM.out]; exact HT6.out⟩
          case measure => simp [intOf] <;> omega
        · have ev1 : (verdictF ps (toL Z) == 1) = false := beq_eq_false_iff_ne.2 hv1
          rw [if_neg hv1, List.append_nil] at HF
          clear hv1
          go_wp2_with fail
          go_roundw
          case rel => exact ⟨k + 1, by omega, by omega, by go_num, by rw [HF.out, HNM.out]; exact HT5.out⟩
          case measure => simp [intOf] <;> omega
      · have hex : (l.length : Int) ≤ (k : Int) ∨ ((k : Int) < (l.length : Int) ∧ (10 : Int) ≤ (k : Int)) := by omega
        have HNL := Lib.hid (nmF_len l k (by omega))
        have HSM := Lib.hid (nmF_small l k)
        clear hgo
        have hnl10 : (nmF l k).length ≤ 10 := by rw [HNL.out]; exact hk10
        generalize nmF l k = nn at *
        obtain ⟨Ao, co, rfl, hro⟩ := own_row HT.out.oa
        obtain ⟨Aw, cw, rfl, hrw⟩ := own_row HT.out.ob
        have HRW := Lib.hid hrw
        clear hrw
        have hnl : (filtF ps nn).length ≤ 10 := Nat.le_trans (List.length_filter_le _ _) hnl10
        have HRO := Lib.hid hro
        clear hro
        have HFC := Lib.hid (fun wx (hb : Below w3.heap.size w3 wx) (h : Row wx Ao (strsL nn)) => lst_filter (.pointer (some ⟨b1, 0, none⟩)) ps Ao nn co wx (by
          rcases HP3.out with ⟨h0, _⟩ | ⟨b, t, h0, h1⟩
          · cases h0
          · exact .inr ⟨b, t, h0, h1.below hb⟩) HO.out.1 hl64 h (by omega) HSM.out)
        have HS1 := Lib.hid (fun wx (hb : Below w3.heap.size w3 wx) (h : Row wx Ao (strsL nn)) => lst_selects (.pointer (some ⟨b1, 0, none⟩)) ps Ao nn co wx (by
          rcases HP3.out with ⟨h0, _⟩ | ⟨b, t, h0, h1⟩
          · cases h0
          · exact .inr ⟨b, t, h0, h1.below hb⟩) HO.out.1 hl64 h (by omega) HSM.out)
        have HS2 := Lib.hid (fun wx (hb : Below w3.heap.size w3 wx) (h : Row wx Ao (strsL nn)) => rf_selects u ps Ao nn co wx (HU3.out.below hb) HO.out.1 hl64 h (by omega) HSM.out)
        rcases hex with k1 | ⟨k1, k2⟩
        all_goals
          generalize hfl : filtF ps nn = fl at *
          go_wp2_with fail
          (with_reducible refine (HFC.out _ HT.out.bel HRO.out).mono ?_)
          rintro e w7 ⟨uu, rfl, hso⟩
          obtain ⟨Ag, cg, rfl, hrg⟩ := own_row hso.own
          have HB7 := Lib.hid (HT.out.bel.trans (hso.bel.mono HT.out.bel.size))
          have HRG := Lib.hid hrg
          have HRW7 := Lib.hid (HRW.out.below hso.bel)
          have HRO7 := Lib.hid (HRO.out.below hso.bel)
          clear hrg hso HFC HT HRW HRO hfl k1
          try clear k2
          go_wp2_with fail
          go_loopw [16, 77] (fun v16 _ wr => ∃ i : Nat, i ≤ fl.length ∧ v16 = .int .i64 (i : Int) ∧ Below w7.heap.size w7 wr) (fun v16 _ _ => fl.length - (intOf v16).toNat)
          case atStart => exact ⟨0, by omega, rfl, Below.refl _ _⟩
          case round =>
            obtain ⟨i, hi, rfl, hb8⟩ := hrel
            obtain ⟨wq, rfl⟩ : ∃ wq : World, wq = wr := ⟨_, rfl⟩
            by_cases hil : i < fl.length
            · have i0 : (0 : Int) ≤ (i : Int) := by omega
              have i1 : (i : Int) < (fl.length : Int) := by omega
              obtain ⟨gb, go, rfl, hgc⟩ := (HRG.out.below hb8).cell (k := i) (by simpa using hil)
              obtain ⟨wb, wf, rfl, hwc⟩ := (HRW7.out.below hb8).cell (k := i) (by simpa using hil)
              rw [List.getElem_map] at hgc hwc
              generalize ofL fl[i] = X at *
              have hXX : (X.toList == X.toList) = true := by simp
              have HB8 := Lib.hid (below_drewN hb8)
              clear hb8
              go_upto_region 20 with fail
              go_quiet (fail)
              have HB9 := Lib.hid (HB8.out nq)
              generalize wq.drewN nq = wz at *
              clear hgc hwc
              go_wp2_with fail
              go_roundw
              case rel => exact ⟨i + 1, by omega, by go_num, HB9.out⟩
              case measure => simp [intOf] <;> omega
            · obtain rfl : i = fl.length := by omega
              have i1 : (fl.length : Int) ≤ (fl.length : Int) := by omega
              have hb9 := HB7.out.trans (hb8.mono HB7.out.size)
              have hro8 := HRO7.out.below hb8
              generalize selGo ps nn false = sb at *
              go_wp2_with fail
              (with_reducible refine (HS1.out _ hb9 hro8).mono ?_)
              rintro e w10 ⟨rfl, hb10⟩
              have hb11 := hb9.trans (hb10.mono hb9.size)
              have hro10 := hro8.below hb10
              go_wp2_with fail
              (with_reducible refine (HS2.out _ hb11 hro10).mono ?_)
              rintro e w12 ⟨rfl, hb12⟩
              have hb13 := hb11.trans (hb12.mono hb11.size)
              have HFIN := Lib.hid (HW3.out.trans (hb13.mono HW3.out.size))
              go_wp2_with fail
              go_ret
              exact ⟨by simp, HFIN.out⟩
  · obtain rfl := hv.no h1
    have g1 : (e1 == 0) = false := beq_eq_false_iff_ne.2 h1
    have g2 : (e1 != 0) = true := by simp [bne, g1]
    clear h1 hb2 hu
    have HSH3 := HSH
    clear hw1 hw1s HSH
    go_wp2_with fail
    (with_reducible refine HKN.out.mono ?_)
    rintro e w3 ⟨rfl, hb3⟩
    have hw3 := hw2.trans (hb3.mono hw2.size)
    have HKN3 := Lib.hid (law_known _ (shaped_below HSH3.out hw3))
    clear hb3 hw2 HKN HSH3
    go_wp2_with fail
    (with_reducible refine HKN3.out.mono ?_)
    rintro e w4 ⟨rfl, hb4⟩
    have hw4 := hw3.trans (hb4.mono hw3.size)
    go_wp2_with fail
    go_ret
    exact ⟨rfl, hw4⟩

set_option maxRecDepth 100000 in
theorem WildmatSelects_contract (H : Type) (enc : TypeId × Value → H) (W : World) (base : Nat) (args : Array Value) (ds gs : List (DataW H)) (before : List MemPlace)
    (hval0 : ∀ (j : Nat) t v, Tryd.f11.params[j]? = some t → args[j]? = some v → Value.okWide Tryd.prog W .any base t v)
    (hW : DataW.Whole enc Tryd.prog Tryd.f11.params.toList Rows.wildmatSelectsSpec.vars false W args.toList ds gs before) (hsh : W.ShapedOpen Tryd.prog) :
    Calls Tryd.prog 11 args W fun e W' => ∃ v, e = .returned v ∧ Rows.wildmatSelectsSpec.post enc Tryd.prog Tryd.f11 false true false false W args v W' := by
  have hval : ∀ (j : Nat) t v, Tryd.f11.params[j]? = some t → args[j]? = some v → Value.okWide Tryd.prog W .any base t v := hval0
  have hW' := hW
  obtain ⟨p, q, hA0, hV, rfl, hfz, hnd⟩ := hW
  have hA : DataW.TrodAll enc Tryd.prog W 0 (fun _ => true) true Tryd.f11.params.toList args.toList ds p := hA0
  rw [Tryd.params11] at hA hval
  obtain ⟨v0, vs0, d0, ds0, p0, q0, hargs, rfl, rfl, h0, r0⟩ := trodAll_cons hA
  obtain ⟨v1, vs1, d1, ds1, p1, q1, rfl, rfl, rfl, h1, r1⟩ := trodAll_cons r0
  obtain ⟨rfl, rfl, rfl⟩ := trodAll_nil r1
  obtain rfl : args = #[v0, v1] := by cases args; simp_all
  obtain ⟨rfl, rfl⟩ := trodVars_none hV
  obtain ⟨a0, rfl, rfl, rfl, w0⟩ := open_string Tryd.underlying9 (hval 0 9 v0 rfl rfl) h0
  obtain ⟨A1, l1, c1, hv1, hrow1, hsz1⟩ := open_strs Tryd.underlying50 Tryd.underlying9 (by kernel_rfl) (hval 1 50 v1 rfl rfl) h1
  subst hv1
  refine (WildmatSelects_walk a0 w0 A1 l1 c1 hrow1 hsz1 W hsh).mono fun e W' ⟨he, hg⟩ => ?_
  subst he
  exact ⟨_, rfl, law_post hW' rfl rfl rfl (by decide +kernel) hg⟩

theorem WildmatSelects_reads (os : Os) {H : Type} (enc : TypeId × Value → H) : ∃ places, DataW.whole enc Tryd.prog ((laidWorld os).forCall (fun _ _ => 0) ⟨#[], #[.string ByteArray.empty, .slice none 0 0], []⟩).memory Tryd.f11.params.toList Rows.wildmatSelectsSpec.vars false ((#[.string ByteArray.empty, .slice none 0 0] : Array Value)).toList 8 = some ([.lit (.string []), .nil], [], places) :=
  ⟨[], by kernel_rfl⟩

set_option maxRecDepth 100000 in
theorem WildmatSelects_lifted (os : Os) (started : os.Started) (H : Type) (enc : TypeId × Value → H) (F : Stop.Interp) :
    ReturnsInHanded {} Tryd.checked os 11 .any ((OpenSpec.ofChange Rows.wildmatSelectsSpec).preRow enc Tryd.prog Tryd.f11 Rows.wildmatSelectsRow.domain false Rows.wildmatSelectsRow.laid) (((OpenSpec.ofChange Rows.wildmatSelectsSpec).at F).post enc Tryd.prog Tryd.f11 false true false false) := by
  obtain ⟨places, hx⟩ := WildmatSelects_reads os enc
  refine returnsInHanded_of_row (C := Tryd.checked) (s := OpenSpec.ofChange Rows.wildmatSelectsSpec) own started (by kernel_rfl) Tryd.func11
    (witness_row_at (enc := enc) (C := Tryd.checked) false (laidWorld os) #[.string ByteArray.empty, .slice none 0 0] rfl (by kernel_rfl) (by kernel_rfl) (by kernel_rfl)
      (OpenSpec.preRow_of_cond 8 hx (by kernel_rfl) (fun k hk => by cases hk) (by kernel_rfl) (laid_met os #[.string ByteArray.empty, .slice none 0 0]))) ?_
  intro W base args ds gs before hval hW _ _ _ hL hsh _
  exact WildmatSelects_contract H enc W base args ds gs before hval hW hsh

theorem WildmatSelects_said : Rows.WildmatSelectsSaid :=
  OpenClaim.holds_of_cond 11 Tryd.f11 rfl rfl rfl rfl rfl rfl rfl ⟨rfl, rfl, rfl, rfl, rfl⟩ rfl rfl rfl rfl rfl (by kernel_rfl) Tryd.func11 (by kernel_rfl)
    (of_decide_eq_true (by kernel_rfl)) (by unfold Func.isWrapper; first | (rw [if_pos (by decide +kernel)]; kernel_rfl) | (rw [if_neg (by decide +kernel)]; exact ⟨rfl, rfl⟩))
    (fun os started H enc _ F => by rw [OpenClaim.pre_eq_preRow]; exact WildmatSelects_lifted os started H enc F)

theorem WildmatSelects_plain (f : FuncId) (fn : Func) (hf : Tryd.pinned.checked.prog.funcNamed Rows.wildmatSelectsRow.func = some f) (hfn : Tryd.pinned.checked.prog.funcs[f]? = some fn) :
    true = Tryd.pinned.checked.prog.looks [] ∧ ∀ (j : Nat) t, fn.params[j]? = some t → Tryd.pinned.checked.prog.wantsStandIn t = false := by
  obtain rfl : f = 11 := Option.some.inj ((show Tryd.prog.funcNamed Rows.wildmatSelectsRow.func = some 11 by kernel_rfl).symm.trans hf) |>.symm
  obtain rfl : fn = Tryd.f11 := (Option.some.inj (Tryd.func11.symm.trans hfn)).symm
  refine ⟨by kernel_rfl, fun j t ht => ?_⟩
  rw [Tryd.params11] at ht
  have hm := Array.mem_of_getElem? ht
  simp only [List.mem_toArray, List.mem_cons, List.not_mem_nil, or_false] at hm
  rcases hm with rfl | rfl
  · exact (show Tryd.prog.wantsStandIn 9 = false by kernel_rfl)
  · exact (show Tryd.prog.wantsStandIn 50 = false by kernel_rfl)

theorem WildmatSelects_proved : Rows.WildmatSelectsCardSaid :=
  Claim7.holds_tied_plain_at .later [] _ _ _ _ WildmatSelects_said (fun _ h => by cases h) (by kernel_rfl) (fun _ h => by cases h) wildmatSelects_row_tie rfl ⟨rfl, rfl⟩ (by kernel_rfl) rfl WildmatSelects_plain (by kernel_rfl)
end Go.Proofs.YtmiieifcefgedaaDoor
