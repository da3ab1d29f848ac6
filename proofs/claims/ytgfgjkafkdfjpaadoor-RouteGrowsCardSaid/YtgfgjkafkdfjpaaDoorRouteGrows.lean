/- For every list of names, RouteGrows returns true: a route to which sites are prepended one by one stays valid and bounded. No condition. -/
import Derived.Test.YtgfgjkafkdfjpaaDoorRouteL
import Derived.Test.YtgfgjkafkdfjpaaDoorMem4
namespace Go.Proofs.YtgfgjkafkdfjpaaDoor
set_option linter.unusedSimpArgs false
set_option linter.unusedVariables false
open Go.ChangeShapes Go.WideShapes Go.ChangeAt Go.RowKit
open Go.ChangeMaps (open_string shut_string)

/-- 'append(v, ys...)' of strings at a step of a region that draws. -/
theorem step_pourS {P : Program} {w : World} {ops : Array Oper} {o : Oper} {a : Act} {K : Act → World → Prop} {Q : Exit → Act → World → Prop} {E0 : Prop} {t e : TypeId} (E : Elem P t e 1 16) (hgd : o.guard = none) (s x : Operand)
    (ho : o.op = .call { callee := .builtin .append, args := #[s, x], argTypes := #[t, t] }) {base : Nat} {v : Value} {n : Nat} {xs : List Value} (hown : w.ownsRow base e 1 v n xs) (hs : a.eval s = v)
    {A : Option Addr} {l : List (List UInt8)} {c : Nat} (hx : a.eval x = .slice A l.length c) (hr : Row w A (strsL l)) (hn : n + l.length ≤ 1000000) (hbase : base ≤ w.heap.size)
    (h : ∀ v' w', w'.ownsRow base e 1 v' (n + l.length) (xs ++ strsL l) → w.grownBy w' v.ownBlock → (v'.ownBlock = v.ownBlock ∨ v'.ownBlock = some w.heap.size) → K (a.put o.dst v') w') :
    if Region.wanted o (yielded ops a.tmps) = true then Oper.wp P o a w K Q else E0 := by
  obtain ⟨v', w', hrun, h2, h3, h4⟩ := run_pour E w base o.type v n xs hown A l.length c (strsL l) hr (by simp) (strsL_one l) (hr.none_len (size := 1) (by simp) (by omega)) (by unfold maxLen; omega) (by omega) hbase
  have hw : Region.wanted o (yielded ops a.tmps) = true := by simp [Region.wanted, hgd]
  rw [if_pos hw]
  unfold Oper.wp execOp
  simp only [ho, resolve, invoke, builtin, Sem.run_bind, Sem.run_pure, Result.andThen_ok, List.map_toArray, List.map_cons, List.map_nil, hs, hx, hrun]
  exact h v' w' h2 h3 h4

theorem checkGo_of (l : List Bs) (h : ∀ x ∈ l, (siteF x).2 = 0) : checkGo l = 0 := by
  induction l with
  | nil => rfl
  | cons x r ih => rw [checkGo, if_neg (by simp [h x (by simp)])]; exact ih (fun y hy => h y (by simp [hy]))
/-- What holds of the route and of the list of all that were prepended. -/
structure GrowAt (R Wl : List Bs) (k : Nat) : Prop where
  eq : R = Wl.take 50
  ok : ∀ x ∈ Wl, (siteF x).2 = 0
  len : Wl.length ≤ k
theorem GrowAt.tame {R Wl : List Bs} {k : Nat} (h : GrowAt R Wl k) : Tame R := by
  refine ⟨by rw [h.eq, List.length_take]; omega, fun x hx => ?_⟩
  rw [h.eq] at hx
  have := (site_ok x (h.ok x (List.mem_of_mem_take hx))).2.1
  omega
theorem GrowAt.next {R Wl : List Bs} {k : Nat} (h : GrowAt R Wl k) (x : Bs) (hp : (prependR R x).2 = 0) : GrowAt (prependR R x).1 (x :: Wl) (k + 1) ∧ checkR (prependR R x).1 = 0 ∧ hasB (prependR R x).1 x = true ∧ 0 < (prependR R x).1.length := by
  have hs : (siteF x).2 = 0 := by
    unfold prependR at hp
    split at hp
    · rename_i h1; exact absurd hp h1
    · rename_i h1; simpa using h1
  have he : (prependR R x).1 = (x :: R).take 50 := by
    unfold prependR at hp ⊢
    split at hp
    · rename_i h1; exact absurd hp h1
    · rename_i h1
      split at hp
      · rename_i h2; exact absurd hp h2
      · rename_i h2; rw [if_neg h1, if_neg h2]
  have hg : GrowAt ((x :: R).take 50) (x :: Wl) (k + 1) := by
    refine ⟨?_, fun y hy => ?_, by have := h.len; simp; omega⟩
    · rw [h.eq]
      rw [List.take_succ_cons, List.take_succ_cons, List.take_take]
      rfl
    · rcases List.mem_cons.1 hy with rfl | hy
      · exact hs
      · exact h.ok y hy
  rw [he]
  refine ⟨hg, ?_, ?_, by simp⟩
  · unfold checkR
    rw [if_neg (by rw [List.length_take]; omega)]
    exact checkGo_of _ (fun y hy => hg.ok y (by rw [hg.eq] at hy; exact List.mem_of_mem_take hy))
  · unfold hasB
    rw [List.contains_iff_mem]; simp
theorem prep_bad (R : List Bs) (x : Bs) (h : (prependR R x).2 ≠ 0) : (prependR R x).1 = [] := by
  unfold prependR at h ⊢
  split
  · rfl
  · rename_i h1
    rw [if_neg h1] at h
    split
    · rfl
    · rename_i h2; rw [if_neg h2] at h; simp at h

/-- A slice that reads as a list, with its capacity. -/
structure SliceIs (w : World) (v : Value) (l : List Bs) : Prop where
  ex : ∃ A c, v = .slice A l.length c ∧ l.length ≤ c ∧ Row w A (strsL l)
theorem SliceIs.below {w w' : World} {v : Value} {l : List Bs} (h : SliceIs w v l) (hb : Below w.heap.size w w') : SliceIs w' v l := by
  obtain ⟨A, c, e, hc, hr⟩ := h.ex
  exact ⟨A, c, e, hc, hr.below hb⟩
theorem SliceIs.of_own {w w' : World} {v : Value} {l : List Bs} (h : StrsOwn w w' v l) : SliceIs w' v l := by
  obtain ⟨A, c, e, hc, hr⟩ := own_row_cap h.own
  exact ⟨A, c, e, hc, hr⟩

set_option maxHeartbeats 8000000 in
set_option maxRecDepth 100000 in
theorem RouteGrows_walk (A : Option Addr) (l : List Bs) (c : Nat) {w : World} (hr : Row w A (strsL l)) (hs : SizedS l c) (_ : World) (hsh : w.ShapedOpen Tryd.prog) :
    Calls Tryd.prog 6 #[.slice A l.length c] w fun e w' => e = .returned (.bool true) ∧ Below w.heap.size w w' := by
  have HSH := Lib.hid hsh; clear hsh
  have HR := Lib.hid hr; clear hr
  have hl := Nat.le_trans hs.1 hs.2.1
  have HS := Lib.hid hs.2.2
  clear hs
  unfold maxLen at hl
  go_enter Tryd.func6, Tryd.ntmps6
  go_wp2_with fail
  go_loopg [3, 4, 5] 120 (fun g rv wv ix wr => ∃ (k : Nat) (R Wl : List Bs), g = 120 - k ∧ k ≤ l.length ∧ k ≤ 120 ∧ ix = .int .i64 k ∧ SliceIs wr rv R ∧ SliceIs wr wv Wl ∧ GrowAt R Wl k ∧ Below w.heap.size w wr)
  case atStart => exact ⟨0, [], [], by omega, by omega, by omega, rfl, ⟨none, 0, rfl, by simp, .inl rfl⟩, ⟨none, 0, rfl, by simp, .inl rfl⟩, ⟨rfl, by simp, by simp⟩, Below.refl _ _⟩
  case round =>
    obtain ⟨k, R, Wl, rfl, hk, hk2, rfl, ⟨Ar, cr, rfl, hcr, hRr⟩, ⟨Aw, cw, rfl, hcw, hRw⟩, hG, hB⟩ := hrel
    have HRr := Lib.hid hRr; have HRw := Lib.hid hRw; clear hRr hRw
    have hgl := hG.len
    by_cases hlt : k < l.length
    · by_cases h7 : k < 120
      · have h7' : decide ((k : Int) < 120) = true := by simp; omega
        have hk1 : (0 : Int) ≤ (k : Int) := by omega
        have hk3 : (k : Int) < (l.length : Int) := by omega
        obtain ⟨x, hx⟩ : ∃ x, ofL l[k] = x := ⟨_, rfl⟩
        have hxL : l[k] = toL x := by rw [← hx, toL_ofL]
        obtain ⟨bb, off, e1, hc1⟩ := (HR.out.below hB).str hlt hx
        have hbb : bb < w.heap.size := by
          obtain ⟨b', o', e', hb', _⟩ := HR.out.at (k := k) (by simpa using hlt)
          rw [e1] at e'; injection e' with e'; injection e' with e'; omega
        subst e1
        have hm := HS.out _ (List.getElem_mem hlt)
        rw [hxL, toL_length] at hm
        unfold maxLen at hm
        have HCX := Lib.hid (fun wx (hbx : Below w.heap.size w wx) => ((HR.out.below hbx).str hlt hx))
        clear hx hxL
        have m1 : (0 : Int) ≤ min (x.size : Int) 40 := by omega
        have m2 : min (x.size : Int) 40 ≤ (x.size : Int) := by omega
        have hX : (x.extract 0 (min (x.size : Int) 40).toNat).size ≤ 1000000 := by rw [extract_size _ _ _ (by omega)]; omega
        obtain ⟨X, hXe⟩ : ∃ X, x.extract 0 (min (x.size : Int) 40).toNat = X := ⟨_, rfl⟩
        rw [hXe] at hX
        have HXE := Lib.hid hXe; clear hXe
        have HPR := Lib.hid (fun wx (hb : Below wr.heap.size wr wx) => rt_prepend Ar R cr X wx (HRr.out.below hb) hG.tame hX)
        rw [← HXE.out] at HPR
        have hsz := hB.size
        go_wp2_with fail
        go_region_held3 (fun w' => w'.cell? ⟨bb, off + k, none⟩ = some (.string x))
          (first
            | go_keep
            | (rw [hF3.bel.cell (p := ⟨bb, off + k, none⟩) (by simp; omega)]; assumption))
          (first
            | (go_at_call 20; refine (HPR.out _ (Below.refl _ _).drew).mono ?_; rintro e w3 ⟨v3, rfl, hF3⟩))
        have hb3 := below_undrew hF3.bel
        have hB3 := hB.trans (hb3.mono hB.size)
        have HRr3 := Lib.hid (HRr.out.below hb3)
        have HRw3 := Lib.hid (HRw.out.below hb3)
        have hS3 := SliceIs.of_own hF3
        rw [HXE.out] at hS3 ⊢
        have HNEXT := Lib.hid (hG.next (toL X))
        have HBADP := Lib.hid (prep_bad R (toL X))
        clear hF3 hc1 HPR
        generalize prependR R (toL X) = pr at *
        obtain ⟨M, e0⟩ := pr
        simp only at hS3 HNEXT HBADP ⊢
        obtain ⟨A3, c3, rfl, hc3, hrow3⟩ := hS3
        have HM3 := Lib.hid hrow3; clear hrow3
        by_cases h0 : e0 = 0
        · subst h0
          obtain ⟨hG2, hck, hhas, hMpos⟩ := HNEXT.out rfl
          have HG2 := Lib.hid hG2; have HCK := Lib.hid hck; have HHAS := Lib.hid hhas
          have HTM := Lib.hid hG2.tame
          have HMeq := Lib.hid hG2.eq
          clear hG2 hck hhas
          have hcx : w3.cell? ⟨bb, off + k, none⟩ = some (.string x) := by
            obtain ⟨b', o', e', hc'⟩ := HCX.out w3 hB3
            cases e'; exact hc'
          have hA4 : Below w3.heap.size w3 ((w3.alloc (.cells #[.string (x.extract 0 (min (x.size : Int) 40).toNat)] 9)).drew) := ((Below.refl _ _).alloc (Nat.le_refl _) _).drew
          have HRA4 := Lib.hid (HRw3.out.below hA4)
          have HOL4 := Lib.hid ((World.ownsRow_lit (base := w3.heap.size) (e := 9) (size := 1) w3 #[.string (x.extract 0 (min (x.size : Int) 40).toNat)] 1 (Nat.le_refl _) (by decide) rfl).drew)
          have hb3z := World.block_lt_of_cell? w3 _ hcx
          go_wp2_with fail
          go_region_held3 (fun w' => w'.cell? ⟨bb, off + k, none⟩ = some (.string x))
            (first
              | go_keep
              | (rw [hg4.cell_far ⟨bb, off + k, none⟩ (by simp; omega) (fun e => by injection e with e; simp at e; omega)]; assumption))
            ((refine step_pourS (l := Wl) (A := Aw) (c := cw) el_string (by rfl) _ _ (by rfl) HOL4.out (by rfl) (by rfl) HRA4.out ?q1 ?q2 ?_; (case q1 => omega); (case q2 => simp); intro v4 w4 hown4 hg4 hat4))
          all_goals
            have hF4 : StrsOwn w3 w4 v4 (toL X :: Wl) := by
              refine ⟨?_, hA4.grown hg4 hA4.size (fun k hk => by have hk2 : some w3.heap.size = some k := hk; injection hk2 with hk2; omega)⟩
              have hq := hown4
              rw [HXE.out] at hq
              have e1 : [Value.string X] ++ strsL Wl = strsL (toL X :: Wl) := by simp [ofL_toL]
              have e2 : 1 + Wl.length = (toL X :: Wl).length := by simp; omega
              rw [← e1, ← e2]; exact hq
            clear hown4 hg4 hat4 hcx
            have hb4 := hF4.bel
            have hB4 := hB3.trans (hb4.mono hB3.size)
            have HM4 := Lib.hid (HM3.out.below hb4)
            obtain ⟨A4, c4, rfl, hc4, hrow4⟩ := own_row_cap hF4.own
            have HW4 := Lib.hid hrow4
            have HT4 := Lib.hid (strs_take hrow4 50)
            clear hrow4 hF4
            have hML : M.length ≤ 50 := by rw [HMeq.out, List.length_take]; omega
            go_wp2_with fail
            (with_reducible refine (rt_check A3 M c3 w4 HM4.out HTM.out).mono ?_)
            rintro e w' ⟨rfl, rfl⟩
            rw [HCK.out]
            have HK50 := Lib.hid (show (min (((toL X :: Wl).length : Nat) : Int) 50).toNat = ((toL X :: Wl).take 50).length by simp; omega)
            have r1 : (0 : Int) ≤ min (((toL X :: Wl).length : Nat) : Int) 50 := by omega
            have r2 : min (((toL X :: Wl).length : Nat) : Int) 50 ≤ (c4 : Int) := by omega
            have HMT := Lib.hid (show (toL X :: Wl).take 50 = M from HMeq.out.symm)
            have hWpos : (0 : Int) < (((toL X :: Wl).length : Nat) : Int) := by simp <;> omega
            obtain ⟨WW, hWW⟩ : ∃ WW, WW = toL X :: Wl := ⟨_, rfl⟩
            rw [← hWW] at HK50 r1 r2 HMT hWpos HW4 HT4 HG2 ⊢
            have HWW := Lib.hid hWW; clear hWW
            go_wp2_with fail
            rw [HK50.out]
            rw [HMT.out] at HT4 ⊢
            (with_reducible refine (refs_same A3 A4 M M c3 c4 w4 HM4.out HT4.out (by omega) (by omega)).mono ?_)
            rintro e w5 ⟨rfl, hb5⟩
            simp only [decide_true]
            have hB5 := hB4.trans (hb5.mono hB4.size)
            have HM5 := Lib.hid (HM4.out.below hb5)
            have HW5 := Lib.hid (HW4.out.below hb5)
            have hq5 := HW5.out
            rw [HWW.out] at hq5
            obtain ⟨b5, o5, hA5, hc5⟩ := hq5.str (k := 0) (by simp) (x := X) (by simp [ofL_toL])
            subst hA5
            rw [Nat.add_zero] at hc5
            clear hq5
            go_wp2_with fail
            (with_reducible refine (rt_contains A3 M c3 X w5 HM5.out (by omega)).mono ?_)
            rintro e w' ⟨rfl, rfl⟩
            rw [HHAS.out]
            go_wp2_with fail
            go_roundg (120 - (k + 1))
            case measure => omega
            case rel => exact ⟨k + 1, M, WW, rfl, by omega, by omega, by go_num, ⟨A3, c3, rfl, hc3, HM5.out⟩, ⟨_, c4, rfl, by rw [HWW.out]; exact hc4, HW5.out⟩, HG2.out, hB5⟩
        · have h0' : (e0 != 0) = true := by simpa using h0
          have hM0 : M = [] := HBADP.out h0
          subst hM0
          clear h0
          go_wp2_with fail
          go_roundg (120 - (k + 1))
          case measure => omega
          case rel => exact ⟨k + 1, R, Wl, rfl, by omega, by omega, by go_num, ⟨Ar, cr, rfl, hcr, HRr3.out⟩, ⟨Aw, cw, rfl, hcw, HRw3.out⟩, ⟨hG.eq, hG.ok, by omega⟩, hB3⟩
      · have h7' : decide ((k : Int) < 120) = false := by simp; omega
        have HSHr := Lib.hid (shaped_below HSH.out hB)
        go_wp2_with fail
        (with_reducible refine (law_known wr HSHr.out).mono ?_)
        rintro e w9 ⟨rfl, hb9⟩
        go_wp2_with fail
        go_ret
        exact ⟨rfl, hB.trans (hb9.mono hB.size)⟩
    · have HSHr := Lib.hid (shaped_below HSH.out hB)
      go_wp2_with fail
      (with_reducible refine (law_known wr HSHr.out).mono ?_)
      rintro e w9 ⟨rfl, hb9⟩
      go_wp2_with fail
      go_ret
      exact ⟨rfl, hB.trans (hb9.mono hB.size)⟩

set_option maxRecDepth 100000 in
theorem RouteGrows_contract (H : Type) (enc : TypeId × Value → H) (W : World) (base : Nat) (args : Array Value) (ds gs : List (DataW H)) (before : List MemPlace)
    (hval0 : ∀ (j : Nat) t v, Tryd.f6.params[j]? = some t → args[j]? = some v → Value.okWide Tryd.prog W .any base t v)
    (hW : DataW.Whole enc Tryd.prog Tryd.f6.params.toList Rows.routeGrowsSpec.vars false W args.toList ds gs before) (hsh : W.ShapedOpen Tryd.prog) :
    Calls Tryd.prog 6 args W fun e W' => ∃ v, e = .returned v ∧ Rows.routeGrowsSpec.post enc Tryd.prog Tryd.f6 false true false false W args v W' := by
  have hval : ∀ (j : Nat) t v, Tryd.f6.params[j]? = some t → args[j]? = some v → Value.okWide Tryd.prog W .any base t v := hval0
  have hW' := hW
  obtain ⟨p, q, hA0, hV, rfl, hfz, hnd⟩ := hW
  have hA : DataW.TrodAll enc Tryd.prog W 0 (fun _ => true) true Tryd.f6.params.toList args.toList ds p := hA0
  rw [Tryd.params6] at hA hval
  obtain ⟨v0, vs0, d0, ds0, p0, q0, hargs, rfl, rfl, h0, r0⟩ := trodAll_cons hA
  obtain ⟨rfl, rfl, rfl⟩ := trodAll_nil r0
  obtain rfl : args = #[v0] := by cases args; simp_all
  obtain ⟨rfl, rfl⟩ := trodVars_none hV
  obtain ⟨A0, l0, c0, hv0, hrow0, hsz0⟩ := open_strs Tryd.underlying22 Tryd.underlying9 (by kernel_rfl) (hval 0 22 v0 rfl rfl) h0
  subst hv0
  refine (RouteGrows_walk A0 l0 c0 hrow0 hsz0 W hsh).mono fun e W' ⟨he, hg⟩ => ?_
  subst he
  exact ⟨_, rfl, law_post hW' rfl rfl rfl (by decide +kernel) hg⟩

theorem RouteGrows_reads (os : Os) {H : Type} (enc : TypeId × Value → H) : ∃ places, DataW.whole enc Tryd.prog ((laidWorld os).forCall (fun _ _ => 0) ⟨#[], #[.slice none 0 0], []⟩).memory Tryd.f6.params.toList Rows.routeGrowsSpec.vars false ((#[.slice none 0 0] : Array Value)).toList 8 = some ([.nil], [], places) :=
  ⟨[], by kernel_rfl⟩

set_option maxRecDepth 100000 in
theorem RouteGrows_lifted (os : Os) (started : os.Started) (H : Type) (enc : TypeId × Value → H) (F : Stop.Interp) :
    ReturnsInHanded {} Tryd.checked os 6 .any ((OpenSpec.ofChange Rows.routeGrowsSpec).preRow enc Tryd.prog Tryd.f6 Rows.routeGrowsRow.domain false Rows.routeGrowsRow.laid) (((OpenSpec.ofChange Rows.routeGrowsSpec).at F).post enc Tryd.prog Tryd.f6 false true false false) := by
  obtain ⟨places, hx⟩ := RouteGrows_reads os enc
  refine returnsInHanded_of_row (C := Tryd.checked) (s := OpenSpec.ofChange Rows.routeGrowsSpec) own started (by kernel_rfl) Tryd.func6
    (witness_row_at (enc := enc) (C := Tryd.checked) false (laidWorld os) #[.slice none 0 0] rfl (by kernel_rfl) (by kernel_rfl) (by kernel_rfl)
      (OpenSpec.preRow_of_cond 8 hx (by kernel_rfl) (fun k hk => by cases hk) (by kernel_rfl) (laid_met os #[.slice none 0 0]))) ?_
  intro W base args ds gs before hval hW _ _ _ hL hsh _
  exact RouteGrows_contract H enc W base args ds gs before hval hW hsh

theorem RouteGrows_said : Rows.RouteGrowsSaid :=
  OpenClaim.holds_of_cond 6 Tryd.f6 rfl rfl rfl rfl rfl rfl rfl ⟨rfl, rfl, rfl, rfl, rfl⟩ rfl rfl rfl rfl rfl (by kernel_rfl) Tryd.func6 (by kernel_rfl)
    (of_decide_eq_true (by kernel_rfl)) (by unfold Func.isWrapper; first | (rw [if_pos (by decide +kernel)]; kernel_rfl) | (rw [if_neg (by decide +kernel)]; exact ⟨rfl, rfl⟩))
    (fun os started H enc _ F => by rw [OpenClaim.pre_eq_preRow]; exact RouteGrows_lifted os started H enc F)

theorem RouteGrows_plain (f : FuncId) (fn : Func) (hf : Tryd.pinned.checked.prog.funcNamed Rows.routeGrowsRow.func = some f) (hfn : Tryd.pinned.checked.prog.funcs[f]? = some fn) :
    false = Tryd.pinned.checked.prog.looks [] ∧ ∀ (j : Nat) t, fn.params[j]? = some t → Tryd.pinned.checked.prog.wantsStandIn t = false := by
  obtain rfl : f = 6 := Option.some.inj ((show Tryd.prog.funcNamed Rows.routeGrowsRow.func = some 6 by kernel_rfl).symm.trans hf) |>.symm
  obtain rfl : fn = Tryd.f6 := (Option.some.inj (Tryd.func6.symm.trans hfn)).symm
  refine ⟨by kernel_rfl, fun j t ht => ?_⟩
  rw [Tryd.params6] at ht
  have hm := Array.mem_of_getElem? ht
  simp only [List.mem_toArray, List.mem_cons, List.not_mem_nil, or_false] at hm
  subst hm
  exact (show Tryd.prog.wantsStandIn 22 = false by kernel_rfl)

theorem RouteGrows_proved : Rows.RouteGrowsCardSaid :=
  Claim7.holds_tied_plain_at .later [] _ _ _ _ RouteGrows_said (fun _ h => by cases h) (by kernel_rfl) (fun _ h => by cases h) routeGrows_row_tie rfl ⟨rfl, rfl⟩ (by kernel_rfl) rfl RouteGrows_plain (by kernel_rfl)

end Go.Proofs.YtgfgjkafkdfjpaaDoor
