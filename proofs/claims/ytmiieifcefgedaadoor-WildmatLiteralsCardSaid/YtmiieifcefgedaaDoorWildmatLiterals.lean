/- For every two texts, WildmatLiterals returns true: a pattern of name characters matches exactly its own text. No condition. -/
import Derived.Test.YtmiieifcefgedaaDoorWmG
namespace Go.Proofs.YtmiieifcefgedaaDoor
set_option linter.unusedSimpArgs false
set_option linter.unusedVariables false
open Go.ChangeShapes Go.WideShapes Go.ChangeAt Go.RowKit
open Go.ChangeMaps (open_string shut_string)

/-- The law's own test of a byte. -/
theorem char_cases (c : UInt8) : (isChar c = true ∧ ((97 ≤ num c ∧ num c ≤ 122) ∨ (48 ≤ num c ∧ num c ≤ 57) ∨ num c = 43 ∨ num c = 45 ∨ num c = 95 ∨ num c = 46)) ∨
    (isChar c = false ∧ (num c < 48 ∨ (57 < num c ∧ num c < 97) ∨ 122 < num c) ∧ num c ≠ 43 ∧ num c ≠ 45 ∧ num c ≠ 95 ∧ num c ≠ 46) := by
  have := byte_all (fun c => decide ((isChar c = true ∧ ((97 ≤ num c ∧ num c ≤ 122) ∨ (48 ≤ num c ∧ num c ≤ 57) ∨ num c = 43 ∨ num c = 45 ∨ num c = 95 ∨ num c = 46)) ∨
    (isChar c = false ∧ (num c < 48 ∨ (57 < num c ∧ num c < 97) ∨ 122 < num c) ∧ num c ≠ 43 ∧ num c ≠ 45 ∧ num c ≠ 95 ∧ num c ≠ 46))) (by decide +kernel) c
  exact of_decide_eq_true this
theorem compF_lits (l : Bs) (h : Chars l) (h0 : l ≠ []) (hl : l.length ≤ 80) : compF l = (l.map .lit, 0, 0) := by
  unfold compF
  rw [if_neg (by intro e; exact h0 (List.eq_nil_of_length_eq_zero e)), if_neg (by omega), compGo_lits l h 0 []]
  rfl

set_option maxHeartbeats 4000000 in
set_option maxRecDepth 100000 in
theorem WildmatLiterals_walk (a : ByteArray) (ha : a.size ≤ maxLen) (b : ByteArray) (hb : b.size ≤ maxLen) (w : World) (hsh : w.ShapedOpen Tryd.prog) :
    Calls Tryd.prog 4 #[.string a, .string b] w fun e w' => e = .returned (.bool true) ∧ Below w.heap.size w w' := by
  have HSH := Lib.hid hsh; clear hsh
  have HC1 := Lib.hid (fun N (hN : N = ((80 : Nat) : Int)) wx => law_cut' a 80 N hN wx ha (by omega))
  have HC2 := Lib.hid (fun N (hN : N = ((100 : Nat) : Int)) wx => law_cut' b 100 N hN wx hb (by omega))
  have hx := cutB_size a 80; have hy := cutB_size b 100
  clear ha hb
  generalize cutB a 80 = x at *
  generalize cutB b 100 = y at *
  have HKN := Lib.hid (law_known w HSH.out)
  have HLX := Lib.hid (toL_length x)
  go_enter Tryd.func4, Tryd.ntmps4
  go_wp2_with fail
  (with_reducible refine (HC1.out 80 rfl _).mono ?_)
  rintro e w' ⟨rfl, rfl⟩
  go_wp2_with fail
  (with_reducible refine (HC2.out 100 rfl _).mono ?_)
  rintro e w' ⟨rfl, rfl⟩
  clear HC1 HC2
  go_wp2_with fail
  go_loopw [5, 6] (fun v5 _ wr => ∃ k : Nat, k ≤ x.size ∧ v5 = .int .i64 k ∧ Chars ((toL x).take k) ∧ wr = w) (fun v5 _ _ => x.size - (intOf v5).toNat)
  case atStart => exact ⟨0, by omega, rfl, by simp [Chars], rfl⟩
  case round =>
    obtain ⟨k, hk, rfl, hch, rfl⟩ := hrel
    have HCH := Lib.hid hch; clear hch
    by_cases hlt : k < x.size
    · have hk1 : (0 : Int) ≤ (k : Int) := by omega
      have hk2 : (k : Int) < (x.size : Int) := by omega
      have HNEXT := Lib.hid (fun (h : isChar (x[k]'hlt) = true) => (show Chars ((toL x).take (k + 1)) from by
        intro c hc
        rw [List.take_succ_eq_append_getElem (by rw [HLX.out]; exact hlt)] at hc
        rcases List.mem_append.1 hc with hc | hc
        · exact HCH.out c hc
        · rw [List.mem_singleton] at hc
          rw [hc, toL_getElem x k hlt]; exact h))
      rcases char_cases (x[k]'hlt) with ⟨hc, hcs⟩ | ⟨hc, hcs, n1, n2, n3, n4⟩
      · have HN := Lib.hid (HNEXT.out hc)
        clear HNEXT hc
        rcases hcs with ⟨g1, g2⟩ | ⟨g1, g2⟩ | g | g | g | g
        · have t1 : decide (num (x[k]'hlt) < 97) = false := by simp; omega
          have t2 : decide (122 < num (x[k]'hlt)) = false := by simp; omega
          go_wp2_with fail
          go_roundw
          case rel => exact ⟨k + 1, by omega, by go_num, HN.out, by trivial⟩
          case measure => simp [intOf] <;> omega
        · have t1 : decide (num (x[k]'hlt) < 97) = true := by simp; omega
          have t3 : decide (num (x[k]'hlt) < 48) = false := by simp; omega
          have t4 : decide (57 < num (x[k]'hlt)) = false := by simp; omega
          go_wp2_with fail
          go_roundw
          case rel => exact ⟨k + 1, by omega, by go_num, HN.out, by trivial⟩
          case measure => simp [intOf] <;> omega
        all_goals
          go_wp2_with fail
          go_roundw
          case rel => exact ⟨k + 1, by omega, by go_num, HN.out, by trivial⟩
          case measure => simp [intOf] <;> omega
      · clear HNEXT hc
        have m1 : (num (x[k]'hlt) != 43) = true := by simpa using n1
        have m2 : (num (x[k]'hlt) != 45) = true := by simpa using n2
        have m3 : (num (x[k]'hlt) != 95) = true := by simpa using n3
        have m4 : (num (x[k]'hlt) != 46) = true := by simpa using n4
        clear n1 n2 n3 n4
        rcases hcs with g | ⟨g1, g2⟩ | g
        · have t1 : decide (num (x[k]'hlt) < 97) = true := by simp; omega
          have t3 : decide (num (x[k]'hlt) < 48) = true := by simp; omega
          go_wp2_with fail
          (with_reducible refine HKN.out.mono ?_)
          rintro e w4 ⟨rfl, hb4⟩
          go_wp2_with fail
          go_ret
          exact ⟨rfl, hb4⟩
        · have t1 : decide (num (x[k]'hlt) < 97) = true := by simp; omega
          have t3 : decide (num (x[k]'hlt) < 48) = false := by simp; omega
          have t4 : decide (57 < num (x[k]'hlt)) = true := by simp; omega
          go_wp2_with fail
          (with_reducible refine HKN.out.mono ?_)
          rintro e w4 ⟨rfl, hb4⟩
          go_wp2_with fail
          go_ret
          exact ⟨rfl, hb4⟩
        · have t1 : decide (num (x[k]'hlt) < 97) = false := by simp; omega
          have t2 : decide (122 < num (x[k]'hlt)) = true := by simp; omega
          have t3 : decide (num (x[k]'hlt) < 48) = false := by simp; omega
          have t4 : decide (57 < num (x[k]'hlt)) = true := by simp; omega
          go_wp2_with fail
          (with_reducible refine HKN.out.mono ?_)
          rintro e w4 ⟨rfl, hb4⟩
          go_wp2_with fail
          go_ret
          exact ⟨rfl, hb4⟩
    · obtain rfl : k = x.size := by omega
      have HALL := Lib.hid (show Chars (toL x) from by have := HCH.out; rw [List.take_of_length_le (by rw [HLX.out]; exact Nat.le_refl _)] at this; exact this)
      have HCO := Lib.hid (wm_compile x wr (by omega))
      have HKK := Lib.hid (fun wx (hx : Below wr.heap.size wr wx) => law_known wx (shaped_below HSH.out hx))
      clear HCH HKN
      by_cases h0 : toL x = []
      · obtain rfl : x = ⟨#[]⟩ := toL_inj h0
        go_wp2_with fail
        (with_reducible refine HCO.out.mono ?_)
        intro e w1 h1
        obtain ⟨rfl, hb1⟩ := h1.no (show compF (toL ⟨#[]⟩) = ([], 0, 4) by decide +kernel) (by decide)
        go_wp2_with fail
        (with_reducible refine (HKK.out w1 hb1).mono ?_)
        rintro e w2 ⟨rfl, hb2⟩
        go_wp2_with fail
        go_ret
        exact ⟨rfl, hb1.trans (hb2.mono hb1.size)⟩
      · have HE := Lib.hid (compF_lits (toL x) HALL.out h0 (by rw [HLX.out]; omega))
        have HOK := Lib.hid (show ∀ e ∈ (toL x).map Em.lit, e.Ok by have := compF_ok (toL x); rw [HE.out] at this; exact this)
        have HM1 := Lib.hid (match_lits (toL x))
        have HEM := Lib.hid (empty_lits (toL x))
        have hlen : ((toL x).map Em.lit).length ≤ 80 := by rw [List.length_map, HLX.out]; omega
        have hEe : x.toList.isEmpty = false := by
          rw [← Bool.not_eq_true, List.isEmpty_iff]; intro h; exact h0 ((ByteArray.toList_eq x).symm.trans h)
        have HEQ := Lib.hid (show decide (toL y = toL x) = (y.toList == x.toList) from by
          rw [beq_toList])
        clear HALL
        go_wp2_with fail
        (with_reducible refine HCO.out.mono ?_)
        intro e w1 h1
        obtain ⟨pb, rfl, hp, hb1⟩ := h1.yes HE.out
        have HP := Lib.hid hp
        clear h1 hp HCO HE h0
        generalize (toL x).map Em.lit = ps at *
        go_wp2_with fail
        (with_reducible refine (HKK.out w1 hb1).mono ?_)
        rintro e w2 ⟨rfl, hb2⟩
        have hw2 := hb1.trans (hb2.mono hb1.size)
        have HP2 := Lib.hid (HP.out.below hb2)
        go_wp2_with fail
        (with_reducible refine (pat_match pb _ ps x w2 HP2.out.at (by omega) HOK.out (by omega)).mono ?_)
        rintro e w3 ⟨rfl, hb3⟩
        have hw3 := hw2.trans (hb3.mono hw2.size)
        have HP3 := Lib.hid (HP2.out.below hb3)
        rw [HM1.out]
        simp only [decide_true]
        go_wp2_with fail
        (with_reducible refine (pat_match pb _ ps y w3 HP3.out.at (by omega) HOK.out (by omega)).mono ?_)
        rintro e w4 ⟨rfl, hb4⟩
        have hw4 := hw3.trans (hb4.mono hw3.size)
        have HP4 := Lib.hid (HP3.out.below hb4)
        rw [HM1.out, HEQ.out]
        rcases hq : (y.toList == x.toList) with _ | _
        all_goals
          go_wp2_with fail
          (with_reducible refine (pat_empty pb _ ps w4 HP4.out.at (by omega)).mono ?_)
          rintro e w5 ⟨rfl, hb5⟩
          rw [HEM.out]
          go_wp2_with fail
          go_ret
          exact ⟨rfl, hw4.trans (hb5.mono hw4.size)⟩

set_option maxRecDepth 100000 in
theorem WildmatLiterals_contract (H : Type) (enc : TypeId × Value → H) (W : World) (base : Nat) (args : Array Value) (ds gs : List (DataW H)) (before : List MemPlace)
    (hval0 : ∀ (j : Nat) t v, Tryd.f4.params[j]? = some t → args[j]? = some v → Value.okWide Tryd.prog W .any base t v)
    (hW : DataW.Whole enc Tryd.prog Tryd.f4.params.toList Rows.wildmatLiteralsSpec.vars false W args.toList ds gs before) (hsh : W.ShapedOpen Tryd.prog) :
    Calls Tryd.prog 4 args W fun e W' => ∃ v, e = .returned v ∧ Rows.wildmatLiteralsSpec.post enc Tryd.prog Tryd.f4 false true false false W args v W' := by
  have hval : ∀ (j : Nat) t v, Tryd.f4.params[j]? = some t → args[j]? = some v → Value.okWide Tryd.prog W .any base t v := hval0
  have hW' := hW
  obtain ⟨p, q, hA0, hV, rfl, hfz, hnd⟩ := hW
  have hA : DataW.TrodAll enc Tryd.prog W 0 (fun _ => true) true Tryd.f4.params.toList args.toList ds p := hA0
  rw [Tryd.params4] at hA hval
  obtain ⟨v0, vs0, d0, ds0, p0, q0, hargs, rfl, rfl, h0, r0⟩ := trodAll_cons hA
  obtain ⟨v1, vs1, d1, ds1, p1, q1, rfl, rfl, rfl, h1, r1⟩ := trodAll_cons r0
  obtain ⟨rfl, rfl, rfl⟩ := trodAll_nil r1
  obtain rfl : args = #[v0, v1] := by cases args; simp_all
  obtain ⟨rfl, rfl⟩ := trodVars_none hV
  obtain ⟨a0, rfl, rfl, rfl, w0⟩ := open_string Tryd.underlying9 (hval 0 9 v0 rfl rfl) h0
  obtain ⟨a1, rfl, rfl, rfl, w1⟩ := open_string Tryd.underlying9 (hval 1 9 v1 rfl rfl) h1
  refine (WildmatLiterals_walk a0 w0 a1 w1 W hsh).mono fun e W' ⟨he, hg⟩ => ?_
  subst he
  exact ⟨_, rfl, law_post hW' rfl rfl rfl (by decide +kernel) hg⟩

theorem WildmatLiterals_reads (os : Os) {H : Type} (enc : TypeId × Value → H) : ∃ places, DataW.whole enc Tryd.prog ((laidWorld os).forCall (fun _ _ => 0) ⟨#[], #[.string ByteArray.empty, .string ByteArray.empty], []⟩).memory Tryd.f4.params.toList Rows.wildmatLiteralsSpec.vars false ((#[.string ByteArray.empty, .string ByteArray.empty] : Array Value)).toList 8 = some ([.lit (.string []), .lit (.string [])], [], places) :=
  ⟨[], by kernel_rfl⟩

set_option maxRecDepth 100000 in
theorem WildmatLiterals_lifted (os : Os) (started : os.Started) (H : Type) (enc : TypeId × Value → H) (F : Stop.Interp) :
    ReturnsInHanded {} Tryd.checked os 4 .any ((OpenSpec.ofChange Rows.wildmatLiteralsSpec).preRow enc Tryd.prog Tryd.f4 Rows.wildmatLiteralsRow.domain false Rows.wildmatLiteralsRow.laid) (((OpenSpec.ofChange Rows.wildmatLiteralsSpec).at F).post enc Tryd.prog Tryd.f4 false true false false) := by
  obtain ⟨places, hx⟩ := WildmatLiterals_reads os enc
  refine returnsInHanded_of_row (C := Tryd.checked) (s := OpenSpec.ofChange Rows.wildmatLiteralsSpec) own started (by kernel_rfl) Tryd.func4
    (witness_row_at (enc := enc) (C := Tryd.checked) false (laidWorld os) #[.string ByteArray.empty, .string ByteArray.empty] rfl (by kernel_rfl) (by kernel_rfl) (by kernel_rfl)
      (OpenSpec.preRow_of_cond 8 hx (by kernel_rfl) (fun k hk => by cases hk) (by kernel_rfl) (laid_met os #[.string ByteArray.empty, .string ByteArray.empty]))) ?_
  intro W base args ds gs before hval hW _ _ _ hL hsh _
  exact WildmatLiterals_contract H enc W base args ds gs before hval hW hsh

theorem WildmatLiterals_said : Rows.WildmatLiteralsSaid :=
  OpenClaim.holds_of_cond 4 Tryd.f4 rfl rfl rfl rfl rfl rfl rfl ⟨rfl, rfl, rfl, rfl, rfl⟩ rfl rfl rfl rfl rfl (by kernel_rfl) Tryd.func4 (by kernel_rfl)
    (of_decide_eq_true (by kernel_rfl)) (by unfold Func.isWrapper; first | (rw [if_pos (by decide +kernel)]; kernel_rfl) | (rw [if_neg (by decide +kernel)]; exact ⟨rfl, rfl⟩))
    (fun os started H enc _ F => by rw [OpenClaim.pre_eq_preRow]; exact WildmatLiterals_lifted os started H enc F)

theorem WildmatLiterals_plain (f : FuncId) (fn : Func) (hf : Tryd.pinned.checked.prog.funcNamed Rows.wildmatLiteralsRow.func = some f) (hfn : Tryd.pinned.checked.prog.funcs[f]? = some fn) :
    true = Tryd.pinned.checked.prog.looks [] ∧ ∀ (j : Nat) t, fn.params[j]? = some t → Tryd.pinned.checked.prog.wantsStandIn t = false := by
  obtain rfl : f = 4 := Option.some.inj ((show Tryd.prog.funcNamed Rows.wildmatLiteralsRow.func = some 4 by kernel_rfl).symm.trans hf) |>.symm
  obtain rfl : fn = Tryd.f4 := (Option.some.inj (Tryd.func4.symm.trans hfn)).symm
  refine ⟨by kernel_rfl, fun j t ht => ?_⟩
  rw [Tryd.params4] at ht
  have hm := Array.mem_of_getElem? ht
  simp only [List.mem_toArray, List.mem_cons, List.not_mem_nil, or_false] at hm
  rcases hm with rfl | rfl
  · exact (show Tryd.prog.wantsStandIn 9 = false by kernel_rfl)
  · exact (show Tryd.prog.wantsStandIn 9 = false by kernel_rfl)

theorem WildmatLiterals_proved : Rows.WildmatLiteralsCardSaid :=
  Claim7.holds_tied_plain_at .later [] _ _ _ _ WildmatLiterals_said (fun _ h => by cases h) (by kernel_rfl) (fun _ h => by cases h) wildmatLiterals_row_tie rfl ⟨rfl, rfl⟩ (by kernel_rfl) rfl WildmatLiterals_plain (by kernel_rfl)

end Go.Proofs.YtmiieifcefgedaaDoor
