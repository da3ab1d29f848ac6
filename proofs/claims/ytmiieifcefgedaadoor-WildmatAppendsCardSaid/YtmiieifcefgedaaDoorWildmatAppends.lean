/- For every three texts and every kind, WildmatAppends returns true: a pattern that is appended to a list decides on every name that it matches, and changes nothing for the others. No condition. -/
import Derived.Test.YtmiieifcefgedaaDoorWmG
namespace Go.Proofs.YtmiieifcefgedaaDoor
set_option linter.unusedSimpArgs false
set_option linter.unusedVariables false
open Go.ChangeShapes Go.WideShapes Go.ChangeAt Go.RowKit
open Go.ChangeMaps (open_string shut_string)

/-- What is appended. -/
def markB (k : Nat) : ByteArray := ofL (markF k)
theorem app_toL (s t : ByteArray) : toL (s ++ t) = toL s ++ toL t := by simp [toL]
theorem appended (x l : ByteArray) (k : Nat) : toL (x ++ ⟨#[44]⟩ ++ markB k ++ l) = toL x ++ 44 :: (markF k ++ toL l) := by
  rw [app_toL, app_toL, app_toL]
  show toL x ++ [44] ++ toL (ofL (markF k)) ++ toL l = _
  rw [toL_ofL]; simp

theorem u8_wf {d : Int} (h : (Lit.int .u8 d).wf = true) : 0 ≤ d ∧ d < 256 := by
  simp only [Lit.wf, Bool.and_eq_true, decide_eq_true_eq] at h
  have h1 : IntKind.u8.min = 0 := by decide
  have h2 : IntKind.u8.max = 255 := by decide
  rw [h1, h2] at h
  omega

set_option maxHeartbeats 4000000 in
set_option maxRecDepth 100000 in
theorem WildmatAppends_walk' (a : ByteArray) (ha : a.size ≤ maxLen) (b : ByteArray) (hb : b.size ≤ maxLen) (c : ByteArray) (hc : c.size ≤ maxLen) (d : Int) (k : Nat) (hd0 : 0 ≤ d) (hd1 : d < 256) (hk : k < 3) (hrem : d.tmod 3 = k) (w : World) (hsh : w.ShapedOpen Tryd.prog) :
    Calls Tryd.prog 8 #[.string a, .string b, .string c, .int .u8 d] w fun e w' => e = .returned (.bool true) ∧ Below w.heap.size w w' := by
  have HSH := Lib.hid hsh; clear hsh
  have HC1 := Lib.hid (fun N (hN : N = ((400 : Nat) : Int)) wx => law_cut' a 400 N hN wx ha (by omega))
  have HC2 := Lib.hid (fun N (hN : N = ((80 : Nat) : Int)) wx => law_cut' b 80 N hN wx hb (by omega))
  have HC3 := Lib.hid (fun N (hN : N = ((100 : Nat) : Int)) wx => law_cut' c 100 N hN wx hc (by omega))
  have hx := cutB_size a 400; have hy := cutB_size b 80; have hz := cutB_size c 100
  clear ha hb hc
  generalize cutB a 400 = x at *
  generalize cutB b 80 = y at *
  generalize cutB c 100 = z at *
  have HKK := Lib.hid (fun wx (hx : Below w.heap.size w wx) => law_known wx (shaped_below HSH.out hx))
  have HPL := Lib.hid (fun s wx (hx : Below w.heap.size w wx) (hs : s.size ≤ 1000) => wm_parseList s wx (shaped_below HSH.out hx) hs)
  have HAP := Lib.hid (listF_append (toL x) (toL y) k hk)
  have HTX := Lib.hid (appended x y k)
  go_enter Tryd.func8, Tryd.ntmps8
  go_wp2_with fail
  (with_reducible refine (HC1.out 400 rfl _).mono ?_)
  rintro e w' ⟨rfl, rfl⟩
  go_wp2_with fail
  (with_reducible refine (HC2.out 80 rfl _).mono ?_)
  rintro e w' ⟨rfl, rfl⟩
  go_wp2_with fail
  (with_reducible refine (HC3.out 100 rfl _).mono ?_)
  rintro e w' ⟨rfl, rfl⟩
  clear HC1 HC2 HC3
  go_wp2_with fail
  (with_reducible refine (HPL.out x _ (Below.refl _ _) (by omega)).mono ?_)
  rintro e w1 ⟨v, rfl, hv, hb1⟩
  have HO1 := Lib.hid (listF_ok (toL x)).1
  have hl1 := (listF_ok (toL x)).2.1
  rw [← HTX.out] at HAP
  generalize listF (toL x) = r at *
  obtain ⟨es, n1, e1⟩ := r
  simp only at HO1 hl1 HAP ⊢
  go_wp2_with fail
  (with_reducible refine (wm_compile y _ (by omega)).mono ?_)
  rintro e w2 ⟨u, rfl, hu, hb2⟩
  have HO2 := Lib.hid (compF_ok (toL y))
  have hl2 := (compF_len (toL y)).1
  generalize compF (toL y) = r at *
  obtain ⟨qs, n2, e2⟩ := r
  simp only at HO2 hl2 HAP ⊢
  have hw2 := hb1.trans (hb2.mono hb1.size)
  go_wp2_with fail
  (with_reducible refine (HKK.out w2 hw2).mono ?_)
  rintro e w3 ⟨rfl, hb3⟩
  have hw3 := hw2.trans (hb3.mono hw2.size)
  have HKN := Lib.hid (HKK.out w3 hw3)
  by_cases h1 : e1 = 0
  · by_cases h2 : e2 = 0
    · subst h1 h2
      obtain ⟨b1, rfl, hp⟩ := hv.yes
      obtain ⟨b2, rfl, hq⟩ := hu.yes
      have HP := Lib.hid ((hp.below hb2).below hb3)
      have HQ := Lib.hid (hq.below hb3)
      clear hp hq hb1 hb2 hb3 hw2
      go_wp2_with fail
      (with_reducible refine (lst_len b1 _ es w3 HP.out).mono ?_)
      rintro e w' ⟨rfl, rfl⟩
      by_cases hlen : es.length < 64
      · have HAF := Lib.hid (HAP.out (by simp) (by simp) hlen)
        have l1 : decide ((64 : Int) ≤ (es.length : Int)) = false := by simp; omega
        have l2 : (es.length : Int) < 64 := by omega
        clear HAP HKN HTX
        have e44 : (⟨#[44]⟩ : ByteArray).size = 1 := rfl
        have m1 : 1 ≤ (1 : Int) := by omega
        have hl64 : (es ++ [(qs, (1 + k : Int))]).length = es.length + 1 := by simp
        have HN := Lib.hid (show ∀ V : Int, (es ++ [(qs, V)]).length = es.length + 1 from fun V => by simp)
        have HVS := Lib.hid (show ∀ V : Int, verdictF (es ++ [(qs, V)]) (toL z) = if matchF qs (toL z) then V else verdictF es (toL z) from fun V => verdictF_snoc es (qs, V) (toL z))
        have HOA := Lib.hid (show ∀ V : Int, 1 ≤ V → V ≤ 3 → ∀ e ∈ es ++ [(qs, V)], EntOk e from fun V h1 h3 e he => by
          rcases List.mem_append.1 he with he | he
          · exact HO1.out e he
          · rw [List.mem_singleton] at he; subst he; exact ⟨HO2.out, hl2, h1, h3⟩)
        have hNN : (((es.length + 1 : Nat) : Int) != (es.length : Int) + 1) = false := by simp
        clear m1 hl64
        rcases (show k = 0 ∨ k = 1 ∨ k = 2 by omega) with rfl | rfl | rfl
        · have HAF2 := Lib.hid (show listF (toL (x ++ ⟨#[44]⟩ ++ ⟨#[]⟩ ++ y)) = (es ++ [(qs, (1 : Int))], 0, 0) from HAF.out)
          have hSz : (x ++ ⟨#[44]⟩ ++ ⟨#[]⟩ ++ y).size ≤ 1000 := by
            rw [ByteArray.size_append, ByteArray.size_append, ByteArray.size_append]
            have e1 : (⟨#[]⟩ : ByteArray).size ≤ 1 := by decide
            omega
          have HV := Lib.hid (HVS.out 1); have HNV := Lib.hid (HN.out 1); have HOV := Lib.hid (HOA.out 1 (by omega) (by omega))
          have hr' : d.tmod 3 = 0 := hrem
          clear HAF HVS HN HOA hrem e44 hv hu hk
          go_wp2_with fail
          generalize x ++ ⟨#[44]⟩ ++ ⟨#[]⟩ ++ y = S at *
          have hwA := hw3.trans ((alloc_bel w3 (.cells #[.string ⟨#[]⟩, .string ⟨#[33]⟩, .string ⟨#[64]⟩] 9)).mono hw3.size)
          have hPA := HP.out.below (alloc_bel w3 (.cells #[.string ⟨#[]⟩, .string ⟨#[33]⟩, .string ⟨#[64]⟩] 9))
          have hQA := HQ.out.below (alloc_bel w3 (.cells #[.string ⟨#[]⟩, .string ⟨#[33]⟩, .string ⟨#[64]⟩] 9))
          have HPA := Lib.hid hPA; have HQA := Lib.hid hQA
          clear hPA hQA HP HQ
          (with_reducible refine (HPL.out S _ hwA hSz).mono ?_)
          intro e w4 h4
          obtain ⟨b4, rfl, hL4, hb4⟩ := h4.yes HAF2.out
          have hw4 := hwA.trans (hb4.mono hwA.size)
          have HP4 := Lib.hid (HPA.out.below hb4); have HQ4 := Lib.hid (HQA.out.below hb4); have HL4 := Lib.hid hL4
          clear h4 hL4 HPA HQA hb4 hwA HAF2 HPL
          generalize es ++ [(qs, (1 : Int))] = fs at *
          go_wp2_with fail
          (with_reducible refine (lst_len b4 _ fs w4 HL4.out).mono ?_)
          rintro e w' ⟨rfl, rfl⟩
          rw [HNV.out]
          go_wp2_with fail
          (with_reducible refine (lst_len b1 _ es w4 HP4.out).mono ?_)
          rintro e w' ⟨rfl, rfl⟩
          have hfl : fs.length ≤ 64 := by rw [HNV.out]; omega
          go_wp2_with fail
          (with_reducible refine (pat_match b2 _ qs z w4 HQ4.out.at (by omega) HO2.out (by omega)).mono ?_)
          rintro e w5 ⟨rfl, hb5⟩
          have hw5 := hw4.trans (hb5.mono hw4.size)
          have HP5 := Lib.hid (HP4.out.below hb5); have HL5 := Lib.hid (HL4.out.below hb5)
          rcases hm : matchF qs (toL z) with _ | _
          · rw [hm, if_neg (by simp)] at HV
            go_wp2_with fail
            (with_reducible refine (lst_verdict b4 _ fs z w5 HL5.out HOV.out hfl (by omega)).mono ?_)
            rintro e w6 ⟨rfl, hb6⟩
            rw [HV.out]
            have hw6 := hw5.trans (hb6.mono hw5.size)
            have HP6 := Lib.hid (HP5.out.below hb6)
            go_wp2_with fail
            (with_reducible refine (lst_verdict b1 _ es z w6 HP6.out HO1.out hl1 (by omega)).mono ?_)
            rintro e w7 ⟨rfl, hb7⟩
            go_wp2_with fail
            go_ret
            exact ⟨ret_bool (by simp), hw6.trans (hb7.mono hw6.size)⟩
          · rw [hm, if_pos rfl] at HV
            go_wp2_with fail
            (with_reducible refine (lst_verdict b4 _ fs z w5 HL5.out HOV.out hfl (by omega)).mono ?_)
            rintro e w6 ⟨rfl, hb6⟩
            rw [HV.out]
            go_wp2_with fail
            go_ret
            exact ⟨rfl, hw5.trans (hb6.mono hw5.size)⟩
        · have HAF2 := Lib.hid (show listF (toL (x ++ ⟨#[44]⟩ ++ ⟨#[33]⟩ ++ y)) = (es ++ [(qs, (2 : Int))], 0, 0) from HAF.out)
          have hSz : (x ++ ⟨#[44]⟩ ++ ⟨#[33]⟩ ++ y).size ≤ 1000 := by
            rw [ByteArray.size_append, ByteArray.size_append, ByteArray.size_append]
            have e1 : (⟨#[33]⟩ : ByteArray).size ≤ 1 := by decide
            omega
          have HV := Lib.hid (HVS.out 2); have HNV := Lib.hid (HN.out 2); have HOV := Lib.hid (HOA.out 2 (by omega) (by omega))
          have hr' : d.tmod 3 = 1 := hrem
          clear HAF HVS HN HOA hrem e44 hv hu hk
          go_wp2_with fail
          generalize x ++ ⟨#[44]⟩ ++ ⟨#[33]⟩ ++ y = S at *
          have hwA := hw3.trans ((alloc_bel w3 (.cells #[.string ⟨#[]⟩, .string ⟨#[33]⟩, .string ⟨#[64]⟩] 9)).mono hw3.size)
          have hPA := HP.out.below (alloc_bel w3 (.cells #[.string ⟨#[]⟩, .string ⟨#[33]⟩, .string ⟨#[64]⟩] 9))
          have hQA := HQ.out.below (alloc_bel w3 (.cells #[.string ⟨#[]⟩, .string ⟨#[33]⟩, .string ⟨#[64]⟩] 9))
          have HPA := Lib.hid hPA; have HQA := Lib.hid hQA
          clear hPA hQA HP HQ
          (with_reducible refine (HPL.out S _ hwA hSz).mono ?_)
          intro e w4 h4
          obtain ⟨b4, rfl, hL4, hb4⟩ := h4.yes HAF2.out
          have hw4 := hwA.trans (hb4.mono hwA.size)
          have HP4 := Lib.hid (HPA.out.below hb4); have HQ4 := Lib.hid (HQA.out.below hb4); have HL4 := Lib.hid hL4
          clear h4 hL4 HPA HQA hb4 hwA HAF2 HPL
          generalize es ++ [(qs, (2 : Int))] = fs at *
          go_wp2_with fail
          (with_reducible refine (lst_len b4 _ fs w4 HL4.out).mono ?_)
          rintro e w' ⟨rfl, rfl⟩
          rw [HNV.out]
          go_wp2_with fail
          (with_reducible refine (lst_len b1 _ es w4 HP4.out).mono ?_)
          rintro e w' ⟨rfl, rfl⟩
          have hfl : fs.length ≤ 64 := by rw [HNV.out]; omega
          go_wp2_with fail
          (with_reducible refine (pat_match b2 _ qs z w4 HQ4.out.at (by omega) HO2.out (by omega)).mono ?_)
          rintro e w5 ⟨rfl, hb5⟩
          have hw5 := hw4.trans (hb5.mono hw4.size)
          have HP5 := Lib.hid (HP4.out.below hb5); have HL5 := Lib.hid (HL4.out.below hb5)
          rcases hm : matchF qs (toL z) with _ | _
          · rw [hm, if_neg (by simp)] at HV
            go_wp2_with fail
            (with_reducible refine (lst_verdict b4 _ fs z w5 HL5.out HOV.out hfl (by omega)).mono ?_)
            rintro e w6 ⟨rfl, hb6⟩
            rw [HV.out]
            have hw6 := hw5.trans (hb6.mono hw5.size)
            have HP6 := Lib.hid (HP5.out.below hb6)
            go_wp2_with fail
            (with_reducible refine (lst_verdict b1 _ es z w6 HP6.out HO1.out hl1 (by omega)).mono ?_)
            rintro e w7 ⟨rfl, hb7⟩
            go_wp2_with fail
            go_ret
            exact ⟨ret_bool (by simp), hw6.trans (hb7.mono hw6.size)⟩
          · rw [hm, if_pos rfl] at HV
            go_wp2_with fail
            (with_reducible refine (lst_verdict b4 _ fs z w5 HL5.out HOV.out hfl (by omega)).mono ?_)
            rintro e w6 ⟨rfl, hb6⟩
            rw [HV.out]
            go_wp2_with fail
            go_ret
            exact ⟨rfl, hw5.trans (hb6.mono hw5.size)⟩
        · have HAF2 := Lib.hid (show listF (toL (x ++ ⟨#[44]⟩ ++ ⟨#[64]⟩ ++ y)) = (es ++ [(qs, (3 : Int))], 0, 0) from HAF.out)
          have hSz : (x ++ ⟨#[44]⟩ ++ ⟨#[64]⟩ ++ y).size ≤ 1000 := by
            rw [ByteArray.size_append, ByteArray.size_append, ByteArray.size_append]
            have e1 : (⟨#[64]⟩ : ByteArray).size ≤ 1 := by decide
            omega
          have HV := Lib.hid (HVS.out 3); have HNV := Lib.hid (HN.out 3); have HOV := Lib.hid (HOA.out 3 (by omega) (by omega))
          have hr' : d.tmod 3 = 2 := hrem
          clear HAF HVS HN HOA hrem e44 hv hu hk
          go_wp2_with fail
          generalize x ++ ⟨#[44]⟩ ++ ⟨#[64]⟩ ++ y = S at *
          have hwA := hw3.trans ((alloc_bel w3 (.cells #[.string ⟨#[]⟩, .string ⟨#[33]⟩, .string ⟨#[64]⟩] 9)).mono hw3.size)
          have hPA := HP.out.below (alloc_bel w3 (.cells #[.string ⟨#[]⟩, .string ⟨#[33]⟩, .string ⟨#[64]⟩] 9))
          have hQA := HQ.out.below (alloc_bel w3 (.cells #[.string ⟨#[]⟩, .string ⟨#[33]⟩, .string ⟨#[64]⟩] 9))
          have HPA := Lib.hid hPA; have HQA := Lib.hid hQA
          clear hPA hQA HP HQ
          (with_reducible refine (HPL.out S _ hwA hSz).mono ?_)
          intro e w4 h4
          obtain ⟨b4, rfl, hL4, hb4⟩ := h4.yes HAF2.out
          have hw4 := hwA.trans (hb4.mono hwA.size)
          have HP4 := Lib.hid (HPA.out.below hb4); have HQ4 := Lib.hid (HQA.out.below hb4); have HL4 := Lib.hid hL4
          clear h4 hL4 HPA HQA hb4 hwA HAF2 HPL
          generalize es ++ [(qs, (3 : Int))] = fs at *
          go_wp2_with fail
          (with_reducible refine (lst_len b4 _ fs w4 HL4.out).mono ?_)
          rintro e w' ⟨rfl, rfl⟩
          rw [HNV.out]
          go_wp2_with fail
          (with_reducible refine (lst_len b1 _ es w4 HP4.out).mono ?_)
          rintro e w' ⟨rfl, rfl⟩
          have hfl : fs.length ≤ 64 := by rw [HNV.out]; omega
          go_wp2_with fail
          (with_reducible refine (pat_match b2 _ qs z w4 HQ4.out.at (by omega) HO2.out (by omega)).mono ?_)
          rintro e w5 ⟨rfl, hb5⟩
          have hw5 := hw4.trans (hb5.mono hw4.size)
          have HP5 := Lib.hid (HP4.out.below hb5); have HL5 := Lib.hid (HL4.out.below hb5)
          rcases hm : matchF qs (toL z) with _ | _
          · rw [hm, if_neg (by simp)] at HV
            go_wp2_with fail
            (with_reducible refine (lst_verdict b4 _ fs z w5 HL5.out HOV.out hfl (by omega)).mono ?_)
            rintro e w6 ⟨rfl, hb6⟩
            rw [HV.out]
            have hw6 := hw5.trans (hb6.mono hw5.size)
            have HP6 := Lib.hid (HP5.out.below hb6)
            go_wp2_with fail
            (with_reducible refine (lst_verdict b1 _ es z w6 HP6.out HO1.out hl1 (by omega)).mono ?_)
            rintro e w7 ⟨rfl, hb7⟩
            go_wp2_with fail
            go_ret
            exact ⟨ret_bool (by simp), hw6.trans (hb7.mono hw6.size)⟩
          · rw [hm, if_pos rfl] at HV
            go_wp2_with fail
            (with_reducible refine (lst_verdict b4 _ fs z w5 HL5.out HOV.out hfl (by omega)).mono ?_)
            rintro e w6 ⟨rfl, hb6⟩
            rw [HV.out]
            go_wp2_with fail
            go_ret
            exact ⟨rfl, hw5.trans (hb6.mono hw5.size)⟩
      · have l1 : decide ((64 : Int) ≤ (es.length : Int)) = true := by simp; omega
        have l2 : (64 : Int) ≤ (es.length : Int) := by omega
        go_wp2_with fail
        (with_reducible refine HKN.out.mono ?_)
        rintro e w4 ⟨rfl, hb4⟩
        go_wp2_with fail
        go_ret
        exact ⟨rfl, hw3.trans (hb4.mono hw3.size)⟩
    · have h2' : (e2 != 0) = true := by simpa using h2
      subst h1
      clear h2 hv hu
      go_wp2_with fail
      (with_reducible refine HKN.out.mono ?_)
      rintro e w4 ⟨rfl, hb4⟩
      go_wp2_with fail
      go_ret
      exact ⟨rfl, hw3.trans (hb4.mono hw3.size)⟩
  · have h1' : (e1 != 0) = true := by simpa using h1
    clear h1 hv hu
    go_wp2_with fail
    (with_reducible refine HKN.out.mono ?_)
    rintro e w4 ⟨rfl, hb4⟩
    go_wp2_with fail
    go_ret
    exact ⟨rfl, hw3.trans (hb4.mono hw3.size)⟩

theorem WildmatAppends_walk (a : ByteArray) (ha : a.size ≤ maxLen) (b : ByteArray) (hb : b.size ≤ maxLen) (c : ByteArray) (hc : c.size ≤ maxLen) (d : Int) (hd : (Lit.int .u8 d).wf = true) (w : World) (hsh : w.ShapedOpen Tryd.prog) :
    Calls Tryd.prog 8 #[.string a, .string b, .string c, .int .u8 d] w fun e w' => e = .returned (.bool true) ∧ Below w.heap.size w w' := by
  obtain ⟨h0, h1⟩ := u8_wf hd
  have h2 : d.tmod 3 = ((d.toNat % 3 : Nat) : Int) := by
    obtain ⟨n, rfl⟩ := Int.eq_ofNat_of_zero_le h0
    simp [Int.tmod]
  exact WildmatAppends_walk' a ha b hb c hc d (d.toNat % 3) h0 h1 (Nat.mod_lt _ (by omega)) h2 w hsh

set_option maxRecDepth 100000 in
theorem WildmatAppends_contract (H : Type) (enc : TypeId × Value → H) (W : World) (base : Nat) (args : Array Value) (ds gs : List (DataW H)) (before : List MemPlace)
    (hval0 : ∀ (j : Nat) t v, Tryd.f8.params[j]? = some t → args[j]? = some v → Value.okWide Tryd.prog W .any base t v)
    (hW : DataW.Whole enc Tryd.prog Tryd.f8.params.toList Rows.wildmatAppendsSpec.vars false W args.toList ds gs before) (hsh : W.ShapedOpen Tryd.prog) :
    Calls Tryd.prog 8 args W fun e W' => ∃ v, e = .returned v ∧ Rows.wildmatAppendsSpec.post enc Tryd.prog Tryd.f8 false true false false W args v W' := by
  have hval : ∀ (j : Nat) t v, Tryd.f8.params[j]? = some t → args[j]? = some v → Value.okWide Tryd.prog W .any base t v := hval0
  have hW' := hW
  obtain ⟨p, q, hA0, hV, rfl, hfz, hnd⟩ := hW
  have hA : DataW.TrodAll enc Tryd.prog W 0 (fun _ => true) true Tryd.f8.params.toList args.toList ds p := hA0
  rw [Tryd.params8] at hA hval
  obtain ⟨v0, vs0, d0, ds0, p0, q0, hargs, rfl, rfl, h0, r0⟩ := trodAll_cons hA
  obtain ⟨v1, vs1, d1, ds1, p1, q1, rfl, rfl, rfl, h1, r1⟩ := trodAll_cons r0
  obtain ⟨v2, vs2, d2, ds2, p2, q2, rfl, rfl, rfl, h2, r2⟩ := trodAll_cons r1
  obtain ⟨v3, vs3, d3, ds3, p3, q3, rfl, rfl, rfl, h3, r3⟩ := trodAll_cons r2
  obtain ⟨rfl, rfl, rfl⟩ := trodAll_nil r3
  obtain rfl : args = #[v0, v1, v2, v3] := by cases args; simp_all
  obtain ⟨rfl, rfl⟩ := trodVars_none hV
  obtain ⟨a0, rfl, rfl, rfl, w0⟩ := open_string Tryd.underlying9 (hval 0 9 v0 rfl rfl) h0
  obtain ⟨a1, rfl, rfl, rfl, w1⟩ := open_string Tryd.underlying9 (hval 1 9 v1 rfl rfl) h1
  obtain ⟨a2, rfl, rfl, rfl, w2⟩ := open_string Tryd.underlying9 (hval 2 9 v2 rfl rfl) h2
  obtain ⟨a3, rfl, rfl, rfl, w3⟩ := open_int Tryd.underlying5 (hval 3 5 v3 rfl rfl) h3
  refine (WildmatAppends_walk a0 w0 a1 w1 a2 w2 a3 w3 W hsh).mono fun e W' ⟨he, hg⟩ => ?_
  subst he
  exact ⟨_, rfl, law_post hW' rfl rfl rfl (by decide +kernel) hg⟩

theorem WildmatAppends_reads (os : Os) {H : Type} (enc : TypeId × Value → H) : ∃ places, DataW.whole enc Tryd.prog ((laidWorld os).forCall (fun _ _ => 0) ⟨#[], #[.string ByteArray.empty, .string ByteArray.empty, .string ByteArray.empty, .int .u8 0], []⟩).memory Tryd.f8.params.toList Rows.wildmatAppendsSpec.vars false ((#[.string ByteArray.empty, .string ByteArray.empty, .string ByteArray.empty, .int .u8 0] : Array Value)).toList 8 = some ([.lit (.string []), .lit (.string []), .lit (.string []), .lit (.int .u8 0)], [], places) :=
  ⟨[], by kernel_rfl⟩

set_option maxRecDepth 100000 in
theorem WildmatAppends_lifted (os : Os) (started : os.Started) (H : Type) (enc : TypeId × Value → H) (F : Stop.Interp) :
    ReturnsInHanded {} Tryd.checked os 8 .any ((OpenSpec.ofChange Rows.wildmatAppendsSpec).preRow enc Tryd.prog Tryd.f8 Rows.wildmatAppendsRow.domain false Rows.wildmatAppendsRow.laid) (((OpenSpec.ofChange Rows.wildmatAppendsSpec).at F).post enc Tryd.prog Tryd.f8 false true false false) := by
  obtain ⟨places, hx⟩ := WildmatAppends_reads os enc
  refine returnsInHanded_of_row (C := Tryd.checked) (s := OpenSpec.ofChange Rows.wildmatAppendsSpec) own started (by kernel_rfl) Tryd.func8
    (witness_row_at (enc := enc) (C := Tryd.checked) false (laidWorld os) #[.string ByteArray.empty, .string ByteArray.empty, .string ByteArray.empty, .int .u8 0] rfl (by kernel_rfl) (by kernel_rfl) (by kernel_rfl)
      (OpenSpec.preRow_of_cond 8 hx (by kernel_rfl) (fun k hk => by cases hk) (by kernel_rfl) (laid_met os #[.string ByteArray.empty, .string ByteArray.empty, .string ByteArray.empty, .int .u8 0]))) ?_
  intro W base args ds gs before hval hW _ _ _ hL hsh _
  exact WildmatAppends_contract H enc W base args ds gs before hval hW hsh

theorem WildmatAppends_said : Rows.WildmatAppendsSaid :=
  OpenClaim.holds_of_cond 8 Tryd.f8 rfl rfl rfl rfl rfl rfl rfl ⟨rfl, rfl, rfl, rfl, rfl⟩ rfl rfl rfl rfl rfl (by kernel_rfl) Tryd.func8 (by kernel_rfl)
    (of_decide_eq_true (by kernel_rfl)) (by unfold Func.isWrapper; first | (rw [if_pos (by decide +kernel)]; kernel_rfl) | (rw [if_neg (by decide +kernel)]; exact ⟨rfl, rfl⟩))
    (fun os started H enc _ F => by rw [OpenClaim.pre_eq_preRow]; exact WildmatAppends_lifted os started H enc F)

theorem WildmatAppends_plain (f : FuncId) (fn : Func) (hf : Tryd.pinned.checked.prog.funcNamed Rows.wildmatAppendsRow.func = some f) (hfn : Tryd.pinned.checked.prog.funcs[f]? = some fn) :
    true = Tryd.pinned.checked.prog.looks [] ∧ ∀ (j : Nat) t, fn.params[j]? = some t → Tryd.pinned.checked.prog.wantsStandIn t = false := by
  obtain rfl : f = 8 := Option.some.inj ((show Tryd.prog.funcNamed Rows.wildmatAppendsRow.func = some 8 by kernel_rfl).symm.trans hf) |>.symm
  obtain rfl : fn = Tryd.f8 := (Option.some.inj (Tryd.func8.symm.trans hfn)).symm
  refine ⟨by kernel_rfl, fun j t ht => ?_⟩
  rw [Tryd.params8] at ht
  have hm := Array.mem_of_getElem? ht
  simp only [List.mem_toArray, List.mem_cons, List.not_mem_nil, or_false] at hm
  rcases hm with rfl | rfl | rfl | rfl
  · exact (show Tryd.prog.wantsStandIn 9 = false by kernel_rfl)
  · exact (show Tryd.prog.wantsStandIn 9 = false by kernel_rfl)
  · exact (show Tryd.prog.wantsStandIn 9 = false by kernel_rfl)
  · exact (show Tryd.prog.wantsStandIn 5 = false by kernel_rfl)

theorem WildmatAppends_proved : Rows.WildmatAppendsCardSaid :=
  Claim7.holds_tied_plain_at .later [] _ _ _ _ WildmatAppends_said (fun _ h => by cases h) (by kernel_rfl) (fun _ h => by cases h) wildmatAppends_row_tie rfl ⟨rfl, rfl⟩ (by kernel_rfl) rfl WildmatAppends_plain (by kernel_rfl)

end Go.Proofs.YtmiieifcefgedaaDoor
