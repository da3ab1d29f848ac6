/- For every byte, GatewayCrowds returns true: the chapter's examples hold, and for 997 to 1002 taken nicknames that begin with the same name Nick returns the next number, or ErrLimit if there are more than 1000. No condition. -/
import Derived.Test.YtjmcfagmhniejaaDoorPt23
import Derived.Test.YtjmcfagmhniejaaDoorPt30
import Derived.Test.YtjmcfagmhniejaaDoorPt7
namespace Go.Proofs.YtjmcfagmhniejaaDoor
set_option linter.unusedSimpArgs false
set_option linter.unusedVariables false
open Go.ChangeShapes Go.WideShapes Go.ChangeAt Go.RowKit
open Go.ChangeMaps (open_string shut_string)
open Go.Lib (decDigits)

theorem u8_wf {d : Int} (h : (Lit.int .u8 d).wf = true) : 0 ≤ d ∧ d < 256 := by
  simp only [Lit.wf, Bool.and_eq_true, decide_eq_true_eq] at h
  have h1 : IntKind.u8.min = 0 := by decide
  have h2 : IntKind.u8.max = 255 := by decide
  rw [h1, h2] at h
  omega
abbrev bigS : ByteArray := ⟨#[65, 66, 67, 68, 69, 70, 71, 72, 73, 74, 75, 76, 77, 78, 79, 80, 81]⟩
abbrev bigT : ByteArray := ⟨#[65, 66, 67, 68, 69, 70, 71, 72, 73, 74, 75, 76, 77, 78, 79, 80]⟩
abbrev smlS : ByteArray := ⟨#[97, 98, 99, 100, 101, 102, 103, 104, 105, 106, 107, 108, 109, 110, 111, 112]⟩
abbrev fstS : ByteArray := ⟨#[65, 98, 99, 100, 101, 102, 103, 104, 105, 106, 107, 108, 109, 110, 111, 112]⟩
theorem bigS_toL : toL bigS = bigB := rfl
theorem crowd_mem_len (n : Nat) (hn : n ≤ 2000) : ∀ x ∈ crowd n, x.length ≤ maxLen := by
  intro x hx
  obtain ⟨k, _, hk, rfl⟩ := crowd_mem hx
  split
  · unfold maxLen; decide
  · exact Nat.le_trans (nth_len _ (by omega)) (by unfold maxLen; omega)
theorem sml_next (n : Nat) (h : 2 ≤ n) : smlS.extract 0 (16 - (ofL (decDigits n)).size) ++ ofL (decDigits n) = ofL (nthN smlB n) := by
  rw [show smlS = ofL smlB from rfl, ext_ofL, ofL_size]
  unfold nthN; rw [if_neg (by omega)]
  simp [ofL_append]
theorem big_next (n : Nat) (h : 1 ≤ n) : bigT.extract 0 (16 - (ofL (decDigits (n + 1))).size) ++ ofL (decDigits (n + 1)) = ofL (nthN bigB (n + 1)) := by
  rw [crowd_next n h, show bigT = ofL (bigB.take 16) from rfl, ext_ofL, ofL_size]
  simp [ofL_append]
set_option maxHeartbeats 8000000 in
set_option maxRecDepth 100000 in
theorem GatewayCrowds_walk (st : Int) (hst : (Lit.int .u8 st).wf = true) (w : World) (hsh : w.ShapedOpen Tryd.prog) (htab : TabN w) :
    Calls Tryd.prog 4 #[.int .u8 st] w fun e w' => e = .returned (.bool true) ∧ Below w.heap.size w w' := by
  have HKN := Lib.hid (fun wx (hb : Below w.heap.size w wx) => gw_known wx (shaped_below hsh hb) (htab.below hb))
  have HT := Lib.hid (fun wx (hb : Below w.heap.size w wx) => htab.below hb)
  clear hsh htab
  obtain ⟨b0, b1⟩ := u8_wf hst
  clear hst
  obtain ⟨n, hn⟩ : ∃ n : Nat, (n : Int) = 1002 - st % 6 := ⟨(1002 - st % 6).toNat, by omega⟩
  have hn1 : 997 ≤ n ∧ n ≤ 1002 := by omega
  obtain ⟨n0, n1⟩ := hn1
  have x1 : IntKind.i64.wrap st = st := IntWalk.i64_in _ (by omega)
  have x2 : IntKind.i64.wrap (1002 - st % 6) = (n : Int) := by rw [← hn]; exact IntWalk.i64_in _ (by omega)
  have x3 : 1002 - st % 6 = (n : Int) := hn.symm
  clear hn
  have hst0 : StrsOwn w (w.alloc (.cells #[.string fstS] 9)) (.slice (some ⟨w.heap.size, 0, none⟩) 1 1) (crowd 1) :=
    ⟨⟨by simp [crowd], .inr ⟨w.heap.size, 1, #[.string fstS], rfl, Nat.le_refl _, heap_alloc_new _ _, by simp [crowd], by unfold maxLen; omega, rfl, rfl⟩⟩, (Below.refl _ _).alloc (Nat.le_refl _) _⟩
  have HST := Lib.hid hst0
  clear hst0
  go_enter Tryd.func4, Tryd.ntmps4
  go_wp2_with fail
  clear x1 x2 x3
  go_loopw [4, 5, 6] (fun v4 v5 _ wr => ∃ k : Nat, 1 ≤ k ∧ k ≤ n ∧ v5 = .int .i64 ((k + 1 : Nat) : Int) ∧ StrsOwn w wr v4 (crowd k)) (fun _ v5 _ _ => n + 1 - (intOf v5).toNat)
  case atStart => exact ⟨1, by omega, by omega, rfl, HST.out⟩
  case round =>
    obtain ⟨k, hk1, hk, rfl, hso⟩ := hrel
    have HSO := Lib.hid hso
    obtain ⟨i, hi⟩ : ∃ i, i = k + 1 := ⟨_, rfl⟩
    rw [← hi]
    have i0 : (0 : Int) ≤ (i : Int) := by omega
    by_cases hlt : k < n
    · have k1 : (i : Int) ≤ (n : Int) := by omega
      have HDG := Lib.hid (fun wx => ref_digits i (by omega) wx)
      have hdl : (ofL (decDigits i)).size ≤ 5 := by rw [ofL_size]; exact dec_len_lt 4 i (by omega)
      have HNX := Lib.hid (sml_next i (by omega))
      have HCR := Lib.hid (show crowd (k + 1) = crowd k ++ [nthN smlB i] from by rw [crowd, if_neg (by omega), hi])
      generalize ofL (decDigits i) = D at *
      obtain ⟨P, hP⟩ : ∃ P, smlS.extract 0 (16 - D.size) = P := ⟨_, rfl⟩
      have hPs : P.size ≤ 16 := by rw [← hP, extract_size _ _ _ (by show 16 - D.size ≤ 16; omega)]; omega
      rw [hP] at HNX
      have hcl : (crowd k).length ≤ 1002 := by rw [crowd_len]; omega
      have x1 : IntKind.i64.wrap (16 - (D.size : Int)) = 16 - (D.size : Int) := IntWalk.i64_in _ (by omega)
      have x2 : (16 - (D.size : Int)).toNat = 16 - D.size := by omega
      have x3 : (0 : Int) ≤ 16 - (D.size : Int) := by omega
      have x4 : 16 - (D.size : Int) ≤ 16 := by omega
      have hown := hso.own
      have hbs := hso.bel.size
      have HSZ := Lib.hid hi
      generalize crowd k = T at *
      clear hso hi
      go_wp2_with (first | (go_at_call 12; (with_reducible refine (HDG.out _).mono ?_); rintro e w4 ⟨rfl, hb4⟩; have hown4 := own_below hown hb4; have hbs4 := Nat.le_trans hbs hb4.size; skip) | (at_builtin; refine wpList_push el_string rfl _ _ rfl hown4 #[.string (P ++ D)] rfl rfl rfl (by simp [Value.oneCell']) (by omega) (by unfold maxLen; omega) hbs4 ?_; intro g cap w3 hown3 hg3 hat3))
      go_roundw
      case rel => exact ⟨k + 1, by omega, by omega, by have := HSZ.out; go_num, by rw [HCR.out, ← toL_ofL (nthN smlB i), ← HNX.out]; exact (HSO.out.later hb4).push1 hown3 hg3⟩
      case measure => simp [intOf] <;> omega
    · obtain rfl : k = n := by omega
      have k1 : (k : Int) < (i : Int) := by omega
      have hcl := crowd_len k
      obtain ⟨A2, c2, rfl, hr2⟩ := own_row hso.own
      have HR2 := Lib.hid hr2
      have HB := Lib.hid hso.bel
      have HML := Lib.hid (crowd_mem_len k (by omega))
      have HNF := Lib.hid (show nickF (toL bigS) (crowd k) = if 1000 < (crowd k).length then ([], 9) else (chooseN bigB (crowd k), 0) from by rw [bigS_toL]; rfl)
      rw [hcl] at HNF
      have HNK := Lib.hid (fun wx (hb : Below wr.heap.size wr wx) => gw_nick bigS A2 (crowd k) c2 wx (HT.out wx (HB.out.trans (hb.mono HB.out.size))) (HR2.out.below hb) (by decide) (by omega) HML.out)
      have HCC := Lib.hid (fun (h : k ≤ 1000) => crowd_choose k (by omega) h)
      rw [hcl] at HNK ⊢
      clear HSO hso hr2 HST
      generalize crowd k = T at *
      by_cases hbig : 1000 < k
      · rw [if_pos hbig] at HNF
        rw [HNF.out] at HNK
        have k2 : (1000 : Int) < (k : Int) := by omega
        have q1 : (ofL []).toList = [] := toList_nil (by rw [ofL_size]; rfl)
        have q2 : (ofL []).toList.isEmpty = true := by rw [q1]; rfl
        clear hbig HNF HCC
        generalize ofL [] = Z at *
        go_wp2_with (first
          | (go_at_call 7; (with_reducible refine (HNK.out _ (Below.refl _ _)).mono ?_); rintro e w1 ⟨rfl, hb1⟩)
          | (go_at_call 8; (with_reducible refine (HKN.out _ (HB.out.trans (hb1.mono HB.out.size))).mono ?_); rintro e w2 ⟨rfl, hb2⟩))
        go_ret
        exact ⟨rfl, HB.out.trans ((hb1.trans (hb2.mono hb1.size)).mono HB.out.size)⟩
      · rw [if_neg hbig, HCC.out (by omega)] at HNF
        rw [HNF.out] at HNK
        have k2 : (k : Int) ≤ 1000 := by omega
        have HNX := Lib.hid (big_next k (by omega))
        have HDG := Lib.hid (fun wx => show Calls Tryd.prog 12 #[.int .i64 ((k : Int) + 1)] wx fun e w' => e = .returned (.string (ofL (decDigits (k + 1)))) ∧ Below wx.heap.size wx w' from by
          have := ref_digits (k + 1) (by omega) wx
          rw [show (((k + 1 : Nat)) : Int) = (k : Int) + 1 from by omega] at this
          exact this)
        have hdl : (ofL (decDigits (k + 1))).size ≤ 5 := by rw [ofL_size]; exact dec_len_lt 4 (k + 1) (by omega)
        clear hbig HNF HCC
        generalize ofL (decDigits (k + 1)) = D at *
        generalize ofL (nthN bigB (k + 1)) = S at *
        have x0 : IntKind.i64.wrap ((k : Int) + 1) = (k : Int) + 1 := IntWalk.i64_in _ (by omega)
        have x1 : IntKind.i64.wrap (16 - (D.size : Int)) = 16 - (D.size : Int) := IntWalk.i64_in _ (by omega)
        have x2 : (16 - (D.size : Int)).toNat = 16 - D.size := by omega
        have x3 : (0 : Int) ≤ 16 - (D.size : Int) := by omega
        have x4 : 16 - (D.size : Int) ≤ 16 := by omega
        obtain ⟨P, hP⟩ : ∃ P, bigT.extract 0 (16 - D.size) = P := ⟨_, rfl⟩
        have hPs : P.size ≤ 16 := by rw [← hP, extract_size _ _ _ (by show 16 - D.size ≤ 16; omega)]; omega
        rw [hP] at HNX
        have q1 : (S.toList == (P ++ D).toList) = true := by rw [HNX.out]; simp
        go_wp2_with (first
          | (go_at_call 7; (with_reducible refine (HNK.out _ (Below.refl _ _)).mono ?_); rintro e w1 ⟨rfl, hb1⟩)
          | (go_at_call 12; (with_reducible refine (HDG.out _).mono ?_); rintro e w2 ⟨rfl, hb2⟩; have hb12 := hb1.trans (hb2.mono hb1.size))
          | (go_at_call 8; (with_reducible refine (HKN.out _ (HB.out.trans (hb12.mono HB.out.size))).mono ?_); rintro e w3 ⟨rfl, hb3⟩; have hb13 := hb12.trans (hb3.mono hb12.size)))
        go_ret
        exact ⟨rfl, HB.out.trans (hb13.mono HB.out.size)⟩
set_option maxRecDepth 100000 in
theorem GatewayCrowds_contract (H : Type) (enc : TypeId × Value → H) (W : World) (base : Nat) (args : Array Value) (ds gs : List (DataW H)) (before : List MemPlace)
    (hval0 : ∀ (j : Nat) t v, Tryd.f4.params[j]? = some t → args[j]? = some v → Value.okWide Tryd.prog W .any base t v)
    (hW : DataW.Whole enc Tryd.prog Tryd.f4.params.toList Rows.gatewayCrowdsSpec.vars false W args.toList ds gs before) (hsh : W.ShapedOpen Tryd.prog) (htab : TabN W) :
    Calls Tryd.prog 4 args W fun e W' => ∃ v, e = .returned v ∧ Rows.gatewayCrowdsSpec.post enc Tryd.prog Tryd.f4 false true false false W args v W' := by
  have hval : ∀ (j : Nat) t v, Tryd.f4.params[j]? = some t → args[j]? = some v → Value.okWide Tryd.prog W .any base t v := hval0
  have hW' := hW
  obtain ⟨p, q, hA0, hV, rfl, hfz, hnd⟩ := hW
  have hA : DataW.TrodAll enc Tryd.prog W 0 (fun _ => true) true Tryd.f4.params.toList args.toList ds p := hA0
  rw [Tryd.params4] at hA hval
  obtain ⟨v0, vs0, d0, ds0, p0, q0, hargs, rfl, rfl, h0, r0⟩ := trodAll_cons hA
  obtain ⟨rfl, rfl, rfl⟩ := trodAll_nil r0
  obtain rfl : args = #[v0] := by cases args; simp_all
  obtain ⟨rfl, rfl⟩ := trodVars_none hV
  obtain ⟨a0, rfl, rfl, rfl, w0⟩ := open_int Tryd.underlying5 (hval 0 5 v0 rfl rfl) h0
  refine (GatewayCrowds_walk a0 w0 W hsh htab).mono fun e W' ⟨he, hg⟩ => ?_
  subst he
  exact ⟨_, rfl, law_post hW' rfl rfl rfl (by decide +kernel) hg⟩

theorem GatewayCrowds_reads (os : Os) {H : Type} (enc : TypeId × Value → H) : ∃ places, DataW.whole enc Tryd.prog ((laidWorld os).forCall (fun _ _ => 0) ⟨#[], #[.int .u8 0], []⟩).memory Tryd.f4.params.toList Rows.gatewayCrowdsSpec.vars false ((#[.int .u8 0] : Array Value)).toList 8 = some ([.lit (.int .u8 0)], [], places) :=
  ⟨[], by kernel_rfl⟩

set_option maxRecDepth 100000 in
theorem GatewayCrowds_lifted (os : Os) (started : os.Started) (H : Type) (enc : TypeId × Value → H) (F : Stop.Interp) :
    ReturnsInHanded {} Tryd.checked os 4 .any ((OpenSpec.ofChange Rows.gatewayCrowdsSpec).preRow enc Tryd.prog Tryd.f4 Rows.gatewayCrowdsRow.domain false Rows.gatewayCrowdsRow.laid) (((OpenSpec.ofChange Rows.gatewayCrowdsSpec).at F).post enc Tryd.prog Tryd.f4 false true false false) := by
  obtain ⟨places, hx⟩ := GatewayCrowds_reads os enc
  refine returnsInHanded_of_row (C := Tryd.checked) (s := OpenSpec.ofChange Rows.gatewayCrowdsSpec) own started (by kernel_rfl) Tryd.func4
    (witness_row_at (enc := enc) (C := Tryd.checked) false (laidWorld os) #[.int .u8 0] rfl (by kernel_rfl) (by kernel_rfl) (by kernel_rfl)
      (OpenSpec.preRow_of_cond 8 hx (by kernel_rfl) (fun k hk => by cases hk) (by kernel_rfl) (laid_met os #[.int .u8 0]))) ?_
  intro W base args ds gs before hval hW _ _ _ hL hsh _
  exact GatewayCrowds_contract H enc W base args ds gs before hval hW hsh (tabN_of_laid hL)

theorem GatewayCrowds_said : Rows.GatewayCrowdsSaid :=
  OpenClaim.holds_of_cond 4 Tryd.f4 rfl rfl rfl rfl rfl rfl rfl ⟨rfl, rfl, rfl, rfl, rfl⟩ rfl rfl rfl rfl rfl (by kernel_rfl) Tryd.func4 (by kernel_rfl)
    (of_decide_eq_true (by kernel_rfl)) (by unfold Func.isWrapper; first | (rw [if_pos (by decide +kernel)]; kernel_rfl) | (rw [if_neg (by decide +kernel)]; exact ⟨rfl, rfl⟩))
    (fun os started H enc _ F => by rw [OpenClaim.pre_eq_preRow]; exact GatewayCrowds_lifted os started H enc F)

theorem GatewayCrowds_plain (f : FuncId) (fn : Func) (hf : Tryd.pinned.checked.prog.funcNamed Rows.gatewayCrowdsRow.func = some f) (hfn : Tryd.pinned.checked.prog.funcs[f]? = some fn) :
    false = Tryd.pinned.checked.prog.looks [] ∧ ∀ (j : Nat) t, fn.params[j]? = some t → Tryd.pinned.checked.prog.wantsStandIn t = false := by
  obtain rfl : f = 4 := Option.some.inj ((show Tryd.prog.funcNamed Rows.gatewayCrowdsRow.func = some 4 by kernel_rfl).symm.trans hf) |>.symm
  obtain rfl : fn = Tryd.f4 := (Option.some.inj (Tryd.func4.symm.trans hfn)).symm
  refine ⟨by kernel_rfl, fun j t ht => ?_⟩
  rw [Tryd.params4] at ht
  have hm := Array.mem_of_getElem? ht
  simp only [List.mem_toArray, List.mem_cons, List.not_mem_nil, or_false] at hm
  subst hm
  exact (show Tryd.prog.wantsStandIn 5 = false by kernel_rfl)

theorem GatewayCrowds_proved : Rows.GatewayCrowdsCardSaid :=
  Claim7.holds_tied_plain_at .later [] _ _ _ _ GatewayCrowds_said (fun _ h => by cases h) (by kernel_rfl) (fun _ h => by cases h) gatewayCrowds_row_tie rfl ⟨rfl, rfl⟩ (by kernel_rfl) rfl GatewayCrowds_plain (by kernel_rfl)
end Go.Proofs.YtjmcfagmhniejaaDoor
