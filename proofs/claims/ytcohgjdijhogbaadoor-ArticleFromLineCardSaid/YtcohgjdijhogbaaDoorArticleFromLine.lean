/- For every string, ArticleFromLine returns true: the chapter's examples hold, and ToLine and FromLine answer as the reference on the first 3000 bytes and are inverse. No condition. -/
import Derived.Test.YtcohgjdijhogbaaDoorPt22
import Derived.Test.YtcohgjdijhogbaaDoorRefLn2
import Derived.Test.YtcohgjdijhogbaaDoorPt23
import Derived.Test.YtcohgjdijhogbaaDoorLaidW
import Derived.Test.YtcohgjdijhogbaaDoorOpen0
import Derived.Test.YtcohgjdijhogbaaDoorCards
import Derived.Test.YtcohgjdijhogbaaDoorTie
namespace Go.Proofs.YtcohgjdijhogbaaDoor
set_option linter.unusedSimpArgs false
set_option linter.unusedVariables false
open Go.ChangeShapes Go.WideShapes Go.ChangeAt Go.RowKit
open Go.ChangeMaps (open_string shut_string)

set_option maxHeartbeats 16000000 in
set_option maxRecDepth 100000 in
theorem ArticleFromLine_walk (a : ByteArray) (ha : a.size ≤ maxLen) (w : World) (hsh : w.ShapedOpen Tryd.prog) :
    Calls Tryd.prog 4 #[.string a] w fun e w' => e = .returned (.bool true) ∧ Below w.heap.size w w' := by
  have HSH := Lib.hid hsh; clear hsh
  have HS := Lib.hid (fun wx => law_short a ha 3000 3000 rfl wx (by omega))
  have hx := short_size a 3000
  generalize a.extract 0 (min a.size 3000) = x at *
  have HA := Lib.hid (fun wx hw => art_fromLine x wx hw (by omega))
  have HN := Lib.hid (fun wx => rf_fromLine x wx (by omega))
  have HTF := Lib.hid (fun h => fl_tl (L := toL x) h)
  have htl : (flF (toL x)).text.length ≤ 100000 := by
    have := uncr_len (toL x)
    rw [toL_length] at this
    unfold flF
    split
    · simp
    · split
      · simp
      · split
        · simp
        · split
          · simp
          · simp only; omega
  obtain ⟨T, hT⟩ : ∃ T, T = ofL (flF (toL x)).text := ⟨_, rfl⟩
  have hTs : T.size ≤ 100000 := by rw [hT, ofL_size]; exact htl
  have HF := Lib.hid (fun wx hw => art_toLine T wx hw (by omega))
  rw [show toL T = (flF (toL x)).text from by rw [hT, toL_ofL]] at HF
  rw [← hT] at HA HN
  clear hT htl hTs
  generalize flF (toL x) = tf at *
  obtain ⟨tt, ta, te⟩ := tf
  simp only at HA HN HF HTF
  have g1 : (T.toList == T.toList) = true := by simp
  go_enter Tryd.func4, Tryd.ntmps4
  go_wp2_with ((go_at_call 5; (with_reducible refine (HS.out _).mono ?_); rintro e w' ⟨rfl, rfl⟩))
  (with_reducible refine (HA.out _ HSH.out).mono ?_)
  rintro e w1 ⟨rfl, hb1⟩
  have HB1 := Lib.hid hb1; clear hb1
  go_wp2_with fail
  (with_reducible refine (HN.out _).mono ?_)
  rintro e w2 ⟨rfl, hb2⟩
  have HB2 := Lib.hid (HB1.out.trans (hb2.mono HB1.out.size)); clear hb2
  go_wp2_with fail
  (with_reducible refine (HF.out _ (shaped_below HSH.out HB2.out)).mono ?_)
  rintro e w3 ⟨rfl, hb3⟩
  have HB3 := Lib.hid (HB2.out.trans (hb3.mono HB2.out.size)); clear hb3
  go_wp2_with fail
  (with_reducible refine (art_known w3 (shaped_below HSH.out HB3.out)).mono ?_)
  rintro e w4 ⟨rfl, hb4⟩
  have HB4 := Lib.hid (HB3.out.trans (hb4.mono HB3.out.size)); clear hb4
  by_cases he : te = 0
  · subst he
    have h := HTF.out rfl
    rw [h]
    simp only [ofL_toL]
    have g2 : (x.toList == x.toList) = true := by simp
    clear h HTF
    go_wp2_with fail
    go_ret
    exact ⟨ret_bool (by rfl), HB4.out⟩
  · have e1 : (te != 0) = true := by simp [bne, he]
    have e2 : (te == te) = true := by simp
    clear he HTF
    generalize tlF tt = tl at *
    obtain ⟨ft, fe⟩ := tl
    simp only
    go_wp2_with fail
    go_ret
    exact ⟨ret_bool (by rfl), HB4.out⟩

set_option maxRecDepth 100000 in
theorem ArticleFromLine_contract (H : Type) (enc : TypeId × Value → H) (W : World) (base : Nat) (args : Array Value) (ds gs : List (DataW H)) (before : List MemPlace)
    (hval0 : ∀ (j : Nat) t v, Tryd.f4.params[j]? = some t → args[j]? = some v → Value.okWide Tryd.prog W .any base t v)
    (hW : DataW.Whole enc Tryd.prog Tryd.f4.params.toList Rows.articleFromLineSpec.vars false W args.toList ds gs before) (hsh : W.ShapedOpen Tryd.prog) :
    Calls Tryd.prog 4 args W fun e W' => ∃ v, e = .returned v ∧ Rows.articleFromLineSpec.post enc Tryd.prog Tryd.f4 false true false false W args v W' := by
  have hval : ∀ (j : Nat) t v, Tryd.f4.params[j]? = some t → args[j]? = some v → Value.okWide Tryd.prog W .any base t v := hval0
  have hW' := hW
  obtain ⟨p, q, hA0, hV, rfl, hfz, hnd⟩ := hW
  have hA : DataW.TrodAll enc Tryd.prog W 0 (fun _ => true) true Tryd.f4.params.toList args.toList ds p := hA0
  rw [Tryd.params4] at hA hval
  obtain ⟨v0, vs0, d0, ds0, p0, q0, hargs, rfl, rfl, h0, r0⟩ := trodAll_cons hA
  obtain ⟨rfl, rfl, rfl⟩ := trodAll_nil r0
  obtain rfl : args = #[v0] := by cases args; simp_all
  obtain ⟨rfl, rfl⟩ := trodVars_none hV
  obtain ⟨a0, rfl, rfl, rfl, w0⟩ := open_string Tryd.underlying9 (hval 0 9 v0 rfl rfl) h0
  refine (ArticleFromLine_walk a0 w0 W hsh).mono fun e W' ⟨he, hg⟩ => ?_
  subst he
  exact ⟨_, rfl, law_post hW' rfl rfl rfl (by decide +kernel) hg⟩

theorem ArticleFromLine_reads (os : Os) {H : Type} (enc : TypeId × Value → H) : ∃ places, DataW.whole enc Tryd.prog ((laidWorld os).forCall (fun _ _ => 0) ⟨#[], #[.string ByteArray.empty], []⟩).memory Tryd.f4.params.toList Rows.articleFromLineSpec.vars false ((#[.string ByteArray.empty] : Array Value)).toList 8 = some ([.lit (.string [])], [], places) :=
  ⟨[], by kernel_rfl⟩

set_option maxRecDepth 100000 in
theorem ArticleFromLine_lifted (os : Os) (started : os.Started) (H : Type) (enc : TypeId × Value → H) (F : Stop.Interp) :
    ReturnsInHanded {} Tryd.checked os 4 .any ((OpenSpec.ofChange Rows.articleFromLineSpec).preRow enc Tryd.prog Tryd.f4 Rows.articleFromLineRow.domain false Rows.articleFromLineRow.laid) (((OpenSpec.ofChange Rows.articleFromLineSpec).at F).post enc Tryd.prog Tryd.f4 false true false false) := by
  obtain ⟨places, hx⟩ := ArticleFromLine_reads os enc
  refine returnsInHanded_of_row (C := Tryd.checked) (s := OpenSpec.ofChange Rows.articleFromLineSpec) own started (by kernel_rfl) Tryd.func4
    (witness_row_at (enc := enc) (C := Tryd.checked) false (laidWorld os) #[.string ByteArray.empty] rfl (by kernel_rfl) (by kernel_rfl) (by kernel_rfl)
      (OpenSpec.preRow_of_cond 8 hx (by kernel_rfl) (fun k hk => by cases hk) (by kernel_rfl) (laid_met os #[.string ByteArray.empty]))) ?_
  intro W base args ds gs before hval hW _ _ _ hL hsh _
  exact ArticleFromLine_contract H enc W base args ds gs before hval hW hsh

theorem ArticleFromLine_said : Rows.ArticleFromLineSaid :=
  OpenClaim.holds_of_cond 4 Tryd.f4 rfl rfl rfl rfl rfl rfl rfl ⟨rfl, rfl, rfl, rfl, rfl⟩ rfl rfl rfl rfl rfl (by kernel_rfl) Tryd.func4 (by kernel_rfl)
    (of_decide_eq_true (by kernel_rfl)) (by unfold Func.isWrapper; first | (rw [if_pos (by decide +kernel)]; kernel_rfl) | (rw [if_neg (by decide +kernel)]; exact ⟨rfl, rfl⟩))
    (fun os started H enc _ F => by rw [OpenClaim.pre_eq_preRow]; exact ArticleFromLine_lifted os started H enc F)

theorem ArticleFromLine_plain (f : FuncId) (fn : Func) (hf : Tryd.pinned.checked.prog.funcNamed Rows.articleFromLineRow.func = some f) (hfn : Tryd.pinned.checked.prog.funcs[f]? = some fn) :
    false = Tryd.pinned.checked.prog.looks [] ∧ ∀ (j : Nat) t, fn.params[j]? = some t → Tryd.pinned.checked.prog.wantsStandIn t = false := by
  obtain rfl : f = 4 := Option.some.inj ((show Tryd.prog.funcNamed Rows.articleFromLineRow.func = some 4 by kernel_rfl).symm.trans hf) |>.symm
  obtain rfl : fn = Tryd.f4 := (Option.some.inj (Tryd.func4.symm.trans hfn)).symm
  refine ⟨by kernel_rfl, fun j t ht => ?_⟩
  rw [Tryd.params4] at ht
  have hm := Array.mem_of_getElem? ht
  simp only [List.mem_toArray, List.mem_cons, List.not_mem_nil, or_false] at hm
  subst hm
  exact (show Tryd.prog.wantsStandIn 9 = false by kernel_rfl)

theorem ArticleFromLine_proved : Rows.ArticleFromLineCardSaid :=
  Claim7.holds_tied_plain_at .later [] _ _ _ _ ArticleFromLine_said (fun _ h => by cases h) (by kernel_rfl) (fun _ h => by cases h) articleFromLine_row_tie rfl ⟨rfl, rfl⟩ (by kernel_rfl) rfl ArticleFromLine_plain (by kernel_rfl)
end Go.Proofs.YtcohgjdijhogbaaDoor
