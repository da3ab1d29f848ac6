/- For every text and every list of texts, GatewayNicks returns true: the chapter's examples hold, and for the first 60 bytes of the text and the first 30 bytes of the first 30 of the list Nick returns the nickname of the model, which is a nickname and not taken. No condition. -/
import Derived.Test.YtjmcfagmhniejaaDoorPt23
import Derived.Test.YtjmcfagmhniejaaDoorPt30
namespace Go.Proofs.YtjmcfagmhniejaaDoor
set_option linter.unusedSimpArgs false
set_option linter.unusedVariables false
open Go.ChangeShapes Go.WideShapes Go.ChangeAt Go.RowKit
open Go.ChangeMaps (open_string shut_string)

/-- The first texts of a list, short. -/
def tkN (l : List Bs) (k : Nat) : List Bs := (l.take k).map fun x => x.take 30
theorem tkN_snoc (l : List Bs) (k : Nat) (h : k < l.length) : tkN l (k + 1) = tkN l k ++ [l[k].take 30] := by
  unfold tkN; rw [List.take_succ_eq_append_getElem h, List.map_append]; rfl
theorem tkN_len (l : List Bs) (k : Nat) : (tkN l k).length ≤ k := by unfold tkN; simp; omega
theorem tkN_mem (l : List Bs) (k : Nat) : ∀ x ∈ tkN l k, x.length ≤ maxLen := by
  intro x hx
  unfold tkN at hx
  obtain ⟨y, _, rfl⟩ := List.mem_map.1 hx
  rw [List.length_take]; unfold maxLen; omega
theorem choose_good (name : Bs) (l : List Bs) (h : l.length ≤ 1000) : nickB (chooseN name l) = true ∧ takenB (chooseN name l) l = false ∧ (chooseN name l).length ≤ 21 := by
  unfold chooseN
  obtain ⟨h1, h2, h3, h4⟩ := choose_free (baseN name) l h
  exact ⟨nth_ok (base_ok name) (by omega), h1, nth_len _ (by omega)⟩
set_option maxHeartbeats 8000000 in
set_option maxRecDepth 100000 in
theorem GatewayNicks_walk {w : World} (a : ByteArray) (ha : a.size ≤ maxLen) (A : Option Addr) (l : List Bs) (c : Nat) (hr : Row w A (strsL l)) (hs : SizedS l c) (hsh : w.ShapedOpen Tryd.prog) (htab : TabN w) :
    Calls Tryd.prog 3 #[.string a, .slice A l.length c] w fun e w' => e = .returned (.bool true) ∧ Below w.heap.size w w' := by
  have HKN := Lib.hid (fun wx (hb : Below w.heap.size w wx) => gw_known wx (shaped_below hsh hb) (htab.below hb))
  have HT := Lib.hid (fun wx (hb : Below w.heap.size w wx) => htab.below hb)
  have HS1 := Lib.hid (fun wx => lw_short a ha 60 60 rfl wx (by omega))
  have hx := short_size a 60
  have HM := Lib.hid hs.2.2
  have hl := Nat.le_trans hs.1 hs.2.1
  have HR := Lib.hid hr
  clear ha hsh htab hs hr
  unfold maxLen at hl
  generalize a.extract 0 (min a.size 60) = X at *
  go_enter Tryd.func3, Tryd.ntmps3
  go_wp2_with ((go_at_call 6; (with_reducible refine (HS1.out _).mono ?_); rintro e w' ⟨rfl, rfl⟩))
  go_loopw [5, 6] (fun v5 v6 wr => ∃ k : Nat, k ≤ l.length ∧ k ≤ 30 ∧ v6 = .int .i64 (k : Int) ∧ StrsOwn w wr v5 (tkN l k)) (fun _ v6 _ => l.length - (intOf v6).toNat)
  case atStart => exact ⟨0, by omega, by omega, rfl, ⟨World.ownsRow_nil _ _ _ _, Below.refl _ _⟩⟩
  case round =>
    obtain ⟨k, hk, hk30, rfl, hso⟩ := hrel
    have HSO := Lib.hid hso
    have k0 : (0 : Int) ≤ (k : Int) := by omega
    by_cases hgo : k < l.length ∧ k < 30
    · obtain ⟨hlt, h30⟩ := hgo
      have k1 : (k : Int) < (l.length : Int) := by omega
      have k2 : (k : Int) < 30 := by omega
      have m1 : decide ((k : Int) < (l.length : Int)) = true := by simp; omega
      have m2 : decide ((k : Int) < 30) = true := by simp; omega
      obtain ⟨bb, off, rfl, hcell⟩ := (HR.out.below hso.bel).cell (k := k) (by simpa using hlt)
      rw [List.getElem_map] at hcell
      have HY := Lib.hid (HM.out l[k] (List.getElem_mem hlt))
      have HTK := Lib.hid (tkN_snoc l k hlt)
      generalize l[k] = y at *
      have HSY := Lib.hid (fun wx => lw_short (ofL y) (by rw [ofL_size]; exact HY.out) 30 30 rfl wx (by omega))
      have HE := Lib.hid (show toL ((ofL y).extract 0 (min (ofL y).size 30)) = y.take 30 from by
        rw [ofL_size, ext_ofL, min_take, toL_ofL])
      generalize (ofL y).extract 0 (min (ofL y).size 30) = Z at *
      have hown := hso.own
      have hbs := hso.bel.size
      have hln := tkN_len l k
      clear hso
      go_wp2_with (first | (go_at_call 6; (with_reducible refine (HSY.out _).mono ?_); rintro e w' ⟨rfl, rfl⟩) | (at_builtin; refine wpList_push el_string rfl _ _ rfl hown #[.string Z] rfl rfl rfl (by simp [Value.oneCell']) (by omega) (by unfold maxLen; omega) hbs ?_; intro g cap w3 hown3 hg3 hat3))
      go_roundw
      case rel => exact ⟨k + 1, by omega, by omega, by go_num, by rw [HTK.out, ← HE.out]; exact HSO.out.push1 hown3 hg3⟩
      case measure => simp [intOf] <;> omega
    · have hT : (tkN l k).length ≤ 30 := Nat.le_trans (tkN_len l k) hk30
      have HMT := Lib.hid (tkN_mem l k)
      obtain ⟨A2, c2, rfl, hr2⟩ := own_row hso.own
      have HR2 := Lib.hid hr2
      have HB := Lib.hid hso.bel
      clear hso hr2 HSO
      generalize tkN l k = T at *
      obtain ⟨g1, g2, g3⟩ := choose_good (toL X) T (by omega)
      have HNF := Lib.hid (show nickF (toL X) T = (chooseN (toL X) T, 0) from by unfold nickF; rw [if_neg (by omega)])
      have HNK := Lib.hid (fun wx (hb : Below wr.heap.size wr wx) => gw_nick X A2 T c2 wx (HT.out wx (HB.out.trans (hb.mono HB.out.size))) (HR2.out.below hb) (by omega) (by omega) HMT.out)
      rw [HNF.out] at HNK
      have HCH := Lib.hid (fun wx (hb : Below wr.heap.size wr wx) => lw_choose X A2 T c2 wx (HR2.out.below hb) (by omega) HMT.out (by omega))
      have HNI := Lib.hid (fun wx => lw_nick (ofL (chooseN (toL X) T)) wx (by rw [ofL_size]; unfold maxLen; omega))
      have HTA := Lib.hid (fun wx (hb : Below wr.heap.size wr wx) => lw_taken (ofL (chooseN (toL X) T)) A2 T c2 wx (HR2.out.below hb) (by omega) HMT.out (by rw [ofL_size]; unfold maxLen; omega))
      rw [toL_ofL, g1] at HNI
      rw [toL_ofL, g2] at HTA
      clear HNF g1 g2 HMT HR HM HS1
      generalize ofL (chooseN (toL X) T) = S at *
      have hse : (S.toList == S.toList) = true := by simp
      have hcase : (decide ((k : Int) < (l.length : Int)) = true ∧ (k : Int) < (l.length : Int) ∧ decide ((k : Int) < 30) = false ∧ (30 : Int) ≤ (k : Int)) ∨ (decide ((k : Int) < (l.length : Int)) = false ∧ (l.length : Int) ≤ (k : Int)) := by
        by_cases h : k < l.length
        · refine .inl ⟨by simp; omega, by omega, by simp; omega, by omega⟩
        · exact .inr ⟨by simp; omega, by omega⟩
      clear hgo
      rcases hcase with ⟨m1, m2, m3, m4⟩ | ⟨m1, m2⟩
      all_goals
        go_wp2_with (first
          | (go_at_call 7; (with_reducible refine (HNK.out _ (Below.refl _ _)).mono ?_); rintro e w1 ⟨rfl, hb1⟩)
          | (go_at_call 8; (with_reducible refine (HKN.out _ (HB.out.trans (hb1.mono HB.out.size))).mono ?_); rintro e w2 ⟨rfl, hb2⟩; have hb12 := hb1.trans (hb2.mono hb1.size))
          | (go_at_call 9; (with_reducible refine (HCH.out _ hb12).mono ?_); rintro e w3 ⟨rfl, hb3⟩; have hb13 := hb12.trans (hb3.mono hb12.size))
          | (go_at_call 10; (with_reducible refine (HNI.out _).mono ?_); rintro e w' ⟨rfl, rfl⟩)
          | (go_at_call 11; (with_reducible refine (HTA.out _ hb13).mono ?_); rintro e w4 ⟨rfl, hb4⟩; have hb14 := hb13.trans (hb4.mono hb13.size)))
        go_ret
        exact ⟨rfl, HB.out.trans (hb14.mono HB.out.size)⟩
set_option maxRecDepth 100000 in
theorem GatewayNicks_contract (H : Type) (enc : TypeId × Value → H) (W : World) (base : Nat) (args : Array Value) (ds gs : List (DataW H)) (before : List MemPlace)
    (hval0 : ∀ (j : Nat) t v, Tryd.f3.params[j]? = some t → args[j]? = some v → Value.okWide Tryd.prog W .any base t v)
    (hW : DataW.Whole enc Tryd.prog Tryd.f3.params.toList Rows.gatewayNicksSpec.vars false W args.toList ds gs before) (hsh : W.ShapedOpen Tryd.prog) (htab : TabN W) :
    Calls Tryd.prog 3 args W fun e W' => ∃ v, e = .returned v ∧ Rows.gatewayNicksSpec.post enc Tryd.prog Tryd.f3 false true false false W args v W' := by
  have hval : ∀ (j : Nat) t v, Tryd.f3.params[j]? = some t → args[j]? = some v → Value.okWide Tryd.prog W .any base t v := hval0
  have hW' := hW
  obtain ⟨p, q, hA0, hV, rfl, hfz, hnd⟩ := hW
  have hA : DataW.TrodAll enc Tryd.prog W 0 (fun _ => true) true Tryd.f3.params.toList args.toList ds p := hA0
  rw [Tryd.params3] at hA hval
  obtain ⟨v0, vs0, d0, ds0, p0, q0, hargs, rfl, rfl, h0, r0⟩ := trodAll_cons hA
  obtain ⟨v1, vs1, d1, ds1, p1, q1, rfl, rfl, rfl, h1, r1⟩ := trodAll_cons r0
  obtain ⟨rfl, rfl, rfl⟩ := trodAll_nil r1
  obtain rfl : args = #[v0, v1] := by cases args; simp_all
  obtain ⟨rfl, rfl⟩ := trodVars_none hV
  obtain ⟨a0, rfl, rfl, rfl, w0⟩ := open_string Tryd.underlying9 (hval 0 9 v0 rfl rfl) h0
  obtain ⟨A1, l1, c1, hv1, hrow1, hsz1⟩ := open_strs Tryd.underlying22 Tryd.underlying9 (by kernel_rfl) (hval 1 22 v1 rfl rfl) h1
  subst hv1
  refine (GatewayNicks_walk a0 w0 A1 l1 c1 hrow1 hsz1 hsh htab).mono fun e W' ⟨he, hg⟩ => ?_
  subst he
  exact ⟨_, rfl, law_post hW' rfl rfl rfl (by decide +kernel) hg⟩

theorem GatewayNicks_reads (os : Os) {H : Type} (enc : TypeId × Value → H) : ∃ places, DataW.whole enc Tryd.prog ((laidWorld os).forCall (fun _ _ => 0) ⟨#[], #[.string ByteArray.empty, .slice none 0 0], []⟩).memory Tryd.f3.params.toList Rows.gatewayNicksSpec.vars false ((#[.string ByteArray.empty, .slice none 0 0] : Array Value)).toList 8 = some ([.lit (.string []), .nil], [], places) :=
  ⟨[], by kernel_rfl⟩

set_option maxRecDepth 100000 in
theorem GatewayNicks_lifted (os : Os) (started : os.Started) (H : Type) (enc : TypeId × Value → H) (F : Stop.Interp) :
    ReturnsInHanded {} Tryd.checked os 3 .any ((OpenSpec.ofChange Rows.gatewayNicksSpec).preRow enc Tryd.prog Tryd.f3 Rows.gatewayNicksRow.domain false Rows.gatewayNicksRow.laid) (((OpenSpec.ofChange Rows.gatewayNicksSpec).at F).post enc Tryd.prog Tryd.f3 false true false false) := by
  obtain ⟨places, hx⟩ := GatewayNicks_reads os enc
  refine returnsInHanded_of_row (C := Tryd.checked) (s := OpenSpec.ofChange Rows.gatewayNicksSpec) own started (by kernel_rfl) Tryd.func3
    (witness_row_at (enc := enc) (C := Tryd.checked) false (laidWorld os) #[.string ByteArray.empty, .slice none 0 0] rfl (by kernel_rfl) (by kernel_rfl) (by kernel_rfl)
      (OpenSpec.preRow_of_cond 8 hx (by kernel_rfl) (fun k hk => by cases hk) (by kernel_rfl) (laid_met os #[.string ByteArray.empty, .slice none 0 0]))) ?_
  intro W base args ds gs before hval hW _ _ _ hL hsh _
  exact GatewayNicks_contract H enc W base args ds gs before hval hW hsh (tabN_of_laid hL)

theorem GatewayNicks_said : Rows.GatewayNicksSaid :=
  OpenClaim.holds_of_cond 3 Tryd.f3 rfl rfl rfl rfl rfl rfl rfl ⟨rfl, rfl, rfl, rfl, rfl⟩ rfl rfl rfl rfl rfl (by kernel_rfl) Tryd.func3 (by kernel_rfl)
    (of_decide_eq_true (by kernel_rfl)) (by unfold Func.isWrapper; first | (rw [if_pos (by decide +kernel)]; kernel_rfl) | (rw [if_neg (by decide +kernel)]; exact ⟨rfl, rfl⟩))
    (fun os started H enc _ F => by rw [OpenClaim.pre_eq_preRow]; exact GatewayNicks_lifted os started H enc F)

theorem GatewayNicks_plain (f : FuncId) (fn : Func) (hf : Tryd.pinned.checked.prog.funcNamed Rows.gatewayNicksRow.func = some f) (hfn : Tryd.pinned.checked.prog.funcs[f]? = some fn) :
    false = Tryd.pinned.checked.prog.looks [] ∧ ∀ (j : Nat) t, fn.params[j]? = some t → Tryd.pinned.checked.prog.wantsStandIn t = false := by
  obtain rfl : f = 3 := Option.some.inj ((show Tryd.prog.funcNamed Rows.gatewayNicksRow.func = some 3 by kernel_rfl).symm.trans hf) |>.symm
  obtain rfl : fn = Tryd.f3 := (Option.some.inj (Tryd.func3.symm.trans hfn)).symm
  refine ⟨by kernel_rfl, fun j t ht => ?_⟩
  rw [Tryd.params3] at ht
  have hm := Array.mem_of_getElem? ht
  simp only [List.mem_toArray, List.mem_cons, List.not_mem_nil, or_false] at hm
  rcases hm with rfl | rfl
  · exact (show Tryd.prog.wantsStandIn 9 = false by kernel_rfl)
  · exact (show Tryd.prog.wantsStandIn 22 = false by kernel_rfl)

theorem GatewayNicks_proved : Rows.GatewayNicksCardSaid :=
  Claim7.holds_tied_plain_at .later [] _ _ _ _ GatewayNicks_said (fun _ h => by cases h) (by kernel_rfl) (fun _ h => by cases h) gatewayNicks_row_tie rfl ⟨rfl, rfl⟩ (by kernel_rfl) rfl GatewayNicks_plain (by kernel_rfl)
end Go.Proofs.YtjmcfagmhniejaaDoor
