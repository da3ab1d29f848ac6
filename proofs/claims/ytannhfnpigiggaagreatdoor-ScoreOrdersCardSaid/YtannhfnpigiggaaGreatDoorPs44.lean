/- Lemmas and walks, part 44. -/
import Derived.Test.YtannhfnpigiggaaGreatDoorPs43
import Derived.Test.YtannhfnpigiggaaGreatDoorPs6
namespace Go.Proofs.YtannhfnpigiggaaGreatDoor
set_option linter.unusedSimpArgs false
set_option linter.unusedVariables false
open Go.RowKit

theorem dat_of_own {w : World} {base g n cap : Nat} {D : List Nat} (h : w.ownsRow base 3 1 (.slice (some ⟨g, 0, none⟩) n cap) n (ints D)) (hn : D.length = n) : Dat w g D := by
  rcases h.2 with ⟨h2, _⟩ | ⟨g', cap', cur, hv, hg, hh, hnc, hcm, hcs, ht⟩
  · cases h2
  · injection hv with hv _ _
    injection hv with hv
    injection hv with hv
    subst hv
    refine ⟨heap_lt hh, fun j hj => ?_, fun j hj => Lib.frozen_of_heap hh j⟩
    rw [Lib.cell_of_heap hh]
    have hu : (ints D)[j]? = some (.int .i64 (D[j] : Int)) := by simp [ints, hj]
    rw [← ht, List.getElem?_take] at hu
    split at hu
    · simpa using hu
    · cases hu
theorem row_of_dat {w : World} {g : Nat} {D : List Nat} (h : Dat w g D) : Row w (some ⟨g, 0, none⟩) (ints D) := by
  refine .inr ⟨g, 0, rfl, h.lt, fun j v hv => ?_⟩
  have hj : j < D.length := by
    rcases Nat.lt_or_ge j D.length with q | q
    · exact q
    · rw [List.getElem?_eq_none (by rw [ints_len]; exact q)] at hv; cases hv
  have hu : (ints D)[j]? = some (.int .i64 (D[j] : Int)) := by simp [ints, hj]
  rw [hu] at hv
  injection hv with hv
  rw [← hv, Nat.zero_add]; exact h.cells j hj
/-- The places of those that are not killed, among the first k. -/
def liveL (l : List R4) (k : Nat) : List Nat := (List.range k).filter fun i => !(l.getD i r4Z).kil
theorem liveL_step (l : List R4) (k : Nat) : liveL l (k + 1) = if (l.getD k r4Z).kil then liveL l k else liveL l k ++ [k] := by
  unfold liveL
  rw [List.range_succ, List.filter_append]
  simp only [List.filter_cons, List.filter_nil]
  cases h : (l.getD k r4Z).kil <;> simp
theorem liveL_lt (l : List R4) (k : Nat) : ∀ i ∈ liveL l k, i < k ∧ (l.getD i r4Z).kil = false := by
  intro i hi
  unfold liveL at hi
  rw [List.mem_filter, List.mem_range] at hi
  exact ⟨hi.1, by simpa using hi.2⟩
theorem liveL_len (l : List R4) (k : Nat) : (liveL l k).length ≤ k := by
  unfold liveL
  have := List.length_filter_le (fun i => !(l.getD i r4Z).kil) (List.range k)
  simpa using this
theorem liveL_inc (l : List R4) (k : Nat) : Sp.Inc (liveL l k) := List.Pairwise.filter _ (List.pairwise_lt_range)
set_option maxHeartbeats 4000000 in
set_option maxRecDepth 100000 in
theorem so_ins_nil (F : Value) (w : World) : Calls Tryz.prog 96 #[.slice none 0 0, .int .i64 0, .int .i64 0, F] w fun e w' => e = .returned (.tuple #[]) ∧ w = w' := by
  go_enter Tryz.func96, Tryz.ntmps96
  go_wp2_with fail
  go_loopw [8] (fun v wr => v = .int .i64 1 ∧ w = wr) (fun _ _ => 0)
  case atStart => exact ⟨rfl, rfl⟩
  case round =>
    obtain ⟨rfl, rfl⟩ := hrel
    go_wp2_with fail
    go_end0
    exact ⟨rfl, rfl⟩
set_option maxHeartbeats 4000000 in
set_option maxRecDepth 100000 in
theorem so_stable_nil (F : Value) (w : World) : Calls Tryz.prog 72 #[.slice none 0 0, .int .i64 0, F] w fun e w' => e = .returned (.tuple #[]) ∧ w = w' := by
  have HI := Lib.hid (fun wx => so_ins_nil F wx)
  go_enter Tryz.func72, Tryz.ntmps72
  go_wp2_with fail
  go_loopw [7, 8] (fun va vb wr => va = .int .i64 0 ∧ vb = .int .i64 20 ∧ w = wr) (fun _ _ _ => 0)
  case atStart => exact ⟨rfl, rfl, rfl⟩
  case round =>
    obtain ⟨rfl, rfl, rfl⟩ := hrel
    go_wp2_with ((go_at_call 96; (with_reducible refine (HI.out _).mono ?_); rintro e w2 ⟨rfl, rfl⟩))
    go_loopw [6] (fun vs wr => vs = .int .i64 20 ∧ w = wr) (fun _ _ => 0)
    case atStart => exact ⟨rfl, rfl⟩
    case round =>
      obtain ⟨rfl, rfl⟩ := hrel
      go_wp2_with fail
      go_end0
      exact ⟨rfl, rfl⟩
set_option maxHeartbeats 4000000 in
set_option maxRecDepth 100000 in
theorem so_sort_nil (F : Value) (w : World) : Calls Tryz.prog 42 #[.slice none 0 0, F] w fun e w' => e = .returned (.tuple #[]) ∧ w = w' := by
  have HI := Lib.hid (fun wx => so_stable_nil F wx)
  go_enter Tryz.func42, Tryz.ntmps42
  go_wp2_with ((go_at_call 72; (with_reducible refine (HI.out _).mono ?_); rintro e w2 ⟨rfl, rfl⟩))
  go_end0
  exact ⟨rfl, rfl⟩
set_option maxHeartbeats 4000000 in
set_option maxRecDepth 100000 in
theorem so_sort {N g cap n : Nat} {cp : Value} {w : World} {lt : Nat → Nat → Prop} (C : CmpIs cp g w N lt) {D : List Nat} (hD : Dat w g D) (hi : Sp.Inc D) (hN : ∀ x ∈ D, x < N) (hn : D.length = n) (hm : n ≤ 1000000) :
    Calls Tryz.prog 42 #[.slice (some ⟨g, 0, none⟩) n cap, .func (.func 43) #[] #[cp]] w fun e w' => e = .returned (.tuple #[]) ∧ Fg g w w' ∧ ∃ D', Dat w' g D' ∧ D'.Perm D ∧ Sp.Srt lt D' := by
  have HC := Lib.hid (so_stable (cap := cap) C hD (Fr.refl g _ w) hi hN hn hm)
  clear C hD hi hN hn hm
  go_enter Tryz.func42, Tryz.ntmps42
  go_wp2_with ((go_at_call 72; (with_reducible refine HC.out.mono ?_); rintro e w2 ⟨rfl, hf, hd⟩; have HF := Lib.hid hf; have HD := Lib.hid hd; clear hf hd))
  go_end0
  exact ⟨rfl, HF.out, HD.out⟩
set_option maxHeartbeats 8000000 in
set_option maxRecDepth 100000 in
theorem so_order {l : List R4} {A : Option Addr} {c : Nat} {w : World} (hr : Row w A (r4V l)) (hm : l.length ≤ 1000) :
    Calls Tryz.prog 28 #[.slice A l.length c] w fun e w' => ∃ B cb D, e = .returned (.slice B D.length cb) ∧ Row w' B (ints D) ∧ D.Perm (liveL l l.length) ∧ Sp.Srt (bfR l) D ∧ Below w.heap.size w w' := by
  have HR := Lib.hid hr
  have HB0 := Lib.hid (alloc_bel w (.cells #[.slice A l.length c] 69))
  have HX0 := Lib.hid (heap_alloc_new w (.cells #[.slice A l.length c] 69))
  go_enter Tryz.func28, Tryz.ntmps28
  go_wp2_with fail
  generalize hW1 : w.alloc (.cells #[.slice A l.length c] 69) = W1 at *
  have hz1 : W1.heap.size = w.heap.size + 1 := by rw [← hW1]; simp
  clear hW1 hr
  go_loopw [3, 8] (fun v vk wr => ∃ k : Nat, k ≤ l.length ∧ vk = .int .i64 (k : Int) ∧ wr.ownsRow W1.heap.size 3 1 v (liveL l k).length (ints (liveL l k)) ∧ Below W1.heap.size W1 wr) (fun _ vk _ => l.length - (intOf vk).toNat)
  case atStart => exact ⟨0, by omega, rfl, World.ownsRow_nil _ _ _ _, Below.refl _ _⟩
  case round =>
    obtain ⟨k, hk, rfl, hown, hb⟩ := hrel
    have HB := Lib.hid hb
    have hzr := hb.size
    clear hb
    have k0 : (0 : Int) ≤ (k : Int) := by omega
    by_cases hlt : k < l.length
    · have k1 : (k : Int) < (l.length : Int) := by omega
      obtain ⟨bb, off, hA, hbb, a0, a1, a2, a3⟩ := r4_at ((HR.out.below HB0.out).below HB.out) hlt
      subst hA
      have HST := Lib.hid (liveL_step l k)
      have hgk : l.getD k r4Z = l[k] := by rw [List.getD_eq_getElem?_getD, List.getElem?_eq_getElem hlt]; rfl
      rw [hgk] at HST
      generalize l[k] = x at *
      obtain ⟨s1, q1, w1, p1⟩ := x
      simp only at a0 a1 a2 a3 HST
      have hll := liveL_len l k
      clear hgk
      cases q1
      · have HS2 := Lib.hid (show liveL l (k + 1) = liveL l k ++ [k] from HST.out)
        go_upto_region 5 with fail
        have HB3 := Lib.hid (alloc_bel wr (.cells #[.int .i64 s1, .bool false, .bool w1, .int .i64 p1] 39))
        have HX3 := Lib.hid (heap_alloc_new wr (.cells #[.int .i64 s1, .bool false, .bool w1, .int .i64 p1] 39))
        have HBX := Lib.hid (HB.out.trans (HB3.out.mono hzr))
        have hown2 := own_below hown HB3.out
        have hzx := HBX.out.size
        have c1 := (show (wr.alloc (.cells #[.int .i64 s1, .bool false, .bool w1, .int .i64 p1] 39)).cell? ⟨wr.heap.size, 1, none⟩ = some (.bool false) from by rw [Lib.cell_of_heap HX3.out]; rfl)
        clear a0 a1 a2 a3 hown HB
        generalize wr.alloc (.cells #[.int .i64 s1, .bool false, .bool w1, .int .i64 p1] 39) = W3 at *
        generalize wr.heap.size = q at *
        go_wp2_with ((at_builtin; refine wpList_push el_int rfl _ _ rfl hown2 #[.int .i64 (k : Int)] rfl rfl rfl (by simp [Value.oneCell']) (by omega) (by unfold maxLen; omega) hzx ?_; intro g cap w3 hown3 hg3 hat3))
        have hb3 : Below W1.heap.size W1 w3 := HBX.out.grown hg3 hzx (fun k hk => (hown2.lt k hk).1)
        go_roundw
        case rel => exact ⟨k + 1, by omega, by go_num, by rw [HS2.out, ← ints_snoc, List.length_append]; exact hown3, hb3⟩
        case measure => simp [intOf] <;> omega
      · have HS2 := Lib.hid (show liveL l (k + 1) = liveL l k from HST.out)
        go_upto_region 5 with fail
        have HB3 := Lib.hid (alloc_bel wr (.cells #[.int .i64 s1, .bool true, .bool w1, .int .i64 p1] 39))
        have HX3 := Lib.hid (heap_alloc_new wr (.cells #[.int .i64 s1, .bool true, .bool w1, .int .i64 p1] 39))
        have HBX := Lib.hid (HB.out.trans (HB3.out.mono hzr))
        have HOW2 := Lib.hid (own_below hown HB3.out)
        have c1 := (show (wr.alloc (.cells #[.int .i64 s1, .bool true, .bool w1, .int .i64 p1] 39)).cell? ⟨wr.heap.size, 1, none⟩ = some (.bool true) from by rw [Lib.cell_of_heap HX3.out]; rfl)
        clear a0 a1 a2 a3 hown HB
        generalize wr.alloc (.cells #[.int .i64 s1, .bool true, .bool w1, .int .i64 p1] 39) = W3 at *
        generalize wr.heap.size = q at *
        go_wp2_with fail
        go_roundw
        case rel => exact ⟨k + 1, by omega, by go_num, by rw [HS2.out]; exact HOW2.out, HBX.out⟩
        case measure => simp [intOf] <;> omega
    · have k1 : (l.length : Int) ≤ (k : Int) := by omega
      obtain rfl : k = l.length := by omega
      have HL0 := Lib.hid (liveL_lt l l.length)
      have hll := liveL_len l l.length
      have HIC := Lib.hid (liveL_inc l l.length)
      have HXR := Lib.hid ((HB.out.block w.heap.size (by omega)).trans HX0.out)
      have hbx : wr.cell? ⟨w.heap.size, 0, none⟩ = some (.slice A l.length c) := by rw [Lib.cell_of_heap HXR.out]; rfl
      have HBR := Lib.hid (show Below w.heap.size w wr from HB0.out.trans (HB.out.mono (by omega)))
      have hrr := (HR.out.below HB0.out).below HB.out
      have hAlt : ∀ bb o, A = some ⟨bb, o, none⟩ → l = [] ∨ bb < w.heap.size := fun bb o e => by
        rcases HR.out with h0 | ⟨b2, o2, e2, hlt2, _⟩
        · left
          have := r4V_length l
          rw [h0] at this; simp at this
          exact List.eq_nil_of_length_eq_zero (by omega)
        · right
          rw [e] at e2
          injection e2 with e2; injection e2 with e2
          rw [e2]; exact hlt2
      rcases own_form hown with ⟨hv, hn0⟩ | ⟨g, cap, hv, hg1, hg2, hcap, _⟩
      · subst hv
        have HNL := Lib.hid (show liveL l l.length = [] from List.eq_nil_of_length_eq_zero hn0)
        rw [hn0] at hown
        have HSN := Lib.hid (fun F wx => so_sort_nil F wx)
        clear hown hbx hrr
        go_wp2_with ((go_at_call 42; (with_reducible refine (HSN.out _ _).mono ?_); rintro e w2 ⟨rfl, rfl⟩))
        go_ret
        refine ⟨none, 0, [], rfl, .inl rfl, by rw [HNL.out], List.Pairwise.nil, HBR.out⟩
      · subst hv
        have HDT := Lib.hid (dat_of_own hown rfl)
        have HCM := Lib.hid (cmp_is (l := l) (A := A) (c := c) (bx := w.heap.size) (g := g) (w := wr) (by omega) (fun bb o e => by
          rcases hAlt bb o e with q | q
          · exact .inl q
          · exact .inr (by omega)) hbx hrr (by omega))
        have HSN := Lib.hid (so_sort (cap := cap) HCM.out HDT.out HIC.out (fun x hx => (HL0.out x hx).1) rfl (by omega))
        clear hown hbx hrr hAlt
        go_wp2_with ((go_at_call 42; (with_reducible refine HSN.out.mono ?_); rintro e w2 ⟨rfl, hf, D2, hd, hp, hs⟩; have HF2 := Lib.hid hf; have HD2 := Lib.hid hd; have HP2 := Lib.hid hp; have HS2 := Lib.hid hs; clear hf hd hp hs))
        go_ret
        refine ⟨some ⟨g, 0, none⟩, cap, D2, by rw [HP2.out.length_eq]; rfl, row_of_dat HD2.out, HP2.out, HS2.out, HBR.out.trans ((Fr.bel HF2.out).mono (by omega))⟩
end Go.Proofs.YtannhfnpigiggaaGreatDoor
