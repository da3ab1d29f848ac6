/- The walk over ScoreOrders. -/
import Derived.Test.YtannhfnpigiggaaGreatDoorPs46
namespace Go.Proofs.YtannhfnpigiggaaGreatDoor
set_option linter.unusedSimpArgs false
set_option linter.unusedVariables false
open Go.ChangeShapes Go.WideShapes Go.ChangeAt Go.RowKit

theorem res_after {w3 : World} {base : Nat} {v3 : Value} {l : List R4} (h : w3.ownsRow base 39 4 v3 (0 + l.length) ([] ++ r4V l)) : ∃ A1 c1, v3 = .slice A1 l.length c1 ∧ Row w3 A1 (r4V l) := by
  rw [Nat.zero_add, List.nil_append] at h
  exact own_row h
/-- What the law asks of each place but the first. -/
theorem order_ok {l : List R4} {D : List Nat} (hs : Sp.Srt (bfR l) D) {i x y : Nat} (hx : D[i]? = some x) (hy : D[i + 1]? = some y) : bfR l x y := by
  have get : ∀ {i y : Nat}, D[i]? = some y → ∃ hi : i < D.length, D[i] = y := fun {i y} hy => by
    rcases Nat.lt_or_ge i D.length with q | q
    · rw [List.getElem?_eq_getElem q] at hy; injection hy with hy; exact ⟨q, hy⟩
    · rw [List.getElem?_eq_none q] at hy; cases hy
  obtain ⟨i1, rfl⟩ := get hx
  obtain ⟨i2, rfl⟩ := get hy
  exact List.pairwise_iff_getElem.1 hs i (i + 1) i1 i2 (by omega)
theorem dat_row {w : World} {B : Option Addr} {D : List Nat} (h : Row w B (ints D)) {k x : Nat} (hx : D[k]? = some x) : ∃ bb off, B = some ⟨bb, off, none⟩ ∧ bb < w.heap.size ∧ w.cell? ⟨bb, off + k, none⟩ = some (.int .i64 (x : Int)) := by
  have hu : (ints D)[k]? = some (.int .i64 (x : Int)) := by simp [ints, hx]
  rcases h with h0 | ⟨bb, o, e, hlt, hc⟩
  · rw [h0] at hu; cases hu
  · exact ⟨bb, o, e, hlt, hc k _ hu⟩
theorem two_box (w : World) (A B : Array Value) (T : TypeId) : (((w.alloc (.cells A T)).alloc (.cells B T)).drew).heap[w.heap.size]? = some (.cells A T (0, 0)) ∧ (((w.alloc (.cells A T)).alloc (.cells B T)).drew).heap[w.heap.size + 1]? = some (.cells B T (0, 0)) ∧ Below w.heap.size w (((w.alloc (.cells A T)).alloc (.cells B T)).drew) ∧ (((w.alloc (.cells A T)).alloc (.cells B T)).drew).heap.size = w.heap.size + 2 := by
  refine ⟨(Lib.alloc_old _ _ _ (by simp)).trans (heap_alloc_new _ _), alloc_at _ _ _ (by simp), ((alloc_bel _ _).alloc (by simp) _).drew, by simp⟩
set_option maxHeartbeats 16000000 in
set_option maxRecDepth 100000 in
theorem so_law {l0 : List R4} {A : Option Addr} {c : Nat} {w : World} (hr : Row w A (r4V l0)) (hm : l0.length ≤ maxLen) (hc : l0.length ≤ c) (hnil : A = none → l0 = [] ∧ c = 0) (hsh : w.ShapedOpen Tryz.prog) (ht : TabN w) :
    Calls Tryz.prog 10 #[.slice A l0.length c] w fun e w' => e = .returned (.bool true) ∧ Below w.heap.size w w' := by
  have HKN := Lib.hid (fun wx (hx : Below w.heap.size w wx) => law_known wx (shaped_below hsh hx) (ht.below hx))
  have HB0 := Lib.hid (alloc_bel w (.cells #[] 39))
  have HR := Lib.hid ((r4V_take hr 60).below HB0.out)
  have HNN := Lib.hid (fun e => (hr.none_len (size := 4) (r4V_length l0) (by omega)) e)
  obtain ⟨l, hl⟩ : ∃ l, l0.take 60 = l := ⟨_, rfl⟩
  rw [hl] at HR
  have hl60 : l.length ≤ 60 := by rw [← hl, List.length_take]; omega
  have x1 : min (l0.length : Int) 60 = (l.length : Int) := by rw [← hl, List.length_take]; omega
  have hown := own_empty w 39
  have hwz : w.heap.size ≤ (w.alloc (.cells #[] 39)).heap.size := by simp
  have hlc : (l.length : Int) ≤ (c : Int) := by rw [← hl, List.length_take]; omega
  clear hr hsh ht hl
  unfold maxLen at hm
  have hone := r4V_one l
  have hlen4 := r4V_length l
  rcases A with _ | ad
  · obtain ⟨rfl, rfl⟩ := hnil rfl
    have hl0 : l = [] := by
      have e : min (([] : List R4).length : Int) 60 = 0 := rfl
      rw [e] at x1
      exact List.eq_nil_of_length_eq_zero (by omega)
    subst hl0
    have hn2 : (none : Option Addr) = none → ([] : List R4).length = 0 := fun _ => rfl
    go_enter Tryz.func10, Tryz.ntmps10
    go_wp2_with ((at_builtin; (refine wpList_pour el_res rfl _ _ rfl hown rfl (A := none) (m := ([] : List R4).length) (c := 0) (news := r4V []) rfl (.inl rfl) rfl hone hn2 (by decide) (by unfold maxLen; decide) hwz ?_); intro v3 w3 hown3 hg3 hat3; have HG3 := Lib.hid hg3; clear hg3 hat3; obtain ⟨A1, c1, rfl, hrow1⟩ := res_after hown3))
    have HB3 := Lib.hid (show Below w.heap.size w w3 from HB0.out.grown HG3.out hwz (fun k e => by simp only [Value.ownBlock, Option.some.injEq] at e; omega))
    have HO := Lib.hid (show Calls Tryz.prog 28 #[.slice A1 0 c1] w3 (fun e w' => ∃ B cb D, e = .returned (.slice B D.length cb) ∧ Row w' B (ints D) ∧ D.Perm (liveL [] 0) ∧ Sp.Srt (bfR []) D ∧ Below w3.heap.size w3 w') from so_order (c := c1) (l := []) hrow1 (by decide))
    have HR1 := Lib.hid hrow1
    clear hown hown3 hrow1 HR hn2 HNN hlen4 hone HG3
    go_wp2_with ((go_at_call 28; (with_reducible refine HO.out.mono ?_); rintro e w4 ⟨B, cb, D, rfl, hrd, hp, hs, hb4⟩; have HRD := Lib.hid hrd; have HP := Lib.hid hp; have HS := Lib.hid hs; have HR4 := Lib.hid (HR1.out.below hb4); have HB4 := Lib.hid (HB3.out.trans (hb4.mono HB3.out.size)); clear hrd hp hs hb4))
    clear HO HR1 HB3 HB0
    have HPL := Lib.hid HP.out.length_eq
    go_loopw [4, 5] (fun vn vi wr => vn = .int .i64 0 ∧ vi = .int .i64 0 ∧ wr = w4) (fun _ _ _ => 0)
    case atStart => exact ⟨rfl, rfl, rfl⟩
    case round =>
      obtain ⟨rfl, rfl, rfl⟩ := hrel
      have hD0 : D = [] := List.eq_nil_of_length_eq_zero HPL.out
      subst hD0
      go_wp2_with ((go_at_call 13; (with_reducible refine (HKN.out _ HB4.out).mono ?_); rintro e w5 ⟨rfl, hb5⟩; have HB5 := Lib.hid (HB4.out.trans (hb5.mono HB4.out.size)); clear hb5))
      clear HB4 HR4 HRD HKN
      go_loopw [6] (fun vi wr => vi = .int .i64 0 ∧ wr = w5) (fun _ _ => 0)
      case atStart => exact ⟨rfl, rfl⟩
      case round =>
        obtain ⟨rfl, rfl⟩ := hrel
        go_wp2_with fail
        go_ret
        exact ⟨rfl, HB5.out⟩
  · have hn2 : some ad = none → l.length = 0 := fun e => by cases e
    go_enter Tryz.func10, Tryz.ntmps10
    go_wp2_with ((at_builtin; (refine wpList_pour el_res rfl _ _ rfl hown rfl (A := some ad) (m := l.length) (c := c) (news := r4V l) rfl HR.out hlen4 hone hn2 (by omega) (by unfold maxLen; omega) hwz ?_); intro v3 w3 hown3 hg3 hat3; have HG3 := Lib.hid hg3; clear hg3 hat3; obtain ⟨A1, c1, rfl, hrow1⟩ := res_after hown3))
    have HB3 := Lib.hid (show Below w.heap.size w w3 from HB0.out.grown HG3.out hwz (fun k e => by simp only [Value.ownBlock, Option.some.injEq] at e; omega))
    have HO := Lib.hid (so_order (c := c1) hrow1 (by omega))
    have HR1 := Lib.hid hrow1
    clear hown hown3 hrow1 HR hn2 HNN hlen4 hone HG3
    go_wp2_with ((go_at_call 28; (with_reducible refine HO.out.mono ?_); rintro e w4 ⟨B, cb, D, rfl, hrd, hp, hs, hb4⟩; have HRD := Lib.hid hrd; have HP := Lib.hid hp; have HS := Lib.hid hs; have HR4 := Lib.hid (HR1.out.below hb4); have HB4 := Lib.hid (HB3.out.trans (hb4.mono HB3.out.size)); clear hrd hp hs hb4))
    clear HO HR1 HB3 HB0
    have HPL := Lib.hid HP.out.length_eq
    go_loopw [4, 5] (fun vn vi wr => ∃ k : Nat, k ≤ l.length ∧ vn = .int .i64 ((liveL l k).length : Int) ∧ vi = .int .i64 (k : Int) ∧ wr = w4) (fun _ vi _ => l.length - (intOf vi).toNat)
    case atStart => exact ⟨0, by omega, rfl, rfl, rfl⟩
    case round =>
      obtain ⟨k, hk, rfl, rfl, rfl⟩ := hrel
      have k0 : (0 : Int) ≤ (k : Int) := by omega
      by_cases hlt : k < l.length
      · have k1 : (k : Int) < (l.length : Int) := by omega
        obtain ⟨bb, off, hA, hbb, a0, a1, a2, a3⟩ := r4_at HR4.out hlt
        subst hA
        have HST := Lib.hid (liveL_step l k)
        have hgk : l.getD k r4Z = l[k] := by rw [List.getD_eq_getElem?_getD, List.getElem?_eq_getElem hlt]; rfl
        rw [hgk] at HST
        generalize l[k] = x at *
        obtain ⟨s1, q1, w1, p1⟩ := x
        simp only at a0 a1 a2 a3 HST
        have hll := liveL_len l k
        obtain ⟨N, hN⟩ : ∃ N, (liveL l k).length = N := ⟨_, rfl⟩
        have HN := Lib.hid hN
        rw [hN] at hll ⊢
        clear hgk hN
        cases q1
        · have HS2 := Lib.hid (show (liveL l (k + 1)).length = N + 1 from by rw [HST.out, ← HN.out]; simp)
          have x2 : IntKind.i64.wrap ((N : Int) + 1) = ((N : Int) + 1) := IntWalk.i64_in _ (by omega)
          go_wp2_with fail
          go_roundw
          case rel => exact ⟨k + 1, by omega, by rw [HS2.out]; rfl, by go_num, trivial⟩
          case measure => simp [intOf] <;> omega
        · have HS2 := Lib.hid (show (liveL l (k + 1)).length = N from by rw [HST.out, ← HN.out]; simp)
          go_wp2_with fail
          go_roundw
          case rel => exact ⟨k + 1, by omega, by rw [HS2.out], by go_num, trivial⟩
          case measure => simp [intOf] <;> omega
      · have k1 : (l.length : Int) ≤ (k : Int) := by omega
        obtain rfl : k = l.length := by omega
        have HLT := Lib.hid (fun i (hi : i ∈ D) => liveL_lt l l.length i (HP.out.subset hi))
        have e1 : ((D.length : Int) != ((liveL l l.length).length : Int)) = false := by rw [HPL.out]; simp
        have hDl : D.length ≤ l.length := by rw [HPL.out]; exact liveL_len l l.length
        clear HP HPL
        generalize (liveL l l.length).length = N at *
        go_wp2_with ((go_at_call 13; (with_reducible refine (HKN.out _ HB4.out).mono ?_); rintro e w5 ⟨rfl, hb5⟩; have HB5 := Lib.hid (HB4.out.trans (hb5.mono HB4.out.size)); have HR5 := Lib.hid (HR4.out.below hb5); have HD5 := Lib.hid (HRD.out.below hb5); clear hb5))
        clear HB4 HR4 HRD HKN
        go_loopw [6] (fun vi wr => ∃ i : Nat, i ≤ D.length ∧ vi = .int .i64 (i : Int) ∧ Below w5.heap.size w5 wr) (fun vi _ => D.length - (intOf vi).toNat)
        case atStart => exact ⟨0, by omega, rfl, Below.refl _ _⟩
        case round =>
          obtain ⟨i, hi, rfl, hb⟩ := hrel
          have HB6 := Lib.hid hb
          have i0 : (0 : Int) ≤ (i : Int) := by omega
          by_cases hli : i < D.length
          · have i1 : (i : Int) < (D.length : Int) := by omega
            obtain ⟨x, hx⟩ : ∃ x, D[i]? = some x := ⟨_, List.getElem?_eq_getElem hli⟩
            have hxD : x ∈ D := List.mem_of_getElem? hx
            obtain ⟨hxl, hxk⟩ := HLT.out x hxD
            obtain ⟨bb, off, hA, hbb, c0⟩ := dat_row (HD5.out.below hb) hx
            subst hA
            obtain ⟨b2, o2, hA2, hb2, a0, a1, a2, a3⟩ := r4_at (HR5.out.below hb) hxl
            subst hA2
            have hgx : l.getD x r4Z = l[x] := by rw [List.getD_eq_getElem?_getD, List.getElem?_eq_getElem hxl]; rfl
            rw [hgx] at hxk
            have HXK := Lib.hid hgx
            generalize l[x] = X at *
            obtain ⟨s1, q1, w1, p1⟩ := X
            simp only at a0 a1 a2 a3 hxk
            subst hxk
            have y0 : (0 : Int) ≤ (x : Int) := by omega
            have y1 : (x : Int) < (l.length : Int) := by omega
            have y2 : decide ((x : Int) < 0) = false := decide_eq_false (by omega)
            have y3 : decide ((l.length : Int) ≤ (x : Int)) = false := decide_eq_false (by omega)
            have HX := Lib.hid hx
            clear hb hx
            cases i with
            | zero =>
              rw [Nat.add_zero] at c0
              rw [show ((0 : Nat) : Int) = 0 from rfl] at i1 ⊢
              go_wp2_with fail
              go_roundw
              case rel => exact ⟨1, by omega, rfl, HB6.out⟩
              case measure => simp [intOf] <;> omega
            | succ j =>
              obtain ⟨y, hy⟩ : ∃ y, D[j]? = some y := ⟨_, List.getElem?_eq_getElem (by omega)⟩
              have hyD : y ∈ D := List.mem_of_getElem? hy
              obtain ⟨hyl, _⟩ := HLT.out y hyD
              have HBF := Lib.hid (order_ok HS.out hy HX.out)
              obtain ⟨bb', off', hA, _, c0'⟩ := dat_row (HD5.out.below HB6.out) hy
              injection hA with hA; injection hA with e5 e6
              subst e5 e6
              obtain ⟨b2', o2', hA2, _, d0, d1, d2, d3⟩ := r4_at (HR5.out.below HB6.out) hyl
              injection hA2 with hA2; injection hA2 with e5 e6
              subst e5 e6
              have hgy : l.getD y r4Z = l[y] := by rw [List.getD_eq_getElem?_getD, List.getElem?_eq_getElem hyl]; rfl
              have HYK := Lib.hid hgy
              generalize l[y] = Y at *
              obtain ⟨s2, q2, w2, p2⟩ := Y
              simp only at d0 d1 d2 d3
              have hbf := HBF.out
              unfold bfR at hbf
              rw [HXK.out, HYK.out] at hbf
              simp only at hbf
              have z0 : (0 : Int) ≤ (y : Int) := by omega
              have z1 : (y : Int) < (l.length : Int) := by omega
              have z2 : IntKind.i64.wrap (((j : Int) + 1) - 1) = (j : Int) := by rw [IntWalk.i64_in _ (by omega)]; omega
              have z3 : (0 : Int) ≤ (j : Int) := by omega
              have z4 : (j : Int) < (D.length : Int) := by omega
              clear hy hyD hgy HBF
              cases w2 <;> cases w1
              · as_aux_lemma =>
                  simp at hbf
                  have hsz : s1 ≤ s2 := by omega
                  have e1 : decide (s2 < s1) = false := decide_eq_false (by omega)
                  have e2 : (s2 == s1) = true ∧ decide (x ≤ y) = false ∨ (s2 == s1) = false := by
                    by_cases hss : s2 = s1
                    · exact .inl ⟨by simp [hss], decide_eq_false (by omega)⟩
                    · exact .inr (by simp [hss])
                  have HC1 := Lib.hid c0
                  have HC2 := Lib.hid c0'
                  clear hbf
                  go_wp2_with fail
                  go_region
                  all_goals go_wp2_with fail
                  · as_aux_lemma =>
                      obtain ⟨t0, t1, tb, tz⟩ := two_box wr #[.int .i64 s2, .bool q2, .bool false, .int .i64 p2] #[.int .i64 s1, .bool false, .bool false, .int .i64 p1] 39
                      have HT := Lib.hid (HB6.out.trans (tb.mono HB6.out.size))
                      have c0 := (World.cell?_of_block (a := ⟨bb, off + (j + 1), none⟩) (tb.block bb hbb)).trans HC1.out
                      have c0' := (World.cell?_of_block (a := ⟨bb, off + j, none⟩) (tb.block bb hbb)).trans HC2.out
                      clear HC1 HC2 a0 a1 a2 a3 d0 d1 d2 d3 tb
                      generalize ((wr.alloc (.cells #[.int .i64 s2, .bool q2, .bool false, .int .i64 p2] 39)).alloc (.cells #[.int .i64 s1, .bool false, .bool false, .int .i64 p1] 39)).drew = W2 at *
                      generalize wr.heap.size = P0 at *
                      have a0 : W2.cell? ⟨P0, 0, none⟩ = some (.int .i64 s2) := by rw [Lib.cell_of_heap t0]; rfl
                      have d0 : W2.cell? ⟨P0 + 1, 0, none⟩ = some (.int .i64 s1) := by rw [Lib.cell_of_heap t1]; rfl
                      clear t0 t1 tz
                      rcases e2 with ⟨e2, e3⟩ | e2
                      all_goals
                        go_quiet (fail)
                        have HT2 := Lib.hid (below_drewN HT.out nq)
                        generalize W2.drewN nq = W3 at *
                        go_wp2_with fail
                        first
                          | (refine ⟨⟨j + 1 + 1, by omega, by go_num, HT2.out⟩, ?_⟩; simp [intOf]; omega)
                          | (go_roundw; (case rel => exact ⟨j + 1 + 1, by omega, by go_num, HT2.out⟩); (case measure => simp [intOf] <;> omega))
                  · as_aux_lemma =>
                      obtain ⟨t0, t1, tb, tz⟩ := two_box wr #[.int .i64 s1, .bool false, .bool false, .int .i64 p1] #[.int .i64 s2, .bool q2, .bool false, .int .i64 p2] 39
                      have HT := Lib.hid (HB6.out.trans (tb.mono HB6.out.size))
                      have c0 := (World.cell?_of_block (a := ⟨bb, off + (j + 1), none⟩) (tb.block bb hbb)).trans HC1.out
                      have c0' := (World.cell?_of_block (a := ⟨bb, off + j, none⟩) (tb.block bb hbb)).trans HC2.out
                      clear HC1 HC2 a0 a1 a2 a3 d0 d1 d2 d3 tb
                      generalize ((wr.alloc (.cells #[.int .i64 s1, .bool false, .bool false, .int .i64 p1] 39)).alloc (.cells #[.int .i64 s2, .bool q2, .bool false, .int .i64 p2] 39)).drew = W2 at *
                      generalize wr.heap.size = P0 at *
                      have a0 : W2.cell? ⟨P0, 0, none⟩ = some (.int .i64 s1) := by rw [Lib.cell_of_heap t0]; rfl
                      have d0 : W2.cell? ⟨P0 + 1, 0, none⟩ = some (.int .i64 s2) := by rw [Lib.cell_of_heap t1]; rfl
                      clear t0 t1 tz
                      rcases e2 with ⟨e2, e3⟩ | e2
                      all_goals
                        go_quiet (fail)
                        have HT2 := Lib.hid (below_drewN HT.out nq)
                        generalize W2.drewN nq = W3 at *
                        go_wp2_with fail
                        first
                          | (refine ⟨⟨j + 1 + 1, by omega, by go_num, HT2.out⟩, ?_⟩; simp [intOf]; omega)
                          | (go_roundw; (case rel => exact ⟨j + 1 + 1, by omega, by go_num, HT2.out⟩); (case measure => simp [intOf] <;> omega))
              · simp at hbf
              · as_aux_lemma =>
                  clear hbf
                  go_wp2_with fail
                  go_region
                  all_goals go_wp2_with fail
                  · obtain ⟨t0, t1, tb, tz⟩ := two_box wr #[.int .i64 s2, .bool q2, .bool true, .int .i64 p2] #[.int .i64 s1, .bool false, .bool false, .int .i64 p1] 39
                    refine ⟨⟨j + 1 + 1, by omega, by go_num, HB6.out.trans (tb.mono HB6.out.size)⟩, ?_⟩
                    simp [intOf]; omega
                  · obtain ⟨t0, t1, tb, tz⟩ := two_box wr #[.int .i64 s1, .bool false, .bool false, .int .i64 p1] #[.int .i64 s2, .bool q2, .bool true, .int .i64 p2] 39
                    refine ⟨⟨j + 1 + 1, by omega, by go_num, HB6.out.trans (tb.mono HB6.out.size)⟩, ?_⟩
                    simp [intOf]; omega
              · as_aux_lemma =>
                  simp at hbf
                  have hsz : s1 ≤ s2 := by omega
                  have e1 : decide (s2 < s1) = false := decide_eq_false (by omega)
                  have e2 : (s2 == s1) = true ∧ decide (x ≤ y) = false ∨ (s2 == s1) = false := by
                    by_cases hss : s2 = s1
                    · exact .inl ⟨by simp [hss], decide_eq_false (by omega)⟩
                    · exact .inr (by simp [hss])
                  have HC1 := Lib.hid c0
                  have HC2 := Lib.hid c0'
                  clear hbf
                  go_wp2_with fail
                  go_region
                  all_goals go_wp2_with fail
                  · as_aux_lemma =>
                      obtain ⟨t0, t1, tb, tz⟩ := two_box wr #[.int .i64 s2, .bool q2, .bool true, .int .i64 p2] #[.int .i64 s1, .bool false, .bool true, .int .i64 p1] 39
                      have HT := Lib.hid (HB6.out.trans (tb.mono HB6.out.size))
                      have c0 := (World.cell?_of_block (a := ⟨bb, off + (j + 1), none⟩) (tb.block bb hbb)).trans HC1.out
                      have c0' := (World.cell?_of_block (a := ⟨bb, off + j, none⟩) (tb.block bb hbb)).trans HC2.out
                      clear HC1 HC2 a0 a1 a2 a3 d0 d1 d2 d3 tb
                      generalize ((wr.alloc (.cells #[.int .i64 s2, .bool q2, .bool true, .int .i64 p2] 39)).alloc (.cells #[.int .i64 s1, .bool false, .bool true, .int .i64 p1] 39)).drew = W2 at *
                      generalize wr.heap.size = P0 at *
                      have a0 : W2.cell? ⟨P0, 0, none⟩ = some (.int .i64 s2) := by rw [Lib.cell_of_heap t0]; rfl
                      have d0 : W2.cell? ⟨P0 + 1, 0, none⟩ = some (.int .i64 s1) := by rw [Lib.cell_of_heap t1]; rfl
                      clear t0 t1 tz
                      rcases e2 with ⟨e2, e3⟩ | e2
                      all_goals
                        go_quiet (fail)
                        have HT2 := Lib.hid (below_drewN HT.out nq)
                        generalize W2.drewN nq = W3 at *
                        go_wp2_with fail
                        first
                          | (refine ⟨⟨j + 1 + 1, by omega, by go_num, HT2.out⟩, ?_⟩; simp [intOf]; omega)
                          | (go_roundw; (case rel => exact ⟨j + 1 + 1, by omega, by go_num, HT2.out⟩); (case measure => simp [intOf] <;> omega))
                  · as_aux_lemma =>
                      obtain ⟨t0, t1, tb, tz⟩ := two_box wr #[.int .i64 s1, .bool false, .bool true, .int .i64 p1] #[.int .i64 s2, .bool q2, .bool true, .int .i64 p2] 39
                      have HT := Lib.hid (HB6.out.trans (tb.mono HB6.out.size))
                      have c0 := (World.cell?_of_block (a := ⟨bb, off + (j + 1), none⟩) (tb.block bb hbb)).trans HC1.out
                      have c0' := (World.cell?_of_block (a := ⟨bb, off + j, none⟩) (tb.block bb hbb)).trans HC2.out
                      clear HC1 HC2 a0 a1 a2 a3 d0 d1 d2 d3 tb
                      generalize ((wr.alloc (.cells #[.int .i64 s1, .bool false, .bool true, .int .i64 p1] 39)).alloc (.cells #[.int .i64 s2, .bool q2, .bool true, .int .i64 p2] 39)).drew = W2 at *
                      generalize wr.heap.size = P0 at *
                      have a0 : W2.cell? ⟨P0, 0, none⟩ = some (.int .i64 s1) := by rw [Lib.cell_of_heap t0]; rfl
                      have d0 : W2.cell? ⟨P0 + 1, 0, none⟩ = some (.int .i64 s2) := by rw [Lib.cell_of_heap t1]; rfl
                      clear t0 t1 tz
                      rcases e2 with ⟨e2, e3⟩ | e2
                      all_goals
                        go_quiet (fail)
                        have HT2 := Lib.hid (below_drewN HT.out nq)
                        generalize W2.drewN nq = W3 at *
                        go_wp2_with fail
                        first
                          | (refine ⟨⟨j + 1 + 1, by omega, by go_num, HT2.out⟩, ?_⟩; simp [intOf]; omega)
                          | (go_roundw; (case rel => exact ⟨j + 1 + 1, by omega, by go_num, HT2.out⟩); (case measure => simp [intOf] <;> omega))
          · have i1 : (D.length : Int) ≤ (i : Int) := by omega
            go_wp2_with fail
            go_ret
            exact ⟨rfl, HB5.out.trans (HB6.out.mono HB5.out.size)⟩
end Go.Proofs.YtannhfnpigiggaaGreatDoor
