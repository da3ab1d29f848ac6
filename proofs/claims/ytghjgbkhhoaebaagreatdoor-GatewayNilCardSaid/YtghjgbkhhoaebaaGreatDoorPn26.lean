/- Lemmas and walks, part 26. -/
import Derived.Test.YtghjgbkhhoaebaaGreatDoorPn22
import Derived.Test.YtghjgbkhhoaebaaGreatDoorPn25
import Derived.Shelf.SlMaps.Clone
import Derived.Laws.IdiomRangeMap
import Derived.Deep.RegionHeld3
namespace Go.Proofs.YtghjgbkhhoaebaaGreatDoor
set_option linter.unusedSimpArgs false
set_option linter.unusedVariables false
open Go.RowKit

theorem nil_hear (v0 v1 v2 : Value) (w : World) : Calls Tryz.prog 20 #[.pointer none, .agg #[v0, v1, v2]] w fun e w' => e = .returned (.int .i64 1) ∧ Below w.heap.size w w' := by
  have HB0 := Lib.hid (alloc_bel w (.cells #[v0, v1, v2] 39))
  go_enter Tryz.func20, Tryz.ntmps20
  go_wp2_with fail
  go_ret
  exact ⟨rfl, HB0.out⟩
theorem nil_take (m : Int) (w : World) : Calls Tryz.prog 22 #[.pointer none, .int .i64 m] w fun e w' => e = .returned (.tuple #[.string ⟨#[]⟩, .string ⟨#[]⟩, .bool false]) ∧ w = w' := by
  go_enter Tryz.func22, Tryz.ntmps22
  go_wp2_with fail
  go_ret3
  exact ⟨rfl, rfl⟩
set_option maxRecDepth 100000 in
theorem nil_read (f : Nat → Int) (N S B : ByteArray) (d : Int) (w : World) : Calls Tryz.prog 12 #[.pointer none, postV f N S B d] w fun e w' => e = .returned (.tuple #[.slice none 0 0, .int .i64 1]) ∧ Below w.heap.size w w' := by
  have HB0 := Lib.hid (alloc_bel w (.cells (postC f N S B d) 25))
  go_enter Tryz.func12, Tryz.ntmps12
  go_wp2_with fail
  go_ret2
  exact ⟨rfl, HB0.out⟩
set_option maxRecDepth 100000 in
theorem nil_posted (f : Nat → Int) (w : World) : Calls Tryz.prog 21 #[.pointer none, idA f] w fun e w' => e = .returned (.int .i64 1) ∧ Below w.heap.size w w' := by
  go_enter Tryz.func21, Tryz.ntmps21
  go_wp2_with fail
  go_ret
  exact ⟨rfl, alloc_bel w _⟩
theorem nil_clone (w : World) : Calls Tryz.prog 26 #[.pointer none] w fun e w' => e = .returned (.pointer none) ∧ w = w' := by
  go_enter Tryz.func26, Tryz.ntmps26
  go_wp2_with fail
  go_ret
  exact ⟨rfl, rfl⟩
theorem nil_equal (w : World) : Calls Tryz.prog 27 #[.pointer none, .pointer none] w fun e w' => e = .returned (.bool true) ∧ w = w' := by
  go_enter Tryz.func27, Tryz.ntmps27
  go_wp2_with fail
  go_ret
  exact ⟨rfl, rfl⟩
theorem nil_equal1 (b : Nat) (w : World) : Calls Tryz.prog 27 #[.pointer none, .pointer (some ⟨b, 0, none⟩)] w fun e w' => e = .returned (.bool false) ∧ w = w' := by
  go_enter Tryz.func27, Tryz.ntmps27
  go_wp2_with fail
  go_ret
  exact ⟨rfl, rfl⟩
theorem nil_equal2 (b : Nat) (w : World) : Calls Tryz.prog 27 #[.pointer (some ⟨b, 0, none⟩), .pointer none] w fun e w' => e = .returned (.bool false) ∧ w = w' := by
  go_enter Tryz.func27, Tryz.ntmps27
  go_wp2_with fail
  go_ret
  exact ⟨rfl, rfl⟩
theorem map_empty {w : World} {m : Nat} (h : IdMap w m []) : ∃ ck, w.heap[m]? = some (.map #[] ck) := by
  obtain ⟨es, ck, hb, he, hf⟩ := h
  have hn : es = #[] := by
    have := congrArg List.length he
    simp at this
    first | exact this | (apply Array.eq_empty_of_size_eq_zero; simpa using this)
  exact ⟨ck, by rw [hb, hn]⟩
set_option maxRecDepth 100000 in
theorem mp_clone {w : World} {m : Nat} (h : IdMap w m []) : Calls Tryz.prog 52 #[.map (some m)] w fun e w' => ∃ ck, e = .returned (.map (some w.heap.size)) ∧ w' = w.alloc (.map #[] ck) := by
  obtain ⟨ck, hb⟩ := map_empty h
  have hq := fun w => run_eql_map_nil_sl (P := Tryz.prog) w 69 _ _ (some m) map_ids
  go_enter Tryz.func52, Tryz.ntmps52
  go_wp2_with fail
  rw [run_callFunc_extern Tryz.func93 (by kernel_rfl) (by kernel_rfl) (by kernel_rfl) (e := Extern.MapsClone.clone) (by kernel_rfl), run_maps_clone_sl w 69 hb]
  simp only [Result.andThen]
  rw [Oper.upon_value]
  go_wp2_with fail
  rw [run_typeAssert_map_sl _ 69 20 _ _ _ map_ids]
  simp only [Result.andThen]
  rw [Oper.upon_value]
  go_wp2_with fail
  go_ret
  exact ⟨ck, rfl, rfl⟩
theorem sl_equal0 (A B : Option Addr) (c d : Nat) (w : World) : Calls Tryz.prog 53 #[.slice A 0 c, .slice B 0 d] w fun e w' => e = .returned (.bool true) ∧ w = w' := by
  go_enter Tryz.func53, Tryz.ntmps53
  go_wp2_with fail
  refine wp_loop_rounds 1 ?_
  rw [rounds_succ]
  go_wp2_with fail
  go_ret
  exact ⟨rfl, rfl⟩
set_option maxRecDepth 100000 in
theorem mp_equal {w : World} {m1 m2 : Nat} (h1 : IdMap w m1 []) (h2 : IdMap w m2 []) : Calls Tryz.prog 54 #[.map (some m1), .map (some m2)] w fun e w' => e = .returned (.bool true) ∧ Below w.heap.size w w' := by
  obtain ⟨c1, hb1⟩ := map_empty h1
  obtain ⟨c2, hb2⟩ := map_empty h2
  have l1 : ∀ ty, (Builtin.len_ #[69] ty #[.map (some m1)]).run Tryz.prog w = .ok (.int .i64 0) w := fun ty => by
    simp [Builtin.len_, run_underlying map_ids, MapKept.run_getObj_map hb1]
    rfl
  have l2 : ∀ ty, (Builtin.len_ #[69] ty #[.map (some m2)]).run Tryz.prog w = .ok (.int .i64 0) w := fun ty => by
    simp [Builtin.len_, run_underlying map_ids, MapKept.run_getObj_map hb2]
    rfl
  have hrg := run_range_map (P := Tryz.prog) w 69 _ _ m1 _ c1 map_ids hb1
  have hnx : ∀ ty, (Instr.next (.pointer (some ⟨w.heap.size, 0, none⟩)) false ty).run Tryz.prog (w.alloc (.mapIter (some m1) c1 #[] c1)) = .ok (.tuple #[.bool false]) (w.alloc (.mapIter (some m1) c1 #[] c1)) := fun ty => by
    rcases run_next_map (P := Tryz.prog) w ty m1 c1 c1 #[] #[] c1 hb1 (by intro x hx; cases hx) (Nat.le_refl _) with h | ⟨e, he, _⟩
    · exact h.2
    · have := (mem_left he).1; cases this
  go_enter Tryz.func54, Tryz.ntmps54
  go_wp2_with fail
  refine wp_loop_rounds 1 ?_
  rw [rounds_succ]
  go_wp2_with fail
  go_ret
  exact ⟨rfl, alloc_bel _ _⟩
theorem gw_cells {w : World} {b : Nat} {R G N : ByteArray} {v : Value} {ls : List Ln} {last : Int} {m1 m2 : Nat} (h : GwAt w b R G N v ls last m1 m2) : w.cell? ⟨b, 0, none⟩ = some (.string R) ∧ w.cell? ⟨b, 1, none⟩ = some (.string G) ∧ w.cell? ⟨b, 2, none⟩ = some (.string N) ∧ w.cell? ⟨b, 3, none⟩ = some v ∧ w.cell? ⟨b, 4, none⟩ = some (.int .i64 last) ∧ w.cell? ⟨b, 5, none⟩ = some (.map (some m1)) ∧ w.cell? ⟨b, 6, none⟩ = some (.map (some m2)) :=
  ⟨by rw [Lib.cell_of_heap h.box]; rfl, by rw [Lib.cell_of_heap h.box]; rfl, by rw [Lib.cell_of_heap h.box]; rfl, by rw [Lib.cell_of_heap h.box]; rfl, by rw [Lib.cell_of_heap h.box]; rfl, by rw [Lib.cell_of_heap h.box]; rfl, by rw [Lib.cell_of_heap h.box]; rfl⟩
theorem sl_clone0 (A : Option Addr) (c : Nat) (w : World) : Calls Tryz.prog 43 #[.slice A 0 c] w fun e w' => ∃ v, e = .returned v ∧ w'.ownsRow w.heap.size 39 3 v 0 (lnsV []) ∧ Below w.heap.size w w' :=
  sl_cloneL A [] c w (Row.nil _ _) (by simp)
set_option maxHeartbeats 4000000 in
set_option maxRecDepth 100000 in
theorem gw_clone {n : Nat} {A : Nat → Prop} {w : World} {b : Nat} {R G N : ByteArray} (h : GwX n A w b R G N [] 0 [] []) :
    Calls Tryz.prog 26 #[.pointer (some ⟨b, 0, none⟩)] w fun e w' => ∃ c, e = .returned (.pointer (some ⟨c, 0, none⟩)) ∧ GwX w.heap.size (fun k => w.heap.size ≤ k ∧ k < w'.heap.size) w' c R G N [] 0 [] [] ∧ Below w.heap.size w w' := by
  obtain ⟨v, m1, m2, h⟩ := h
  obtain ⟨A8, c8, rfl, hr⟩ := own_row h.at_.own
  obtain ⟨k0, k1, k2, k3, k4, k5, k6⟩ := gw_cells h.at_
  have HG := Lib.hid h; have HR := Lib.hid hr
  have hbw := heap_lt h.at_.box
  clear h hr
  go_enter Tryz.func26, Tryz.ntmps26
  go_upto_region 5 with (first
    | (go_at_call 43; (with_reducible refine (sl_clone0 A8 c8 _).mono ?_); rintro e w2 ⟨v2, rfl, ho2, hb2⟩; obtain ⟨A2, c2, rfl, _⟩ := own_row ho2; have HO2 := Lib.hid ho2; have HB2 := Lib.hid hb2; have HX2 := Lib.hid ((hb2.block w.heap.size (by simp)).trans (heap_alloc_new w _)); have q3 := Lib.cell_of_heap HX2.out 3; have f3 := Lib.frozen_of_heap HX2.out 3; clear ho2 hb2))
  have hz2 := HB2.out.size
  rw [World.size_alloc] at hz2
  have HX3 := Lib.hid (heap_set (i := 3) HX2.out (.slice A2 0 c2))
  have HB3 := Lib.hid (((alloc_bel w _).trans (HB2.out.mono (by simp))).setCell (p := ⟨w.heap.size, 3, none⟩) (Nat.le_refl _) (.slice A2 0 c2))
  have HO3 := Lib.hid (own_ne (own_mono HO2.out (base' := w.heap.size + 1) (by simp)) (fun g hg _ => heap_set_ne (w := w2) (p := w.heap.size) (i := 3) (.slice A2 0 c2) hg))
  generalize hW3 : w2.setCell ⟨w.heap.size, 3, none⟩ (.slice A2 0 c2) = W3 at *
  have hz3 : w.heap.size < W3.heap.size := heap_lt HX3.out
  have HM1 := Lib.hid (map_oth HG.out.mm (HB3.out.block _ (HG.out.hi _ HG.out.in1)))
  have HM2 := Lib.hid (map_oth HG.out.mr (HB3.out.block _ (HG.out.hi _ HG.out.in2)))
  have g5 := (HB3.out.cell (p := ⟨b, 5, none⟩) hbw).trans k5
  have g6 := (HB3.out.cell (p := ⟨b, 6, none⟩) hbw).trans k6
  clear q3 f3 k0 k1 k2 k3 k4 k5 k6 hW3
  go_upto_region 6 with (first
    | (go_at_call 52; (with_reducible refine (mp_clone HM1.out).mono ?_); rintro e w4 ⟨ck, rfl, rfl⟩; have HX4 := Lib.hid ((Lib.alloc_old W3 (.map #[] ck) w.heap.size hz3).trans HX3.out); have q5 := Lib.cell_of_heap HX4.out 5; have f5 := Lib.frozen_of_heap HX4.out 5))
  have HX5 := Lib.hid ((Lib.alloc_old (W3.setCell ⟨w.heap.size, 5, none⟩ (.map (some W3.heap.size))) (.map #[] ck) w.heap.size (by simpa using hz3)).trans (heap_set (i := 5) HX3.out (.map (some W3.heap.size))))
  have HB5 := Lib.hid ((HB3.out.setCell (p := ⟨w.heap.size, 5, none⟩) (Nat.le_refl _) (.map (some W3.heap.size))).alloc (by simp; omega) (.map #[] ck))
  have HI5 := Lib.hid (show ((W3.setCell ⟨w.heap.size, 5, none⟩ (.map (some W3.heap.size))).alloc (.map #[] ck)).heap[W3.heap.size]? = some (.map #[] ck) from alloc_at _ _ _ (by simp))
  have HZ5 := Lib.hid (show ((W3.setCell ⟨w.heap.size, 5, none⟩ (.map (some W3.heap.size))).alloc (.map #[] ck)).heap.size = W3.heap.size + 1 from by simp)
  have HO5 := Lib.hid (own_ne HO3.out (fun g hg hlt => (Lib.alloc_old (W3.setCell ⟨w.heap.size, 5, none⟩ (.map (some W3.heap.size))) (.map #[] ck) g (by simpa using hlt)).trans (heap_set_ne (w := W3) (p := w.heap.size) (i := 5) (.map (some W3.heap.size)) hg)))
  generalize hW5 : (W3.setCell ⟨w.heap.size, 5, none⟩ (.map (some W3.heap.size))).alloc (.map #[] ck) = W5 at *
  clear hW5 q5 f5 HX4 g5 g6
  have hz5 : w.heap.size < W5.heap.size := by rw [HZ5.out]; omega
  have HM5 := Lib.hid (map_oth HG.out.mr (HB5.out.block _ (HG.out.hi _ HG.out.in2)))
  have g6 : W5.cell? ⟨b, 6, none⟩ = some (.map (some m2)) := by rw [Lib.cell_of_heap ((HB5.out.block _ hbw).trans HG.out.at_.box)]; rfl
  go_wp2_with (first
    | (go_at_call 52; (with_reducible refine (mp_clone HM5.out).mono ?_); rintro e w6 ⟨ck6, rfl, rfl⟩; have HX6 := Lib.hid ((Lib.alloc_old W5 (.map #[] ck6) w.heap.size hz5).trans HX5.out); have q6 := Lib.cell_of_heap HX6.out 6; have f6 := Lib.frozen_of_heap HX6.out 6))
  go_ret
  have hzz := HZ5.out
  refine ⟨w.heap.size, rfl, ⟨.slice A2 0 c2, W3.heap.size, W5.heap.size, ⟨?_, ?_⟩, ⟨#[], ck, ?_, rfl, by intro p h; cases h⟩, ⟨#[], ck6, ?_, rfl, by intro p h; cases h⟩, by omega, ⟨Nat.le_refl _, ?_⟩, ⟨by omega, ?_⟩, ⟨by omega, ?_⟩, ?_, fun k h => h.1, fun k h => h.2⟩, ?_⟩
  · exact (Lib.alloc_old (W5.setCell ⟨w.heap.size, 6, none⟩ (.map (some W5.heap.size))) (.map #[] ck6) w.heap.size (by simpa using hz5)).trans (heap_set (i := 6) HX5.out (.map (some W5.heap.size)))
  · exact own_ne HO5.out (fun g hg hlt => (Lib.alloc_old (W5.setCell ⟨w.heap.size, 6, none⟩ (.map (some W5.heap.size))) (.map #[] ck6) g (by simpa using hlt)).trans (heap_set_ne (w := W5) (p := w.heap.size) (i := 6) (.map (some W5.heap.size)) hg))
  · exact (Lib.alloc_old (W5.setCell ⟨w.heap.size, 6, none⟩ (.map (some W5.heap.size))) (.map #[] ck6) W3.heap.size (by simp; omega)).trans ((heap_set_ne _ (by omega)).trans HI5.out)
  · exact alloc_at _ _ _ (by simp)
  · simp; omega
  · simp; omega
  · simp
  · intro k hk
    have := HO5.out.lt k hk
    refine ⟨by omega, ?_⟩
    simp; omega
  · exact (HB5.out.setCell (p := ⟨w.heap.size, 6, none⟩) (Nat.le_refl _) _).alloc (by simp; omega) _
/-- The cells of two gateways, in a world to come. -/
abbrev EqP (W : World) (b b' : Nat) (R G N R' G' N' : ByteArray) (v v' : Value) (m1 m2 m1' m2' : Nat) (wx : World) : Prop :=
  wx.cell? ⟨b, 0, none⟩ = some (.string R) ∧ wx.cell? ⟨b, 1, none⟩ = some (.string G) ∧ wx.cell? ⟨b, 2, none⟩ = some (.string N) ∧ wx.cell? ⟨b, 3, none⟩ = some v ∧ wx.cell? ⟨b, 4, none⟩ = some (.int .i64 0) ∧ wx.cell? ⟨b, 5, none⟩ = some (.map (some m1)) ∧ wx.cell? ⟨b, 6, none⟩ = some (.map (some m2)) ∧
  wx.cell? ⟨b', 0, none⟩ = some (.string R') ∧ wx.cell? ⟨b', 1, none⟩ = some (.string G') ∧ wx.cell? ⟨b', 2, none⟩ = some (.string N') ∧ wx.cell? ⟨b', 3, none⟩ = some v' ∧ wx.cell? ⟨b', 4, none⟩ = some (.int .i64 0) ∧ wx.cell? ⟨b', 5, none⟩ = some (.map (some m1')) ∧ wx.cell? ⟨b', 6, none⟩ = some (.map (some m2')) ∧ Below W.heap.size W wx
theorem eqp_of {w wx : World} {b b' : Nat} {R G N R' G' N' : ByteArray} {v v' : Value} {m1 m2 m1' m2' : Nat} (h : GwAt w b R G N v [] 0 m1 m2) (h' : GwAt w b' R' G' N' v' [] 0 m1' m2') (hb : Below w.heap.size w wx) : EqP w b b' R G N R' G' N' v v' m1 m2 m1' m2' wx := by
  obtain ⟨k0, k1, k2, k3, k4, k5, k6⟩ := gw_cells (h.below hb)
  obtain ⟨j0, j1, j2, j3, j4, j5, j6⟩ := gw_cells (h'.below hb)
  exact ⟨k0, k1, k2, k3, k4, k5, k6, j0, j1, j2, j3, j4, j5, j6, hb⟩
theorem eqp_later {w wx wy : World} {b b' : Nat} {R G N R' G' N' : ByteArray} {v v' : Value} {m1 m2 m1' m2' : Nat} (H : ∀ wx, Below w.heap.size w wx → EqP w b b' R G N R' G' N' v v' m1 m2 m1' m2' wx) (h : EqP w b b' R G N R' G' N' v v' m1 m2 m1' m2' wx) (hb : Below wx.heap.size wx wy) : EqP w b b' R G N R' G' N' v v' m1 m2 m1' m2' wy :=
  H wy (h.2.2.2.2.2.2.2.2.2.2.2.2.2.2.trans (hb.mono h.2.2.2.2.2.2.2.2.2.2.2.2.2.2.size))
set_option maxHeartbeats 8000000 in
set_option maxRecDepth 100000 in
theorem gw_equalT {n n' : Nat} {A A' : Nat → Prop} {w : World} {b b' : Nat} {R G N : ByteArray} (h : GwX n A w b R G N [] 0 [] []) (h' : GwX n' A' w b' R G N [] 0 [] [])  :
    Calls Tryz.prog 27 #[.pointer (some ⟨b, 0, none⟩), .pointer (some ⟨b', 0, none⟩)] w fun e w' => e = .returned (.bool true) ∧ Below w.heap.size w w' := by
  obtain ⟨v, m1, m2, h⟩ := h
  obtain ⟨v', m1', m2', h'⟩ := h'
  obtain ⟨A8, c8, rfl, hr⟩ := own_row h.at_.own
  obtain ⟨A9, c9, rfl, hr'⟩ := own_row h'.at_.own
  have HG := Lib.hid h; have HG' := Lib.hid h'
  have HE := Lib.hid (fun wx (hb : Below w.heap.size w wx) => show EqP w b b' R G N R G N (.slice A8 0 c8) (.slice A9 0 c9) m1 m2 m1' m2' wx from eqp_of HG.out.at_ HG'.out.at_ hb)
  have e0 : (R.toList == R.toList) = true := by simp
  have e1 : (G.toList == G.toList) = true := by simp
  have e2 : (N.toList == N.toList) = true := by simp
  have H2 := Lib.hid (fun wx (hx : EqP w b b' R G N R G N (.slice A8 0 c8) (.slice A9 0 c9) m1 m2 m1' m2' wx) => mp_equal (map_oth HG.out.mm (hx.2.2.2.2.2.2.2.2.2.2.2.2.2.2.block _ (HG.out.hi _ HG.out.in1))) (map_oth HG'.out.mm (hx.2.2.2.2.2.2.2.2.2.2.2.2.2.2.block _ (HG'.out.hi _ HG'.out.in1))))
  have H3 := Lib.hid (fun wx (hx : EqP w b b' R G N R G N (.slice A8 0 c8) (.slice A9 0 c9) m1 m2 m1' m2' wx) => mp_equal (map_oth HG.out.mr (hx.2.2.2.2.2.2.2.2.2.2.2.2.2.2.block _ (HG.out.hi _ HG.out.in2))) (map_oth HG'.out.mr (hx.2.2.2.2.2.2.2.2.2.2.2.2.2.2.block _ (HG'.out.hi _ HG'.out.in2))))
  clear h h' hr hr'
  go_enter Tryz.func27, Tryz.ntmps27
  go_wp2_with fail
  dsimp only [List.append]
  go_region_held3 (fun w' => w'.cell? ⟨b, 0, none⟩ = some (.string R) ∧ w'.cell? ⟨b, 1, none⟩ = some (.string G) ∧ w'.cell? ⟨b, 2, none⟩ = some (.string N) ∧ w'.cell? ⟨b, 3, none⟩ = some (.slice A8 0 c8) ∧ w'.cell? ⟨b, 4, none⟩ = some (.int .i64 0) ∧ w'.cell? ⟨b, 5, none⟩ = some (.map (some m1)) ∧ w'.cell? ⟨b, 6, none⟩ = some (.map (some m2)) ∧ w'.cell? ⟨b', 0, none⟩ = some (.string R) ∧ w'.cell? ⟨b', 1, none⟩ = some (.string G) ∧ w'.cell? ⟨b', 2, none⟩ = some (.string N) ∧ w'.cell? ⟨b', 3, none⟩ = some (.slice A9 0 c9) ∧ w'.cell? ⟨b', 4, none⟩ = some (.int .i64 0) ∧ w'.cell? ⟨b', 5, none⟩ = some (.map (some m1')) ∧ w'.cell? ⟨b', 6, none⟩ = some (.map (some m2')) ∧ Below w.heap.size w w')
    (first
      | exact HE.out _ (Below.refl _ _).drew
      | exact eqp_later HE.out (by assumption) hb2)
    (first
      | (go_at_call 53; (with_reducible refine (sl_equal0 A8 A9 c8 c9 _).mono ?_); rintro e w1 ⟨rfl, rfl⟩)
      | (go_at_call 54; (with_reducible refine (H2.out _ ?hh).mono ?_); (case hh => assumption); rintro e w2 ⟨rfl, hb2⟩)
      | (go_at_call 54; (with_reducible refine (H3.out _ ?hh).mono ?_); (case hh => assumption); rintro e w2 ⟨rfl, hb2⟩))
  all_goals
    have HSF := Lib.hid (show EqP w b b' R G N R G N (.slice A8 0 c8) (.slice A9 0 c9) m1 m2 m1' m2' _ by assumption)
    go_wp2_with fail
    go_ret
    exact ⟨rfl, HSF.out.2.2.2.2.2.2.2.2.2.2.2.2.2.2⟩
set_option maxHeartbeats 8000000 in
set_option maxRecDepth 100000 in
theorem gw_equalR {n n' : Nat} {A A' : Nat → Prop} {w : World} {b b' : Nat} {R G N : ByteArray} {R' G' N' : ByteArray} (h : GwX n A w b R G N [] 0 [] []) (h' : GwX n' A' w b' R' G' N' [] 0 [] []) (e0 : (R.toList == R'.toList) = false) :
    Calls Tryz.prog 27 #[.pointer (some ⟨b, 0, none⟩), .pointer (some ⟨b', 0, none⟩)] w fun e w' => e = .returned (.bool false) ∧ Below w.heap.size w w' := by
  obtain ⟨v, m1, m2, h⟩ := h
  obtain ⟨v', m1', m2', h'⟩ := h'
  obtain ⟨A8, c8, rfl, hr⟩ := own_row h.at_.own
  obtain ⟨A9, c9, rfl, hr'⟩ := own_row h'.at_.own
  have HG := Lib.hid h; have HG' := Lib.hid h'
  have HE := Lib.hid (fun wx (hb : Below w.heap.size w wx) => show EqP w b b' R G N R' G' N' (.slice A8 0 c8) (.slice A9 0 c9) m1 m2 m1' m2' wx from eqp_of HG.out.at_ HG'.out.at_ hb)
  have e1 : (G.toList == G.toList) = true := by simp
  have e2 : (N.toList == N.toList) = true := by simp
  clear h h' hr hr'
  go_enter Tryz.func27, Tryz.ntmps27
  go_wp2_with fail
  obtain ⟨k0, k1, k2, k3, k4, k5, k6⟩ := gw_cells HG.out.at_
  obtain ⟨j0, j1, j2, j3, j4, j5, j6⟩ := gw_cells HG'.out.at_
  dsimp only [List.append]
  go_quiet (fail)
  go_wp2_with fail
  go_ret
  exact ⟨rfl, below_drewN (Below.refl _ _) _⟩
set_option maxHeartbeats 8000000 in
set_option maxRecDepth 100000 in
theorem gw_equalG {n n' : Nat} {A A' : Nat → Prop} {w : World} {b b' : Nat} {R G N : ByteArray} {G' N' : ByteArray} (h : GwX n A w b R G N [] 0 [] []) (h' : GwX n' A' w b' R G' N' [] 0 [] []) (e1 : (G.toList == G'.toList) = false) :
    Calls Tryz.prog 27 #[.pointer (some ⟨b, 0, none⟩), .pointer (some ⟨b', 0, none⟩)] w fun e w' => e = .returned (.bool false) ∧ Below w.heap.size w w' := by
  obtain ⟨v, m1, m2, h⟩ := h
  obtain ⟨v', m1', m2', h'⟩ := h'
  obtain ⟨A8, c8, rfl, hr⟩ := own_row h.at_.own
  obtain ⟨A9, c9, rfl, hr'⟩ := own_row h'.at_.own
  have HG := Lib.hid h; have HG' := Lib.hid h'
  have HE := Lib.hid (fun wx (hb : Below w.heap.size w wx) => show EqP w b b' R G N R G' N' (.slice A8 0 c8) (.slice A9 0 c9) m1 m2 m1' m2' wx from eqp_of HG.out.at_ HG'.out.at_ hb)
  have e0 : (R.toList == R.toList) = true := by simp
  have e2 : (N.toList == N.toList) = true := by simp
  clear h h' hr hr'
  go_enter Tryz.func27, Tryz.ntmps27
  go_wp2_with fail
  obtain ⟨k0, k1, k2, k3, k4, k5, k6⟩ := gw_cells HG.out.at_
  obtain ⟨j0, j1, j2, j3, j4, j5, j6⟩ := gw_cells HG'.out.at_
  dsimp only [List.append]
  go_quiet (fail)
  go_wp2_with fail
  go_ret
  exact ⟨rfl, below_drewN (Below.refl _ _) _⟩
set_option maxHeartbeats 8000000 in
set_option maxRecDepth 100000 in
theorem gw_equalN {n n' : Nat} {A A' : Nat → Prop} {w : World} {b b' : Nat} {R G N : ByteArray} {N' : ByteArray} (h : GwX n A w b R G N [] 0 [] []) (h' : GwX n' A' w b' R G N' [] 0 [] []) (e2 : (N.toList == N'.toList) = false) :
    Calls Tryz.prog 27 #[.pointer (some ⟨b, 0, none⟩), .pointer (some ⟨b', 0, none⟩)] w fun e w' => e = .returned (.bool false) ∧ Below w.heap.size w w' := by
  obtain ⟨v, m1, m2, h⟩ := h
  obtain ⟨v', m1', m2', h'⟩ := h'
  obtain ⟨A8, c8, rfl, hr⟩ := own_row h.at_.own
  obtain ⟨A9, c9, rfl, hr'⟩ := own_row h'.at_.own
  have HG := Lib.hid h; have HG' := Lib.hid h'
  have HE := Lib.hid (fun wx (hb : Below w.heap.size w wx) => show EqP w b b' R G N R G N' (.slice A8 0 c8) (.slice A9 0 c9) m1 m2 m1' m2' wx from eqp_of HG.out.at_ HG'.out.at_ hb)
  have e0 : (R.toList == R.toList) = true := by simp
  have e1 : (G.toList == G.toList) = true := by simp
  clear h h' hr hr'
  go_enter Tryz.func27, Tryz.ntmps27
  go_wp2_with fail
  obtain ⟨k0, k1, k2, k3, k4, k5, k6⟩ := gw_cells HG.out.at_
  obtain ⟨j0, j1, j2, j3, j4, j5, j6⟩ := gw_cells HG'.out.at_
  dsimp only [List.append]
  go_quiet (fail)
  go_wp2_with fail
  go_ret
  exact ⟨rfl, below_drewN (Below.refl _ _) _⟩
end Go.Proofs.YtghjgbkhhoaebaaGreatDoor
