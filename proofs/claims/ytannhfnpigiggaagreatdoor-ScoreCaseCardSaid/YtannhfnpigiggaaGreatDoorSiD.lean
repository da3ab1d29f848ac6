/- ScoreCase where the text holds rules. -/
import Derived.Test.YtannhfnpigiggaaGreatDoorSiC
import Derived.Test.YtannhfnpigiggaaGreatDoorShZ
import Derived.Test.YtannhfnpigiggaaGreatDoorSdC
namespace Go.Proofs.YtannhfnpigiggaaGreatDoor
set_option linter.unusedSimpArgs false
set_option linter.unusedVariables false
open Go.RowKit
attribute [local go_sem ↓] wp_load_in

theorem ex_load_in3 {d : Option Tmp} {ty : TypeId} {pos : String} {af : Array Edge} {x : Operand} {ρ : Operand → Value} {w : World} {g : Option (Nat × Bool)} (h : OkIn w (ρ x)) :
    (execOp ρ { dst := d, op := .load 26 x, type := ty, pos := pos, after := af, guard := g }).run Tryz.prog w = .ok (.value (inOf w (ρ x))) w := by
  obtain ⟨u, hu⟩ := h
  rw [(in_of hu).2]
  unfold execOp
  simp only [hu, Sem.run_bind, Sem.run_pure, Result.andThen_ok]
attribute [local go_sem ↓] ex_load_in3
theorem res_flds : (Tryz.prog.fieldsOf 39).toList.map (fun f => (f.name == "_", f.type, f.offset)) = [(false, 3, 0), (false, 4, 1), (false, 4, 2), (false, 3, 3)] := by kernel_rfl
theorem res_four : ∃ f g h i : Field, (Tryz.prog.fieldsOf 39).toList = [f, g, h, i] ∧ ((f.name == "_") = false ∧ f.type = 3 ∧ f.offset = 0) ∧ ((g.name == "_") = false ∧ g.type = 4 ∧ g.offset = 1) ∧ ((h.name == "_") = false ∧ h.type = 4 ∧ h.offset = 2) ∧ ((i.name == "_") = false ∧ i.type = 3 ∧ i.offset = 3) := by
  have h := res_flds
  generalize (Tryz.prog.fieldsOf 39).toList = l at h
  rcases l with _ | ⟨f, _ | ⟨g, _ | ⟨x, _ | ⟨y, _ | ⟨z, l⟩⟩⟩⟩⟩
  · simp at h
  · simp at h
  · simp at h
  · simp at h
  · simp only [List.map_cons, List.map_nil, List.cons.injEq, Prod.mk.injEq, and_true] at h
    exact ⟨f, g, x, y, rfl, h.1, h.2.1, h.2.2.1, h.2.2.2⟩
  · simp at h
theorem res_eq (s a : Int) (k v : Bool) (w : World) : (Op.equalIn 10000 39 (.agg #[.int .i64 s, .bool k, .bool v, .int .i64 a]) (.agg #[.int .i64 s, .bool k, .bool v, .int .i64 a])).run Tryz.prog w = .ok true w := by
  obtain ⟨f, g, h, i, e, ⟨f1, f2, f3⟩, ⟨g1, g2, g3⟩, ⟨h1, h2, h3⟩, ⟨i1, i2, i3⟩⟩ := res_four
  have pI : ∀ (cs : Array Value) (j : Nat) (v : Value), cs[j]? = some v → (part 3 cs j).run Tryz.prog w = .ok v w := fun cs j v hv => by
    have hp : (isAgg 3).run Tryz.prog w = .ok false w := by kernel_rfl
    simp [part, hp, hv]
  have pB : ∀ (cs : Array Value) (j : Nat) (v : Value), cs[j]? = some v → (part 4 cs j).run Tryz.prog w = .ok v w := fun cs j v hv => by
    have hp : (isAgg 4).run Tryz.prog w = .ok false w := by kernel_rfl
    simp [part, hp, hv]
  have qI : ∀ x y : Int, (Op.equalIn 9999 3 (.int .i64 x) (.int .i64 y)).run Tryz.prog w = .ok (x == y) w := fun x y => run_equalIn_int w 9998 3 .i64 .i64 x y Tryz.underlying3
  have qB : ∀ x y : Bool, (Op.equalIn 9999 4 (.bool x) (.bool y)).run Tryz.prog w = .ok (x == y) w := fun x y => run_equalIn_bool w 9998 4 x y Tryz.underlying4
  rw [run_equalIn_struct w 9999 39 _ _ (by kernel_rfl) (by kernel_rfl), e]
  have a0 := pI #[.int .i64 s, .bool k, .bool v, .int .i64 a] 0 _ rfl
  have a1 := pB #[.int .i64 s, .bool k, .bool v, .int .i64 a] 1 _ rfl
  have a2 := pB #[.int .i64 s, .bool k, .bool v, .int .i64 a] 2 _ rfl
  have a3 := pI #[.int .i64 s, .bool k, .bool v, .int .i64 a] 3 _ rfl
  simp only [Op.eqFields, f2, f3, g2, g3, h2, h3, i2, i3]
  simp at f1 g1 h1 i1
  simp [a0, a1, a2, a3, qI, qB, f1, g1, h1, i1]
abbrev K4 (W : World) (pa pb : Nat) (LA LB : List Value) (wx : World) : Prop := wx.rangeAt pa 0 LA ∧ wx.rangeAt pb 0 LB ∧ Below W.heap.size W wx
theorem K4.later {W wx wy : World} {pa pb : Nat} {LA LB : List Value} (ha : pa < W.heap.size) (hb : pb < W.heap.size) (h : K4 W pa pb LA LB wx) (hx : Below wx.heap.size wx wy) : K4 W pa pb LA LB wy :=
  ⟨fun j v hv => by rw [World.cell?_of_block (hx.block pa (Nat.lt_of_lt_of_le ha h.2.2.size))]; exact h.1 j v hv, fun j v hv => by rw [World.cell?_of_block (hx.block pb (Nat.lt_of_lt_of_le hb h.2.2.size))]; exact h.2.1 j v hv, h.2.2.trans (hx.mono h.2.2.size)⟩
abbrev K3 (W : World) (pa : Nat) (N S B : ByteArray) (wx : World) : Prop := wx.cell? ⟨pa, 0, none⟩ = some (.string N) ∧ wx.cell? ⟨pa, 1, none⟩ = some (.string S) ∧ wx.cell? ⟨pa, 2, none⟩ = some (.string B) ∧ Below W.heap.size W wx
theorem K3.later {W wx wy : World} {pa : Nat} {N S B : ByteArray} (hz : pa < W.heap.size) (h : K3 W pa N S B wx) (hb : Below wx.heap.size wx wy) : K3 W pa N S B wy := by
  have e : ∀ i, wy.cell? ⟨pa, i, none⟩ = wx.cell? ⟨pa, i, none⟩ := fun i => World.cell?_of_block (hb.block pa (Nat.lt_of_lt_of_le hz h.2.2.2.size))
  exact ⟨(e 0).trans h.1, (e 1).trans h.2.1, (e 2).trans h.2.2.1, h.2.2.2.trans (hb.mono h.2.2.2.size)⟩
theorem K3.store {W wx : World} {pa : Nat} {N S B : ByteArray} (hz : pa < W.heap.size) (h : K3 W pa N S B wx) (i : Nat) (v : Value) : K3 W pa N S B (wx.setCell ⟨W.heap.size, i, none⟩ v) := by
  have e : ∀ j, (wx.setCell ⟨W.heap.size, i, none⟩ v).cell? ⟨pa, j, none⟩ = wx.cell? ⟨pa, j, none⟩ := fun j => World.cell?_of_block (heap_set_ne v (Nat.ne_of_lt hz))
  exact ⟨(e 0).trans h.1, (e 1).trans h.2.1, (e 2).trans h.2.2.1, h.2.2.2.setCell (p := ⟨W.heap.size, i, none⟩) (Nat.le_refl _) v⟩
set_option maxHeartbeats 16000000 in
set_option maxRecDepth 100000 in
theorem case_bad {c0 C : ByteArray} {IC : Array Value} {x : Int} {w : World} (hsz : IC.size = 25) (hsc : ∀ wx, Calls Tryz.prog 12 #[.string c0, .int .i64 2000] wx fun e w' => e = .returned (.string C) ∧ wx = w') (hsh : w.ShapedOpen Tryz.prog) (ht : TabN w) {i j : Nat} {er : Int} (hne : er ≠ 0) (hp : parseG (toL C) = .error (i, j, er)) :
    Calls Tryz.prog 3 #[.string c0, .agg IC, .int .u8 x] w fun e w' => e = .returned (.bool true) ∧ Below w.heap.size w w' := by
  have HSC := Lib.hid hsc
  have HB0 := Lib.hid (alloc_bel w (.cells IC 26))
  have HX0 := Lib.hid (show (w.alloc (.cells IC 26)).heap[w.heap.size]? = some (.cells IC 26 (0, 0)) from in_new w IC)
  have HKN := Lib.hid (fun wx (hx : Below w.heap.size w wx) => law_known wx (shaped_below hsh hx) (ht.below hx))
  have HSZ := Lib.hid hsz
  have H1 := Lib.hid (fun wx (hx : Below w.heap.size w wx) => pa_err (shaped_below hsh hx) hp)
  have hne' : (er != 0) = true := bne_iff_ne.2 hne
  clear hp hne
  clear hsh ht hsc hsz
  go_enter Tryz.func3, Tryz.ntmps3
  go_upto_region 1 with fail
  generalize w.alloc (.cells IC 26) = W0 at *
  go_wp2_with (first
    | (go_at_call 12; (with_reducible refine (HSC.out _).mono ?_); rintro e w' ⟨rfl, rfl⟩)
    | (go_at_call 11; (with_reducible refine (H1.out _ HB0.out).mono ?_); rintro e w1 ⟨rfl, hb1⟩; have HB := Lib.hid (HB0.out.trans (hb1.mono HB0.out.size)); clear hb1)
    | (go_at_call 13; (with_reducible refine (HKN.out _ HB.out).mono ?_); rintro e w5 ⟨rfl, hb5⟩; have HB := Lib.hid (HB.out.trans (hb5.mono HB.out.size)); clear hb5))
  go_ret
  exact ⟨rfl, HB.out⟩
set_option maxHeartbeats 16000000 in
set_option maxRecDepth 100000 in
theorem case_good {c0 C : ByteArray} {N S B : ByteArray} {f : Nat → Int} {A : Option Addr} {l : List Bs} {gc : Nat} {a b c d e : Int} {x : Int} (hx0 : 0 ≤ x) (hx1 : x ≤ 255) {w : World} (hin : InOk N S B f A l w) (hsc : ∀ wx, Calls Tryz.prog 12 #[.string c0, .int .i64 2000] wx fun e w' => e = .returned (.string C) ∧ wx = w') (hsh : w.ShapedOpen Tryz.prog) (ht : TabN w)
    {la : List RuleS} (hp : parseG (toL C) = .ok la) :
    Calls Tryz.prog 3 #[.string c0, .agg (inX N S B f (.slice A l.length gc) a b c d e), .int .u8 x] w fun e w' => e = .returned (.bool true) ∧ Below w.heap.size w w' := by
  have HSC := Lib.hid hsc
  obtain ⟨gs, hgd⟩ : ∃ gs : List Bs, (l.take 8).map (·.take 80) = gs := ⟨_, rfl⟩
  obtain ⟨IC, hIC⟩ : ∃ IC, inX N S B f (.slice A l.length gc) a b c d e = IC := ⟨_, rfl⟩
  have hsz : IC.size = 25 := by rw [← hIC]; rfl
  obtain ⟨RF, hRF⟩ : ∃ RF : ByteArray → ByteArray → ByteArray → Option Addr → Nat → List Value, (fun N' S' B' A2 c2 => (inX N' S' B' f (.slice A2 gs.length c2) a b c d e).toList) = RF := ⟨_, rfl⟩
  have hRF2 : ∀ N' S' B' A2 c2, inX N' S' B' f (.slice A2 gs.length c2) a b c d e = (RF N' S' B' A2 c2).toArray := fun N' S' B' A2 c2 => by rw [← hRF]
  have hx : ∀ (t : ByteArray), (t.extract 0 (min t.size 300)).size ≤ 1000 := fun t => by
    have := congrArg List.length (short_toL t 300)
    rw [toL_length, List.length_take] at this; omega
  have hN := hx N; have hS := hx S; have hB := hx B
  have HTO0 := fun wx (hx : Below w.heap.size w wx) => law_to_start N S B f A l gc a b c d e wx hin.nz hin.sz hin.bz hin.lz (hin.rz.below hx) hin.ez
  generalize N.extract 0 (min N.size 300) = N1 at *
  generalize S.extract 0 (min S.size 300) = S1 at *
  generalize B.extract 0 (min B.size 300) = B1 at *
  have HTO := Lib.hid (fun wx (hx : Below w.heap.size w wx) => show Calls Tryz.prog 15 #[.agg IC] wx (fun e' w' => ∃ A2 c2, e' = .returned (.agg (RF N1 S1 B1 A2 c2).toArray) ∧ Row w' A2 (strsL gs) ∧ Below wx.heap.size wx w') from by
    have h := HTO0 wx hx
    rw [hIC, hgd] at h
    refine h.mono fun e' w' ⟨A2, c2, h1, h2, h3⟩ => ⟨A2, c2, ?_, h2, h3⟩
    rw [h1, hRF2])
  clear HTO0 hx
  have HBK := Lib.hid (fun A2 c2 wx => show Calls Tryz.prog 14 #[.agg (RF N1 S1 B1 A2 c2).toArray] wx (fun e' w' => e' = .returned (.agg (RF N1 S1 B1 A2 c2).toArray) ∧ Below wx.heap.size wx w') from by
    rw [← hRF2]; exact law_back _ _ _ f A2 _ c2 a b c d e wx)
  have hst : ∀ N' S' B' A2 c2 (wx : World), (storeCells ⟨wx.heap.size, 0, none⟩ (RF N' S' B' A2 c2) 0).run Tryz.prog (wx.alloc (.cells inZ 26)) = .ok () (wx.alloc (.cells (RF N' S' B' A2 c2).toArray 26)) := fun N' S' B' A2 c2 wx => by
    have h := run_storeCells_new (P := Tryz.prog) wx 26 inZ (RF N' S' B' A2 c2).toArray (by rw [← hRF2]; kernel_rfl) (by rw [← hRF2]; rfl) (by rw [← hRF2]; simp [Value.oneCell'])
    simpa using h
  have hrs : ∀ N' S' B' A2 c2, (RF N' S' B' A2 c2).length = 25 := fun N' S' B' A2 c2 => by rw [← hRF]; rfl
  have hgl : gs.length ≤ 1000 := by rw [← hgd]; simp; omega
  have hgs : ∀ g ∈ gs, g.length ≤ 1000 := fun g hg => by
    rw [← hgd] at hg
    simp only [List.mem_map] at hg
    obtain ⟨g', _, rfl⟩ := hg
    rw [List.length_take]; omega
  have hIV : ∀ N' S' B' A2 c2, N'.size ≤ 1000000 → S'.size ≤ 1000000 → B'.size ≤ 1000000 → InV (inS N' S' B' f gs a b c d e) (RF N' S' B' A2 c2).toArray A2 c2 := fun N' S' B' A2 c2 h1 h2 h3 => by
    rw [← hRF2]
    exact inV_of h1 h2 h3 hin.fz hgl hgs A2 c2
  have HU1 := Lib.hid (fun wx => law_upper N1 x hx0 hx1 wx (by unfold maxLen; omega))
  have HU2 := Lib.hid (fun wx => law_upper S1 x hx0 hx1 wx (by unfold maxLen; omega))
  have HU3 := Lib.hid (fun wx => law_upper B1 x hx0 hx1 wx (by unfold maxLen; omega))
  have HB0 := Lib.hid (alloc_bel w (.cells IC 26))
  have HX0 := Lib.hid (show (w.alloc (.cells IC 26)).heap[w.heap.size]? = some (.cells IC 26 (0, 0)) from in_new w IC)
  have HKN := Lib.hid (fun wx (hx : Below w.heap.size w wx) => law_known wx (shaped_below hsh hx) (ht.below hx))
  have HSZ := Lib.hid hsz
  have H1 := Lib.hid (fun wx (hx : Below w.heap.size w wx) => pa_ok (shaped_below hsh hx) hp)
  have hfew := parse_few hp
  have HRT := Lib.hid (fun (rp : Nat) (N' S' B' : ByteArray) (A2 : Option Addr) (c2 : Nat) (wx : World) (h1 : N'.size ≤ 1000000) (h2 : S'.size ≤ 1000000) (h3 : B'.size ≤ 1000000) (hx : Below w.heap.size w wx) (hr : RulesIn wx rp la) (hg : Row wx A2 (strsL gs)) => show Calls Tryz.prog 17 #[.pointer (some ⟨rp, 0, none⟩), .agg (RF N' S' B' A2 c2).toArray] wx (RaP (rateF la (inS N' S' B' f gs a b c d e)) wx) from
    sc_rate (hIV N' S' B' A2 c2 h1 h2 h3) (shaped_below hsh hx) hg hr hfew)
  have HRS := Lib.hid hrs
  have HST := Lib.hid hst
  have HRF2 := Lib.hid hRF2
  rw [hIC]
  clear hsh ht hsc hsz hp hin hIC hRF hRF2 hIV hrs hst hfew hgl hgs hgd
  go_enter Tryz.func3, Tryz.ntmps3
  go_upto_region 1 with fail
  generalize w.alloc (.cells IC 26) = W0 at *
  go_upto_region 4 with (first
    | (go_at_call 12; (with_reducible refine (HSC.out _).mono ?_); rintro e' w' ⟨rfl, rfl⟩)
    | (go_at_call 11; (with_reducible refine (H1.out _ HB0.out).mono ?_); rintro e' w1 ⟨ra, rfl, hr1, hb1⟩; have HRA := Lib.hid hr1; have HX := Lib.hid ((hb1.block _ (heap_lt HX0.out)).trans HX0.out); have HB := Lib.hid (HB0.out.trans (hb1.mono HB0.out.size)); clear hb1 hr1)
    | (go_at_call 13; (with_reducible refine (HKN.out _ HB.out).mono ?_); rintro e' w5 ⟨rfl, hb5⟩; have HB := Lib.hid (HB.out.trans (hb5.mono HB.out.size)); have HRA := Lib.hid (HRA.out.below hb5); have HX := Lib.hid ((hb5.block _ (heap_lt HX.out)).trans HX.out); clear hb5))
  have oe := in_of (in_load HX.out HSZ.out)
  have oo := oe.1
  have ee := oe.2
  clear oe
  go_upto_region 5 with (first
    | (go_at_call 15; (with_reducible refine (HTO.out _ HB.out).mono ?_); rintro e' w7 ⟨A2, c2, rfl, hg7, hb7⟩; have HG := Lib.hid hg7; have HB := Lib.hid (HB.out.trans (hb7.mono HB.out.size)); have HRA := Lib.hid (HRA.out.below hb7); clear hb7 hg7)
    | (go_at_call 14; (with_reducible refine (HBK.out _ _ _).mono ?_); rintro e' w8 ⟨rfl, hb8⟩; have HG := Lib.hid (HG.out.below hb8); have HB := Lib.hid (HB.out.trans (hb8.mono HB.out.size)); have HRA := Lib.hid (HRA.out.below hb8); have hst := HST.out N1 S1 B1 A2 c2 w8; have hrs := HRS.out N1 S1 B1 A2 c2; clear hb8))
  have HB9 := Lib.hid (alloc_bel w8 (.cells (RF N1 S1 B1 A2 c2).toArray 26))
  have HX9 := Lib.hid (heap_alloc_new w8 (.cells (RF N1 S1 B1 A2 c2).toArray 26))
  have HBW := Lib.hid (HB.out.trans (HB9.out.mono HB.out.size))
  have HRA9 := Lib.hid (HRA.out.below HB9.out)
  have HG9 := Lib.hid (HG.out.below HB9.out)
  clear hst oo ee HG HRA HB9 HX HTO HBK HB HX0 HB0 HKN H1
  generalize w8.alloc (.cells (RF N1 S1 B1 A2 c2).toArray 26) = W9 at *
  generalize w8.heap.size = pa at *
  have oe := in_of (in_load HX9.out (by rw [List.size_toArray]; exact hrs))
  have oo := oe.1
  have ee := oe.2
  clear oe
  have hst := HST.out N1 S1 B1 A2 c2 W9
  go_upto_region 6 with fail
  have hz := heap_lt HX9.out
  have h0 : (RF N1 S1 B1 A2 c2).toArray[0]? = some (.string N1) := by rw [← HRF2.out]; rfl
  have h1 : (RF N1 S1 B1 A2 c2).toArray[1]? = some (.string S1) := by rw [← HRF2.out]; rfl
  have h2 : (RF N1 S1 B1 A2 c2).toArray[2]? = some (.string B1) := by rw [← HRF2.out]; rfl
  have HE := Lib.hid (show ∀ X Y Z : ByteArray, (((RF N1 S1 B1 A2 c2).toArray.setIfInBounds 0 (.string X)).setIfInBounds 1 (.string Y)).setIfInBounds 2 (.string Z) = (RF X Y Z A2 c2).toArray from fun X Y Z => by rw [← HRF2.out, ← HRF2.out]; rfl)
  have HXA := Lib.hid (((alloc_bel W9 (.cells (RF N1 S1 B1 A2 c2).toArray 26)).block pa hz).trans HX9.out)
  have HXB := Lib.hid (heap_alloc_new W9 (.cells (RF N1 S1 B1 A2 c2).toArray 26))
  have HBT := Lib.hid (alloc_bel W9 (.cells (RF N1 S1 B1 A2 c2).toArray 26))
  clear hst oo ee hrs HX9 HX
  generalize W9.alloc (.cells (RF N1 S1 B1 A2 c2).toArray 26) = W10 at *
  have HK := Lib.hid (show K3 W9 pa N1 S1 B1 W10.drew from ⟨by rw [Lib.cell_of_heap (w := W10.drew) HXA.out]; exact h0, by rw [Lib.cell_of_heap (w := W10.drew) HXA.out]; exact h1, by rw [Lib.cell_of_heap (w := W10.drew) HXA.out]; exact h2, HBT.out.drew⟩)
  have HXB := Lib.hid (show W10.drew.heap[W9.heap.size]? = some (.cells (RF N1 S1 B1 A2 c2).toArray 26 (0, 0)) from HXB.out)
  have H0 := Lib.hid h0
  have H1' := Lib.hid h1
  have H2' := Lib.hid h2
  clear h0 h1 h2
  go_region_held3 (fun w' => w'.cell? ⟨pa, 0, none⟩ = some (.string N1) ∧ w'.cell? ⟨pa, 1, none⟩ = some (.string S1) ∧ w'.cell? ⟨pa, 2, none⟩ = some (.string B1) ∧ Below W9.heap.size W9 w')
    (first | exact HK.out | exact K3.later hz (by assumption) hb1 | exact K3.later hz (by assumption) hb2 | exact K3.later hz (by assumption) hb3 | exact K3.store hz (by assumption) _ _)
    (first
      | (go_at_call 16; (with_reducible refine (HU1.out _).mono ?_); rintro e' w1 ⟨L1, hl1, hm1, rfl, hb1⟩; have HXB := Lib.hid ((hb1.block _ (heap_lt HXB.out)).trans HXB.out))
      | (go_at_call 16; (with_reducible refine (HU2.out _).mono ?_); rintro e' w2 ⟨L2, hl2, hm2, rfl, hb2⟩; have HXB := Lib.hid ((hb2.block _ (heap_lt HXB.out)).trans HXB.out))
      | (go_at_call 16; (with_reducible refine (HU3.out _).mono ?_); rintro e' w3 ⟨L3, hl3, hm3, rfl, hb3⟩; have HXB := Lib.hid ((hb3.block _ (heap_lt HXB.out)).trans HXB.out); have k0 := (Lib.cell_of_heap HXB.out 0).trans H0.out; have k1 := (Lib.cell_of_heap HXB.out 1).trans H1'.out; have k2 := (Lib.cell_of_heap HXB.out 2).trans H2'.out; have f0 := Lib.frozen_of_heap HXB.out 0; have f1 := Lib.frozen_of_heap HXB.out 1; have f2 := Lib.frozen_of_heap HXB.out 2))
  rename_i hS
  have HXE := Lib.hid (heap_set (heap_set (heap_set HXB.out (i := 0) (.string (ofL L1))) (i := 1) (.string (ofL L2))) (i := 2) (.string (ofL L3)))
  rw [HE.out] at HXE
  have HXF := Lib.hid ((heap_set_ne (i := 2) (.string (ofL L3)) (Nat.ne_of_lt hz)).trans ((heap_set_ne (i := 1) (.string (ofL L2)) (Nat.ne_of_lt hz)).trans ((heap_set_ne (i := 0) (.string (ofL L1)) (Nat.ne_of_lt hz)).trans ((hb3.block _ (Nat.lt_of_lt_of_le (heap_lt HXA.out) (Nat.le_trans hb1.size hb2.size))).trans ((hb2.block _ (Nat.lt_of_lt_of_le (heap_lt HXA.out) hb1.size)).trans ((hb1.block _ (heap_lt HXA.out)).trans HXA.out))))))
  have HBE := Lib.hid hS.2.2.2
  have HSC2 := Lib.hid (show SameCase (inS N1 S1 B1 f gs a b c d e) (inS (ofL L1) (ofL L2) (ofL L3) f gs a b c d e) from ⟨by show lowerL (toL N1) = lowerL (toL (ofL L1)); rw [toL_ofL, hm1], by show lowerL (toL S1) = lowerL (toL (ofL L2)); rw [toL_ofL, hm2], by show lowerL (toL B1) = lowerL (toL (ofL L3)); rw [toL_ofL, hm3], rfl, rfl, rfl, rfl, rfl, rfl, rfl⟩)
  have hs1 : (ofL L1).size ≤ 1000000 := by rw [ofL_size]; omega
  have hs2 : (ofL L2).size ≤ 1000000 := by rw [ofL_size]; omega
  have hs3 : (ofL L3).size ≤ 1000000 := by rw [ofL_size]; omega
  clear k0 k1 k2 f0 f1 f2 hS HK H0 H1' H2' HE HXB hb1 hb2 hb3 hm1 hm2 hm3 HU1 HU2 HU3 HBT
  generalize ((w3.setCell ⟨W9.heap.size, 0, none⟩ (.string (ofL L1))).setCell ⟨W9.heap.size, 1, none⟩ (.string (ofL L2))).setCell ⟨W9.heap.size, 2, none⟩ (.string (ofL L3)) = WE at *
  have HBWE := Lib.hid (HBW.out.trans (HBE.out.mono HBW.out.size))
  have HRAE := Lib.hid (HRA9.out.below HBE.out)
  have HGE := Lib.hid (HG9.out.below HBE.out)
  obtain ⟨o, ho⟩ : ∃ o, rateF la (inS N1 S1 B1 f gs a b c d e) = o := ⟨_, rfl⟩
  have ho2 : rateF la (inS (ofL L1) (ofL L2) (ofL L3) f gs a b c d e) = o := (rateF_case HSC2.out la).symm.trans ho
  have RTA := Lib.hid (fun (wx : World) (hy : K4 WE pa W9.heap.size (RF N1 S1 B1 A2 c2) (RF (ofL L1) (ofL L2) (ofL L3) A2 c2) wx) => show Calls Tryz.prog 17 #[.pointer (some ⟨ra, 0, none⟩), .agg (RF N1 S1 B1 A2 c2).toArray] wx (RaP o wx) from by
    have hx := hy.2.2
    rw [← ho]; exact HRT.out ra N1 S1 B1 A2 c2 wx (by omega) (by omega) (by omega) (HBWE.out.trans (hx.mono HBWE.out.size)) (HRAE.out.below hx) (HGE.out.below hx))
  have RTB := Lib.hid (fun (wx : World) (hy : K4 WE pa W9.heap.size (RF N1 S1 B1 A2 c2) (RF (ofL L1) (ofL L2) (ofL L3) A2 c2) wx) => show Calls Tryz.prog 17 #[.pointer (some ⟨ra, 0, none⟩), .agg (RF (ofL L1) (ofL L2) (ofL L3) A2 c2).toArray] wx (RaP o wx) from by
    have hx := hy.2.2
    rw [← ho2]; exact HRT.out ra (ofL L1) (ofL L2) (ofL L3) A2 c2 wx hs1 hs2 hs3 (HBWE.out.trans (hx.mono HBWE.out.size)) (HRAE.out.below hx) (HGE.out.below hx))
  have hsi : (Tryz.prog.info? 26).map (·.size) = some (RF N1 S1 B1 A2 c2).length := by rw [HRS.out]; exact size_In
  have hsj : (Tryz.prog.info? 26).map (·.size) = some (RF (ofL L1) (ofL L2) (ofL L3) A2 c2).length := by rw [HRS.out]; exact size_In
  have hty := Tryz.underlying26
  have za := heap_lt HXF.out
  have zb := heap_lt HXE.out
  have HK := Lib.hid (show K4 WE pa W9.heap.size (RF N1 S1 B1 A2 c2) (RF (ofL L1) (ofL L2) (ofL L3) A2 c2) WE.drew from ⟨fun j v hv => by
    rw [Nat.zero_add, Lib.cell_of_heap (w := WE.drew) HXF.out]; simpa using hv, fun j v hv => by
    rw [Nat.zero_add, Lib.cell_of_heap (w := WE.drew) HXE.out]; simpa using hv, (Below.refl _ _).drew⟩)
  clear ho ho2 HSC2 hs1 hs2 hs3 HRAE HGE HXE HXF HBE HRT HRS HST HRF2 HXA HRA9 HG9 HBW hz hl1 hl2 hl3 hN hS hB
  generalize RF N1 S1 B1 A2 c2 = LA at *
  generalize RF (ofL L1) (ofL L2) (ofL L3) A2 c2 = LB at *
  generalize W9.heap.size = pb at *
  obtain ⟨s, k, v, p⟩ := o
  have hq := fun wx => res_eq s p k v wx
  have hOA : ∀ wx : World, wx.rangeAt pa 0 LA → OkIn wx (.pointer (some ⟨pa, 0, none⟩)) := fun wx h => (in_of (range_loadS (T := 26) h hty rfl hsi)).1
  have hIA : ∀ wx : World, wx.rangeAt pa 0 LA → inOf wx (.pointer (some ⟨pa, 0, none⟩)) = .agg LA.toArray := fun wx h => (in_of (range_loadS (T := 26) h hty rfl hsi)).2
  have hOB : ∀ wx : World, wx.rangeAt pb 0 LB → OkIn wx (.pointer (some ⟨pb, 0, none⟩)) := fun wx h => (in_of (range_loadS (T := 26) h hty rfl hsj)).1
  have hIB : ∀ wx : World, wx.rangeAt pb 0 LB → inOf wx (.pointer (some ⟨pb, 0, none⟩)) = .agg LB.toArray := fun wx h => (in_of (range_loadS (T := 26) h hty rfl hsj)).2
  go_wp2_with fail
  go_region_held3 (fun w' => w'.rangeAt pa 0 LA ∧ w'.rangeAt pb 0 LB ∧ Below WE.heap.size WE w')
    (first | exact HK.out | exact K4.later za zb (by assumption) hb9)
    (first
      | ((go_at_call 17; (with_reducible refine (RTA.out _ ?hh).mono ?_); (case hh => assumption); rintro e' w9 ⟨rfl, hb9⟩))
      | ((go_at_call 17; (with_reducible refine (RTB.out _ ?hh).mono ?_); (case hh => assumption); rintro e' w9 ⟨rfl, hb9⟩)))
  rename_i hS
  go_wp2_with fail
  go_ret
  exact ⟨rfl, HBWE.out.trans (hS.2.2.mono HBWE.out.size)⟩
end Go.Proofs.YtannhfnpigiggaaGreatDoor
