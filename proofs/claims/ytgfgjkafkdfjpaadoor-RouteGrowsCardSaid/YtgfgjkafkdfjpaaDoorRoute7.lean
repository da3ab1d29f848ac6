/- The walk over Links. -/
import Derived.Test.YtgfgjkafkdfjpaaDoorRoute1
import Derived.Test.YtgfgjkafkdfjpaaDoorPairMap
import Derived.RegionTactic
import Derived.Deep.RegionHeld3
namespace Go.Proofs.YtgfgjkafkdfjpaaDoor
set_option linter.unusedSimpArgs false
set_option linter.unusedVariables false
open Go.RowKit

theorem two_str : Two Tryd.prog 49 9 := ⟨by kernel_rfl, by kernel_rfl, fun w => by kernel_rfl, fun w => by kernel_rfl⟩
theorem map_pairs : Tryd.prog.underlying 60 = some (.map 49 4) := by kernel_rfl
theorem zero_bool (w : World) : (zeroValue 4).run Tryd.prog w = .ok (.bool false) w := by kernel_rfl
theorem info_pair : (Tryd.prog.info? 49).map (fun i => (i.zero, i.size, i.bytes)) = some (some (.agg #[.string ⟨#[]⟩, .string ⟨#[]⟩]), 2, 32) := by kernel_rfl
theorem el_pair : Elem Tryd.prog 46 49 2 32 := Elem.of Tryd.underlying46 info_pair rfl (by omega)

structure PrsOwn (w wr : World) (v : Value) (l : List Pr) : Prop where
  own : wr.ownsRow w.heap.size 49 2 v l.length (prsV l)
  bel : Below w.heap.size w wr

theorem linksDown_pos (l : List Bs) (i : Nat) (acc : List Pr) (h : 0 < i) : linksDown l i acc = linksDown l (i - 1) (linkAdd acc (l.getD i [], l.getD (i - 1) [])) := by
  obtain ⟨j, rfl⟩ : ∃ j, i = j + 1 := ⟨i - 1, by omega⟩
  rfl
theorem getD_at (l : List Bs) (i : Nat) (h : i < l.length) : l.getD i [] = l[i] := by rw [List.getD, List.getElem?_eq_getElem h]; rfl

/-- Where the loop stands. -/
structure LinkAt (l : List Bs) (w wr : World) (v : Value) (i : Nat) (acc : List Pr) : Prop where
  eq : linksR l = linksDown l i acc
  map : MapIs wr w.heap.size acc
  own : wr.ownsRow (w.heap.size + 1) 49 2 v acc.length (prsV acc)
  bel : Below w.heap.size w wr
  len : acc.length + i ≤ l.length

set_option maxHeartbeats 4000000 in
set_option maxRecDepth 100000 in
theorem rt_links (A : Option Addr) (l : List Bs) (c : Nat) (w : World) (hr : Row w A (strsL l)) (hl : l.length ≤ 1000) :
    Calls Tryd.prog 26 #[.slice A l.length c] w fun e w' => ∃ v, e = .returned v ∧ PrsOwn w w' v (linksR l) := by
  have HR := Lib.hid hr; clear hr
  have hmm := @run_makeMap Tryd.prog
  by_cases h0 : l.length = 0
  · have HE := Lib.hid (show linksR l = [] by rw [List.eq_nil_of_length_eq_zero h0]; rfl)
    rw [h0]
    go_enter Tryd.func26, Tryd.ntmps26
    go_wp2_with fail
    go_loopg [3, 5] 0 (fun g v ix wr => v = .slice none 0 0 ∧ ix = .int .i64 (-1) ∧ Below w.heap.size w wr)
    case atStart => exact ⟨rfl, rfl, (Below.refl _ _).alloc (Nat.le_refl _) _⟩
    case round =>
      obtain ⟨rfl, rfl, hB⟩ := hrel
      go_wp2_with fail
      go_ret
      exact ⟨_, rfl, by rw [HE.out]; exact ⟨World.ownsRow_nil _ _ _ _, hB⟩⟩
  · have hpos : 0 < l.length := by omega
    clear h0
    go_enter Tryd.func26, Tryd.ntmps26
    go_wp2_with fail
    go_loopg [3, 5] (l.length - 1) (fun g v ix wr => ∃ (acc : List Pr), g < l.length ∧ ix = .int .i64 g ∧ LinkAt l w wr v g acc)
    case atStart =>
      refine ⟨[], by omega, by go_num, ⟨rfl, ⟨#[], 0, heap_alloc_new w _, rfl⟩, World.ownsRow_nil _ _ _ _, (Below.refl _ _).alloc (Nat.le_refl _) _, by simp <;> omega⟩⟩
    case round =>
      obtain ⟨acc, hi, rfl, hat⟩ := hrel
      by_cases hi0 : 0 < gk
      · have t1 : decide ((0 : Int) < (gk : Int)) = true := by simp; omega
        obtain ⟨x, hx⟩ : ∃ x, ofL l[gk] = x := ⟨_, rfl⟩
        obtain ⟨y, hy⟩ : ∃ y, ofL (l[gk - 1]'(by omega)) = y := ⟨_, rfl⟩
        have hxL : l[gk] = toL x := by rw [← hx, toL_ofL]
        have hyL : l[gk - 1]'(by omega) = toL y := by rw [← hy, toL_ofL]
        obtain ⟨b1, o1, e1, hc1⟩ := (HR.out.below hat.bel).str hi hx
        obtain ⟨b2, o2, e2, hc2⟩ := (HR.out.below hat.bel).str (k := gk - 1) (by omega) hy
        have HEQ := Lib.hid (show linksR l = linksDown l (gk - 1) (linkAdd acc (toL x, toL y)) by
          rw [hat.eq, linksDown_pos l gk acc hi0, getD_at l gk hi, getD_at l (gk - 1) (by omega), hxL, hyL])
        rw [e1] at e2
        injection e2 with e2; injection e2 with e2 e3
        subst e1 e2 e3
        clear hx hy hxL hyL
        have s1 : IntKind.i64.wrap ((gk : Int) - 1) = (gk : Int) - 1 := IntWalk.i64_in _ (by omega)
        have s2 : ((gk : Int) - 1).toNat = gk - 1 := by omega
        have s3 : (0 : Int) ≤ (gk : Int) - 1 := by omega
        have s4 : (gk : Int) - 1 < (l.length : Int) := by omega
        have s5 : (gk : Int) < (l.length : Int) := by omega
        have s6 : (0 : Int) ≤ (gk : Int) := by omega
        have s7 : (1 : Int) ≤ (gk : Int) := by omega
        have hblt : b1 < wr.heap.size := World.block_lt_of_cell? wr _ hc1
        go_wp2_with fail
        go_region
        have hbW : Below wr.heap.size wr ((wr.alloc (.cells #[.string x, .string y] 49)).drew) := ((Below.refl _ _).alloc (Nat.le_refl _) _).drew
        have hkW : ((wr.alloc (.cells #[.string x, .string y] 49)).drew).heap[wr.heap.size]? = some (.cells #[.string x, .string y] 49 (0, 0)) := heap_alloc_new wr _
        obtain ⟨W, hW⟩ : ∃ W, W = ((wr.alloc (.cells #[.string x, .string y] 49)).drew) := ⟨_, rfl⟩
        rw [← hW] at hbW hkW ⊢
        have hmapW := hat.map.below hbW
        have hownW := own_below hat.own hbW
        have hbelW := hat.bel.trans (hbW.mono hat.bel.size)
        have hzW := heap_lt hkW
        have hzw := hat.map.lt
        have hlenA := hat.len
        have d0 : W.cell? ⟨wr.heap.size, 0, none⟩ = some (.string x) := by rw [Lib.cell_of_heap hkW]; rfl
        have d1 : W.cell? ⟨wr.heap.size, 1, none⟩ = some (.string y) := by rw [Lib.cell_of_heap hkW]; rfl
        have hlk := hmapW.look two_str map_pairs zero_bool (toL x, toL y)
        rw [keyV_of] at hlk
        clear hW hkW s1 s2 s3 s4 s5 s6 s7 hc1 hc2 hbW
        have g1 : IntKind.i64.wrap ((gk : Int) - 1) = ((gk - 1 : Nat) : Int) := by rw [IntWalk.i64_in _ (by omega)]; omega
        have G1 := Lib.hid g1; clear g1
        rcases e1 : (x.toList == y.toList) with _ | _
        · have hne : toL x ≠ toL y := by rw [beq_toList] at e1; simpa using e1
          by_cases hp : (toL x, toL y) ∈ acc
          · have HX := Lib.hid (HEQ.out.trans (by rw [linkAdd, if_pos (.inr hp)]))
            rw [decide_eq_true hp] at hlk
            have HAT := Lib.hid (show LinkAt l w W u3 (gk - 1) acc from ⟨HX.out, hmapW, hownW, hbelW, by omega⟩)
            clear hp hne hmapW hownW hat
            go_wp2_with fail
            go_roundg (gk - 1)
            case measure => omega
            case rel => exact ⟨acc, by omega, by go_num, HAT.out⟩
          · have HX := Lib.hid (HEQ.out.trans (by rw [linkAdd, if_neg (fun h => h.elim hne hp)]))
            obtain ⟨W2, hup, hmap2, hg2⟩ := hmapW.put two_str map_pairs (toL x, toL y) hp
            rw [keyV_of] at hup
            rw [decide_eq_false hp] at hlk
            have c0 : W2.cell? ⟨wr.heap.size, 0, none⟩ = some (.string x) := by rw [hg2.cell_far ⟨wr.heap.size, 0, none⟩ hzW (by intro e; injection e with e; simp at e; omega)]; exact d0
            have c1 : W2.cell? ⟨wr.heap.size, 1, none⟩ = some (.string y) := by rw [hg2.cell_far ⟨wr.heap.size, 1, none⟩ hzW (by intro e; injection e with e; simp at e; omega)]; exact d1
            have hown2 := hownW.kept hg2 (.inr (fun e => by have := (hownW.lt _ e).1; omega))
            have hbel2 := hbelW.grown hg2 hbelW.size (fun k hk => by injection hk with hk; omega)
            have hsz2 : w.heap.size + 1 ≤ W2.heap.size := by have := hg2.size; omega
            have hacc : acc.length ≤ 1000 := by omega
            have HM2 := Lib.hid hmap2
            clear hp hne hmapW hmap2 hat hg2 hownW
            go_wp2_with ((at_builtin; refine wpList_push el_pair rfl _ _ rfl hown2 #[.string x, .string y] rfl rfl rfl (by simp [Value.oneCell']) (by omega) (by unfold maxLen; omega) hsz2 ?_; intro g cap w3 hown3 hg3 hat3))
            have hF : LinkAt l w w3 (.slice (some ⟨g, 0, none⟩) (acc.length + 1) cap) (gk - 1) (acc ++ [(toL x, toL y)]) := by
              refine ⟨HX.out, HM2.out.kept hg3 (fun e => by have := (hown2.lt _ e.symm).1; omega), ?_, hbel2.grown hg3 hbel2.size (fun k hk => by have := (hown2.lt k hk).1; omega), by simp; omega⟩
              rw [← prsV_snoc]; simpa using hown3
            clear hown3 hg3 hat3 hown2 HM2
            go_roundg (gk - 1)
            case measure => omega
            case rel => exact ⟨acc ++ [(toL x, toL y)], by omega, by go_num, hF⟩
        · have heq : toL x = toL y := by rw [beq_toList] at e1; simpa using e1
          have HX := Lib.hid (HEQ.out.trans (by rw [linkAdd, if_pos (.inl heq)]))
          have HAT := Lib.hid (show LinkAt l w W u3 (gk - 1) acc from ⟨HX.out, hmapW, hownW, hbelW, by omega⟩)
          clear heq hmapW hownW hat hlk
          go_wp2_with fail
          go_roundg (gk - 1)
          case measure => omega
          case rel => exact ⟨acc, by omega, by go_num, HAT.out⟩
      · have t1 : decide ((0 : Int) < (gk : Int)) = false := by simp; omega
        have HX := Lib.hid (show linksR l = acc by rw [hat.eq, show gk = 0 from by omega, linksDown])
        go_wp2_with fail
        go_ret
        exact ⟨_, rfl, by rw [HX.out]; exact ⟨own_mono hat.own (by omega), hat.bel⟩⟩

end Go.Proofs.YtgfgjkafkdfjpaaDoor
