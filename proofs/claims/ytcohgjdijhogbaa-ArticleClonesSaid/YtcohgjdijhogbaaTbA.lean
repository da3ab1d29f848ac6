/- Walks over the law's conversions of articles: back (to). -/
import Derived.Test.YtcohgjdijhogbaaPt19
import Derived.Test.YtcohgjdijhogbaaConv2
import Derived.Deep.RegionLaw
namespace Go.Proofs.Ytcohgjdijhogbaa
set_option linter.unusedSimpArgs false
set_option linter.unusedVariables false
open Go.RowKit

structure TbAt (w wr : World) (u t e : TypeId) (pv : Value) (P B : ByteArray) (l : List Fd) : Prop where
  par : wr.heap[w.heap.size]? = some (.cells #[pv, .string P] u (0, 0))
  res : wr.heap[w.heap.size + 1]? = some (.cells #[.slice none 0 0, .string ⟨#[]⟩] t (0, 0))
  out : ∃ A c, wr.heap[w.heap.size + 1 + 1]? = some (.cells #[.slice A l.length c, .string B] t (0, 0)) ∧ wr.ownsRow (w.heap.size + 1 + 1 + 1) e 2 (.slice A l.length c) l.length (fldsV l)
  bel : Below w.heap.size w wr
theorem TbAt.start (w : World) (u t e : TypeId) (pv : Value) (P B : ByteArray) : TbAt w (((w.alloc (.cells #[pv, .string P] u)).alloc (.cells #[.slice none 0 0, .string ⟨#[]⟩] t)).alloc (.cells #[.slice none 0 0, .string B] t)) u t e pv P B [] := by
  refine ⟨?_, ?_, ⟨none, 0, ?_, World.ownsRow_nil _ _ _ _⟩, (((Below.refl _ _).alloc (Nat.le_refl _) _).alloc (by simp) _).alloc (by simp; omega) _⟩
  · rw [Below.heap_alloc _ _ _ (by simp; omega), Below.heap_alloc _ _ _ (by simp)]; exact World.alloc_heap_new _ _
  · rw [Below.heap_alloc _ _ _ (by simp)]
    have := World.alloc_heap_new (w.alloc (.cells #[pv, .string P] u)) (.cells #[.slice none 0 0, .string ⟨#[]⟩] t)
    rw [World.size_alloc] at this; exact this
  · have := World.alloc_heap_new ((w.alloc (.cells #[pv, .string P] u)).alloc (.cells #[.slice none 0 0, .string ⟨#[]⟩] t)) (.cells #[.slice none 0 0, .string B] t)
    rw [World.size_alloc, World.size_alloc] at this; exact this
theorem tb_own {W : World} {r n : Nat} {t : TypeId} {v : Value} {xs : List Value} (h : W.ownsRow (r + 1) t 2 v n xs) (x y : Value) : ((W.setCell ⟨r, 0, none⟩ x).setCell ⟨r, 1, none⟩ y).ownsRow r t 2 v n xs :=
  own_mono (own_ne h fun g hg _ => by rw [Below.heap_setCell _ _ _ _ hg, Below.heap_setCell _ _ _ _ hg]) (Nat.le_succ _)
theorem TbAt.push {w wr w4 : World} {u t e : TypeId} {pv : Value} {P B n y : ByteArray} {l : List Fd} {A2 : Option Addr} {c2 k gg cap : Nat} {o : Obj} (hk : k < l.length) (hnb : l[k] = (toL n, toL y))
    (hpar : wr.heap[w.heap.size]? = some (.cells #[pv, .string P] u (0, 0))) (hres : wr.heap[w.heap.size + 1]? = some (.cells #[.slice none 0 0, .string ⟨#[]⟩] t (0, 0))) (hbel : Below w.heap.size w wr)
    (hown : wr.ownsRow (w.heap.size + 1 + 1 + 1) e 2 (.slice A2 k c2) k (fldsV (l.take k)))
    (hout : w4.heap[w.heap.size + 1 + 1]? = some (.cells #[.slice A2 k c2, .string B] t (0, 0)))
    (hown3 : w4.ownsRow (w.heap.size + 1 + 1 + 1) e 2 (.slice (some ⟨gg, 0, none⟩) (k + 1) cap) (k + 1) (fldsV (l.take k) ++ [.string n, .string y]))
    (hgrow : (wr.alloc o).drew.grownBy w4 (Value.slice A2 k c2).ownBlock) :
    TbAt w (w4.setCell ⟨w.heap.size + 1 + 1, 0, none⟩ (.slice (some ⟨gg, 0, none⟩) (k + 1) cap)) u t e pv P B (l.take (k + 1)) := by
  have z0 := heap_lt hpar
  have z1 := heap_lt hres
  have hl1 : (l.take (k + 1)).length = k + 1 := by simp; omega
  have aw1 : (Value.slice A2 k c2).ownBlock ≠ some (w.heap.size + 1) := fun e => by have := (hown.lt _ e).1; omega
  have aw0 : (Value.slice A2 k c2).ownBlock ≠ some w.heap.size := fun e => by have := (hown.lt _ e).1; omega
  have HB0 := (hgrow.block w.heap.size (by simp; omega) (Ne.symm aw0)).trans ((Lib.alloc_old wr _ w.heap.size (by omega)).trans hpar)
  have HB1 := (hgrow.block (w.heap.size + 1) (by simp; omega) (Ne.symm aw1)).trans ((Lib.alloc_old wr _ (w.heap.size + 1) (by omega)).trans hres)
  have ho := ownsRow_setCell_below (a := ⟨w.heap.size + 1 + 1, 0, none⟩) hown3 (by simp) (.slice (some ⟨gg, 0, none⟩) (k + 1) cap)
  refine ⟨?_, ?_, ⟨some ⟨gg, 0, none⟩, cap, ?_, ?_⟩, ?_⟩
  · rw [Below.heap_setCell _ _ _ _ (show w.heap.size ≠ w.heap.size + 1 + 1 from by omega)]; exact HB0
  · rw [Below.heap_setCell _ _ _ _ (show w.heap.size + 1 ≠ w.heap.size + 1 + 1 from by omega)]; exact HB1
  · rw [hl1]; exact heap_set hout _
  · rw [hl1, List.take_succ_eq_append_getElem hk, hnb, ← fldsV_snoc]
    exact ho
  · exact (((hbel.alloc (by omega) _).drew).grown hgrow (by simp; omega) (fun g hg => by have := (hown.lt g hg).1; omega)).setCell (p := ⟨w.heap.size + 1 + 1, 0, none⟩) (show w.heap.size ≤ w.heap.size + 1 + 1 from by omega) _
theorem back_ret {Q : Ending → World → Prop} {W : World} {r : Nat} {v : Value} {b : ByteArray} {T : Array Value} (hb : W.heap[r]? = some (.cells #[v, .string b] 49 (0, 0)))
    (hT2 : T[2]? = some (.pointer (some ⟨r, 0, none⟩))) (hQ : Q (.returned (.agg #[v, .string b])) W) :
    bodyPost Try.prog Try.f25 Q .ret { tmps := T, defers := [] } W := by
  have c0 : W.cell? ⟨r, 0, none⟩ = some v := by rw [Lib.cell_of_heap hb]; rfl
  have c1 : W.cell? ⟨r, 1, none⟩ = some (.string b) := by rw [Lib.cell_of_heap hb]; rfl
  refine bodyPost_ret (v := .agg #[v, .string b]) ?_ rfl hQ
  simp [results, Try.f25, go_sem, hT2, c0, c1]
set_option maxHeartbeats 4000000 in
set_option maxRecDepth 100000 in
theorem law_back (A : Option Addr) (l : List Fd) (c : Nat) (b : ByteArray) (w : World) (hr : Row w A (fldsV l)) (hl : l.length ≤ 1000000) :
    Calls Try.prog 25 #[.agg #[.slice A l.length c, .string b]] w fun e w' => ∃ A2 c2, e = .returned (.agg #[.slice A2 l.length c2, .string b]) ∧ FldsOwn w w' 59 (.slice A2 l.length c2) l := by
  have HR := Lib.hid hr; clear hr
  obtain ⟨i0, hi0, hz0, hz1, hz2⟩ := info_parts info_Fld
  have HT := Lib.hid (TbAt.start w 53 49 59 (.slice A l.length c) b b)
  go_enter Try.func25, Try.ntmps25
  go_wp2_with fail
  go_loopg [4] l.length (fun g ix wr => ∃ k : Nat, g = l.length - k ∧ k ≤ l.length ∧ ix = .int .i64 k ∧ TbAt w wr 53 49 59 (.slice A l.length c) b b (l.take k))
  case atStart => exact ⟨0, by omega, by omega, rfl, HT.out⟩
  case round =>
    obtain ⟨k, rfl, hk, rfl, hF⟩ := hrel
    obtain ⟨A2, c2, hbx, hown⟩ := hF.out
    have HPAR := Lib.hid hF.par
    have hlen : (l.take k).length = k := by simp; omega
    rw [hlen] at hbx hown
    have HRES := Lib.hid hF.res
    have r0 : wr.cell? ⟨w.heap.size + 1, 0, none⟩ = some (.slice none 0 0) := by rw [Lib.cell_of_heap HRES.out]; rfl
    have r1 : wr.cell? ⟨w.heap.size + 1, 1, none⟩ = some (.string ⟨#[]⟩) := by rw [Lib.cell_of_heap HRES.out]; rfl
    have rf0 := Lib.frozen_of_heap HRES.out 0
    have rf1 := Lib.frozen_of_heap HRES.out 1
    have HBEL := Lib.hid hF.bel
    have HBX := Lib.hid hbx
    have p0 : wr.cell? ⟨w.heap.size, 0, none⟩ = some (.slice A l.length c) := by rw [Lib.cell_of_heap HPAR.out]; rfl
    have q0 : wr.cell? ⟨w.heap.size + 1 + 1, 0, none⟩ = some (.slice A2 k c2) := by rw [Lib.cell_of_heap HBX.out]; rfl
    have q1 : wr.cell? ⟨w.heap.size + 1 + 1, 1, none⟩ = some (.string b) := by rw [Lib.cell_of_heap HBX.out]; rfl
    have qf := Lib.frozen_of_heap HBX.out 0
    have z0 := heap_lt HPAR.out
    have z1 := heap_lt HBX.out
    clear hF hbx
    by_cases hlt : k < l.length
    · have hk1 : (0 : Int) ≤ (k : Int) := by omega
      have hk2 : (k : Int) < (l.length : Int) := by omega
      obtain ⟨bb, off, rfl, hbb, -⟩ := HR.out.at (k := 0) (by rw [fldsV_length]; omega)
      obtain ⟨n, hn⟩ : ∃ n, ofL l[k].1 = n := ⟨_, rfl⟩
      obtain ⟨y, hy⟩ : ∃ y, ofL l[k].2 = y := ⟨_, rfl⟩
      have hnL : l[k].1 = toL n := by rw [← hn, toL_ofL]
      have hyL : l[k].2 = toL y := by rw [← hy, toL_ofL]
      obtain ⟨hc1, hc2⟩ := (HR.out.below HBEL.out).field' hlt hn hy
      have HNB := Lib.hid (show l[k] = (toL n, toL y) from Prod.ext hnL hyL)
      clear hn hy hnL hyL
      have lg := World.block_lt_of_cell? wr _ hc1
      have aw : (Value.slice A2 k c2).ownBlock ≠ some (w.heap.size + 1 + 1) := fun e => by have := (hown.lt _ e).1; omega
      have aw1 : (Value.slice A2 k c2).ownBlock ≠ some (w.heap.size + 1) := fun e => by have := (hown.lt _ e).1; omega
      have aw0 : (Value.slice A2 k c2).ownBlock ≠ some w.heap.size := fun e => by have := (hown.lt _ e).1; omega
      have HOWN := Lib.hid hown
      go_wp2_with fail
      go_region_law
        ((refine step_append_lies _ (by rfl) _ _ _ (by rfl) (w.heap.size + 1 + 1 + 1) 59 i0 _ 2 32 Try.underlying47 hi0 hz0 hz1 hz2 rfl (by omega) (.slice A2 k c2) _ (fldsV (l.take k)) (by rfl) ((hown.alloc _).drew)
            ⟨wr.heap.size, 0, none⟩ 1 1 [.string n, .string y] (by rfl) (by rfl) (World.news_of_block (cs := #[.string n, .string y]) (t := 59) (fr := (0, 0)) (heap_alloc_new wr _)) (by simp [Value.oneCell'])
            (by omega) (by unfold maxLen; omega) (by omega) (by simp; omega) (wr.heap.size + 1) (by simp) ?_
          intro gg cap w4 hown3 hgrow hat hlt1
          have HB := Lib.hid ((hgrow.block (w.heap.size + 1 + 1) (by simp; omega) (Ne.symm aw)).trans ((Lib.alloc_old wr _ (w.heap.size + 1 + 1) (by omega)).trans HBX.out))
          have hcz : w4.cell? ⟨w.heap.size + 1 + 1, 0, none⟩ = some (.slice A2 k c2) := by rw [Lib.cell_of_heap HB.out]; rfl
          have hfz : w4.frozen? ⟨w.heap.size + 1 + 1, 0, none⟩ = false := Lib.frozen_of_heap HB.out 0))
      all_goals
        have HP4 := Lib.hid (TbAt.push (u := 53) (t := 49) (e := 59) hlt HNB.out HPAR.out HRES.out HBEL.out HOWN.out HB.out hown3 hgrow)
        generalize (w4.setCell ⟨w.heap.size + 1 + 1, 0, none⟩ (.slice (some ⟨gg, 0, none⟩) (k + 1) cap)) = w5 at *
        clear hown3 hgrow hat hlt1 hc1 hc2 HB hcz hfz hown p0 q0 q1 qf r0 r1 rf0 rf1
        go_wp2_with fail
        go_roundg (l.length - (k + 1))
        case measure => omega
        case rel => exact ⟨k + 1, rfl, by omega, by go_num, HP4.out⟩
    · have HE := Lib.hid (show l.take k = l by rw [List.take_of_length_le (by omega)])
      have hcmp : (l.length : Int) ≤ (k : Int) := by omega
      have HOWN := Lib.hid hown
      go_wp2_with fail
      refine back_ret (box_set HRES.out _ _) rfl ?_
      have hkl : k = l.length := by omega
      have ho := HOWN.out
      rw [HE.out, hkl] at ho
      exact ⟨A2, c2, by rw [hkl], own_mono (tb_own (own_mono ho (Nat.le_succ _)) _ _) (Nat.le_succ _), below_box HBEL.out (Nat.le_succ _) _ _⟩
end Go.Proofs.Ytcohgjdijhogbaa
