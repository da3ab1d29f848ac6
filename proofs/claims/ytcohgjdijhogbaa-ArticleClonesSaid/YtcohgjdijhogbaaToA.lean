/- Walks over the law's conversions of articles: to. -/
import Derived.Test.YtcohgjdijhogbaaTbA
namespace Go.Proofs.Ytcohgjdijhogbaa
set_option linter.unusedSimpArgs false
set_option linter.unusedVariables false
open Go.RowKit

theorem to_ret {Q : Ending → World → Prop} {W : World} {r : Nat} {v : Value} {b : ByteArray} {T : Array Value} (hb : W.heap[r]? = some (.cells #[v, .string b] 53 (0, 0)))
    (hT2 : T[2]? = some (.pointer (some ⟨r, 0, none⟩))) (hQ : Q (.returned (.agg #[v, .string b])) W) :
    bodyPost Try.prog Try.f26 Q .ret { tmps := T, defers := [] } W := by
  have c0 : W.cell? ⟨r, 0, none⟩ = some v := by rw [Lib.cell_of_heap hb]; rfl
  have c1 : W.cell? ⟨r, 1, none⟩ = some (.string b) := by rw [Lib.cell_of_heap hb]; rfl
  refine bodyPost_ret (v := .agg #[v, .string b]) ?_ rfl hQ
  simp [results, Try.f26, go_sem, hT2, c0, c1]
set_option maxHeartbeats 4000000 in
set_option maxRecDepth 100000 in
theorem law_to (A : Option Addr) (l : List Fd) (c : Nat) (b : ByteArray) (w : World) (hr : Row w A (fldsV l)) (hbm : b.size ≤ maxLen) :
    Calls Try.prog 26 #[.agg #[.slice A l.length c, .string b]] w fun e w' => ∃ A2 c2, e = .returned (.agg #[.slice A2 (l.take 70).length c2, .string (b.extract 0 (min b.size 3000))]) ∧ FldsOwn w w' 80 (.slice A2 (l.take 70).length c2) (l.take 70) := by
  have HR := Lib.hid hr; clear hr
  unfold maxLen at hbm
  have hm : min (b.size : Int) 3000 = ((min b.size 3000 : Nat) : Int) := by omega
  have h0 : (0 : Int) ≤ ((min b.size 3000 : Nat) : Int) := by omega
  have h1 : ((min b.size 3000 : Nat) : Int) ≤ (b.size : Int) := by omega
  have HT0 := Lib.hid (show (((min b.size 3000 : Nat) : Int)).toNat = min b.size 3000 from by omega)
  generalize min b.size 3000 = m at *
  obtain ⟨i0, hi0, hz0, hz1, hz2⟩ := info_parts info_F
  have HT := Lib.hid (TbAt.start w 49 53 80 (.slice A l.length c) b (b.extract 0 m))
  go_enter Try.func26, Try.ntmps26
  go_wp2_with fail
  generalize hP : b.extract 0 m = P at *
  have HP := Lib.hid hP; clear hP
  go_loopg [4] l.length (fun g ix wr => ∃ k : Nat, g = l.length - k ∧ k ≤ l.length ∧ k ≤ 70 ∧ ix = .int .i64 k ∧ TbAt w wr 49 53 80 (.slice A l.length c) b P (l.take k))
  case atStart => exact ⟨0, by omega, by omega, by omega, rfl, HT.out⟩
  case round =>
    obtain ⟨k, rfl, hk, hk70, rfl, hF⟩ := hrel
    obtain ⟨A2, c2, hbx, hown⟩ := hF.out
    have HPAR := Lib.hid hF.par
    have hlen : (l.take k).length = k := by simp; omega
    rw [hlen] at hbx hown
    have HRES := Lib.hid hF.res
    have r0 : wr.cell? ⟨w.heap.size + 1, 0, none⟩ = some (.slice none 0 0) := by rw [Lib.cell_of_heap HRES.out]; rfl
    have r1 : wr.cell? ⟨w.heap.size + 1, 1, none⟩ = some (.string ⟨#[]⟩) := by rw [Lib.cell_of_heap HRES.out]; rfl
    have rf0 := Lib.frozen_of_heap HRES.out 0
    have rf1 := Lib.frozen_of_heap HRES.out 1
    have HBEL := Lib.hid hF.bel
    have HBX := Lib.hid hbx
    have p0 : wr.cell? ⟨w.heap.size, 0, none⟩ = some (.slice A l.length c) := by rw [Lib.cell_of_heap HPAR.out]; rfl
    have q0 : wr.cell? ⟨w.heap.size + 1 + 1, 0, none⟩ = some (.slice A2 k c2) := by rw [Lib.cell_of_heap HBX.out]; rfl
    have q1 : wr.cell? ⟨w.heap.size + 1 + 1, 1, none⟩ = some (.string P) := by rw [Lib.cell_of_heap HBX.out]; rfl
    have qf := Lib.frozen_of_heap HBX.out 0
    have z0 := heap_lt HPAR.out
    have z1 := heap_lt HBX.out
    clear hF hbx
    by_cases hlt0 : k < l.length ∧ k < 70
    · obtain ⟨hlt, hlt7⟩ := hlt0
      have hk7 : (k : Int) < 70 := by omega
      have hk1 : (0 : Int) ≤ (k : Int) := by omega
      have hk2 : (k : Int) < (l.length : Int) := by omega
      obtain ⟨bb, off, rfl, hbb, -⟩ := HR.out.at (k := 0) (by rw [fldsV_length]; omega)
      obtain ⟨n, hn⟩ : ∃ n, ofL l[k].1 = n := ⟨_, rfl⟩
      obtain ⟨y, hy⟩ : ∃ y, ofL l[k].2 = y := ⟨_, rfl⟩
      have hnL : l[k].1 = toL n := by rw [← hn, toL_ofL]
      have hyL : l[k].2 = toL y := by rw [← hy, toL_ofL]
      obtain ⟨hc1, hc2⟩ := (HR.out.below HBEL.out).field' hlt hn hy
      have HNB := Lib.hid (show l[k] = (toL n, toL y) from Prod.ext hnL hyL)
      clear hn hy hnL hyL
      have lg := World.block_lt_of_cell? wr _ hc1
      have aw : (Value.slice A2 k c2).ownBlock ≠ some (w.heap.size + 1 + 1) := fun e => by have := (hown.lt _ e).1; omega
      have aw1 : (Value.slice A2 k c2).ownBlock ≠ some (w.heap.size + 1) := fun e => by have := (hown.lt _ e).1; omega
      have aw0 : (Value.slice A2 k c2).ownBlock ≠ some w.heap.size := fun e => by have := (hown.lt _ e).1; omega
      have HOWN := Lib.hid hown
      go_wp2_with fail
      go_region_law
        ((refine step_append_lies _ (by rfl) _ _ _ (by rfl) (w.heap.size + 1 + 1 + 1) 80 i0 _ 2 32 Try.underlying51 hi0 hz0 hz1 hz2 rfl (by omega) (.slice A2 k c2) _ (fldsV (l.take k)) (by rfl) ((hown.alloc _).drew)
            ⟨wr.heap.size, 0, none⟩ 1 1 [.string n, .string y] (by rfl) (by rfl) (World.news_of_block (cs := #[.string n, .string y]) (t := 80) (fr := (0, 0)) (heap_alloc_new wr _)) (by simp [Value.oneCell'])
            (by omega) (by unfold maxLen; omega) (by omega) (by simp; omega) (wr.heap.size + 1) (by simp) ?_
          intro gg cap w4 hown3 hgrow hat hlt1
          have HB := Lib.hid ((hgrow.block (w.heap.size + 1 + 1) (by simp; omega) (Ne.symm aw)).trans ((Lib.alloc_old wr _ (w.heap.size + 1 + 1) (by omega)).trans HBX.out))
          have hcz : w4.cell? ⟨w.heap.size + 1 + 1, 0, none⟩ = some (.slice A2 k c2) := by rw [Lib.cell_of_heap HB.out]; rfl
          have hfz : w4.frozen? ⟨w.heap.size + 1 + 1, 0, none⟩ = false := Lib.frozen_of_heap HB.out 0))
      all_goals
        have HP4 := Lib.hid (TbAt.push (u := 49) (t := 53) (e := 80) hlt HNB.out HPAR.out HRES.out HBEL.out HOWN.out HB.out hown3 hgrow)
        generalize (w4.setCell ⟨w.heap.size + 1 + 1, 0, none⟩ (.slice (some ⟨gg, 0, none⟩) (k + 1) cap)) = w5 at *
        clear hown3 hgrow hat hlt1 hc1 hc2 HB hcz hfz hown p0 q0 q1 qf r0 r1 rf0 rf1
        go_wp2_with fail
        go_roundg (l.length - (k + 1))
        case measure => omega
        case rel => exact ⟨k + 1, rfl, by omega, by omega, by go_num, HP4.out⟩
    · have HE := Lib.hid (show l.take k = l.take 70 ∧ k = (l.take 70).length by
        rcases Nat.lt_or_ge 70 l.length with h | h
        · obtain rfl : k = 70 := by omega
          exact ⟨rfl, by simp; omega⟩
        · obtain rfl : k = l.length := by omega
          exact ⟨by rw [List.take_of_length_le h, List.take_of_length_le (Nat.le_refl _)], by simp; omega⟩)
      have HOWN := Lib.hid hown
      have HQ : (l.length : Int) ≤ (k : Int) ∨ ((k : Int) < (l.length : Int) ∧ (70 : Int) ≤ (k : Int)) := by omega
      rcases HQ with hcmp | ⟨hcmp, hcmp2⟩
      all_goals
        go_wp2_with fail
        refine to_ret (box_set HRES.out _ _) rfl ?_
        have ho := HOWN.out
        rw [HE.out.1] at ho
        rw [HE.out.2] at ho ⊢
        exact ⟨A2, c2, by rw [HP.out], own_mono (tb_own (own_mono ho (Nat.le_succ _)) _ _) (Nat.le_succ _), below_box HBEL.out (Nat.le_succ _) _ _⟩
end Go.Proofs.Ytcohgjdijhogbaa
