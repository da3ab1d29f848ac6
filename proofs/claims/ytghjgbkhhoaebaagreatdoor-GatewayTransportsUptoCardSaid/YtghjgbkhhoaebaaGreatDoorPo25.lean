/- Lemmas and walks, part 25. -/
import Derived.Test.YtghjgbkhhoaebaaGreatDoorPo13
import Derived.Laws.EntriesVeiled
namespace Go.Proofs.YtghjgbkhhoaebaaGreatDoor
set_option linter.unusedSimpArgs false
set_option linter.unusedVariables false
open Go.RowKit

abbrev kOf (L : Bs) : Nat := posF 93 (L.drop 1)
abbrev jOf (L : Bs) : Nat := posF 62 (L.drop (kOf L + 4))
/-- What holds when i steps have been taken. -/
structure PlF (L : Bs) (i a : Nat) (m : Int) (nk tx : ByteArray) : Prop where
  f1 : 1 ≤ i → L.take 1 = [91]
  f2 : 2 ≤ i → kOf L < (L.drop 1).length ∧ (numE ((L.drop 1).take (kOf L))).2 = 0 ∧ m = ((numE ((L.drop 1).take (kOf L))).1 : Nat)
  f3 : 3 ≤ i → (L.drop (kOf L + 2)).take 2 = [32, 60]
  f4 : 4 ≤ i → jOf L < (L.drop (kOf L + 4)).length ∧ nickB ((L.drop (kOf L + 4)).take (jOf L)) = true ∧ nk = ofL ((L.drop (kOf L + 4)).take (jOf L))
  f5 : 5 ≤ i → (L.drop (kOf L + jOf L + 5)).take 1 = [32]
  f6 : 6 ≤ i → textE (L.drop (kOf L + jOf L + 6)) = 0 ∧ tx = ofL (L.drop (kOf L + jOf L + 6))
  at_ : a = if i = 0 then 0 else if i = 1 then 1 else if i = 2 then kOf L + 2 else if i = 3 then kOf L + 4 else if i = 4 then kOf L + jOf L + 5 else kOf L + jOf L + 6
theorem take_le {L T : Bs} {a n : Nat} (h : (L.drop a).take n = T) (hn : T.length = n) (h0 : 0 < n) : a + n ≤ L.length := by
  have := congrArg List.length h
  rw [List.length_take, List.length_drop, hn] at this
  omega
theorem PlF.le {L : Bs} {i a : Nat} {m : Int} {nk tx : ByteArray} (h : PlF L i a m nk tx) (hi : i ≤ 6) : a ≤ L.length := by
  have ha := h.at_
  rcases (by omega : i = 0 ∨ i = 1 ∨ i = 2 ∨ i = 3 ∨ i = 4 ∨ i = 5 ∨ i = 6) with rfl | rfl | rfl | rfl | rfl | rfl | rfl
  · simp at ha; omega
  · simp at ha
    have := take_le (a := 0) (n := 1) (T := [91]) (by simpa using h.f1 (by omega)) rfl (by omega); omega
  · simp at ha
    have := (h.f2 (by omega)).1; rw [List.length_drop] at this; omega
  · simp at ha
    have := take_le (n := 2) (h.f3 (by omega)) rfl (by omega); omega
  · simp at ha
    have := (h.f4 (by omega)).1; rw [List.length_drop] at this; omega
  · simp at ha
    have := take_le (n := 1) (h.f5 (by omega)) rfl (by omega); omega
  · simp at ha
    have := take_le (n := 1) (h.f5 (by omega)) rfl (by omega); omega
def lnV (x : Ln) : Value := .agg #[.int .i64 (x.min : Int), .string (ofL x.nick), .string (ofL x.text)]
def ParPost (s : ByteArray) (w : World) (e : Ending) (w' : World) : Prop := e = .returned (.tuple #[lnV (parL (toL s)).1, .int .i64 ((parL (toL s)).2.1 : Nat), .int .i64 (parL (toL s)).2.2]) ∧ Below w.heap.size w w'
theorem par0 {L : Bs} (h : ¬ L.take 1 = [91]) : parL L = (noLn, 0, 3) := by unfold parL; dsimp only; rw [if_pos h]
theorem par1 {L : Bs} {m : Int} {nk tx : ByteArray} {a : Nat} (g : PlF L 1 a m nk tx) (h : ¬ kOf L < (L.drop 1).length) : parL L = (noLn, 1, 3) := by unfold parL; dsimp only; rw [if_neg (fun h' => h' (g.f1 (by omega))), if_pos h]
theorem par1b {L : Bs} {m : Int} {nk tx : ByteArray} {a : Nat} (g : PlF L 1 a m nk tx) (h : kOf L < (L.drop 1).length) (h2 : (numE ((L.drop 1).take (kOf L))).2 ≠ 0) : parL L = (noLn, 1, (numE ((L.drop 1).take (kOf L))).2) := by
  unfold parL; dsimp only; rw [if_neg (fun h' => h' (g.f1 (by omega))), if_neg (fun h' => h' (h)), if_pos h2]
theorem par2 {L : Bs} {m : Int} {nk tx : ByteArray} {a : Nat} (g : PlF L 2 a m nk tx) (h : ¬ (L.drop (kOf L + 2)).take 2 = [32, 60]) : parL L = (noLn, kOf L + 2, 3) := by
  unfold parL; dsimp only; rw [if_neg (fun h' => h' (g.f1 (by omega))), if_neg (fun h' => h' ((g.f2 (by omega)).1)), if_neg (fun h' => h' ((g.f2 (by omega)).2.1)), if_pos h]
theorem par3 {L : Bs} {m : Int} {nk tx : ByteArray} {a : Nat} (g : PlF L 3 a m nk tx) (h : ¬ jOf L < (L.drop (kOf L + 4)).length) : parL L = (noLn, kOf L + 4, 12) := by
  unfold parL; dsimp only; rw [if_neg (fun h' => h' (g.f1 (by omega))), if_neg (fun h' => h' ((g.f2 (by omega)).1)), if_neg (fun h' => h' ((g.f2 (by omega)).2.1)), if_neg (fun h' => h' (g.f3 (by omega))), if_pos h]
theorem par3b {L : Bs} {m : Int} {nk tx : ByteArray} {a : Nat} (g : PlF L 3 a m nk tx) (h : jOf L < (L.drop (kOf L + 4)).length) (h2 : nickB ((L.drop (kOf L + 4)).take (jOf L)) = false) : parL L = (noLn, kOf L + 4, 12) := by
  unfold parL; dsimp only; rw [if_neg (fun h' => h' (g.f1 (by omega))), if_neg (fun h' => h' ((g.f2 (by omega)).1)), if_neg (fun h' => h' ((g.f2 (by omega)).2.1)), if_neg (fun h' => h' (g.f3 (by omega))), if_neg (fun h' => h' (h)), if_pos h2]
theorem par4 {L : Bs} {m : Int} {nk tx : ByteArray} {a : Nat} (g : PlF L 4 a m nk tx) (h : ¬ (L.drop (kOf L + jOf L + 5)).take 1 = [32]) : parL L = (noLn, kOf L + jOf L + 5, 3) := by
  unfold parL; dsimp only; rw [if_neg (fun h' => h' (g.f1 (by omega))), if_neg (fun h' => h' ((g.f2 (by omega)).1)), if_neg (fun h' => h' ((g.f2 (by omega)).2.1)), if_neg (fun h' => h' (g.f3 (by omega))), if_neg (fun h' => h' ((g.f4 (by omega)).1)), if_neg (by rw [(g.f4 (by omega)).2.1]; simp), if_pos h]
theorem par5 {L : Bs} {m : Int} {nk tx : ByteArray} {a : Nat} (g : PlF L 5 a m nk tx) (h : textE (L.drop (kOf L + jOf L + 6)) ≠ 0) : parL L = (noLn, kOf L + jOf L + 6, textE (L.drop (kOf L + jOf L + 6))) := by
  unfold parL; dsimp only; rw [if_neg (fun h' => h' (g.f1 (by omega))), if_neg (fun h' => h' ((g.f2 (by omega)).1)), if_neg (fun h' => h' ((g.f2 (by omega)).2.1)), if_neg (fun h' => h' (g.f3 (by omega))), if_neg (fun h' => h' ((g.f4 (by omega)).1)), if_neg (by rw [(g.f4 (by omega)).2.1]; simp), if_neg (fun h' => h' (g.f5 (by omega))), if_pos h]
theorem par6 {L : Bs} {m : Int} {nk tx : ByteArray} {a : Nat} (g : PlF L 6 a m nk tx) : parL L = (⟨(numE ((L.drop 1).take (kOf L))).1, (L.drop (kOf L + 4)).take (jOf L), L.drop (kOf L + jOf L + 6)⟩, 0, 0) := by
  unfold parL; dsimp only; rw [if_neg (fun h' => h' (g.f1 (by omega))), if_neg (fun h' => h' ((g.f2 (by omega)).1)), if_neg (fun h' => h' ((g.f2 (by omega)).2.1)), if_neg (fun h' => h' (g.f3 (by omega))), if_neg (fun h' => h' ((g.f4 (by omega)).1)), if_neg (by rw [(g.f4 (by omega)).2.1]; simp), if_neg (fun h' => h' (g.f5 (by omega))), if_neg (fun h' => h' ((g.f6 (by omega)).1))]
theorem ParPost.err {s : ByteArray} {w w' : World} {a : Nat} {e : Int} (h : parL (toL s) = (noLn, a, e)) (hb : Below w.heap.size w w') : ParPost s w (.returned (.tuple #[.agg #[.int .i64 0, .string ⟨#[]⟩, .string ⟨#[]⟩], .int .i64 (a : Int), .int .i64 e])) w' :=
  ⟨by rw [h]; rfl, hb⟩
theorem pl_ret {Q : Ending → World → Prop} {W : World} {r : Nat} {x y z : Value} {a e : Int} {T : Array Value} (hb : W.heap[r]? = some (.cells #[x, y, z] 39 (0, 0)))
    (hT2 : T[2]? = some (.pointer (some ⟨r, 0, none⟩))) (hT3 : T[3]? = some (.int .i64 a)) (hT4 : T[4]? = some (.int .i64 e)) (hQ : Q (.returned (.tuple #[.agg #[x, y, z], .int .i64 a, .int .i64 e])) W) :
    bodyPost Tryz.prog Tryz.f32 Q .ret { tmps := T, defers := [] } W := by
  have c0 : W.cell? ⟨r, 0, none⟩ = some x := by rw [Lib.cell_of_heap hb]; rfl
  have c1 : W.cell? ⟨r, 1, none⟩ = some y := by rw [Lib.cell_of_heap hb]; rfl
  have c2 : W.cell? ⟨r, 2, none⟩ = some z := by rw [Lib.cell_of_heap hb]; rfl
  refine bodyPost_ret (v := .tuple #[.agg #[x, y, z], .int .i64 a, .int .i64 e]) ?_ rfl hQ
  simp [results, Tryz.f32, go_sem, hT2, hT3, hT4, c0, c1, c2]
theorem box_set3 {W : World} {r : Nat} {a b c : Value} {t : TypeId} (h : W.heap[r]? = some (.cells #[a, b, c] t (0, 0))) (v u y : Value) : (((W.setCell ⟨r, 0, none⟩ v).setCell ⟨r, 1, none⟩ u).setCell ⟨r, 2, none⟩ y).heap[r]? = some (.cells #[v, u, y] t (0, 0)) := by
  rw [heap_set (heap_set (heap_set h v) u) y]; rfl
theorem below_box3 {n r : Nat} {w W : World} (h : Below n w W) (hr : n ≤ r) (v u y : Value) : Below n w (((W.setCell ⟨r, 0, none⟩ v).setCell ⟨r, 1, none⟩ u).setCell ⟨r, 2, none⟩ y) :=
  ((h.setCell (p := ⟨r, 0, none⟩) hr v).setCell (p := ⟨r, 1, none⟩) hr u).setCell (p := ⟨r, 2, none⟩) hr y
theorem alloc_at (w : World) (o : Obj) (n : Nat) (h : n = w.heap.size) : (w.alloc o).heap[n]? = some o := by subst h; exact World.alloc_heap_new _ _
theorem alloc_on (w : World) (o o2 : Obj) (n : Nat) (h : w.heap[n]? = some o2) : (w.alloc o).heap[n]? = some o2 := (Below.heap_alloc _ _ _ (heap_lt h)).trans h
theorem pl_start (s : ByteArray) (w : World) :
    PlSt s w.heap.size 0 0 ⟨#[]⟩ ⟨#[]⟩ ((((((w.alloc (.cells #[.string s] 9)).alloc (.cells #[.int .i64 0, .string ⟨#[]⟩, .string ⟨#[]⟩] 39)).alloc (.cells #[.int .i64 0, .string ⟨#[]⟩, .string ⟨#[]⟩] 39)).alloc (.cells #[.int .i64 0] 3)).alloc (.cells #[fnV 63 #[pt w.heap.size, pt (w.heap.size + 3)]] 68)).alloc (.cells #[fnV 65 #[pt (w.heap.size + 4)], fnV 66 #[pt w.heap.size, pt (w.heap.size + 3), pt (w.heap.size + 2)], fnV 68 #[pt (w.heap.size + 4)], fnV 69 #[pt w.heap.size, pt (w.heap.size + 3), pt (w.heap.size + 2)], fnV 70 #[pt (w.heap.size + 4)], fnV 71 #[pt w.heap.size, pt (w.heap.size + 3), pt (w.heap.size + 2)]] 40)) := by
  refine ⟨?_, ?_, ?_, ?_, ?_, ?_⟩
  · refine alloc_on _ _ _ _ (alloc_on _ _ _ _ (alloc_on _ _ _ _ (alloc_on _ _ _ _ (alloc_on _ _ _ _ (alloc_at _ _ _ rfl)))))
  · refine alloc_on _ _ _ _ (alloc_on _ _ _ _ (alloc_on _ _ _ _ (alloc_on _ _ _ _ (alloc_at _ _ _ (by simp)))))
  · refine alloc_on _ _ _ _ (alloc_on _ _ _ _ (alloc_on _ _ _ _ (alloc_at _ _ _ (by simp))))
  · refine alloc_on _ _ _ _ (alloc_on _ _ _ _ (alloc_at _ _ _ (by simp)))
  · refine alloc_on _ _ _ _ (alloc_at _ _ _ (by simp))
  · exact alloc_at _ _ _ (by simp)
set_option maxHeartbeats 8000000 in
set_option maxRecDepth 100000 in
theorem gw_parseLine (s : ByteArray) (w : World) (hsh : w.ShapedOpen Tryz.prog) (hs : s.size ≤ 900000) : Calls Tryz.prog 32 #[.string s] w (ParPost s w) := by
  have HSH := Lib.hid hsh; clear hsh
  have HL := Lib.hid (toL_length s)
  have HP0 := Lib.hid (show PlSt s w.heap.size 0 0 ⟨#[]⟩ ⟨#[]⟩ (((((((w.alloc (.cells #[.string s] 9)).alloc (.cells #[.int .i64 0, .string ⟨#[]⟩, .string ⟨#[]⟩] 39)).alloc (.cells #[.int .i64 0, .string ⟨#[]⟩, .string ⟨#[]⟩] 39)).alloc (.cells #[.int .i64 0] 3)).alloc (.cells #[.func (.func 63) #[] #[.pointer (some ⟨w.heap.size, 0, none⟩), .pointer (some ⟨w.heap.size + 1 + 1 + 1, 0, none⟩)]] 68)).alloc (.cells #[.func (.func 65) #[] #[.pointer (some ⟨w.heap.size + 1 + 1 + 1 + 1, 0, none⟩)], .func (.func 66) #[] #[.pointer (some ⟨w.heap.size, 0, none⟩), .pointer (some ⟨w.heap.size + 1 + 1 + 1, 0, none⟩), .pointer (some ⟨w.heap.size + 1 + 1, 0, none⟩)], .func (.func 68) #[] #[.pointer (some ⟨w.heap.size + 1 + 1 + 1 + 1, 0, none⟩)], .func (.func 69) #[] #[.pointer (some ⟨w.heap.size, 0, none⟩), .pointer (some ⟨w.heap.size + 1 + 1 + 1, 0, none⟩), .pointer (some ⟨w.heap.size + 1 + 1, 0, none⟩)], .func (.func 70) #[] #[.pointer (some ⟨w.heap.size + 1 + 1 + 1 + 1, 0, none⟩)], .func (.func 71) #[] #[.pointer (some ⟨w.heap.size, 0, none⟩), .pointer (some ⟨w.heap.size + 1 + 1 + 1, 0, none⟩), .pointer (some ⟨w.heap.size + 1 + 1, 0, none⟩)]] 40))) from pl_start s w)
  have HB0 := Lib.hid (show Below w.heap.size w (((((((w.alloc (.cells #[.string s] 9)).alloc (.cells #[.int .i64 0, .string ⟨#[]⟩, .string ⟨#[]⟩] 39)).alloc (.cells #[.int .i64 0, .string ⟨#[]⟩, .string ⟨#[]⟩] 39)).alloc (.cells #[.int .i64 0] 3)).alloc (.cells #[.func (.func 63) #[] #[.pointer (some ⟨w.heap.size, 0, none⟩), .pointer (some ⟨w.heap.size + 1 + 1 + 1, 0, none⟩)]] 68)).alloc (.cells #[.func (.func 65) #[] #[.pointer (some ⟨w.heap.size + 1 + 1 + 1 + 1, 0, none⟩)], .func (.func 66) #[] #[.pointer (some ⟨w.heap.size, 0, none⟩), .pointer (some ⟨w.heap.size + 1 + 1 + 1, 0, none⟩), .pointer (some ⟨w.heap.size + 1 + 1, 0, none⟩)], .func (.func 68) #[] #[.pointer (some ⟨w.heap.size + 1 + 1 + 1 + 1, 0, none⟩)], .func (.func 69) #[] #[.pointer (some ⟨w.heap.size, 0, none⟩), .pointer (some ⟨w.heap.size + 1 + 1 + 1, 0, none⟩), .pointer (some ⟨w.heap.size + 1 + 1, 0, none⟩)], .func (.func 70) #[] #[.pointer (some ⟨w.heap.size + 1 + 1 + 1 + 1, 0, none⟩)], .func (.func 71) #[] #[.pointer (some ⟨w.heap.size, 0, none⟩), .pointer (some ⟨w.heap.size + 1 + 1 + 1, 0, none⟩), .pointer (some ⟨w.heap.size + 1 + 1, 0, none⟩)]] 40))) from ((((((Below.refl _ _).alloc (Nat.le_refl _) _).alloc (by simp) _).alloc (by simp; omega) _).alloc (by simp; omega) _).alloc (by simp; omega) _).alloc (by simp; omega) _)
  have HF0 := Lib.hid (show PlF (toL s) 0 0 0 ⟨#[]⟩ ⟨#[]⟩ from ⟨fun h => by omega, fun h => by omega, fun h => by omega, fun h => by omega, fun h => by omega, fun h => by omega, rfl⟩)
  go_enter Tryz.func32, Tryz.ntmps32
  go_wp2_with fail
  generalize ((((((w.alloc (.cells #[.string s] 9)).alloc (.cells #[.int .i64 0, .string ⟨#[]⟩, .string ⟨#[]⟩] 39)).alloc (.cells #[.int .i64 0, .string ⟨#[]⟩, .string ⟨#[]⟩] 39)).alloc (.cells #[.int .i64 0] 3)).alloc (.cells #[.func (.func 63) #[] #[.pointer (some ⟨w.heap.size, 0, none⟩), .pointer (some ⟨w.heap.size + 1 + 1 + 1, 0, none⟩)]] 68)).alloc (.cells #[.func (.func 65) #[] #[.pointer (some ⟨w.heap.size + 1 + 1 + 1 + 1, 0, none⟩)], .func (.func 66) #[] #[.pointer (some ⟨w.heap.size, 0, none⟩), .pointer (some ⟨w.heap.size + 1 + 1 + 1, 0, none⟩), .pointer (some ⟨w.heap.size + 1 + 1, 0, none⟩)], .func (.func 68) #[] #[.pointer (some ⟨w.heap.size + 1 + 1 + 1 + 1, 0, none⟩)], .func (.func 69) #[] #[.pointer (some ⟨w.heap.size, 0, none⟩), .pointer (some ⟨w.heap.size + 1 + 1 + 1, 0, none⟩), .pointer (some ⟨w.heap.size + 1 + 1, 0, none⟩)], .func (.func 70) #[] #[.pointer (some ⟨w.heap.size + 1 + 1 + 1 + 1, 0, none⟩)], .func (.func 71) #[] #[.pointer (some ⟨w.heap.size, 0, none⟩), .pointer (some ⟨w.heap.size + 1 + 1 + 1, 0, none⟩), .pointer (some ⟨w.heap.size + 1 + 1, 0, none⟩)]] 40)) = X at *
  go_loopw [22, 10, 11] (fun v22 _ _ wr => ∃ (i a : Nat) (m : Int) (nk tx : ByteArray), i ≤ 6 ∧ v22 = .int .i64 (i : Int) ∧ PlSt s w.heap.size a m nk tx wr ∧ Below w.heap.size w wr ∧ PlF (toL s) i a m nk tx) (fun v22 _ _ _ => 6 - (intOf v22).toNat)
  case atStart => exact ⟨0, 0, 0, _, _, by omega, rfl, HP0.out, HB0.out, HF0.out⟩
  case round =>
    obtain ⟨i, a, m, nk, tx, hi, rfl, hst, hbel, hf⟩ := hrel
    have HF := Lib.hid hf; have HB := Lib.hid hbel; have HST := Lib.hid hst
    have hle := hf.le hi
    rw [HL.out] at hle
    clear HP0 HB0 HF0 hf hbel
    obtain ⟨wo, rfl⟩ : ∃ wo : World, wo = wr := ⟨_, rfl⟩
    have f0 : wo.cell? ⟨w.heap.size + 1 + 1 + 1 + 1 + 1, 0, none⟩ = some (fnV 65 #[pt (w.heap.size + 4)]) := by rw [show w.heap.size + 1 + 1 + 1 + 1 + 1 = w.heap.size + 5 from rfl, Lib.cell_of_heap hst.cf]; rfl
    have f1 : wo.cell? ⟨w.heap.size + 1 + 1 + 1 + 1 + 1, 1, none⟩ = some (fnV 66 #[pt w.heap.size, pt (w.heap.size + 3), pt (w.heap.size + 2)]) := by rw [show w.heap.size + 1 + 1 + 1 + 1 + 1 = w.heap.size + 5 from rfl, Lib.cell_of_heap hst.cf]; rfl
    have f2 : wo.cell? ⟨w.heap.size + 1 + 1 + 1 + 1 + 1, 2, none⟩ = some (fnV 68 #[pt (w.heap.size + 4)]) := by rw [show w.heap.size + 1 + 1 + 1 + 1 + 1 = w.heap.size + 5 from rfl, Lib.cell_of_heap hst.cf]; rfl
    have f3 : wo.cell? ⟨w.heap.size + 1 + 1 + 1 + 1 + 1, 3, none⟩ = some (fnV 69 #[pt w.heap.size, pt (w.heap.size + 3), pt (w.heap.size + 2)]) := by rw [show w.heap.size + 1 + 1 + 1 + 1 + 1 = w.heap.size + 5 from rfl, Lib.cell_of_heap hst.cf]; rfl
    have f4 : wo.cell? ⟨w.heap.size + 1 + 1 + 1 + 1 + 1, 4, none⟩ = some (fnV 70 #[pt (w.heap.size + 4)]) := by rw [show w.heap.size + 1 + 1 + 1 + 1 + 1 = w.heap.size + 5 from rfl, Lib.cell_of_heap hst.cf]; rfl
    have f5 : wo.cell? ⟨w.heap.size + 1 + 1 + 1 + 1 + 1, 5, none⟩ = some (fnV 71 #[pt w.heap.size, pt (w.heap.size + 3), pt (w.heap.size + 2)]) := by rw [show w.heap.size + 1 + 1 + 1 + 1 + 1 = w.heap.size + 5 from rfl, Lib.cell_of_heap hst.cf]; rfl
    clear hst
    rcases (by omega : i = 0 ∨ i = 1 ∨ i = 2 ∨ i = 3 ∨ i = 4 ∨ i = 5 ∨ i = 6) with rfl | rfl | rfl | rfl | rfl | rfl | rfl
    · have HA := Lib.hid (show a = 0 from by have := HF.out.at_; simpa using this)
      by_cases h : (toL s).take 1 = [91]
      · have HC := Lib.hid (pl_a_ok HST.out hle (by omega) (by rw [HA.out]; simpa using h))
        have HN := Lib.hid (show PlF (toL s) 1 (a + 1) m nk tx from ⟨fun _ => h, fun h => by omega, fun h => by omega, fun h => by omega, fun h => by omega, fun h => by omega, by rw [HA.out]; rfl⟩)
        clear h
        go_wp2_with ((go_at_call 65; (with_reducible refine HC.out.mono ?_); rintro e w1 ⟨rfl, h1, h2⟩; have H1 := Lib.hid h1; have H2 := Lib.hid (HB.out.trans h2); clear h1 h2))
        go_roundw
        case rel => exact ⟨1, a + 1, m, nk, tx, by omega, rfl, H1.out, H2.out, HN.out⟩
        case measure => simp [intOf] <;> omega
      · have HC := Lib.hid (pl_a_no HST.out hle (by omega) (by rw [HA.out]; simpa using h))
        have HV := Lib.hid (show parL (toL s) = (noLn, a, 3) from by rw [par0 h, HA.out])
        clear h
        go_wp2_with ((go_at_call 65; (with_reducible refine HC.out.mono ?_); rintro e w1 ⟨rfl, h1, h2⟩; have H1 := Lib.hid h1; have H2 := Lib.hid (HB.out.trans h2); clear h1 h2))
        have wk : w1.cell? ⟨w.heap.size + 1 + 1 + 1, 0, none⟩ = some (.int .i64 (a : Int)) := by rw [show w.heap.size + 1 + 1 + 1 = w.heap.size + 3 from rfl, Lib.cell_of_heap H1.out.ca]; rfl
        have g0 : w1.cell? ⟨w.heap.size + 1, 0, none⟩ = some (.int .i64 0) := by rw [Lib.cell_of_heap H1.out.cr]; rfl
        have g1 : w1.cell? ⟨w.heap.size + 1, 1, none⟩ = some (.string ⟨#[]⟩) := by rw [Lib.cell_of_heap H1.out.cr]; rfl
        have g2 : w1.cell? ⟨w.heap.size + 1, 2, none⟩ = some (.string ⟨#[]⟩) := by rw [Lib.cell_of_heap H1.out.cr]; rfl
        have z0 := Lib.frozen_of_heap H1.out.cr 0
        have z1 := Lib.frozen_of_heap H1.out.cr 1
        have z2 := Lib.frozen_of_heap H1.out.cr 2
        have z3 : w.heap.size + 1 < w1.heap.size := heap_lt H1.out.cr
        have z4 : w.heap.size + 3 < w1.heap.size := heap_lt H1.out.ca
        go_region
        all_goals
          go_wp2_with fail
          exact pl_ret (box_set3 H1.out.cr _ _ _) rfl rfl rfl (ParPost.err HV.out (below_box3 H2.out (Nat.le_succ _) _ _ _).drew)
    · have HA := Lib.hid (show a = 1 from by have := HF.out.at_; simpa using this)
      by_cases h : kOf (toL s) < ((toL s).drop 1).length
      · by_cases h2 : (numE (((toL s).drop 1).take (kOf (toL s)))).2 = 0
        · have HC := Lib.hid (pl_b_ok HST.out (shaped_below HSH.out HB.out) hle hs (by rw [HA.out]; exact h) (by rw [HA.out]; exact h2))
          have HN := Lib.hid (show PlF (toL s) 2 (a + (posF 93 ((toL s).drop a) + 1)) ((numE (((toL s).drop a).take (posF 93 ((toL s).drop a)))).1 : Nat) nk tx from ⟨fun _ => HF.out.f1 (by omega), fun _ => by rw [HA.out]; exact ⟨h, h2, rfl⟩, fun h => by omega, fun h => by omega, fun h => by omega, fun h => by omega, by rw [HA.out]; show 1 + (kOf (toL s) + 1) = kOf (toL s) + 2; omega⟩)
          clear h h2
          generalize a + (posF 93 ((toL s).drop a) + 1) = a2 at *
          generalize (numE (((toL s).drop a).take (posF 93 ((toL s).drop a)))).1 = nv at *
          go_wp2_with ((go_at_call 66; (with_reducible refine HC.out.mono ?_); rintro e w1 ⟨rfl, h1, h2⟩; have H1 := Lib.hid h1; have H2 := Lib.hid (HB.out.trans h2); clear h1 h2))
          go_roundw
          case rel => exact ⟨2, a2, (nv : Int), nk, tx, by omega, rfl, H1.out, H2.out, HN.out⟩
          case measure => simp [intOf] <;> omega
        · have HC := Lib.hid (pl_b_bad HST.out (shaped_below HSH.out HB.out) hle hs (by rw [HA.out]; exact h) (by rw [HA.out]; exact h2))
          have HV := Lib.hid (show parL (toL s) = (noLn, a, (numE (((toL s).drop a).take (posF 93 ((toL s).drop a)))).2) from by rw [HA.out, par1b (by have := HF.out; exact this) h h2])
          have e1 : ((numE (((toL s).drop a).take (posF 93 ((toL s).drop a)))).2 != 0) = true := by rw [HA.out]; simp only [bne_iff_ne]; exact h2
          clear h h2
          generalize (numE (((toL s).drop a).take (posF 93 ((toL s).drop a)))).2 = er at *
          go_wp2_with ((go_at_call 66; (with_reducible refine HC.out.mono ?_); rintro e w1 ⟨rfl, h1, h2⟩; have H1 := Lib.hid h1; have H2 := Lib.hid (HB.out.trans h2); clear h1 h2))
          have wk : w1.cell? ⟨w.heap.size + 1 + 1 + 1, 0, none⟩ = some (.int .i64 (a : Int)) := by rw [show w.heap.size + 1 + 1 + 1 = w.heap.size + 3 from rfl, Lib.cell_of_heap H1.out.ca]; rfl
          have g0 : w1.cell? ⟨w.heap.size + 1, 0, none⟩ = some (.int .i64 0) := by rw [Lib.cell_of_heap H1.out.cr]; rfl
          have g1 : w1.cell? ⟨w.heap.size + 1, 1, none⟩ = some (.string ⟨#[]⟩) := by rw [Lib.cell_of_heap H1.out.cr]; rfl
          have g2 : w1.cell? ⟨w.heap.size + 1, 2, none⟩ = some (.string ⟨#[]⟩) := by rw [Lib.cell_of_heap H1.out.cr]; rfl
          have z0 := Lib.frozen_of_heap H1.out.cr 0
          have z1 := Lib.frozen_of_heap H1.out.cr 1
          have z2 := Lib.frozen_of_heap H1.out.cr 2
          have z3 : w.heap.size + 1 < w1.heap.size := heap_lt H1.out.cr
          have z4 : w.heap.size + 3 < w1.heap.size := heap_lt H1.out.ca
          go_region
          all_goals
            go_wp2_with fail
            exact pl_ret (box_set3 H1.out.cr _ _ _) rfl rfl rfl (ParPost.err HV.out (below_box3 H2.out (Nat.le_succ _) _ _ _).drew)
      · have HC := Lib.hid (pl_b_no HST.out (shaped_below HSH.out HB.out) hle hs (by rw [HA.out]; exact h))
        have HV := Lib.hid (show parL (toL s) = (noLn, a, 3) from by rw [par1 HF.out h, HA.out])
        clear h
        go_wp2_with ((go_at_call 66; (with_reducible refine HC.out.mono ?_); rintro e w1 ⟨rfl, h1, h2⟩; have H1 := Lib.hid h1; have H2 := Lib.hid (HB.out.trans h2); clear h1 h2))
        have wk : w1.cell? ⟨w.heap.size + 1 + 1 + 1, 0, none⟩ = some (.int .i64 (a : Int)) := by rw [show w.heap.size + 1 + 1 + 1 = w.heap.size + 3 from rfl, Lib.cell_of_heap H1.out.ca]; rfl
        have g0 : w1.cell? ⟨w.heap.size + 1, 0, none⟩ = some (.int .i64 0) := by rw [Lib.cell_of_heap H1.out.cr]; rfl
        have g1 : w1.cell? ⟨w.heap.size + 1, 1, none⟩ = some (.string ⟨#[]⟩) := by rw [Lib.cell_of_heap H1.out.cr]; rfl
        have g2 : w1.cell? ⟨w.heap.size + 1, 2, none⟩ = some (.string ⟨#[]⟩) := by rw [Lib.cell_of_heap H1.out.cr]; rfl
        have z0 := Lib.frozen_of_heap H1.out.cr 0
        have z1 := Lib.frozen_of_heap H1.out.cr 1
        have z2 := Lib.frozen_of_heap H1.out.cr 2
        have z3 : w.heap.size + 1 < w1.heap.size := heap_lt H1.out.cr
        have z4 : w.heap.size + 3 < w1.heap.size := heap_lt H1.out.ca
        go_region
        all_goals
          go_wp2_with fail
          exact pl_ret (box_set3 H1.out.cr _ _ _) rfl rfl rfl (ParPost.err HV.out (below_box3 H2.out (Nat.le_succ _) _ _ _).drew)
    · have HA := Lib.hid (show a = kOf (toL s) + 2 from by have := HF.out.at_; simpa using this)
      by_cases h : ((toL s).drop (kOf (toL s) + 2)).take 2 = [32, 60]
      · have HC := Lib.hid (pl_c_ok HST.out hle (by omega) (by rw [HA.out]; exact h))
        have HN := Lib.hid (show PlF (toL s) 3 (a + 2) m nk tx from ⟨fun _ => HF.out.f1 (by omega), fun _ => HF.out.f2 (by omega), fun _ => h, fun h => by omega, fun h => by omega, fun h => by omega, by rw [HA.out]; rfl⟩)
        clear h
        go_wp2_with ((go_at_call 68; (with_reducible refine HC.out.mono ?_); rintro e w1 ⟨rfl, h1, h2⟩; have H1 := Lib.hid h1; have H2 := Lib.hid (HB.out.trans h2); clear h1 h2))
        go_roundw
        case rel => exact ⟨3, a + 2, m, nk, tx, by omega, rfl, H1.out, H2.out, HN.out⟩
        case measure => simp [intOf] <;> omega
      · have HC := Lib.hid (pl_c_no HST.out hle (by omega) (by rw [HA.out]; exact h))
        have HV := Lib.hid (show parL (toL s) = (noLn, a, 3) from by rw [par2 HF.out h, HA.out])
        clear h
        go_wp2_with ((go_at_call 68; (with_reducible refine HC.out.mono ?_); rintro e w1 ⟨rfl, h1, h2⟩; have H1 := Lib.hid h1; have H2 := Lib.hid (HB.out.trans h2); clear h1 h2))
        have wk : w1.cell? ⟨w.heap.size + 1 + 1 + 1, 0, none⟩ = some (.int .i64 (a : Int)) := by rw [show w.heap.size + 1 + 1 + 1 = w.heap.size + 3 from rfl, Lib.cell_of_heap H1.out.ca]; rfl
        have g0 : w1.cell? ⟨w.heap.size + 1, 0, none⟩ = some (.int .i64 0) := by rw [Lib.cell_of_heap H1.out.cr]; rfl
        have g1 : w1.cell? ⟨w.heap.size + 1, 1, none⟩ = some (.string ⟨#[]⟩) := by rw [Lib.cell_of_heap H1.out.cr]; rfl
        have g2 : w1.cell? ⟨w.heap.size + 1, 2, none⟩ = some (.string ⟨#[]⟩) := by rw [Lib.cell_of_heap H1.out.cr]; rfl
        have z0 := Lib.frozen_of_heap H1.out.cr 0
        have z1 := Lib.frozen_of_heap H1.out.cr 1
        have z2 := Lib.frozen_of_heap H1.out.cr 2
        have z3 : w.heap.size + 1 < w1.heap.size := heap_lt H1.out.cr
        have z4 : w.heap.size + 3 < w1.heap.size := heap_lt H1.out.ca
        go_region
        all_goals
          go_wp2_with fail
          exact pl_ret (box_set3 H1.out.cr _ _ _) rfl rfl rfl (ParPost.err HV.out (below_box3 H2.out (Nat.le_succ _) _ _ _).drew)
    · have HA := Lib.hid (show a = kOf (toL s) + 4 from by have := HF.out.at_; simpa using this)
      by_cases h : jOf (toL s) < ((toL s).drop (kOf (toL s) + 4)).length
      · rcases h2 : nickB (((toL s).drop (kOf (toL s) + 4)).take (jOf (toL s))) with _ | _
        · have HC := Lib.hid (pl_d_bad HST.out (shaped_below HSH.out HB.out) hle hs (by rw [HA.out]; exact h) (by rw [HA.out]; exact h2))
          have HV := Lib.hid (show parL (toL s) = (noLn, a, 12) from by rw [par3b HF.out h h2, HA.out])
          clear h h2
          go_wp2_with ((go_at_call 69; (with_reducible refine HC.out.mono ?_); rintro e w1 ⟨rfl, h1, h2⟩; have H1 := Lib.hid h1; have H2 := Lib.hid (HB.out.trans h2); clear h1 h2))
          have wk : w1.cell? ⟨w.heap.size + 1 + 1 + 1, 0, none⟩ = some (.int .i64 (a : Int)) := by rw [show w.heap.size + 1 + 1 + 1 = w.heap.size + 3 from rfl, Lib.cell_of_heap H1.out.ca]; rfl
          have g0 : w1.cell? ⟨w.heap.size + 1, 0, none⟩ = some (.int .i64 0) := by rw [Lib.cell_of_heap H1.out.cr]; rfl
          have g1 : w1.cell? ⟨w.heap.size + 1, 1, none⟩ = some (.string ⟨#[]⟩) := by rw [Lib.cell_of_heap H1.out.cr]; rfl
          have g2 : w1.cell? ⟨w.heap.size + 1, 2, none⟩ = some (.string ⟨#[]⟩) := by rw [Lib.cell_of_heap H1.out.cr]; rfl
          have z0 := Lib.frozen_of_heap H1.out.cr 0
          have z1 := Lib.frozen_of_heap H1.out.cr 1
          have z2 := Lib.frozen_of_heap H1.out.cr 2
          have z3 : w.heap.size + 1 < w1.heap.size := heap_lt H1.out.cr
          have z4 : w.heap.size + 3 < w1.heap.size := heap_lt H1.out.ca
          go_region
          all_goals
            go_wp2_with fail
            exact pl_ret (box_set3 H1.out.cr _ _ _) rfl rfl rfl (ParPost.err HV.out (below_box3 H2.out (Nat.le_succ _) _ _ _).drew)
        · have HC := Lib.hid (pl_d_ok HST.out (shaped_below HSH.out HB.out) hle hs (by rw [HA.out]; exact h) (by rw [HA.out]; exact h2))
          have HN := Lib.hid (show PlF (toL s) 4 (a + (posF 62 ((toL s).drop a) + 1)) m (ofL (((toL s).drop a).take (posF 62 ((toL s).drop a)))) tx from ⟨fun _ => HF.out.f1 (by omega), fun _ => HF.out.f2 (by omega), fun _ => HF.out.f3 (by omega), fun _ => by rw [HA.out]; exact ⟨h, h2, rfl⟩, fun h => by omega, fun h => by omega, by rw [HA.out]; show kOf (toL s) + 4 + (jOf (toL s) + 1) = kOf (toL s) + jOf (toL s) + 5; omega⟩)
          clear h h2
          generalize a + (posF 62 ((toL s).drop a) + 1) = a2 at *
          generalize ofL (((toL s).drop a).take (posF 62 ((toL s).drop a))) = nk2 at *
          go_wp2_with ((go_at_call 69; (with_reducible refine HC.out.mono ?_); rintro e w1 ⟨rfl, h1, h2⟩; have H1 := Lib.hid h1; have H2 := Lib.hid (HB.out.trans h2); clear h1 h2))
          go_roundw
          case rel => exact ⟨4, a2, m, nk2, tx, by omega, rfl, H1.out, H2.out, HN.out⟩
          case measure => simp [intOf] <;> omega
      · have HC := Lib.hid (pl_d_no HST.out (shaped_below HSH.out HB.out) hle hs (by rw [HA.out]; exact h))
        have HV := Lib.hid (show parL (toL s) = (noLn, a, 12) from by rw [par3 HF.out h, HA.out])
        clear h
        go_wp2_with ((go_at_call 69; (with_reducible refine HC.out.mono ?_); rintro e w1 ⟨rfl, h1, h2⟩; have H1 := Lib.hid h1; have H2 := Lib.hid (HB.out.trans h2); clear h1 h2))
        have wk : w1.cell? ⟨w.heap.size + 1 + 1 + 1, 0, none⟩ = some (.int .i64 (a : Int)) := by rw [show w.heap.size + 1 + 1 + 1 = w.heap.size + 3 from rfl, Lib.cell_of_heap H1.out.ca]; rfl
        have g0 : w1.cell? ⟨w.heap.size + 1, 0, none⟩ = some (.int .i64 0) := by rw [Lib.cell_of_heap H1.out.cr]; rfl
        have g1 : w1.cell? ⟨w.heap.size + 1, 1, none⟩ = some (.string ⟨#[]⟩) := by rw [Lib.cell_of_heap H1.out.cr]; rfl
        have g2 : w1.cell? ⟨w.heap.size + 1, 2, none⟩ = some (.string ⟨#[]⟩) := by rw [Lib.cell_of_heap H1.out.cr]; rfl
        have z0 := Lib.frozen_of_heap H1.out.cr 0
        have z1 := Lib.frozen_of_heap H1.out.cr 1
        have z2 := Lib.frozen_of_heap H1.out.cr 2
        have z3 : w.heap.size + 1 < w1.heap.size := heap_lt H1.out.cr
        have z4 : w.heap.size + 3 < w1.heap.size := heap_lt H1.out.ca
        go_region
        all_goals
          go_wp2_with fail
          exact pl_ret (box_set3 H1.out.cr _ _ _) rfl rfl rfl (ParPost.err HV.out (below_box3 H2.out (Nat.le_succ _) _ _ _).drew)
    · have HA := Lib.hid (show a = kOf (toL s) + jOf (toL s) + 5 from by have := HF.out.at_; simpa using this)
      by_cases h : ((toL s).drop (kOf (toL s) + jOf (toL s) + 5)).take 1 = [32]
      · have HC := Lib.hid (pl_e_ok HST.out hle (by omega) (by rw [HA.out]; exact h))
        have HN := Lib.hid (show PlF (toL s) 5 (a + 1) m nk tx from ⟨fun _ => HF.out.f1 (by omega), fun _ => HF.out.f2 (by omega), fun _ => HF.out.f3 (by omega), fun _ => HF.out.f4 (by omega), fun _ => h, fun h => by omega, by rw [HA.out]; rfl⟩)
        clear h
        go_wp2_with ((go_at_call 70; (with_reducible refine HC.out.mono ?_); rintro e w1 ⟨rfl, h1, h2⟩; have H1 := Lib.hid h1; have H2 := Lib.hid (HB.out.trans h2); clear h1 h2))
        go_roundw
        case rel => exact ⟨5, a + 1, m, nk, tx, by omega, rfl, H1.out, H2.out, HN.out⟩
        case measure => simp [intOf] <;> omega
      · have HC := Lib.hid (pl_e_no HST.out hle (by omega) (by rw [HA.out]; exact h))
        have HV := Lib.hid (show parL (toL s) = (noLn, a, 3) from by rw [par4 HF.out h, HA.out])
        clear h
        go_wp2_with ((go_at_call 70; (with_reducible refine HC.out.mono ?_); rintro e w1 ⟨rfl, h1, h2⟩; have H1 := Lib.hid h1; have H2 := Lib.hid (HB.out.trans h2); clear h1 h2))
        have wk : w1.cell? ⟨w.heap.size + 1 + 1 + 1, 0, none⟩ = some (.int .i64 (a : Int)) := by rw [show w.heap.size + 1 + 1 + 1 = w.heap.size + 3 from rfl, Lib.cell_of_heap H1.out.ca]; rfl
        have g0 : w1.cell? ⟨w.heap.size + 1, 0, none⟩ = some (.int .i64 0) := by rw [Lib.cell_of_heap H1.out.cr]; rfl
        have g1 : w1.cell? ⟨w.heap.size + 1, 1, none⟩ = some (.string ⟨#[]⟩) := by rw [Lib.cell_of_heap H1.out.cr]; rfl
        have g2 : w1.cell? ⟨w.heap.size + 1, 2, none⟩ = some (.string ⟨#[]⟩) := by rw [Lib.cell_of_heap H1.out.cr]; rfl
        have z0 := Lib.frozen_of_heap H1.out.cr 0
        have z1 := Lib.frozen_of_heap H1.out.cr 1
        have z2 := Lib.frozen_of_heap H1.out.cr 2
        have z3 : w.heap.size + 1 < w1.heap.size := heap_lt H1.out.cr
        have z4 : w.heap.size + 3 < w1.heap.size := heap_lt H1.out.ca
        go_region
        all_goals
          go_wp2_with fail
          exact pl_ret (box_set3 H1.out.cr _ _ _) rfl rfl rfl (ParPost.err HV.out (below_box3 H2.out (Nat.le_succ _) _ _ _).drew)
    · have HA := Lib.hid (show a = kOf (toL s) + jOf (toL s) + 6 from by have := HF.out.at_; simpa using this)
      have HC := Lib.hid (pl_f HST.out (shaped_below HSH.out HB.out) hle hs)
      by_cases h : textE ((toL s).drop a) = 0
      · have HN := Lib.hid (show PlF (toL s) 6 a m nk (s.extract a s.size) from ⟨fun _ => HF.out.f1 (by omega), fun _ => HF.out.f2 (by omega), fun _ => HF.out.f3 (by omega), fun _ => HF.out.f4 (by omega), fun _ => HF.out.f5 (by omega), fun _ => by
          rw [← HA.out]; exact ⟨h, toL_inj (by rw [ext_drop, toL_ofL])⟩, by rw [HA.out]; rfl⟩)
        rw [h] at HC
        clear h
        generalize s.extract a s.size = tx2 at *
        go_wp2_with ((go_at_call 71; (with_reducible refine HC.out.mono ?_); rintro e w1 ⟨rfl, h1, h2⟩; have H1 := Lib.hid h1; have H2 := Lib.hid (HB.out.trans h2); clear h1 h2))
        go_roundw
        case rel => exact ⟨6, a, m, nk, tx2, by omega, rfl, H1.out, H2.out, HN.out⟩
        case measure => simp [intOf] <;> omega
      · have HV := Lib.hid (show parL (toL s) = (noLn, a, textE ((toL s).drop a)) from by rw [HA.out] at h ⊢; exact par5 HF.out h)
        have e1 : (textE ((toL s).drop a) != 0) = true := by simp only [bne_iff_ne]; exact h
        clear h
        generalize textE ((toL s).drop a) = er at *
        go_wp2_with ((go_at_call 71; (with_reducible refine HC.out.mono ?_); rintro e w1 ⟨rfl, h1, h2⟩; have H1 := Lib.hid h1; have H2 := Lib.hid (HB.out.trans h2); clear h1 h2))
        have wk : w1.cell? ⟨w.heap.size + 1 + 1 + 1, 0, none⟩ = some (.int .i64 (a : Int)) := by rw [show w.heap.size + 1 + 1 + 1 = w.heap.size + 3 from rfl, Lib.cell_of_heap H1.out.ca]; rfl
        have g0 : w1.cell? ⟨w.heap.size + 1, 0, none⟩ = some (.int .i64 0) := by rw [Lib.cell_of_heap H1.out.cr]; rfl
        have g1 : w1.cell? ⟨w.heap.size + 1, 1, none⟩ = some (.string ⟨#[]⟩) := by rw [Lib.cell_of_heap H1.out.cr]; rfl
        have g2 : w1.cell? ⟨w.heap.size + 1, 2, none⟩ = some (.string ⟨#[]⟩) := by rw [Lib.cell_of_heap H1.out.cr]; rfl
        have z0 := Lib.frozen_of_heap H1.out.cr 0
        have z1 := Lib.frozen_of_heap H1.out.cr 1
        have z2 := Lib.frozen_of_heap H1.out.cr 2
        have z3 : w.heap.size + 1 < w1.heap.size := heap_lt H1.out.cr
        have z4 : w.heap.size + 3 < w1.heap.size := heap_lt H1.out.ca
        go_region
        all_goals
          go_wp2_with fail
          exact pl_ret (box_set3 H1.out.cr _ _ _) rfl rfl rfl (ParPost.err HV.out (below_box3 H2.out (Nat.le_succ _) _ _ _).drew)
    · have HV := Lib.hid (par6 HF.out)
      have HM := Lib.hid (HF.out.f2 (by omega)).2.2
      have HNK := Lib.hid (HF.out.f4 (by omega)).2.2
      have HTX := Lib.hid (HF.out.f6 (by omega)).2
      have l0 : wo.cell? ⟨w.heap.size + 1 + 1, 0, none⟩ = some (.int .i64 m) := by rw [show w.heap.size + 1 + 1 = w.heap.size + 2 from rfl, Lib.cell_of_heap HST.out.cl]; rfl
      have l1 : wo.cell? ⟨w.heap.size + 1 + 1, 1, none⟩ = some (.string nk) := by rw [show w.heap.size + 1 + 1 = w.heap.size + 2 from rfl, Lib.cell_of_heap HST.out.cl]; rfl
      have l2 : wo.cell? ⟨w.heap.size + 1 + 1, 2, none⟩ = some (.string tx) := by rw [show w.heap.size + 1 + 1 = w.heap.size + 2 from rfl, Lib.cell_of_heap HST.out.cl]; rfl
      have g0 : wo.cell? ⟨w.heap.size + 1, 0, none⟩ = some (.int .i64 0) := by rw [Lib.cell_of_heap HST.out.cr]; rfl
      have g1 : wo.cell? ⟨w.heap.size + 1, 1, none⟩ = some (.string ⟨#[]⟩) := by rw [Lib.cell_of_heap HST.out.cr]; rfl
      have g2 : wo.cell? ⟨w.heap.size + 1, 2, none⟩ = some (.string ⟨#[]⟩) := by rw [Lib.cell_of_heap HST.out.cr]; rfl
      have z0 := Lib.frozen_of_heap HST.out.cr 0
      have z1 := Lib.frozen_of_heap HST.out.cr 1
      have z2 := Lib.frozen_of_heap HST.out.cr 2
      go_wp2_with fail
      exact pl_ret (box_set3 HST.out.cr _ _ _) rfl rfl rfl ⟨by rw [HV.out, HM.out, HNK.out, HTX.out]; rfl, below_box3 HB.out (Nat.le_succ _) _ _ _⟩
end Go.Proofs.YtghjgbkhhoaebaaGreatDoor
