/- The law's conversions of an input: back. -/
import Derived.Test.YtannhfnpigiggaaGreatDoorShW
namespace Go.Proofs.YtannhfnpigiggaaGreatDoor
set_option linter.unusedSimpArgs false
set_option linter.unusedVariables false
open Go.RowKit
attribute [local go_sem ↓] wp_bd ex_bd

/-- What the load of an array of 16 bytes yields, as one word. -/
def OkB6 (w : World) (v : Value) : Prop := ∃ u, (Instr.loadAt 22 v).run Tryz.prog w = .ok u w
noncomputable def b6Of (w : World) (v : Value) : Value := by
  classical exact if h : OkB6 w v then h.choose else undef
theorem b6_of {w : World} {v u : Value} (h : (Instr.loadAt 22 v).run Tryz.prog w = .ok u w) : OkB6 w v ∧ b6Of w v = u := by
  have hk : OkB6 w v := ⟨u, h⟩
  refine ⟨hk, ?_⟩
  have h2 := h.symm.trans hk.choose_spec
  unfold b6Of
  rw [dif_pos hk]
  injection h2 with h2 _
  exact h2.symm
theorem wp_load_b6 {d : Option Tmp} {ty : TypeId} {pos : String} {af : Array Edge} {x : Operand} {a : Act} {w : World} {K : Act → World → Prop} {Q : Exit → Act → World → Prop} {g : Option (Nat × Bool)} (h : OkB6 w (a.eval x)) :
    Oper.wp Tryz.prog { dst := d, op := .load 22 x, type := ty, pos := pos, after := af, guard := g } a w K Q = K (a.put d (b6Of w (a.eval x))) w := by
  obtain ⟨u, hu⟩ := h
  rw [(b6_of hu).2]
  unfold Oper.wp execOp
  simp only [hu, Sem.run_bind, Sem.run_pure, Result.andThen_ok]
  rfl
attribute [local go_sem ↓] wp_load_b6
theorem size_B6 : (Tryz.prog.info? 22).map (·.size) = some 16 := by kernel_rfl
theorem back_ret {Q : Ending → World → Prop} {W : World} {r : Nat} {RK : Array Value} {T : Array Value} (hb : W.heap[r]? = some (.cells RK 26 (0, 0))) (hs : RK.size = 25)
    (t2 : T[2]? = some (.pointer (some ⟨r, 0, none⟩))) (hQ : Q (.returned (.agg RK)) W) :
    bodyPost Tryz.prog Tryz.f14 Q .ret { tmps := T, defers := [] } W := by
  have hl := run_loadVar_mid (P := Tryz.prog) W r 0 26 RK.toList _ (fun j v hv => by rw [Nat.zero_add, Lib.cell_of_heap hb]; simpa using hv) Tryz.underlying26 rfl (by rw [show RK.toList.length = 25 from by simpa using hs]; kernel_rfl)
  refine bodyPost_ret (v := .agg RK) ?_ rfl hQ
  simp only [Array.toArray_toList] at hl
  have ha : (asAddr (.pointer (some ⟨r, 0, none⟩))).run Tryz.prog W = .ok ⟨r, 0, none⟩ W := rfl
  simp [results, Tryz.f14, t2, ha, hl]
set_option maxHeartbeats 16000000 in
set_option maxRecDepth 100000 in
theorem law_back (N S B : ByteArray) (f : Nat → Int) (A : Option Addr) (gn gc : Nat) (a b c d e : Int) (w : World) :
    Calls Tryz.prog 14 #[.agg (inX N S B f (.slice A gn gc) a b c d e)] w fun e' w' => e' = .returned (.agg (inX N S B f (.slice A gn gc) a b c d e)) ∧ Below w.heap.size w w' := by
  obtain ⟨IC, hIC⟩ : ∃ IC, inX N S B f (.slice A gn gc) a b c d e = IC := ⟨_, rfl⟩
  rw [hIC]
  have HIC := Lib.hid hIC
  have hrs : IC.size = 25 := by rw [← hIC]; rfl
  have hon : IC.all (·.oneCell') = true := by rw [← hIC]; simp [Value.oneCell']
  clear hIC
  obtain ⟨q0, q1, q2, q3⟩ := two_new w (.cells IC 35) (.cells inZ 26)
  have Q0 := Lib.hid q0
  have Q1 := Lib.hid q1
  have Q2 := Lib.hid q2
  clear q0 q1 q2 q3
  go_enter Tryz.func14, Tryz.ntmps14
  go_upto_region 1 with fail
  generalize (w.alloc (.cells IC 35)).alloc (.cells inZ 26) = W at *
  have c0 : W.cell? ⟨w.heap.size, 0, none⟩ = some (.string N) := by rw [Lib.cell_of_heap Q0.out, ← HIC.out]; rfl
  have c1 : W.cell? ⟨w.heap.size, 1, none⟩ = some (.string S) := by rw [Lib.cell_of_heap Q0.out, ← HIC.out]; rfl
  have c2 : W.cell? ⟨w.heap.size, 2, none⟩ = some (.string B) := by rw [Lib.cell_of_heap Q0.out, ← HIC.out]; rfl
  have c19 : W.cell? ⟨w.heap.size, 19, none⟩ = some (.slice A gn gc) := by rw [Lib.cell_of_heap Q0.out, ← HIC.out]; rfl
  have c20 : W.cell? ⟨w.heap.size, 20, none⟩ = some (.int .i64 a) := by rw [Lib.cell_of_heap Q0.out, ← HIC.out]; rfl
  have c21 : W.cell? ⟨w.heap.size, 21, none⟩ = some (.int .i64 b) := by rw [Lib.cell_of_heap Q0.out, ← HIC.out]; rfl
  have c22 : W.cell? ⟨w.heap.size, 22, none⟩ = some (.int .i64 c) := by rw [Lib.cell_of_heap Q0.out, ← HIC.out]; rfl
  have c23 : W.cell? ⟨w.heap.size, 23, none⟩ = some (.int .i64 d) := by rw [Lib.cell_of_heap Q0.out, ← HIC.out]; rfl
  have c24 : W.cell? ⟨w.heap.size, 24, none⟩ = some (.int .i64 e) := by rw [Lib.cell_of_heap Q0.out, ← HIC.out]; rfl
  have hq0 := Q0.out
  rw [← HIC.out] at hq0
  have hra := au_range hq0
  obtain ⟨L, hLL⟩ : ∃ L : List Value, (auA f).toList = L := ⟨_, rfl⟩
  rw [hLL] at hra
  obtain ⟨o1, e1⟩ := b6_of (range_loadS (T := 22) hra Tryz.underlying22 rfl (by rw [← hLL]; exact size_B6))
  obtain ⟨ob, eb⟩ := bd_of (t := 26) (ps := #[(0, .string N), (1, .string S), (2, .string B), (3, .agg L.toArray), (4, .slice A gn gc), (5, .int .i64 a), (6, .int .i64 b), (7, .int .i64 c), (8, .int .i64 d), (9, .int .i64 e)]) (u := .agg (inX N S B f (.slice A gn gc) a b c d e)) (fun w => by subst hLL; kernel_rfl)
  rw [HIC.out] at eb
  have hst2 : (storeCells ⟨w.heap.size + 1, 0, none⟩ IC.toList 0).run Tryz.prog W = .ok () (W.setRow (w.heap.size + 1) IC) := by
    have h := run_storeCells_from (P := Tryz.prog) (w.heap.size + 1) 26 IC.toList 0 inZ W Q1.out (by simp [hrs]) (fun v hv => (Array.all_eq_true_iff_forall_mem.1 hon) v (by simpa using hv))
    simpa using h
  have HFIN := Lib.hid (show (W.setRow (w.heap.size + 1) IC).heap[w.heap.size + 1]? = some (.cells IC 26 (0, 0)) from Go.setRow_heap W _ _ _ _ _ Q1.out)
  have HBF := Lib.hid (show Below w.heap.size w (W.setRow (w.heap.size + 1) IC) from by
    have hb := Q2.out
    exact ⟨hb.os, hb.tape, hb.output, by rw [Go.setRow_size]; exact hb.size, fun j hj => (Go.setRow_other W _ j _ (by omega)).trans (hb.block j hj)⟩)
  clear hq0 hra hLL hon
  go_wp2_with fail
  exact back_ret HFIN.out hrs rfl ⟨rfl, HBF.out⟩
end Go.Proofs.YtannhfnpigiggaaGreatDoor
