/- The reference's best; words for its table. -/
import Derived.Test.YtcknomaaikeebaaDoorWmQ7
import Derived.Test.YtcknomaaikeebaaDoorWm8a
namespace Go.Proofs.YtcknomaaikeebaaDoor
set_option linter.unusedSimpArgs false
set_option linter.unusedVariables false
open Go.RowKit

/-- A text that may be missing, as best has it: a string and a mark. -/
def sOf (o : Option Bs) : ByteArray := ofL (o.getD [])
theorem sOf_toL (o : Option Bs) : toL (sOf o) = o.getD [] := toL_ofL _
set_option maxHeartbeats 2000000 in
theorem rf_best (oa ob : Option Bs) (B : ByteArray) (w : World) (ha : (oa.getD []).length ≤ 1000) (hB : ∀ t, ob = some t → toL B = t) (hb : B.size ≤ 1000) :
    Calls Tryd.prog 20 #[.string (sOf oa), .bool oa.isSome, .string B, .bool ob.isSome] w fun e w' => e = .returned (.tuple #[.string (sOf (tryF oa [] ob)), .bool (tryF oa [] ob).isSome]) ∧ w = w' := by
  have hA := sOf_toL oa
  have hAs : (sOf oa).size ≤ 1000 := by rw [← toL_length, hA]; exact ha
  cases ob with
  | none =>
    have HF := Lib.hid (show tryF oa [] none = oa from rfl)
    rw [HF.out]
    clear hB ha hA
    generalize sOf oa = A at *
    generalize oa.isSome = k at *
    go_enter Tryd.func20, Tryd.ntmps20
    go_wp2_with fail
    go_ret2
    exact ⟨rfl, rfl⟩
  | some t =>
    have hBt := hB t rfl
    clear hB
    cases oa with
    | none =>
      have HS := Lib.hid (show sOf (tryF none [] (some t)) = B from toL_inj (by rw [sOf_toL, hBt]; rfl))
      rw [HS.out]
      clear hBt hA ha
      generalize sOf none = A at *
      go_enter Tryd.func20, Tryd.ntmps20
      go_wp2_with fail
      go_ret2
      exact ⟨rfl, rfl⟩
    | some a =>
      simp only [Option.getD_some] at hA ha
      have HS1 := Lib.hid (fun (h : slB t a = false) => show tryF (some a) [] (some t) = some a from by simp [tryF, h])
      have HS2 := Lib.hid (fun (h : slB t a = true) => show tryF (some a) [] (some t) = some t from by simp [tryF, h])
      have hsome : (tryF (some a) [] (some t)).isSome = true := by unfold tryF; dsimp only; split <;> rfl
      have HB1 := Lib.hid (fun (h : slB t a = false) => show sOf (tryF (some a) [] (some t)) = sOf (some a) from by rw [HS1.out h])
      have HB2 := Lib.hid (fun (h : slB t a = true) => show sOf (tryF (some a) [] (some t)) = B from toL_inj (by rw [HS2.out h, sOf_toL, hBt]; rfl))
      rw [hsome]
      clear hsome HS1 HS2
      generalize sOf (tryF (some a) [] (some t)) = R at *
      generalize sOf (some a) = A at *
      subst hBt hA
      have hla : (toL A).length = A.size := toL_length A
      have hlb : (toL B).length = B.size := toL_length B
      have HSL := Lib.hid (show slB (toL B) (toL A) = (decide (B.size < A.size) || (decide (B.size = A.size) && lexB (toL B) (toL A))) from by unfold slB; rw [hla, hlb])
      clear hla hlb ha
      rcases Nat.lt_trichotomy A.size B.size with hlt | heq | hgt
      · have i1 : (A.size : Int) < (B.size : Int) := by omega
        have HR := Lib.hid (HB1.out (by rw [HSL.out]; simp; omega))
        go_enter Tryd.func20, Tryd.ntmps20
        go_wp2_with fail
        go_ret2
        exact ⟨by rw [HR.out]; rfl, rfl⟩
      · have i1 : ((A.size : Int) == (B.size : Int)) = true := by rw [beq_iff_eq]; omega
        have i2 : (B.size : Int) ≤ (A.size : Int) := by omega
        have i3 : decide (A.size < B.size) = false := by simp; omega
        have HLB := Lib.hid (show slB (toL B) (toL A) = lexB (toL B) (toL A) from by rw [HSL.out]; simp [heq])
        rcases hlex : lexB (toL A) (toL B) with _ | _
        · rcases lexB_total (toL A) (toL B) with hE | hE | hE
          · obtain rfl : A = B := toL_inj hE
            have HR := Lib.hid (HB1.out (by rw [HLB.out, lexB_irrefl]))
            have g1 : (A.toList == A.toList) = true := by simp
            clear hE hlex heq
            go_enter Tryd.func20, Tryd.ntmps20
            go_wp2_with fail
            go_ret2
            exact ⟨by rw [HR.out]; rfl, rfl⟩
          · rw [hE] at hlex; cases hlex
          · have HR := Lib.hid (HB2.out (by rw [HLB.out, hE]))
            have g1 : (A.toList == B.toList) = false := by
              rw [beq_toList]; exact decide_eq_false fun e => by rw [e, lexB_irrefl] at hE; cases hE
            rw [← lexB_less, show toL A = A.toList from (ByteArray.toList_eq _).symm, show toL B = B.toList from (ByteArray.toList_eq _).symm] at hlex
            clear hE heq
            go_enter Tryd.func20, Tryd.ntmps20
            go_wp2_with fail
            go_ret2
            exact ⟨by rw [HR.out]; rfl, rfl⟩
        · have HR := Lib.hid (HB1.out (by
            rw [HLB.out]
            rcases h : lexB (toL B) (toL A) with _ | _
            · rfl
            · have := lexB_trans _ _ _ hlex h; rw [lexB_irrefl] at this; cases this))
          rw [← lexB_less, show toL A = A.toList from (ByteArray.toList_eq _).symm, show toL B = B.toList from (ByteArray.toList_eq _).symm] at hlex
          clear heq
          go_enter Tryd.func20, Tryd.ntmps20
          go_wp2_with fail
          go_ret2
          exact ⟨by rw [HR.out]; rfl, rfl⟩
      · have i1 : (B.size : Int) < (A.size : Int) := by omega
        have i2 : ((A.size : Int) == (B.size : Int)) = false := beq_eq_false_iff_ne.2 (by omega)
        have HR := Lib.hid (HB2.out (by rw [HSL.out]; simp; omega))
        go_enter Tryd.func20, Tryd.ntmps20
        go_wp2_with fail
        go_ret2
        exact ⟨by rw [HR.out]; rfl, rfl⟩

/-- A row that is filled from its end. -/
def pRow (F : Nat → Value) (z : Value) (n k0 : Nat) : List Value := (List.range (n + 1)).map fun k => if k0 ≤ k then F k else z
theorem pRow_len (F : Nat → Value) (z : Value) (n k0 : Nat) : (pRow F z n k0).length = n + 1 := by simp [pRow]
theorem pRow_none (F : Nat → Value) (z : Value) (n : Nat) : List.replicate (n + 1) z = pRow F z n (n + 1) := by
  apply List.ext_getElem
  · simp [pRow]
  · intro k h1 h2
    have hk : k < n + 1 := by simpa using h1
    simp [pRow, show ¬ n + 1 ≤ k by omega]
theorem pRow_set (F : Nat → Value) (z : Value) (n k : Nat) (hk : k ≤ n) (v : Value) (hv : v = F k) : (pRow F z n (k + 1)).set k v = pRow F z n k := by
  subst hv
  apply List.ext_getElem
  · simp [pRow]
  · intro j h1 h2
    rw [List.getElem_set]
    by_cases e : k = j
    · subst e; simp [pRow]
    · rw [if_neg e]
      by_cases h : k ≤ j
      · simp [pRow, h, show k + 1 ≤ j by omega]
      · simp [pRow, h, show ¬ k + 1 ≤ j by omega]
theorem pRow_get (F : Nat → Value) (z : Value) (n k0 k : Nat) (h0 : k0 ≤ k) (hk : k ≤ n) : (pRow F z n k0)[k]? = some (F k) := by
  simp [pRow, List.getElem?_range (show k < n + 1 by omega), h0]
theorem pRow_at (F : Nat → Value) (z : Value) (n k0 k : Nat) (hk : k ≤ n) : ∃ v, (pRow F z n k0)[k]? = some v := by
  exact ⟨_, List.getElem?_eq_getElem (by rw [pRow_len]; omega)⟩
theorem pRow_congr (F G : Nat → Value) (z : Value) (n k0 : Nat) (h : ∀ k, k0 ≤ k → k ≤ n → F k = G k) : pRow F z n k0 = pRow G z n k0 := by
  unfold pRow
  apply List.map_congr_left
  intro k hk
  by_cases e : k0 ≤ k
  · rw [if_pos e, if_pos e, h k e (by have := List.mem_range.1 hk; omega)]
  · rw [if_neg e, if_neg e]
/-- Block b of type T holds the cells l. -/
def LAt (w : World) (T : TypeId) (b : Nat) (l : List Value) : Prop := w.heap[b]? = some (.cells l.toArray T (0, 0))
theorem LAt.lt {w : World} {T : TypeId} {b : Nat} {l : List Value} (h : LAt w T b l) : b < w.heap.size := heap_lt h
theorem LAt.cell {w : World} {T : TypeId} {b : Nat} {l : List Value} (h : LAt w T b l) {k : Nat} {v : Value} (hv : l[k]? = some v) : w.cell? ⟨b, k, none⟩ = some v := by
  rw [Lib.cell_of_heap h]; simpa using hv
theorem LAt.free {w : World} {T : TypeId} {b : Nat} {l : List Value} (h : LAt w T b l) (k : Nat) : w.frozen? ⟨b, k, none⟩ = false := Lib.frozen_of_heap h k
theorem LAt.set {w : World} {T : TypeId} {b : Nat} {l : List Value} (h : LAt w T b l) (k : Nat) (v : Value) : LAt (w.setCell ⟨b, k, none⟩ v) T b (l.set k v) := by
  unfold LAt
  rw [heap_set h]
  congr 2
  apply Array.ext'
  simp
theorem LAt.other {w : World} {T : TypeId} {b : Nat} {l : List Value} (h : LAt w T b l) {c k : Nat} {v : Value} (hne : b ≠ c) : LAt (w.setCell ⟨c, k, none⟩ v) T b l :=
  (heap_setCell_other w ⟨c, k, none⟩ b v hne).trans h
theorem LAt.below {w w' : World} {T : TypeId} {b : Nat} {l : List Value} (h : LAt w T b l) (hb : Below w.heap.size w w') : LAt w' T b l := (hb.block _ (heap_lt h)).trans h
theorem LAt.ne {w : World} {T U : TypeId} {b c : Nat} {l m : List Value} (h : LAt w T b l) (g : LAt w U c m) (hT : T ≠ U) : b ≠ c := fun e => by
  subst e; unfold LAt at *; rw [h] at g; injection g with g; injection g with _ g _; exact hT g
theorem LAt.new (w : World) (T : TypeId) (l : List Value) : LAt (w.alloc (.cells l.toArray T)) T w.heap.size l := heap_alloc_new w _
theorem made_one {v : Value} (hv : v.cells = #[v]) (n : Nat) : madeCells v.cells n = (List.replicate n v).toArray := by
  rw [hv]
  apply Array.ext'
  apply List.ext_getElem
  · simp [madeCells]
  · intro k h1 h2
    have : k % 1 = 0 := by omega
    simp [madeCells, this]
theorem run_mk {t e : TypeId} {z : Value} {by_ : Nat} (hu : Tryd.prog.underlying t = some (.slice e)) (hi : (Tryd.prog.info? e).map (fun i => (i.zero, i.size, i.bytes)) = some (some z, 1, by_)) (hz : z.cells = #[z]) (hby : by_ ≤ 24) (n : Nat) (l : Int) (hl : l = n) (hn : n ≤ 1000000) (w : World) :
    (Instr.makeSlice t (.int .i64 l) (.int .i64 l)).run Tryd.prog w = .ok (.slice (some ⟨w.heap.size, 0, none⟩) n n) (w.alloc (.cells (List.replicate n z).toArray e)) := by
  subst hl
  obtain ⟨i, hi', h0, h1, h2⟩ := info_parts hi
  have h25 : i.bytes * n ≤ 24 * n := Nat.mul_le_mul_right _ (by omega)
  rw [run_makeSlice (P := Tryd.prog) w t e i z hu hi' h0 .i64 .i64 n n (by omega) (by omega) (by rw [h1]; simp; omega) (by
    have : ((i.bytes * n : Nat) : Int) ≤ ((24 * n : Nat) : Int) := by omega
    simp only [Int.natCast_mul] at this
    omega) (by omega), h1, Int.toNat_natCast, Nat.mul_one, made_one hz]
theorem mk_ss (n : Nat) (l : Int) (hl : l = n) (hn : n ≤ 1000000) (w : World) : (Instr.makeSlice 65 (.int .i64 l) (.int .i64 l)).run Tryd.prog w = .ok (.slice (some ⟨w.heap.size, 0, none⟩) n n) (w.alloc (.cells (List.replicate n (.slice none 0 0)).toArray 54)) :=
  run_mk (z := .slice none 0 0) (by_ := 24) Tryd.underlying65 (by kernel_rfl) rfl (by omega) n l hl hn w
theorem mk_bb (n : Nat) (l : Int) (hl : l = n) (hn : n ≤ 1000000) (w : World) : (Instr.makeSlice 66 (.int .i64 l) (.int .i64 l)).run Tryd.prog w = .ok (.slice (some ⟨w.heap.size, 0, none⟩) n n) (w.alloc (.cells (List.replicate n (.slice none 0 0)).toArray 67)) :=
  run_mk (z := .slice none 0 0) (by_ := 24) Tryd.underlying66 (by kernel_rfl) rfl (by omega) n l hl hn w
theorem mk_s (n : Nat) (l : Int) (hl : l = n) (hn : n ≤ 1000000) (w : World) : (Instr.makeSlice 54 (.int .i64 l) (.int .i64 l)).run Tryd.prog w = .ok (.slice (some ⟨w.heap.size, 0, none⟩) n n) (w.alloc (.cells (List.replicate n (.string ⟨#[]⟩)).toArray 9)) :=
  run_mk (z := .string ⟨#[]⟩) (by_ := 16) Tryd.underlying54 (by kernel_rfl) rfl (by omega) n l hl hn w
theorem mk_b (n : Nat) (l : Int) (hl : l = n) (hn : n ≤ 1000000) (w : World) : (Instr.makeSlice 67 (.int .i64 l) (.int .i64 l)).run Tryd.prog w = .ok (.slice (some ⟨w.heap.size, 0, none⟩) n n) (w.alloc (.cells (List.replicate n (.bool false)).toArray 4)) :=
  run_mk (z := .bool false) (by_ := 1) Tryd.underlying67 (by kernel_rfl) rfl (by omega) n l hl hn w
end Go.Proofs.YtcknomaaikeebaaDoor
