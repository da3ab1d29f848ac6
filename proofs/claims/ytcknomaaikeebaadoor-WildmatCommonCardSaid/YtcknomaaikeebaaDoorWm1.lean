/- Walks over the elements of patterns. -/
import Derived.Test.YtcknomaaikeebaaDoorAsc
import Derived.Test.YtcknomaaikeebaaDoorShelf
import Derived.Test.YtcknomaaikeebaaDoorWmL
import Derived.Test.YtcknomaaikeebaaDoorMem3
import Derived.Test.YtcknomaaikeebaaDoorFindP
import Derived.Handy
namespace Go.Proofs.YtcknomaaikeebaaDoor
set_option linter.unusedSimpArgs false
set_option linter.unusedVariables false
open Go.RowKit

/-- An element as the program holds it. -/
def emV : Em → Value
  | .lit c => .iface 48 (.string (ofL [c]))
  | .single => .iface 42 (.agg #[])
  | .star => .iface 43 (.agg #[])
  | .cls l => .iface 44 (.string (ofL l))

theorem idx_byte (s : ByteArray) (c : UInt8) (w : World) : Calls Tryd.prog 12 #[.string s, .int .u8 (num c)] w fun e w' => e = .returned (.int .i64 (Lib.indexByte (toL s) c)) ∧ w = w' := by
  refine (Tryd.strings_IndexByte s (num c) w).mono ?_
  rintro e w' ⟨rfl, rfl⟩
  refine ⟨ret_int ?_, rfl⟩
  have : (num c).toNat.toUInt8 = c := by simp [num]
  rw [this]; rfl


theorem ta_no (T : TypeId) (v : Value) (w : World) (h : T = 48 ∨ T = 42 ∨ T = 44) : (Instr.typeAssert (.iface T v) 72 43 true).run Tryd.prog w = .ok (.tuple #[.agg #[], .bool false]) w := by
  rcases h with rfl | rfl | rfl <;> kernel_rfl
theorem ta_yes (w : World) : (Instr.typeAssert (.iface 43 (.agg #[])) 72 43 true).run Tryd.prog w = .ok (.tuple #[.agg #[], .bool true]) w := by
  kernel_rfl
set_option maxHeartbeats 1000000 in
set_option maxRecDepth 100000 in
theorem em_isStar (x : Em) (w : World) : Calls Tryd.prog 23 #[emV x] w fun e w' => e = .returned (.bool x.isStar) ∧ Below w.heap.size w w' := by
  have h1 := fun v w => ta_no 48 v w (by simp)
  have h2 := fun v w => ta_no 42 v w (by simp)
  have h3 := fun v w => ta_no 44 v w (by simp)
  have h4 := ta_yes
  cases x <;> simp only [emV]
  all_goals
    go_enter Tryd.func23, Tryd.ntmps23
    go_wp2_with fail
    go_ret
    exact ⟨rfl, (Below.refl _ _).alloc (Nat.le_refl _) _⟩

set_option maxHeartbeats 1000000 in
set_option maxRecDepth 100000 in
theorem em_chars1 (c : Em) (w : World) : Calls Tryd.prog 68 #[.agg #[]] w fun e w' => e = .returned (.string (ofL nameC)) ∧ Below w.heap.size w w' := by
  go_enter Tryd.func68, Tryd.ntmps68
  go_wp2_with fail
  go_ret
  exact ⟨rfl, (Below.refl _ _).alloc (Nat.le_refl _) _⟩
set_option maxHeartbeats 1000000 in
set_option maxRecDepth 100000 in
theorem em_chars2 (c : Em) (w : World) : Calls Tryd.prog 69 #[.agg #[]] w fun e w' => e = .returned (.string (ofL nameC)) ∧ Below w.heap.size w w' := by
  go_enter Tryd.func69, Tryd.ntmps69
  go_wp2_with fail
  go_ret
  exact ⟨rfl, (Below.refl _ _).alloc (Nat.le_refl _) _⟩
set_option maxHeartbeats 1000000 in
set_option maxRecDepth 100000 in
theorem em_chars3 (s : ByteArray) (w : World) : Calls Tryd.prog 71 #[.string s] w fun e w' => e = .returned (.string s) ∧ Below w.heap.size w w' := by
  go_enter Tryd.func71, Tryd.ntmps71
  go_wp2_with fail
  go_ret
  exact ⟨rfl, (Below.refl _ _)⟩
set_option maxHeartbeats 1000000 in
set_option maxRecDepth 100000 in
theorem em_chars4 (s : ByteArray) (w : World) : Calls Tryd.prog 70 #[.string s] w fun e w' => e = .returned (.string s) ∧ Below w.heap.size w w' := by
  go_enter Tryd.func70, Tryd.ntmps70
  go_wp2_with fail
  go_ret
  exact ⟨rfl, (Below.refl _ _)⟩

theorem index_has (l : Bs) (c : UInt8) : decide (0 ≤ Lib.indexByte l c) = l.contains c := by
  rw [Bool.eq_iff_iff, decide_eq_true_iff, List.contains_iff_mem]
  have hge := Lib.indexByte_ge l c
  constructor
  · intro h
    obtain ⟨o, ho⟩ : ∃ o : Nat, Lib.indexByte l c = o := ⟨(Lib.indexByte l c).toNat, by omega⟩
    exact List.mem_of_getElem? (Lib.indexByte_some ho).1
  · intro h
    rcases Int.lt_or_le (Lib.indexByte l c) 0 with h' | h'
    · obtain ⟨k, hk, e⟩ := List.getElem_of_mem h
      exact absurd (by rw [List.getElem?_eq_getElem hk, e]) (Lib.indexByte_none (l := l) (c := c) (by omega) k)
    · exact h'
set_option maxHeartbeats 1000000 in
set_option maxRecDepth 100000 in
theorem em_stands (x : Em) (c : UInt8) (w : World) : Calls Tryd.prog 22 #[emV x, .int .u8 (num c)] w fun e w' => e = .returned (.bool (x.chars.contains c)) ∧ Below w.heap.size w w' := by
  cases x <;> simp only [emV]
  all_goals
    go_enter Tryd.func22, Tryd.ntmps22
    go_wp2_with fail
    (first
      | (with_reducible refine (em_chars1 .star _).mono ?_)
      | (with_reducible refine (em_chars2 .star _).mono ?_)
      | (with_reducible refine (em_chars3 _ _).mono ?_)
      | (with_reducible refine (em_chars4 _ _).mono ?_))
    rintro e w1 ⟨rfl, hb1⟩
    go_wp2_with fail
    (with_reducible refine (idx_byte _ c _).mono ?_)
    rintro e w' ⟨rfl, rfl⟩
    go_wp2_with fail
    go_ret
    exact ⟨ret_bool (index_has _ _), hb1⟩
theorem nil_toList (l : Bs) : (ofL l).toList.isEmpty = l.isEmpty := by
  rw [ByteArray.toList_eq]; simp [ofL]
set_option maxHeartbeats 1000000 in
set_option maxRecDepth 100000 in
theorem em_empty (x : Em) (w : World) : Calls Tryd.prog 29 #[emV x] w fun e w' => e = .returned (.bool x.chars.isEmpty) ∧ Below w.heap.size w w' := by
  cases x <;> simp only [emV]
  all_goals
    go_enter Tryd.func29, Tryd.ntmps29
    go_wp2_with fail
    (first
      | (with_reducible refine (em_chars1 .star _).mono ?_)
      | (with_reducible refine (em_chars2 .star _).mono ?_)
      | (with_reducible refine (em_chars3 _ _).mono ?_)
      | (with_reducible refine (em_chars4 _ _).mono ?_))
    rintro e w1 ⟨rfl, hb1⟩
    go_wp2_with fail
    go_ret
    exact ⟨ret_bool (nil_toList _), hb1⟩

abbrev emsV (es : List Em) : List Value := es.map emV
theorem Row.em {w : World} {A : Option Addr} {es : List Em} (h : Row w A (emsV es)) {k : Nat} (hk : k < es.length) :
    ∃ b off, A = some ⟨b, off, none⟩ ∧ w.cell? ⟨b, off + k, none⟩ = some (emV es[k]) := by
  obtain ⟨b, off, e, hc⟩ := h.cell (k := k) (by simpa using hk)
  exact ⟨b, off, e, by rw [hc, List.getElem_map]⟩
set_option maxHeartbeats 2000000 in
set_option maxRecDepth 100000 in
theorem em_indexFunc (A : Option Addr) (es : List Em) (c : Nat) (w : World) (hr : Row w A (emsV es)) (hl : es.length ≤ 1000) :
    Calls Tryd.prog 39 #[.slice A es.length c, .func (.func 29) #[] #[]] w fun e w' => e = .returned (.int .i64 (findI (fun x : Em => x.chars.isEmpty) es 0)) ∧ Below w.heap.size w w' := by
  have HR := Lib.hid hr; clear hr
  have he := Tryd.call29
  go_enter Tryd.func39, Tryd.ntmps39
  go_wp2_with fail
  go_loopw [8, 5] (fun v _ wr => ∃ k : Nat, k ≤ es.length ∧ v = .int .i64 k ∧ findI (fun x : Em => x.chars.isEmpty) es 0 = findI (fun x : Em => x.chars.isEmpty) (es.drop k) k ∧ Below w.heap.size w wr) (fun v _ _ => es.length - (intOf v).toNat)
  case atStart => exact ⟨0, by omega, rfl, rfl, Below.refl _ _⟩
  case round =>
    obtain ⟨k, hk, rfl, hq, hbel⟩ := hrel
    by_cases hlt : k < es.length
    · have hk1 : (0 : Int) ≤ (k : Int) := by omega
      have hk2 : (k : Int) < (es.length : Int) := by omega
      rw [List.drop_eq_getElem_cons hlt, findI] at hq
      have HQ := Lib.hid hq; clear hq
      obtain ⟨b, off, rfl, hcell⟩ := (HR.out.below hbel).em hlt
      generalize es[k] = x at *
      go_wp2_with fail
      (with_reducible refine (em_empty x _).mono ?_)
      rintro e w1 ⟨rfl, hb1⟩
      have hbel1 := hbel.trans (hb1.mono hbel.size)
      rcases hx : x.chars.isEmpty with _ | _
      · go_wp2_with fail
        go_roundw
        case rel => exact ⟨k + 1, by omega, by go_num, by rw [HQ.out, if_neg (by simp [hx])], hbel1⟩
        case measure => simp [intOf] <;> omega
      · go_wp2_with fail
        go_ret
        exact ⟨ret_int (by rw [HQ.out, if_pos hx]), hbel1⟩
    · have HQ := Lib.hid (hq.trans (show findI (fun x : Em => x.chars.isEmpty) (es.drop k) k = -1 by rw [List.drop_eq_nil_of_le (by omega), findI]))
      clear hq
      go_wp2_with fail
      go_ret
      exact ⟨ret_int (by rw [HQ.out]), hbel⟩
set_option maxHeartbeats 1000000 in
set_option maxRecDepth 100000 in
theorem em_containsFunc (A : Option Addr) (es : List Em) (c : Nat) (w : World) (hr : Row w A (emsV es)) (hl : es.length ≤ 1000) :
    Calls Tryd.prog 28 #[.slice A es.length c, .func (.func 29) #[] #[]] w fun e w' => e = .returned (.bool (emptyF es)) ∧ Below w.heap.size w w' := by
  have HI := Lib.hid (em_indexFunc A es c w hr hl)
  clear hr
  go_enter Tryd.func28, Tryd.ntmps28
  go_wp2_with fail
  (with_reducible refine HI.out.mono ?_)
  rintro e w1 ⟨rfl, hb1⟩
  go_wp2_with fail
  go_ret
  exact ⟨ret_bool (findI_geq _ _ _), hb1⟩
end Go.Proofs.YtcknomaaikeebaaDoor
