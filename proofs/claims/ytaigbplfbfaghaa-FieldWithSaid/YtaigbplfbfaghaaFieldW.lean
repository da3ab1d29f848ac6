/- What the law FieldWith leans on: two lists that are made side by side. -/
import Derived.Test.YtaigbplfbfaghaaKnown
import Derived.Test.YtaigbplfbfaghaaOpenS
import Derived.Test.YtaigbplfbfaghaaWith
import Derived.Test.YtaigbplfbfaghaaCutOne
import Derived.Test.YtaigbplfbfaghaaMem4
namespace Go.Proofs.Ytaigbplfbfaghaa
set_option linter.unusedSimpArgs false
set_option linter.unusedVariables false
open Go.ChangeShapes Go.WideShapes Go.ChangeAt Go.RowKit

theorem alloc_bel (w : World) (o : Obj) : Below w.heap.size w (w.alloc o) := (Below.refl _ _).alloc (Nat.le_refl _) _
/-- What region 1 leaves: the cut list, and the box with the cut field. -/
structure Cut1 (w wx : World) (s0 : Value) (l : List Fd) (N : Nat) : Prop where
  own : wx.ownsRow (N + 1) 25 2 s0 (cutList l).length (fldsV (cutList l))
  box : ∃ n b : ByteArray, n.size ≤ 60 ∧ b.size ≤ 9000 ∧ wx.cell? ⟨N, 0, none⟩ = some (.string n) ∧ wx.cell? ⟨N, 1, none⟩ = some (.string b)
  bel : Below w.heap.size w wx
theorem cut1_mk {w W1 w2 w3 : World} {v2 : Value} {l : List Fd} {n b n' b' : ByteArray} (hW : Below w.heap.size w W1) (hz : w.heap.size + 1 ≤ W1.heap.size) (hF2 : FldsOwn W1 w2 25 v2 (cutList l)) (hb3 : Below w2.heap.size w2 w3)
    (hk3 : w3.heap[w.heap.size]? = some (.cells #[.string n, .string b] 25 (0, 0))) (hn : n'.size ≤ 60) (hb : b'.size ≤ 9000) :
    Cut1 w ((w3.setCell ⟨w.heap.size, 0, none⟩ (.string n')).setCell ⟨w.heap.size, 1, none⟩ (.string b')) v2 l w.heap.size := by
  have h1 := own_below (own_mono hF2.own hz) hb3
  have h2 := ownsRow_setCell_below (a := ⟨w.heap.size, 0, none⟩) h1 (by simp) (.string n')
  have h3 := ownsRow_setCell_below (a := ⟨w.heap.size, 1, none⟩) h2 (by simp) (.string b')
  have k1 := heap_set (i := 0) hk3 (.string n')
  have k2 := heap_set (i := 1) k1 (.string b')
  refine ⟨h3, ⟨n', b', hn, hb, ?_, ?_⟩, ?_⟩
  · rw [Lib.cell_of_heap k2]; rfl
  · rw [Lib.cell_of_heap k2]; rfl
  · have hs2 := (hW.trans (hF2.bel.mono hW.size))
    have hs3 := hs2.trans (hb3.mono hs2.size)
    exact (hs3.setCell (Nat.le_refl _) _).setCell (Nat.le_refl _) _

/-- A list that is appended to: still empty, or a row of the call's own that lies apart from the other list. -/
def AOk (W0 W : World) (vb : Option Value) (v : Value) (l : List Fd) : Prop :=
  (l = [] ∧ ∃ ad, v = .slice (some ad) 0 0) ∨ (W.ownsRow W0.heap.size 25 2 v l.length (fldsV l) ∧ ∀ ub, vb = some ub → ub.ownBlock = none ∨ ub.ownBlock ≠ v.ownBlock)
structure St (W0 W : World) (Rb : List Fd) (vb : Option Value) (v : Value) (l : List Fd) : Prop where
  bel : Below W0.heap.size W0 W
  b : ∀ ub, vb = some ub → W.ownsRow W0.heap.size 25 2 ub Rb.length (fldsV Rb)
  a : AOk W0 W vb v l
theorem St.later {W0 W W' : World} {Rb : List Fd} {vb : Option Value} {v : Value} {l : List Fd} (h : St W0 W Rb vb v l) (hb : Below W.heap.size W W') : St W0 W' Rb vb v l := by
  refine ⟨h.bel.trans (hb.mono h.bel.size), fun ub hu => own_below (h.b ub hu) hb, ?_⟩
  rcases h.a with h0 | ⟨h1, h2⟩
  · exact .inl h0
  · exact .inr ⟨own_below h1 hb, h2⟩
theorem St.start {W0 W : World} (h : Below W0.heap.size W0 W) (Rb : List Fd) : St W0 W Rb none (.slice (some ⟨0, 0, none⟩) 0 0) [] := ⟨h, (fun _ h => by cases h), .inl ⟨rfl, _, rfl⟩⟩
theorem St.zero {W0 W : World} {Rb : List Fd} {vb : Option Value} {v : Value} {l : List Fd} (h : St W0 W Rb vb v l) (ad : Addr) : St W0 W Rb vb (.slice (some ad) 0 0) [] := ⟨h.bel, h.b, .inl ⟨rfl, _, rfl⟩⟩
theorem St.setb {W0 W W' : World} {Rb : List Fd} {ub v : Value} {l : List Fd} (h : St W0 W Rb none v l) (hF : FldsOwn W W' 25 ub Rb) : St W0 W' Rb (some ub) v l := by
  refine ⟨h.bel.trans (hF.bel.mono h.bel.size), fun u hu => by injection hu with hu; subst hu; exact own_mono hF.own h.bel.size, ?_⟩
  rcases h.a with h0 | ⟨h1, h2⟩
  · exact .inl h0
  · refine .inr ⟨own_below h1 hF.bel, fun u hu => ?_⟩
    injection hu with hu; subst hu
    rcases hk : ub.ownBlock with _ | k
    · exact .inl rfl
    · refine .inr fun e => ?_
      have g1 := (hF.own.lt k hk).1
      have g2 := (h1.lt k e.symm).2
      omega
theorem St.rows {W0 W : World} {Rb : List Fd} {Ab Ad : Option Addr} {cb cd : Nat} (h : St W0 W Rb (some (.slice Ab Rb.length cb)) (.slice Ad Rb.length cd) Rb) (hne : Rb ≠ []) : Row W Ab (fldsV Rb) ∧ Row W Ad (fldsV Rb) := by
  constructor
  · obtain ⟨A, c, e, hr⟩ := own_row (h.b _ rfl); cases e; exact hr
  · rcases h.a with ⟨h0, _⟩ | ⟨h1, _⟩
    · exact absurd h0 hne
    · obtain ⟨A, c, e, hr⟩ := own_row h1; cases e; exact hr
theorem below_of_grown {w w' : World} (hg : w.grownBy w' none) : Below w.heap.size w w' := ⟨hg.os, hg.tape, hg.output, hg.size, fun k hk => hg.block k hk (by simp)⟩
theorem fldsV_one (l : List Fd) : ∀ u ∈ fldsV l, u.oneCell' = true := by
  intro u hu
  simp only [fldsV, List.mem_flatMap] at hu
  obtain ⟨f, _, h⟩ := hu
  simp at h
  rcases h with rfl | rfl <;> rfl

/-- append to an empty slice without room. -/
theorem run_zero {P : Program} {t e : TypeId} {size bytes : Nat} (E : Elem P t e size bytes) (w : World) (ty : TypeId) (ad : Addr) (A : Option Addr) (m c : Nat) (hm : 0 < m) (hm2 : m ≤ 1000000) (hb : m * bytes ≤ 140737488355328) :
    (Builtin.append_ #[t, t] ty #[.slice (some ad) 0 0, .slice A m c]).run P w = (Builtin.append_ #[t, t] ty #[.slice none 0 0, .slice A m c]).run P w := by
  obtain ⟨i, z, hi, hz0, hz1, hz2, hzs⟩ := E.info
  have ht := E.under
  have hc : Builtin.nextslicecap m 0 = m := by unfold Builtin.nextslicecap; rw [if_pos (by omega)]
  have h0 : ¬ m = 0 := by omega
  have h1 : ¬ (9223372036854775807 : Int) < (m : Int) := by omega
  have h2 : ¬ 281474976710656 < m * bytes := by omega
  simp [Builtin.append_, run_underlying ht, sizeOf, typeInfo, hi, Builtin.lenOf, Builtin.firstCells, hc, hz2, loadCells, h0, h1, h2, loadCellsFrom]

theorem el_F' : Elem Try.prog 26 25 2 32 := Elem.of Try.underlying26 info_F rfl (by omega)
/-- The run of an append to an empty list without room. -/
theorem run_st0 {W0 W : World} {Rb : List Fd} {vb : Option Value} {v : Value} {l : List Fd} (h : St W0 W Rb vb v l) (ty : TypeId) (ad : Addr) {A : Option Addr} {c : Nat} (l' : List Fd) (hr : Row W A (fldsV l')) (hm : l'.length ≤ 1000) :
    ∃ A' c' W', (Builtin.append_ #[26, 26] ty #[.slice (some ad) 0 0, .slice A l'.length c]).run Try.prog W = .ok (.slice A' l'.length c') W' ∧ St W0 W' Rb vb (.slice A' l'.length c') l' ∧ Below W.heap.size W W' := by
  have hl : (fldsV l').length = l'.length * 2 := fldsV_length l'
  have hnil := hr.none_len (size := 2) hl (by omega)
  rcases Nat.eq_zero_or_pos l'.length with h0 | hpos
  · have e0 : l' = [] := List.eq_nil_of_length_eq_zero h0
    subst e0
    obtain ⟨i, z, hi, hz0, hz1, hz2, hzs⟩ := el_F'.info
    have ht := el_F'.under
    refine ⟨some ad, 0, W, ?_, h.zero ad, Below.refl _ _⟩
    cases A with
    | none => simp [Builtin.append_, run_underlying ht, sizeOf, typeInfo, hi, Builtin.lenOf, Builtin.firstCells, storeCells]
    | some ad' => simp [Builtin.append_, run_underlying ht, sizeOf, typeInfo, hi, Builtin.lenOf, Builtin.firstCells, storeCells, loadCells, loadCellsFrom]
  · rw [run_zero el_F' W ty ad A l'.length c hpos (by omega) (by omega)]
    obtain ⟨v', W', hrun, h2, h3, h4⟩ := run_pour el_F' W W0.heap.size ty (.slice none 0 0) 0 [] (World.ownsRow_nil _ _ _ _) A l'.length c (fldsV l') hr hl (fldsV_one l') hnil (by unfold maxLen; omega) (by omega) h.bel.size
    have hbel := below_of_grown (w := W) (w' := W') h3
    rw [Nat.zero_add, List.nil_append] at h2
    obtain ⟨A', c', rfl, _⟩ := own_row h2
    refine ⟨A', c', W', hrun, ⟨h.bel.trans (hbel.mono h.bel.size), fun ub hu => own_below (h.b ub hu) hbel, .inr ⟨h2, fun ub hu => ?_⟩⟩, hbel⟩
    rcases hk : ub.ownBlock with _ | k
    · exact .inl rfl
    · refine .inr fun e => ?_
      have g := ((h.b ub hu).lt k hk).2
      rcases h4 with h4 | h4
      · rw [h4] at e; simp [Value.ownBlock] at e
      · rw [h4] at e; injection e with e; omega
/-- The run of an append of one field to the list that is built. -/
theorem run_st1 {W0 W : World} {Rb : List Fd} {vb : Option Value} {v : Value} {l : List Fd} (h : St W0 W Rb vb v l) (ty : TypeId) {A : Option Addr} {c : Nat} (n b : ByteArray) (hr : Row W A [.string n, .string b]) (l' : List Fd) (hl' : l' = l ++ [(toL n, toL b)]) (hm : l'.length ≤ 1000) :
    ∃ A' c' W', (Builtin.append_ #[26, 26] ty #[v, .slice A 1 c]).run Try.prog W = .ok (.slice A' l'.length c') W' ∧ St W0 W' Rb vb (.slice A' l'.length c') l' := by
  have hf : fldsV l' = fldsV l ++ [.string n, .string b] := by rw [hl', fldsV_snoc]
  have hr1 : Row W A (fldsV [(toL n, toL b)]) := by simpa [fldsV, ofL_toL] using hr
  have hlen : l'.length = l.length + 1 := by rw [hl']; simp
  rcases h.a with ⟨rfl, ad, rfl⟩ | ⟨hown, hne⟩
  · obtain ⟨A', c', W', h1, h2, _⟩ := run_st0 h ty ad (c := c) [(toL n, toL b)] hr1 (by simp)
    rw [hl']
    exact ⟨A', c', W', h1, h2⟩
  · obtain ⟨v', W', hrun, h2, h3, h4⟩ := run_pour el_F' W W0.heap.size ty v l.length (fldsV l) hown A 1 c _ hr rfl (by simp [Value.oneCell']) (hr.none_len (size := 2) rfl (by omega)) (by unfold maxLen; omega) (by omega) h.bel.size
    rw [← hlen, ← hf] at h2
    obtain ⟨A', c', rfl, _⟩ := own_row h2
    refine ⟨A', c', W', hrun, ⟨h.bel.grown h3 h.bel.size (fun k hk => (hown.lt k hk).1), fun ub hu => (h.b ub hu).kept h3 (hne ub hu), .inr ⟨h2, fun ub hu => ?_⟩⟩⟩
    rcases hk : ub.ownBlock with _ | k
    · exact .inl rfl
    · rcases h4 with h4 | h4
      · rw [h4, ← hk]; exact hne ub hu
      · refine .inr fun e => ?_
        have g := ((h.b ub hu).lt k hk).2
        rw [h4] at e; injection e with e; omega
section
variable {ops : Array Oper} {o : Oper} {a : Act} {K : Act → World → Prop} {Q : Exit → Act → World → Prop} {E0 : Prop}
theorem step_st0 (hw : Region.wanted o (yielded ops a.tmps) = true) (s x : Operand) (ho : o.op = .call { callee := .builtin .append, args := #[s, x], argTypes := #[26, 26] })
    {W0 W : World} {Rb : List Fd} {vb : Option Value} {v : Value} {l : List Fd} (hSt : St W0 W Rb vb v l) (ad : Addr) (hs : a.eval s = .slice (some ad) 0 0) {A : Option Addr} {c : Nat} (l' : List Fd) (hx : a.eval x = .slice A l'.length c) (hr : Row W A (fldsV l')) (hm : l'.length ≤ 1000)
    (h : ∀ A' c' W', St W0 W' Rb vb (.slice A' l'.length c') l' → Below W.heap.size W W' → K (a.put o.dst (.slice A' l'.length c')) W') :
    if Region.wanted o (yielded ops a.tmps) = true then Oper.wp Try.prog o a W K Q else E0 := by
  obtain ⟨A', c', W', hrun, h2, h3⟩ := run_st0 hSt o.type ad (c := c) l' hr hm
  rw [if_pos hw]
  unfold Oper.wp execOp
  simp only [ho, resolve, invoke, builtin, Sem.run_bind, Sem.run_pure, Result.andThen_ok, List.map_toArray, List.map_cons, List.map_nil, hs, hx, hrun]
  exact h A' c' W' h2 h3
theorem step_st1 (hw : Region.wanted o (yielded ops a.tmps) = true) (s x : Operand) (ho : o.op = .call { callee := .builtin .append, args := #[s, x], argTypes := #[26, 26] })
    {W0 W : World} {Rb : List Fd} {vb : Option Value} {v : Value} {l : List Fd} (hSt : St W0 W Rb vb v l) (hs : a.eval s = v) {A : Option Addr} {c : Nat} (n b : ByteArray) (hx : a.eval x = .slice A 1 c) (hr : Row W A [.string n, .string b]) (l' : List Fd) (hl' : l' = l ++ [(toL n, toL b)]) (hm : l'.length ≤ 1000)
    (h : ∀ A' c' W', St W0 W' Rb vb (.slice A' l'.length c') l' → K (a.put o.dst (.slice A' l'.length c')) W') :
    if Region.wanted o (yielded ops a.tmps) = true then Oper.wp Try.prog o a W K Q else E0 := by
  obtain ⟨A', c', W', hrun, h2⟩ := run_st1 hSt o.type (c := c) n b hr l' hl' hm
  rw [if_pos hw]
  unfold Oper.wp execOp
  simp only [ho, resolve, invoke, builtin, Sem.run_bind, Sem.run_pure, Result.andThen_ok, List.map_toArray, List.map_cons, List.map_nil, hs, hx, hrun]
  exact h A' c' W' h2
end
theorem writable_of2 {w : World} {base : Nat} {e : TypeId} {A : Option Addr} {n c : Nat} {xs : List Value} (h : w.ownsRow base e 2 (.slice A n c) n xs) : Writable w A (n * 2) base := by
  have hx := h.1
  rcases own_form h with ⟨_, h0⟩ | ⟨g, cap, hv, hg, hlt, hcap, hc⟩
  · exact .inl (by omega)
  · injection hv with h1 h2 h3
    subst h1 h3
    refine .inr ⟨g, rfl, hg, fun j hj => ⟨⟨xs[j]'(by omega), hc j _ (List.getElem?_eq_getElem (by omega))⟩, h.frozenAt j⟩⟩
theorem Writable.low {w : World} {A : Option Addr} {n N M : Nat} (h : Writable w A n N) (hM : M ≤ N) : Writable w A n M := by
  rcases h with h | ⟨g, hA, hg, hc⟩
  · exact .inl h
  · exact .inr ⟨g, hA, Nat.le_trans hM hg, hc⟩
theorem Writable.at {w : World} {A : Option Addr} {n N j : Nat} (h : Writable w A n N) (hj : j < n) : ∃ g v, A = some ⟨g, 0, none⟩ ∧ N ≤ g ∧ w.cell? ⟨g, j, none⟩ = some v ∧ w.frozen? ⟨g, j, none⟩ = false := by
  rcases h with h | ⟨g, hA, hg, hc⟩
  · omega
  · obtain ⟨⟨v, hv⟩, hf⟩ := hc j hj
    exact ⟨g, v, hA, hg, hv, hf⟩
theorem row_f (w : World) (n b : ByteArray) (t : TypeId) : Row (w.alloc (.cells #[.string n, .string b] t)) (some ⟨w.heap.size, 0, none⟩) [.string n, .string b] := by
  refine Row.mk _ _ _ _ (by simp) fun j v hv => ?_
  rw [Nat.zero_add, Lib.cell_of_heap (heap_alloc_new w _)]
  simpa using hv
theorem row_g (w : World) (n b : ByteArray) (t : TypeId) (g : Nat) (hg : w.heap.size = g) : Row (w.alloc (.cells #[.string n, .string b] t)) (some ⟨g, 0, none⟩) [.string n, .string b] := by
  subst hg; exact row_f w n b t
theorem box2_of {w5 W : World} {N : Nat} {n b : ByteArray} (h0 : w5.cell? ⟨N, 0, none⟩ = some (.string n)) (h1 : w5.cell? ⟨N, 1, none⟩ = some (.string b)) (hb : Below w5.heap.size w5 W) : Box2 w5 N n b W :=
  have hl := World.block_lt_of_cell? w5 _ h0
  ⟨(hb.cell (p := ⟨N, 0, none⟩) hl).trans h0, (hb.cell (p := ⟨N, 1, none⟩) hl).trans h1, hb⟩
end Go.Proofs.Ytaigbplfbfaghaa
