/- Lemmas and walks, part 45. -/
import Derived.Test.YtghjgbkhhoaebaaGreatDoorPo32
import Derived.Test.YtghjgbkhhoaebaaGreatDoorPo44
import Derived.Test.YtghjgbkhhoaebaaGreatDoorPo43
import Derived.Lib.SmallJoins
import Derived.OpenShut
namespace Go.Proofs.YtghjgbkhhoaebaaGreatDoor
set_option linter.unusedSimpArgs false
set_option linter.unusedVariables false
open Go.ChangeShapes Go.WideShapes Go.ChangeAt Go.RowKit Go.Deep Go.Joins

section
variable {H : Type} {enc : TypeId × Value → H} {P : Program} {w : World} {base : Nat} {spare : Nat → Bool} {held : Bool}
theorem take1 {α : Type} {cs : List α} {i : Nat} {v : α} (h : (cs.drop i).take 1 = [v]) : cs[i]? = some v := by
  have := congrArg (fun l => l[0]?) h
  simpa [List.getElem?_take, List.getElem?_drop] using this
theorem open_bytes {fuel : Nat} {t e : TypeId} {n : Nat} {cs : List Value} {x : DataW H × List MemPlace} (ht : P.underlying t = some (.array n e)) (he : P.underlying e = some (.int .u8)) (hce : P.cellsOf e = 1)
    (h : DataW.trod enc P w base spare held fuel t cs = some x) : ∀ i, i < n → ∃ k, cs[i]? = some (.int .u8 k) := by
  obtain ⟨xs, m, rfl, rfl, hl, hlen, hx⟩ := DataW.trod_array ht h
  intro i hi
  have := hx i hi
  rw [hce, Nat.mul_one, List.getElem?_eq_getElem (by omega)] at this
  obtain ⟨k, hk, _⟩ := DataW.trod_int he this
  exact ⟨k, take1 hk⟩
/-- A field of a struct that came in. -/
theorem field_of {fuel : Nat} {t e : TypeId} {fs : Array Field} {cs : List Value} {x : DataW H × List MemPlace} (ht : P.underlying t = some (.struct fs)) (h : DataW.trod enc P w base spare held fuel t cs = some x) (i : Nat) (nm : Field) (off c : Nat) (hi : fs[i]? = some nm) (he : nm.type = e) (ho : nm.offset = off) (hc : P.cellsOf e = c) :
    ∃ n y, DataW.trod enc P w base spare held n e ((cs.drop off).take c) = some y := by
  obtain ⟨xs, m, rfl, rfl, hl, hlen, hx⟩ := DataW.trod_struct ht h
  have := hx i nm hi
  rw [he, ho, hc] at this
  have hlt : i < xs.length := by
    rw [hlen]; exact (Array.getElem?_eq_some_iff.1 hi).1
  rw [List.getElem?_eq_getElem hlt] at this
  exact ⟨m, _, this⟩
theorem len_of {fuel : Nat} {t : TypeId} {fs : Array Field} {cs : List Value} {x : DataW H × List MemPlace} (ht : P.underlying t = some (.struct fs)) (h : DataW.trod enc P w base spare held fuel t cs = some x) : cs.length = P.cellsOf t := by
  obtain ⟨xs, m, rfl, rfl, hl, hlen, hx⟩ := DataW.trod_struct ht h
  exact hl
theorem part_cat {α : Type} (l : List α) (a c : Nat) : l.drop a = (l.drop a).take c ++ l.drop (a + c) := by
  rw [← List.drop_drop, List.take_append_drop]
theorem flat_at {α β : Type} (g : α → List β) (m : Nat) (hg : ∀ x, (g x).length = m) : ∀ (l : List α) (k : Nat) (hk : k < l.length) (j : Nat), j < m → (l.flatMap g)[k * m + j]? = (g l[k])[j]?
  | [], k, hk, _, _ => by simp at hk
  | x :: l, 0, _, j, hj => by
    rw [List.flatMap_cons, Nat.zero_mul, Nat.zero_add, List.getElem?_append_left (by rw [hg]; exact hj)]; rfl
  | x :: l, k + 1, hk, j, hj => by
    rw [List.flatMap_cons, List.getElem?_append_right (by rw [hg, Nat.succ_mul]; omega), hg, show (k + 1) * m + j - m = k * m + j from by rw [Nat.succ_mul]; omega]
    exact flat_at g m hg l k (by simpa using hk) j hj
theorem flat_len {α β : Type} (g : α → List β) (m : Nat) (hg : ∀ x, (g x).length = m) (l : List α) : (l.flatMap g).length = l.length * m := by
  induction l with
  | nil => simp
  | cons x l ih => rw [List.flatMap_cons, List.length_append, hg, ih, List.length_cons, Nat.succ_mul]; omega
end

section
variable {H : Type} {enc : TypeId × Value → H} {w : World} {base : Nat} {spare : Nat → Bool} {held : Bool}
theorem size_id : Tryz.prog.cellsOf 23 = 32 := by kernel_rfl
theorem size_str : Tryz.prog.cellsOf 9 = 1 := by kernel_rfl
theorem size_int : Tryz.prog.cellsOf 3 = 1 := by kernel_rfl
theorem size_u8 : Tryz.prog.cellsOf 5 = 1 := by kernel_rfl
theorem size_line : Tryz.prog.cellsOf 39 = 3 := by kernel_rfl
theorem size_post : Tryz.prog.cellsOf 25 = 36 := by kernel_rfl
theorem size_op : Tryz.prog.cellsOf 60 = 41 := by kernel_rfl
set_option maxRecDepth 100000 in
/-- The cells of an article that came in. -/
theorem open_postC {fuel : Nat} {cs : List Value} {x : DataW H × List MemPlace} (h : DataW.trod enc Tryz.prog w base spare held fuel 25 cs = some x) :
    ∃ (f : Nat → Int) (N S B : ByteArray) (d : Int), cs = (postC f N S B d).toList ∧ N.size ≤ maxLen ∧ S.size ≤ maxLen ∧ B.size ≤ maxLen ∧ (Lit.int .i64 d).wf = true := by
  have hl := len_of Tryz.underlying25 h
  rw [size_post] at hl
  obtain ⟨n0, y0, h0⟩ := field_of Tryz.underlying25 h 0 _ 0 32 rfl rfl rfl size_id
  obtain ⟨n1, y1, h1⟩ := field_of Tryz.underlying25 h 1 _ 32 1 rfl rfl rfl size_str
  obtain ⟨n2, y2, h2⟩ := field_of Tryz.underlying25 h 2 _ 33 1 rfl rfl rfl size_str
  obtain ⟨n3, y3, h3⟩ := field_of Tryz.underlying25 h 3 _ 34 1 rfl rfl rfl size_str
  obtain ⟨n4, y4, h4⟩ := field_of Tryz.underlying25 h 4 _ 35 1 rfl rfl rfl size_int
  have hb := open_bytes Tryz.underlying23 Tryz.underlying5 size_u8 h0
  obtain ⟨N, e1, _, w1⟩ := DataW.trod_string Tryz.underlying9 h1
  obtain ⟨S, e2, _, w2⟩ := DataW.trod_string Tryz.underlying9 h2
  obtain ⟨B, e3, _, w3⟩ := DataW.trod_string Tryz.underlying9 h3
  obtain ⟨d, e4, _, w4⟩ := DataW.trod_int Tryz.underlying3 h4
  refine ⟨fun i => match cs[i]? with | some (.int _ k) => k | _ => 0, N, S, B, d, ?_, w1, w2, w3, w4⟩
  have hf : ∀ i < 32, cs[i]? = some (.int .u8 (match cs[i]? with | some (.int _ k) => k | _ => 0)) := fun i hi => by
    obtain ⟨k, hk⟩ := hb i hi
    rw [List.getElem?_take, if_pos hi, List.drop_zero] at hk
    rw [hk]
  generalize hg : (fun i : Nat => (match cs[i]? with | some (.int _ k) => k | _ => 0 : Int)) = f at *
  have hf' : ∀ i < 32, cs[i]? = some (.int .u8 (f i)) := fun i hi => by rw [← hg]; exact hf i hi
  refine List.ext_getElem? fun i => ?_
  by_cases hi : i < 32
  · rw [hf' i hi]
    iterate 32 (rcases i with _ | i; · rfl)
    omega
  · by_cases hi2 : i < 36
    · obtain rfl | rfl | rfl | rfl : i = 32 ∨ i = 33 ∨ i = 34 ∨ i = 35 := by omega
      · rw [take1 e1]; rfl
      · rw [take1 e2]; rfl
      · rw [take1 e3]; rfl
      · rw [take1 e4]; rfl
    · rw [List.getElem?_eq_none (by omega), List.getElem?_eq_none (by show 36 ≤ i; omega)]
set_option maxRecDepth 100000 in
theorem open_post {r : Reach} {b0 : Nat} {v : Value} {y : DataW H} {p : List MemPlace} (hv : Value.okWide Tryz.prog w r b0 25 v) (h : DataW.Trod enc Tryz.prog w 0 (fun _ => true) true 25 v y p) :
    ∃ (f : Nat → Int) (N S B : ByteArray) (d : Int), v = postV f N S B d ∧ N.size ≤ maxLen ∧ S.size ≤ maxLen ∧ B.size ≤ maxLen ∧ (Lit.int .i64 d).wf = true := by
  obtain ⟨cs, rfl, hsz⟩ := okWide_struct Tryz.underlying25 hv
  obtain ⟨fuel, hf⟩ := h
  obtain ⟨f, N, S, B, d, e, hh⟩ := open_postC hf
  have e' : cs.toList = (postC f N S B d).toList := e
  exact ⟨f, N, S, B, d, by rw [Array.toList_inj.1 e'], hh⟩
/-- An operation: its parts, its cells. -/
structure OpR where
  k : Int
  m : Int
  n : ByteArray
  t : ByteArray
  f : Nat → Int
  N : ByteArray
  S : ByteArray
  B : ByteArray
  d : Int
  r : Int
def opC (o : OpR) : List Value := .int .u8 o.k :: .int .i64 o.m :: .string o.n :: .string o.t :: ((postC o.f o.N o.S o.B o.d).toList ++ [.int .u8 o.r])
theorem opC_len (o : OpR) : (opC o).length = 41 := rfl
structure OpOk (o : OpR) : Prop where
  k : (Lit.int .u8 o.k).wf = true
  m : (Lit.int .i64 o.m).wf = true
  n : o.n.size ≤ maxLen
  t : o.t.size ≤ maxLen
  N : o.N.size ≤ maxLen
  S : o.S.size ≤ maxLen
  B : o.B.size ≤ maxLen
  d : (Lit.int .i64 o.d).wf = true
  r : (Lit.int .u8 o.r).wf = true
theorem open_opC {fuel : Nat} {cs : List Value} {x : DataW H × List MemPlace} (h : DataW.trod enc Tryz.prog w base spare held fuel 60 cs = some x) : ∃ o, cs = opC o ∧ OpOk o := by
  have hl := len_of Tryz.underlying60 h
  rw [size_op] at hl
  obtain ⟨n0, y0, h0⟩ := field_of Tryz.underlying60 h 0 _ 0 1 rfl rfl rfl size_u8
  obtain ⟨n1, y1, h1⟩ := field_of Tryz.underlying60 h 1 _ 1 3 rfl rfl rfl size_line
  obtain ⟨n2, y2, h2⟩ := field_of Tryz.underlying60 h 2 _ 4 36 rfl rfl rfl size_post
  obtain ⟨n3, y3, h3⟩ := field_of Tryz.underlying60 h 3 _ 40 1 rfl rfl rfl size_u8
  obtain ⟨k, e0, _, w0⟩ := DataW.trod_int Tryz.underlying5 h0
  obtain ⟨r, e3, _, w3⟩ := DataW.trod_int Tryz.underlying5 h3
  obtain ⟨m1, z1, k1⟩ := field_of Tryz.underlying39 h1 0 _ 0 1 rfl rfl rfl size_int
  obtain ⟨m2, z2, k2⟩ := field_of Tryz.underlying39 h1 1 _ 1 1 rfl rfl rfl size_str
  obtain ⟨m3, z3, k3⟩ := field_of Tryz.underlying39 h1 2 _ 2 1 rfl rfl rfl size_str
  obtain ⟨m, em, _, wm⟩ := DataW.trod_int Tryz.underlying3 k1
  obtain ⟨n, en, _, wn⟩ := DataW.trod_string Tryz.underlying9 k2
  obtain ⟨t, et, _, wt⟩ := DataW.trod_string Tryz.underlying9 k3
  obtain ⟨f, N, S, B, d, ep, wN, wS, wB, wd⟩ := open_postC h2
  refine ⟨⟨k, m, n, t, f, N, S, B, d, r⟩, ?_, ⟨w0, wm, wn, wt, wN, wS, wB, wd, w3⟩⟩
  have eL : (cs.drop 1).take 3 = [.int .i64 m, .string n, .string t] := by
    have hL : ((cs.drop 1).take 3).length = 3 := by rw [List.length_take, List.length_drop]; omega
    generalize (cs.drop 1).take 3 = L at *
    refine List.ext_getElem? fun i => ?_
    by_cases hi : i < 3
    · obtain rfl | rfl | rfl : i = 0 ∨ i = 1 ∨ i = 2 := by omega
      · rw [take1 em]; rfl
      · rw [take1 en]; rfl
      · rw [take1 et]; rfl
    · rw [List.getElem?_eq_none (by omega), List.getElem?_eq_none (by show 3 ≤ i; omega)]
  have p0 := part_cat cs 0 1
  have p1 := part_cat cs 1 3
  have p2 := part_cat cs 4 36
  have p3 := part_cat cs 40 1
  rw [show cs.drop (40 + 1) = [] from List.drop_eq_nil_of_le (by omega), e3] at p3
  rw [ep] at p2
  rw [eL] at p1
  rw [e0] at p0
  rw [List.drop_zero] at p0
  rw [p0, show 0 + 1 = 1 from rfl, p1, show 1 + 3 = 4 from rfl, p2, show 4 + 36 = 40 from rfl, p3]
  rfl
set_option maxRecDepth 100000 in
/-- Operations that came in. -/
theorem open_ops {r : Reach} {b0 : Nat} {v : Value} {y : DataW H} {p : List MemPlace} (hv : Value.okWide Tryz.prog w r b0 42 v) (h : DataW.Trod enc Tryz.prog w 0 (fun _ => true) true 42 v y p) :
    ∃ (A : Option Addr) (l : List OpR) (c : Nat), v = .slice A l.length c ∧ Row w A (l.flatMap opC) ∧ l.length ≤ maxLen ∧ ∀ o ∈ l, OpOk o := by
  obtain ⟨a0, len, cap, rfl⟩ := okWide_slice Tryz.underlying42 hv
  obtain ⟨fuel, hf⟩ := h
  rcases open_slice Tryz.underlying42 hf with ⟨hcs, hx⟩ | ⟨a, len', cap', m, n, D, Pl, hcs, hb, hl, hm, hmm, hx, hi⟩
  · simp [Value.cells] at hcs
    obtain ⟨rfl, rfl, rfl⟩ := hcs
    exact ⟨none, [], 0, rfl, Row.nil _ _, by simp [maxLen], by simp⟩
  · simp [Value.cells] at hcs
    obtain ⟨rfl, rfl, rfl⟩ := hcs
    have hmc : m = cap := by simpa using hmm
    subst hmc
    have hel : ∀ i, i < len → ∃ o : OpR, (∀ j u, (opC o)[j]? = some u → w.cell? (a.add (i * 41 + j)) = some u) ∧ OpOk o := by
      intro i hil
      obtain ⟨cs', hc, ht'⟩ := hi i (by omega)
      rw [size_op] at hc
      obtain ⟨o, rfl, ho⟩ := open_opC ht'
      obtain ⟨_, hcl, hat⟩ := World.cells?_some hc
      refine ⟨o, fun j u hu => ?_, ho⟩
      have hj : j < 41 := by
        have := (List.getElem?_eq_some_iff.1 hu).1
        rwa [opC_len] at this
      have q := hat j hj
      rw [Go.Deep.add_add] at q
      rw [q, hu]
    obtain ⟨l, hll, hq⟩ := list_of len hel
    subst hll
    refine ⟨some a, l, m, rfl, ?_, by omega, fun o ho => ?_⟩
    · by_cases hz : l = []
      · subst hz; exact Row.nil _ _
      · have hpos : 0 < l.length := List.length_pos_iff.2 hz
        have hc0 := (hq 0 hpos).1 0 _ rfl
        have hsp := spot_none hc0
        have hlt := World.block_lt_of_cell? w _ hc0
        obtain ⟨bb, off, sp⟩ := a
        have hsp' : sp = none := by simpa [Addr.add] using hsp
        subst hsp'
        have hadd : ∀ j, (⟨bb, off, none⟩ : Addr).add j = ⟨bb, off + j, none⟩ := fun j => by
          unfold Addr.add
          split
          · rename_i h; subst h; rfl
          · rfl
        rw [hadd] at hlt
        refine Row.mk _ _ _ _ hlt fun j u hu => ?_
        have hj : j < l.length * 41 := by
          have := (List.getElem?_eq_some_iff.1 hu).1
          rwa [flat_len opC 41 opC_len] at this
        have hk : j / 41 < l.length := by omega
        have e0 := flat_at opC 41 opC_len l (j / 41) hk (j % 41) (by omega)
        rw [show j / 41 * 41 + j % 41 = j from by omega, hu] at e0
        have c0 := (hq (j / 41) hk).1 (j % 41) u e0.symm
        rw [hadd, show j / 41 * 41 + j % 41 = j from by omega] at c0
        exact c0
    · obtain ⟨j, hj, rfl⟩ := List.getElem_of_mem ho
      exact (hq j hj).2
end
/-- One argument of each kind, and its datum. -/
def witP : Value := postV (fun _ => 0) ByteArray.empty ByteArray.empty ByteArray.empty 0
def witI : Value := idA (fun _ => 0)
def witQ : Value := .agg (opC ⟨0, 0, ByteArray.empty, ByteArray.empty, fun _ => 0, ByteArray.empty, ByteArray.empty, ByteArray.empty, 0, 0⟩).toArray
def datI {H : Type} : DataW H := .agg (List.replicate 32 (.lit (.int .u8 0)))
def datP {H : Type} : DataW H := .agg [datI, .lit (.string []), .lit (.string []), .lit (.string []), .lit (.int .i64 0)]
def datQ {H : Type} : DataW H := .agg [.lit (.int .u8 0), .agg [.lit (.int .i64 0), .lit (.string []), .lit (.string [])], datP, .lit (.int .u8 0)]
end Go.Proofs.YtghjgbkhhoaebaaGreatDoor
