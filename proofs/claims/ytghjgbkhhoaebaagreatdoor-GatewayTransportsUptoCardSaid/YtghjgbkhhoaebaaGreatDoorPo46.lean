/- Lemmas and walks, part 46. -/
import Derived.Test.YtghjgbkhhoaebaaGreatDoorPo45
import Derived.Test.YtghjgbkhhoaebaaGreatDoorPo36
import Derived.Deep.RegionHeld3
import Derived.Deep.RegionLaw
import Derived.Deep.AppendLies
import Derived.Deep.QuietTactic
import Derived.BigQuiet
import Derived.Laws.StructEq
import Derived.Test.YtghjgbkhhoaebaaGreatDoorPo4
import Derived.Test.YtghjgbkhhoaebaaGreatDoorPo38
import Derived.Test.YtghjgbkhhoaebaaGreatDoorPo12
import Derived.Test.YtghjgbkhhoaebaaGreatDoorPo16
import Derived.Test.YtghjgbkhhoaebaaGreatDoorPo18
import Derived.Test.YtghjgbkhhoaebaaGreatDoorPo40
import Derived.Test.YtghjgbkhhoaebaaGreatDoorPo30
import Derived.Test.YtghjgbkhhoaebaaGreatDoorPo13
namespace Go.Proofs.YtghjgbkhhoaebaaGreatDoor
set_option linter.unusedSimpArgs false
set_option linter.unusedVariables false
open Go.ChangeShapes Go.WideShapes Go.ChangeAt Go.RowKit

abbrev opA (k m : Int) (n t : ByteArray) (f : Nat → Int) (N S B : ByteArray) (d r : Int) : Array Value := #[.int .u8 k, .int .i64 m, .string n, .string t, .int .u8 (f 0), .int .u8 (f 1), .int .u8 (f 2), .int .u8 (f 3), .int .u8 (f 4), .int .u8 (f 5), .int .u8 (f 6), .int .u8 (f 7), .int .u8 (f 8), .int .u8 (f 9), .int .u8 (f 10), .int .u8 (f 11), .int .u8 (f 12), .int .u8 (f 13), .int .u8 (f 14), .int .u8 (f 15), .int .u8 (f 16), .int .u8 (f 17), .int .u8 (f 18), .int .u8 (f 19), .int .u8 (f 20), .int .u8 (f 21), .int .u8 (f 22), .int .u8 (f 23), .int .u8 (f 24), .int .u8 (f 25), .int .u8 (f 26), .int .u8 (f 27), .int .u8 (f 28), .int .u8 (f 29), .int .u8 (f 30), .int .u8 (f 31), .string N, .string S, .string B, .int .i64 d, .int .u8 r]
theorem opC_eq (o : OpR) : opC o = (opA o.k o.m o.n o.t o.f o.N o.S o.B o.d o.r).toList := rfl
theorem okWide_arr {P : Program} {w : World} {r : Reach} {base : Nat} {t e : TypeId} {n : Nat} {v : Value} (ht : P.underlying t = some (.array n e)) (h : Value.okWide P w r base t v) : ∃ cs, v = .agg cs ∧ cs.size = P.cellsOf t := by
  simp only [Value.okWide, ht] at h
  obtain ⟨cs, h1, h2, _⟩ := h
  exact ⟨cs, h1, h2⟩
theorem range_load {W : World} {B off : Nat} {T : TypeId} {cs : List Value} {fs : TypeDesc} (h : W.rangeAt B off cs) (hu : Tryz.prog.underlying T = some fs) (ha : fs.isRow = true) (hs : (Tryz.prog.info? T).map (·.size) = some cs.length) : (Instr.loadAt T (.pointer (some ⟨B, off, none⟩))).run Tryz.prog W = .ok (.agg cs.toArray) W := by
  have hl := run_loadVar_mid (P := Tryz.prog) W B off T cs _ h hu ha hs
  unfold Instr.loadAt
  rw [show (Instr.sureAddr (.pointer (some ⟨B, off, none⟩)) : Sem Addr) = pure ⟨B, off, none⟩ from rfl]
  simp only [Sem.run_bind, Sem.run_pure, Result.andThen_ok]
  exact hl
theorem range_part {W : World} {B off : Nat} {ds : List Value} {fr : Nat × Nat} {t : TypeId} {A : Array Value} (h : W.heap[B]? = some (.cells A t fr)) (hp : ds <+: A.toList.drop off) : W.rangeAt B off ds := fun j v hv => by
  rw [Lib.cell_of_heap h]
  obtain ⟨r, hr⟩ := hp
  have h1 : (ds ++ r)[j]? = some v := by rw [List.getElem?_append_left (List.getElem?_eq_some_iff.1 hv).1]; exact hv
  rw [hr, List.getElem?_drop] at h1
  simpa using h1
section
variable {W : World} {Bx : Nat} {k m : Int} {n t : ByteArray} {f : Nat → Int} {N S B : ByteArray} {d r : Int} {T : TypeId} {fr : Nat × Nat}
theorem op_cells (h : W.heap[Bx]? = some (.cells (opA k m n t f N S B d r) T fr)) : W.cell? ⟨Bx, 0, none⟩ = some (.int .u8 k) ∧ W.cell? ⟨Bx, 1, none⟩ = some (.int .i64 m) ∧ W.cell? ⟨Bx, 2, none⟩ = some (.string n) ∧ W.cell? ⟨Bx, 3, none⟩ = some (.string t) ∧ W.cell? ⟨Bx, 40, none⟩ = some (.int .u8 r) :=
  ⟨by rw [Lib.cell_of_heap h]; rfl, by rw [Lib.cell_of_heap h]; rfl, by rw [Lib.cell_of_heap h]; rfl, by rw [Lib.cell_of_heap h]; rfl, by rw [Lib.cell_of_heap h]; rfl⟩
theorem op_post (h : W.heap[Bx]? = some (.cells (opA k m n t f N S B d r) T fr)) : (Instr.loadAt 25 (.pointer (some ⟨Bx, 4, none⟩))).run Tryz.prog W = .ok (postV f N S B d) W :=
  range_load (cs := (postC f N S B d).toList) (range_part h ⟨[.int .u8 r], rfl⟩) Tryz.underlying25 rfl size_Post
theorem op_id (h : W.heap[Bx]? = some (.cells (opA k m n t f N S B d r) T fr)) : (Instr.loadAt 23 (.pointer (some ⟨Bx, 4, none⟩))).run Tryz.prog W = .ok (idA f) W :=
  range_load (cs := idC (idN f)) (range_part h ⟨[.string N, .string S, .string B, .int .i64 d, .int .u8 r], rfl⟩) Tryz.underlying23 rfl size_Id
theorem op_idR (h : W.heap[Bx]? = some (.cells (opA k m n t f N S B d r) T fr)) : W.rangeAt Bx 4 (idC (idN f)) := range_part h ⟨[.string N, .string S, .string B, .int .i64 d, .int .u8 r], rfl⟩
end
set_option maxRecDepth 100000 in
/-- An operation, and an identity, that came in. -/
theorem open_op {H : Type} {enc : TypeId × Value → H} {w : World} {r : Reach} {b0 : Nat} {v : Value} {y : DataW H} {p : List MemPlace} (hv : Value.okWide Tryz.prog w r b0 60 v) (h : DataW.Trod enc Tryz.prog w 0 (fun _ => true) true 60 v y p) :
    ∃ o : OpR, v = .agg (opA o.k o.m o.n o.t o.f o.N o.S o.B o.d o.r) ∧ OpOk o := by
  obtain ⟨cs, rfl, hsz⟩ := okWide_struct Tryz.underlying60 hv
  obtain ⟨fuel, hf⟩ := h
  obtain ⟨o, e, ho⟩ := open_opC hf
  rw [opC_eq] at e
  have e' : cs.toList = (opA o.k o.m o.n o.t o.f o.N o.S o.B o.d o.r).toList := e
  exact ⟨o, by rw [Array.toList_inj.1 e'], ho⟩
set_option maxRecDepth 100000 in
theorem open_id {H : Type} {enc : TypeId × Value → H} {w : World} {r : Reach} {b0 : Nat} {v : Value} {y : DataW H} {p : List MemPlace} (hv : Value.okWide Tryz.prog w r b0 23 v) (h : DataW.Trod enc Tryz.prog w 0 (fun _ => true) true 23 v y p) :
    ∃ f : Nat → Int, v = idA f := by
  obtain ⟨cs, rfl, hsz⟩ := okWide_arr Tryz.underlying23 hv
  obtain ⟨fuel, hf⟩ := h
  have hb := open_bytes Tryz.underlying23 Tryz.underlying5 size_u8 hf
  refine ⟨fun i => match cs[i]? with | some (.int _ k) => k | _ => 0, ?_⟩
  have hb' : ∀ i < 32, ∃ k, cs[i]? = some (.int .u8 k) := fun i hi => by
    obtain ⟨k, hk⟩ := hb i hi
    exact ⟨k, by simpa [Value.cells] using hk⟩
  have hf : ∀ i < 32, cs[i]? = some (.int .u8 (match cs[i]? with | some (.int _ k) => k | _ => 0)) := fun i hi => by
    obtain ⟨k, hk⟩ := hb' i hi
    rw [hk]
  generalize hg : (fun i : Nat => (match cs[i]? with | some (.int _ k) => k | _ => 0 : Int)) = f at *
  have hf' : ∀ i < 32, cs[i]? = some (.int .u8 (f i)) := fun i hi => by rw [← hg]; exact hf i hi
  rw [size_id] at hsz
  refine congrArg Value.agg (Array.ext_getElem? fun i => ?_)
  by_cases hi : i < 32
  · rw [hf' i hi]
    iterate 32 (rcases i with _ | i; · rfl)
    omega
  · rw [Array.getElem?_eq_none (by omega), Array.getElem?_eq_none (by show 32 ≤ i; omega)]
end Go.Proofs.YtghjgbkhhoaebaaGreatDoor

namespace Go.Proofs.YtghjgbkhhoaebaaGreatDoor
set_option linter.unusedSimpArgs false
set_option linter.unusedVariables false
open Go.RowKit

/-- The cells of a list of identities. -/
def idsV (l : List (List Int)) : List Value := l.flatMap idC
theorem idsV_length : ∀ (l : List (List Int)), All32 l → (idsV l).length = l.length * 32
  | [], _ => rfl
  | x :: l, h => by
    have h1 := h x (by simp)
    have h2 := idsV_length l (fun y hy => h y (by simp [hy]))
    simp only [idsV, List.flatMap_cons, List.length_append, List.length_cons, idC, List.length_map] at h2 ⊢
    omega
theorem idsV_snoc (l : List (List Int)) (x : List Int) : idsV (l ++ [x]) = idsV l ++ idC x := by simp [idsV]
theorem idsV_one (l : List (List Int)) : ∀ u ∈ idsV l, u.oneCell' = true := by
  intro u hu
  simp only [idsV, List.mem_flatMap, idC, List.mem_map] at hu
  obtain ⟨x, _, k, _, rfl⟩ := hu
  rfl
theorem idsV_at : ∀ (l : List (List Int)), All32 l → ∀ (k : Nat) (hk : k < l.length) (j : Nat), j < 32 → (idsV l)[k * 32 + j]? = (idC l[k])[j]?
  | [], _, k, hk, _, _ => by simp at hk
  | x :: l, h, 0, _, j, hj => by
    have h1 := h x (by simp)
    show (idC x ++ idsV l)[0 * 32 + j]? = _
    rw [Nat.zero_mul, Nat.zero_add, List.getElem?_append_left (by simp [idC, h1]; exact hj)]; rfl
  | x :: l, h, k + 1, hk, j, hj => by
    have h1 := h x (by simp)
    show (idC x ++ idsV l)[(k + 1) * 32 + j]? = _
    rw [List.getElem?_append_right (by simp [idC, h1]; omega), show (k + 1) * 32 + j - (idC x).length = k * 32 + j from by simp [idC, h1]; omega]
    exact idsV_at l (fun y hy => h y (by simp [hy])) k (by simpa using hk) j hj
theorem info_Id : (Tryz.prog.info? 23).map (fun i => (i.zero, i.size, i.bytes)) = some (some (.agg #[.int .u8 0, .int .u8 0, .int .u8 0, .int .u8 0, .int .u8 0, .int .u8 0, .int .u8 0, .int .u8 0, .int .u8 0, .int .u8 0, .int .u8 0, .int .u8 0, .int .u8 0, .int .u8 0, .int .u8 0, .int .u8 0, .int .u8 0, .int .u8 0, .int .u8 0, .int .u8 0, .int .u8 0, .int .u8 0, .int .u8 0, .int .u8 0, .int .u8 0, .int .u8 0, .int .u8 0, .int .u8 0, .int .u8 0, .int .u8 0, .int .u8 0, .int .u8 0]), 32, 32) := by kernel_rfl
theorem el_Id : Elem Tryz.prog 47 23 32 32 := Elem.of Tryz.underlying47 info_Id rfl (by omega)

/-- append of a row (one element too), as one step of a region that draws. -/
theorem step_pour {P : Program} {ops : Array Oper} {o : Oper} {a : Act} {w : World} {K : Act → World → Prop} {Q : Exit → Act → World → Prop} {E0 : Prop} {t e : TypeId} {size bytes : Nat} (E : Elem P t e size bytes) (hgd : o.guard = none) (s x : Operand)
    (ho : o.op = .call { callee := .builtin .append, args := #[s, x], argTypes := #[t, t] }) {base : Nat} {v : Value} {n : Nat} {xs : List Value} (hown : w.ownsRow base e size v n xs) (hs : a.eval s = v)
    {A : Option Addr} {m c : Nat} {news : List Value} (hx : a.eval x = .slice A m c) (hr : Row w A news) (hl : news.length = m * size) (h1 : ∀ u ∈ news, u.oneCell' = true) (hnil : A = none → m = 0)
    (hbytes : (n + m) * bytes ≤ 140737488355328) (h63 : n + m ≤ maxLen) (hbase : base ≤ w.heap.size)
    (h : ∀ v' w', w'.ownsRow base e size v' (n + m) (xs ++ news) → w.grownBy w' v.ownBlock → (v'.ownBlock = v.ownBlock ∨ v'.ownBlock = some w.heap.size) → K (a.put o.dst v') w') :
    if Region.wanted o (yielded ops a.tmps) = true then Oper.wp P o a w K Q else E0 := by
  have hw : Region.wanted o (yielded ops a.tmps) = true := by simp [Region.wanted, hgd]
  rw [if_pos hw]
  obtain ⟨v', w', hrun, h2, h3, h4⟩ := run_pour E w base o.type v n xs hown A m c news hr hl h1 hnil h63 hbytes hbase
  unfold Oper.wp execOp
  simp only [ho, resolve, invoke, builtin, Sem.run_bind, Sem.run_pure, Result.andThen_ok, List.map_toArray, List.map_cons, List.map_nil, hs, hx, hrun]
  exact h v' w' h2 h3 h4
theorem row_block {w : World} {B : Nat} {cs : Array Value} {t : TypeId} {fr : Nat × Nat} (h : w.heap[B]? = some (.cells cs t fr)) : Row w (some ⟨B, 0, none⟩) cs.toList :=
  Row.mk _ _ _ _ (heap_lt h) fun j v hv => by rw [Nat.zero_add, Lib.cell_of_heap h]; simpa using hv

/-- The model's box, its lines, its two lists of identities. -/
structure MdS (n : Nat) (A : Nat → Prop) (w : World) (b : Nat) (R G N : ByteArray) (ls : List Ln) (last : Int) (made read : List (List Int)) (v vm vr : Value) : Prop where
  box : w.heap[b]? = some (.cells #[.string R, .string G, .string N, v, .int .i64 last, vm, vr] 49 (0, 0))
  own : w.ownsRow n 39 3 v ls.length (lnsV ls)
  om : w.ownsRow n 23 32 vm made.length (idsV made)
  or_ : w.ownsRow n 23 32 vr read.length (idsV read)
  am : All32 made
  ar : All32 read
  ne : ∀ k, vm.ownBlock = some k → vr.ownBlock ≠ some k
  bv : v.ownBlock ≠ some b
  bm : vm.ownBlock ≠ some b
  br : vr.ownBlock ≠ some b
  vm_ : ∀ k, v.ownBlock = some k → vm.ownBlock ≠ some k
  vr_ : ∀ k, v.ownBlock = some k → vr.ownBlock ≠ some k
  inb : A b
  inv : ∀ k, v.ownBlock = some k → A k
  inm : ∀ k, vm.ownBlock = some k → A k
  inr : ∀ k, vr.ownBlock = some k → A k
  lo : ∀ k, A k → n ≤ k
  hi : ∀ k, A k → k < w.heap.size
theorem MdS.move {n : Nat} {A : Nat → Prop} {w w' : World} {b : Nat} {R G N : ByteArray} {ls : List Ln} {last : Int} {made read : List (List Int)} {v vm vr : Value} (h : MdS n A w b R G N ls last made read v vm vr) (hk : ∀ k, A k → w'.heap[k]? = w.heap[k]?) (hz : w.heap.size ≤ w'.heap.size) : MdS n A w' b R G N ls last made read v vm vr :=
  ⟨(hk b h.inb).trans h.box, own_oth h.own fun k e => hk k (h.inv k e), own_oth h.om fun k e => hk k (h.inm k e), own_oth h.or_ fun k e => hk k (h.inr k e), h.am, h.ar, h.ne, h.bv, h.bm, h.br, h.vm_, h.vr_, h.inb, h.inv, h.inm, h.inr, h.lo, fun k ha => Nat.lt_of_lt_of_le (h.hi k ha) hz⟩
theorem MdS.keep {n : Nat} {A B : Nat → Prop} {w w' : World} {b : Nat} {R G N : ByteArray} {ls : List Ln} {last : Int} {made read : List (List Int)} {v vm vr : Value} (h : MdS n A w b R G N ls last made read v vm vr) (hf : Fr n B w w') (hd : ∀ k, A k → ¬ B k) : MdS n A w' b R G N ls last made read v vm vr :=
  h.move (fun k ha => hf.oth k (h.hi k ha) (hd k ha)) hf.size
theorem MdS.below {n : Nat} {A : Nat → Prop} {w w' : World} {b : Nat} {R G N : ByteArray} {ls : List Ln} {last : Int} {made read : List (List Int)} {v vm vr : Value} (h : MdS n A w b R G N ls last made read v vm vr) (hb : Below w.heap.size w w') : MdS n A w' b R G N ls last made read v vm vr :=
  h.move (fun k ha => hb.block k (h.hi k ha)) hb.size
theorem md_cells {n : Nat} {A : Nat → Prop} {w : World} {b : Nat} {R G N : ByteArray} {ls : List Ln} {last : Int} {made read : List (List Int)} {v vm vr : Value} (h : MdS n A w b R G N ls last made read v vm vr) : w.cell? ⟨b, 0, none⟩ = some (.string R) ∧ w.cell? ⟨b, 2, none⟩ = some (.string N) ∧ w.cell? ⟨b, 3, none⟩ = some v ∧ w.cell? ⟨b, 4, none⟩ = some (.int .i64 last) ∧ w.cell? ⟨b, 5, none⟩ = some vm ∧ w.cell? ⟨b, 6, none⟩ = some vr :=
  ⟨by rw [Lib.cell_of_heap h.box]; rfl, by rw [Lib.cell_of_heap h.box]; rfl, by rw [Lib.cell_of_heap h.box]; rfl, by rw [Lib.cell_of_heap h.box]; rfl, by rw [Lib.cell_of_heap h.box]; rfl, by rw [Lib.cell_of_heap h.box]; rfl⟩
def MdX (n : Nat) (A : Nat → Prop) (w : World) (b : Nat) (R G N : ByteArray) (ls : List Ln) (last : Int) (made read : List (List Int)) : Prop := ∃ v vm vr, MdS n A w b R G N ls last made read v vm vr
theorem MdX.keep {n : Nat} {A B : Nat → Prop} {w w' : World} {b : Nat} {R G N : ByteArray} {ls : List Ln} {last : Int} {made read : List (List Int)} (h : MdX n A w b R G N ls last made read) (hf : Fr n B w w') (hd : ∀ k, A k → ¬ B k) : MdX n A w' b R G N ls last made read := by
  obtain ⟨v, vm, vr, h⟩ := h; exact ⟨v, vm, vr, h.keep hf hd⟩
theorem MdX.below {n : Nat} {A : Nat → Prop} {w w' : World} {b : Nat} {R G N : ByteArray} {ls : List Ln} {last : Int} {made read : List (List Int)} (h : MdX n A w b R G N ls last made read) (hb : Below w.heap.size w w') : MdX n A w' b R G N ls last made read := by
  obtain ⟨v, vm, vr, h⟩ := h; exact ⟨v, vm, vr, h.below hb⟩
theorem MdX.more {n : Nat} {A B : Nat → Prop} {w : World} {b : Nat} {R G N : ByteArray} {ls : List Ln} {last : Int} {made read : List (List Int)} (h : MdX n A w b R G N ls last made read) (hs : ∀ k, A k → B k) (lo : ∀ k, B k → n ≤ k) (hi : ∀ k, B k → k < w.heap.size) : MdX n B w b R G N ls last made read := by
  obtain ⟨v, vm, vr, h⟩ := h
  exact ⟨v, vm, vr, ⟨h.box, h.own, h.om, h.or_, h.am, h.ar, h.ne, h.bv, h.bm, h.br, h.vm_, h.vr_, hs _ h.inb, fun k e => hs k (h.inv k e), fun k e => hs k (h.inm k e), fun k e => hs k (h.inr k e), lo, hi⟩⟩

theorem eql_id (w : World) (p q : List Int) (hp : p.length = 32) (hq : q.length = 32) : (binOp .eql 23 (idV p) (idV q)).run Tryz.prog w = .ok (.bool (decide (p = q))) w := by
  have h := id_equal ar32 w p q hp hq
  unfold idV at h ⊢
  simp [binOp, h]
theorem id_load {w : World} {A : Option Addr} {l : List (List Int)} (hr : Row w A (idsV l)) (ha : All32 l) {k : Nat} (hk : k < l.length) : ∃ bb off, A = some ⟨bb, off, none⟩ ∧ bb < w.heap.size ∧ w.rangeAt bb (off + k * 32) (idC l[k]) := by
  have hl := idsV_length l ha
  rcases hr with h | ⟨b, off, e1, hb, hc⟩
  · rw [h] at hl; simp at hl; omega
  · refine ⟨b, off, e1, hb, fun j v hv => ?_⟩
    have h32 := ha l[k] (List.getElem_mem hk)
    have hj : j < 32 := by have := (List.getElem?_eq_some_iff.1 hv).1; simpa [idC, h32] using this
    have := hc (k * 32 + j) v (by rw [idsV_at l ha k hk j hj]; exact hv)
    rw [Nat.add_assoc]; exact this
theorem range_cells {W : World} {B off : Nat} {cs : List Value} (h : W.rangeAt B off cs) {w' : World} (hb : w'.heap[B]? = W.heap[B]?) : w'.rangeAt B off cs := fun j v hv => by
  rw [World.cell?_of_block hb]; exact h j v hv
theorem id_loads {W : World} {B off : Nat} {p : List Int} (h : W.rangeAt B off (idC p)) (hp : p.length = 32) : (Instr.loadAt 23 (.pointer (some ⟨B, off, none⟩))).run Tryz.prog W = .ok (idV p) W :=
  range_load (T := 23) h Tryz.underlying23 rfl (by rw [show (idC p).length = 32 from by simp [idC, hp]]; exact size_Id)
theorem wpQuiet_binop {P : Program} {ops : Array Oper} {C : World → Prop} {Q : Act → Prop} {a : Act} {o : Oper} {rest : List Oper} (hgd : o.guard = none) (bo : BinOp) (t t' : TypeId) (x y : Operand) (ho : o.op = .binOp bo t x y t') {p q v : Value} (hx : a.eval x = p) (hy : a.eval y = q) (hg : ∀ w, (eqGuard bo t x y p q).run P w = .ok () w) (hl : ∀ w, (binOp bo t p q).run P w = .ok v w)
    (h : wpQuiet P ops C Q rest (a.put o.dst v)) : wpQuiet P ops C Q (o :: rest) a := by
  rw [wpQuiet, if_pos (by simp [Region.wanted, hgd])]
  refine ⟨v, fun w hc => ?_, h⟩
  unfold Oper.quietAt execOp
  simp only [ho, hx, hy, hg w, hl w, Sem.run_bind, Sem.run_pure, Result.andThen_ok]
  exact ⟨rfl, rfl⟩
/-- What the load of an identity yields, as one word: so a region that draws carries it out in one step ('attribute [local go_sem ↓] wp_load_id'). -/
def OkRow (w : World) (v : Value) : Prop := ∃ u, (Instr.loadAt 23 v).run Tryz.prog w = .ok u w
noncomputable def rowOf (w : World) (v : Value) : Value := by
  classical exact if h : OkRow w v then h.choose else undef
theorem row_of {w : World} {v u : Value} (h : (Instr.loadAt 23 v).run Tryz.prog w = .ok u w) : OkRow w v ∧ rowOf w v = u := by
  have hk : OkRow w v := ⟨u, h⟩
  refine ⟨hk, ?_⟩
  have h2 := h.symm.trans hk.choose_spec
  unfold rowOf
  rw [dif_pos hk]
  injection h2 with h2 _
  exact h2.symm
theorem wp_load_id {d : Option Tmp} {ty : TypeId} {pos : String} {af : Array Edge} {x : Operand} {a : Act} {w : World} {K : Act → World → Prop} {Q : Exit → Act → World → Prop} {g : Option (Nat × Bool)} (h : OkRow w (a.eval x)) :
    Oper.wp Tryz.prog { dst := d, op := .load 23 x, type := ty, pos := pos, after := af, guard := g } a w K Q = K (a.put d (rowOf w (a.eval x))) w := by
  obtain ⟨u, hu⟩ := h
  rw [(row_of hu).2]
  unfold Oper.wp execOp
  simp only [hu, Sem.run_bind, Sem.run_pure, Result.andThen_ok]
  rfl
set_option maxHeartbeats 4000000 in
set_option maxRecDepth 100000 in
theorem lw_has (A : Option Addr) (l : List (List Int)) (c : Nat) (f : Nat → Int) (w : World) (hr : Row w A (idsV l)) (ha : All32 l) (hl : l.length ≤ 1000000) :
    Calls Tryz.prog 18 #[.slice A l.length c, idA f] w fun e w' => e = .returned (.bool (decide (idN f ∈ l))) ∧ Below w.heap.size w w' := by
  have HA := Lib.hid ha
  have HR := Lib.hid hr
  clear ha hr
  go_enter Tryz.func18, Tryz.ntmps18
  go_wp2_with fail
  have HW1 := Lib.hid (show Below w.heap.size w (w.alloc (.cells (idC (idN f)).toArray 23)) from alloc_bel _ _)
  have HX1 := Lib.hid (show (w.alloc (.cells (idC (idN f)).toArray 23)).heap[w.heap.size]? = some (.cells (idC (idN f)).toArray 23 (0, 0)) from heap_alloc_new _ _)
  go_loopw [5] (fun ix wr => ∃ k : Nat, k ≤ l.length ∧ ix = .int .i64 (k : Int) ∧ Below (w.heap.size + 1) (w.alloc (.cells (idC (idN f)).toArray 23)) wr ∧ ∀ j (h : j < l.length), j < k → l[j] ≠ idN f) (fun ix _ => l.length - (intOf ix).toNat)
  case atStart => exact ⟨0, by omega, rfl, Below.refl _ _, fun j _ h => by omega⟩
  case round =>
    obtain ⟨k, hk, rfl, hB, hno⟩ := hrel
    have HBB := Lib.hid hB
    have HN := Lib.hid hno
    have HB := Lib.hid (HW1.out.trans (hB.mono (by omega)))
    have HX := Lib.hid ((hB.block w.heap.size (by omega)).trans HX1.out)
    have k0 : (0 : Int) ≤ (k : Int) := by omega
    clear hno hB
    by_cases hlt : k < l.length
    · have k1 : (k : Int) < (l.length : Int) := by omega
      obtain ⟨bb, off, rfl, hbb, hra⟩ := id_load (HR.out.below HB.out) HA.out hlt
      have hp := HA.out l[k] (List.getElem_mem hlt)
      obtain ⟨p, hpe⟩ : ∃ p, l[k] = p := ⟨_, rfl⟩
      rw [hpe] at hra hp
      have HPE := Lib.hid hpe
      have HLD := Lib.hid (show ∀ wx, (∃ j, wx = wr.drewN j) → (Instr.loadAt 23 (.pointer (some ⟨bb, off + k * 32, none⟩))).run Tryz.prog wx = .ok (idV p) wx from fun wx ⟨j, e⟩ => by subst e; exact id_loads (W := wr.drewN j) hra hp)
      have HLI := Lib.hid (show ∀ wx, (∃ j, wx = wr.drewN j) → (Instr.loadAt 23 (.pointer (some ⟨w.heap.size, 0, none⟩))).run Tryz.prog wx = .ok (idV (idN f)) wx from fun wx ⟨j, e⟩ => by
        subst e
        exact id_loads (W := wr.drewN j) (fun i v hv => by rw [Nat.zero_add, Lib.cell_of_heap (w := wr.drewN j) HX.out]; simpa using hv) rfl)
      have hq := fun wx => eql_id wx p (idN f) hp rfl
      clear hpe hra
      by_cases hpf : p = idN f
      · have hq1 : decide (p = idN f) = true := decide_eq_true hpf
        rw [hq1] at hq
        have HR2 := Lib.hid (show decide (idN f ∈ l) = true from decide_eq_true (by rw [← hpf, ← HPE.out]; exact List.getElem_mem hlt))
        clear hq1 hpf
        go_upto_region 4 with fail
        refine wp_region_quiet_lit (by kernel_rfl) (by kernel_rfl) ?_
        repeat (first | (refine wpQuiet_load rfl 23 _ rfl rfl HLD.out ?_; simp only [Act.put, List.setIfInBounds_toArray, List.set_cons_zero, List.set_cons_succ]) | (refine wpQuiet_load rfl 23 _ rfl rfl HLI.out ?_; simp only [Act.put, List.setIfInBounds_toArray, List.set_cons_zero, List.set_cons_succ]) | (go_big_quiet_step (fail)))
        refine wpQuiet_binop rfl .eql 23 _ _ _ rfl rfl rfl (fun w => run_eqGuard_agg w _ _ _ _ _ _ Tryz.eqGuardType23) hq ?_
        refine wpQuiet_nil ?_
        intro _ hw'
        obtain ⟨nq, hw''⟩ := hw'
        subst hw''
        go_wp2_with fail
        go_ret
        exact ⟨by rw [HR2.out]; rfl, below_drewN HB.out nq⟩
      · have hq1 : decide (p = idN f) = false := decide_eq_false hpf
        rw [hq1] at hq
        have HNE := Lib.hid (show l[k] ≠ idN f from by rw [HPE.out]; exact hpf)
        clear hq1 hpf
        go_upto_region 4 with fail
        refine wp_region_quiet_lit (by kernel_rfl) (by kernel_rfl) ?_
        repeat (first | (refine wpQuiet_load rfl 23 _ rfl rfl HLD.out ?_; simp only [Act.put, List.setIfInBounds_toArray, List.set_cons_zero, List.set_cons_succ]) | (refine wpQuiet_load rfl 23 _ rfl rfl HLI.out ?_; simp only [Act.put, List.setIfInBounds_toArray, List.set_cons_zero, List.set_cons_succ]) | (go_big_quiet_step (fail)))
        refine wpQuiet_binop rfl .eql 23 _ _ _ rfl rfl rfl (fun w => run_eqGuard_agg w _ _ _ _ _ _ Tryz.eqGuardType23) hq ?_
        refine wpQuiet_nil ?_
        intro _ hw'
        obtain ⟨nq, hw''⟩ := hw'
        subst hw''
        go_wp2_with fail
        go_roundw
        case rel => exact ⟨k + 1, by omega, by go_num, below_drewN HBB.out nq, fun j hj h => by
          by_cases e : j = k
          · subst e; exact HNE.out
          · exact HN.out j hj (by omega)⟩
        case measure => simp [intOf] <;> omega
    · have k1 : (l.length : Int) ≤ (k : Int) := by omega
      have HR2 := Lib.hid (show decide (idN f ∈ l) = false from decide_eq_false fun hm => by
        obtain ⟨j, hj, e⟩ := List.getElem_of_mem hm
        exact HN.out j hj (by omega) e)
      go_wp2_with fail
      go_ret
      exact ⟨by rw [HR2.out]; rfl, HB.out⟩
end Go.Proofs.YtghjgbkhhoaebaaGreatDoor

namespace Go.Proofs.YtghjgbkhhoaebaaGreatDoor
set_option linter.unusedSimpArgs false
set_option linter.unusedVariables false
open Go.RowKit

section
variable {n : Nat} {A : Nat → Prop} {W1 w4 : World} {b : Nat} {R G N : ByteArray} {ls ls' : List Ln} {last : Int} {made read : List (List Int)} {v vm vr v4 : Value} {o : Obj}
theorem pour_block {row : Option Nat} {i k : Nat} {u : Value} (hg : (W1.alloc o).drew.grownBy w4 row) (hk : k < W1.heap.size) (hr : row ≠ some k) (hb : k ≠ b) : (w4.setCell ⟨b, i, none⟩ u).heap[k]? = W1.heap[k]? :=
  (heap_set_ne u hb).trans ((hg.block k (by simp; omega) (fun e => hr e.symm)).trans (Lib.alloc_old W1 o k hk))
theorem pour_fr {row : Option Nat} {i : Nat} {u : Value} (hg : (W1.alloc o).drew.grownBy w4 row) (hn : n ≤ W1.heap.size) (hr : ∀ k, row = some k → n ≤ k ∧ A k) (hb : n ≤ b) (hA : A b) : Fr n A W1 (w4.setCell ⟨b, i, none⟩ u) :=
  ((Fr.of ((alloc_bel W1 o).drew) hn).grown hg hn (fun k e => ⟨(hr k e).1, .inl (hr k e).2⟩)).set u hb (.inl hA)
theorem pour_box {row : Option Nat} {i : Nat} {u : Value} {cs : Array Value} {t : TypeId} {fr : Nat × Nat} (hg : (W1.alloc o).drew.grownBy w4 row) (h : W1.heap[b]? = some (.cells cs t fr)) (hr : row ≠ some b) : (w4.setCell ⟨b, i, none⟩ u).heap[b]? = some (.cells (cs.setIfInBounds i u) t fr) :=
  heap_set ((hg.block b (by simp; exact Nat.lt_succ_of_lt (heap_lt h)) (fun e => hr e.symm)).trans ((Lib.alloc_old W1 o b (heap_lt h)).trans h)) u
theorem pour_new {row : Option Nat} (hg : (W1.alloc o).drew.grownBy w4 row) : W1.heap.size + 1 ≤ w4.heap.size := by
  have := hg.size
  simp at this; omega
/-- One more identity in Made. -/
theorem MdS.pushM (h : MdS n A W1 b R G N ls last made read v vm vr) (hn : n ≤ W1.heap.size) {p : List Int} (hp : p.length = 32) (hown : w4.ownsRow n 23 32 v4 (made.length + 1) (idsV made ++ idC p)) (hg : (W1.alloc o).drew.grownBy w4 vm.ownBlock) (hat : v4.ownBlock = vm.ownBlock ∨ v4.ownBlock = some (W1.alloc o).drew.heap.size) :
    MdS n (Ext A W1 (w4.setCell ⟨b, 5, none⟩ v4)) (w4.setCell ⟨b, 5, none⟩ v4) b R G N ls last (made ++ [p]) read v v4 vr ∧ Fr n A W1 (w4.setCell ⟨b, 5, none⟩ v4) := by
  have hz : (W1.alloc o).drew.heap.size = W1.heap.size + 1 := by simp
  rw [hz] at hat
  have hz4 := pour_new hg
  have hbz := h.hi b h.inb
  have hF := pour_fr (i := 5) (u := v4) hg hn (fun k e => ⟨h.lo k (h.inm k e), h.inm k e⟩) (h.lo b h.inb) h.inb
  have hKV : ∀ k, v.ownBlock = some k → (w4.setCell ⟨b, 5, none⟩ v4).heap[k]? = W1.heap[k]? := fun k e => pour_block hg (h.hi k (h.inv k e)) (h.vm_ k e) (fun e2 => h.bv (by rw [e, e2]))
  have hKR : ∀ k, vr.ownBlock = some k → (w4.setCell ⟨b, 5, none⟩ v4).heap[k]? = W1.heap[k]? := fun k e => pour_block hg (h.hi k (h.inr k e)) (fun e2 => h.ne k e2 e) (fun e2 => h.br (by rw [e, e2]))
  have hNew : ∀ k, v4.ownBlock = some k → vm.ownBlock = some k ∨ k = W1.heap.size + 1 := fun k e => by
    rcases hat with hat | hat
    · exact .inl (hat ▸ e)
    · rw [e] at hat; injection hat with hat; exact .inr hat
  have h4b : v4.ownBlock ≠ some b := fun e => by
    rcases hNew b e with e2 | e2
    · exact h.bm e2
    · omega
  refine ⟨⟨pour_box hg h.box h.bm, own_oth h.own hKV, ?_, own_oth h.or_ hKR, ?_, h.ar, ?_, h.bv, h4b, h.br, ?_, h.vr_, .inl h.inb, fun k e => .inl (h.inv k e), ?_, fun k e => .inl (h.inr k e), ?_, ?_⟩, hF⟩
  · rw [idsV_snoc, List.length_append]
    exact own_oth hown fun k e => heap_set_ne v4 (fun e2 => h4b (by rw [e, e2]))
  · intro x hx
    rcases List.mem_append.1 hx with hx | hx
    · exact h.am x hx
    · rw [List.mem_singleton] at hx; rw [hx]; exact hp
  · intro k e e2
    rcases hNew k e with e3 | e3
    · exact h.ne k e3 e2
    · have := h.hi k (h.inr k e2); omega
  · intro k e e2
    rcases hNew k e2 with e3 | e3
    · exact h.vm_ k e e3
    · have := h.hi k (h.inv k e); omega
  · intro k e
    have := (hown.lt k e).2
    rcases hNew k e with e3 | e3
    · exact .inl (h.inm k e3)
    · exact .inr ⟨by omega, by simpa using this⟩
  · intro k hk
    rcases hk with hk | hk
    · exact h.lo k hk
    · omega
  · intro k hk
    rcases hk with hk | hk
    · exact Nat.lt_of_lt_of_le (h.hi k hk) hF.size
    · exact hk.2
/-- One more identity in Read. -/
theorem MdS.pushR (h : MdS n A W1 b R G N ls last made read v vm vr) (hn : n ≤ W1.heap.size) {p : List Int} (hp : p.length = 32) (hown : w4.ownsRow n 23 32 v4 (read.length + 1) (idsV read ++ idC p)) (hg : (W1.alloc o).drew.grownBy w4 vr.ownBlock) (hat : v4.ownBlock = vr.ownBlock ∨ v4.ownBlock = some (W1.alloc o).drew.heap.size) :
    MdS n (Ext A W1 (w4.setCell ⟨b, 6, none⟩ v4)) (w4.setCell ⟨b, 6, none⟩ v4) b R G N ls last made (read ++ [p]) v vm v4 ∧ Fr n A W1 (w4.setCell ⟨b, 6, none⟩ v4) := by
  have hz : (W1.alloc o).drew.heap.size = W1.heap.size + 1 := by simp
  rw [hz] at hat
  have hz4 := pour_new hg
  have hbz := h.hi b h.inb
  have hF := pour_fr (i := 6) (u := v4) hg hn (fun k e => ⟨h.lo k (h.inr k e), h.inr k e⟩) (h.lo b h.inb) h.inb
  have hKV : ∀ k, v.ownBlock = some k → (w4.setCell ⟨b, 6, none⟩ v4).heap[k]? = W1.heap[k]? := fun k e => pour_block hg (h.hi k (h.inv k e)) (h.vr_ k e) (fun e2 => h.bv (by rw [e, e2]))
  have hKR : ∀ k, vm.ownBlock = some k → (w4.setCell ⟨b, 6, none⟩ v4).heap[k]? = W1.heap[k]? := fun k e => pour_block hg (h.hi k (h.inm k e)) (fun e2 => h.ne k e e2) (fun e2 => h.bm (by rw [e, e2]))
  have hNew : ∀ k, v4.ownBlock = some k → vr.ownBlock = some k ∨ k = W1.heap.size + 1 := fun k e => by
    rcases hat with hat | hat
    · exact .inl (hat ▸ e)
    · rw [e] at hat; injection hat with hat; exact .inr hat
  have h4b : v4.ownBlock ≠ some b := fun e => by
    rcases hNew b e with e2 | e2
    · exact h.br e2
    · omega
  refine ⟨⟨pour_box hg h.box h.br, own_oth h.own hKV, own_oth h.om hKR, ?_, h.am, ?_, ?_, h.bv, h.bm, h4b, h.vm_, ?_, .inl h.inb, fun k e => .inl (h.inv k e), fun k e => .inl (h.inm k e), ?_, ?_, ?_⟩, hF⟩
  · rw [idsV_snoc, List.length_append]
    exact own_oth hown fun k e => heap_set_ne v4 (fun e2 => h4b (by rw [e, e2]))
  · intro x hx
    rcases List.mem_append.1 hx with hx | hx
    · exact h.ar x hx
    · rw [List.mem_singleton] at hx; rw [hx]; exact hp
  · intro k e e2
    rcases hNew k e2 with e3 | e3
    · exact h.ne k e e3
    · have := h.hi k (h.inm k e); omega
  · intro k e e2
    rcases hNew k e2 with e3 | e3
    · exact h.vr_ k e e3
    · have := h.hi k (h.inv k e); omega
  · intro k e
    have := (hown.lt k e).2
    rcases hNew k e with e3 | e3
    · exact .inl (h.inr k e3)
    · exact .inr ⟨by omega, by simpa using this⟩
  · intro k hk
    rcases hk with hk | hk
    · exact h.lo k hk
    · omega
  · intro k hk
    rcases hk with hk | hk
    · exact Nat.lt_of_lt_of_le (h.hi k hk) hF.size
    · exact hk.2
/-- Other lines wait, in blocks of their own. -/
theorem MdS.setL (h : MdS n A W1 b R G N ls last made read v vm vr) (hn : n ≤ W1.heap.size) (hb : Below W1.heap.size W1 w4) (hown : w4.ownsRow W1.heap.size 39 3 v4 ls'.length (lnsV ls')) :
    MdS n (Ext A W1 (w4.setCell ⟨b, 3, none⟩ v4)) (w4.setCell ⟨b, 3, none⟩ v4) b R G N ls' last made read v4 vm vr ∧ Fr n A W1 (w4.setCell ⟨b, 3, none⟩ v4) := by
  have hbz := h.hi b h.inb
  have hF : Fr n A W1 (w4.setCell ⟨b, 3, none⟩ v4) := (Fr.of hb hn).set v4 (h.lo b h.inb) (.inl h.inb)
  have hK : ∀ k, k < W1.heap.size → k ≠ b → (w4.setCell ⟨b, 3, none⟩ v4).heap[k]? = W1.heap[k]? := fun k hk hkb => (heap_set_ne v4 hkb).trans (hb.block k hk)
  have h4 : ∀ k, v4.ownBlock = some k → W1.heap.size ≤ k := fun k e => (hown.lt k e).1
  have h4b : v4.ownBlock ≠ some b := fun e => by have := h4 b e; omega
  refine ⟨⟨heap_set ((hb.block b hbz).trans h.box) v4, ?_, own_oth h.om fun k e => hK k (h.hi k (h.inm k e)) (fun e2 => h.bm (by rw [e, e2])), own_oth h.or_ fun k e => hK k (h.hi k (h.inr k e)) (fun e2 => h.br (by rw [e, e2])), h.am, h.ar, h.ne, h4b, h.bm, h.br, ?_, ?_, .inl h.inb, ?_, fun k e => .inl (h.inm k e), fun k e => .inl (h.inr k e), ?_, ?_⟩, hF⟩
  · exact own_oth (own_mono hown hn) fun k e => heap_set_ne v4 (fun e2 => h4b (by rw [e, e2]))
  · intro k e e2
    have h1 := h4 k e
    have := h.hi k (h.inm k e2); omega
  · intro k e e2
    have h1 := h4 k e
    have := h.hi k (h.inr k e2); omega
  · intro k e
    have := (hown.lt k e).2
    exact .inr ⟨h4 k e, by simpa using this⟩
  · intro k hk
    rcases hk with hk | hk
    · exact h.lo k hk
    · omega
  · intro k hk
    rcases hk with hk | hk
    · exact Nat.lt_of_lt_of_le (h.hi k hk) hF.size
    · exact hk.2
/-- The last minute. -/
theorem MdS.setT (h : MdS n A W1 b R G N ls last made read v vm vr) (m : Int) :
    MdS n A (W1.setCell ⟨b, 4, none⟩ (.int .i64 m)) b R G N ls m made read v vm vr ∧ Fr n A W1 (W1.setCell ⟨b, 4, none⟩ (.int .i64 m)) :=
  ⟨⟨heap_set h.box _, own_oth h.own fun k e => heap_set_ne _ (fun e2 => h.bv (by rw [e, e2])), own_oth h.om fun k e => heap_set_ne _ (fun e2 => h.bm (by rw [e, e2])), own_oth h.or_ fun k e => heap_set_ne _ (fun e2 => h.br (by rw [e, e2])), h.am, h.ar, h.ne, h.bv, h.bm, h.br, h.vm_, h.vr_, h.inb, h.inv, h.inm, h.inr, h.lo, fun k hk => by simpa using h.hi k hk⟩, (Fr.refl n A W1).set _ (h.lo b h.inb) (.inl h.inb)⟩
end
theorem MdX.ext {n : Nat} {A : Nat → Prop} {w w' : World} {b : Nat} {R G N : ByteArray} {ls : List Ln} {last : Int} {made read : List (List Int)} (h : MdX n A w' b R G N ls last made read) (hn : n ≤ w.heap.size) : MdX n (Ext A w w') w' b R G N ls last made read := by
  have h0 := h
  obtain ⟨v, vm, vr, h1⟩ := h0
  exact h.more (fun k h => .inl h) (fun k h => h.elim (h1.lo k) (fun h => by omega)) (fun k h => h.elim (h1.hi k) (fun h => h.2))
theorem GwX.ext {n : Nat} {A : Nat → Prop} {w w' : World} {b : Nat} {R G N : ByteArray} {ls : List Ln} {last : Int} {made read : List (List Int)} (h : GwX n A w' b R G N ls last made read) (hn : n ≤ w.heap.size) : GwX n (Ext A w w') w' b R G N ls last made read := by
  have h0 := h
  obtain ⟨v, m1, m2, h1⟩ := h0
  exact h.more (fun k h => .inl h) (fun k h => h.elim (h1.lo k) (fun h => by omega)) (fun k h => h.elim (h1.hi k) (fun h => h.2))
theorem Ext.trans {A : Nat → Prop} {w w1 w2 : World} {k : Nat} (h : Ext (Ext A w w1) w1 w2 k) (h1 : w.heap.size ≤ w1.heap.size) (h2 : w1.heap.size ≤ w2.heap.size) : Ext A w w2 k := by
  rcases h with (h | h) | h
  · exact .inl h
  · exact .inr ⟨h.1, by omega⟩
  · exact .inr ⟨by omega, h.2⟩
theorem MdX.ext2 {n : Nat} {A : Nat → Prop} {w w1 w2 : World} {b : Nat} {R G N : ByteArray} {ls : List Ln} {last : Int} {made read : List (List Int)} (h : MdX n (Ext A w1 w2) w2 b R G N ls last made read) (hA : ∀ k, A k → n ≤ k ∧ k < w.heap.size) (hn : n ≤ w.heap.size) (h1 : w.heap.size ≤ w1.heap.size) (h2 : w1.heap.size ≤ w2.heap.size) : MdX n (Ext A w w2) w2 b R G N ls last made read :=
  h.more (fun k h => h.elim .inl (fun h => .inr ⟨by omega, h.2⟩)) (fun k h => h.elim (fun h => (hA k h).1) (fun h => by omega)) (fun k h => h.elim (fun h => by have := (hA k h).2; omega) (fun h => h.2))
end Go.Proofs.YtghjgbkhhoaebaaGreatDoor

namespace Go.Proofs.YtghjgbkhhoaebaaGreatDoor
set_option linter.unusedSimpArgs false
set_option linter.unusedVariables false
open Go.RowKit

abbrev idK (f : Nat → Int) : Array Value := #[.int .u8 (f 0), .int .u8 (f 1), .int .u8 (f 2), .int .u8 (f 3), .int .u8 (f 4), .int .u8 (f 5), .int .u8 (f 6), .int .u8 (f 7), .int .u8 (f 8), .int .u8 (f 9), .int .u8 (f 10), .int .u8 (f 11), .int .u8 (f 12), .int .u8 (f 13), .int .u8 (f 14), .int .u8 (f 15), .int .u8 (f 16), .int .u8 (f 17), .int .u8 (f 18), .int .u8 (f 19), .int .u8 (f 20), .int .u8 (f 21), .int .u8 (f 22), .int .u8 (f 23), .int .u8 (f 24), .int .u8 (f 25), .int .u8 (f 26), .int .u8 (f 27), .int .u8 (f 28), .int .u8 (f 29), .int .u8 (f 30), .int .u8 (f 31)]
abbrev idKL (f : Nat → Int) : List Value := [.int .u8 (f 0), .int .u8 (f 1), .int .u8 (f 2), .int .u8 (f 3), .int .u8 (f 4), .int .u8 (f 5), .int .u8 (f 6), .int .u8 (f 7), .int .u8 (f 8), .int .u8 (f 9), .int .u8 (f 10), .int .u8 (f 11), .int .u8 (f 12), .int .u8 (f 13), .int .u8 (f 14), .int .u8 (f 15), .int .u8 (f 16), .int .u8 (f 17), .int .u8 (f 18), .int .u8 (f 19), .int .u8 (f 20), .int .u8 (f 21), .int .u8 (f 22), .int .u8 (f 23), .int .u8 (f 24), .int .u8 (f 25), .int .u8 (f 26), .int .u8 (f 27), .int .u8 (f 28), .int .u8 (f 29), .int .u8 (f 30), .int .u8 (f 31)]
theorem idK_one (f : Nat → Int) : ∀ u ∈ idKL f, u.oneCell' = true := by
  intro u hu
  have : u ∈ idC (idN f) := hu
  simp only [idC, List.mem_map] at this
  obtain ⟨k, _, rfl⟩ := this
  rfl
theorem idK_range {W : World} {B : Nat} {f : Nat → Int} {t : TypeId} {fr : Nat × Nat} (h : W.heap[B]? = some (.cells (idK f) t fr)) : W.rangeAt B 0 (idKL f) := fun j v hv => by
  rw [Nat.zero_add, Lib.cell_of_heap h]; simpa using hv
theorem id_cells {W : World} {B : Nat} {f : Nat → Int} {t : TypeId} {fr : Nat × Nat} (h : W.heap[B]? = some (.cells (idK f) t fr)) : W.cell? ⟨B, 0, none⟩ = some (.int .u8 (f 0)) ∧ W.cell? ⟨B, 1, none⟩ = some (.int .u8 (f 1)) ∧ W.cell? ⟨B, 2, none⟩ = some (.int .u8 (f 2)) ∧ W.cell? ⟨B, 3, none⟩ = some (.int .u8 (f 3)) ∧ W.cell? ⟨B, 4, none⟩ = some (.int .u8 (f 4)) ∧ W.cell? ⟨B, 5, none⟩ = some (.int .u8 (f 5)) ∧ W.cell? ⟨B, 6, none⟩ = some (.int .u8 (f 6)) ∧ W.cell? ⟨B, 7, none⟩ = some (.int .u8 (f 7)) ∧ W.cell? ⟨B, 8, none⟩ = some (.int .u8 (f 8)) ∧ W.cell? ⟨B, 9, none⟩ = some (.int .u8 (f 9)) ∧ W.cell? ⟨B, 10, none⟩ = some (.int .u8 (f 10)) ∧ W.cell? ⟨B, 11, none⟩ = some (.int .u8 (f 11)) ∧ W.cell? ⟨B, 12, none⟩ = some (.int .u8 (f 12)) ∧ W.cell? ⟨B, 13, none⟩ = some (.int .u8 (f 13)) ∧ W.cell? ⟨B, 14, none⟩ = some (.int .u8 (f 14)) ∧ W.cell? ⟨B, 15, none⟩ = some (.int .u8 (f 15)) ∧ W.cell? ⟨B, 16, none⟩ = some (.int .u8 (f 16)) ∧ W.cell? ⟨B, 17, none⟩ = some (.int .u8 (f 17)) ∧ W.cell? ⟨B, 18, none⟩ = some (.int .u8 (f 18)) ∧ W.cell? ⟨B, 19, none⟩ = some (.int .u8 (f 19)) ∧ W.cell? ⟨B, 20, none⟩ = some (.int .u8 (f 20)) ∧ W.cell? ⟨B, 21, none⟩ = some (.int .u8 (f 21)) ∧ W.cell? ⟨B, 22, none⟩ = some (.int .u8 (f 22)) ∧ W.cell? ⟨B, 23, none⟩ = some (.int .u8 (f 23)) ∧ W.cell? ⟨B, 24, none⟩ = some (.int .u8 (f 24)) ∧ W.cell? ⟨B, 25, none⟩ = some (.int .u8 (f 25)) ∧ W.cell? ⟨B, 26, none⟩ = some (.int .u8 (f 26)) ∧ W.cell? ⟨B, 27, none⟩ = some (.int .u8 (f 27)) ∧ W.cell? ⟨B, 28, none⟩ = some (.int .u8 (f 28)) ∧ W.cell? ⟨B, 29, none⟩ = some (.int .u8 (f 29)) ∧ W.cell? ⟨B, 30, none⟩ = some (.int .u8 (f 30)) ∧ W.cell? ⟨B, 31, none⟩ = some (.int .u8 (f 31)) :=
  ⟨by rw [Lib.cell_of_heap h]; rfl, by rw [Lib.cell_of_heap h]; rfl, by rw [Lib.cell_of_heap h]; rfl, by rw [Lib.cell_of_heap h]; rfl, by rw [Lib.cell_of_heap h]; rfl, by rw [Lib.cell_of_heap h]; rfl, by rw [Lib.cell_of_heap h]; rfl, by rw [Lib.cell_of_heap h]; rfl, by rw [Lib.cell_of_heap h]; rfl, by rw [Lib.cell_of_heap h]; rfl, by rw [Lib.cell_of_heap h]; rfl, by rw [Lib.cell_of_heap h]; rfl, by rw [Lib.cell_of_heap h]; rfl, by rw [Lib.cell_of_heap h]; rfl, by rw [Lib.cell_of_heap h]; rfl, by rw [Lib.cell_of_heap h]; rfl, by rw [Lib.cell_of_heap h]; rfl, by rw [Lib.cell_of_heap h]; rfl, by rw [Lib.cell_of_heap h]; rfl, by rw [Lib.cell_of_heap h]; rfl, by rw [Lib.cell_of_heap h]; rfl, by rw [Lib.cell_of_heap h]; rfl, by rw [Lib.cell_of_heap h]; rfl, by rw [Lib.cell_of_heap h]; rfl, by rw [Lib.cell_of_heap h]; rfl, by rw [Lib.cell_of_heap h]; rfl, by rw [Lib.cell_of_heap h]; rfl, by rw [Lib.cell_of_heap h]; rfl, by rw [Lib.cell_of_heap h]; rfl, by rw [Lib.cell_of_heap h]; rfl, by rw [Lib.cell_of_heap h]; rfl, by rw [Lib.cell_of_heap h]; rfl⟩
/-- What posted answers and leaves. -/
def poE (p : List Int) (made : List (List Int)) : Int := if p ∈ made then 7 else 0
def poM (p : List Int) (made : List (List Int)) : List (List Int) := if p ∈ made then made else made ++ [p]
/-- A list of identities in the model's box, an identity in a box, in a world to come. -/
def PoP (W0 : World) (b i bx : Nat) (v : Value) (f : Nat → Int) (w' : World) : Prop := w'.cell? ⟨b, i, none⟩ = some v ∧ w'.rangeAt bx 0 (idKL f) ∧ Below W0.heap.size W0 w'
theorem PoP.of {W0 w' : World} {b i bx : Nat} {v : Value} {f : Nat → Int} (h0 : W0.cell? ⟨b, i, none⟩ = some v) (h1 : W0.rangeAt bx 0 (idKL f)) (hb : Below W0.heap.size W0 w') : PoP W0 b i bx v f w' :=
  ⟨(hb.cell (World.block_lt_of_cell? _ _ h0)).trans h0, fun j u hj => (hb.cell (World.block_lt_of_cell? _ _ (h1 j u hj))).trans (h1 j u hj), hb⟩
theorem PoP.later {W0 w w' : World} {b i bx : Nat} {v : Value} {f : Nat → Int} (h : PoP W0 b i bx v f w) (hb : Below w.heap.size w w') : PoP W0 b i bx v f w' :=
  ⟨(hb.cell (World.block_lt_of_cell? _ _ h.1)).trans h.1, fun j u hj => (hb.cell (World.block_lt_of_cell? _ _ (h.2.1 j u hj))).trans (h.2.1 j u hj), h.2.2.trans (hb.mono h.2.2.size)⟩
attribute [local go_sem ↓] wp_load_id
set_option maxHeartbeats 8000000 in
set_option maxRecDepth 100000 in
theorem lw_posted {n : Nat} {A : Nat → Prop} {w : World} {b : Nat} {R G N : ByteArray} {ls : List Ln} {last : Int} {made read : List (List Int)} (h : MdX n A w b R G N ls last made read) (hn : n ≤ w.heap.size) (f : Nat → Int) (hm : made.length ≤ 1000) :
    Calls Tryz.prog 88 #[.pointer (some ⟨b, 0, none⟩), idA f] w fun e w' => e = .returned (.int .i64 (poE (idN f) made)) ∧ MdX n (Ext A w w') w' b R G N ls last (poM (idN f) made) read ∧ Fr n A w w' := by
  obtain ⟨v, vm, vr, h⟩ := h
  have HN := Lib.hid hn
  have HO := Lib.hid h
  have HW0 := Lib.hid (alloc_bel w (.cells (idK f) 23))
  have HX0 := Lib.hid (show (w.alloc (.cells (idK f) 23)).heap[w.heap.size]? = some (.cells (idK f) 23 (0, 0)) from heap_alloc_new _ _)
  have HZ0 := Lib.hid (show (w.alloc (.cells (idK f) 23)).heap.size = w.heap.size + 1 from by simp)
  have HS0 := Lib.hid (h.below HW0.out)
  clear h hn
  go_enter Tryz.func88, Tryz.ntmps88
  go_upto_region 1 with fail
  generalize w.alloc (.cells (idK f) 23) = W0 at *
  obtain ⟨A5, c5, rfl, hr5⟩ := own_row HS0.out.om
  obtain ⟨_, _, _, _, k5, _⟩ := md_cells HS0.out
  have hra := idK_range HX0.out
  have hty := Tryz.underlying23
  have hsz := size_Id
  have HK := Lib.hid (show PoP W0 b 5 w.heap.size (.slice A5 made.length c5) f W0.drew from PoP.of k5 hra ((Below.refl _ _).drew))
  by_cases hmd : idN f ∈ made
  · have HH := Lib.hid (fun wx (hx : PoP W0 b 5 w.heap.size (.slice A5 made.length c5) f wx) => show Calls Tryz.prog 18 #[.slice A5 made.length c5, idA f] wx fun e w' => e = .returned (.bool true) ∧ Below wx.heap.size wx w' from by
      have h := lw_has A5 made c5 f wx (hr5.below hx.2.2) HS0.out.am (by omega)
      rwa [decide_eq_true hmd] at h)
    have HE := Lib.hid (show poE (idN f) made = 7 ∧ poM (idN f) made = made from ⟨by unfold poE; rw [if_pos hmd], by unfold poM; rw [if_pos hmd]⟩)
    clear hmd hr5
    go_region_held3 (fun w' => w'.cell? ⟨b, 5, none⟩ = some (.slice A5 made.length c5) ∧ w'.rangeAt w.heap.size 0 (idKL f) ∧ Below W0.heap.size W0 w')
      (first | exact HK.out | exact PoP.later (by assumption) hb5)
      ((go_at_call 18; (with_reducible refine (HH.out _ ?hh).mono ?_); (case hh => assumption); rintro e w5 ⟨rfl, hb5⟩))
    rename_i hS
    have HB := Lib.hid (HW0.out.trans (hS.2.2.mono HW0.out.size))
    go_wp2_with fail
    go_ret
    rw [HE.out.1, HE.out.2]
    exact ⟨rfl, ⟨_, _, _, HO.out.below HB.out⟩ |> fun h => MdX.ext h HN.out, Fr.of HB.out HN.out⟩
  · have HH := Lib.hid (fun wx (hx : PoP W0 b 5 w.heap.size (.slice A5 made.length c5) f wx) => show Calls Tryz.prog 18 #[.slice A5 made.length c5, idA f] wx fun e w' => e = .returned (.bool false) ∧ Below wx.heap.size wx w' from by
      have h := lw_has A5 made c5 f wx (hr5.below hx.2.2) HS0.out.am (by omega)
      rwa [decide_eq_false hmd] at h)
    have HE := Lib.hid (show poE (idN f) made = 0 ∧ poM (idN f) made = made ++ [idN f] from ⟨by unfold poE; rw [if_neg hmd], by unfold poM; rw [if_neg hmd]⟩)
    clear hmd hr5
    go_region_held3 (fun w' => w'.cell? ⟨b, 5, none⟩ = some (.slice A5 made.length c5) ∧ w'.rangeAt w.heap.size 0 (idKL f) ∧ Below W0.heap.size W0 w')
      (first | exact HK.out | exact PoP.later (by assumption) hb5)
      ((go_at_call 18; (with_reducible refine (HH.out _ ?hh).mono ?_); (case hh => assumption); rintro e w5 ⟨rfl, hb5⟩))
    rename_i hS
    have HB := Lib.hid (HW0.out.trans (hS.2.2.mono HW0.out.size))
    have HS1 := Lib.hid (HS0.out.below hS.2.2)
    have HX1 := Lib.hid ((hS.2.2.block w.heap.size (by rw [HZ0.out]; omega)).trans HX0.out)
    have HN1 := Lib.hid (Nat.le_trans HN.out HB.out.size)
    clear k5 hra hb5 hS
    go_upto_region 3 with fail
    obtain ⟨_, _, _, _, k5, _⟩ := md_cells HS1.out
    have f5 := Lib.frozen_of_heap HS1.out.box 5
    obtain ⟨o1, e1⟩ := row_of (w := w5.drew) (v := .pointer (some ⟨w.heap.size, 0, none⟩)) (u := idA f) (id_loads (p := idN f) (idK_range (W := w5.drew) HX1.out) rfl)
    have HOE := Lib.hid (fun (X : Obj) => row_of (w := (w5.alloc X).drew) (v := .pointer (some ⟨w.heap.size, 0, none⟩)) (u := idA f) (id_loads (p := idN f) (idK_range (W := (w5.alloc X).drew) ((Lib.alloc_old w5 X w.heap.size (heap_lt HX1.out)).trans HX1.out)) rfl))
    have o2 := fun X => (HOE.out X).1
    have e2 := fun X => (HOE.out X).2
    have hown := HS1.out.om
    have hbz := heap_lt HS1.out.box
    have hxz := heap_lt HX1.out
    go_region_law
      ((refine step_pour el_Id (by rfl) _ _ (by rfl) ((hown.alloc _).drew) (by rfl) (A := some ⟨w5.heap.size, 0, none⟩) (m := 1) (c := 1) (news := idKL f) (by rfl) (row_block (cs := idK f) (t := 23) (fr := (0, 0)) (heap_alloc_new w5 _)) (by rfl) (idK_one f) (by intro h; cases h) (by omega) (by unfold maxLen; omega) (by simp; exact Nat.le_succ_of_le HN1.out) ?_
        intro v4 w4 hown4 hg4 hat4
        obtain ⟨A4, c4, rfl, _⟩ := own_row hown4
        have HB4 := Lib.hid ((hg4.block b (by simp; omega) (fun e => HS1.out.bm e.symm)).trans ((Lib.alloc_old w5 _ b hbz).trans HS1.out.box))
        have hc4 : w4.cell? ⟨b, 5, none⟩ = some (.slice A5 made.length c5) := by rw [Lib.cell_of_heap HB4.out]; rfl
        have hf4 : w4.frozen? ⟨b, 5, none⟩ = false := Lib.frozen_of_heap HB4.out 5))
    all_goals
      have HP := Lib.hid (HS1.out.pushM HN1.out (p := idN f) rfl hown4 hg4 hat4)
      go_wp2_with fail
      go_ret
      rw [HE.out.1, HE.out.2]
      have hF := (Fr.of HB.out HN.out).trans HP.out.2 (fun i hi => .inl hi)
      exact ⟨rfl, MdX.ext2 ⟨_, _, _, HP.out.1⟩ (fun k hk => ⟨HO.out.lo k hk, HO.out.hi k hk⟩) HN.out HB.out.size HP.out.2.size, hF⟩
end Go.Proofs.YtghjgbkhhoaebaaGreatDoor

namespace Go.Proofs.YtghjgbkhhoaebaaGreatDoor
set_option linter.unusedSimpArgs false
set_option linter.unusedVariables false
open Go.RowKit

/-- What waits, and the last minute, behind a hear. -/
def hearLs (ls : List Ln) (m : Int) (n t N : Bs) (last : Int) : List Ln := if hearE m n t last = 0 then hearL ls m n t N else ls
def hearT (m : Int) (n t : Bs) (last : Int) : Int := if hearE m n t last = 0 then m else last
theorem hear_err {n : Nat} {A : Nat → Prop} {w w' : World} {b : Nat} {R G N : ByteArray} {ls : List Ln} {last : Int} {made read : List (List Int)} {m : Int} {nk t : Bs} {k : Int} (h : MdX n A w b R G N ls last made read) (hn : n ≤ w.heap.size) (hk : hearE m nk t last = k) (h0 : k ≠ 0) (hb : Below w.heap.size w w') :
    MdX n (Ext A w w') w' b R G N (hearLs ls m nk t (toL N) last) (hearT m nk t last) made read ∧ Fr n A w w' := by
  subst hk
  refine ⟨?_, Fr.of hb hn⟩
  unfold hearLs hearT
  rw [if_neg h0, if_neg h0]
  exact (h.below hb).ext hn
theorem own_E (W : World) : (W.alloc (.cells #[] 39)).ownsRow W.heap.size 39 3 (.slice (some ⟨W.heap.size, 0, none⟩) 0 0) 0 [] :=
  ⟨rfl, .inr ⟨W.heap.size, 0, #[], rfl, Nat.le_refl _, heap_alloc_new _ _, Nat.le_refl _, by unfold maxLen; omega, rfl, rfl⟩⟩
theorem own_E2 (W : World) (X : Obj) : ((W.alloc X).alloc (.cells #[] 39)).ownsRow W.heap.size 39 3 (.slice (some ⟨W.heap.size + 1, 0, none⟩) 0 0) 0 [] :=
  ⟨rfl, .inr ⟨W.heap.size + 1, 0, #[], rfl, by omega, alloc_at _ _ _ (by simp), Nat.le_refl _, by unfold maxLen; omega, rfl, rfl⟩⟩
/-- The cells of a line in a box. -/
abbrev LnC (b : Nat) (m : Int) (n t : ByteArray) (w : World) : Prop := w.cell? ⟨b, 0, none⟩ = some (.int .i64 m) ∧ w.cell? ⟨b, 1, none⟩ = some (.string n) ∧ w.cell? ⟨b, 2, none⟩ = some (.string t)
theorem LnC.of {w : World} {b : Nat} {m : Int} {n t : ByteArray} {T : TypeId} {fr : Nat × Nat} (h : w.heap[b]? = some (.cells #[.int .i64 m, .string n, .string t] T fr)) : LnC b m n t w :=
  ⟨by rw [Lib.cell_of_heap h]; rfl, by rw [Lib.cell_of_heap h]; rfl, by rw [Lib.cell_of_heap h]; rfl⟩
set_option maxHeartbeats 16000000 in
set_option maxRecDepth 100000 in
theorem lw_hear {n : Nat} {A : Nat → Prop} {w : World} {b : Nat} {R G N : ByteArray} {ls : List Ln} {last : Int} {made read : List (List Int)} (h : MdX n A w b R G N ls last made read) (hn : n ≤ w.heap.size) (m : Int) (nk t : ByteArray) (hN : N.size ≤ 1000000) (hnk : nk.size ≤ 1000000) (ht : t.size ≤ 900000) (hl : ls.length ≤ 100000) :
    Calls Tryz.prog 89 #[.pointer (some ⟨b, 0, none⟩), .agg #[.int .i64 m, .string nk, .string t]] w fun e w' => e = .returned (.int .i64 (hearE m (toL nk) (toL t) last)) ∧ MdX n (Ext A w w') w' b R G N (hearLs ls m (toL nk) (toL t) (toL N) last) (hearT m (toL nk) (toL t) last) made read ∧ Fr n A w w' := by
  obtain ⟨v, vm, vr, h⟩ := h
  have HN := Lib.hid hn
  have HO := Lib.hid h
  have HC := Lib.hid (fun wx => lw_check m nk t wx (by unfold maxLen; omega) ht)
  have HQ := Lib.hid (show hearE m (toL nk) (toL t) last = if lineE m (toL nk) (toL t) ≠ 0 then lineE m (toL nk) (toL t) else if m < last then 30 else 0 from rfl)
  have hbz := h.hi b h.inb
  clear h hn
  by_cases he : lineE m (toL nk) (toL t) = 0
  · rw [he] at HC
    have HMN := Lib.hid (minB_nat he)
    rw [he] at HQ
    clear he
    go_enter Tryz.func89, Tryz.ntmps89
    go_upto_region 4 with ((go_at_call 117; (with_reducible refine (HC.out _).mono ?_); rintro e w1 ⟨rfl, hb1⟩))
    have HBL := Lib.hid (show Below w.heap.size w w1 from (alloc_bel _ _).trans (hb1.mono (by simp)))
    have HLB := Lib.hid (show w1.heap[w.heap.size]? = some (.cells #[.int .i64 m, .string nk, .string t] 39 (0, 0)) from (hb1.block _ (by simp)).trans (heap_alloc_new w _))
    have HS1 := Lib.hid (HO.out.below HBL.out)
    clear hb1 HC
    obtain ⟨l0, l1, l2⟩ := LnC.of HLB.out
    obtain ⟨_, k2, k3, k4, _, _⟩ := md_cells HS1.out
    by_cases hlt : m < last
    · have HV := Lib.hid (show hearE m (toL nk) (toL t) last = 30 from by rw [HQ.out, if_neg (by simp), if_pos hlt])
      go_quiet (fail)
      go_wp2_with fail
      go_ret
      rw [HV.out]
      exact ⟨rfl, hear_err ⟨_, _, _, HO.out⟩ HN.out HV.out (by decide) (below_drewN HBL.out _)⟩
    · have HV := Lib.hid (show hearE m (toL nk) (toL t) last = 0 from by rw [HQ.out, if_neg (by simp), if_neg hlt])
      have hlt2 : last ≤ m := by omega
      go_quiet (fail)
      have HB1 := Lib.hid (below_drewN HBL.out nq)
      have HL1 := Lib.hid (show (w1.drewN nq).heap[w.heap.size]? = some (.cells #[.int .i64 m, .string nk, .string t] 39 (0, 0)) from HLB.out)
      clear l0 l1 l2 k2 k3 k4 HS1 HLB HBL
      generalize w1.drewN nq = W1 at *
      have HS1 := Lib.hid (HO.out.below HB1.out)
      obtain ⟨l0, l1, l2⟩ := LnC.of HL1.out
      have f4 := Lib.frozen_of_heap HS1.out.box 4
      have k4 := (md_cells HS1.out).2.2.2.1
      go_upto_region 7 with fail
      have HP2 := Lib.hid (HS1.out.setT m)
      have HF2 := Lib.hid ((Fr.of HB1.out HN.out).trans HP2.out.2 (fun i hi => .inl hi))
      have hzz : (W1.setCell ⟨b, 4, none⟩ (.int .i64 m)).heap.size = W1.heap.size := by simp
      have HL2 := Lib.hid (show (W1.setCell ⟨b, 4, none⟩ (.int .i64 m)).heap[w.heap.size]? = _ from (heap_set_ne _ (by omega)).trans HL1.out)
      clear l0 l1 l2 k4 f4 HS1 HL1
      have HZ1 := Lib.hid HB1.out.size
      clear HB1
      generalize W1.setCell ⟨b, 4, none⟩ (.int .i64 m) = W2 at *
      rw [← hzz] at HZ1
      clear hzz
      have HS2 := Lib.hid HP2.out.1
      clear HP2
      obtain ⟨_, l1, _⟩ := LnC.of HL2.out
      obtain ⟨_, k2, _, _, _, _⟩ := md_cells HS2.out
      have HLA := Lib.hid (fun wx => ref_lower nk wx (by unfold maxLen; omega))
      have HLN := Lib.hid (fun wx => ref_lower N wx (by unfold maxLen; omega))
      have HEQ := Lib.hid (show ((ofL (lowerL (toL nk))).toList == (ofL (lowerL (toL N))).toList) = decide (lowerL (toL nk) = lowerL (toL N)) from by rw [beq_toList, toL_ofL, toL_ofL])
      have HFE := Lib.hid (show foldEq (toL nk) (toL N) = decide (lowerL (toL nk) = lowerL (toL N)) from rfl)
      have HKK := Lib.hid (show ∀ w', Below W2.heap.size W2 w' → w'.cell? ⟨w.heap.size, 1, none⟩ = some (.string nk) ∧ w'.cell? ⟨b, 2, none⟩ = some (.string N) ∧ Below W2.heap.size W2 w' from fun w' hb => ⟨(hb.cell (World.block_lt_of_cell? _ _ l1)).trans l1, (hb.cell (World.block_lt_of_cell? _ _ k2)).trans k2, hb⟩)
      generalize lowerL (toL nk) = P at *
      generalize lowerL (toL N) = Q at *
      rcases hd : decide (P = Q) with _ | _
      · have q := HEQ.out.trans hd
        have HFA := Lib.hid (HFE.out.trans hd)
        clear hd HEQ HFE
        go_region_held3 (fun w' => w'.cell? ⟨w.heap.size, 1, none⟩ = some (.string nk) ∧ w'.cell? ⟨b, 2, none⟩ = some (.string N) ∧ Below W2.heap.size W2 w')
          (first | exact HKK.out _ ((Below.refl _ _).drew) | exact HKK.out _ (((by assumption : _ ∧ _ ∧ Below W2.heap.size W2 _).2.2).trans (hb4.mono ((by assumption : _ ∧ _ ∧ Below W2.heap.size W2 _).2.2).size)) | exact HKK.out _ (((by assumption : _ ∧ _ ∧ Below W2.heap.size W2 _).2.2).trans (hb5.mono ((by assumption : _ ∧ _ ∧ Below W2.heap.size W2 _).2.2).size)))
          (first | (go_at_call 25; (with_reducible refine (HLA.out _).mono ?_); rintro e w4 ⟨rfl, hb4⟩) | (go_at_call 25; (with_reducible refine (HLN.out _).mono ?_); rintro e w5 ⟨rfl, hb5⟩))
        rename_i hS
        have HLS := Lib.hid (show hearLs ls m (toL nk) (toL t) (toL N) last = ls ++ [⟨m.toNat, toL nk, toL t⟩] from by unfold hearLs; rw [if_pos HV.out]; unfold hearL; rw [if_neg (by rw [HFA.out]; decide)])
        have HLT := Lib.hid (show hearT m (toL nk) (toL t) last = m from by unfold hearT; rw [if_pos HV.out])
        have HS3 := Lib.hid (HS2.out.below hS.2.2)
        have HF3 := Lib.hid (HF2.out.below hS.2.2 HN.out)
        have HL3 := Lib.hid ((hS.2.2.block w.heap.size (heap_lt HL2.out)).trans HL2.out)
        have HNW := Lib.hid (show ((m.toNat : Nat) : Int) = m ∧ ofL (toL nk) = nk ∧ ofL (toL t) = t from ⟨HMN.out, ofL_toL _, ofL_toL _⟩)
        clear l1 k2 hb4 hb5 hS HKK HLA HLN q HFA HL2 HS2 HF2 HQ HMN

        go_upto_region 8 with fail
        obtain ⟨A3, c3, rfl, hr3⟩ := own_row HS3.out.own
        obtain ⟨l0, l1, l2⟩ := LnC.of HL3.out
        obtain ⟨_, _, k3, _, _, _⟩ := md_cells HS3.out
        have f3 := Lib.frozen_of_heap HS3.out.box 3
        have z0 := heap_lt HL3.out
        have z1 := heap_lt HS3.out.box
        have hlv := lnsV_length ls
        have hl1 := lnsV_one ls
        have hnil := hr3.none_len (size := 3) hlv (by omega)
        have HR3 := Lib.hid hr3
        clear hr3
        have HE := Lib.hid (alloc_bel w5 (.cells #[] 39))
        have HX := Lib.hid (alloc_bel w5 (.cells #[.int .i64 m, .string nk, .string t] 39))
        have HEX := Lib.hid (HE.out.alloc (by simp) (.cells #[.int .i64 m, .string nk, .string t] 39))
        have HXE := Lib.hid (HX.out.alloc (by simp) (.cells #[] 39))
        have hbne : b ≠ w.heap.size := fun e => by omega
        go_region_law
          (first
            | (refine step_pour el_Line (by rfl) (.tmp 33) (.tmp 37) (by rfl) (base := w5.heap.size) (v := .slice (some ⟨w5.heap.size, 0, none⟩) 0 0) (n := 0) (xs := []) ((own_E w5).drew) (by rfl) (A := A3) (m := ls.length) (c := c3) (news := lnsV ls) (by rfl) (HR3.out.below HE.out.drew) hlv hl1 hnil (by omega) (by unfold maxLen; omega) (by simp) ?_
               intro v4 w4 hown4 hg4 hat4
               have HB4 := Lib.hid (HE.out.drew.grown hg4 (by simp) (by intro k hk; simp [Value.ownBlock] at hk; omega))
               simp only [Nat.zero_add, List.nil_append] at hown4
               obtain ⟨A4, c4, rfl, _⟩ := own_row hown4
               have HXR := Lib.hid (show ∀ (Wz : World), Wz = (w4.alloc (.cells #[.int .i64 m, .string nk, .string t] 39)) → Row Wz (some ⟨w4.heap.size, 0, none⟩) [.int .i64 m, .string nk, .string t] from fun Wz e => by subst e; exact row_block (cs := #[.int .i64 m, .string nk, .string t]) (heap_alloc_new w4 _))
               have l0 : w4.cell? ⟨w.heap.size, 0, none⟩ = some (.int .i64 m) := (HB4.out.cell (p := ⟨w.heap.size, 0, none⟩) z0).trans l0
               have l1 : w4.cell? ⟨w.heap.size, 1, none⟩ = some (.string nk) := (HB4.out.cell (p := ⟨w.heap.size, 1, none⟩) z0).trans l1
               have l2 : w4.cell? ⟨w.heap.size, 2, none⟩ = some (.string t) := (HB4.out.cell (p := ⟨w.heap.size, 2, none⟩) z0).trans l2
               have z0 := Nat.lt_of_lt_of_le z0 HB4.out.size)
            | (refine step_pour el_Line (by rfl) (.tmp 33) (.tmp 37) (by rfl) (base := w5.heap.size) (v := .slice (some ⟨w5.heap.size, 0, none⟩) 0 0) (n := 0) (xs := []) (((own_E w5).alloc _).drew) (by rfl) (A := A3) (m := ls.length) (c := c3) (news := lnsV ls) (by rfl) (HR3.out.below HEX.out.drew) hlv hl1 hnil (by omega) (by unfold maxLen; omega) (by simp; omega) ?_
               intro v4 w4 hown4 hg4 hat4
               have HB4 := Lib.hid (HEX.out.drew.grown hg4 (by simp; omega) (by intro k hk; simp [Value.ownBlock] at hk; omega))
               simp only [Nat.zero_add, List.nil_append] at hown4
               obtain ⟨A4, c4, rfl, _⟩ := own_row hown4
               have HXB := Lib.hid ((hg4.block (w5.heap.size + 1) (by simp) (by intro e; simp [Value.ownBlock] at e)).trans (alloc_at (w5.alloc (.cells #[] 39)) (.cells #[.int .i64 m, .string nk, .string t] 39) (w5.heap.size + 1) (by simp))))
            | (refine step_pour el_Line (by rfl) (.tmp 33) (.tmp 37) (by rfl) (base := w5.heap.size) (v := .slice (some ⟨w5.heap.size + 1, 0, none⟩) 0 0) (n := 0) (xs := []) ((own_E2 w5 _).drew) (by rfl) (A := A3) (m := ls.length) (c := c3) (news := lnsV ls) (by rfl) (HR3.out.below HXE.out.drew) hlv hl1 hnil (by omega) (by unfold maxLen; omega) (by simp; omega) ?_
               intro v4 w4 hown4 hg4 hat4
               have HB4 := Lib.hid (HXE.out.drew.grown hg4 (by simp; omega) (by intro k hk; simp [Value.ownBlock] at hk; omega))
               simp only [Nat.zero_add, List.nil_append] at hown4
               obtain ⟨A4, c4, rfl, _⟩ := own_row hown4
               have HXB := Lib.hid ((hg4.block w5.heap.size (by simp; omega) (by intro e; simp [Value.ownBlock] at e)).trans ((Lib.alloc_old _ _ w5.heap.size (by simp)).trans (heap_alloc_new w5 (.cells #[.int .i64 m, .string nk, .string t] 39)))))
            | (refine step_pour el_Line (by rfl) (.tmp 38) (.tmp 40) (by rfl) (base := w5.heap.size) (v := .slice A4 ls.length c4) (n := ls.length) (xs := lnsV ls) (hown4.alloc _) (by rfl) (A := some ⟨w4.heap.size, 0, none⟩) (m := 1) (c := 1) (news := [.int .i64 m, .string nk, .string t]) (by rfl) (HXR.out _ rfl) (by rfl) (by simp [Value.oneCell']) (by intro h; cases h) (by omega) (by unfold maxLen; omega) (by simp; have := HB4.out.size; omega) ?_
               intro v9 w9 hown9 hg9 hat9
               have HB9 := Lib.hid ((HB4.out.alloc HB4.out.size _).grown hg9 (by simp; have := HB4.out.size; omega) (by intro k hk; exact (hown4.lt k hk).1))
               obtain ⟨A9, c9, rfl, _⟩ := own_row hown9
               have HBX := Lib.hid ((HB9.out.block b z1).trans HS3.out.box)
               have hc9 : w9.cell? ⟨b, 3, none⟩ = some (.slice A3 ls.length c3) := by rw [Lib.cell_of_heap HBX.out]; rfl
               have hf9 : w9.frozen? ⟨b, 3, none⟩ = false := Lib.frozen_of_heap HBX.out 3)
            | (refine step_pour el_Line (by rfl) (.tmp 38) (.tmp 40) (by rfl) (base := w5.heap.size) (v := .slice A4 ls.length c4) (n := ls.length) (xs := lnsV ls) hown4 (by rfl) (m := 1) (c := 1) (news := [.int .i64 m, .string nk, .string t]) (by rfl) (row_block (cs := #[.int .i64 m, .string nk, .string t]) HXB.out) (by rfl) (by simp [Value.oneCell']) (by intro h; cases h) (by omega) (by unfold maxLen; omega) HB4.out.size ?_
               intro v9 w9 hown9 hg9 hat9
               have HB9 := Lib.hid (HB4.out.grown hg9 HB4.out.size (by intro k hk; exact (hown4.lt k hk).1))
               obtain ⟨A9, c9, rfl, _⟩ := own_row hown9
               have HBX := Lib.hid ((HB9.out.block b z1).trans HS3.out.box)
               have hc9 : w9.cell? ⟨b, 3, none⟩ = some (.slice A3 ls.length c3) := by rw [Lib.cell_of_heap HBX.out]; rfl
               have hf9 : w9.frozen? ⟨b, 3, none⟩ = false := Lib.frozen_of_heap HBX.out 3))
        all_goals
          have HP := Lib.hid (HS3.out.setL (v4 := .slice A9 (ls.length + 1) c9) (ls' := ls ++ [⟨m.toNat, toL nk, toL t⟩]) (Nat.le_trans HN.out HF3.out.size) HB9.out (by
            rw [List.length_append, lnsV_snoc]
            simp only [HNW.out.1, HNW.out.2.1, HNW.out.2.2]
            simpa using hown9))
          go_wp2_with fail
          go_ret
          rw [HV.out, HLS.out, HLT.out]
          have hF := HF3.out.trans HP.out.2 (fun i hi => .inl hi)
          have hX : MdX n (Ext A w5 (w9.setCell ⟨b, 3, none⟩ (.slice A9 (ls.length + 1) c9))) (w9.setCell ⟨b, 3, none⟩ (.slice A9 (ls.length + 1) c9)) b R G N (ls ++ [⟨m.toNat, toL nk, toL t⟩]) m made read := ⟨_, vm, vr, HP.out.1⟩
          exact ⟨rfl, MdX.ext2 hX (fun k hk => ⟨HO.out.lo k hk, HO.out.hi k hk⟩) HN.out HF3.out.size HP.out.2.size, hF⟩
      · have q := HEQ.out.trans hd
        have HFA := Lib.hid (HFE.out.trans hd)
        clear hd HEQ HFE
        go_region_held3 (fun w' => w'.cell? ⟨w.heap.size, 1, none⟩ = some (.string nk) ∧ w'.cell? ⟨b, 2, none⟩ = some (.string N) ∧ Below W2.heap.size W2 w')
          (first | exact HKK.out _ ((Below.refl _ _).drew) | exact HKK.out _ (((by assumption : _ ∧ _ ∧ Below W2.heap.size W2 _).2.2).trans (hb4.mono ((by assumption : _ ∧ _ ∧ Below W2.heap.size W2 _).2.2).size)) | exact HKK.out _ (((by assumption : _ ∧ _ ∧ Below W2.heap.size W2 _).2.2).trans (hb5.mono ((by assumption : _ ∧ _ ∧ Below W2.heap.size W2 _).2.2).size)))
          (first | (go_at_call 25; (with_reducible refine (HLA.out _).mono ?_); rintro e w4 ⟨rfl, hb4⟩) | (go_at_call 25; (with_reducible refine (HLN.out _).mono ?_); rintro e w5 ⟨rfl, hb5⟩))
        rename_i hS
        go_wp2_with fail
        go_ret
        rw [HV.out]
        have hF := HF2.out.below hS.2.2 HN.out
        have hX : MdX n A w5 b R G N ls m made read := ⟨_, _, _, HS2.out.below hS.2.2⟩
        rw [show hearLs ls m (toL nk) (toL t) (toL N) last = ls from by unfold hearLs; rw [if_pos HV.out]; unfold hearL; rw [if_pos HFA.out], show hearT m (toL nk) (toL t) last = m from by unfold hearT; rw [if_pos HV.out]]
        exact ⟨rfl, hX.ext HN.out, hF⟩
  · have HV := Lib.hid (show hearE m (toL nk) (toL t) last = lineE m (toL nk) (toL t) from by rw [HQ.out, if_pos he])
    have HE := Lib.hid he
    have e1 : (lineE m (toL nk) (toL t) != 0) = true := by simp [bne, he]
    clear he
    generalize lineE m (toL nk) (toL t) = er at *
    go_enter Tryz.func89, Tryz.ntmps89
    go_wp2_with ((go_at_call 117; (with_reducible refine (HC.out _).mono ?_); rintro e w1 ⟨rfl, hb1⟩))
    go_ret
    rw [HV.out]
    exact ⟨rfl, hear_err ⟨_, _, _, HO.out⟩ HN.out HV.out HE.out ((alloc_bel _ _).trans (hb1.mono (by simp)))⟩
end Go.Proofs.YtghjgbkhhoaebaaGreatDoor

namespace Go.Proofs.YtghjgbkhhoaebaaGreatDoor
set_option linter.unusedSimpArgs false
set_option linter.unusedVariables false
open Go.RowKit

/-- Whether an article is made, its subject, its body, what still waits. -/
def takB (ls : List Ln) (last now : Int) : Bool := decide (ls.length ≠ 0) && (decide (50 ≤ ls.length) || decide (last + 10 ≤ now))
def bodyT (ls : List Ln) : Bs := ls.flatMap fun x => showL x.min x.nick x.text ++ [10]
def subjT (R : Bs) (ls : List Ln) : Bs := match ls with
  | [] => []
  | x :: _ => [67, 104, 97, 116, 32] ++ R ++ [32] ++ Go.Lib.decDigits x.min
def takS (R : Bs) (ls : List Ln) (last now : Int) : Bs := if takB ls last now then subjT R ls else []
def takT (ls : List Ln) (last now : Int) : Bs := if takB ls last now then bodyT (ls.take 50) else []
def takL (ls : List Ln) (last now : Int) : List Ln := if takB ls last now then ls.drop 50 else ls
theorem bodyT_snoc (l : List Ln) (x : Ln) : bodyT (l ++ [x]) = bodyT l ++ (showL x.min x.nick x.text ++ [10]) := by simp [bodyT]

theorem lnsV_drop (l : List Ln) : ∀ k, lnsV (l.drop k) = (lnsV l).drop (k * 3) := by
  induction l with
  | nil => intro k; simp [lnsV]
  | cons x l ih =>
    intro k
    cases k with
    | zero => simp
    | succ k =>
      rw [List.drop_succ_cons, ih k]
      show _ = List.drop ((k + 1) * 3) (.int .i64 (x.min : Int) :: .string (ofL x.nick) :: .string (ofL x.text) :: lnsV l)
      rw [show (k + 1) * 3 = k * 3 + 1 + 1 + 1 from by omega]
      rfl
/-- What 's[k:]' of a slice of lines is, whatever the capacity. -/
structure TailL (P : Program) (t : TypeId) (A : Option Addr) (l : List Ln) (c k : Nat) (i : Int) (A2 : Option Addr) : Prop where
  at_ : ∀ w, (Instr.sliceAt t (.slice A l.length c) (some (.int .i64 i)) none none).run P w = .ok (.slice A2 (l.length - k) (c - k)) w
  of_ : ∀ w, (Instr.slice t (.slice A l.length c) (some (.int .i64 i)) none none).run P w = .ok (.slice A2 (l.length - k) (c - k)) w
  row : ∀ w, Row w A (lnsV l) → Row w A2 (lnsV (l.drop k))
theorem tail_isL {P : Program} {t : TypeId} (hu : P.underlying t = some (.slice (P.elem t))) (hs : ∀ w, (sizeOf (P.elem t)).run P w = .ok 3 w) (A : Option Addr) (l : List Ln) (c k : Nat) (i : Int) (hi : i = k) (hk : k ≤ l.length) (hc : l.length ≤ c) :
    ∃ A2, TailL P t A l c k i A2 := by
  subst hi
  have h2 : ∀ w, (Instr.slice t (.slice A l.length c) (some (.int .i64 (k : Int))) none none).run P w = .ok (.slice (if c = k then A else A.map (·.add (k * 3))) (l.length - k) (c - k)) w := fun w => by
    rw [run_slice_l (P := P) w t A l.length c hu .i64 (k : Int) (by omega) (by omega), hs]
    simp [Result.andThen, sliced]
  refine ⟨if c = k then A else A.map (·.add (k * 3)), ⟨fun w => by rw [run_sliceAt_slice (P := P) w t _ _ _ _ hu]; exact h2 w, h2, fun w hr => ?_⟩⟩
  by_cases h : c = k
  · rw [if_pos h]
    have : l.drop k = [] := List.drop_eq_nil_of_le (by omega)
    rw [this]; exact .inl rfl
  · rw [if_neg h]
    rcases hr with h0 | ⟨b, off, rfl, hb, hc⟩
    · have h3 := lnsV_length l
      rw [h0] at h3
      have : l = [] := List.eq_nil_of_length_eq_zero (by simp at h3; omega)
      subst this; exact .inl (by simp [lnsV])
    · have e : (⟨b, off, none⟩ : Addr).add (k * 3) = ⟨b, off + k * 3, none⟩ := by
        unfold Addr.add; split
        · rename_i h; rw [h]; rfl
        · rfl
      simp only [Option.map_some, e]
      refine Row.mk _ _ _ _ hb fun j v hv => ?_
      rw [lnsV_drop, List.getElem?_drop] at hv
      rw [Nat.add_assoc]; exact hc _ _ hv
theorem elem_lines : Tryz.prog.underlying 32 = some (.slice (Tryz.prog.elem 32)) := by kernel_rfl
theorem size_lines (w : World) : (sizeOf (Tryz.prog.elem 32)).run Tryz.prog w = .ok 3 w := by kernel_rfl

theorem bld_byte (B b : Nat) (l : List UInt8) (c : UInt8) (ci : Int) (hci : ci = (c.toNat : Int)) (w : World) (h : Lib.IsBuilder 91 5 B b (Lib.byteCells l) w) (hlen : l.length ≤ 1000000000) (hBw : B ≤ w.heap.size) :
    Calls Tryz.prog 47 #[.pointer (some ⟨b, 0, none⟩), .int .u8 ci] w fun e w' => e = .returned .nilIface ∧
      (Lib.IsBuilder 91 5 B b (Lib.byteCells (l ++ [c])) w' ∧ Below B w w') := by
  subst hci
  have hl := Lib.byteCells_length l
  have HL := Lib.hid hl; clear hl
  go_enter Tryz.func47, Tryz.ntmps47
  go_wp2_with (go_at_call 90; refine (bld_check2 B b _ _ h).mono ?_)
  rintro e w1 ⟨rfl, h1, hb1, hk1, ho1⟩
  obtain ⟨hB, v, hbk, hown, hne⟩ := h1
  have c0 : w1.cell? ⟨b, 0, none⟩ = some (.pointer (some ⟨b, 0, none⟩)) := by rw [Lib.cell_of_heap hbk]; rfl
  have c1 : w1.cell? ⟨b, 1, none⟩ = some v := by rw [Lib.cell_of_heap hbk]; rfl
  have hz1 := hb1.size
  clear hk1 ho1
  go_wp2_with (at_builtin; refine wpList_push el_u8 rfl _ _ rfl hown #[.int .u8 (c.toNat : Int)] rfl rfl rfl (by simp [Value.oneCell']) ?c3 ?c4 ?c5 ?_)
  case c3 => rw [HL.out]; omega
  case c4 => rw [HL.out]; unfold maxLen; omega
  case c5 => omega
  intro g cap w2 hown' hgrow _
  have hlt : b < w1.heap.size := heap_lt hbk
  have hb2 : w2.heap[b]? = some (.cells #[.pointer (some ⟨b, 0, none⟩), v] 91 (0, 0)) := by
    rw [hgrow.block b hlt (fun e => hne e.symm)]
    exact hbk
  have d0 : w2.cell? ⟨b, 0, none⟩ = some (.pointer (some ⟨b, 0, none⟩)) := by rw [Lib.cell_of_heap hb2]; rfl
  have d1 : w2.cell? ⟨b, 1, none⟩ = some v := by rw [Lib.cell_of_heap hb2]; rfl
  have f1 : w2.frozen? ⟨b, 1, none⟩ = false := Lib.frozen_of_heap hb2 1
  go_wp2
  go_ret
  have hcells : Lib.byteCells (l ++ [c]) = Lib.byteCells l ++ [.int .u8 (c.toNat : Int)] := by simp [Lib.byteCells]
  refine ⟨rfl, .inr ?_, ?_⟩
  · rw [hcells]
    exact Lib.BuilderAt.put (T := 91) (e := 5) hB hb2 (bs' := Lib.byteCells l ++ [.int .u8 (c.toNat : Int)]) (by simpa using hown') (by decide)
  · exact (hb1.grown hgrow (by have := hb1.size; omega) (fun k hk => (hown.lt k hk).1)).setCell (p := ⟨b, 1, none⟩) hB _
end Go.Proofs.YtghjgbkhhoaebaaGreatDoor

namespace Go.Proofs.YtghjgbkhhoaebaaGreatDoor
set_option linter.unusedSimpArgs false
set_option linter.unusedVariables false
open Go.RowKit

theorem isBuilder_set {T e : TypeId} {B b : Nat} {bs : List Value} {w : World} {g i : Nat} (u : Value) (h : Lib.IsBuilder T e B b bs w) (hg : g < B) : Lib.IsBuilder T e B b bs (w.setCell ⟨g, i, none⟩ u) := by
  have hh : ∀ p, Lib.BuilderAt T e B b p bs w → Lib.BuilderAt T e B b p bs (w.setCell ⟨g, i, none⟩ u) := by
    rintro p ⟨hB, v, hk, hown, hne⟩
    exact ⟨hB, v, (heap_set_ne u (by omega)).trans hk, own_oth hown fun k e => heap_set_ne u (by have := (hown.lt k e).1; omega), hne⟩
  rcases h with h | h
  · exact .inl (hh _ h)
  · exact .inr (hh _ h)
theorem bld_lt {T e : TypeId} {B b : Nat} {bs : List Value} {w : World} (h : Lib.IsBuilder T e B b bs w) : b < w.heap.size := by
  rcases h with ⟨_, _, hk, _⟩ | ⟨_, _, hk, _⟩ <;> exact heap_lt hk
theorem own_blk_t {w : World} {base : Nat} {e : TypeId} {size n : Nat} {v : Value} {xs : List Value} (h : w.ownsRow base e size v n xs) {k : Nat} (hk : v.ownBlock = some k) : ∃ cs fr, w.heap[k]? = some (.cells cs e fr) := by
  rcases h.2 with h2 | ⟨g, cap, cur, rfl, hg', hh, r⟩
  · first
      | (obtain ⟨rfl, _⟩ := h2; cases hk)
      | (obtain ⟨_, rfl, _⟩ := h2; cases hk)
      | (rw [h2.1] at hk; cases hk)
  · simp [Value.ownBlock] at hk
    subst hk
    exact ⟨_, _, hh⟩
theorem GwS.move {n : Nat} {A : Nat → Prop} {w w' : World} {b : Nat} {R G N : ByteArray} {ls : List Ln} {last : Int} {made read : List (List Int)} {v : Value} {m1 m2 : Nat} (h : GwS n A w b R G N ls last made read v m1 m2) (hb : w'.heap[b]? = w.heap[b]?) (hv : ∀ k, v.ownBlock = some k → w'.heap[k]? = w.heap[k]?) (h1 : w'.heap[m1]? = w.heap[m1]?) (h2 : w'.heap[m2]? = w.heap[m2]?) (hz : w.heap.size ≤ w'.heap.size) : GwS n A w' b R G N ls last made read v m1 m2 :=
  ⟨⟨hb.trans h.at_.box, own_oth h.at_.own hv⟩, map_oth h.mm h1, map_oth h.mr h2, h.ne, h.inb, h.in1, h.in2, h.inv, h.lo, fun k ha => Nat.lt_of_lt_of_le (h.hi k ha) hz⟩
/-- Other lines wait, in a block of their own. -/
theorem GwS.setL {n : Nat} {A : Nat → Prop} {w w4 : World} {b : Nat} {R G N : ByteArray} {ls ls' : List Ln} {last : Int} {made read : List (List Int)} {v v4 : Value} {m1 m2 : Nat} (h : GwS n A w b R G N ls last made read v m1 m2) (hn : n ≤ w.heap.size) (hb : Below w.heap.size w w4) (hown : w4.ownsRow w.heap.size 39 3 v4 ls'.length (lnsV ls')) :
    GwS n (Ext A w (w4.setCell ⟨b, 3, none⟩ v4)) (w4.setCell ⟨b, 3, none⟩ v4) b R G N ls' last made read v4 m1 m2 ∧ Fr n A w (w4.setCell ⟨b, 3, none⟩ v4) := by
  have hbz := h.hi b h.inb
  have hF : Fr n A w (w4.setCell ⟨b, 3, none⟩ v4) := (Fr.of hb hn).set v4 (h.lo b h.inb) (.inl h.inb)
  have hK : ∀ k, k < w.heap.size → k ≠ b → (w4.setCell ⟨b, 3, none⟩ v4).heap[k]? = w.heap[k]? := fun k hk hkb => (heap_set_ne v4 hkb).trans (hb.block k hk)
  have h4 : ∀ k, v4.ownBlock = some k → w.heap.size ≤ k := fun k e => (hown.lt k e).1
  refine ⟨⟨⟨heap_set ((hb.block b hbz).trans h.at_.box) v4, own_oth (own_mono hown (by omega)) fun k e => heap_set_ne v4 (by have := h4 k e; omega)⟩, map_oth h.mm (hK _ (h.hi _ h.in1) (fun e => h.mm.ne_cells h.at_.box e.symm)), map_oth h.mr (hK _ (h.hi _ h.in2) (fun e => h.mr.ne_cells h.at_.box e.symm)), h.ne, .inl h.inb, .inl h.in1, .inl h.in2, ?_, ?_, ?_⟩, hF⟩
  · intro k e
    have := (hown.lt k e).2
    exact .inr ⟨h4 k e, by simpa using this⟩
  · intro k hk
    rcases hk with hk | hk
    · exact h.lo k hk
    · omega
  · intro k hk
    rcases hk with hk | hk
    · exact Nat.lt_of_lt_of_le (h.hi k hk) hF.size
    · exact hk.2
theorem takB_no {ls : List Ln} {last now : Int} (h : ls.length = 0 ∨ (ls.length < 50 ∧ now < last + 10)) : takB ls last now = false := by
  unfold takB
  rcases h with h | ⟨h, h2⟩
  · simp [h]
  · rw [decide_eq_false (show ¬ 50 ≤ ls.length by omega), decide_eq_false (show ¬ last + 10 ≤ now by omega)]; simp
theorem takB_yes {ls : List Ln} {last now : Int} (h : ls.length ≠ 0) (h2 : ¬ (ls.length < 50 ∧ now < last + 10)) : takB ls last now = true := by
  unfold takB
  rw [decide_eq_true h, Bool.true_and, Bool.or_eq_true, decide_eq_true_eq, decide_eq_true_eq]
  omega
/-- The bounds of a line that passes. -/
theorem line_ok {m : Nat} {n t : Bs} (h : lineE (m : Int) n t = 0) : m ≤ 105190559 ∧ n.length ≤ 16 ∧ t.length ≤ 400 := by
  have hm := lineE_min h
  unfold lineE at h
  split at h
  · cases h
  · split at h
    · cases h
    · rename_i h1 h2
      refine ⟨by omega, ?_, ?_⟩
      · rw [Bool.not_eq_false] at h2
        cases n with
        | nil => simp
        | cons c r => simp [nickB] at h2; simp; omega
      · unfold textE at h
        split at h
        · cases h
        · split at h
          · cases h
          · omega
theorem subj_pos (R : Bs) {ls : List Ln} (h : 0 < ls.length) : subjT R ls = ([67, 104, 97, 116, 32] : Bs) ++ R ++ ([32] : Bs) ++ Go.Lib.decDigits ls[0].min := by
  cases ls with
  | nil => simp at h
  | cons x l => rfl
set_option maxHeartbeats 16000000 in
set_option maxRecDepth 100000 in
theorem gw_take {n : Nat} {A : Nat → Prop} {w : World} {b : Nat} {R G N : ByteArray} {ls : List Ln} {last : Int} {made read : List (List Int)} (h : GwX n A w b R G N ls last made read) (hn : n ≤ w.heap.size) (hba : Base n w) (now : Int) (hR : R.size ≤ 1000) (hl : ls.length ≤ 100000)
    (hok : ∀ x ∈ ls, lineE (x.min : Int) x.nick x.text = 0) (h0 : 0 ≤ last) (h1 : last ≤ 105190559) :
    Calls Tryz.prog 22 #[.pointer (some ⟨b, 0, none⟩), .int .i64 now] w fun e w' => e = .returned (.tuple #[.string (ofL (takS (toL R) ls last now)), .string (ofL (takT ls last now)), .bool (takB ls last now)]) ∧ GwX n (Ext A w w') w' b R G N (takL ls last now) last made read ∧ Fr n A w w' := by
  obtain ⟨v, m1, m2, h⟩ := h
  have HG := Lib.hid h
  have HN := Lib.hid hn
  have HBA := Lib.hid hba
  have HOK := Lib.hid hok
  have hbw := heap_lt h.at_.box
  obtain ⟨A8, c8, rfl, hcap, hr⟩ := own_row_cap h.at_.own
  have HR := Lib.hid hr
  have k0 : w.cell? ⟨b, 0, none⟩ = some (.string R) := by rw [Lib.cell_of_heap h.at_.box]; rfl
  have k3 : w.cell? ⟨b, 3, none⟩ = some (.slice A8 ls.length c8) := by rw [Lib.cell_of_heap h.at_.box]; rfl
  have k4 : w.cell? ⟨b, 4, none⟩ = some (.int .i64 last) := by rw [Lib.cell_of_heap h.at_.box]; rfl
  have hw10 : IntKind.i64.wrap (last + 10) = last + 10 := IntWalk.i64_in _ (by omega)
  clear h hn hba hok hr
  have hno : takB ls last now = false → takS (toL R) ls last now = [] ∧ takT ls last now = [] ∧ takL ls last now = ls := fun h => ⟨by unfold takS; rw [h]; rfl, by unfold takT; rw [h]; rfl, by unfold takL; rw [h]; rfl⟩
  have HNO := Lib.hid hno
  clear hno
  by_cases hz : ls.length = 0
  · have HT := Lib.hid (takB_no (last := last) (now := now) (.inl hz))
    go_enter Tryz.func22, Tryz.ntmps22
    go_wp2_with fail
    go_ret3
    rw [(HNO.out HT.out).1, (HNO.out HT.out).2.1, (HNO.out HT.out).2.2, HT.out]
    exact ⟨rfl, GwX.ext ⟨_, m1, m2, HG.out⟩ HN.out, Fr.refl _ _ _⟩
  · by_cases hq : ls.length < 50 ∧ now < last + 10
    · have HT := Lib.hid (takB_no (last := last) (now := now) (.inr hq))
      obtain ⟨q1, q2⟩ := hq
      have q1' : (ls.length : Int) < 50 := by omega
      have z1 : ¬ ((ls.length : Int) = 0) := by omega
      go_enter Tryz.func22, Tryz.ntmps22
      go_wp2_with fail
      go_ret3
      rw [(HNO.out HT.out).1, (HNO.out HT.out).2.1, (HNO.out HT.out).2.2, HT.out]
      exact ⟨rfl, GwX.ext ⟨_, m1, m2, HG.out⟩ HN.out, Fr.refl _ _ _⟩
    · have HT := Lib.hid (takB_yes (last := last) (now := now) hz hq)
      have hY : takS (toL R) ls last now = subjT (toL R) ls ∧ takT ls last now = bodyT (ls.take 50) ∧ takL ls last now = ls.drop 50 := ⟨by unfold takS; rw [HT.out]; rfl, by unfold takT; rw [HT.out]; rfl, by unfold takL; rw [HT.out]; rfl⟩
      have HY := Lib.hid hY
      clear hY
      obtain ⟨K, hK, hK50, hKl, hKt, hKd⟩ : ∃ K : Nat, min (ls.length : Int) 50 = (K : Int) ∧ K ≤ 50 ∧ K ≤ ls.length ∧ ls.take 50 = ls.take K ∧ ls.drop 50 = ls.drop K := by
        rcases Nat.lt_or_ge 50 ls.length with h | h
        · exact ⟨50, by omega, by omega, by omega, rfl, rfl⟩
        · exact ⟨ls.length, by omega, by omega, by omega, by rw [List.take_of_length_le h, List.take_length], by rw [List.drop_eq_nil_of_le h, List.drop_length]⟩
      have hKI0 : (0 : Int) ≤ (K : Int) := by omega
      have hKI1 : (K : Int) ≤ (c8 : Int) := by omega
      have hKI2 : (K : Int) ≤ (ls.length : Int) := by omega
      have z1 : ¬ ((ls.length : Int) = 0) := by omega
      have hKN : K ≤ c8 := by omega
      obtain ⟨A2, hT2⟩ := tail_isL (P := Tryz.prog) elem_lines size_lines A8 ls c8 K (K : Int) rfl hKl hcap
      have HT2 := Lib.hid hT2
      have at_ := hT2.at_
      have of_ := hT2.of_
      clear hT2
      have hcase : (50 ≤ ls.length) ∨ (ls.length < 50 ∧ last + 10 ≤ now) := by omega
      rcases hcase with hc | ⟨hc, hc2⟩
      all_goals
        go_enter Tryz.func22, Tryz.ntmps22
        go_wp2_with fail
        go_loopw [49] (fun ix wr => ∃ k : Nat, k ≤ K ∧ ix = .int .i64 (k : Int) ∧ Lib.IsBuilder 91 5 w.heap.size w.heap.size (Lib.byteCells (bodyT (ls.take k))) wr ∧ Below w.heap.size w wr ∧ w.heap.size ≤ wr.heap.size ∧ (bodyT (ls.take k)).length ≤ k * 1000) (fun ix _ => K - (intOf ix).toNat)
        case atStart => exact ⟨0, by omega, rfl, Lib.fresh_isBuilder _ _ w, (Below.refl _ _).alloc (Nat.le_refl _) _, by simp, by simp [bodyT]⟩
        case round =>
          obtain ⟨k, hk, rfl, hbd, hB, hz3, hlen⟩ := hrel
          have HBD := Lib.hid hbd
          have HB := Lib.hid hB
          clear hbd hB
          have kk0 : (0 : Int) ≤ (k : Int) := by omega
          by_cases hlt : k < K
          · have k1 : (k : Int) < (K : Int) := by omega
            have hkl : k < ls.length := by omega
            obtain ⟨bb, off, rfl, hbb, c0, c1, c2⟩ := lns_cells (HR.out.below HB.out) hkl
            have hok := line_ok (HOK.out ls[k] (List.getElem_mem hkl))
            have HTK := Lib.hid (show bodyT (ls.take (k + 1)) = bodyT (ls.take k) ++ (showL ls[k].min ls[k].nick ls[k].text ++ [10]) from by rw [List.take_succ_eq_append_getElem hkl, bodyT_snoc])
            have hsl := show_len ls[k].min (by omega) ls[k].nick ls[k].text
            generalize ls[k] = x at *
            obtain ⟨m, nn, tt⟩ := x
            simp only at c0 c1 c2 hok hsl HTK
            generalize bodyT (ls.take k) = acc at *
            have HPR := Lib.hid (fun wx hx => gw_print m (by omega) (ofL nn) (ofL tt) (by rw [ofL_size]; omega) (by rw [ofL_size]; omega) wx hx)
            rw [toL_ofL, toL_ofL] at HPR
            have hsz : (ofL (showL m nn tt)).size ≤ 446 := by rw [ofL_size]; omega
            have HTL := Lib.hid (toL_ofL (showL m nn tt))
            generalize ofL (showL m nn tt) = SH at *
            go_wp2_with (first
              | (go_at_call 46; (with_reducible refine (HPR.out _ ?ht).mono ?_); (case ht => exact (HBA.out.step ((HB.out.alloc (by omega) _).mono HN.out)).tabN); rintro e w2 ⟨rfl, hb2⟩; have HB2 := Lib.hid (show Below wr.heap.size wr w2 from (alloc_bel wr _).trans (hb2.mono (by simp))); have hz2 := Nat.le_trans hz3 HB2.out.size; clear hb2)
              | (go_at_call 45; (with_reducible refine (bld_write2 w.heap.size w.heap.size acc SH w2 (isBuilder_below HBD.out HB2.out) (by omega) hz2).mono ?_); rintro e w3 ⟨rfl, hbd3, hb3, _, _⟩; have HBD3 := Lib.hid hbd3; have HB3 := Lib.hid hb3; have hz4 := Nat.le_trans hz2 hb3.size; clear hbd3 hb3)
              | (go_at_call 47; (with_reducible refine (bld_byte w.heap.size w.heap.size (acc ++ toL SH) 10 10 rfl w3 HBD3.out (by rw [List.length_append, toL_length]; omega) hz4).mono ?_); rintro e w4 ⟨rfl, hbd4, hb4⟩; have HBD4 := Lib.hid hbd4; have HB4 := Lib.hid hb4; clear hbd4 hb4))
            go_roundw
            case rel =>
              refine ⟨k + 1, by omega, by go_num, ?_, HB.out.trans ((HB2.out.mono hz3).trans (HB3.out.trans HB4.out)), Nat.le_trans hz4 HB4.out.size, ?_⟩
              · rw [HTK.out, ← List.append_assoc, ← HTL.out]; exact HBD4.out
              · rw [HTK.out, List.length_append, List.length_append, ← HTL.out, toL_length]; simp; omega
            case measure => simp [intOf] <;> omega
          · have k1 : (K : Int) ≤ (k : Int) := by omega
            obtain rfl : k = K := by omega
            have hpos : 0 < ls.length := by omega
            obtain ⟨bb, off, rfl, hbb, c0, _, _⟩ := lns_cells HR.out hpos
            have hok := line_ok (HOK.out ls[0] (List.getElem_mem hpos))
            have HSJ := Lib.hid (subj_pos (toL R) hpos)
            generalize ls[0] = x at *
            obtain ⟨m, nn, tt⟩ := x
            simp only at c0 hok HSJ

            rw [Nat.zero_mul, Nat.add_zero] at c0
            have HS := Lib.hid (HG.out.below HB.out)
            have g0 := (HB.out.cell (p := ⟨b, 0, none⟩) hbw).trans k0
            have g3 := (HB.out.cell (p := ⟨b, 3, none⟩) hbw).trans k3
            have gc := (HB.out.cell (p := ⟨bb, off, none⟩) hbb).trans c0
            have HKK := Lib.hid (show ∀ w', Below wr.heap.size wr w' → w'.cell? ⟨b, 0, none⟩ = some (.string R) ∧ w'.cell? ⟨b, 3, none⟩ = some (.slice (some ⟨bb, off, none⟩) ls.length c8) ∧ w'.cell? ⟨bb, off, none⟩ = some (.int .i64 (m : Int)) ∧ Below wr.heap.size wr w' from fun w' hb => ⟨(hb.cell (World.block_lt_of_cell? _ _ g0)).trans g0, (hb.cell (World.block_lt_of_cell? _ _ g3)).trans g3, (hb.cell (World.block_lt_of_cell? _ _ gc)).trans gc, hb⟩)
            have HDG := Lib.hid (fun wx (hx : Below wr.heap.size wr wx) => asc_digits m (by omega) wx (HBA.out.step ((HB.out.trans (hx.mono hz3)).mono HN.out)).tabN)
            have hdz : (ofL (Go.Lib.decDigits m)).size ≤ 20 := by rw [ofL_size]; exact dec_len_lt 19 m (by omega)
            have hs1 : ((⟨#[67, 104, 97, 116, 32]⟩ : ByteArray) ++ R).size ≤ 1005 := by rw [ByteArray.size_append]; show 5 + _ ≤ _; omega
            have hs2 : (((⟨#[67, 104, 97, 116, 32]⟩ : ByteArray) ++ R) ++ ⟨#[32]⟩).size ≤ 1006 := by rw [ByteArray.size_append]; show _ + 1 ≤ _; omega
            have hs3 : ((((⟨#[67, 104, 97, 116, 32]⟩ : ByteArray) ++ R) ++ ⟨#[32]⟩) ++ ofL (Go.Lib.decDigits m)).size ≤ 1026 := by rw [ByteArray.size_append]; omega
            have HSV := Lib.hid (show ((((⟨#[67, 104, 97, 116, 32]⟩ : ByteArray) ++ R) ++ ⟨#[32]⟩) ++ ofL (Go.Lib.decDigits m)) = ofL (takS (toL R) ls last now) from by
              rw [HY.out.1, HSJ.out]; apply toL_inj; simp [toL, ofL])
            clear k0 k3 k4 c0
            go_upto_region 13 with fail
            go_region_held (fun w' => w'.cell? ⟨b, 0, none⟩ = some (.string R) ∧ w'.cell? ⟨b, 3, none⟩ = some (.slice (some ⟨bb, off, none⟩) ls.length c8) ∧ w'.cell? ⟨bb, off, none⟩ = some (.int .i64 (m : Int)) ∧ Below wr.heap.size wr w')
              (first | assumption | exact HKK.out _ ((Below.refl _ _).drew) | exact HKK.out _ (((by assumption : _ ∧ _ ∧ _ ∧ Below wr.heap.size wr _).2.2.2).trans (hb5.mono ((by assumption : _ ∧ _ ∧ _ ∧ Below wr.heap.size wr _).2.2.2).size)))
              ((go_at_call 48; (with_reducible refine (HDG.out _ ?hh).mono ?_); (case hh => exact (by assumption : _ ∧ _ ∧ _ ∧ Below wr.heap.size wr _).2.2.2); rintro e w5 ⟨rfl, hb5⟩))
            all_goals
              have HS5 := Lib.hid (show _ ∧ _ ∧ _ ∧ Below wr.heap.size wr _ by assumption)
              have HB5 := Lib.hid HS5.out.2.2.2
              have hz5 : w.heap.size ≤ w5.heap.size := Nat.le_trans hz3 HB5.out.size
              have HSX := Lib.hid (HS.out.below HB5.out)
              have HBD5 := Lib.hid (isBuilder_below HBD.out HB5.out)
              have hbl := Nat.lt_of_lt_of_le (bld_lt HBD.out) HB5.out.size
              have hn5 := Nat.le_trans HN.out hz5
              have g3 : w5.cell? ⟨b, 3, none⟩ = some (.slice (some ⟨bb, off, none⟩) ls.length c8) := HS5.out.2.1
              have HCL := Lib.hid (show Calls Tryz.prog 43 #[.slice A2 (ls.length - k) (c8 - k)] w5 fun e w' => ∃ v, e = .returned v ∧ w'.ownsRow w5.heap.size 39 3 v (ls.length - k) (lnsV (ls.drop k)) ∧ Below w5.heap.size w5 w' from by
                have h := sl_cloneL A2 (ls.drop k) (c8 - k) w5 (HT2.out.row _ ((HR.out.below HB.out).below HB5.out)) (by rw [List.length_drop]; omega)
                rwa [List.length_drop] at h)
              clear HS5 gc g0 HKK HDG
              go_upto_region 15 with ((go_at_call 43; (with_reducible refine HCL.out.mono ?_); rintro e w6 ⟨v6, rfl, ho6, hb6⟩; obtain ⟨A6, c6, rfl, _⟩ := own_row ho6; have HO6 := Lib.hid ho6; have HB6 := Lib.hid hb6; have HBX6 := Lib.hid ((hb6.block b (Nat.lt_of_lt_of_le hbw hz5)).trans HSX.out.at_.box); have q3 : w6.cell? ⟨b, 3, none⟩ = some (.slice (some ⟨bb, off, none⟩) ls.length c8) := (by rw [Lib.cell_of_heap HBX6.out]; rfl); have f3 := Lib.frozen_of_heap HBX6.out 3; clear ho6 hb6))
              have HP := Lib.hid (HSX.out.setL (v4 := .slice A6 (ls.length - k) c6) (ls' := ls.drop k) hn5 HB6.out (by rw [List.length_drop]; exact HO6.out))
              have HBD7 := Lib.hid (isBuilder_set (i := 3) (.slice A6 (ls.length - k) c6) (isBuilder_below HBD5.out HB6.out) hbw)
              have hz7 : w.heap.size ≤ (w6.setCell ⟨b, 3, none⟩ (.slice A6 (ls.length - k) c6)).heap.size := by rw [World.size_setCell]; exact Nat.le_trans hz5 HB6.out.size
              have HL6 := Lib.hid (fun g (hg : (Value.slice A6 (ls.length - k) c6).ownBlock = some g) => (HO6.out.lt g hg).1)
              clear q3 f3 g3 HBX6 HCL
              generalize w6.setCell ⟨b, 3, none⟩ (.slice A6 (ls.length - k) c6) = W7 at *
              go_wp2_with ((go_at_call 49; (with_reducible refine (Tryz.Builder_String_any_k w.heap.size w.heap.size (bodyT (ls.take k)) W7 (Lib.IsBuilderF.of HBD7.out) hz7).mono ?_); rintro e w8 ⟨rfl, _, hb8, hok8⟩; have HB8 := Lib.hid hb8; have HK8 := Lib.hid hok8; clear hb8 hok8))
              go_ret3
              have hG8 := HP.out.1.move (HB8.out.block b hbw) (fun g hg => by
                obtain ⟨cs, fr, hc⟩ := own_blk_t HP.out.1.at_.own hg
                rw [hc]
                exact HK8.out g _ hc (fun e => by injection e with e; have := HL6.out g hg; omega) (fun c fz e => by injection e with _ e _; cases e)) (HB8.out.block m1 (HG.out.hi m1 HG.out.in1)) (HB8.out.block m2 (HG.out.hi m2 HG.out.in2)) HB8.out.size
              have hF5 := Fr.of (S := A) (HB.out.trans (HB5.out.mono hz3)) HN.out
              have hF7 := hF5.trans HP.out.2 (fun i hi => .inl hi)
              have hF8 : Fr n A w w8 := hF7.trans (T := fun k => w.heap.size ≤ k) ⟨HB8.out.mono HN.out, fun g hg hs => HB8.out.block g (by omega)⟩ (fun i hi => .inr hi)
              refine ⟨by rw [HT.out, ← HSV.out, HY.out.2.1, hKt]; rfl, ?_, hF8⟩
              rw [HY.out.2.2, hKd]
              have hX : GwX n (Ext A w5 W7) w8 b R G N (ls.drop k) last made read := ⟨_, _, _, hG8⟩
              exact hX.more (fun g hg => hg.elim .inl (fun h => .inr ⟨by omega, Nat.lt_of_lt_of_le h.2 HB8.out.size⟩)) (fun g hg => hg.elim (fun h => HG.out.lo g h) (fun h => by have := h.1; have := HN.out; omega)) (fun g hg => hg.elim (fun h => Nat.lt_of_lt_of_le (HG.out.hi g h) hF8.size) (fun h => h.2))
end Go.Proofs.YtghjgbkhhoaebaaGreatDoor

namespace Go.Proofs.YtghjgbkhhoaebaaGreatDoor
set_option linter.unusedSimpArgs false
set_option linter.unusedVariables false
open Go.RowKit

set_option maxHeartbeats 16000000 in
set_option maxRecDepth 100000 in
theorem lw_take {n : Nat} {A : Nat → Prop} {w : World} {b : Nat} {R G N : ByteArray} {ls : List Ln} {last : Int} {made read : List (List Int)} (h : MdX n A w b R G N ls last made read) (hn : n ≤ w.heap.size) (now : Int) (hnow : now < 9223372036854775808) (hR : R.size ≤ 1000) (hl : ls.length ≤ 100000)
    (hok : ∀ x ∈ ls, lineE (x.min : Int) x.nick x.text = 0) (h0 : 0 ≤ last) (h1 : last ≤ 105190559) :
    Calls Tryz.prog 86 #[.pointer (some ⟨b, 0, none⟩), .int .i64 now] w fun e w' => e = .returned (.tuple #[.string (ofL (takS (toL R) ls last now)), .string (ofL (takT ls last now)), .bool (takB ls last now)]) ∧ MdX n (Ext A w w') w' b R G N (takL ls last now) last made read ∧ Fr n A w w' := by
  obtain ⟨v, vm, vr, h⟩ := h
  have HG := Lib.hid h
  have HN := Lib.hid hn
  have HOK := Lib.hid hok
  have hbw := heap_lt h.box
  obtain ⟨A8, c8, rfl, hcap, hr⟩ := own_row_cap h.own
  have HR := Lib.hid hr
  obtain ⟨k0, _, k3, k4, _, _⟩ := md_cells h
  clear h hn hok hr
  have hno : takB ls last now = false → takS (toL R) ls last now = [] ∧ takT ls last now = [] ∧ takL ls last now = ls := fun h => ⟨by unfold takS; rw [h]; rfl, by unfold takT; rw [h]; rfl, by unfold takL; rw [h]; rfl⟩
  have HNO := Lib.hid hno
  clear hno
  by_cases hz : ls.length = 0
  · have HT := Lib.hid (takB_no (last := last) (now := now) (.inl hz))
    go_enter Tryz.func86, Tryz.ntmps86
    go_wp2_with fail
    go_ret3
    rw [(HNO.out HT.out).1, (HNO.out HT.out).2.1, (HNO.out HT.out).2.2, HT.out]
    exact ⟨rfl, MdX.ext ⟨_, vm, vr, HG.out⟩ HN.out, Fr.refl _ _ _⟩
  · have z1 : ¬ ((ls.length : Int) = 0) := by omega
    by_cases hq : ls.length < 50 ∧ now < last + 10
    · have HT := Lib.hid (takB_no (last := last) (now := now) (.inr hq))
      obtain ⟨q1, q2⟩ := hq
      have q1' : (ls.length : Int) < 50 := by omega
      by_cases hlt : now < last
      · go_enter Tryz.func86, Tryz.ntmps86
        go_wp2_with fail
        go_ret3
        rw [(HNO.out HT.out).1, (HNO.out HT.out).2.1, (HNO.out HT.out).2.2, HT.out]
        exact ⟨rfl, MdX.ext ⟨_, vm, vr, HG.out⟩ HN.out, Fr.refl _ _ _⟩
      · have hw10 : IntKind.i64.wrap (now - last) = now - last := IntWalk.i64_in _ (by omega)
        have hlt2 : last ≤ now := by omega
        have q2' : now - last < 10 := by omega
        go_enter Tryz.func86, Tryz.ntmps86
        go_wp2_with fail
        go_ret3
        rw [(HNO.out HT.out).1, (HNO.out HT.out).2.1, (HNO.out HT.out).2.2, HT.out]
        exact ⟨rfl, MdX.ext ⟨_, vm, vr, HG.out⟩ HN.out, Fr.refl _ _ _⟩
    · have HT := Lib.hid (takB_yes (last := last) (now := now) hz hq)
      have HY := Lib.hid (show takS (toL R) ls last now = subjT (toL R) ls ∧ takT ls last now = bodyT (ls.take 50) ∧ takL ls last now = ls.drop 50 from ⟨by unfold takS; rw [HT.out]; rfl, by unfold takT; rw [HT.out]; rfl, by unfold takL; rw [HT.out]; rfl⟩)
      obtain ⟨K, hK, hK50, hKl, hKt, hKd⟩ : ∃ K : Nat, min (ls.length : Int) 50 = (K : Int) ∧ K ≤ 50 ∧ K ≤ ls.length ∧ ls.take 50 = ls.take K ∧ ls.drop 50 = ls.drop K := by
        rcases Nat.lt_or_ge 50 ls.length with h | h
        · exact ⟨50, by omega, by omega, by omega, rfl, rfl⟩
        · exact ⟨ls.length, by omega, by omega, by omega, by rw [List.take_of_length_le h, List.take_length], by rw [List.drop_eq_nil_of_le h, List.drop_length]⟩
      have hKI0 : (0 : Int) ≤ (K : Int) := by omega
      have hKI1 : (K : Int) ≤ (c8 : Int) := by omega
      have hKI2 : (K : Int) ≤ (ls.length : Int) := by omega
      have hKN : K ≤ c8 := by omega
      obtain ⟨A2, hT2⟩ := tail_isL (P := Tryz.prog) elem_lines size_lines A8 ls c8 K (K : Int) rfl hKl hcap
      have HT2 := Lib.hid hT2
      have at_ := hT2.at_
      have of_ := hT2.of_
      clear hT2
      have hpos : 0 < ls.length := by omega
      have qz : (((ls.length : Nat) : Int) == 0) = false := beq_eq_false_iff_ne.2 z1
      obtain ⟨bb, off, rfl, hbb, c0, _, _⟩ := lns_cells HR.out hpos
      rw [Nat.zero_mul, Nat.add_zero] at c0
      have hok0 := line_ok (HOK.out ls[0] (List.getElem_mem hpos))
      have HSJ := Lib.hid (subj_pos (toL R) hpos)
      obtain ⟨m, hm⟩ : ∃ m, ls[0].min = m := ⟨_, rfl⟩
      rw [hm] at c0 hok0 HSJ
      have HKK := Lib.hid (show ∀ w', Below w.heap.size w w' → w'.cell? ⟨b, 0, none⟩ = some (.string R) ∧ w'.cell? ⟨b, 3, none⟩ = some (.slice (some ⟨bb, off, none⟩) ls.length c8) ∧ w'.cell? ⟨bb, off, none⟩ = some (.int .i64 (m : Int)) ∧ Below w.heap.size w w' from fun w' hb => ⟨(hb.cell (World.block_lt_of_cell? _ _ k0)).trans k0, (hb.cell (World.block_lt_of_cell? _ _ k3)).trans k3, (hb.cell (World.block_lt_of_cell? _ _ c0)).trans c0, hb⟩)
      have hdz : (ofL (Go.Lib.decDigits m)).size ≤ 20 := by rw [ofL_size]; exact dec_len_lt 19 m (by omega)
      have hs1 : ((⟨#[67, 104, 97, 116, 32]⟩ : ByteArray) ++ R).size ≤ 1005 := by rw [ByteArray.size_append]; show 5 + _ ≤ _; omega
      have hs2 : (((⟨#[67, 104, 97, 116, 32]⟩ : ByteArray) ++ R) ++ ⟨#[32]⟩).size ≤ 1006 := by rw [ByteArray.size_append]; show _ + 1 ≤ _; omega
      have hs3 : ((((⟨#[67, 104, 97, 116, 32]⟩ : ByteArray) ++ R) ++ ⟨#[32]⟩) ++ ofL (Go.Lib.decDigits m)).size ≤ 1026 := by rw [ByteArray.size_append]; omega
      have HSV := Lib.hid (show ((((⟨#[67, 104, 97, 116, 32]⟩ : ByteArray) ++ R) ++ ⟨#[32]⟩) ++ ofL (Go.Lib.decDigits m)) = ofL (takS (toL R) ls last now) from by
        rw [HY.out.1, HSJ.out]; apply toL_inj; simp [toL, ofL])
      have HDG := Lib.hid (fun wx => ref_digits m (by omega) wx)
      clear hm
      have hcase : (50 ≤ ls.length) ∨ ((ls.length : Int) < 50 ∧ last + 10 ≤ now ∧ IntKind.i64.wrap (now - last) = now - last ∧ decide (now < last) = false ∧ decide (now - last < 10) = false) := by
        rcases Nat.lt_or_ge ls.length 50 with h | h
        · exact .inr ⟨by omega, by omega, IntWalk.i64_in _ (by omega), decide_eq_false (by omega), decide_eq_false (by omega)⟩
        · exact .inl h
      rcases hcase with hc | ⟨hc, hc2, hw10, hc3, hc4⟩
      all_goals
        go_enter Tryz.func86, Tryz.ntmps86
        go_upto_region 4 with fail
        go_region_held (fun w' => w'.cell? ⟨b, 0, none⟩ = some (.string R) ∧ w'.cell? ⟨b, 3, none⟩ = some (.slice (some ⟨bb, off, none⟩) ls.length c8) ∧ w'.cell? ⟨bb, off, none⟩ = some (.int .i64 (m : Int)) ∧ Below w.heap.size w w')
          (first | assumption | exact HKK.out _ ((Below.refl _ _).drew) | exact HKK.out _ (((by assumption : _ ∧ _ ∧ _ ∧ Below w.heap.size w _).2.2.2).trans (hb5.mono ((by assumption : _ ∧ _ ∧ _ ∧ Below w.heap.size w _).2.2.2).size)))
          ((go_at_call 40; (with_reducible refine (HDG.out _).mono ?_); rintro e w5 ⟨rfl, hb5⟩))
        all_goals
          have HB5 := Lib.hid ((show _ ∧ _ ∧ _ ∧ Below w.heap.size w _ by assumption).2.2.2)
          have hz5 := HB5.out.size
          clear c0
          generalize hSV : (((⟨#[67, 104, 97, 116, 32]⟩ : ByteArray) ++ R) ++ ⟨#[32]⟩) ++ ofL (Go.Lib.decDigits m) = SV at *
          go_wp2_with fail
          go_loopw [9, 10] (fun bv ix wr => ∃ k : Nat, k ≤ K ∧ ix = .int .i64 (k : Int) ∧ bv = .string (ofL (bodyT (ls.take k))) ∧ Below w.heap.size w wr ∧ (bodyT (ls.take k)).length ≤ k * 1000) (fun _ ix _ => K - (intOf ix).toNat)
          case atStart => exact ⟨0, by omega, rfl, rfl, HB5.out, by simp [bodyT]⟩
          case round =>
            obtain ⟨k, hk, rfl, rfl, hB, hlen⟩ := hrel
            have HB := Lib.hid hB
            have hz3 := hB.size
            clear hB
            have kk0 : (0 : Int) ≤ (k : Int) := by omega
            by_cases hlt : k < K
            · have k1 : (k : Int) < (K : Int) := by omega
              have hkl : k < ls.length := by omega
              obtain ⟨b2, off2, e2, hbb2, d0, d1, d2⟩ := lns_cells (HR.out.below HB.out) hkl
              injection e2 with e2
              injection e2 with e2 e3
              subst e2; subst e3
              have g3 := (HB.out.cell (p := ⟨b, 3, none⟩) hbw).trans k3
              have hok := line_ok (HOK.out ls[k] (List.getElem_mem hkl))
              have HTK := Lib.hid (show bodyT (ls.take (k + 1)) = bodyT (ls.take k) ++ (showL ls[k].min ls[k].nick ls[k].text ++ [10]) from by rw [List.take_succ_eq_append_getElem hkl, bodyT_snoc])
              have hsl := show_len ls[k].min (by omega) ls[k].nick ls[k].text
              generalize ls[k] = x at *
              obtain ⟨mx, nn, tt⟩ := x
              simp only at d0 d1 d2 hok hsl HTK
              generalize bodyT (ls.take k) = acc at *
              have HPR := Lib.hid (fun wx => lw_show mx (by omega) (ofL nn) (ofL tt) (by rw [ofL_size]; omega) (by rw [ofL_size]; omega) wx)
              rw [toL_ofL, toL_ofL] at HPR
              have hsz : (ofL (showL mx nn tt)).size ≤ 446 := by rw [ofL_size]; omega
              have hsa : (ofL acc).size ≤ 50000 := by rw [ofL_size]; omega
              have hsb : (ofL (showL mx nn tt) ++ ⟨#[10]⟩).size ≤ 447 := by rw [ByteArray.size_append]; show _ + 1 ≤ _; omega
              have HTL := Lib.hid (show ofL acc ++ (ofL (showL mx nn tt) ++ ⟨#[10]⟩) = ofL (acc ++ (showL mx nn tt ++ [10])) from by apply toL_inj; simp [toL, ofL])
              go_wp2_with ((go_at_call 116; (with_reducible refine (HPR.out _).mono ?_); rintro e w2 ⟨rfl, hb2⟩))
              go_roundw
              case rel => exact ⟨k + 1, by omega, by go_num, by rw [HTK.out, ← HTL.out], HB.out.trans (hb2.mono hz3), by rw [HTK.out, List.length_append, List.length_append]; simp; omega⟩
              case measure => simp [intOf] <;> omega
            · have k1 : (K : Int) ≤ (k : Int) := by omega
              obtain rfl : k = K := by omega
              have HS := Lib.hid (HG.out.below HB.out)
              have g3 := (HB.out.cell (p := ⟨b, 3, none⟩) hbw).trans k3
              have hE := own_E wr
              have HE := Lib.hid (alloc_bel wr (.cells #[] 39))
              have hr2 := (HT2.out.row _ (HR.out.below HB.out)).below HE.out
              have hlv : (lnsV (ls.drop k)).length = (ls.length - k) * 3 := by rw [lnsV_length, List.length_drop]
              have hnil := hr2.none_len (size := 3) hlv (by omega)
              have hbr : b < wr.heap.size := Nat.lt_of_lt_of_le hbw hz3
              go_wp2_with ((at_builtin; refine wpList_pour el_Line rfl _ _ rfl hE rfl (A := A2) (m := ls.length - k) (c := c8 - k) (news := lnsV (ls.drop k)) rfl hr2 hlv (lnsV_one _) hnil ?q2 ?q3 ?q4 ?_))
              case q2 => omega
              case q3 => unfold maxLen; omega
              case q4 => simp
              intro v6 w6 hown6 hg6 _
              have HB6 := Lib.hid (HE.out.grown hg6 (by simp) (by intro g hg; simp [Value.ownBlock] at hg; omega))
              try simp only [Nat.zero_add, List.nil_append] at hown6
              obtain ⟨A6, c6, rfl, _⟩ := own_row hown6
              have HBX6 := Lib.hid ((HB6.out.block b hbr).trans HS.out.box)
              have q3 : w6.cell? ⟨b, 3, none⟩ = some (.slice (some ⟨bb, off, none⟩) ls.length c8) := by rw [Lib.cell_of_heap HBX6.out]; rfl
              have f3 := Lib.frozen_of_heap HBX6.out 3
              go_wp2_with fail
              go_ret3
              have HP := HS.out.setL (v4 := .slice A6 (ls.length - k) c6) (ls' := ls.drop k) (Nat.le_trans HN.out hz3) HB6.out (by rw [List.length_drop]; exact hown6)
              have hF := (Fr.of (S := A) HB.out HN.out).trans HP.2 (fun i hi => .inl hi)
              have hX : MdX n (Ext A wr (w6.setCell ⟨b, 3, none⟩ (.slice A6 (ls.length - k) c6))) (w6.setCell ⟨b, 3, none⟩ (.slice A6 (ls.length - k) c6)) b R G N (ls.drop k) last made read := ⟨_, vm, vr, HP.1⟩
              refine ⟨by rw [HT.out, ← HSV.out, HY.out.2.1, hKt]; rfl, ?_, hF⟩
              rw [HY.out.2.2, hKd]
              exact MdX.ext2 hX (fun g hg => ⟨HG.out.lo g hg, HG.out.hi g hg⟩) HN.out hz3 HP.2.size
end Go.Proofs.YtghjgbkhhoaebaaGreatDoor
