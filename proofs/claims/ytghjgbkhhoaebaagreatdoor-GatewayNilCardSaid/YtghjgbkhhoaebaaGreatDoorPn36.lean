/- Lemmas and walks, part 36. -/
import Derived.Test.YtghjgbkhhoaebaaGreatDoorPn35
import Derived.Test.YtghjgbkhhoaebaaGreatDoorPn25
import Derived.Deep.RegionHeld3
import Derived.Deep.RegionLaw
import Derived.Deep.AppendLies
import Derived.Deep.QuietTactic
import Derived.BigQuiet
import Derived.Laws.StructEq
namespace Go.Proofs.YtghjgbkhhoaebaaGreatDoor
set_option linter.unusedSimpArgs false
set_option linter.unusedVariables false
open Go.ChangeShapes Go.WideShapes Go.ChangeAt Go.RowKit

abbrev opA (k m : Int) (n t : ByteArray) (f : Nat → Int) (N S B : ByteArray) (d r : Int) : Array Value := #[.int .u8 k, .int .i64 m, .string n, .string t, .int .u8 (f 0), .int .u8 (f 1), .int .u8 (f 2), .int .u8 (f 3), .int .u8 (f 4), .int .u8 (f 5), .int .u8 (f 6), .int .u8 (f 7), .int .u8 (f 8), .int .u8 (f 9), .int .u8 (f 10), .int .u8 (f 11), .int .u8 (f 12), .int .u8 (f 13), .int .u8 (f 14), .int .u8 (f 15), .int .u8 (f 16), .int .u8 (f 17), .int .u8 (f 18), .int .u8 (f 19), .int .u8 (f 20), .int .u8 (f 21), .int .u8 (f 22), .int .u8 (f 23), .int .u8 (f 24), .int .u8 (f 25), .int .u8 (f 26), .int .u8 (f 27), .int .u8 (f 28), .int .u8 (f 29), .int .u8 (f 30), .int .u8 (f 31), .string N, .string S, .string B, .int .i64 d, .int .u8 r]
theorem opC_eq (o : OpR) : opC o = (opA o.k o.m o.n o.t o.f o.N o.S o.B o.d o.r).toList := rfl
theorem okWide_arr {P : Program} {w : World} {r : Reach} {base : Nat} {t e : TypeId} {n : Nat} {v : Value} (ht : P.underlying t = some (.array n e)) (h : Value.okWide P w r base t v) : ∃ cs, v = .agg cs ∧ cs.size = P.cellsOf t := by
  simp only [Value.okWide, ht] at h
  obtain ⟨cs, h1, h2, _⟩ := h
  exact ⟨cs, h1, h2⟩
theorem range_load {W : World} {B off : Nat} {T : TypeId} {cs : List Value} {fs : TypeDesc} (h : W.rangeAt B off cs) (hu : Tryz.prog.underlying T = some fs) (ha : fs.isRow = true) (hs : (Tryz.prog.info? T).map (·.size) = some cs.length) : (Instr.loadAt T (.pointer (some ⟨B, off, none⟩))).run Tryz.prog W = .ok (.agg cs.toArray) W := by
  have hl := run_loadVar_mid (P := Tryz.prog) W B off T cs _ h hu ha hs
  unfold Instr.loadAt
  rw [show (Instr.sureAddr (.pointer (some ⟨B, off, none⟩)) : Sem Addr) = pure ⟨B, off, none⟩ from rfl]
  simp only [Sem.run_bind, Sem.run_pure, Result.andThen_ok]
  exact hl
theorem range_part {W : World} {B off : Nat} {ds : List Value} {fr : Nat × Nat} {t : TypeId} {A : Array Value} (h : W.heap[B]? = some (.cells A t fr)) (hp : ds <+: A.toList.drop off) : W.rangeAt B off ds := fun j v hv => by
  rw [Lib.cell_of_heap h]
  obtain ⟨r, hr⟩ := hp
  have h1 : (ds ++ r)[j]? = some v := by rw [List.getElem?_append_left (List.getElem?_eq_some_iff.1 hv).1]; exact hv
  rw [hr, List.getElem?_drop] at h1
  simpa using h1
section
variable {W : World} {Bx : Nat} {k m : Int} {n t : ByteArray} {f : Nat → Int} {N S B : ByteArray} {d r : Int} {T : TypeId} {fr : Nat × Nat}
theorem op_cells (h : W.heap[Bx]? = some (.cells (opA k m n t f N S B d r) T fr)) : W.cell? ⟨Bx, 0, none⟩ = some (.int .u8 k) ∧ W.cell? ⟨Bx, 1, none⟩ = some (.int .i64 m) ∧ W.cell? ⟨Bx, 2, none⟩ = some (.string n) ∧ W.cell? ⟨Bx, 3, none⟩ = some (.string t) ∧ W.cell? ⟨Bx, 40, none⟩ = some (.int .u8 r) :=
  ⟨by rw [Lib.cell_of_heap h]; rfl, by rw [Lib.cell_of_heap h]; rfl, by rw [Lib.cell_of_heap h]; rfl, by rw [Lib.cell_of_heap h]; rfl, by rw [Lib.cell_of_heap h]; rfl⟩
theorem op_post (h : W.heap[Bx]? = some (.cells (opA k m n t f N S B d r) T fr)) : (Instr.loadAt 25 (.pointer (some ⟨Bx, 4, none⟩))).run Tryz.prog W = .ok (postV f N S B d) W :=
  range_load (cs := (postC f N S B d).toList) (range_part h ⟨[.int .u8 r], rfl⟩) Tryz.underlying25 rfl size_Post
theorem op_id (h : W.heap[Bx]? = some (.cells (opA k m n t f N S B d r) T fr)) : (Instr.loadAt 23 (.pointer (some ⟨Bx, 4, none⟩))).run Tryz.prog W = .ok (idA f) W :=
  range_load (cs := idC (idN f)) (range_part h ⟨[.string N, .string S, .string B, .int .i64 d, .int .u8 r], rfl⟩) Tryz.underlying23 rfl size_Id
theorem op_idR (h : W.heap[Bx]? = some (.cells (opA k m n t f N S B d r) T fr)) : W.rangeAt Bx 4 (idC (idN f)) := range_part h ⟨[.string N, .string S, .string B, .int .i64 d, .int .u8 r], rfl⟩
end
set_option maxRecDepth 100000 in
/-- An operation, and an identity, that came in. -/
theorem open_op {H : Type} {enc : TypeId × Value → H} {w : World} {r : Reach} {b0 : Nat} {v : Value} {y : DataW H} {p : List MemPlace} (hv : Value.okWide Tryz.prog w r b0 60 v) (h : DataW.Trod enc Tryz.prog w 0 (fun _ => true) true 60 v y p) :
    ∃ o : OpR, v = .agg (opA o.k o.m o.n o.t o.f o.N o.S o.B o.d o.r) ∧ OpOk o := by
  obtain ⟨cs, rfl, hsz⟩ := okWide_struct Tryz.underlying60 hv
  obtain ⟨fuel, hf⟩ := h
  obtain ⟨o, e, ho⟩ := open_opC hf
  rw [opC_eq] at e
  have e' : cs.toList = (opA o.k o.m o.n o.t o.f o.N o.S o.B o.d o.r).toList := e
  exact ⟨o, by rw [Array.toList_inj.1 e'], ho⟩
set_option maxRecDepth 100000 in
theorem open_id {H : Type} {enc : TypeId × Value → H} {w : World} {r : Reach} {b0 : Nat} {v : Value} {y : DataW H} {p : List MemPlace} (hv : Value.okWide Tryz.prog w r b0 23 v) (h : DataW.Trod enc Tryz.prog w 0 (fun _ => true) true 23 v y p) :
    ∃ f : Nat → Int, v = idA f := by
  obtain ⟨cs, rfl, hsz⟩ := okWide_arr Tryz.underlying23 hv
  obtain ⟨fuel, hf⟩ := h
  have hb := open_bytes Tryz.underlying23 Tryz.underlying5 size_u8 hf
  refine ⟨fun i => match cs[i]? with | some (.int _ k) => k | _ => 0, ?_⟩
  have hb' : ∀ i < 32, ∃ k, cs[i]? = some (.int .u8 k) := fun i hi => by
    obtain ⟨k, hk⟩ := hb i hi
    exact ⟨k, by simpa [Value.cells] using hk⟩
  have hf : ∀ i < 32, cs[i]? = some (.int .u8 (match cs[i]? with | some (.int _ k) => k | _ => 0)) := fun i hi => by
    obtain ⟨k, hk⟩ := hb' i hi
    rw [hk]
  generalize hg : (fun i : Nat => (match cs[i]? with | some (.int _ k) => k | _ => 0 : Int)) = f at *
  have hf' : ∀ i < 32, cs[i]? = some (.int .u8 (f i)) := fun i hi => by rw [← hg]; exact hf i hi
  rw [size_id] at hsz
  refine congrArg Value.agg (Array.ext_getElem? fun i => ?_)
  by_cases hi : i < 32
  · rw [hf' i hi]
    iterate 32 (rcases i with _ | i; · rfl)
    omega
  · rw [Array.getElem?_eq_none (by omega), Array.getElem?_eq_none (by show 32 ≤ i; omega)]
end Go.Proofs.YtghjgbkhhoaebaaGreatDoor

namespace Go.Proofs.YtghjgbkhhoaebaaGreatDoor
set_option linter.unusedSimpArgs false
set_option linter.unusedVariables false
open Go.RowKit

/-- The cells of a list of identities. -/
def idsV (l : List (List Int)) : List Value := l.flatMap idC
theorem idsV_length : ∀ (l : List (List Int)), All32 l → (idsV l).length = l.length * 32
  | [], _ => rfl
  | x :: l, h => by
    have h1 := h x (by simp)
    have h2 := idsV_length l (fun y hy => h y (by simp [hy]))
    simp only [idsV, List.flatMap_cons, List.length_append, List.length_cons, idC, List.length_map] at h2 ⊢
    omega
theorem idsV_snoc (l : List (List Int)) (x : List Int) : idsV (l ++ [x]) = idsV l ++ idC x := by simp [idsV]
theorem idsV_one (l : List (List Int)) : ∀ u ∈ idsV l, u.oneCell' = true := by
  intro u hu
  simp only [idsV, List.mem_flatMap, idC, List.mem_map] at hu
  obtain ⟨x, _, k, _, rfl⟩ := hu
  rfl
theorem idsV_at : ∀ (l : List (List Int)), All32 l → ∀ (k : Nat) (hk : k < l.length) (j : Nat), j < 32 → (idsV l)[k * 32 + j]? = (idC l[k])[j]?
  | [], _, k, hk, _, _ => by simp at hk
  | x :: l, h, 0, _, j, hj => by
    have h1 := h x (by simp)
    show (idC x ++ idsV l)[0 * 32 + j]? = _
    rw [Nat.zero_mul, Nat.zero_add, List.getElem?_append_left (by simp [idC, h1]; exact hj)]; rfl
  | x :: l, h, k + 1, hk, j, hj => by
    have h1 := h x (by simp)
    show (idC x ++ idsV l)[(k + 1) * 32 + j]? = _
    rw [List.getElem?_append_right (by simp [idC, h1]; omega), show (k + 1) * 32 + j - (idC x).length = k * 32 + j from by simp [idC, h1]; omega]
    exact idsV_at l (fun y hy => h y (by simp [hy])) k (by simpa using hk) j hj
theorem info_Id : (Tryz.prog.info? 23).map (fun i => (i.zero, i.size, i.bytes)) = some (some (.agg #[.int .u8 0, .int .u8 0, .int .u8 0, .int .u8 0, .int .u8 0, .int .u8 0, .int .u8 0, .int .u8 0, .int .u8 0, .int .u8 0, .int .u8 0, .int .u8 0, .int .u8 0, .int .u8 0, .int .u8 0, .int .u8 0, .int .u8 0, .int .u8 0, .int .u8 0, .int .u8 0, .int .u8 0, .int .u8 0, .int .u8 0, .int .u8 0, .int .u8 0, .int .u8 0, .int .u8 0, .int .u8 0, .int .u8 0, .int .u8 0, .int .u8 0, .int .u8 0]), 32, 32) := by kernel_rfl
theorem el_Id : Elem Tryz.prog 47 23 32 32 := Elem.of Tryz.underlying47 info_Id rfl (by omega)

/-- append of a row (one element too), as one step of a region that draws. -/
theorem step_pour {P : Program} {ops : Array Oper} {o : Oper} {a : Act} {w : World} {K : Act → World → Prop} {Q : Exit → Act → World → Prop} {E0 : Prop} {t e : TypeId} {size bytes : Nat} (E : Elem P t e size bytes) (hgd : o.guard = none) (s x : Operand)
    (ho : o.op = .call { callee := .builtin .append, args := #[s, x], argTypes := #[t, t] }) {base : Nat} {v : Value} {n : Nat} {xs : List Value} (hown : w.ownsRow base e size v n xs) (hs : a.eval s = v)
    {A : Option Addr} {m c : Nat} {news : List Value} (hx : a.eval x = .slice A m c) (hr : Row w A news) (hl : news.length = m * size) (h1 : ∀ u ∈ news, u.oneCell' = true) (hnil : A = none → m = 0)
    (hbytes : (n + m) * bytes ≤ 140737488355328) (h63 : n + m ≤ maxLen) (hbase : base ≤ w.heap.size)
    (h : ∀ v' w', w'.ownsRow base e size v' (n + m) (xs ++ news) → w.grownBy w' v.ownBlock → (v'.ownBlock = v.ownBlock ∨ v'.ownBlock = some w.heap.size) → K (a.put o.dst v') w') :
    if Region.wanted o (yielded ops a.tmps) = true then Oper.wp P o a w K Q else E0 := by
  have hw : Region.wanted o (yielded ops a.tmps) = true := by simp [Region.wanted, hgd]
  rw [if_pos hw]
  obtain ⟨v', w', hrun, h2, h3, h4⟩ := run_pour E w base o.type v n xs hown A m c news hr hl h1 hnil h63 hbytes hbase
  unfold Oper.wp execOp
  simp only [ho, resolve, invoke, builtin, Sem.run_bind, Sem.run_pure, Result.andThen_ok, List.map_toArray, List.map_cons, List.map_nil, hs, hx, hrun]
  exact h v' w' h2 h3 h4
theorem row_block {w : World} {B : Nat} {cs : Array Value} {t : TypeId} {fr : Nat × Nat} (h : w.heap[B]? = some (.cells cs t fr)) : Row w (some ⟨B, 0, none⟩) cs.toList :=
  Row.mk _ _ _ _ (heap_lt h) fun j v hv => by rw [Nat.zero_add, Lib.cell_of_heap h]; simpa using hv

/-- The model's box, its lines, its two lists of identities. -/
structure MdS (n : Nat) (A : Nat → Prop) (w : World) (b : Nat) (R G N : ByteArray) (ls : List Ln) (last : Int) (made read : List (List Int)) (v vm vr : Value) : Prop where
  box : w.heap[b]? = some (.cells #[.string R, .string G, .string N, v, .int .i64 last, vm, vr] 49 (0, 0))
  own : w.ownsRow n 39 3 v ls.length (lnsV ls)
  om : w.ownsRow n 23 32 vm made.length (idsV made)
  or_ : w.ownsRow n 23 32 vr read.length (idsV read)
  am : All32 made
  ar : All32 read
  ne : ∀ k, vm.ownBlock = some k → vr.ownBlock ≠ some k
  bv : v.ownBlock ≠ some b
  bm : vm.ownBlock ≠ some b
  br : vr.ownBlock ≠ some b
  vm_ : ∀ k, v.ownBlock = some k → vm.ownBlock ≠ some k
  vr_ : ∀ k, v.ownBlock = some k → vr.ownBlock ≠ some k
  inb : A b
  inv : ∀ k, v.ownBlock = some k → A k
  inm : ∀ k, vm.ownBlock = some k → A k
  inr : ∀ k, vr.ownBlock = some k → A k
  lo : ∀ k, A k → n ≤ k
  hi : ∀ k, A k → k < w.heap.size
theorem MdS.move {n : Nat} {A : Nat → Prop} {w w' : World} {b : Nat} {R G N : ByteArray} {ls : List Ln} {last : Int} {made read : List (List Int)} {v vm vr : Value} (h : MdS n A w b R G N ls last made read v vm vr) (hk : ∀ k, A k → w'.heap[k]? = w.heap[k]?) (hz : w.heap.size ≤ w'.heap.size) : MdS n A w' b R G N ls last made read v vm vr :=
  ⟨(hk b h.inb).trans h.box, own_oth h.own fun k e => hk k (h.inv k e), own_oth h.om fun k e => hk k (h.inm k e), own_oth h.or_ fun k e => hk k (h.inr k e), h.am, h.ar, h.ne, h.bv, h.bm, h.br, h.vm_, h.vr_, h.inb, h.inv, h.inm, h.inr, h.lo, fun k ha => Nat.lt_of_lt_of_le (h.hi k ha) hz⟩
theorem MdS.keep {n : Nat} {A B : Nat → Prop} {w w' : World} {b : Nat} {R G N : ByteArray} {ls : List Ln} {last : Int} {made read : List (List Int)} {v vm vr : Value} (h : MdS n A w b R G N ls last made read v vm vr) (hf : Fr n B w w') (hd : ∀ k, A k → ¬ B k) : MdS n A w' b R G N ls last made read v vm vr :=
  h.move (fun k ha => hf.oth k (h.hi k ha) (hd k ha)) hf.size
theorem MdS.below {n : Nat} {A : Nat → Prop} {w w' : World} {b : Nat} {R G N : ByteArray} {ls : List Ln} {last : Int} {made read : List (List Int)} {v vm vr : Value} (h : MdS n A w b R G N ls last made read v vm vr) (hb : Below w.heap.size w w') : MdS n A w' b R G N ls last made read v vm vr :=
  h.move (fun k ha => hb.block k (h.hi k ha)) hb.size
theorem md_cells {n : Nat} {A : Nat → Prop} {w : World} {b : Nat} {R G N : ByteArray} {ls : List Ln} {last : Int} {made read : List (List Int)} {v vm vr : Value} (h : MdS n A w b R G N ls last made read v vm vr) : w.cell? ⟨b, 0, none⟩ = some (.string R) ∧ w.cell? ⟨b, 2, none⟩ = some (.string N) ∧ w.cell? ⟨b, 3, none⟩ = some v ∧ w.cell? ⟨b, 4, none⟩ = some (.int .i64 last) ∧ w.cell? ⟨b, 5, none⟩ = some vm ∧ w.cell? ⟨b, 6, none⟩ = some vr :=
  ⟨by rw [Lib.cell_of_heap h.box]; rfl, by rw [Lib.cell_of_heap h.box]; rfl, by rw [Lib.cell_of_heap h.box]; rfl, by rw [Lib.cell_of_heap h.box]; rfl, by rw [Lib.cell_of_heap h.box]; rfl, by rw [Lib.cell_of_heap h.box]; rfl⟩
def MdX (n : Nat) (A : Nat → Prop) (w : World) (b : Nat) (R G N : ByteArray) (ls : List Ln) (last : Int) (made read : List (List Int)) : Prop := ∃ v vm vr, MdS n A w b R G N ls last made read v vm vr
theorem MdX.keep {n : Nat} {A B : Nat → Prop} {w w' : World} {b : Nat} {R G N : ByteArray} {ls : List Ln} {last : Int} {made read : List (List Int)} (h : MdX n A w b R G N ls last made read) (hf : Fr n B w w') (hd : ∀ k, A k → ¬ B k) : MdX n A w' b R G N ls last made read := by
  obtain ⟨v, vm, vr, h⟩ := h; exact ⟨v, vm, vr, h.keep hf hd⟩
theorem MdX.below {n : Nat} {A : Nat → Prop} {w w' : World} {b : Nat} {R G N : ByteArray} {ls : List Ln} {last : Int} {made read : List (List Int)} (h : MdX n A w b R G N ls last made read) (hb : Below w.heap.size w w') : MdX n A w' b R G N ls last made read := by
  obtain ⟨v, vm, vr, h⟩ := h; exact ⟨v, vm, vr, h.below hb⟩
theorem MdX.more {n : Nat} {A B : Nat → Prop} {w : World} {b : Nat} {R G N : ByteArray} {ls : List Ln} {last : Int} {made read : List (List Int)} (h : MdX n A w b R G N ls last made read) (hs : ∀ k, A k → B k) (lo : ∀ k, B k → n ≤ k) (hi : ∀ k, B k → k < w.heap.size) : MdX n B w b R G N ls last made read := by
  obtain ⟨v, vm, vr, h⟩ := h
  exact ⟨v, vm, vr, ⟨h.box, h.own, h.om, h.or_, h.am, h.ar, h.ne, h.bv, h.bm, h.br, h.vm_, h.vr_, hs _ h.inb, fun k e => hs k (h.inv k e), fun k e => hs k (h.inm k e), fun k e => hs k (h.inr k e), lo, hi⟩⟩

theorem eql_id (w : World) (p q : List Int) (hp : p.length = 32) (hq : q.length = 32) : (binOp .eql 23 (idV p) (idV q)).run Tryz.prog w = .ok (.bool (decide (p = q))) w := by
  have h := id_equal ar32 w p q hp hq
  unfold idV at h ⊢
  simp [binOp, h]
theorem id_load {w : World} {A : Option Addr} {l : List (List Int)} (hr : Row w A (idsV l)) (ha : All32 l) {k : Nat} (hk : k < l.length) : ∃ bb off, A = some ⟨bb, off, none⟩ ∧ bb < w.heap.size ∧ w.rangeAt bb (off + k * 32) (idC l[k]) := by
  have hl := idsV_length l ha
  rcases hr with h | ⟨b, off, e1, hb, hc⟩
  · rw [h] at hl; simp at hl; omega
  · refine ⟨b, off, e1, hb, fun j v hv => ?_⟩
    have h32 := ha l[k] (List.getElem_mem hk)
    have hj : j < 32 := by have := (List.getElem?_eq_some_iff.1 hv).1; simpa [idC, h32] using this
    have := hc (k * 32 + j) v (by rw [idsV_at l ha k hk j hj]; exact hv)
    rw [Nat.add_assoc]; exact this
theorem range_cells {W : World} {B off : Nat} {cs : List Value} (h : W.rangeAt B off cs) {w' : World} (hb : w'.heap[B]? = W.heap[B]?) : w'.rangeAt B off cs := fun j v hv => by
  rw [World.cell?_of_block hb]; exact h j v hv
theorem id_loads {W : World} {B off : Nat} {p : List Int} (h : W.rangeAt B off (idC p)) (hp : p.length = 32) : (Instr.loadAt 23 (.pointer (some ⟨B, off, none⟩))).run Tryz.prog W = .ok (idV p) W :=
  range_load (T := 23) h Tryz.underlying23 rfl (by rw [show (idC p).length = 32 from by simp [idC, hp]]; exact size_Id)
theorem wpQuiet_binop {P : Program} {ops : Array Oper} {C : World → Prop} {Q : Act → Prop} {a : Act} {o : Oper} {rest : List Oper} (hgd : o.guard = none) (bo : BinOp) (t t' : TypeId) (x y : Operand) (ho : o.op = .binOp bo t x y t') {p q v : Value} (hx : a.eval x = p) (hy : a.eval y = q) (hg : ∀ w, (eqGuard bo t x y p q).run P w = .ok () w) (hl : ∀ w, (binOp bo t p q).run P w = .ok v w)
    (h : wpQuiet P ops C Q rest (a.put o.dst v)) : wpQuiet P ops C Q (o :: rest) a := by
  rw [wpQuiet, if_pos (by simp [Region.wanted, hgd])]
  refine ⟨v, fun w hc => ?_, h⟩
  unfold Oper.quietAt execOp
  simp only [ho, hx, hy, hg w, hl w, Sem.run_bind, Sem.run_pure, Result.andThen_ok]
  exact ⟨rfl, rfl⟩
/-- What the load of an identity yields, as one word: so a region that draws carries it out in one step ('attribute [local go_sem ↓] wp_load_id'). -/
def OkRow (w : World) (v : Value) : Prop := ∃ u, (Instr.loadAt 23 v).run Tryz.prog w = .ok u w
noncomputable def rowOf (w : World) (v : Value) : Value := by
  classical exact if h : OkRow w v then h.choose else undef
theorem row_of {w : World} {v u : Value} (h : (Instr.loadAt 23 v).run Tryz.prog w = .ok u w) : OkRow w v ∧ rowOf w v = u := by
  have hk : OkRow w v := ⟨u, h⟩
  refine ⟨hk, ?_⟩
  have h2 := h.symm.trans hk.choose_spec
  unfold rowOf
  rw [dif_pos hk]
  injection h2 with h2 _
  exact h2.symm
theorem wp_load_id {d : Option Tmp} {ty : TypeId} {pos : String} {af : Array Edge} {x : Operand} {a : Act} {w : World} {K : Act → World → Prop} {Q : Exit → Act → World → Prop} {g : Option (Nat × Bool)} (h : OkRow w (a.eval x)) :
    Oper.wp Tryz.prog { dst := d, op := .load 23 x, type := ty, pos := pos, after := af, guard := g } a w K Q = K (a.put d (rowOf w (a.eval x))) w := by
  obtain ⟨u, hu⟩ := h
  rw [(row_of hu).2]
  unfold Oper.wp execOp
  simp only [hu, Sem.run_bind, Sem.run_pure, Result.andThen_ok]
  rfl
set_option maxHeartbeats 4000000 in
set_option maxRecDepth 100000 in
theorem lw_has (A : Option Addr) (l : List (List Int)) (c : Nat) (f : Nat → Int) (w : World) (hr : Row w A (idsV l)) (ha : All32 l) (hl : l.length ≤ 1000000) :
    Calls Tryz.prog 18 #[.slice A l.length c, idA f] w fun e w' => e = .returned (.bool (decide (idN f ∈ l))) ∧ Below w.heap.size w w' := by
  have HA := Lib.hid ha
  have HR := Lib.hid hr
  clear ha hr
  go_enter Tryz.func18, Tryz.ntmps18
  go_wp2_with fail
  have HW1 := Lib.hid (show Below w.heap.size w (w.alloc (.cells (idC (idN f)).toArray 23)) from alloc_bel _ _)
  have HX1 := Lib.hid (show (w.alloc (.cells (idC (idN f)).toArray 23)).heap[w.heap.size]? = some (.cells (idC (idN f)).toArray 23 (0, 0)) from heap_alloc_new _ _)
  go_loopw [5] (fun ix wr => ∃ k : Nat, k ≤ l.length ∧ ix = .int .i64 (k : Int) ∧ Below (w.heap.size + 1) (w.alloc (.cells (idC (idN f)).toArray 23)) wr ∧ ∀ j (h : j < l.length), j < k → l[j] ≠ idN f) (fun ix _ => l.length - (intOf ix).toNat)
  case atStart => exact ⟨0, by omega, rfl, Below.refl _ _, fun j _ h => by omega⟩
  case round =>
    obtain ⟨k, hk, rfl, hB, hno⟩ := hrel
    have HBB := Lib.hid hB
    have HN := Lib.hid hno
    have HB := Lib.hid (HW1.out.trans (hB.mono (by omega)))
    have HX := Lib.hid ((hB.block w.heap.size (by omega)).trans HX1.out)
    have k0 : (0 : Int) ≤ (k : Int) := by omega
    clear hno hB
    by_cases hlt : k < l.length
    · have k1 : (k : Int) < (l.length : Int) := by omega
      obtain ⟨bb, off, rfl, hbb, hra⟩ := id_load (HR.out.below HB.out) HA.out hlt
      have hp := HA.out l[k] (List.getElem_mem hlt)
      obtain ⟨p, hpe⟩ : ∃ p, l[k] = p := ⟨_, rfl⟩
      rw [hpe] at hra hp
      have HPE := Lib.hid hpe
      have HLD := Lib.hid (show ∀ wx, (∃ j, wx = wr.drewN j) → (Instr.loadAt 23 (.pointer (some ⟨bb, off + k * 32, none⟩))).run Tryz.prog wx = .ok (idV p) wx from fun wx ⟨j, e⟩ => by subst e; exact id_loads (W := wr.drewN j) hra hp)
      have HLI := Lib.hid (show ∀ wx, (∃ j, wx = wr.drewN j) → (Instr.loadAt 23 (.pointer (some ⟨w.heap.size, 0, none⟩))).run Tryz.prog wx = .ok (idV (idN f)) wx from fun wx ⟨j, e⟩ => by
        subst e
        exact id_loads (W := wr.drewN j) (fun i v hv => by rw [Nat.zero_add, Lib.cell_of_heap (w := wr.drewN j) HX.out]; simpa using hv) rfl)
      have hq := fun wx => eql_id wx p (idN f) hp rfl
      clear hpe hra
      by_cases hpf : p = idN f
      · have hq1 : decide (p = idN f) = true := decide_eq_true hpf
        rw [hq1] at hq
        have HR2 := Lib.hid (show decide (idN f ∈ l) = true from decide_eq_true (by rw [← hpf, ← HPE.out]; exact List.getElem_mem hlt))
        clear hq1 hpf
        go_upto_region 4 with fail
        refine wp_region_quiet_lit (by kernel_rfl) (by kernel_rfl) ?_
        repeat (first | (refine wpQuiet_load rfl 23 _ rfl rfl HLD.out ?_; simp only [Act.put, List.setIfInBounds_toArray, List.set_cons_zero, List.set_cons_succ]) | (refine wpQuiet_load rfl 23 _ rfl rfl HLI.out ?_; simp only [Act.put, List.setIfInBounds_toArray, List.set_cons_zero, List.set_cons_succ]) | (go_big_quiet_step (fail)))
        refine wpQuiet_binop rfl .eql 23 _ _ _ rfl rfl rfl (fun w => run_eqGuard_agg w _ _ _ _ _ _ Tryz.eqGuardType23) hq ?_
        refine wpQuiet_nil ?_
        intro _ hw'
        obtain ⟨nq, hw''⟩ := hw'
        subst hw''
        go_wp2_with fail
        go_ret
        exact ⟨by rw [HR2.out]; rfl, below_drewN HB.out nq⟩
      · have hq1 : decide (p = idN f) = false := decide_eq_false hpf
        rw [hq1] at hq
        have HNE := Lib.hid (show l[k] ≠ idN f from by rw [HPE.out]; exact hpf)
        clear hq1 hpf
        go_upto_region 4 with fail
        refine wp_region_quiet_lit (by kernel_rfl) (by kernel_rfl) ?_
        repeat (first | (refine wpQuiet_load rfl 23 _ rfl rfl HLD.out ?_; simp only [Act.put, List.setIfInBounds_toArray, List.set_cons_zero, List.set_cons_succ]) | (refine wpQuiet_load rfl 23 _ rfl rfl HLI.out ?_; simp only [Act.put, List.setIfInBounds_toArray, List.set_cons_zero, List.set_cons_succ]) | (go_big_quiet_step (fail)))
        refine wpQuiet_binop rfl .eql 23 _ _ _ rfl rfl rfl (fun w => run_eqGuard_agg w _ _ _ _ _ _ Tryz.eqGuardType23) hq ?_
        refine wpQuiet_nil ?_
        intro _ hw'
        obtain ⟨nq, hw''⟩ := hw'
        subst hw''
        go_wp2_with fail
        go_roundw
        case rel => exact ⟨k + 1, by omega, by go_num, below_drewN HBB.out nq, fun j hj h => by
          by_cases e : j = k
          · subst e; exact HNE.out
          · exact HN.out j hj (by omega)⟩
        case measure => simp [intOf] <;> omega
    · have k1 : (l.length : Int) ≤ (k : Int) := by omega
      have HR2 := Lib.hid (show decide (idN f ∈ l) = false from decide_eq_false fun hm => by
        obtain ⟨j, hj, e⟩ := List.getElem_of_mem hm
        exact HN.out j hj (by omega) e)
      go_wp2_with fail
      go_ret
      exact ⟨by rw [HR2.out]; rfl, HB.out⟩
end Go.Proofs.YtghjgbkhhoaebaaGreatDoor
