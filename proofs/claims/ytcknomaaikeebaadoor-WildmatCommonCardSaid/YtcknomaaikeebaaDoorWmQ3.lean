/- The walk over the reference's class. -/
import Derived.Test.YtcknomaaikeebaaDoorWmQ2
namespace Go.Proofs.YtcknomaaikeebaaDoor
set_option linter.unusedSimpArgs false
set_option linter.unusedVariables false
open Go.RowKit

/-- The set of a list of bytes. -/
def setF (X : Bs) : Nat → Bool := fun j => X.contains (UInt8.ofNat j)
theorem ofNat_ne {c : UInt8} {j : Nat} (hj : j < 128) (h : j ≠ c.toNat) : UInt8.ofNat j ≠ c := fun e => h (by rw [← e, UInt8.toNat_ofNat', Nat.mod_eq_of_lt (by omega)])
theorem setF_snoc (X : Bs) (c : UInt8) (j : Nat) (hj : j < 128) : upd (setF X) c.toNat true j = setF (X ++ [c]) j := by
  unfold upd setF
  by_cases h : j = c.toNat
  · subst h; simp
  · rw [if_neg h, Bool.eq_iff_iff, List.contains_iff_mem, List.contains_iff_mem, List.mem_append, List.mem_singleton]
    constructor
    · exact .inl
    · rintro (h1 | h1)
      · exact h1
      · exact absurd h1 (ofNat_ne hj h)
theorem setF_nil (j : Nat) (hj : j < 128) : eZ j = setF [] j := rfl
/-- The set of a class. -/
theorem setF_pos (X : Bs) (hX : ∀ c ∈ X, isChar c = true) (j : Nat) (hj : j < 128) : setF X j = setF (nameC.filter (hitP X false)) j := by
  unfold setF hitP
  rw [Bool.eq_iff_iff, List.contains_iff_mem, List.contains_iff_mem, List.mem_filter, mem_nameC]
  constructor
  · intro h; exact ⟨hX _ h, by simpa using h⟩
  · intro h; simpa using h.2
def negF (X : Bs) (q : Nat) : Nat → Bool := fun j => if j < q then isChar (UInt8.ofNat j) && !setF X j else setF X j
theorem negF_zero (X : Bs) (j : Nat) (hj : j < 128) : setF X j = negF X 0 j := by simp [negF]
theorem negF_step (X : Bs) (q : Nat) (j : Nat) (hj : j < 128) : upd (negF X q) q (isChar (UInt8.ofNat q) && !setF X q) j = negF X (q + 1) j := by
  unfold upd negF
  by_cases h : j = q
  · subst h; simp
  · rw [if_neg h]
    by_cases h2 : j < q
    · rw [if_pos h2, if_pos (by omega)]
    · rw [if_neg h2, if_neg (by omega)]
theorem negF_at (X : Bs) (q : Nat) : negF X q q = setF X q := by simp [negF]
theorem setF_neg (X : Bs) (j : Nat) (hj : j < 128) : negF X 128 j = setF (nameC.filter (hitP X true)) j := by
  unfold negF setF hitP
  rw [if_pos hj, Bool.eq_iff_iff, List.contains_iff_mem, List.mem_filter, mem_nameC]
  simp
theorem rf_char' (q : Nat) (hq : q < 256) (Z : Int) (hZ : Z = q) (w : World) : Calls Tryd.prog 17 #[.int .u8 Z] w fun e w' => e = .returned (.bool (isChar (UInt8.ofNat q))) ∧ w = w' := by
  have := rf_char (UInt8.ofNat q) w
  have e : num (UInt8.ofNat q) = Z := by rw [hZ]; simp only [num, UInt8.toNat_ofNat']; rw [Nat.mod_eq_of_lt (by omega)]
  rw [e] at this; exact this
/-- What class hands back. -/
def RefClass (k : Nat) (x : Option (Bs × Nat)) (v : Value) : Prop := match x with
  | none => ∃ f, v = .tuple #[.agg (blk false f).toArray, .int .i64 (-1)]
  | some y => ∃ f, (∀ j, j < 128 → f j = setF y.1 j) ∧ v = .tuple #[.agg (blk false f).toArray, .int .i64 ((k + y.2 : Nat) : Int)]
def RClassPost (L : Bs) (k : Nat) (w : World) (e : Ending) (w' : World) : Prop := ∃ v, e = .returned v ∧ RefClass k (classF L) v ∧ Below w.heap.size w w'
theorem rclass_no {L : Bs} {k : Nat} {w w' : World} {f : Nat → Bool} (h : classF L = none) (hb : Below w.heap.size w w') : RClassPost L k w (.returned (.tuple #[.agg (blk false f).toArray, .int .i64 (-1)])) w' :=
  ⟨_, rfl, by rw [h]; exact ⟨f, rfl⟩, hb⟩
theorem rclass_yes {L : Bs} {k n : Nat} {x : Bs} {w w' : World} {f : Nat → Bool} (h : classF L = some (x, n)) (hf : ∀ j, j < 128 → f j = setF x j) (N : Int) (hN : N = ((k + n : Nat) : Int)) (hb : Below w.heap.size w w') : RClassPost L k w (.returned (.tuple #[.agg (blk false f).toArray, .int .i64 N])) w' :=
  ⟨_, rfl, by rw [h]; exact ⟨f, hf, by rw [hN]⟩, hb⟩
theorem results_E {P : Program} {fn : Func} {p q : Tmp} {T : TypeId} {d : TypeDesc} (h : fn.results = #[.cell p T, .tmp q]) (tmps : Array Value) (w : World) (b : Nat) (s : Bool) (f : Nat → Bool) (v : Value) (hp : tmps.getD p undef = .pointer (some ⟨b, 0, none⟩)) (hq : tmps.getD q undef = v)
    (hE : EAt w b s f) (hu : P.underlying T = some d) (hd : d.isRow = true) (hi : (P.info? T).map (·.size) = some (blk s f).length) : (results fn tmps).run P w = .ok (.tuple #[.agg (blk s f).toArray, v]) w := by
  have hp' : tmps[p]?.getD undef = .pointer (some ⟨b, 0, none⟩) := by simpa using hp
  have hq' : tmps[q]?.getD undef = v := by simpa using hq
  have hl := run_loadVar_mid (P := P) w b 0 T (blk s f) d hE.range hu hd hi
  simp [results, h, hp', hq', asAddr, hl]
/-- The two variables of the call. -/
structure ClsAt (w wr : World) (f : Nat → Bool) : Prop where
  res : EAt wr w.heap.size false eZ
  x : EAt wr (w.heap.size + 1) false f
  bel : Below w.heap.size w wr
theorem ClsAt.set {w wr : World} {f g : Nat → Bool} (h : ClsAt w wr f) (k : Nat) (hk : k < 128) (v : Bool) (hg : ∀ j, j < 128 → upd f k v j = g j) : ClsAt w (wr.setCell ⟨w.heap.size + 1, 1 + k, none⟩ (.bool v)) g :=
  ⟨h.res.other _ _ (show w.heap.size ≠ w.heap.size + 1 by omega), (h.x.set k hk v).congr hg, h.bel.setCell (p := ⟨w.heap.size + 1, 1 + k, none⟩) (show w.heap.size ≤ w.heap.size + 1 by omega) _⟩
theorem ClsAt.congr {w wr : World} {f g : Nat → Bool} (h : ClsAt w wr f) (hg : ∀ j, j < 128 → f j = g j) : ClsAt w wr g := ⟨h.res, h.x.congr hg, h.bel⟩
theorem ClsAt.ret {w wr : World} {f : Nat → Bool} (h : ClsAt w wr f) : EAt (wr.setCells w.heap.size 0 (blk false f)) w.heap.size false f ∧ Below w.heap.size w (wr.setCells w.heap.size 0 (blk false f)) := ⟨h.res.stored, below_setCells (Nat.le_refl _) _ _ _ _ h.bel⟩
/-- Why there is no class. -/
theorem cls_none {L T : Bs} {neg : Bool} {fr n : Nat} {X : Bs} (h0 : (L[1]? == some 94) = neg) (hf : fr = if neg then 2 else 1) (hT : T = L.drop fr) (hi : itemsF 0 true T = (X, n)) (hn : n = 0 ∨ T[n]? ≠ some 93) : classF L = none := by
  refine classF_no L neg fr h0 hf ?_
  rw [← hT, hi]
  rcases hn with hn | hn
  · exact .inl hn
  · right
    rw [hT, List.getElem?_drop] at hn
    exact hn
theorem cls_some {L T : Bs} {neg : Bool} {fr n : Nat} {X : Bs} (h0 : (L[1]? == some 94) = neg) (hf : fr = if neg then 2 else 1) (hT : T = L.drop fr) (hi : itemsF 0 true T = (X, n)) (hn : n ≠ 0) (h93 : T[n]? = some 93) : classF L = some (nameC.filter (hitP X neg), fr + n + 1) := by
  have := classF_yes L neg fr h0 hf (by rw [← hT, hi]; exact hn) (by rw [← hT, hi]; rw [hT, List.getElem?_drop] at h93; exact h93)
  rw [this, ← hT, hi]
theorem plain_char {f : Bool} {c : UInt8} (h : isChar c = true) (h45 : c ≠ 45) : plainC f c = true := by
  have h1 := isChar_num c
  rw [h] at h1
  have : (num c == 45) = false := by
    rw [show (45 : Int) = num 45 from rfl, eq_num]; simpa using h45
  rw [plainC_num, this]
  rw [this] at h1
  simp at h1 ⊢
  rcases h1 with ((h1 | h1) | h1) | h1 <;> simp [h1]
theorem num45 (c : UInt8) : (num c == 45) = (c == 45) := eq_num c 45
theorem num93 (c : UInt8) : (num c == 93) = (c == 93) := eq_num c 93
theorem num94 (c : UInt8) : (num c == 94) = (c == 94) := eq_num c 94
/-- A character that a minus follows, and no range: the items end at the minus. -/
theorem items_dash {L X : Bs} {k : Nat} {f : Bool} (h : ItemsAt L X k f) (c : UInt8) (hc : L[k]? = some c) (hch : isChar c = true) (h45 : c ≠ 45) (hd : L[k + 1]? = some 45) (hr : isRange c (L.drop (k + 1)) = false) : itemsF 0 true L = (X ++ [c], k + 1) :=
  items_stop (items_one h c hc hr (plain_char hch h45)) 45 hd (isRange_no _ _ (by decide)) (by decide)
theorem range_set (X : Bs) (c d : UInt8) (j : Nat) (hj : j < 128) : setF (X ++ rangeTo c (d.toNat + 1)) j = setF (X ++ rangeB c d) j := by rw [rangeTo_all]
theorem range_step (X : Bs) (c : UInt8) (q : Nat) (hq : q < 128) (hc : c.toNat ≤ q) (j : Nat) (hj : j < 128) : upd (setF (X ++ rangeTo c q)) q true j = setF (X ++ rangeTo c (q + 1)) j := by
  have e : (UInt8.ofNat q).toNat = q := by rw [UInt8.toNat_ofNat', Nat.mod_eq_of_lt (by omega)]
  have := setF_snoc (X ++ rangeTo c q) (UInt8.ofNat q) j hj
  rw [e, List.append_assoc, ← rangeTo_snoc c q hc] at this
  exact this
theorem ok_al {c d : UInt8} (ha : isAl c = true) (h : okRange c d = true) : (alF d != alF c) = false ∧ decide (num d < num c) = false := by
  obtain ⟨h1, h2, h3, _⟩ := okRange_parts ha h
  refine ⟨?_, h1⟩
  have : alF d = alF c := by unfold alF; rw [h2, h3]
  simp [this]
theorem bad_al {c d : UInt8} (ha : isAl c = true) (h : okRange c d = false) : (alF d != alF c) = true ∨ ((alF d != alF c) = false ∧ decide (num d < num c) = true) := by
  rcases h1 : (alF d != alF c) with _ | _
  · right
    refine ⟨rfl, ?_⟩
    rcases h2 : decide (num d < num c) with _ | _
    · exfalso
      simp only [bne_eq_false_iff_eq] at h1
      unfold alF at h1
      unfold isAl at ha
      refine bad_flags h h2 ?_ ?_
      · rcases hx : isLower (num c) with _ | _ <;> rcases hy : isLower (num d) with _ | _ <;> rcases hu : isDigit (num c) with _ | _ <;> rcases hv : isDigit (num d) with _ | _ <;> simp_all
      · rcases hx : isLower (num c) with _ | _ <;> rcases hy : isLower (num d) with _ | _ <;> rcases hu : isDigit (num c) with _ | _ <;> rcases hv : isDigit (num d) with _ | _ <;> (first | (simp_all; done) | (exfalso; simp [isLower, isDigit] at hx hy hu hv; omega))
    · rfl
  · exact .inl rfl

end Go.Proofs.YtcknomaaikeebaaDoor
