/- The body of an article is read back as its lines; how long the strings of operations may be; a gateway beside two growing rows of lines. -/
import Derived.Test.YtghjgbkhhoaebaaGreatDoorPo50
import Derived.Test.YtghjgbkhhoaebaaGreatDoorPo46
import Derived.Test.YtghjgbkhhoaebaaGreatDoorPo38
import Derived.Test.YtghjgbkhhoaebaaGreatDoorPo10
import Derived.Test.YtghjgbkhhoaebaaGreatDoorPo11
import Derived.Test.YtghjgbkhhoaebaaGreatDoorPo45
import Derived.Test.YtghjgbkhhoaebaaGreatDoorPo37
namespace Go.Proofs.YtghjgbkhhoaebaaGreatDoor
set_option linter.unusedSimpArgs false
set_option linter.unusedVariables false
open Go.RowKit

theorem ok_has (b : UInt8) (hb : b.toNat < 128) : ∀ (n : Nat) (L : List UInt8) (i : Nat), L.length ≤ n → (allF L i).2 = none → b ∈ L → b.toNat ∈ (allF L i).1.map (·.2) := by
  intro n
  induction n with
  | zero => intro L i h _ hm; rw [List.eq_nil_of_length_eq_zero (l := L) (by omega)] at hm; cases hm
  | succ n ih =>
    intro L i h hn hm
    cases L with
    | nil => cases hm
    | cons c r =>
      have hne : c :: r ≠ [] := by simp
      by_cases he : (decU (c :: r)).2.2 = 0
      · have hw : wholeU (c :: r) = true := by
          show decide (measU (c :: r) = lenU c ∧ lenU c ≠ 0) = true
          rw [decide_eq_true_eq]
          unfold decU at he
          by_cases h1 : measU (c :: r) = lenU c ∧ lenU c ≠ 0
          · exact h1
          · simp only [if_neg h1] at he
            exfalso
            split at he
            · simp at he
            · split at he <;> simp at he
        obtain ⟨hs, hd⟩ := whole_step hw
        rw [allF_ok hne i he] at hn ⊢
        rw [hd] at hn ⊢
        simp only [List.map_cons] at hn ⊢
        by_cases e : c = b
        · subst e
          have hl := lenU_1 (c := c) (by omega)
          have hme : measU (c :: r) = 1 := by rw [measU_cons _ _ (by omega), hl, run_stop _ _ _ _ (Nat.le_refl _)]
          rw [hme]
          have : valU ((c :: r).take 1) = c.toNat := by
            simp only [List.take_succ_cons, List.take_zero, valU, foldU, List.foldl_nil]
            exact (leadU_of (a := c)).1 hb
          rw [this]; simp
        · refine List.mem_cons_of_mem _ ?_
          have h3 := stepU_pos (c :: r)
          rw [hs] at h3
          refine ih _ _ (by rw [List.length_drop]; simp at h ⊢; omega) hn ?_
          rcases List.mem_cons.1 hm with h' | h'
          · exact absurd h'.symm e
          · obtain ⟨j, hj, hjb⟩ := List.getElem_of_mem h'
            have hge : measU (c :: r) ≤ j + 1 := by
              by_cases h0 : lenU c = 0
              · have : measU (c :: r) = 0 := by rw [measU, if_pos h0]
                omega
              · rw [measU_cons _ _ h0]
                rcases Nat.lt_or_ge j (runU c (lenU c) 1 r) with g | g
                · obtain ⟨d, hd, hcd⟩ := run_all c (lenU c) r 1 j g
                  rw [List.getElem?_eq_getElem hj] at hd
                  injection hd with hd
                  have := (cont_range hcd).1
                  rw [← hd, hjb] at this
                  omega
                · omega
            have : (c :: r)[j + 1]'(by simp; exact hj) = b := by rw [List.getElem_cons_succ]; exact hjb
            rw [← this]
            have hk : j + 1 - measU (c :: r) < ((c :: r).drop (measU (c :: r))).length := by rw [List.length_drop, List.length_cons]; omega
            have e2 : ((c :: r).drop (measU (c :: r)))[j + 1 - measU (c :: r)] = (c :: r)[j + 1]'(by simp; exact hj) := by
              rw [List.getElem_drop]; congr 1; omega
            rw [← e2]
            exact List.getElem_mem hk
      · rw [allF_err hne i he] at hn; simp at hn
theorem text_nl {T : Bs} (h : textE T = 0) : ∀ x ∈ T, x ≠ 10 := by
  intro x hx e
  subst e
  unfold textE at h
  split at h
  · simp at h
  · split at h
    · simp at h
    · split at h
      · simp at h
      · rename_i h3
        have h4 : ctlB T = false := by simpa using h3
        unfold ctlB at h4
        simp only [Bool.or_eq_false_iff, decide_eq_false_iff_not, Decidable.not_not] at h4
        obtain ⟨h5, h6⟩ := h4
        have hn := chk_none.1 h6
        have hm := ok_has 10 (by decide) T.length T 0 (Nat.le_refl _) hn hx
        obtain ⟨y, hy, hy2⟩ := List.mem_map.1 hm
        have h8 := List.any_eq_false.1 h5 y hy
        rw [hy2] at h8
        exact h8 (by decide)
theorem show_nl {n : Nat} {N T : Bs} (h : lineE (n : Int) N T = 0) : ∀ x ∈ showL n N T, x ≠ 10 := by
  unfold lineE at h
  split at h
  · cases h
  · split at h
    · cases h
    · rename_i h2
      have hN : nickB N = true := by simpa using h2
      have hT := text_nl h
      have hd := (dec_dig n).1
      have hn : ∀ x ∈ N, x ≠ 10 := by
        intro x hx e
        unfold nickB at hN
        split at hN
        · cases hN
        · simp only [Bool.and_eq_true, List.all_eq_true] at hN
          have := hN.2 x hx
          subst e
          revert this; decide
      intro x hx e
      subst e
      simp only [showL, List.mem_cons, List.mem_append, List.not_mem_nil, or_false] at hx
      rcases hx with hx | hx | (hx | hx | hx) | hx | (hx | hx) | hx
      · revert hx; decide
      · have := hd _ hx; revert this; decide
      · revert hx; decide
      · revert hx; decide
      · revert hx; decide
      · exact hn _ hx rfl
      · revert hx; decide
      · revert hx; decide
      · exact hT _ hx rfl
theorem bodyT_app (a b : List Ln) : bodyT (a ++ b) = bodyT a ++ bodyT b := by simp [bodyT]
theorem bodyT_cons (x : Ln) (b : List Ln) : bodyT (x :: b) = showL x.min x.nick x.text ++ 10 :: bodyT b := by simp [bodyT]
theorem lin_at : ∀ (post pre : List Ln), (∀ x ∈ post, lineE (x.min : Int) x.nick x.text = 0) → LinAt (bodyT (pre ++ post)) (bodyT pre).length pre → linF (bodyT (pre ++ post)) = (pre ++ post, 0, 0)
  | [], pre, _, h => by
    rw [List.append_nil] at h ⊢
    exact h.done (Nat.le_refl _)
  | x :: post, pre, hok, h => by
    have hx := hok x (by simp)
    have hd : (bodyT (pre ++ x :: post)).drop (bodyT pre).length = showL x.min x.nick x.text ++ 10 :: bodyT post := by
      rw [bodyT_app, bodyT_cons, List.drop_left]
    have hk : lnK (bodyT (pre ++ x :: post)) (bodyT pre).length = (showL x.min x.nick x.text).length := by
      show posF 10 _ = _
      rw [hd]; exact posF_app (show_nl hx) _
    have ht : lnT (bodyT (pre ++ x :: post)) (bodyT pre).length = showL x.min x.nick x.text := by
      show ((bodyT (pre ++ x :: post)).drop _).take (lnK _ _) = _
      rw [hk, hd, List.take_left]
    have hp := par_show x.min x.nick x.text hx
    have hl : (bodyT (pre ++ x :: post)).length = (bodyT pre).length + (showL x.min x.nick x.text).length + 1 + (bodyT post).length := by
      rw [bodyT_app, bodyT_cons]; simp; omega
    have hn := h.next (by omega) (by rw [hk, hd]; simp) (by rw [ht, hp])
    rw [hk, ht, hp] at hn
    have e1 : pre ++ x :: post = (pre ++ [x]) ++ post := by simp
    have e2 : (bodyT pre).length + (showL x.min x.nick x.text).length + 1 = (bodyT (pre ++ [x])).length := by
      rw [bodyT_app, bodyT_cons]; simp [bodyT]; omega
    rw [e2, e1] at hn
    rw [e1]
    exact lin_at post (pre ++ [x]) (fun y hy => hok y (by simp [hy])) hn
theorem lin_body (ls : List Ln) (h : ∀ x ∈ ls, lineE (x.min : Int) x.nick x.text = 0) : linF (bodyT ls) = (ls, 0, 0) := lin_at ls [] h (LinAt.zero _)
theorem body_len {ls : List Ln} (h : ∀ x ∈ ls, lineE (x.min : Int) x.nick x.text = 0) : (bodyT ls).length ≤ ls.length * 500 := by
  induction ls with
  | nil => simp [bodyT]
  | cons x r ih =>
    have h1 := line_ok (h x (by simp))
    have h2 := show_len x.min (by omega) x.nick x.text
    have h3 := ih (fun y hy => h y (by simp [hy]))
    rw [bodyT_cons]
    simp only [List.length_append, List.length_cons]
    omega
end Go.Proofs.YtghjgbkhhoaebaaGreatDoor
namespace Go.Proofs.YtghjgbkhhoaebaaGreatDoor
set_option linter.unusedSimpArgs false
set_option linter.unusedVariables false
open Go.ChangeShapes Go.WideShapes Go.ChangeAt Go.RowKit Go.Deep Go.Joins

theorem bulk_mem {H : Type} {d : DataW H} {l : List (DataW H)} (h : d ∈ l) : Rows.uptoBulk d ≤ Rows.uptoBulkAll l := by
  induction l with
  | nil => cases h
  | cons x r ih =>
    simp only [Rows.uptoBulkAll]
    cases List.mem_cons.1 h with
    | inl e => subst e; omega
    | inr e => have := ih e; omega
section
variable {H : Type} {enc : TypeId × Value → H} {w : World} {base : Nat} {spare : Nat → Bool} {held : Bool}
/-- A field of a struct weighs at most the struct. -/
theorem bulk_field {P : Program} {fuel : Nat} {t e : TypeId} {fs : Array Field} {cs : List Value} {x : DataW H × List MemPlace} (ht : P.underlying t = some (.struct fs)) (h : DataW.trod enc P w base spare held fuel t cs = some x) (i : Nat) (nm : Field) (off c : Nat) (hi : fs[i]? = some nm) (he : nm.type = e) (ho : nm.offset = off) (hc : P.cellsOf e = c) :
    ∃ n y, DataW.trod enc P w base spare held n e ((cs.drop off).take c) = some y ∧ Rows.uptoBulk y.1 ≤ Rows.uptoBulk x.1 := by
  obtain ⟨xs, m, rfl, rfl, hl, hlen, hx⟩ := DataW.trod_struct ht h
  have := hx i nm hi
  rw [he, ho, hc] at this
  have hlt : i < xs.length := by
    rw [hlen]; exact (Array.getElem?_eq_some_iff.1 hi).1
  rw [List.getElem?_eq_getElem hlt] at this
  refine ⟨m, _, this, ?_⟩
  have h1 := bulk_mem (H := H) (List.mem_map_of_mem (f := fun y : DataW H × List MemPlace => y.1) (List.getElem_mem hlt))
  simp only [Rows.uptoBulk]
  omega
/-- A string weighs its letters. -/
theorem bulk_str {P : Program} {fuel : Nat} {t : TypeId} {s : ByteArray} {x : DataW H × List MemPlace} (ht : P.underlying t = some .string) (h : DataW.trod enc P w base spare held fuel t [.string s] = some x) : s.size ≤ Rows.uptoBulk x.1 := by
  obtain ⟨s', e, rfl, _⟩ := DataW.trod_string ht h
  injection e with e1
  injection e1 with e2
  subst e2
  simp only [Rows.uptoBulk, Array.length_toList]
  exact Nat.le_succ _
theorem bulk_op {fuel : Nat} {o : OpR} {x : DataW H × List MemPlace} (h : DataW.trod enc Tryz.prog w base spare held fuel 60 (opC o) = some x) :
    o.N.size ≤ Rows.uptoBulk x.1 ∧ o.S.size ≤ Rows.uptoBulk x.1 ∧ o.B.size ≤ Rows.uptoBulk x.1 := by
  obtain ⟨n2, y2, h2, b2⟩ := bulk_field Tryz.underlying60 h 2 _ 4 36 rfl rfl rfl size_post
  obtain ⟨n3, y3, h3, b3⟩ := bulk_field Tryz.underlying25 h2 1 _ 32 1 rfl rfl rfl size_str
  obtain ⟨n4, y4, h4, b4⟩ := bulk_field Tryz.underlying25 h2 2 _ 33 1 rfl rfl rfl size_str
  obtain ⟨n5, y5, h5, b5⟩ := bulk_field Tryz.underlying25 h2 3 _ 34 1 rfl rfl rfl size_str
  have k3 := bulk_str (s := o.N) Tryz.underlying9 h3
  have k4 := bulk_str (s := o.S) Tryz.underlying9 h4
  have k5 := bulk_str (s := o.B) Tryz.underlying9 h5
  omega
set_option maxRecDepth 100000 in
theorem bulk_ops {v : Value} {y : DataW H} {p : List MemPlace} {A : Option Addr} {l : List OpR} {c : Nat} (hv : v = .slice A l.length c) (hr : Row w A (l.flatMap opC)) (h : DataW.Trod enc Tryz.prog w 0 (fun _ => true) true 42 v y p) (m : Nat) (hk : Rows.uptoBulk y ≤ m) :
    ∀ o ∈ l, o.N.size ≤ m ∧ o.S.size ≤ m ∧ o.B.size ≤ m := by
  obtain ⟨fuel, hf⟩ := h
  subst hv
  rcases open_slice Tryz.underlying42 hf with ⟨hcs, hx⟩ | ⟨a, len', cap', q, n, D, Pl, hcs, hb, hl, hm, hmm, hx, hi⟩
  · simp [Value.cells] at hcs
    obtain ⟨rfl, hl, rfl⟩ := hcs
    intro o ho
    subst hl
    cases ho
  · simp [Value.cells] at hcs
    obtain ⟨rfl, hl', rfl⟩ := hcs
    have hmc : q = c := by simpa using hmm
    subst hmc
    subst hl'
    intro o ho
    obtain ⟨j, hj, rfl⟩ := List.getElem_of_mem ho
    obtain ⟨cs', hc, ht'⟩ := hi j (by omega)
    rw [size_op] at hc
    obtain ⟨_, hcl, hat⟩ := World.cells?_some hc
    have he : cs' = opC l[j] := by
      have hll : (l.flatMap opC).length = l.length * 41 := flat_len opC 41 opC_len l
      rcases hr with h0 | ⟨b, off, e1, _, hc2⟩
      · rw [h0] at hll; simp at hll; omega
      · injection e1 with e1
        subst e1
        refine List.ext_getElem? fun i => ?_
        by_cases hi2 : i < 41
        · have q1 := hat i hi2
          rw [Go.Deep.add_add] at q1
          have hlt : i < (opC l[j]).length := by rw [opC_len]; exact hi2
          have q2 := hc2 (j * 41 + i) _ (by rw [flat_at opC 41 opC_len l j hj i hi2]; exact List.getElem?_eq_getElem hlt)
          have hadd : ∀ z, (⟨b, off, none⟩ : Addr).add z = ⟨b, off + z, none⟩ := fun z => by
            unfold Addr.add
            split
            · rename_i h; subst h; rfl
            · rfl
          rw [← q1, List.getElem?_eq_getElem hlt, ← q2, hadd]
        · rw [List.getElem?_eq_none (by omega), List.getElem?_eq_none (by rw [opC_len]; omega)]
    subst he
    obtain ⟨k1, k2, k3⟩ := bulk_op ht'
    injection hx with hx1 hx2
    subst hx1
    have h1 := bulk_mem (H := H) (List.mem_map_of_mem (f := D) (List.mem_range.2 hj))
    simp only [Rows.uptoBulk] at hk
    simp only at k1 k2 k3
    omega
end
end Go.Proofs.YtghjgbkhhoaebaaGreatDoor
namespace Go.Proofs.YtghjgbkhhoaebaaGreatDoor
set_option linter.unusedSimpArgs false
set_option linter.unusedVariables false
open Go.RowKit

/-- The gateway, the lines that were heard, the lines that came back. -/
structure TrS (n : Nat) (A : Nat → Prop) (w : World) (b : Nat) (ls : List Ln) (last : Int) (made read : List (List Int)) (vh vg : Value) (H G : List Ln) : Prop where
  g : GwX n A w b kR kG kN ls last made read
  h : w.ownsRow n 39 3 vh H.length (lnsV H)
  o : w.ownsRow n 39 3 vg G.length (lnsV G)
  ha : ∀ k, vh.ownBlock = some k → ¬ A k
  ga : ∀ k, vg.ownBlock = some k → ¬ A k
  hg : ∀ k, vh.ownBlock = some k → vg.ownBlock ≠ some k
section
variable {n : Nat} {A : Nat → Prop} {w w' : World} {b : Nat} {ls : List Ln} {last : Int} {made read : List (List Int)} {vh vg : Value} {H G : List Ln}
theorem TrS.below (h : TrS n A w b ls last made read vh vg H G) (hb : Below w.heap.size w w') : TrS n A w' b ls last made read vh vg H G :=
  ⟨h.g.below hb, own_below h.h hb, own_below h.o hb, h.ha, h.ga, h.hg⟩
/-- The gateway has moved. -/
theorem TrS.move {ls' : List Ln} {last' : Int} {made' read' : List (List Int)} (h : TrS n A w b ls last made read vh vg H G) (hg : GwX n (Ext A w w') w' b kR kG kN ls' last' made' read') (hf : Fr n A w w') : TrS n (Ext A w w') w' b ls' last' made' read' vh vg H G := by
  have k1 : ∀ k, vh.ownBlock = some k → w'.heap[k]? = w.heap[k]? := fun k e => hf.oth k (h.h.lt k e).2 (h.ha k e)
  have k2 : ∀ k, vg.ownBlock = some k → w'.heap[k]? = w.heap[k]? := fun k e => hf.oth k (h.o.lt k e).2 (h.ga k e)
  refine ⟨hg, own_oth h.h k1, own_oth h.o k2, fun k e x => ?_, fun k e x => ?_, h.hg⟩
  · have := (h.h.lt k e).2
    rcases x with x | x
    · exact h.ha k e x
    · omega
  · have := (h.o.lt k e).2
    rcases x with x | x
    · exact h.ga k e x
    · omega
theorem TrS.moveA {ls' : List Ln} {last' : Int} {made' read' : List (List Int)} (h : TrS n A w b ls last made read vh vg H G) (hg : GwX n A w' b kR kG kN ls' last' made' read') (hf : Fr n A w w') : TrS n A w' b ls' last' made' read' vh vg H G :=
  ⟨hg, own_oth h.h fun k e => hf.oth k (h.h.lt k e).2 (h.ha k e), own_oth h.o fun k e => hf.oth k (h.o.lt k e).2 (h.ga k e), h.ha, h.ga, h.hg⟩
theorem fr_grown {row : Option Nat} (hn : n ≤ w.heap.size) (hg : w.grownBy w' row) (hr : ∀ k, row = some k → n ≤ k) : Fr n (fun k => row = some k) w w' :=
  ⟨(Below.refl n w).grown hg hn hr, fun k hk hs => hg.block k hk (fun e => hs e.symm)⟩
/-- One row has grown. -/
theorem TrS.pushH {vh' : Value} {H' : List Ln} (h : TrS n A w b ls last made read vh vg H G) (hn : n ≤ w.heap.size) (ho : w'.ownsRow n 39 3 vh' H'.length (lnsV H')) (hg : w.grownBy w' vh.ownBlock)
    (hat : ∀ k, vh'.ownBlock = some k → vh.ownBlock = some k ∨ w.heap.size ≤ k) : TrS n A w' b ls last made read vh' vg H' G := by
  have hf := fr_grown hn hg (fun k e => (h.h.lt k e).1)
  refine ⟨h.g.keep hf (fun k ha e => h.ha k e ha), ho, own_oth h.o fun k e => hf.oth k (h.o.lt k e).2 (fun e2 => h.hg k e2 e), fun k e x => ?_, h.ga, fun k e x => ?_⟩
  · rcases hat k e with e | e
    · exact h.ha k e x
    · have := h.g.lt.2 k x; omega
  · rcases hat k e with e | e
    · exact h.hg k e x
    · have := (h.o.lt k x).2; omega
theorem TrS.pushG {vg' : Value} {G' : List Ln} (h : TrS n A w b ls last made read vh vg H G) (hn : n ≤ w.heap.size) (ho : w'.ownsRow n 39 3 vg' G'.length (lnsV G')) (hg : w.grownBy w' vg.ownBlock)
    (hat : ∀ k, vg'.ownBlock = some k → vg.ownBlock = some k ∨ w.heap.size ≤ k) : TrS n A w' b ls last made read vh vg' H G' := by
  have hf := fr_grown hn hg (fun k e => (h.o.lt k e).1)
  refine ⟨h.g.keep hf (fun k ha e => h.ga k e ha), own_oth h.h fun k e => hf.oth k (h.h.lt k e).2 (fun e2 => h.hg k e e2), ho, h.ha, fun k e x => ?_, fun k e x => ?_⟩
  · rcases hat k e with e | e
    · exact h.ga k e x
    · have := h.g.lt.2 k x; omega
  · rcases hat k x with e2 | e2
    · exact h.hg k e e2
    · have := (h.h.lt k e).2; omega
end
/-- What stays of a box beside all this. -/
theorem TrS.off {n : Nat} {A : Nat → Prop} {w w' : World} {p : Nat} (hf : Fr n A w w') (hp : p < w.heap.size) (ha : ¬ A p) : w'.heap[p]? = w.heap[p]? := hf.oth p hp ha
/-- An operation's cells, where it lies. -/
theorem op_at {w : World} {A : Option Addr} {l : List OpR} (hr : Row w A (l.flatMap opC)) {k : Nat} (hk : k < l.length) : ∃ bb off, A = some ⟨bb, off, none⟩ ∧ bb < w.heap.size ∧ ∀ wx, wx.heap[bb]? = w.heap[bb]? →
    wx.cell? ⟨bb, off + k * 41, none⟩ = some (.int .u8 l[k].k) ∧ wx.cell? ⟨bb, off + k * 41 + 1, none⟩ = some (.int .i64 l[k].m) ∧ wx.cell? ⟨bb, off + k * 41 + 2, none⟩ = some (.string l[k].n) ∧ wx.cell? ⟨bb, off + k * 41 + 3, none⟩ = some (.string l[k].t) ∧ wx.cell? ⟨bb, off + k * 41 + 40, none⟩ = some (.int .u8 l[k].r) ∧
    (Instr.loadAt 25 (.pointer (some ⟨bb, off + k * 41 + 4, none⟩))).run Tryz.prog wx = .ok (postV l[k].f l[k].N l[k].S l[k].B l[k].d) wx := by
  have hl : (l.flatMap opC).length = l.length * 41 := flat_len opC 41 opC_len l
  rcases hr with h | ⟨b, off, e1, hb, hc⟩
  · rw [h] at hl; simp at hl; omega
  · refine ⟨b, off, e1, hb, fun wx hx => ?_⟩
    have hat : ∀ j v, j < 41 → (opC l[k])[j]? = some v → wx.cell? ⟨b, off + k * 41 + j, none⟩ = some v := fun j v hj hv => by
      rw [World.cell?_of_block hx]
      have := hc (k * 41 + j) v (by rw [flat_at opC 41 opC_len l k hk j hj]; exact hv)
      rw [Nat.add_assoc]; exact this
    refine ⟨hat 0 _ (by omega) rfl, hat 1 _ (by omega) rfl, hat 2 _ (by omega) rfl, hat 3 _ (by omega) rfl, hat 40 _ (by omega) rfl, ?_⟩
    refine range_load (cs := (postC l[k].f l[k].N l[k].S l[k].B l[k].d).toList) (fun j v hv => ?_) Tryz.underlying25 rfl size_Post
    have hj : j < 36 := (List.getElem?_eq_some_iff.1 hv).1
    rw [Nat.add_assoc (off + k * 41)]
    refine hat (4 + j) v (by omega) ?_
    have hs : ∀ j < 36, (postC l[k].f l[k].N l[k].S l[k].B l[k].d).toList[j]? = (opC l[k])[4 + j]? := by
      intro j hj
      iterate 36 (rcases j with _ | j; · rfl)
      omega
    rw [← hs j hj]; exact hv
end Go.Proofs.YtghjgbkhhoaebaaGreatDoor
