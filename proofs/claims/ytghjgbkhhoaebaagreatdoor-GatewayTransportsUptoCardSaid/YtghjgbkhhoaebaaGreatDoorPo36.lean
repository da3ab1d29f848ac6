/- Lemmas and walks, part 36. -/
import Derived.Test.YtghjgbkhhoaebaaGreatDoorPo32
import Derived.Tactics
import Derived.Test.YtghjgbkhhoaebaaGreatDoorPo16
namespace Go.Proofs.YtghjgbkhhoaebaaGreatDoor
set_option linter.unusedSimpArgs false
set_option linter.unusedVariables false
open Go.RowKit

/-- Whatever changes from block n on: the world is well shaped, the tables lie. -/
structure Base (n : Nat) (w : World) : Prop where
  sh : ∀ wx, Below n w wx → wx.ShapedOpen Tryz.prog
  tb : ∀ wx, Below n w wx → TabB wx
  tn : ∀ wx, Below n w wx → TabN wx
theorem Base.of {w : World} (hsh : w.ShapedOpen Tryz.prog) (hb : TabB w) (hn : TabN w) : Base w.heap.size w := ⟨fun _ h => shaped_below hsh h, fun _ h => hb.below h, fun _ h => hn.below h⟩
theorem Base.step {n : Nat} {w w' : World} (h : Base n w) (hb : Below n w w') : Base n w' := ⟨fun _ k => h.sh _ (hb.trans k), fun _ k => h.tb _ (hb.trans k), fun _ k => h.tn _ (hb.trans k)⟩
theorem Base.mono {n m : Nat} {w : World} (h : Base n w) (hm : n ≤ m) : Base m w := ⟨fun _ k => h.sh _ (k.mono hm), fun _ k => h.tb _ (k.mono hm), fun _ k => h.tn _ (k.mono hm)⟩
theorem Base.shaped {n : Nat} {w : World} (h : Base n w) : w.ShapedOpen Tryz.prog := h.sh w (Below.refl _ _)
theorem Base.tabB {n : Nat} {w : World} (h : Base n w) : TabB w := h.tb w (Below.refl _ _)
theorem Base.tabN {n : Nat} {w : World} (h : Base n w) : TabN w := h.tn w (Below.refl _ _)

theorem own_blk {w : World} {base : Nat} {e : TypeId} {size n : Nat} {v : Value} {xs : List Value} (h : w.ownsRow base e size v n xs) {k : Nat} (hk : v.ownBlock = some k) : ∃ cs t fr, w.heap[k]? = some (.cells cs t fr) := by
  rcases h.2 with h2 | ⟨g, cap, cur, rfl, hg', hh, r⟩
  · first
      | (obtain ⟨rfl, _⟩ := h2; cases hk)
      | (obtain ⟨_, rfl, _⟩ := h2; cases hk)
      | (rw [h2.1] at hk; cases hk)
  · simp [Value.ownBlock] at hk
    subst hk
    exact ⟨_, _, _, hh⟩
theorem IdMap.ne_cells {w : World} {m k : Nat} {ps : List (List Int)} (h : IdMap w m ps) {cs : Array Value} {t : TypeId} {fr : Nat × Nat} (hk : w.heap[k]? = some (.cells cs t fr)) : k ≠ m := fun e => by
  obtain ⟨es, ck, h2, _⟩ := h
  rw [e, h2] at hk; cases hk
/-- The second map has got one more. -/
theorem GwS.put2 {n : Nat} {A : Nat → Prop} {w w' : World} {b : Nat} {R G N : ByteArray} {ls : List Ln} {last : Int} {made read read' : List (List Int)} {v : Value} {m1 m2 : Nat} (h : GwS n A w b R G N ls last made read v m1 m2)
    (hm : IdMap w' m2 read') (hg : w.grownBy w' (some m2)) (hz : w'.heap.size = w.heap.size) : GwS n A w' b R G N ls last made read' v m1 m2 := by
  have hk : ∀ k, A k → k ≠ m2 → w'.heap[k]? = w.heap[k]? := fun k ha hne => hg.block k (h.hi k ha) (fun e => hne (by injection e))
  refine ⟨⟨(hk b h.inb (h.mr.ne_cells h.at_.box)).trans h.at_.box, own_oth h.at_.own fun k e => ?_⟩, map_oth h.mm (hk _ h.in1 h.ne), hm, h.ne, h.inb, h.in1, h.in2, h.inv, h.lo, fun k ha => by rw [hz]; exact h.hi k ha⟩
  obtain ⟨cs, t, fr, hc⟩ := own_blk h.at_.own e
  exact hk k (h.inv k e) (h.mr.ne_cells hc)
/-- The first map has got one more. -/
theorem GwS.put1 {n : Nat} {A : Nat → Prop} {w w' : World} {b : Nat} {R G N : ByteArray} {ls : List Ln} {last : Int} {made made' read : List (List Int)} {v : Value} {m1 m2 : Nat} (h : GwS n A w b R G N ls last made read v m1 m2)
    (hm : IdMap w' m1 made') (hg : w.grownBy w' (some m1)) (hz : w'.heap.size = w.heap.size) : GwS n A w' b R G N ls last made' read v m1 m2 := by
  have hk : ∀ k, A k → k ≠ m1 → w'.heap[k]? = w.heap[k]? := fun k ha hne => hg.block k (h.hi k ha) (fun e => hne (by injection e))
  refine ⟨⟨(hk b h.inb (h.mm.ne_cells h.at_.box)).trans h.at_.box, own_oth h.at_.own fun k e => ?_⟩, hm, map_oth h.mr (hk _ h.in2 (Ne.symm h.ne)), h.ne, h.inb, h.in1, h.in2, h.inv, h.lo, fun k ha => by rw [hz]; exact h.hi k ha⟩
  obtain ⟨cs, t, fr, hc⟩ := own_blk h.at_.own e
  exact hk k (h.inv k e) (h.mm.ne_cells hc)
theorem GwS.fr {n : Nat} {A : Nat → Prop} {w w' : World} {b : Nat} {R G N : ByteArray} {ls : List Ln} {last : Int} {made read : List (List Int)} {v : Value} {m1 m2 : Nat} (h : GwS n A w b R G N ls last made read v m1 m2) (k : Nat) (hk : A k) (hn : n ≤ w.heap.size) (hg : w.grownBy w' (some k)) : Fr n A w w' :=
  (Fr.refl n A w).grown hg hn (fun j e => by injection e with e; subst e; exact ⟨h.lo _ hk, .inl hk⟩)
/-- A guarded load that is wanted, by its own law. -/
theorem wpList_loadAtG {P : Program} {w : World} {ops : Array Oper} {rest : List Oper} {o : Oper} {a : Act} {Q : Exit → Act → World → Prop} (hgd : Region.wanted o (yielded ops a.tmps) = true) (t : TypeId) (x : Operand) (ho : o.op = .load t x) {p v : Value} (hx : a.eval x = p) (hl : (Instr.loadAt t p).run P w = .ok v w)
    (h : wpList P ops Q rest (a.put o.dst v) w) : wpList P ops Q (o :: rest) a w := by
  refine wpList_step fun K hK => ?_
  rw [if_pos hgd]
  unfold Oper.wp execOp
  simp only [ho, hx, hl, Sem.run_bind, Result.andThen_ok, Sem.run_pure]
  exact hK _ _ h
end Go.Proofs.YtghjgbkhhoaebaaGreatDoor
