/- The walk over the reference's Links. -/
import Derived.Test.YtgfgjkafkdfjpaaDoorRoute7
namespace Go.Proofs.YtgfgjkafkdfjpaaDoor
set_option linter.unusedSimpArgs false
set_option linter.unusedVariables false
open Go.RowKit

/-- Where the loop stands. -/
structure RLinkAt (l : List Bs) (w wr : World) (v : Value) (i : Nat) (acc : List Pr) : Prop where
  eq : linksR l = linksDown l i acc
  own : wr.ownsRow w.heap.size 49 2 v acc.length (prsV acc)
  bel : Below w.heap.size w wr
  len : acc.length + i ≤ l.length

def knownB (acc : List Pr) (p : Pr) (k : Nat) : Bool := decide (p.1 = p.2) || decide (p ∈ acc.take k)
theorem knownB_step (acc : List Pr) (p : Pr) (k : Nat) (h : k < acc.length) : knownB acc p (k + 1) = (knownB acc p k || decide (acc[k] = p)) := by
  unfold knownB
  rw [List.take_succ_eq_append_getElem h, Bool.eq_iff_iff]
  simp only [Bool.or_eq_true, decide_eq_true_eq, List.mem_append, List.mem_singleton]
  constructor
  · rintro (h | h | h)
    · exact .inl (.inl h)
    · exact .inl (.inr h)
    · exact .inr h.symm
  · rintro ((h | h) | h)
    · exact .inl h
    · exact .inr (.inl h)
    · exact .inr (.inr h.symm)
theorem knownB_end (acc : List Pr) (p : Pr) (k : Nat) (h : acc.length ≤ k) : linkAdd acc p = if knownB acc p k = true then acc else acc ++ [p] := by
  unfold knownB linkAdd
  rw [List.take_of_length_le h]
  simp only [Bool.or_eq_true, decide_eq_true_eq]

set_option maxHeartbeats 8000000 in
set_option maxRecDepth 100000 in
theorem refr_links (A : Option Addr) (l : List Bs) (c : Nat) (w : World) (hr : Row w A (strsL l)) (hl : l.length ≤ 1000) :
    Calls Tryd.prog 27 #[.slice A l.length c] w fun e w' => ∃ v, e = .returned v ∧ PrsOwn w w' v (linksR l) := by
  have HR := Lib.hid hr; clear hr
  by_cases h0 : l.length = 0
  · have HE := Lib.hid (show linksR l = [] by rw [List.eq_nil_of_length_eq_zero h0]; rfl)
    rw [h0]
    go_enter Tryd.func27, Tryd.ntmps27
    go_wp2_with fail
    go_loopg [3, 4] 0 (fun g v ix wr => v = .slice none 0 0 ∧ ix = .int .i64 (-1) ∧ Below w.heap.size w wr)
    case atStart => exact ⟨rfl, rfl, Below.refl _ _⟩
    case round =>
      obtain ⟨rfl, rfl, hB⟩ := hrel
      go_wp2_with fail
      go_ret
      exact ⟨_, rfl, by rw [HE.out]; exact ⟨World.ownsRow_nil _ _ _ _, hB⟩⟩
  · have hpos : 0 < l.length := by omega
    clear h0
    go_enter Tryd.func27, Tryd.ntmps27
    go_wp2_with fail
    go_loopg [3, 4] (l.length - 1) (fun g v ix wr => ∃ (acc : List Pr), g < l.length ∧ ix = .int .i64 g ∧ RLinkAt l w wr v g acc)
    case atStart =>
      refine ⟨[], by omega, by go_num, ⟨rfl, World.ownsRow_nil _ _ _ _, Below.refl _ _, by simp <;> omega⟩⟩
    case round =>
      obtain ⟨acc, hi, rfl, hat⟩ := hrel
      by_cases hi0 : 0 < gk
      · have t1 : decide ((0 : Int) < (gk : Int)) = true := by simp; omega
        obtain ⟨x, hx⟩ : ∃ x, ofL l[gk] = x := ⟨_, rfl⟩
        obtain ⟨y, hy⟩ : ∃ y, ofL (l[gk - 1]'(by omega)) = y := ⟨_, rfl⟩
        have hxL : l[gk] = toL x := by rw [← hx, toL_ofL]
        have hyL : l[gk - 1]'(by omega) = toL y := by rw [← hy, toL_ofL]
        obtain ⟨b1, o1, e1, hc1⟩ := (HR.out.below hat.bel).str hi hx
        obtain ⟨b2, o2, e2, hc2⟩ := (HR.out.below hat.bel).str (k := gk - 1) (by omega) hy
        have HEQ := Lib.hid (show linksR l = linksDown l (gk - 1) (linkAdd acc (toL x, toL y)) by
          rw [hat.eq, linksDown_pos l gk acc hi0, getD_at l gk hi, getD_at l (gk - 1) (by omega), hxL, hyL])
        rw [e1] at e2
        injection e2 with e2; injection e2 with e2 e3
        subst e1 e2 e3
        clear hx hy hxL hyL
        have s1 : IntKind.i64.wrap ((gk : Int) - 1) = (gk : Int) - 1 := IntWalk.i64_in _ (by omega)
        have s2 : ((gk : Int) - 1).toNat = gk - 1 := by omega
        have s3 : (0 : Int) ≤ (gk : Int) - 1 := by omega
        have s4 : (gk : Int) - 1 < (l.length : Int) := by omega
        have s5 : (gk : Int) < (l.length : Int) := by omega
        have s6 : (0 : Int) ≤ (gk : Int) := by omega
        have s7 : (1 : Int) ≤ (gk : Int) := by omega
        have hblt : b1 < wr.heap.size := World.block_lt_of_cell? wr _ hc1
        go_wp2_with fail
        go_region
        have hbW : Below wr.heap.size wr ((wr.alloc (.cells #[.string x, .string y] 49)).drew) := ((Below.refl _ _).alloc (Nat.le_refl _) _).drew
        have hkW : ((wr.alloc (.cells #[.string x, .string y] 49)).drew).heap[wr.heap.size]? = some (.cells #[.string x, .string y] 49 (0, 0)) := heap_alloc_new wr _
        obtain ⟨W, hW⟩ : ∃ W, W = ((wr.alloc (.cells #[.string x, .string y] 49)).drew) := ⟨_, rfl⟩
        rw [← hW] at hbW hkW ⊢
        have hownW := own_below hat.own hbW
        have hbelW := hat.bel.trans (hbW.mono hat.bel.size)
        have hlenA := hat.len
        have HK := Lib.hid hkW
        have HOW := Lib.hid hownW
        have d0 : W.cell? ⟨wr.heap.size, 0, none⟩ = some (.string x) := by rw [Lib.cell_of_heap hkW]; rfl
        have d1 : W.cell? ⟨wr.heap.size, 1, none⟩ = some (.string y) := by rw [Lib.cell_of_heap hkW]; rfl
        obtain ⟨A1, c1, rfl, hrow1⟩ := own_row hownW
        have HROW := Lib.hid hrow1
        obtain ⟨eq0, heq0⟩ : ∃ b : Bool, b = (x.toList == y.toList) := ⟨_, rfl⟩
        have hk0 : eq0 = knownB acc (toL x, toL y) 0 := by rw [heq0, beq_toList]; simp [knownB]
        have HK0 := Lib.hid hk0
        have h00 : (x.toList == y.toList) = eq0 := heq0.symm
        clear hW hkW s1 s2 s3 s4 s5 s6 s7 hc1 hc2 hbW hat hownW hrow1 hk0 heq0
        go_wp2_with fail
        obtain ⟨wo, rfl⟩ : ∃ wo : World, wo = wr := ⟨_, rfl⟩
        obtain ⟨n0, rfl⟩ : ∃ n0 : Nat, n0 = gk := ⟨_, rfl⟩
        clear d0 d1
        go_loopg [6, 7] acc.length (fun g kv ix wi => ∃ k : Nat, g = acc.length - k ∧ k ≤ acc.length ∧ ix = .int .i64 k ∧ kv = .bool (knownB acc (toL x, toL y) k) ∧ Below W.heap.size W wi)
        case atStart => exact ⟨0, by omega, by omega, rfl, by rw [HK0.out], Below.refl _ _⟩
        case round =>
          obtain ⟨k, rfl, hk, rfl, rfl, hBi⟩ := hrel
          have hkW2 := (hBi.block _ (heap_lt HK.out)).trans HK.out
          have d0 : wr.cell? ⟨wo.heap.size, 0, none⟩ = some (.string x) := by rw [Lib.cell_of_heap hkW2]; rfl
          have d1 : wr.cell? ⟨wo.heap.size, 1, none⟩ = some (.string y) := by rw [Lib.cell_of_heap hkW2]; rfl
          clear hkW2
          by_cases hlt : k < acc.length
          · have hk1 : (0 : Int) ≤ (k : Int) := by omega
            have hk2 : (k : Int) < (acc.length : Int) := by omega
            obtain ⟨a, ha⟩ : ∃ a, ofL acc[k].1 = a := ⟨_, rfl⟩
            obtain ⟨b, hb⟩ : ∃ b, ofL acc[k].2 = b := ⟨_, rfl⟩
            have hab : acc[k] = (toL a, toL b) := Prod.ext (by rw [← ha, toL_ofL]) (by rw [← hb, toL_ofL])
            obtain ⟨bb, off, hA1, hc1, hc2⟩ := (HROW.out.below hBi).pair hlt ha hb
            subst hA1
            have HST := Lib.hid (knownB_step acc (toL x, toL y) k hlt)
            rw [hab] at HST
            have h2 : ∀ wx, (Op.equalIn 10000 49 (.agg #[.string a, .string b]) (.agg #[.string x, .string y])).run Tryd.prog wx = .ok ((a.toList == x.toList) && (b.toList == y.toList)) wx := fun wx => two_eq two_str wx 9998 a b x y
            have HE2 := Lib.hid (show ((a.toList == x.toList) && (b.toList == y.toList)) = decide ((toL a, toL b) = (toL x, toL y)) by
              rw [beq_toList, beq_toList, Bool.eq_iff_iff]; simp [Prod.ext_iff])
            generalize ((a.toList == x.toList) && (b.toList == y.toList)) = eqq at *
            clear ha hb hab
            rcases hK : knownB acc (toL x, toL y) k with _ | _
            · rcases eqq with _ | _
              all_goals
                have HNX := Lib.hid (show knownB acc (toL x, toL y) (k + 1) = _ by rw [HST.out, hK, ← HE2.out])
                go_wp2_with fail
                go_quiet (fail)
                go_wp2_with fail
                go_roundg (acc.length - (k + 1))
                case measure => omega
                case rel => exact ⟨k + 1, rfl, by omega, by go_num, by rw [HNX.out]; rfl, below_drewN hBi _⟩
            · have HNX := Lib.hid (show knownB acc (toL x, toL y) (k + 1) = true by rw [HST.out, hK]; rfl)
              go_wp2_with fail
              go_quiet (fail)
              go_wp2_with fail
              go_roundg (acc.length - (k + 1))
              case measure => omega
              case rel => exact ⟨k + 1, rfl, by omega, by go_num, by rw [HNX.out], below_drewN hBi _⟩
          · have HEN := Lib.hid (HEQ.out.trans (by rw [knownB_end acc (toL x, toL y) k (by omega)]))
            have hbel2 := hbelW.trans (hBi.mono hbelW.size)
            have hown2 := own_below HOW.out hBi
            have hsz2 := hbel2.size
            have hacc : acc.length ≤ 1000 := by omega
            rcases hK : knownB acc (toL x, toL y) k with _ | _
            · rw [hK, if_neg (by simp)] at HEN
              go_wp2_with ((at_builtin; refine wpList_push el_pair rfl _ _ rfl hown2 #[.string x, .string y] rfl rfl rfl (by simp [Value.oneCell']) (by omega) (by unfold maxLen; omega) hsz2 ?_; intro g cap w3 hown3 hg3 hat3))
              have hF : RLinkAt l w w3 (.slice (some ⟨g, 0, none⟩) (acc.length + 1) cap) (n0 - 1) (acc ++ [(toL x, toL y)]) := by
                refine ⟨HEN.out, ?_, hbel2.grown hg3 hbel2.size (fun k hk => (hown2.lt k hk).1), by simp; omega⟩
                rw [← prsV_snoc]; simpa using hown3
              clear hown3 hg3 hat3 hown2
              go_roundg (n0 - 1)
              case measure => omega
              case rel => exact ⟨acc ++ [(toL x, toL y)], by omega, by go_num, hF⟩
            · rw [hK, if_pos rfl] at HEN
              have hF : RLinkAt l w wr (.slice A1 acc.length c1) (n0 - 1) acc := ⟨HEN.out, hown2, hbel2, by omega⟩
              clear hown2
              go_wp2_with fail
              go_roundg (n0 - 1)
              case measure => omega
              case rel => exact ⟨acc, by omega, by go_num, hF⟩
      · have t1 : decide ((0 : Int) < (gk : Int)) = false := by simp; omega
        have HX := Lib.hid (show linksR l = acc by rw [hat.eq, show gk = 0 from by omega, linksDown])
        go_wp2_with fail
        go_ret
        exact ⟨_, rfl, by rw [HX.out]; exact ⟨hat.own, hat.bel⟩⟩

end Go.Proofs.YtgfgjkafkdfjpaaDoor
