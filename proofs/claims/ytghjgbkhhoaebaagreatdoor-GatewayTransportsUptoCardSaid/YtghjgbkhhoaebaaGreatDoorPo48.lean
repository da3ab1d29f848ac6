/- Lemmas and walks, part 48. -/
import Derived.Test.YtghjgbkhhoaebaaGreatDoorPo46
import Derived.BigRegion
namespace Go.Proofs.YtghjgbkhhoaebaaGreatDoor
set_option linter.unusedSimpArgs false
set_option linter.unusedVariables false
open Go.RowKit

set_option maxHeartbeats 8000000 in
set_option maxRecDepth 100000 in
theorem gw_posted {n : Nat} {A : Nat → Prop} {w : World} {b : Nat} {R G N : ByteArray} {ls : List Ln} {last : Int} {made read : List (List Int)} (h : GwX n A w b R G N ls last made read) (hn : n ≤ w.heap.size) (f : Nat → Int) :
    Calls Tryz.prog 21 #[.pointer (some ⟨b, 0, none⟩), idA f] w fun e w' => e = .returned (.int .i64 (poE (idN f) made)) ∧ GwX n A w' b R G N ls last (poM (idN f) made) read ∧ Fr n A w w' := by
  obtain ⟨v, m1, m2, h⟩ := h
  have HG := Lib.hid h
  have HN := Lib.hid hn
  have hbw := heap_lt h.at_.box
  clear h hn
  go_enter Tryz.func21, Tryz.ntmps21
  go_upto_region 3 with fail
  have HBX := Lib.hid (show (w.alloc (.cells (idK f) 23)).heap[w.heap.size]? = some (.cells (idK f) 23 (0, 0)) from heap_alloc_new _ _)
  have HB0 := Lib.hid (show Below w.heap.size w (w.alloc (.cells (idK f) 23)) from alloc_bel _ _)
  have HG0 := Lib.hid (HG.out.below HB0.out)
  have HZ0 := Lib.hid (show (w.alloc (.cells (idK f) 23)).heap.size = w.heap.size + 1 from by simp)
  generalize w.alloc (.cells (idK f) 23) = W0 at *
  have g5 : W0.cell? ⟨b, 5, none⟩ = some (.map (some m1)) := by rw [Lib.cell_of_heap HG0.out.at_.box]; rfl
  have HLD := Lib.hid (show ∀ wx, (∃ k, wx = W0.drewN k) → (Instr.loadAt 23 (.pointer (some ⟨w.heap.size, 0, none⟩))).run Tryz.prog wx = .ok (idA f) wx from fun wx ⟨k, e⟩ => by subst e; exact id_loads (W := W0.drewN k) (p := idN f) (idK_range (W := W0.drewN k) HBX.out) rfl)
  have hmn := fun wx => map_nil 69 wx m1 map_ids
  by_cases hr : idN f ∈ made
  · have HE := Lib.hid (show poE (idN f) made = 7 ∧ poM (idN f) made = made from ⟨by unfold poE; rw [if_pos hr], by unfold poM; rw [if_pos hr]⟩)
    have hlk : ∀ k, (Instr.lookup 69 (.map (some m1)) (idA f) false).run Tryz.prog (W0.drewN k) = .ok (.bool true) (W0.drewN k) := fun k => by
      have h := look_id (w := W0.drewN k) (b := m1) (ps := made) HG0.out.mm f
      rw [decide_eq_true hr] at h; exact h
    refine wp_region_quiet_lit (by kernel_rfl) (by kernel_rfl) ?_
    repeat (first | (refine wpQuiet_load rfl 23 _ rfl rfl HLD.out ?_; simp only [Act.put, List.setIfInBounds_toArray, List.set_cons_zero, List.set_cons_succ]) | (go_big_quiet_step (fail)))
    refine wpQuiet_nil ?_
    intro _ hw'
    obtain ⟨nq, hw''⟩ := hw'
    subst hw''
    go_wp2_with fail
    have HB1 := Lib.hid (below_drewN HB0.out nq)
    go_ret
    rw [HE.out.1, HE.out.2]
    exact ⟨rfl, ⟨v, m1, m2, HG.out.below HB1.out⟩, Fr.of HB1.out HN.out⟩
  · have HE := Lib.hid (show poE (idN f) made = 0 ∧ poM (idN f) made = made ++ [idN f] from ⟨by unfold poE; rw [if_neg hr], by unfold poM; rw [if_neg hr]⟩)
    have hlk : ∀ k, (Instr.lookup 69 (.map (some m1)) (idA f) false).run Tryz.prog (W0.drewN k) = .ok (.bool false) (W0.drewN k) := fun k => by
      have h := look_id (w := W0.drewN k) (b := m1) (ps := made) HG0.out.mm f
      rw [decide_eq_false hr] at h; exact h
    refine wp_region_quiet_lit (by kernel_rfl) (by kernel_rfl) ?_
    repeat (first | (refine wpQuiet_load rfl 23 _ rfl rfl HLD.out ?_; simp only [Act.put, List.setIfInBounds_toArray, List.set_cons_zero, List.set_cons_succ]) | (go_big_quiet_step (fail)))
    refine wpQuiet_nil ?_
    intro _ hw'
    obtain ⟨nq, hw''⟩ := hw'
    subst hw''
    have HB1 := Lib.hid (below_drewN HB0.out nq)
    have HX1 := Lib.hid (show (W0.drewN nq).heap[w.heap.size]? = some (.cells (idK f) 23 (0, 0)) from HBX.out)
    have HZ1 := Lib.hid (show (W0.drewN nq).heap.size = w.heap.size + 1 from HZ0.out)
    clear g5 hlk HLD HBX HB0 HG0 HZ0
    generalize W0.drewN nq = W1 at *
    have HG1 := Lib.hid (HG.out.below HB1.out)
    have g5 : W1.cell? ⟨b, 5, none⟩ = some (.map (some m1)) := by rw [Lib.cell_of_heap HG1.out.at_.box]; rfl
    go_upto_region 7 with fail
    obtain ⟨W9, hup, hm9, hg9, hz9⟩ := put_id (w := W1.drew) (b := m1) (ps := made) HG1.out.mm f hr
    have hra : W1.drew.rangeAt w.heap.size 0 (idKL f) := idK_range (W := W1.drew) HX1.out
    have hty := Tryz.underlying23
    have hsz := size_Id
    have hbm2 : b ≠ m1 := fun e => by
      have h1 := HG1.out.at_.box
      obtain ⟨es, ck, h2, _⟩ := HG1.out.mm
      rw [e, h2] at h1; cases h1
    have hpm2 : w.heap.size ≠ m1 := fun e => by
      have h1 := HX1.out
      obtain ⟨es, ck, h2, _⟩ := HG1.out.mm
      rw [e, h2] at h1; cases h1
    have g9 : W9.cell? ⟨b, 5, none⟩ = some (.map (some m1)) := (hg9.cell_far ⟨b, 5, none⟩ (Nat.lt_of_lt_of_le hbw HB1.out.size) (fun e => hbm2 (by injection e))).trans g5
    have hx9 : W9.heap[w.heap.size]? = some (.cells (idK f) 23 (0, 0)) := (hg9.block w.heap.size (by show w.heap.size < W1.heap.size; rw [HZ1.out]; omega) (fun e => hpm2 (by injection e))).trans HX1.out
    have hra9 := idK_range hx9
    have HS9 := Lib.hid (GwS.put1 (HG1.out.below ((Below.refl W1.heap.size W1).drew)) hm9 hg9 hz9)
    have HF9 := Lib.hid (show Fr n A w W9 from (Fr.of (HB1.out.drew) HN.out).grown hg9 HN.out (fun j e => by injection e with e; subst e; exact ⟨HG1.out.lo _ HG1.out.in1, .inl HG1.out.in1⟩))
    clear hg9 hm9 hx9 hz9
    go_region_held3 (fun w' => w'.cell? ⟨b, 5, none⟩ = some (.map (some m1)) ∧ w'.rangeAt w.heap.size 0 (idKL f))
      (first
        | exact ⟨g5, hra⟩
        | exact ⟨g9, hra9⟩
        | go_keep)
      (fail)
    go_wp2_with fail
    go_ret
    rw [HE.out.1, HE.out.2]
    exact ⟨rfl, ⟨v, m1, m2, HS9.out⟩, HF9.out⟩
/-- Hear, on the state. -/
theorem gw_hearX {n : Nat} {A : Nat → Prop} {w : World} {b : Nat} {R G N : ByteArray} {ls : List Ln} {last : Int} {made read : List (List Int)} (h : GwX n A w b R G N ls last made read) (hn : n ≤ w.heap.size) (m : Int) (nk t : ByteArray) (hN : N.size ≤ maxLen) (hnk : nk.size ≤ maxLen) (ht : t.size ≤ 900000) (hl : ls.length ≤ 1000000) :
    Calls Tryz.prog 20 #[.pointer (some ⟨b, 0, none⟩), .agg #[.int .i64 m, .string nk, .string t]] w fun e w' => e = .returned (.int .i64 (hearE m (toL nk) (toL t) last)) ∧ GwX n (Ext A w w') w' b R G N (hearLs ls m (toL nk) (toL t) (toL N) last) (hearT m (toL nk) (toL t) last) made read ∧ Fr n A w w' := by
  obtain ⟨v, m1, m2, h⟩ := h
  refine (gw_hear h.at_ m nk t hN hnk ht hl).mono fun e w' hp => ?_
  obtain ⟨v', ha, hv'⟩ := hp.at_
  have hF : Fr n A w w' := ⟨hp.bel.mono (h.lo b h.inb), fun k hk hs => hp.oth k hk (fun e => hs (e ▸ h.inb)) (fun e => hs (h.inv k e))⟩
  have hmk : ∀ m, A m → m ≠ b → v.ownBlock ≠ some m → w'.heap[m]? = w.heap[m]? := fun m ha hb hv => hp.oth m (h.hi m ha) hb hv
  have hnv : ∀ {m : Nat} {ps : List (List Int)}, IdMap w m ps → v.ownBlock ≠ some m := fun hm e => by
    obtain ⟨cs, t, fr, hc⟩ := own_blk h.at_.own e
    exact hm.ne_cells hc rfl
  refine ⟨hp.ret, ⟨v', m1, m2, ⟨?_, map_oth h.mm (hmk m1 h.in1 (fun e => h.mm.ne_cells h.at_.box e.symm) (hnv h.mm)), map_oth h.mr (hmk m2 h.in2 (fun e => h.mr.ne_cells h.at_.box e.symm) (hnv h.mr)), h.ne, .inl h.inb, .inl h.in1, .inl h.in2, ?_, ?_, ?_⟩⟩, hF⟩
  · exact ha
  · intro k e
    rcases hv' k e with e2 | e2
    · exact .inl (h.inv k e2)
    · exact .inr ⟨e2, (ha.own.lt k e).2⟩
  · intro k hk
    rcases hk with hk | hk
    · exact h.lo k hk
    · omega
  · intro k hk
    rcases hk with hk | hk
    · exact Nat.lt_of_lt_of_le (h.hi k hk) hF.size
    · exact hk.2
end Go.Proofs.YtghjgbkhhoaebaaGreatDoor
