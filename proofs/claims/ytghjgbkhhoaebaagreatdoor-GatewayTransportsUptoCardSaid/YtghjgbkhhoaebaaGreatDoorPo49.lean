/- Lemmas and walks, part 49. -/
import Derived.Test.YtghjgbkhhoaebaaGreatDoorPo47
import Derived.Test.YtghjgbkhhoaebaaGreatDoorPo46
import Derived.Test.YtghjgbkhhoaebaaGreatDoorPo48
import Derived.Test.YtghjgbkhhoaebaaGreatDoorPo30
import Derived.Deep.RegionLaw
namespace Go.Proofs.YtghjgbkhhoaebaaGreatDoor
set_option linter.unusedSimpArgs false
set_option linter.unusedVariables false
open Go.RowKit

abbrev kR : ByteArray := ⟨#[35, 103, 111]⟩
abbrev kG : ByteArray := ⟨#[97, 46, 98]⟩
abbrev kN : ByteArray := ⟨#[114, 101, 108, 97, 121]⟩
/-- A gateway and its model in the same state, in blocks of their own. -/
def Duo (n : Nat) (w : World) (b c : Nat) (ls : List Ln) (last : Int) (made read : List (List Int)) : Prop :=
  ∃ A A', GwX n A w b kR kG kN ls last made read ∧ MdX n A' w c kR kG kN ls last made read ∧ ∀ k, A k → ¬ A' k
/-- What holds of the state after at most k operations. -/
structure OpI (k : Nat) (ls : List Ln) (last : Int) (made read : List (List Int)) : Prop where
  ok : ∀ x ∈ ls, lineE (x.min : Int) x.nick x.text = 0
  lo : 0 ≤ last
  hi : last ≤ 105190559
  nl : ls.length ≤ k * 60
  nm : made.length ≤ k
  nr : read.length ≤ k
theorem MdX.lt {n : Nat} {A : Nat → Prop} {w : World} {b : Nat} {R G N : ByteArray} {ls : List Ln} {last : Int} {made read : List (List Int)} (h : MdX n A w b R G N ls last made read) : (∀ k, A k → n ≤ k) ∧ ∀ k, A k → k < w.heap.size := by
  obtain ⟨_, _, _, h⟩ := h; exact ⟨h.lo, h.hi⟩
theorem GwX.lt {n : Nat} {A : Nat → Prop} {w : World} {b : Nat} {R G N : ByteArray} {ls : List Ln} {last : Int} {made read : List (List Int)} (h : GwX n A w b R G N ls last made read) : (∀ k, A k → n ≤ k) ∧ ∀ k, A k → k < w.heap.size := by
  obtain ⟨_, _, _, h⟩ := h; exact ⟨h.lo, h.hi⟩
theorem Duo.below {n : Nat} {w w' : World} {b c : Nat} {ls : List Ln} {last : Int} {made read : List (List Int)} (h : Duo n w b c ls last made read) (hb : Below w.heap.size w w') : Duo n w' b c ls last made read := by
  obtain ⟨A, A', hg, hm, hd⟩ := h
  exact ⟨A, A', hg.below hb, hm.below hb, hd⟩
/-- The gateway has moved, then the model, to the same state. -/
theorem duo_both {n : Nat} {A A' : Nat → Prop} {w w1 w2 w3 : World} {b c : Nat} {ls ls' : List Ln} {last last' : Int} {made read made' read' : List (List Int)} (hg : GwX n A w b kR kG kN ls last made read) (hm : MdX n A' w c kR kG kN ls last made read) (hd : ∀ k, A k → ¬ A' k)
    (h1 : GwX n (Ext A w w1) w1 b kR kG kN ls' last' made' read') (f1 : Fr n A w w1) (hb : Below w1.heap.size w1 w2) (h2 : MdX n (Ext A' w2 w3) w3 c kR kG kN ls' last' made' read') (f2 : Fr n A' w2 w3) : Duo n w3 b c ls' last' made' read' := by
  have h1' := h1.below hb
  have hlt := h1.lt.2
  have hdd : ∀ k, Ext A w w1 k → ¬ A' k := fun k hk ha => hk.elim (fun h => hd k h ha) (fun h => by have := hm.lt.2 k ha; omega)
  refine ⟨Ext A w w1, Ext A' w2 w3, h1'.keep f2 hdd, h2, fun k hk ha => ?_⟩
  rcases ha with ha | ha
  · exact hdd k hk ha
  · have := hlt k hk; have := hb.size; omega
/-- The model as it stands behind a gateway's move. -/
theorem md_behind {n : Nat} {A A' : Nat → Prop} {w w1 : World} {c : Nat} {R G N : ByteArray} {ls : List Ln} {last : Int} {made read : List (List Int)} (hm : MdX n A' w c R G N ls last made read) (hd : ∀ k, A k → ¬ A' k) (f1 : Fr n A w w1) : MdX n A' w1 c R G N ls last made read := hm.keep f1 (fun k ha h => hd k h ha)
/-- What an operation leaves. -/
def DoPost (n k b c : Nat) (w : World) (e : Ending) (w' : World) : Prop := e = .returned (.bool true) ∧ Below n w w' ∧ ∃ ls last made read, Duo n w' b c ls last made read ∧ OpI (k + 1) ls last made read
theorem takL_le (ls : List Ln) (last now : Int) : (takL ls last now).length ≤ ls.length ∧ ∀ x ∈ takL ls last now, x ∈ ls := by
  unfold takL
  split
  · exact ⟨by rw [List.length_drop]; omega, fun x h => List.mem_of_mem_drop h⟩
  · exact ⟨Nat.le_refl _, fun x h => h⟩
abbrev opV (k m : Int) (nk t : ByteArray) (f : Nat → Int) (Nm S B : ByteArray) (d r : Int) : Value := .agg (opA k m nk t f Nm S B d r)
attribute [local go_sem ↓] wp_load_id wp_load_post
set_option maxHeartbeats 16000000 in
set_option maxRecDepth 100000 in
theorem do_take {n q : Nat} {w : World} {b c : Nat} {ls : List Ln} {last : Int} {made read : List (List Int)} (h : Duo n w b c ls last made read) (hi : OpI q ls last made read) (hq : q ≤ 100) (hn : n ≤ w.heap.size) (hba : Base n w)
    (k m : Int) (nk t : ByteArray) (f : Nat → Int) (Nm S B : ByteArray) (d r : Int) (hm : (Lit.int .i64 m).wf = true) (hk : k.tmod 8 = 5) :
    Calls Tryz.prog 42 #[.pointer (some ⟨b, 0, none⟩), .pointer (some ⟨c, 0, none⟩), opV k m nk t f Nm S B d r] w (DoPost n q b c w) := by
  obtain ⟨A, A', hg, hmd, hd⟩ := h
  have HI := Lib.hid hi
  have HN := Lib.hid hn
  have HBA := Lib.hid hba
  have HD := Lib.hid hd
  have HB := Lib.hid (alloc_bel w (.cells (opA k m nk t f Nm S B d r) 60))
  have HX := Lib.hid (show (w.alloc (.cells (opA k m nk t f Nm S B d r) 60)).heap[w.heap.size]? = some (.cells (opA k m nk t f Nm S B d r) 60 (0, 0)) from heap_alloc_new _ _)
  have HG := Lib.hid (hg.below HB.out)
  have HM := Lib.hid (hmd.below HB.out)
  have hm9 : m < 9223372036854775808 := by simp [Lit.wf] at hm; omega
  have hn1 := hi.nl
  have HAW := Lib.hid (fun g (h : A g) => hg.lt.2 g h)
  clear hi hn hba hd hg hmd
  go_enter Tryz.func42, Tryz.ntmps42
  go_upto_region 3 with fail
  generalize w.alloc (.cells (opA k m nk t f Nm S B d r) 60) = W0 at *
  obtain ⟨_, c1, _, _, _⟩ := op_cells HX.out
  have hz0 := HB.out.size
  have hxz := heap_lt HX.out
  have HA := Lib.hid (fun g (hg : A g) => HAW.out g hg)
  generalize hS : takS (toL kR) ls last m = S1 at *
  generalize hT : takT ls last m = T1 at *
  generalize hO : takB ls last m = O1 at *
  have HTG := Lib.hid (gw_take HG.out (Nat.le_trans HN.out hz0) (HBA.out.step (HB.out.mono HN.out)) m (by decide) (by omega) HI.out.ok HI.out.lo HI.out.hi)
  have HTM := Lib.hid (fun wx (hx : MdX n A' wx c kR kG kN ls last made read) hz => lw_take hx hz m hm9 (by decide) (by omega) HI.out.ok HI.out.lo HI.out.hi)
  rw [hS, hT, hO] at HTG
  simp only [hS, hT, hO] at HTM
  clear hS hT hO
  go_wp2_with (first
    | (go_at_call 22; (with_reducible refine HTG.out.mono ?_); rintro e w2 ⟨rfl, hg2, hf2⟩; have HG2 := Lib.hid hg2; have HF2 := Lib.hid hf2; have HM2 := Lib.hid (md_behind HM.out HD.out hf2); have hz2 := hf2.size; have c1 : w2.cell? ⟨w.heap.size, 1, none⟩ = some (.int .i64 m) := (World.cell?_of_block (hf2.oth w.heap.size hxz (fun ha => absurd (HA.out _ ha) (Nat.lt_irrefl _)))).trans c1; clear hg2 hf2)
    | (go_at_call 86; (with_reducible refine (HTM.out _ HM2.out (Nat.le_trans HN.out (Nat.le_trans hz0 hz2))).mono ?_); rintro e w3 ⟨rfl, hm3, hf3⟩; have HM3 := Lib.hid hm3; have HF3 := Lib.hid hf3; clear hm3 hf3))
  go_ret
  have hT := takL_le ls last m
  exact ⟨rfl, (HB.out.mono HN.out).trans (HF2.out.bel.trans HF3.out.bel), takL ls last m, last, made, read, duo_both HG.out HM.out HD.out HG2.out HF2.out (Below.refl _ _) HM3.out HF3.out, ⟨fun x hx => HI.out.ok x (hT.2 x hx), HI.out.lo, HI.out.hi, by have := HI.out.nl; omega, by have := HI.out.nm; omega, by have := HI.out.nr; omega⟩⟩
theorem poM_le (p : List Int) (made : List (List Int)) : (poM p made).length ≤ made.length + 1 := by
  unfold poM; split
  · omega
  · simp
set_option maxHeartbeats 16000000 in
set_option maxRecDepth 100000 in
theorem do_post {n q : Nat} {w : World} {b c : Nat} {ls : List Ln} {last : Int} {made read : List (List Int)} (h : Duo n w b c ls last made read) (hi : OpI q ls last made read) (hq : q ≤ 100) (hn : n ≤ w.heap.size) (hba : Base n w)
    (k m : Int) (nk t : ByteArray) (f : Nat → Int) (Nm S B : ByteArray) (d r : Int) (hk : k.tmod 8 = 7) :
    Calls Tryz.prog 42 #[.pointer (some ⟨b, 0, none⟩), .pointer (some ⟨c, 0, none⟩), opV k m nk t f Nm S B d r] w (DoPost n q b c w) := by
  obtain ⟨A, A', hg, hmd, hd⟩ := h
  have HI := Lib.hid hi
  have HN := Lib.hid hn
  have HD := Lib.hid hd
  have HB := Lib.hid (alloc_bel w (.cells (opA k m nk t f Nm S B d r) 60))
  have HX := Lib.hid (show (w.alloc (.cells (opA k m nk t f Nm S B d r) 60)).heap[w.heap.size]? = some (.cells (opA k m nk t f Nm S B d r) 60 (0, 0)) from heap_alloc_new _ _)
  have HG := Lib.hid (hg.below HB.out)
  have HM := Lib.hid (hmd.below HB.out)
  have hn1 := hi.nm
  have HA := Lib.hid (fun g (h : A g) => hg.lt.2 g h)
  clear hi hn hba hd hg hmd
  go_enter Tryz.func42, Tryz.ntmps42
  go_upto_region 13 with fail
  generalize w.alloc (.cells (opA k m nk t f Nm S B d r) 60) = W0 at *
  have hz0 := HB.out.size
  have hxz := heap_lt HX.out
  have HGd := Lib.hid (HG.out.below ((Below.refl W0.heap.size W0).drew))
  have HMd := Lib.hid (HM.out.below ((Below.refl W0.heap.size W0).drew))
  have hnd : n ≤ W0.drew.heap.size := Nat.le_trans HN.out hz0
  obtain ⟨o1, e1⟩ := row_of (op_id (W := W0.drew) HX.out)
  have HPO := Lib.hid (gw_posted HGd.out hnd f)
  have HPM := Lib.hid (fun wx (hx : MdX n A' wx c kR kG kN ls last made read) hz => lw_posted hx hz f (by omega))
  generalize hE : poE (idN f) made = E1 at *
  go_region_law (first
    | (go_simp; go_at_call 21; (with_reducible refine HPO.out.mono ?_); rintro e w2 ⟨rfl, hg2, hf2⟩; have HG2 := Lib.hid (hg2.ext hnd); have HF2 := Lib.hid hf2; have HM2 := Lib.hid (md_behind HMd.out HD.out hf2); have hz2 : W0.drew.heap.size ≤ w2.heap.size := hf2.size; obtain ⟨o2, e2⟩ := row_of (op_id (W := w2) ((hf2.oth w.heap.size hxz (fun ha => absurd (HA.out _ ha) (Nat.lt_irrefl _))).trans HX.out)); clear hg2 hf2; dsimp only)
    | (go_simp; go_at_call 88; (with_reducible refine (HPM.out _ HM2.out (Nat.le_trans hnd hz2)).mono ?_); rintro e w3 ⟨rfl, hm3, hf3⟩; have HM3 := Lib.hid hm3; have HF3 := Lib.hid hf3; clear hm3 hf3; dsimp only))
  all_goals
    go_wp2_with fail
    go_ret
    have hT := poM_le (idN f) made
    exact ⟨rfl, ((HB.out.mono HN.out).drew).trans (HF2.out.bel.trans HF3.out.bel), ls, last, poM (idN f) made, read, duo_both HGd.out HMd.out HD.out HG2.out HF2.out (Below.refl _ _) HM3.out HF3.out, ⟨HI.out.ok, HI.out.lo, HI.out.hi, by have := HI.out.nl; omega, by have := HI.out.nm; omega, by have := HI.out.nr; omega⟩⟩
end Go.Proofs.YtghjgbkhhoaebaaGreatDoor

namespace Go.Proofs.YtghjgbkhhoaebaaGreatDoor
set_option linter.unusedSimpArgs false
set_option linter.unusedVariables false
open Go.RowKit

theorem u8_pos {r : Int} (h : (Lit.int .u8 r).wf = true) : 0 ≤ r ∧ r ≤ 255 := by
  simp [Lit.wf, IntKind.min, IntKind.max, IntKind.signed, IntKind.bits] at h
  omega
theorem hear_line {m : Int} {n t : Bs} {last : Int} (h : hearE m n t last = 0) : lineE m n t = 0 := by
  unfold hearE at h
  split at h
  · rename_i h1; exact absurd h h1
  · rename_i h1; simpa using h1
theorem hearLs_ok {ls : List Ln} {m : Int} {n t N : Bs} {last : Int} (h : ∀ x ∈ ls, lineE (x.min : Int) x.nick x.text = 0) : ∀ x ∈ hearLs ls m n t N last, lineE (x.min : Int) x.nick x.text = 0 := by
  unfold hearLs
  split
  · rename_i h0
    have hl := hear_line h0
    unfold hearL
    split
    · exact h
    · intro x hx
      rcases List.mem_append.1 hx with hx | hx
      · exact h x hx
      · rw [List.mem_singleton] at hx
        subst hx
        show lineE ((m.toNat : Nat) : Int) n t = 0
        rw [minB_nat hl]; exact hl
  · exact h
theorem hearLs_len (ls : List Ln) (m : Int) (n t N : Bs) (last : Int) : (hearLs ls m n t N last).length ≤ ls.length + 1 := by
  unfold hearLs
  split
  · unfold hearL
    split
    · omega
    · simp
  · omega
theorem hearT_ok {m : Int} {n t : Bs} {last : Int} (h0 : 0 ≤ last) (h1 : last ≤ 105190559) : 0 ≤ hearT m n t last ∧ hearT m n t last ≤ 105190559 := by
  unfold hearT
  split
  · rename_i h; exact lineE_min (hear_line h)
  · exact ⟨h0, h1⟩
/-- The gateway and the model beside two boxes. -/
def DuoB (n : Nat) (w : World) (b c p q : Nat) (ls : List Ln) (last : Int) (made read : List (List Int)) : Prop :=
  ∃ A A', GwX n A w b kR kG kN ls last made read ∧ MdX n A' w c kR kG kN ls last made read ∧ (∀ k, A k → ¬ A' k) ∧ ∀ k, A k ∨ A' k → k ≠ p ∧ k ≠ q
attribute [local go_sem ↓] wp_load_id wp_load_post
set_option maxHeartbeats 16000000 in
set_option maxRecDepth 100000 in
theorem do_hear {n q : Nat} {w : World} {b c : Nat} {ls : List Ln} {last : Int} {made read : List (List Int)} (h : Duo n w b c ls last made read) (hi : OpI q ls last made read) (hq : q ≤ 100) (hn : n ≤ w.heap.size) (hba : Base n w)
    (k m : Int) (nk t : ByteArray) (f : Nat → Int) (Nm S B : ByteArray) (d r : Int) (hnk : nk.size ≤ maxLen) (ht : t.size ≤ maxLen) (hr : (Lit.int .u8 r).wf = true) (h5 : k.tmod 8 ≠ 5) (h6 : k.tmod 8 ≠ 6) (h7 : k.tmod 8 ≠ 7) :
    Calls Tryz.prog 42 #[.pointer (some ⟨b, 0, none⟩), .pointer (some ⟨c, 0, none⟩), opV k m nk t f Nm S B d r] w (DoPost n q b c w) := by
  obtain ⟨A, A', hg, hmd, hd⟩ := h
  have HI := Lib.hid hi
  have HN := Lib.hid hn
  have HD := Lib.hid hd
  have HB := Lib.hid (alloc_bel w (.cells (opA k m nk t f Nm S B d r) 60))
  have HX := Lib.hid (show (w.alloc (.cells (opA k m nk t f Nm S B d r) 60)).heap[w.heap.size]? = some (.cells (opA k m nk t f Nm S B d r) 60 (0, 0)) from heap_alloc_new _ _)
  have HG := Lib.hid hg
  have HM := Lib.hid hmd
  have HC := Lib.hid (fun wx => lw_cut m nk t hnk ht wx)
  have hc1 := short_size nk 40
  have hc2 := short_size t 450
  have e5 : (k.tmod 8 == 5) = false := by simp [h5]
  have e6 : (k.tmod 8 == 6) = false := by simp [h6]
  have e7 : (k.tmod 8 == 7) = false := by simp [h7]
  have hrw : wrap64 r = r := by
    have h := u8_pos hr
    simp only [wrap64]
    omega
  obtain ⟨M, hM, hM0, hM60⟩ : ∃ M : Nat, max (1 : Int) (r.tmod 60) = (M : Int) ∧ 1 ≤ M ∧ M ≤ 60 := by
    have h0 : 0 ≤ r := (u8_pos hr).1
    rw [Int.tmod_eq_emod_of_nonneg h0]
    exact ⟨(max 1 (r % 60)).toNat, by omega, by omega, by omega⟩
  clear hi hn hba hd hg hmd h5 h6 h7 hnk ht
  go_enter Tryz.func42, Tryz.ntmps42
  go_upto_region 14 with fail
  generalize w.alloc (.cells (opA k m nk t f Nm S B d r) 60) = W0 at *
  obtain ⟨_, c1, c2, c3, c40⟩ := op_cells HX.out
  go_wp2_with ((go_at_call 23; (with_reducible refine (HC.out _).mono ?_); rintro e w1 ⟨rfl, hb1⟩; have HB1 := Lib.hid hb1; clear hb1))
  have HLB := Lib.hid (show (w1.alloc (.cells #[.int .i64 m, .string (cut1 nk 40), .string (cut1 t 450)] 39)).heap[w1.heap.size]? = some (.cells #[.int .i64 m, .string (cut1 nk 40), .string (cut1 t 450)] 39 (0, 0)) from heap_alloc_new _ _)
  have hz1 := HB1.out.size
  have hx0 := heap_lt HX.out
  have HXB := Lib.hid (show (w1.alloc (.cells #[.int .i64 m, .string (cut1 nk 40), .string (cut1 t 450)] 39)).heap[w.heap.size]? = some (.cells (opA k m nk t f Nm S B d r) 60 (0, 0)) from (Lib.alloc_old w1 _ _ (by omega)).trans ((HB1.out.block _ hx0).trans HX.out))
  have HB2 := Lib.hid (show Below w.heap.size w (w1.alloc (.cells #[.int .i64 m, .string (cut1 nk 40), .string (cut1 t 450)] 39)) from (HB.out.trans (HB1.out.mono HB.out.size)).alloc (by have := HB.out.size; omega) _)
  have hne : w.heap.size < w1.heap.size := by omega
  obtain ⟨px, hpx⟩ : ∃ px, w1.heap.size = px := ⟨_, rfl⟩
  rw [hpx] at HLB hne
  simp only [hpx]
  clear c1 c2 c3 c40 HX HB hx0 HB1 hz1 HC
  change (cut1 nk 40).size ≤ 40 at hc1
  change (cut1 t 450).size ≤ 450 at hc2
  generalize cut1 nk 40 = nk2 at *
  generalize cut1 t 450 = t2 at *
  generalize w1.alloc (.cells #[.int .i64 m, .string nk2, .string t2] 39) = W1 at *
  have HNW := Lib.hid (Nat.le_trans HN.out HB2.out.size)
  go_loopw [19] (fun ix wr => ∃ (i : Nat) (ls' : List Ln) (last' : Int), i ≤ M ∧ ix = .int .i64 (i : Int) ∧ DuoB n wr b c w.heap.size px ls' last' made read ∧ (∀ x ∈ ls', lineE (x.min : Int) x.nick x.text = 0) ∧ (0 ≤ last' ∧ last' ≤ 105190559) ∧ ls'.length ≤ q * 60 + i ∧ Below n W1 wr ∧ wr.heap[w.heap.size]? = W1.heap[w.heap.size]? ∧ wr.heap[px]? = W1.heap[px]?) (fun ix _ => M - (intOf ix).toNat)
  case atStart =>
    refine ⟨0, ls, last, by omega, rfl, ⟨A, A', HG.out.below HB2.out, HM.out.below HB2.out, HD.out, fun g hg => ?_⟩, HI.out.ok, ⟨HI.out.lo, HI.out.hi⟩, HI.out.nl, Below.refl _ _, rfl, rfl⟩
    have h1 := HG.out.lt.2 g
    have h2 := HM.out.lt.2 g
    rcases hg with hg | hg
    · have := h1 hg; omega
    · have := h2 hg; omega
  case round =>
    obtain ⟨i, ls', last', hiM, rfl, ⟨A1, A1', hg1, hm1, hd1, hx1⟩, hok, hlt, hll, hbr, hbx, hpp⟩ := hrel
    have HX1 := Lib.hid (hbx.trans HXB.out)
    have HL1 := Lib.hid (hpp.trans HLB.out)
    have HBR := Lib.hid hbr
    have HG1 := Lib.hid hg1
    have HM1 := Lib.hid hm1
    have HD1 := Lib.hid hd1
    have HE1 := Lib.hid hx1
    have HOK := Lib.hid hok
    have hlo := hlt.1
    have hhi := hlt.2
    clear hbx hpp hbr hg1 hm1 hd1 hx1 hok hlt
    obtain ⟨_, _, _, _, c40⟩ := op_cells HX1.out
    have i0 : (0 : Int) ≤ (i : Int) := by omega
    by_cases hlt : i < M
    · have i1 : (i : Int) < (M : Int) := by omega
      have hz := heap_lt HL1.out
      have hzx := heap_lt HX1.out
      obtain ⟨l0, l1, l2⟩ : wr.cell? ⟨px, 0, none⟩ = some (.int .i64 m) ∧ wr.cell? ⟨px, 1, none⟩ = some (.string nk2) ∧ wr.cell? ⟨px, 2, none⟩ = some (.string t2) := LnC.of HL1.out
      have hnr := Nat.le_trans HNW.out HBR.out.size
      have HGd := Lib.hid (HG1.out.below ((Below.refl wr.heap.size wr).drew))
      have HMd := Lib.hid (HM1.out.below ((Below.refl wr.heap.size wr).drew))
      have hnd : n ≤ wr.drew.heap.size := hnr
      have HHG := Lib.hid (gw_hearX HGd.out hnd m nk2 t2 (by decide) (by unfold maxLen; omega) (by omega) (by omega))
      have HHM := Lib.hid (fun wx (hx : MdX n A1' wx c kR kG kN ls' last' made read) hz => lw_hear hx hz m nk2 t2 (by decide) (by omega) (by omega) (by omega))
      have HLS := Lib.hid (hearLs_ok (m := m) (n := toL nk2) (t := toL t2) (N := toL kN) (last := last') HOK.out)
      have hln := hearLs_len ls' m (toL nk2) (toL t2) (toL kN) last'
      have HLT := Lib.hid (hearT_ok (m := m) (n := toL nk2) (t := toL t2) hlo hhi)
      generalize hearE m (toL nk2) (toL t2) last' = E1 at *
      generalize hearLs ls' m (toL nk2) (toL t2) (toL kN) last' = L1 at *
      generalize hearT m (toL nk2) (toL t2) last' = T1 at *
      go_upto_region 18 with fail
      go_region_law (first
        | (go_simp; go_at_call 20; (with_reducible refine HHG.out.mono ?_); rintro e w2 ⟨rfl, hg2, hf2⟩; have HG2 := Lib.hid hg2; have HF2 := Lib.hid hf2; have HM2 := Lib.hid (md_behind HMd.out HD1.out hf2); have hz2 : wr.drew.heap.size ≤ w2.heap.size := hf2.size; have HL2 := Lib.hid ((hf2.oth px hz (fun ha => (HE1.out px (.inl ha)).2 rfl)).trans HL1.out); have HX2 := Lib.hid ((hf2.oth w.heap.size hzx (fun ha => (HE1.out _ (.inl ha)).1 rfl)).trans HX1.out); obtain ⟨m0, m1, m2⟩ : w2.cell? ⟨px, 0, none⟩ = some (.int .i64 m) ∧ w2.cell? ⟨px, 1, none⟩ = some (.string nk2) ∧ w2.cell? ⟨px, 2, none⟩ = some (.string t2) := LnC.of HL2.out; clear hg2 hf2; dsimp only)
        | (go_simp; go_at_call 89; (with_reducible refine (HHM.out _ HM2.out (Nat.le_trans hnd hz2)).mono ?_); rintro e w3 ⟨rfl, hm3, hf3⟩; have HM3 := Lib.hid hm3; have HF3 := Lib.hid hf3; clear hm3 hf3; dsimp only))
      all_goals
        have hX3 := (HF3.out.oth w.heap.size (heap_lt HX2.out) (fun ha => (HE1.out _ (.inr ha)).1 rfl)).trans HX2.out
        have hL3 := (HF3.out.oth px (heap_lt HL2.out) (fun ha => (HE1.out _ (.inr ha)).2 rfl)).trans HL2.out
        have HX3 := Lib.hid (hX3.trans HXB.out.symm)
        have HL3 := Lib.hid (hL3.trans HLB.out.symm)
        have HBE := Lib.hid (HBR.out.trans ((Below.refl n wr).drew.trans (HF2.out.bel.trans HF3.out.bel)))
        clear hX3 hL3
        go_wp2_with fail
        go_roundw
        case rel =>
          have hd2 : ∀ g, Ext A1 wr.drew w2 g → ¬ A1' g := fun g hg ha => hg.elim (fun h => HD1.out g h ha) (fun h => Nat.lt_irrefl _ (Nat.lt_of_lt_of_le (HM1.out.lt.2 g ha) h.1))
          refine ⟨i + 1, L1, T1, by omega, by go_num, ⟨Ext A1 wr.drew w2, Ext A1' w2 w3, HG2.out.keep HF3.out hd2, HM3.out, fun g hg ha => ?_, fun g hg => ?_⟩, HLS.out, HLT.out, by omega, HBE.out, HX3.out, HL3.out⟩
          · rcases ha with ha | ha
            · exact hd2 g hg ha
            · exact Nat.lt_irrefl _ (Nat.lt_of_lt_of_le (HG2.out.lt.2 g hg) ha.1)
          · have a1 : wr.drew.heap.size = wr.heap.size := rfl
            rcases hg with (hg | hg) | (hg | hg)
            · exact HE1.out g (.inl hg)
            · constructor <;> (intro e; have := hg.1; omega)
            · exact HE1.out g (.inr hg)
            · constructor <;> (intro e; have := hg.1; omega)
        case measure => simp [intOf] <;> omega
    · have i1 : (M : Int) ≤ (i : Int) := by omega
      go_wp2_with fail
      go_ret
      exact ⟨rfl, (HB2.out.mono HN.out).trans HBR.out, ls', last', made, read, ⟨A1, A1', HG1.out, HM1.out, HD1.out⟩, ⟨HOK.out, hlo, hhi, by omega, by have := HI.out.nm; omega, by have := HI.out.nr; omega⟩⟩
end Go.Proofs.YtghjgbkhhoaebaaGreatDoor
