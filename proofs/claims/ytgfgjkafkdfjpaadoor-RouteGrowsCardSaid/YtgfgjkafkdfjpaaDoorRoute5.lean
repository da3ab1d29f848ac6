/- Walks over Common and its reference, Clone, and the law's cut. -/
import Derived.Test.YtgfgjkafkdfjpaaDoorRoute4
namespace Go.Proofs.YtgfgjkafkdfjpaaDoor
set_option linter.unusedSimpArgs false
set_option linter.unusedVariables false
open Go.RowKit

theorem pour_own {w w0 w3 : World} {l : List Bs} {v v' : Value} (hA : Below w.heap.size w w0) (hv : v.ownBlock = some w.heap.size) (hown : w3.ownsRow w.heap.size 9 1 v' (0 + l.length) ([] ++ strsL l)) (hg : w0.grownBy w3 v.ownBlock) : StrsOwn w w3 v' l := by
  refine ⟨by simpa using hown, hA.grown hg hA.size (fun k hk => by rw [hv] at hk; injection hk with hk; omega)⟩

set_option maxHeartbeats 2000000 in
set_option maxRecDepth 100000 in
theorem rt_clone (A : Option Addr) (l : List Bs) (c : Nat) (w : World) (hr : Row w A (strsL l)) (hl : l.length ≤ 100000) :
    Calls Tryd.prog 35 #[.slice A l.length c] w fun e w' => ∃ v, e = .returned v ∧ StrsOwn w w' v l := by
  have HR := Lib.hid hr; clear hr
  rcases A with _ | ad
  · have hl0 : l = [] := by
      rcases HR.out with h | ⟨b, off, e, _⟩
      · simpa using h
      · cases e
    subst hl0
    have hnl := fun (wx : World) (n c n' c' : Nat) => Lib.run_eql_slice_nil (P := Tryd.prog) wx 23 9 none n c n' c' Tryd.underlying23
    go_enter Tryd.func35, Tryd.ntmps35
    go_wp2_with fail
    go_ret
    exact ⟨_, rfl, ⟨World.ownsRow_nil _ _ _ _, Below.refl _ _⟩⟩
  · have hA : Below w.heap.size w (w.alloc (.cells #[] 9)) := (Below.refl _ _).alloc (Nat.le_refl _) _
    have HRA := Lib.hid (HR.out.below hA)
    have HOL := Lib.hid (World.ownsRow_lit (base := w.heap.size) (e := 9) (size := 1) w #[] 0 (Nat.le_refl _) (by decide) rfl)
    have hnl := fun (wx : World) (n c n' c' : Nat) => Lib.run_eql_slice_nil (P := Tryd.prog) wx 23 9 (some ad) n c n' c' Tryd.underlying23
    go_enter Tryd.func35, Tryd.ntmps35
    go_wp2_with ((at_builtin; refine wpList_pourS (l := l) (A := some ad) (c := c) el_Route rfl _ _ rfl HOL.out rfl rfl HRA.out ?q1 ?q2 ?_; (case q1 => omega); (case q2 => simp); intro v' w3 hown3 hg3 hat3))
    go_ret
    exact ⟨_, rfl, pour_own hA rfl hown3 hg3⟩

theorem last_at (l : List Bs) (k : Nat) (h : k < l.length) : l.getD (l.length - 1 - k) [] = l[l.length - 1 - k]'(by omega) := by
  rw [List.getD, List.getElem?_eq_getElem (by omega)]; rfl
theorem common_go (a b : List Bs) (k : Nat) (ha : k < a.length) (hb : k < b.length) (h : a[a.length - 1 - k]'(by omega) = b[b.length - 1 - k]'(by omega)) (hq : commonN a b = seekN (fun n => decide (b.length ≤ n) || !decide (a.getD (a.length - 1 - n) [] = b.getD (b.length - 1 - n) [])) a.length k) :
    commonN a b = seekN (fun n => decide (b.length ≤ n) || !decide (a.getD (a.length - 1 - n) [] = b.getD (b.length - 1 - n) [])) a.length (k + 1) := by
  rw [hq, seekN_step _ _ _ ha]
  simp only [last_at a k ha, last_at b k hb, h]
  simp; omega
theorem common_stop (a b : List Bs) (k : Nat) (ha : k < a.length) (h : b.length ≤ k ∨ ∃ hb : k < b.length, a[a.length - 1 - k]'(by omega) ≠ b[b.length - 1 - k]'(by omega)) (hq : commonN a b = seekN (fun n => decide (b.length ≤ n) || !decide (a.getD (a.length - 1 - n) [] = b.getD (b.length - 1 - n) [])) a.length k) : commonN a b = k := by
  rw [hq, seekN_stop _ _ _ ha]
  rcases h with h | ⟨hb, h⟩
  · simp [h]
  · simp only [last_at a k ha, last_at b k hb]
    simp [h]
theorem common_end (a b : List Bs) (k : Nat) (ha : a.length ≤ k) (hk : k ≤ a.length) (hq : commonN a b = seekN (fun n => decide (b.length ≤ n) || !decide (a.getD (a.length - 1 - n) [] = b.getD (b.length - 1 - n) [])) a.length k) : commonN a b = k := by
  rw [hq, seekN_end _ _ _ ha]

set_option maxHeartbeats 4000000 in
set_option maxRecDepth 100000 in
theorem rt_common (A B : Option Addr) (a b : List Bs) (c d : Nat) (w : World) (hra : Row w A (strsL a)) (hrb : Row w B (strsL b)) (ha : a.length ≤ 1000) (hb : b.length ≤ 1000) (hca : a.length ≤ c) :
    Calls Tryd.prog 28 #[.slice A a.length c, .slice B b.length d] w fun e w' => ∃ v, e = .returned v ∧ StrsOwn w w' v (commonR a b) := by
  have HRA := Lib.hid hra; have HRB := Lib.hid hrb; clear hra hrb
  go_enter Tryd.func28, Tryd.ntmps28
  go_wp2_with fail
  go_loopw [5, 35] (fun v _ wr => ∃ k : Nat, k ≤ a.length ∧ commonN a b = seekN (fun n => decide (b.length ≤ n) || !decide (a.getD (a.length - 1 - n) [] = b.getD (b.length - 1 - n) [])) a.length k ∧ v = .int .i64 k ∧ Below w.heap.size w wr) (fun v _ _ => a.length - (intOf v).toNat)
  case atStart => exact ⟨0, by omega, rfl, rfl, Below.refl _ _⟩
  case round =>
    obtain ⟨k, hk, heq, rfl, hB⟩ := hrel
    have HQ := Lib.hid heq; clear heq
    obtain ⟨A2, hT⟩ := tail_is (P := Tryd.prog) elem_route size_route A a c (a.length - k) ((a.length : Int) - (k : Int)) (by omega) (by omega) hca
    have HT := Lib.hid hT; clear hT
    by_cases h1 : k < a.length
    · have t1 : decide ((k : Int) < (a.length : Int)) = true := by simp; omega
      by_cases h2 : k < b.length
      · have t2 : decide ((k : Int) < (b.length : Int)) = true := by simp; omega
        obtain ⟨x, hx⟩ : ∃ x, ofL (a[a.length - 1 - k]'(by omega)) = x := ⟨_, rfl⟩
        obtain ⟨y, hy⟩ : ∃ y, ofL (b[b.length - 1 - k]'(by omega)) = y := ⟨_, rfl⟩
        have hxL : a[a.length - 1 - k]'(by omega) = toL x := by rw [← hx, toL_ofL]
        have hyL : b[b.length - 1 - k]'(by omega) = toL y := by rw [← hy, toL_ofL]
        obtain ⟨b1, o1, e1, hc1⟩ := (HRA.out.below hB).str (k := a.length - 1 - k) (by omega) hx
        obtain ⟨b2, o2, e2, hc2⟩ := (HRB.out.below hB).str (k := b.length - 1 - k) (by omega) hy
        have HGO := Lib.hid (common_go a b k h1 h2)
        have HST := Lib.hid (fun h => common_stop a b k h1 (.inr ⟨h2, h⟩))
        rw [hxL, hyL] at HGO HST
        subst e1 e2
        clear hx hy hxL hyL
        have s1 : IntKind.i64.wrap ((a.length : Int) - 1) = (a.length : Int) - 1 := IntWalk.i64_in _ (by omega)
        have s2 : IntKind.i64.wrap ((a.length : Int) - 1 - (k : Int)) = (a.length : Int) - 1 - (k : Int) := IntWalk.i64_in _ (by omega)
        have s3 : ((a.length : Int) - 1 - (k : Int)).toNat = a.length - 1 - k := by omega
        have s4 : (0 : Int) ≤ (a.length : Int) - 1 - (k : Int) := by omega
        have s5 : (a.length : Int) - 1 - (k : Int) < (a.length : Int) := by omega
        have r1 : IntKind.i64.wrap ((b.length : Int) - 1) = (b.length : Int) - 1 := IntWalk.i64_in _ (by omega)
        have r2 : IntKind.i64.wrap ((b.length : Int) - 1 - (k : Int)) = (b.length : Int) - 1 - (k : Int) := IntWalk.i64_in _ (by omega)
        have r3 : ((b.length : Int) - 1 - (k : Int)).toNat = b.length - 1 - k := by omega
        have r4 : (0 : Int) ≤ (b.length : Int) - 1 - (k : Int) := by omega
        have r5 : (b.length : Int) - 1 - (k : Int) < (b.length : Int) := by omega
        rcases e1 : (x.toList == y.toList) with _ | _
        · have HCM := Lib.hid (show commonR a b = a.drop (a.length - k) by rw [commonR, HST.out (fun h => by rw [beq_toList] at e1; simp [h] at e1) HQ.out])
          go_wp2_with fail
          go_quiet (fail)
          clear s1 s2 s3 s4 s5 r1 r2 r3 r4 r5 hc1 hc2
          obtain ⟨w1, hw1⟩ : ∃ w1, w1 = wr.drewN nq := ⟨_, rfl⟩
          have hB1 := below_drewN hB nq
          rw [← hw1] at hB1 ⊢
          clear hw1 HQ
          have hT := HT.out
          have hs1 := hT.at_
          have hs2 := hT.of_
          have hdl : a.length - (a.length - k) = (a.drop (a.length - k)).length := by simp
          rw [hdl] at hs1 hs2
          have hdl2 : (a.drop (a.length - k)).length ≤ 1000 := by simp; omega
          have HROW := Lib.hid (fun wx (hx : Below w.heap.size w wx) => hT.row wx (HRA.out.below hx))
          generalize a.drop (a.length - k) = D at *
          clear hT hdl
          go_wp2_with fail
          (with_reducible refine (rt_clone A2 D (c - (a.length - k)) _ (HROW.out _ hB1) (by omega)).mono ?_)
          rintro e w3 ⟨v3, rfl, hF3⟩
          go_wp2_with fail
          go_ret
          exact ⟨_, rfl, by rw [HCM.out]; exact ⟨own_mono hF3.own (Below.size hB1), (hB1).trans (hF3.bel.mono (Below.size hB1))⟩⟩
        · have HN := Lib.hid (HGO.out (by rw [beq_toList] at e1; simpa using e1) HQ.out)
          go_wp2_with fail
          go_quiet (fail)
          clear s1 s2 s3 s4 s5 r1 r2 r3 r4 r5
          go_wp2_with fail
          go_roundw
          case rel => exact ⟨k + 1, by omega, HN.out, by go_num, below_drewN hB _⟩
          case measure => simp [intOf] <;> omega
      · have t2 : decide ((k : Int) < (b.length : Int)) = false := by simp; omega
        have HCM := Lib.hid (show commonR a b = a.drop (a.length - k) by rw [commonR, common_stop a b k h1 (.inl (by omega)) HQ.out])
        go_wp2_with fail
        go_quiet (fail)
        obtain ⟨w1, hw1⟩ : ∃ w1, w1 = wr.drewN nq := ⟨_, rfl⟩
        have hB1 := below_drewN hB nq
        rw [← hw1] at hB1 ⊢
        clear hw1 HQ
        have hT := HT.out
        have hs1 := hT.at_
        have hs2 := hT.of_
        have hdl : a.length - (a.length - k) = (a.drop (a.length - k)).length := by simp
        rw [hdl] at hs1 hs2
        have hdl2 : (a.drop (a.length - k)).length ≤ 1000 := by simp; omega
        have HROW := Lib.hid (fun wx (hx : Below w.heap.size w wx) => hT.row wx (HRA.out.below hx))
        generalize a.drop (a.length - k) = D at *
        clear hT hdl
        go_wp2_with fail
        (with_reducible refine (rt_clone A2 D (c - (a.length - k)) _ (HROW.out _ hB1) (by omega)).mono ?_)
        rintro e w3 ⟨v3, rfl, hF3⟩
        go_wp2_with fail
        go_ret
        exact ⟨_, rfl, by rw [HCM.out]; exact ⟨own_mono hF3.own (Below.size hB1), (hB1).trans (hF3.bel.mono (Below.size hB1))⟩⟩
    · have t1 : decide ((k : Int) < (a.length : Int)) = false := by simp; omega
      have HCM := Lib.hid (show commonR a b = a.drop (a.length - k) by rw [commonR, common_end a b k (by omega) hk HQ.out])
      go_wp2_with fail
      go_quiet (fail)
      obtain ⟨w1, hw1⟩ : ∃ w1, w1 = wr.drewN nq := ⟨_, rfl⟩
      have hB1 := below_drewN hB nq
      rw [← hw1] at hB1 ⊢
      clear hw1 HQ
      have hT := HT.out
      have hs1 := hT.at_
      have hs2 := hT.of_
      have hdl : a.length - (a.length - k) = (a.drop (a.length - k)).length := by simp
      rw [hdl] at hs1 hs2
      have hdl2 : (a.drop (a.length - k)).length ≤ 1000 := by simp; omega
      have HROW := Lib.hid (fun wx (hx : Below w.heap.size w wx) => hT.row wx (HRA.out.below hx))
      generalize a.drop (a.length - k) = D at *
      clear hT hdl
      go_wp2_with fail
      (with_reducible refine (rt_clone A2 D (c - (a.length - k)) _ (HROW.out _ hB1) (by omega)).mono ?_)
      rintro e w3 ⟨v3, rfl, hF3⟩
      go_wp2_with fail
      go_ret
      exact ⟨_, rfl, by rw [HCM.out]; exact ⟨own_mono hF3.own (Below.size hB1), (hB1).trans (hF3.bel.mono (Below.size hB1))⟩⟩

set_option maxHeartbeats 4000000 in
set_option maxRecDepth 100000 in
theorem refr_common (A B : Option Addr) (a b : List Bs) (c d : Nat) (w : World) (hra : Row w A (strsL a)) (hrb : Row w B (strsL b)) (ha : a.length ≤ 1000) (hb : b.length ≤ 1000) (hca : a.length ≤ c) :
    Calls Tryd.prog 29 #[.slice A a.length c, .slice B b.length d] w fun e w' => ∃ v, e = .returned v ∧ StrsOwn w w' v (commonR a b) := by
  have HRA := Lib.hid hra; have HRB := Lib.hid hrb; clear hra hrb
  go_enter Tryd.func29, Tryd.ntmps29
  go_wp2_with fail
  go_loopw [5, 35] (fun v _ wr => ∃ k : Nat, k ≤ a.length ∧ commonN a b = seekN (fun n => decide (b.length ≤ n) || !decide (a.getD (a.length - 1 - n) [] = b.getD (b.length - 1 - n) [])) a.length k ∧ v = .int .i64 k ∧ Below w.heap.size w wr) (fun v _ _ => a.length - (intOf v).toNat)
  case atStart => exact ⟨0, by omega, rfl, rfl, Below.refl _ _⟩
  case round =>
    obtain ⟨k, hk, heq, rfl, hB⟩ := hrel
    have HQ := Lib.hid heq; clear heq
    obtain ⟨A2, hT⟩ := tail_is (P := Tryd.prog) elem_strs size_strs A a c (a.length - k) ((a.length : Int) - (k : Int)) (by omega) (by omega) hca
    have HT := Lib.hid hT; clear hT
    by_cases h1 : k < a.length
    · have t1 : decide ((k : Int) < (a.length : Int)) = true := by simp; omega
      by_cases h2 : k < b.length
      · have t2 : decide ((k : Int) < (b.length : Int)) = true := by simp; omega
        obtain ⟨x, hx⟩ : ∃ x, ofL (a[a.length - 1 - k]'(by omega)) = x := ⟨_, rfl⟩
        obtain ⟨y, hy⟩ : ∃ y, ofL (b[b.length - 1 - k]'(by omega)) = y := ⟨_, rfl⟩
        have hxL : a[a.length - 1 - k]'(by omega) = toL x := by rw [← hx, toL_ofL]
        have hyL : b[b.length - 1 - k]'(by omega) = toL y := by rw [← hy, toL_ofL]
        obtain ⟨b1, o1, e1, hc1⟩ := (HRA.out.below hB).str (k := a.length - 1 - k) (by omega) hx
        obtain ⟨b2, o2, e2, hc2⟩ := (HRB.out.below hB).str (k := b.length - 1 - k) (by omega) hy
        have HGO := Lib.hid (common_go a b k h1 h2)
        have HST := Lib.hid (fun h => common_stop a b k h1 (.inr ⟨h2, h⟩))
        rw [hxL, hyL] at HGO HST
        subst e1 e2
        clear hx hy hxL hyL
        have s1 : IntKind.i64.wrap ((a.length : Int) - 1) = (a.length : Int) - 1 := IntWalk.i64_in _ (by omega)
        have s2 : IntKind.i64.wrap ((a.length : Int) - 1 - (k : Int)) = (a.length : Int) - 1 - (k : Int) := IntWalk.i64_in _ (by omega)
        have s3 : ((a.length : Int) - 1 - (k : Int)).toNat = a.length - 1 - k := by omega
        have s4 : (0 : Int) ≤ (a.length : Int) - 1 - (k : Int) := by omega
        have s5 : (a.length : Int) - 1 - (k : Int) < (a.length : Int) := by omega
        have r1 : IntKind.i64.wrap ((b.length : Int) - 1) = (b.length : Int) - 1 := IntWalk.i64_in _ (by omega)
        have r2 : IntKind.i64.wrap ((b.length : Int) - 1 - (k : Int)) = (b.length : Int) - 1 - (k : Int) := IntWalk.i64_in _ (by omega)
        have r3 : ((b.length : Int) - 1 - (k : Int)).toNat = b.length - 1 - k := by omega
        have r4 : (0 : Int) ≤ (b.length : Int) - 1 - (k : Int) := by omega
        have r5 : (b.length : Int) - 1 - (k : Int) < (b.length : Int) := by omega
        rcases e1 : (x.toList == y.toList) with _ | _
        · have HCM := Lib.hid (show commonR a b = a.drop (a.length - k) by rw [commonR, HST.out (fun h => by rw [beq_toList] at e1; simp [h] at e1) HQ.out])
          go_wp2_with fail
          go_quiet (fail)
          clear s1 s2 s3 s4 s5 r1 r2 r3 r4 r5 hc1 hc2
          obtain ⟨w1, hw1⟩ : ∃ w1, w1 = wr.drewN nq := ⟨_, rfl⟩
          have hB1 := below_drewN hB nq
          rw [← hw1] at hB1 ⊢
          clear hw1 HQ
          have hT := HT.out
          have HROW := Lib.hid (hT.row w1 (HRA.out.below hB1))
          have hA : Below w1.heap.size w1 (w1.alloc (.cells #[] 9)) := (Below.refl _ _).alloc (Nat.le_refl _) _
          have HRA2 := Lib.hid (HROW.out.below hA)
          have HOL := Lib.hid (World.ownsRow_lit (base := w1.heap.size) (e := 9) (size := 1) w1 #[] 0 (Nat.le_refl _) (by decide) rfl)
          have hs1 := hT.at_
          have hs2 := hT.of_
          have hdl : a.length - (a.length - k) = (a.drop (a.length - k)).length := by simp
          rw [hdl] at hs1 hs2
          have hdl2 : (a.drop (a.length - k)).length ≤ 1000 := by simp; omega
          generalize a.drop (a.length - k) = D at *
          clear hT hdl
          go_wp2_with ((at_builtin; refine wpList_pourS (l := D) (A := A2) (c := c - (a.length - k)) el_string rfl _ _ rfl HOL.out rfl rfl HRA2.out ?qa1 ?qb1 ?_; (case qa1 => omega); (case qb1 => simp); intro v' w3 hown3 hg3 hat3))
          go_ret
          have hfin := pour_own hA rfl hown3 hg3
          exact ⟨_, rfl, by rw [HCM.out]; exact ⟨own_mono hfin.own hB1.size, hB1.trans (hfin.bel.mono hB1.size)⟩⟩
        · have HN := Lib.hid (HGO.out (by rw [beq_toList] at e1; simpa using e1) HQ.out)
          go_wp2_with fail
          go_quiet (fail)
          clear s1 s2 s3 s4 s5 r1 r2 r3 r4 r5
          go_wp2_with fail
          go_roundw
          case rel => exact ⟨k + 1, by omega, HN.out, by go_num, below_drewN hB _⟩
          case measure => simp [intOf] <;> omega
      · have t2 : decide ((k : Int) < (b.length : Int)) = false := by simp; omega
        have HCM := Lib.hid (show commonR a b = a.drop (a.length - k) by rw [commonR, common_stop a b k h1 (.inl (by omega)) HQ.out])
        go_wp2_with fail
        go_quiet (fail)
        obtain ⟨w1, hw1⟩ : ∃ w1, w1 = wr.drewN nq := ⟨_, rfl⟩
        have hB1 := below_drewN hB nq
        rw [← hw1] at hB1 ⊢
        clear hw1 HQ
        have hT := HT.out
        have HROW := Lib.hid (hT.row w1 (HRA.out.below hB1))
        have hA : Below w1.heap.size w1 (w1.alloc (.cells #[] 9)) := (Below.refl _ _).alloc (Nat.le_refl _) _
        have HRA2 := Lib.hid (HROW.out.below hA)
        have HOL := Lib.hid (World.ownsRow_lit (base := w1.heap.size) (e := 9) (size := 1) w1 #[] 0 (Nat.le_refl _) (by decide) rfl)
        have hs1 := hT.at_
        have hs2 := hT.of_
        have hdl : a.length - (a.length - k) = (a.drop (a.length - k)).length := by simp
        rw [hdl] at hs1 hs2
        have hdl2 : (a.drop (a.length - k)).length ≤ 1000 := by simp; omega
        generalize a.drop (a.length - k) = D at *
        clear hT hdl
        go_wp2_with ((at_builtin; refine wpList_pourS (l := D) (A := A2) (c := c - (a.length - k)) el_string rfl _ _ rfl HOL.out rfl rfl HRA2.out ?qa2 ?qb2 ?_; (case qa2 => omega); (case qb2 => simp); intro v' w3 hown3 hg3 hat3))
        go_ret
        have hfin := pour_own hA rfl hown3 hg3
        exact ⟨_, rfl, by rw [HCM.out]; exact ⟨own_mono hfin.own hB1.size, hB1.trans (hfin.bel.mono hB1.size)⟩⟩
    · have t1 : decide ((k : Int) < (a.length : Int)) = false := by simp; omega
      have HCM := Lib.hid (show commonR a b = a.drop (a.length - k) by rw [commonR, common_end a b k (by omega) hk HQ.out])
      go_wp2_with fail
      go_quiet (fail)
      obtain ⟨w1, hw1⟩ : ∃ w1, w1 = wr.drewN nq := ⟨_, rfl⟩
      have hB1 := below_drewN hB nq
      rw [← hw1] at hB1 ⊢
      clear hw1 HQ
      have hT := HT.out
      have HROW := Lib.hid (hT.row w1 (HRA.out.below hB1))
      have hA : Below w1.heap.size w1 (w1.alloc (.cells #[] 9)) := (Below.refl _ _).alloc (Nat.le_refl _) _
      have HRA2 := Lib.hid (HROW.out.below hA)
      have HOL := Lib.hid (World.ownsRow_lit (base := w1.heap.size) (e := 9) (size := 1) w1 #[] 0 (Nat.le_refl _) (by decide) rfl)
      have hs1 := hT.at_
      have hs2 := hT.of_
      have hdl : a.length - (a.length - k) = (a.drop (a.length - k)).length := by simp
      rw [hdl] at hs1 hs2
      have hdl2 : (a.drop (a.length - k)).length ≤ 1000 := by simp; omega
      generalize a.drop (a.length - k) = D at *
      clear hT hdl
      go_wp2_with ((at_builtin; refine wpList_pourS (l := D) (A := A2) (c := c - (a.length - k)) el_string rfl _ _ rfl HOL.out rfl rfl HRA2.out ?qa3 ?qb3 ?_; (case qa3 => omega); (case qb3 => simp); intro v' w3 hown3 hg3 hat3))
      go_ret
      have hfin := pour_own hA rfl hown3 hg3
      exact ⟨_, rfl, by rw [HCM.out]; exact ⟨own_mono hfin.own hB1.size, hB1.trans (hfin.bel.mono hB1.size)⟩⟩

end Go.Proofs.YtgfgjkafkdfjpaaDoor
