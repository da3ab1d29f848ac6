/- The walk over the law's cut. -/
import Derived.Test.YtgfgjkafkdfjpaaDoorRoute1
import Derived.Deep.RegionHeld3
import Derived.Deep.AppendLies
namespace Go.Proofs.YtgfgjkafkdfjpaaDoor
set_option linter.unusedSimpArgs false
set_option linter.unusedVariables false
open Go.RowKit

def cutS (l : List Bs) : List Bs := (l.take 60).map (·.take 40)
theorem cutS_length (l : List Bs) : (cutS l).length = min 60 l.length := by simp [cutS]
theorem cutS_tame (l : List Bs) : Tame (cutS l) := by
  refine ⟨by rw [cutS_length]; omega, fun x hx => ?_⟩
  simp only [cutS, List.mem_map] at hx
  obtain ⟨y, _, rfl⟩ := hx
  rw [List.length_take]; omega
theorem joinM_le (l : List Bs) (m : Nat) (h : ∀ x ∈ l, x.length ≤ m) : (joinM l).length ≤ l.length * (m + 1) := by
  induction l with
  | nil => simp [joinM]
  | cons x r ih =>
    have h1 := h x (by simp)
    have h2 := ih (fun y hy => h y (by simp [hy]))
    cases r with
    | nil => simp [joinM]; omega
    | cons y r =>
      rw [joinM]
      simp only [List.length_append, List.length_cons] at h2 ⊢
      have e : (r.length + 1 + 1) * (m + 1) = (r.length + 1) * (m + 1) + (m + 1) := by rw [Nat.succ_mul]
      omega
theorem cutS_join (l : List Bs) : (joinM (cutS l)).length ≤ 1000000 := by
  have h := joinM_le (cutS l) 40 (fun x hx => by
    simp only [cutS, List.mem_map] at hx
    obtain ⟨y, _, rfl⟩ := hx
    rw [List.length_take]; omega)
  rw [cutS_length] at h
  omega

theorem strsL_snoc (l : List Bs) (x : ByteArray) : strsL l ++ [.string x] = strsL (l ++ [toL x]) := by simp [ofL_toL]
theorem StrsOwn.pushA {w wr w1 : World} {v v' : Value} {l : List Bs} {x : ByteArray} {o : Obj} (h : StrsOwn w wr v l) (hown : w1.ownsRow w.heap.size 9 1 v' (l.length + 1) (strsL l ++ [.string x])) (hg : (wr.alloc o).drew.grownBy w1 v.ownBlock) : StrsOwn w w1 v' (l ++ [toL x]) := by
  refine ⟨by simpa [ofL_toL] using hown, ?_⟩
  have hs := h.bel.size
  exact ((h.bel.alloc hs o).drew).grown hg (by simp; omega) (fun k hk => (h.own.lt k hk).1)

set_option maxHeartbeats 4000000 in
set_option maxRecDepth 100000 in
theorem law_cut (A : Option Addr) (l : List Bs) (c : Nat) (w : World) (hr : Row w A (strsL l)) (hl : l.length ≤ maxLen) (hl2 : ∀ x ∈ l, x.length ≤ maxLen) :
    Calls Tryd.prog 16 #[.slice A l.length c] w fun e w' => ∃ v, e = .returned v ∧ StrsOwn w w' v (cutS l) := by
  have HL2 := Lib.hid hl2; have HR := Lib.hid hr; clear hl2 hr
  unfold maxLen at hl
  obtain ⟨i0, hi0, hz0, hz1, hz2⟩ := info_parts info_string
  go_enter Tryd.func16, Tryd.ntmps16
  go_wp2_with fail
  go_loopg [3, 4] l.length (fun g v ix wr => ∃ k : Nat, g = l.length - k ∧ k ≤ l.length ∧ k ≤ 60 ∧ ix = .int .i64 k ∧ StrsOwn w wr v ((l.take k).map (·.take 40)))
  case atStart => exact ⟨0, by omega, by omega, by omega, rfl, ⟨World.ownsRow_nil _ _ _ _, Below.refl _ _⟩⟩
  case round =>
    obtain ⟨k, rfl, hk, hk7, rfl, hF⟩ := hrel
    by_cases hlt : k < l.length
    · by_cases h7 : k < 60
      · have h7' : decide ((k : Int) < 60) = true := by simp; omega
        have hk1 : (0 : Int) ≤ (k : Int) := by omega
        have hk2 : (k : Int) < (l.length : Int) := by omega
        obtain ⟨x, hx⟩ : ∃ x, ofL l[k] = x := ⟨_, rfl⟩
        have hxL : l[k] = toL x := by rw [← hx, toL_ofL]
        obtain ⟨bb, off, e1, hc1⟩ := (HR.out.below hF.bel).str hlt hx
        have hbb : bb < w.heap.size := by
          obtain ⟨b', o', e', hb', _⟩ := HR.out.at (k := k) (by simpa using hlt)
          rw [e1] at e'; injection e' with e'; injection e' with e'; omega
        subst e1
        have hm := HL2.out _ (List.getElem_mem hlt)
        rw [hxL, toL_length] at hm
        unfold maxLen at hm
        have HNB := Lib.hid (show l[k].take 40 = toL (x.extract 0 (min (x.size : Int) 40).toNat) by rw [hxL]; exact (take_min x 40).symm)
        clear hx hxL
        have hlen : ((l.take k).map (·.take 40)).length = k := by simp; omega
        have hown := hF.own
        have hsz := hF.bel.size
        have ag : ∀ g, _ = some g → w.heap.size ≤ g := fun g hg => (hF.own.lt g hg).1
        have AG := Lib.hid ag; clear ag
        have m1 : (0 : Int) ≤ min (x.size : Int) 40 := by omega
        have m2 : min (x.size : Int) 40 ≤ (x.size : Int) := by omega
        go_wp2_with fail
        go_region_held3 (fun w' => w'.cell? ⟨bb, off + k, none⟩ = some (.string x))
          (first
            | go_keep
            | (rw [hgrow.cell_far ⟨bb, off + k, none⟩ (by simp; omega) (fun e => by have := AG.out bb e.symm; omega)]; assumption))
          ((refine step_append_lies _ (by rfl) _ _ _ (by rfl) w.heap.size 9 i0 _ 1 16 Tryd.underlying23 hi0 hz0 hz1 hz2 rfl (by omega) _ _ _ (by rfl) ((hown.alloc _).drew)
              ⟨wr.heap.size, 0, none⟩ 1 1 [.string (x.extract 0 (min (x.size : Int) 40).toNat)] (by rfl) (by rfl) (World.news_of_block (cs := #[.string (x.extract 0 (min (x.size : Int) 40).toNat)]) (t := 9) (fr := (0, 0)) (heap_alloc_new wr _)) (by simp [Value.oneCell'])
              (by omega) (by rw [hlen]; unfold maxLen; omega) (by rw [hlen]; omega) (by simp; omega) (wr.heap.size + 1) (by simp) ?_; intro gg cap w1 hown1 hgrow hat hlt1))
        all_goals
          have hF1 : StrsOwn w w1 (.slice (some ⟨gg, 0, none⟩) (k + 1) cap) ((l.take (k + 1)).map (·.take 40)) := by
            have := hF.pushA hown1 hgrow
            rw [hlen] at this
            rw [List.take_succ_eq_append_getElem hlt, List.map_append, List.map_cons, List.map_nil, HNB.out]
            exact this
          clear hown1 hgrow hat hlt1 hc1
          go_wp2_with fail
          go_roundg (l.length - (k + 1))
          case measure => omega
          case rel => exact ⟨k + 1, rfl, by omega, by omega, by go_num, hF1⟩
      · have h7' : decide ((k : Int) < 60) = false := by simp; omega
        have HE := Lib.hid (show (l.take k).map (·.take 40) = cutS l by rw [cutS, show k = 60 from by omega])
        go_wp2_with fail
        go_ret
        rw [HE.out] at hF
        exact ⟨_, rfl, hF⟩
    · have HE := Lib.hid (show (l.take k).map (·.take 40) = cutS l by rw [cutS, List.take_of_length_le (by omega), List.take_of_length_le (by omega)])
      go_wp2_with fail
      go_ret
      rw [HE.out] at hF
      exact ⟨_, rfl, hF⟩

end Go.Proofs.YtgfgjkafkdfjpaaDoor
