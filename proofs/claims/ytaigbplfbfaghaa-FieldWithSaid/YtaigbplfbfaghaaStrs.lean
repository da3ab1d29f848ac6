/- Slices of strings; the reference's Same. -/
import Derived.Test.YtaigbplfbfaghaaAsc
import Derived.Test.YtaigbplfbfaghaaMem3
namespace Go.Proofs.Ytaigbplfbfaghaa
set_option linter.unusedSimpArgs false
set_option linter.unusedVariables false
open Go.RowKit

theorem info_string : (Try.prog.info? 9).map (fun i => (i.zero, i.size, i.bytes)) = some (some (.string ⟨#[]⟩), 1, 16) := by kernel_rfl
theorem el_string : Elem Try.prog 36 9 1 16 := Elem.of Try.underlying36 info_string rfl (by omega)
structure StrsOwn (w wr : World) (v : Value) (l : List (List UInt8)) : Prop where
  own : wr.ownsRow w.heap.size 9 1 v l.length (strsL l)
  bel : Below w.heap.size w wr
theorem StrsOwn.push1 {w wr w1 : World} {v v' : Value} {l : List (List UInt8)} {x : ByteArray} (h : StrsOwn w wr v l) (hown : w1.ownsRow w.heap.size 9 1 v' (l.length + 1) (strsL l ++ [.string x])) (hg : wr.grownBy w1 v.ownBlock) : StrsOwn w w1 v' (l ++ [toL x]) := by
  refine ⟨by simpa [ofL_toL] using hown, ?_⟩
  exact h.bel.grown hg h.bel.size (fun k hk => (h.own.lt k hk).1)
theorem StrsOwn.later {w wr w1 : World} {v : Value} {l : List (List UInt8)} (h : StrsOwn w wr v l) (hb : Below wr.heap.size wr w1) : StrsOwn w w1 v l :=
  ⟨own_below h.own hb, h.bel.trans (hb.mono h.bel.size)⟩

set_option maxHeartbeats 4000000 in
set_option maxRecDepth 100000 in
theorem refs_same (A B : Option Addr) (l m : List (List UInt8)) (c d : Nat) (w : World) (hr : Row w A (strsL l)) (hq : Row w B (strsL m)) (hl : l.length ≤ 1000000) (hm : m.length ≤ 1000000) :
    Calls Try.prog 32 #[.slice A l.length c, .slice B m.length d] w fun e w' => e = .returned (.bool (decide (l = m))) ∧ Below w.heap.size w w' := by
  have HR := Lib.hid hr; have HQ := Lib.hid hq; clear hr hq
  by_cases hlm : l.length = m.length
  · have hlm' : ((l.length : Int) != (m.length : Int)) = false := by simp [hlm]
    have HLM := Lib.hid hlm; clear hlm
    go_enter Try.func32, Try.ntmps32
    go_wp2_with fail
    go_loopg [5] l.length (fun g ix wr => ∃ k : Nat, g = l.length - k ∧ k ≤ l.length ∧ ix = .int .i64 k ∧ l.take k = m.take k ∧ Below w.heap.size w wr)
    case atStart => exact ⟨0, by omega, by omega, rfl, rfl, Below.refl _ _⟩
    case round =>
      obtain ⟨k, rfl, hk, rfl, htk, hB⟩ := hrel
      have HTK := Lib.hid htk; clear htk
      by_cases hlt : k < l.length
      · have hlt2 : k < m.length := by have := HLM.out; omega
        have hk1 : (0 : Int) ≤ (k : Int) := by omega
        have hk2 : (k : Int) < (l.length : Int) := by omega
        have hk3 : (k : Int) < (m.length : Int) := by omega
        obtain ⟨bb, off, rfl, hc1⟩ := (HR.out.below hB).cell (k := k) (by simpa using hlt)
        obtain ⟨bc, off2, rfl, hd1⟩ := (HQ.out.below hB).cell (k := k) (by simpa using hlt2)
        rw [List.getElem_map] at hc1 hd1
        obtain ⟨n, hn⟩ : ∃ n, ofL l[k] = n := ⟨_, rfl⟩
        obtain ⟨n2, hn2⟩ : ∃ n2, ofL m[k] = n2 := ⟨_, rfl⟩
        have HNB := Lib.hid (show l[k] = toL n by rw [← hn, toL_ofL])
        have HNB2 := Lib.hid (show m[k] = toL n2 by rw [← hn2, toL_ofL])
        rw [hn] at hc1
        rw [hn2] at hd1
        clear hn hn2
        rcases e1 : (n.toList == n2.toList) with _ | _
        · have HF := Lib.hid (show decide (l = m) = false by
            simp only [decide_eq_false_iff_not]; intro e; subst e
            have := HNB.out.symm.trans HNB2.out
            rw [toL_inj this] at e1; simp at e1)
          go_wp2_with fail
          go_quiet (fail)
          go_wp2_with fail
          go_ret
          exact ⟨ret_bool HF.out.symm, below_drewN hB _⟩
        · have HT := Lib.hid (show l.take (k + 1) = m.take (k + 1) by
              rw [List.take_succ_eq_append_getElem hlt, List.take_succ_eq_append_getElem hlt2, HTK.out, HNB.out, HNB2.out]
              have h1 : n = n2 := toL_inj (by rw [ByteArray.toList_eq, ByteArray.toList_eq] at e1; exact eq_of_beq e1)
              rw [h1])
          go_wp2_with fail
          go_quiet (fail)
          go_wp2_with fail
          go_roundg (l.length - (k + 1))
          case measure => omega
          case rel => exact ⟨k + 1, rfl, by omega, by go_num, HT.out, below_drewN hB _⟩
      · have HF := Lib.hid (show decide (l = m) = true by
          have h1 := HTK.out
          rw [List.take_of_length_le (by omega), List.take_of_length_le (by have := HLM.out; omega)] at h1
          simpa using h1)
        go_wp2_with fail
        go_ret
        exact ⟨ret_bool HF.out.symm, hB⟩
  · have hlm' : ((l.length : Int) != (m.length : Int)) = true := by simp; omega
    have HF := Lib.hid (show decide (l = m) = false by
      simp only [decide_eq_false_iff_not]; intro e; subst e; exact hlm rfl)
    clear hlm
    go_enter Try.func32, Try.ntmps32
    go_wp2_with fail
    go_ret
    exact ⟨ret_bool HF.out.symm, Below.refl _ _⟩

end Go.Proofs.Ytaigbplfbfaghaa
