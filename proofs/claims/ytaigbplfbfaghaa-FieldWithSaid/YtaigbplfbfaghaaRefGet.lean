/- Walks over the reference's is, Without, Get, Unknown. -/
import Derived.Test.YtaigbplfbfaghaaChoose
namespace Go.Proofs.Ytaigbplfbfaghaa
set_option linter.unusedSimpArgs false
set_option linter.unusedVariables false
open Go.RowKit

set_option maxHeartbeats 1000000 in
set_option maxRecDepth 100000 in
theorem ref_is (a b : ByteArray) (w : World) (ha : a.size ≤ maxLen) (hb : b.size ≤ maxLen) :
    Calls Try.prog 60 #[.string a, .string b] w fun e w' => e = .returned (.bool (foldEq (toL a) (toL b))) ∧ Below w.heap.size w w' := by
  go_enter Try.func60, Try.ntmps60
  go_wp2_with fail
  (with_reducible refine (ref_lower a _ ha).mono ?_)
  rintro e w1 ⟨rfl, hb1⟩
  go_wp2_with fail
  (with_reducible refine (ref_lower b _ hb).mono ?_)
  rintro e w2 ⟨rfl, hb2⟩
  go_wp2_with fail
  go_ret
  refine ⟨ret_bool ?_, hb1.trans (hb2.mono hb1.size)⟩
  rw [beq_toList, toL_ofL, toL_ofL]; rfl

theorem el_F : Elem Try.prog 26 25 2 32 := Elem.of Try.underlying26 info_F rfl (by omega)

set_option maxHeartbeats 4000000 in
set_option maxRecDepth 100000 in
theorem ref_without (A : Option Addr) (l : List Fd) (c : Nat) (s : ByteArray) (w : World) (hr : Row w A (fldsV l)) (hl : Mild l) (hs : s.size ≤ maxLen) :
    Calls Try.prog 27 #[.slice A l.length c, .string s] w fun e w' => ∃ v, e = .returned v ∧ FldsOwn w w' 25 v (l.filter fun f => !foldEq f.1 (toL s)) := by
  have HR := Lib.hid hr; clear hr
  obtain ⟨hl1, hl2⟩ := hl
  have HL2 := Lib.hid hl2; clear hl2
  go_enter Try.func27, Try.ntmps27
  go_wp2_with fail
  go_loopg [5, 6] l.length (fun g v ix wr => ∃ k : Nat, g = l.length - k ∧ k ≤ l.length ∧ ix = .int .i64 k ∧ FldsOwn w wr 25 v ((l.take k).filter fun f => !foldEq f.1 (toL s)))
  case atStart => exact ⟨0, by omega, by omega, rfl, ⟨World.ownsRow_nil _ _ _ _, Below.refl _ _⟩⟩
  case round =>
    obtain ⟨k, rfl, hk, rfl, hF⟩ := hrel
    by_cases hlt : k < l.length
    · have hk1 : (0 : Int) ≤ (k : Int) := by omega
      have hk2 : (k : Int) < (l.length : Int) := by omega
      obtain ⟨bb, off, rfl, hbb, _⟩ := HR.out.at (k := 0) (by rw [fldsV_length]; omega)
      obtain ⟨n, hn⟩ : ∃ n, ofL l[k].1 = n := ⟨_, rfl⟩
      obtain ⟨b, hb⟩ : ∃ b, ofL l[k].2 = b := ⟨_, rfl⟩
      have hnL : l[k].1 = toL n := by rw [← hn, toL_ofL]
      have hbL : l[k].2 = toL b := by rw [← hb, toL_ofL]
      have hm : l[k].1.length ≤ 1000000 ∧ l[k].2.length ≤ 1000000 := HL2.out l[k] (List.getElem_mem hlt)
      have HC := Lib.hid (fun wx (hx : Below w.heap.size w wx) => (HR.out.below hx).field' hlt hn hb)
      obtain ⟨hc1, hc2⟩ := HC.out _ hF.bel
      have HNB := Lib.hid (show l[k] = (toL n, toL b) from Prod.ext hnL hbL)
      rw [hnL, hbL, toL_length, toL_length] at hm
      obtain ⟨hm1, hm2⟩ := hm
      clear hn hb hnL hbL
      have HFS := Lib.hid (filter_snoc (fun f => !foldEq f.1 (toL s)) l k hlt)
      rw [HNB.out] at HFS
      have hlen : ((l.take k).filter fun f => !foldEq f.1 (toL s)).length ≤ k := by have := List.length_filter_le (fun f : Fd => !foldEq f.1 (toL s)) (l.take k); simp at this; omega
      go_wp2_with fail
      (with_reducible refine (ref_is n s _ (le_maxLen hm1) hs).mono ?_)
      rintro e w2 ⟨rfl, hb2⟩
      have hF2 := hF.later hb2
      clear hc1 hc2
      obtain ⟨hc1, hc2⟩ := HC.out _ hF2.bel
      rcases hp : foldEq (toL n) (toL s) with _ | _
      · have hsz2 := hF2.bel.size
        have hown2 := hF2.own
        go_wp2_with ((at_builtin; refine wpList_push el_F rfl _ _ rfl hown2 #[.string n, .string b] rfl rfl rfl (by simp [Value.oneCell']) (by omega) (by unfold maxLen; omega) hsz2 ?_; intro g cap w3 hown3 hg3 hat3))
        go_roundg (l.length - (k + 1))
        case measure => omega
        case rel =>
          refine ⟨k + 1, rfl, by omega, by go_num, ?_⟩
          rw [HFS.out, if_pos (by simp [hp])]
          have := hF2.push1 hown3 hg3
          exact this
      · go_wp2_with fail
        go_roundg (l.length - (k + 1))
        case measure => omega
        case rel =>
          refine ⟨k + 1, rfl, by omega, by go_num, ?_⟩
          rw [HFS.out, if_neg (by simp [hp]), List.append_nil]; exact hF2
    · have HE := Lib.hid (show l.take k = l by rw [List.take_of_length_le (by omega)])
      go_wp2_with fail
      go_ret
      rw [HE.out] at hF
      exact ⟨_, rfl, hF⟩

/-- The first body with a name, and how many there are. -/
def getB (l : List Fd) (s : List UInt8) : List UInt8 := match l.filter fun f => foldEq f.1 s with | [] => [] | f :: _ => f.2
def getN (l : List Fd) (s : List UInt8) : Nat := (l.filter fun f => foldEq f.1 s).length
theorem getN_le (l : List Fd) (s : List UInt8) : getN l s ≤ l.length := List.length_filter_le _ _
theorem get_miss (l : List Fd) (s : List UInt8) (k : Nat) (h : k < l.length) (hp : foldEq l[k].1 s = false) : getB (l.take (k + 1)) s = getB (l.take k) s ∧ getN (l.take (k + 1)) s = getN (l.take k) s := by
  have := filter_snoc (fun f => foldEq f.1 s) l k h
  rw [if_neg (by simp [hp]), List.append_nil] at this
  unfold getB getN; rw [this]; exact ⟨rfl, rfl⟩
theorem get_hit (l : List Fd) (s : List UInt8) (k : Nat) (h : k < l.length) (hp : foldEq l[k].1 s = true) : getB (l.take (k + 1)) s = (if getN (l.take k) s = 0 then l[k].2 else getB (l.take k) s) ∧ getN (l.take (k + 1)) s = getN (l.take k) s + 1 := by
  have := filter_snoc (fun f => foldEq f.1 s) l k h
  rw [if_pos hp] at this
  unfold getB getN; rw [this]
  cases (l.take k).filter fun f => foldEq f.1 s with
  | nil => simp
  | cons x r => simp

set_option maxHeartbeats 4000000 in
set_option maxRecDepth 100000 in
theorem ref_get (A : Option Addr) (l : List Fd) (c : Nat) (s : ByteArray) (w : World) (hr : Row w A (fldsV l)) (hl : Mild l) (hs : s.size ≤ maxLen) :
    Calls Try.prog 31 #[.slice A l.length c, .string s] w fun e w' => e = .returned (.tuple #[.string (ofL (getB l (toL s))), .int .i64 (getN l (toL s))]) ∧ Below w.heap.size w w' := by
  have HR := Lib.hid hr; clear hr
  obtain ⟨hl1, hl2⟩ := hl
  have HL2 := Lib.hid hl2; clear hl2
  go_enter Try.func31, Try.ntmps31
  go_wp2_with fail
  go_loopg [6, 7, 8] l.length (fun g bv nv ix wr => ∃ (k N : Nat) (B : ByteArray), g = l.length - k ∧ k ≤ l.length ∧ ix = .int .i64 k ∧ bv = .string B ∧ nv = .int .i64 N ∧ toL B = getB (l.take k) (toL s) ∧ N = getN (l.take k) (toL s) ∧ N ≤ k ∧ Below w.heap.size w wr)
  case atStart => exact ⟨0, 0, ⟨#[]⟩, by omega, by omega, rfl, rfl, rfl, rfl, rfl, by omega, Below.refl _ _⟩
  case round =>
    obtain ⟨k, N, B, rfl, hk, rfl, rfl, rfl, hB, hN, hNk, hbel⟩ := hrel
    have HB := Lib.hid hB; have HN := Lib.hid hN; clear hB hN
    by_cases hlt : k < l.length
    · have hk1 : (0 : Int) ≤ (k : Int) := by omega
      have hk2 : (k : Int) < (l.length : Int) := by omega
      obtain ⟨bb, off, rfl, hbb, _⟩ := HR.out.at (k := 0) (by rw [fldsV_length]; omega)
      obtain ⟨n, hn⟩ : ∃ n, ofL l[k].1 = n := ⟨_, rfl⟩
      obtain ⟨b, hb⟩ : ∃ b, ofL l[k].2 = b := ⟨_, rfl⟩
      have hnL : l[k].1 = toL n := by rw [← hn, toL_ofL]
      have hbL : l[k].2 = toL b := by rw [← hb, toL_ofL]
      have hm : l[k].1.length ≤ 1000000 ∧ l[k].2.length ≤ 1000000 := HL2.out l[k] (List.getElem_mem hlt)
      have HC := Lib.hid (fun wx (hx : Below w.heap.size w wx) => (HR.out.below hx).field' hlt hn hb)
      obtain ⟨hc1, hc2⟩ := HC.out _ hbel
      have HNB := Lib.hid (show l[k] = (toL n, toL b) from Prod.ext hnL hbL)
      rw [hnL, hbL, toL_length, toL_length] at hm
      obtain ⟨hm1, hm2⟩ := hm
      clear hn hb hnL hbL
      have HMISS := Lib.hid (get_miss l (toL s) k hlt)
      have HHIT := Lib.hid (get_hit l (toL s) k hlt)
      rw [HNB.out, ← HN.out, ← HB.out] at HMISS HHIT
      go_wp2_with fail
      (with_reducible refine (ref_is n s _ (le_maxLen hm1) hs).mono ?_)
      rintro e w2 ⟨rfl, hb2⟩
      have hbel2 := hbel.trans (hb2.mono hbel.size)
      clear hc1 hc2
      obtain ⟨hc1, hc2⟩ := HC.out _ hbel2
      rcases hp : foldEq (toL n) (toL s) with _ | _
      · have HM := Lib.hid (HMISS.out hp)
        go_wp2_with fail
        go_roundg (l.length - (k + 1))
        case measure => omega
        case rel => exact ⟨k + 1, N, B, rfl, by omega, by go_num, rfl, rfl, HM.out.1.symm, HM.out.2.symm, by omega, hbel2⟩
      · have HM := Lib.hid (HHIT.out hp)
        by_cases h0 : N = 0
        · subst h0
          go_wp2_with fail
          go_roundg (l.length - (k + 1))
          case measure => omega
          case rel => exact ⟨k + 1, 1, b, rfl, by omega, by go_num, rfl, rfl, by rw [HM.out.1]; rfl, by rw [HM.out.2], by omega, hbel2⟩
        · have h0' : ((N : Int) == 0) = false := beq_eq_false_iff_ne.2 (by omega)
          go_wp2_with fail
          go_roundg (l.length - (k + 1))
          case measure => omega
          case rel => exact ⟨k + 1, N + 1, B, rfl, by omega, by go_num, rfl, by go_num, by rw [HM.out.1, if_neg h0], by rw [HM.out.2], by omega, hbel2⟩
    · have HE := Lib.hid (show l.take k = l by rw [List.take_of_length_le (by omega)])
      go_wp2_with fail
      go_ret2
      rw [HE.out] at HB HN
      exact ⟨by rw [← HB.out, ← HN.out, ofL_toL]; rfl, hbel⟩

end Go.Proofs.Ytaigbplfbfaghaa
