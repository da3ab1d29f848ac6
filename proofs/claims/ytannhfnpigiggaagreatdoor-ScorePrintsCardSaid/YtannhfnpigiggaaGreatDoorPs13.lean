/- Lemmas and walks, part 13. -/
import Derived.Test.YtannhfnpigiggaaGreatDoorPs12
import Derived.Test.YtannhfnpigiggaaGreatDoorPs8
import Derived.RangeFuncNested
import Derived.RangeFuncBound
import Derived.RangeFuncCalls
import Derived.RangeFuncLeaves
import Derived.Shelf.Abstract
import Derived.Shelf.RegionOpen
import Derived.WalkKit
import Derived.OwnWalkIn
import Derived.TacticsInMore
import Derived.LoopNIn
import Derived.LoopIn
import Derived.Test.YtannhfnpigiggaaGreatDoorPs6
import Derived.Test.YtannhfnpigiggaaGreatDoorPs1
namespace Go.Proofs.YtannhfnpigiggaaGreatDoor
set_option linter.unusedSimpArgs false
set_option linter.unusedVariables false
open Go.RowKit Go.Shelf
attribute [local go_sem] Oper.semAt_some

theorem index_nl (L : List UInt8) : (Lib.indexByte L 10 = -1 ∧ L.takeWhile (· != 10) = L) ∨ (Lib.indexByte L 10 = ((L.takeWhile (· != 10)).length : Nat) ∧ (L.takeWhile (· != 10)).length < L.length) := by
  induction L with
  | nil => exact .inl ⟨rfl, rfl⟩
  | cons c r ih =>
    by_cases h : c = 10
    · subst h; exact .inr ⟨rfl, by simp⟩
    · have h1 : (c == 10) = false := by simpa using h
      have h2 : (c != 10) = true := by simp [bne, h1]
      rcases ih with ⟨e1, e2⟩ | ⟨e1, e2⟩
      · exact .inl ⟨by simp [Lib.indexByte, h1, e1], by simp [List.takeWhile_cons, h2, e2]⟩
      · refine .inr ⟨?_, by simp [List.takeWhile_cons, h2]; omega⟩
        have : ¬ Lib.indexByte r 10 = -1 := by omega
        simp [Lib.indexByte, h1, this, List.takeWhile_cons, h2]; omega
theorem cut_nl (L : List UInt8) : (Lib.cut L [10]).1 = L.takeWhile (· != 10) ∧ (Lib.cut L [10]).2.1 = L.drop ((L.takeWhile (· != 10)).length + 1) := by
  unfold Lib.cut
  rw [Lib.index_one]
  rcases index_nl L with ⟨e1, e2⟩ | ⟨e1, e2⟩
  · rw [e1, if_neg (by omega), e2]
    exact ⟨rfl, (List.drop_eq_nil_of_le (by omega)).symm⟩
  · rw [e1, if_pos (by omega)]
    refine ⟨?_, by simp⟩
    simp only [Int.toNat_natCast]
    exact (takeWhile_eq_take (· != 10) L).symm
/-- The rest's first line, and what is behind it. -/
theorem cut_at (L : List UInt8) (i : Nat) (h : i ≤ L.length) : (Lib.cut (L.drop i) [10]).1 = cutL L i (endF L i) ∧ (Lib.cut (L.drop i) [10]).2.1 = L.drop (endF L i + 1) := by
  obtain ⟨h1, h2⟩ := cut_nl (L.drop i)
  rw [h1, h2]
  refine ⟨?_, ?_⟩
  · rw [takeWhile_eq_take]; unfold cutL endF; congr 1; omega
  · rw [List.drop_drop]; unfold endF; rw [Nat.add_assoc]

/-- Lines with their numbers. -/
def numL (k : Nat) (l : List (List UInt8)) : List (Nat × ByteArray) := match l with
  | [] => []
  | x :: r => (k, ofL x) :: numL (k + 1) r
theorem numL_length : ∀ (l : List (List UInt8)) (k : Nat), (numL k l).length = l.length
  | [], _ => rfl
  | _ :: r, k => by simp [numL, numL_length r]
theorem numL_at : ∀ (l : List (List UInt8)) (k i : Nat), (numL k l)[i]? = (l[i]?).map fun x => (k + i, ofL x)
  | [], _, _ => by simp [numL]
  | x :: r, k, 0 => by simp [numL]
  | x :: r, k, i + 1 => by simp [numL, numL_at r]; cases r[i]? <;> simp; omega
theorem numL_texts : ∀ (l : List (List UInt8)) (k : Nat), (numL k l).map (fun x => toL x.2) = l
  | [], _ => rfl
  | x :: r, k => by simp [numL, numL_texts r, toL_ofL]
/-- What a loop over lines is handed. -/
abbrev LnT (M : Nat) := { x : Nat × ByteArray // x.1 ≤ M ∧ x.2.size ≤ M }
variable {M : Nat}
abbrev lnE (x : LnT M) : Array Value := #[.int .i64 (x.1.1 : Int), .string x.1.2]
def restL (L : List UInt8) (i : Nat) : List (List UInt8) := (spans L i).map fun x => cutL L x.1 x.2
theorem restL_zero (L : List UInt8) : linesF L = restL L 0 := rfl
theorem restL_step {L : List UInt8} {i : Nat} (h : i < L.length) : restL L i = cutL L i (endF L i) :: restL L (endF L i + 1) := by
  unfold restL; rw [spans_step h]; rfl
theorem restL_end {L : List UInt8} {i : Nat} (h : L.length ≤ i) : restL L i = [] := by
  unfold restL; rw [spans_end h]; rfl
def AllLn (L : List UInt8) (xs : List (LnT M)) : Prop := xs.map (·.1) = numL 0 (linesF L)
def SomeLn (L : List UInt8) (xs : List (LnT M)) : Prop := xs.map (·.1) <+: numL 0 (linesF L)
/-- pre has come; the rest of the text begins at i. -/
structure LnAt (L : List UInt8) (pre : List (LnT M)) (k i : Nat) : Prop where
  len : pre.length = k
  all : numL 0 (linesF L) = pre.map (·.1) ++ numL k (restL L i)
  le : i ≤ L.length + 1
  few : k ≤ i
theorem LnAt.zero (L : List UInt8) : LnAt (M := M) L [] 0 0 := ⟨rfl, rfl, by omega, by omega⟩
theorem LnAt.done {L : List UInt8} {pre : List (LnT M)} {k i : Nat} (h : LnAt L pre k i) (hi : L.length ≤ i) : AllLn L pre := by
  unfold AllLn; rw [h.all, restL_end hi]; simp [numL]
theorem LnAt.next {L : List UInt8} {pre : List (LnT M)} {k i : Nat} (h : LnAt L pre k i) (hi : i < L.length) (x : LnT M) (hx : x.1 = (k, ofL (cutL L i (endF L i)))) : LnAt L (pre ++ [x]) (k + 1) (endF L i + 1) := by
  have h1 := endF_ge L i
  have h2 := endF_le L i (by omega)
  refine ⟨by simp [h.len], ?_, by omega, by have := h.few; omega⟩
  rw [h.all, restL_step hi]; simp [numL, hx]
theorem LnAt.part {L : List UInt8} {pre : List (LnT M)} {k i : Nat} (h : LnAt L pre k i) : SomeLn L pre := by
  unfold SomeLn; rw [h.all]; exact List.prefix_append _ _

def szOf : Value → Nat
  | .string s => s.size
  | _ => 0
end Go.Proofs.YtannhfnpigiggaaGreatDoor

namespace Go.Proofs.YtannhfnpigiggaaGreatDoor
set_option linter.unusedSimpArgs false
set_option linter.unusedVariables false
variable {M : Nat}

def sumL (l : List (List UInt8)) : Nat := (l.map fun x => x.length + 1).sum
theorem sumL_snoc (l : List (List UInt8)) (x : List UInt8) : sumL (l ++ [x]) = sumL l + x.length + 1 := by simp [sumL]; omega
/-- The first error of a body of N bytes whose lines from at on are these. -/
def chkGo (N : Nat) : Nat → List (List UInt8) → Nat × Int
  | _, [] => (0, 0)
  | i, x :: r => if i + x.length = N then (N, 4) else if 998 < x.length then (i + 998, 5) else if 0 ≤ badG x then (i + (badG x).toNat, 6) else chkGo N (i + x.length + 1) r
theorem chk_go (L : List UInt8) : ∀ (n i : Nat), bodyGo L (spansU n L i) = chkGo L.length i ((spansU n L i).map fun x => cutL L x.1 x.2)
  | 0, i => by simp [spansU, bodyGo, chkGo]
  | n + 1, i => by
    rw [spansU]
    by_cases h : i < L.length
    · have h1 := endF_ge L i
      have h2 := endF_le L i (by omega)
      have hc := cutL_length L i (endF L i) h2
      have e1 : i + (endF L i - i) = endF L i := by omega
      rw [if_pos h, List.map_cons, bodyGo, chkGo, hc, e1, chk_go L n]
    · rw [if_neg h]; simp [bodyGo, chkGo]
theorem chk_body (L : List UInt8) : bodyF L = chkGo L.length 0 (linesF L) := chk_go L _ 0
theorem bodyGo_le (L : List UInt8) : ∀ (n i : Nat), (bodyGo L (spansU n L i)).1 ≤ L.length
  | 0, i => by simp [spansU, bodyGo]
  | n + 1, i => by
    rw [spansU]
    by_cases h : i < L.length
    · have h1 := endF_ge L i
      have h2 := endF_le L i (by omega)
      have h3 := badG_le (cutL L i (endF L i))
      rw [cutL_length _ _ _ h2] at h3
      rw [if_pos h, bodyGo]
      split
      · exact Nat.le_refl _
      · split
        · simp only; omega
        · split
          · simp only; omega
          · exact bodyGo_le L n _
    · rw [if_neg h]; simp [bodyGo]
theorem body_le (L : List UInt8) : (bodyF L).1 ≤ L.length := bodyGo_le L _ 0
/-- No error in these lines. -/
def Clean (N : Nat) (pre : List (List UInt8)) : Prop := ∀ rest, chkGo N 0 (pre ++ rest) = chkGo N (sumL pre) rest
/-- The last of these lines has the first error. -/
def StopAt (N : Nat) (pre : List (List UInt8)) (v : Nat × Int) : Prop := ∀ rest, chkGo N 0 (pre ++ rest) = v
theorem Clean.nil (N : Nat) : Clean N [] := fun _ => rfl
theorem Clean.step {N : Nat} {pre : List (List UInt8)} (h : Clean N pre) (x : List UInt8) (rest : List (List UInt8)) :
    chkGo N 0 (pre ++ [x] ++ rest) = if sumL pre + x.length = N then (N, 4) else if 998 < x.length then (sumL pre + 998, 5) else if 0 ≤ badG x then (sumL pre + (badG x).toNat, 6) else chkGo N (sumL (pre ++ [x])) rest := by
  rw [List.append_assoc, h, sumL_snoc]; rfl
theorem Clean.next {N : Nat} {pre : List (List UInt8)} (h : Clean N pre) {x : List UInt8} (h1 : ¬ sumL pre + x.length = N) (h2 : ¬ 998 < x.length) (h3 : ¬ 0 ≤ badG x) : Clean N (pre ++ [x]) := fun rest => by
  rw [h.step, if_neg h1, if_neg h2, if_neg h3]
theorem Clean.short {N : Nat} {pre : List (List UInt8)} (h : Clean N pre) {x : List UInt8} (h1 : sumL pre + x.length = N) : StopAt N (pre ++ [x]) (N, 4) := fun rest => by
  rw [h.step, if_pos h1]
theorem Clean.long {N : Nat} {pre : List (List UInt8)} (h : Clean N pre) {x : List UInt8} (h1 : ¬ sumL pre + x.length = N) (h2 : 998 < x.length) : StopAt N (pre ++ [x]) (sumL pre + 998, 5) := fun rest => by
  rw [h.step, if_neg h1, if_pos h2]
theorem Clean.byte {N : Nat} {pre : List (List UInt8)} (h : Clean N pre) {x : List UInt8} (h1 : ¬ sumL pre + x.length = N) (h2 : ¬ 998 < x.length) (h3 : 0 ≤ badG x) : StopAt N (pre ++ [x]) (sumL pre + (badG x).toNat, 6) := fun rest => by
  rw [h.step, if_neg h1, if_neg h2, if_pos h3]
/-- The texts of lines. -/
def txL (xs : List (LnT M)) : List (List UInt8) := xs.map fun x => toL x.1.2
theorem txL_snoc (xs : List (LnT M)) (x : LnT M) : txL (xs ++ [x]) = txL xs ++ [toL x.1.2] := by simp [txL]
theorem txL_nil : txL (M := M) [] = [] := rfl
theorem txL_all {L : List UInt8} {xs : List (LnT M)} (h : AllLn L xs) : txL xs = linesF L := by
  have := congrArg (List.map fun x => toL x.2) h
  rw [numL_texts, List.map_map] at this; exact this
theorem txL_some {L : List UInt8} {pre : List (LnT M)} (h : SomeLn L pre) : ∃ r, linesF L = txL pre ++ r := by
  obtain ⟨r, hr⟩ := h
  have := congrArg (List.map fun x : Nat × ByteArray => toL x.2) hr
  rw [numL_texts, List.map_append, List.map_map] at this
  exact ⟨_, this.symm⟩
theorem sumL_le (xs : List (LnT M)) : sumL (txL xs) ≤ xs.length * (M + 1) := by
  induction xs with
  | nil => simp [sumL, txL]
  | cons x r ih =>
    have h1 : sumL (txL (x :: r)) = (toL x.1.2).length + 1 + sumL (txL r) := by simp [sumL, txL]
    have := x.2.2
    rw [h1, toL_length, List.length_cons, Nat.succ_mul]; omega
theorem body_done {L : List UInt8} {xs : List (LnT M)} (h : AllLn L xs) (hc : Clean L.length (txL xs)) : bodyF L = (0, 0) := by
  have := hc []
  rw [List.append_nil, txL_all h] at this
  rw [chk_body, this]; rfl
theorem body_stop {L : List UInt8} {pre : List (LnT M)} {v : Nat × Int} (h : SomeLn L pre) (hs : StopAt L.length (txL pre) v) : bodyF L = v := by
  obtain ⟨r, hr⟩ := txL_some h
  rw [chk_body, hr, hs]
end Go.Proofs.YtannhfnpigiggaaGreatDoor

namespace Go.Proofs.YtannhfnpigiggaaGreatDoor
set_option linter.unusedSimpArgs false
set_option linter.unusedVariables false
open Go.RowKit Go.Shelf
attribute [local go_sem] Oper.semAt_some

abbrev RnT := { x : Nat × Nat // x.1 ≤ 100000000 ∧ x.2 ≤ 1114111 ∧ (x.2 < 55296 ∨ 57343 < x.2) }
abbrev rnE (x : RnT) : Array Value := #[.int .i64 (x.1.1 : Int), .int .i32 (x.1.2 : Int)]
def AllRn (L : List UInt8) (xs : List RnT) : Prop := xs.map (·.1) = (allF L 0).1
def SomeRn (L : List UInt8) (xs : List RnT) : Prop := xs.map (·.1) <+: (allF L 0).1
structure RnAt (L : List UInt8) (pre : List RnT) (i : Nat) : Prop where
  all : (allF L 0).1 = pre.map (·.1) ++ (allF (L.drop i) i).1
  le : i ≤ L.length
  few : pre.length ≤ i
theorem RnAt.zero (L : List UInt8) : RnAt L [] 0 := ⟨rfl, by omega, Nat.le_refl _⟩
theorem RnAt.done {L : List UInt8} {pre : List RnT} {i : Nat} (h : RnAt L pre i) (hi : L.length ≤ i) : AllRn L pre := by
  unfold AllRn; rw [h.all, List.drop_eq_nil_of_le hi, allF_nil]; simp
theorem drop_ne {L : List UInt8} {i : Nat} (h : i < L.length) : L.drop i ≠ [] := fun e => by have := congrArg List.length e; rw [List.length_drop] at this; simp at this; omega
theorem RnAt.err {L : List UInt8} {pre : List RnT} {i : Nat} (h : RnAt L pre i) (hi : i < L.length) (he : (decU (L.drop i)).2.2 ≠ 0) : AllRn L pre := by
  unfold AllRn; rw [h.all, allF_err (drop_ne hi) i he]; simp
theorem RnAt.next {L : List UInt8} {pre : List RnT} {i : Nat} (h : RnAt L pre i) (hi : i < L.length) (he : (decU (L.drop i)).2.2 = 0) (x : RnT) (hx : x.1 = (i, (decU (L.drop i)).1)) : RnAt L (pre ++ [x]) (i + (decU (L.drop i)).2.1) := by
  have hk := decU_ok he
  rw [List.length_drop] at hk
  refine ⟨?_, by omega, by have := h.few; simp; omega⟩
  rw [h.all, allF_ok (drop_ne hi) i he, List.drop_drop]; simp [hx]
theorem RnAt.part {L : List UInt8} {pre : List RnT} {i : Nat} (h : RnAt L pre i) : SomeRn L pre := by
  unfold SomeRn; rw [h.all]; exact List.prefix_append _ _
def runeB (r : Nat) : Prop := r ≤ 1114111 ∧ (r < 55296 ∨ 57343 < r)
theorem begR_lead {f : UInt8} {r : List UInt8} {y : Nat × Nat} (h : begR (f :: r) = some y) : y.1 = leadN f ∧ okR (leadN f) (r.length + 1) y.2 = true := by
  rw [begR] at h
  split at h
  · cases h
  · split at h
    · cases h
    · split at h
      · rename_i hk; injection h with h; subst h; exact ⟨rfl, hk⟩
      · cases h
theorem okR_rune {n v : Nat} (h : okR n n v = true) : runeB v := by
  have hm : mostU n ≤ 1114111 := by unfold mostU; split <;> (try split) <;> (try split) <;> (try split) <;> omega
  unfold okR at h
  rw [Nat.sub_self] at h
  simp only [lowR, highR, Bool.not_eq_true', Bool.or_eq_false_iff, Bool.and_eq_false_iff, decide_eq_false_iff_not] at h
  unfold runeB
  generalize leastU n = a at *
  generalize mostU n = b at *
  obtain ⟨h1, h2⟩ := h
  have q1 := Nat.le_max_left v a
  have q2 := Nat.min_le_left v b
  have q3 := Nat.min_le_right v b
  have h3 := of_decide_eq_false h2
  rcases h1 with h1 | h1
  · have h4 := of_decide_eq_false h1; omega
  · have h4 := of_decide_eq_false h1; omega
theorem decU_rune {l : List UInt8} (h : (decU l).2.2 = 0) : runeB (decU l).1 := by
  cases l with
  | nil => simp [decU] at h
  | cons f r =>
    rw [← firstR_eq] at h ⊢
    unfold firstR at h ⊢
    cases h1 : begR ((f :: r).take 1) with
    | none => rw [h1] at h; simp at h
    | some x =>
      rw [h1] at h
      dsimp only at h ⊢
      by_cases h2 : x.1 ≤ (f :: r).length
      · rw [if_pos h2] at h ⊢
        cases h3 : begR ((f :: r).take x.1) with
        | none => rw [h3] at h; simp at h
        | some y =>
          dsimp only
          have hx := (begR_lead (f := f) (r := []) h1).1
          cases hk : x.1 with
          | zero => rw [hk] at h3; simp [begR] at h3
          | succ k =>
            rw [hk, List.take_succ_cons] at h3
            obtain ⟨h4, h5⟩ := begR_lead h3
            have hl : (r.take k).length + 1 = x.1 := by rw [List.length_take]; simp at h2; omega
            rw [hl, hx] at h5
            exact okR_rune h5
      · rw [if_neg h2] at h
        cases h3 : begR (f :: r) with
        | none => rw [h3] at h; simp at h
        | some y => rw [h3] at h; simp at h

theorem art_runes (s : ByteArray) (w : World) (n : Nat) : CallsIn Fence.wide n Tryz.prog 137 #[.string s] w fun e w' => e = .returned (.func (.func 151) #[] #[.pointer (some ⟨w.heap.size, 0, none⟩)]) ∧ w' = w.alloc (.cells #[.string s] 9) := by
  refine callsIn_of_wp Tryz.func137 rfl trivial ?_ rfl
  simp only [Tryz.ntmps137, List.size_toArray, List.length_cons, List.length_nil, Nat.reduceAdd, Nat.reduceSub, Array.replicate_succ, Array.replicate_zero, List.push_toArray, List.append_toArray, List.nil_append, List.cons_append]
  gi_wp2
  go_ret
  exact ⟨rfl, rfl⟩

set_option maxRecDepth 100000 in
set_option maxHeartbeats 4000000 in
theorem runes_stops (n : Nat) (hn : 1 ≤ n) (Kp : World → World → Prop) (w : World) (B : Nat) (hB : B < w.heap.size) (s : ByteArray) (hKc : ∀ W W', Kp W W' → W.cell? ⟨B, 0, none⟩ = some (.string s) → W'.cell? ⟨B, 0, none⟩ = some (.string s)) (hs : s.size ≤ 90000000) (hc : w.cell? ⟨B, 0, none⟩ = some (.string s)) :
    SeqStopsK Fence.wide n Tryz.prog 151 #[.pointer (some ⟨B, 0, none⟩)] rnE Kp (AllRn (toL s)) (SomeRn (toL s)) 100000000 w := fun l J Jx W hW hJA _ hY h0 => by
  have HJA := Lib.hid hJA
  have HKC := Lib.hid hKc; clear hKc
  have HC := Lib.hid ((hW.cell (p := ⟨B, 0, none⟩) hB).trans hc)
  have HL := Lib.hid (toL_length s)
  have HZ := Lib.hid (RnAt.zero (toL s))
  have HY := Lib.hid hY
  clear hW hY hc hB hJA
  refine callsIn_of_wp Tryz.func151 rfl trivial ?_ rfl
  simp only [Tryz.ntmps151, List.size_toArray, List.length_cons, List.length_nil, Nat.reduceAdd, Nat.reduceSub, Array.replicate_succ, Array.replicate_zero, List.push_toArray, List.append_toArray, List.nil_append, List.cons_append]
  gi_wp2
  gi_loopw [3] (fun i wr => ∃ (at_ : Nat) (pre : List RnT), i = .int .i64 (at_ : Int) ∧ RnAt (toL s) pre at_ ∧ J pre wr ∧ wr.cell? ⟨B, 0, none⟩ = some (.string s))
    (fun i _ => s.size - (intOf i).toNat)
  case atStart => exact ⟨0, [], rfl, HZ.out, h0, HC.out⟩
  case round =>
    obtain ⟨at_, pre, rfl, hat, hJ0, hcr⟩ := hrel
    have HAT := Lib.hid hat
    have hle := HAT.out.le
    rw [HL.out] at hle
    clear hat HZ h0 HC
    have k0 : (0 : Int) ≤ (at_ : Int) := by omega
    by_cases hlt : at_ < s.size
    · have k1 : (at_ : Int) < (s.size : Int) := by omega
      have HT := Lib.hid (ext_drop s at_)
      have hxs : (s.extract at_ s.size).size ≤ 100000000 := by rw [extract_size _ _ _ (Nat.le_refl _)]; omega
      have HDC := Lib.hid (fun wx => u8_decode (s.extract at_ s.size) wx hxs)
      rw [HT.out] at HDC
      have hll : at_ < (toL s).length := by rw [HL.out]; exact hlt
      have hsz := decU_size ((toL s).drop at_)
      by_cases he : (decU ((toL s).drop at_)).2.2 = 0
      · have HN := Lib.hid (fun (x : RnT) hx => HAT.out.next hll he x hx)
        have hru := decU_rune he
        have hk := decU_ok he
        rw [List.length_drop, HL.out] at hk
        rw [he] at HDC
        generalize (decU ((toL s).drop at_)).2.1 = m at *
        generalize (decU ((toL s).drop at_)).1 = r at *
        have hfew := HAT.out.few
        clear he
        gi_wp2_with (refine ⟨trivial, ?_⟩; gi_at_call 152; refine (callsIn_wide.2 (HDC.out _)).mono ?_; rintro e w' ⟨rfl, nd, rfl⟩)
        have hJ1 := HJA.out pre wr (wr.drewN nd) none hJ0 ⟨rfl, rfl, rfl, Nat.le_refl _, fun _ _ _ => rfl⟩ (fun r e => by cases e)
        obtain ⟨fn, tmps, assign, body, hy, hY1⟩ := HY.out pre ⟨(at_, r), by omega, hru⟩ (wr.drewN nd) hJ1 (by omega)
        dsimp only [rnE] at hy
        have hcd : (wr.drewN nd).cell? ⟨B, 0, none⟩ = some (.string s) := hcr
        rw [hy]
        gi_wp2
        refine hY1.mono ?_
        rintro e W3 (⟨rfl, hJ3, hk3⟩ | ⟨rfl, hJx3⟩)
        · have hc3 := HKC.out _ _ hk3 hcd
          gi_wp2
          go_roundw
          case rel => exact ⟨at_ + m, _, by go_num, HN.out _ rfl, hJ3, hc3⟩
          case measure => simp [intOf] <;> omega
        · gi_wp2
          refine bodyPost_ret (results_none rfl _ _ _) rfl ?_
          exact ⟨⟨_, rfl⟩, .inr ⟨_, (HN.out ⟨(at_, r), by omega, hru⟩ rfl).part, hJx3⟩⟩
      · have HD := Lib.hid (HAT.out.err hll he)
        have e2 : ((decU ((toL s).drop at_)).2.2 != 0) = true := by simp [bne, he]
        generalize (decU ((toL s).drop at_)).2.2 = ke at *
        generalize (decU ((toL s).drop at_)).2.1 = m at *
        generalize (decU ((toL s).drop at_)).1 = r at *
        clear he
        gi_wp2_with (refine ⟨trivial, ?_⟩; gi_at_call 152; refine (callsIn_wide.2 (HDC.out _)).mono ?_; rintro e w' ⟨rfl, nd, rfl⟩)
        all_goals
          refine ⟨fun _ h => (by cases h), ?_⟩
          gi_wp2
        all_goals
          refine bodyPost_ret (results_none rfl _ _ _) rfl ?_
          exact ⟨⟨_, rfl⟩, .inl ⟨_, HD.out, HJA.out pre wr (wr.drewN nd) none hJ0 ⟨rfl, rfl, rfl, Nat.le_refl _, fun _ _ _ => rfl⟩ (fun r e => by cases e)⟩⟩
    · have k1 : (s.size : Int) ≤ (at_ : Int) := by omega
      have HD := Lib.hid (HAT.out.done (by rw [HL.out]; omega))
      gi_wp2
      go_end0
      exact ⟨⟨_, rfl⟩, .inl ⟨pre, HD.out, hJ0⟩⟩
end Go.Proofs.YtannhfnpigiggaaGreatDoor

namespace Go.Proofs.YtannhfnpigiggaaGreatDoor
set_option linter.unusedSimpArgs false
set_option linter.unusedVariables false
open Go.RowKit Go.Shelf
attribute [local go_sem] Oper.semAt_some

def hitX (x : RnT) : Bool := hitP2 x.1
/-- None of these is a bad code point. -/
def NoHit (pre : List RnT) : Prop := pre.find? hitX = none
/-- The last of these is a bad code point, and the first one. -/
def LastHit (pre : List RnT) (n : Nat) : Prop := ∃ ini last, pre = ini ++ [last] ∧ NoHit ini ∧ hitX last = true ∧ last.1.1 = n
theorem NoHit.nil : NoHit [] := rfl
theorem NoHit.snoc {pre : List RnT} {x : RnT} (h : NoHit pre) (hx : hitX x = false) : NoHit (pre ++ [x]) := by
  unfold NoHit at *; rw [List.find?_append, h]; simp [hx]
theorem find_map (l : List RnT) : (l.map (·.1)).find? hitP2 = (l.find? hitX).map (·.1) := by
  induction l with
  | nil => rfl
  | cons x r ih =>
    have e : hitP2 x.1 = hitX x := rfl
    cases h : hitX x
    · rw [List.map_cons, List.find?_cons, List.find?_cons, e, h]; exact ih
    · rw [List.map_cons, List.find?_cons, List.find?_cons, e, h]; rfl
theorem bad_none {L : List UInt8} {xs : List RnT} (h : AllRn L xs) (hn : NoHit xs) : badG L = match (allF L 0).2 with
    | some y => (y.1 : Int)
    | none => -1 := by
  unfold badG
  rw [← h, find_map, hn]; rfl
theorem bad_some {L : List UInt8} {pre : List RnT} {n : Nat} (h : SomeRn L pre) (hl : LastHit pre n) : badG L = (n : Int) := by
  obtain ⟨ini, last, rfl, h1, h2, rfl⟩ := hl
  obtain ⟨r, hr⟩ := h
  have hf : (ini ++ [last]).find? hitX = some last := by rw [List.find?_append, h1]; simp [h2]
  unfold badG
  rw [← hr, List.find?_append, find_map, hf]; rfl
theorem bad_chk {L : List UInt8} {xs : List RnT} (h : AllRn L xs) (hn : NoHit xs) : ((chkF L).2 = 0 → badG L = -1) ∧ ((chkF L).2 ≠ 0 → badG L = ((chkF L).1 : Int)) := by
  rw [bad_none h hn]
  constructor
  · intro h0; rw [chk_none.1 h0]
  · intro h0
    cases e : (allF L 0).2 with
    | none => exact absurd (chk_none.2 e) h0
    | some y => rw [chk_some e]

end Go.Proofs.YtannhfnpigiggaaGreatDoor

namespace Go.Proofs.YtannhfnpigiggaaGreatDoor
set_option linter.unusedSimpArgs false
set_option linter.unusedVariables false
open Go.RowKit Go.Shelf
attribute [local go_sem] Oper.semAt_some

theorem keeps_below {B : Nat} {W W' : World} (h : Below W.heap.size W W') : KeepsFrom B W W' :=
  KeepsOthers.from ⟨h.size, fun k o hk _ => (h.block k (heap_lt hk)).trans hk⟩ B
theorem bx_below {W W' : World} {B : Nat} {t : TypeId} {v : Value} (h : Boxed W B t v) (hb : Below W.heap.size W W') : Boxed W' B t v := (hb.block _ h.lt).trans h
theorem bx_put {W : World} {B : Nat} {t : TypeId} {v : Value} (h : Boxed W B t v) (v' : Value) : Boxed (W.setCell ⟨B, 0, none⟩ v') B t v' := h.set v'
/-- The way out behind a loop over an iterator: two boxed results. -/
theorem retBox2 {f : Func} {n t1 t2 : Nat} {W : World} {D b : Nat} {v1 v2 : Value} {T : Array Value} {Q : Ending → World → Prop} (hf : f.results = #[.cell 2 t1, .cell 3 t2]) (h1 : Boxed W b t1 v1) (h2 : Boxed W (b + 1) t2 v2) (hK : W.heap[D]? = some (.deferred (some [])))
    (hQ : Q (.returned (.tuple #[v1, v2])) (W.putObj D (.deferred none))) (hT1 : T[2]? = some (.pointer (some ⟨b, 0, none⟩))) (hT2 : T[3]? = some (.pointer (some ⟨b + 1, 0, none⟩)))
    (ha1 : ∀ w, (isAgg t1).run Tryz.prog w = .ok false w) (ha2 : ∀ w, (isAgg t2).run Tryz.prog w = .ok false w) :
    bodyPostM Fence.wide n Tryz.prog f Q .ret { tmps := T, defers := [{ target := .collected D, args := #[] }] } W := by
  have c1 := cell_kept h1.cell (grownBy_putObj' W D (.deferred none)) (fun r e => by cases e; exact ⟨_, hK, rfl⟩)
  have c2 := cell_kept h2.cell (grownBy_putObj' W D (.deferred none)) (fun r e => by cases e; exact ⟨_, hK, rfl⟩)
  refine ⟨by simp, .inl ⟨_, _, rfl, run_takeDeferred hK, ?_⟩⟩
  refine ⟨.tuple #[v1, v2], ?_, hQ⟩
  simp [results, hf, go_sem, hT1, hT2, c1, c2, ha1, ha2]
theorem bx_new {W : World} {B : Nat} (t : TypeId) (v : Value) (h : W.heap.size = B) : Boxed (W.alloc (.cells #[v] t)) B t v := by subst h; exact Boxed.new W t v
theorem bx_own {W W' : World} {row : Option Nat} {B : Nat} {t : TypeId} {v : Value} (h : Boxed W B t v) (hg : W.grownBy W' row) (hr : ∀ r, row = some r → ∃ o : Obj, W.heap[r]? = some o ∧ o.isCells = false) : Boxed W' B t v :=
  boxed_own (β := Unit) B t (fun _ => v) () W W' row h hg hr
/-- Between two lines of CheckBody. -/
structure CbI (b : Nat) (s : ByteArray) (pre : List (LnT 900000)) (W : World) : Prop where
  clean : Clean (toL s).length (txL pre)
  r1 : Boxed W (b + 1) 3 (.int .i64 0)
  r2 : Boxed W (b + 1 + 1) 28 (.int .i64 0)
  at_ : Boxed W (b + 1 + 1 + 1) 3 (.int .i64 (sumL (txL pre) : Nat))
  sb : Boxed W b 9 (.string s)
/-- CheckBody has found an error. -/
structure CbX (b : Nat) (s : ByteArray) (c : Code) (pre : List (LnT 900000)) (W : World) : Prop where
  ret : c = .ret
  ex : ∃ (n : Nat) (e : Int), StopAt (toL s).length (txL pre) (n, e) ∧ Boxed W (b + 1) 3 (.int .i64 (n : Int)) ∧ Boxed W (b + 1 + 1) 28 (.int .i64 e)
theorem CbI.own (b : Nat) (s : ByteArray) : Own (CbI b s) := fun _ _ _ _ hs hg hr => ⟨hs.clean, bx_own hs.r1 hg hr, bx_own hs.r2 hg hr, bx_own hs.at_ hg hr, bx_own hs.sb hg hr⟩
theorem CbX.own (b : Nat) (s : ByteArray) (c : Code) : Own (CbX b s c) := fun _ _ _ _ hs hg hr => by
  obtain ⟨h1, n, e, h2, h3, h4⟩ := hs
  exact ⟨h1, n, e, h2, bx_own h3 hg hr, bx_own h4 hg hr⟩

theorem bx_two {W : World} {b t1 t2 : Nat} {u1 u2 : Value} (v1 v2 : Value) (h1 : Boxed W b t1 u1) (h2 : Boxed W (b + 1) t2 u2) :
    Boxed ((W.setCell ⟨b, 0, none⟩ v1).setCell ⟨b + 1, 0, none⟩ v2) b t1 v1 ∧ Boxed ((W.setCell ⟨b, 0, none⟩ v1).setCell ⟨b + 1, 0, none⟩ v2) (b + 1) t2 v2 :=
  ⟨(h1.set v1).other (by omega) _, (h2.other (by omega) v1).set v2⟩
theorem keeps_two (B : Nat) (W : World) (p q : Addr) (v1 v2 : Value) : KeepsFrom B W ((W.setCell p v1).setCell q v2) := ((KeepsOthers.setCell W p v1).trans (KeepsOthers.setCell _ q v2)).from B
theorem below_two {n b : Nat} {w W : World} (h : Below n w W) (hb : n ≤ b) (v1 v2 : Value) : Below n w ((W.setCell ⟨b, 0, none⟩ v1).setCell ⟨b + 1, 0, none⟩ v2) :=
  (h.setCell (p := ⟨b, 0, none⟩) hb v1).setCell (p := ⟨b + 1, 0, none⟩) (Nat.le_succ_of_le hb) v2
theorem CbX.of {b : Nat} {s : ByteArray} {pre : List (LnT 900000)} {W : World} {u1 u2 v1 : Value} (n : Nat) (e : Int) (hst : StopAt (toL s).length (txL pre) (n, e)) (h1 : Boxed W (b + 1) 3 u1) (h2 : Boxed W (b + 1 + 1) 28 u2) (hv : v1 = .int .i64 (n : Int)) :
    CbX b s .ret pre ((W.setCell ⟨b + 1, 0, none⟩ v1).setCell ⟨b + 1 + 1, 0, none⟩ (.int .i64 e)) := by
  subst hv
  obtain ⟨q1, q2⟩ := bx_two (.int .i64 (n : Int)) (.int .i64 e) h1 h2
  exact ⟨rfl, n, e, hst, q1, q2⟩
end Go.Proofs.YtannhfnpigiggaaGreatDoor

namespace Go.Proofs.YtannhfnpigiggaaGreatDoor
set_option linter.unusedSimpArgs false
set_option linter.unusedVariables false

/-- The bytes of a code point. -/
def encU (r : Nat) : List UInt8 :=
  if r ≤ 127 then [UInt8.ofNat r] else
  if r ≤ 2047 then [UInt8.ofNat (192 + r / 64), UInt8.ofNat (128 + r % 64)] else
  if r ≤ 65535 then [UInt8.ofNat (224 + r / 4096), UInt8.ofNat (128 + r / 64 % 64), UInt8.ofNat (128 + r % 64)] else
  [UInt8.ofNat (240 + r / 262144), UInt8.ofNat (128 + r / 4096 % 64), UInt8.ofNat (128 + r / 64 % 64), UInt8.ofNat (128 + r % 64)]
theorem byte_of (n : Nat) (h : n < 256) : ∃ c, UInt8.ofNat n = c ∧ c.toNat = n := ⟨_, rfl, by rw [UInt8.toNat_ofNat']; omega⟩
theorem encU_len (r : Nat) : 1 ≤ (encU r).length ∧ (encU r).length ≤ 4 := by
  unfold encU
  split
  · simp
  · split
    · simp
    · split <;> simp
theorem lenU_1 {c : UInt8} (h : c.toNat ≤ 127) : lenU c = 1 := by unfold lenU; rw [if_neg (by omega), if_neg (by omega), if_neg (by omega), if_pos h]
theorem lenU_2 {c : UInt8} (h : 194 ≤ c.toNat ∧ c.toNat ≤ 223) : lenU c = 2 := by unfold lenU; rw [if_neg (by omega), if_neg (by omega), if_pos h]
theorem lenU_3 {c : UInt8} (h : 224 ≤ c.toNat ∧ c.toNat ≤ 239) : lenU c = 3 := by unfold lenU; rw [if_neg (by omega), if_pos h]
theorem lenU_4 {c : UInt8} (h : 240 ≤ c.toNat ∧ c.toNat ≤ 244) : lenU c = 4 := by unfold lenU; rw [if_pos h]
theorem run_go {f c : UInt8} {n i : Nat} {t : List UInt8} (h1 : i < n) (h2 : contU f i c = true) : runU f n i (c :: t) = runU f n (i + 1) t + 1 := by rw [runU, if_pos ⟨h1, h2⟩]
theorem dec_whole {f : UInt8} {l : List UInt8} {n : Nat} (h1 : lenU f = n) (h0 : 0 < n) (h2 : measU (f :: l) = n) : decU (f :: l) = (valU ((f :: l).take n), n, 0) := by
  unfold decU; dsimp only; rw [if_pos ⟨h2.trans h1.symm, by omega⟩, h2]
theorem dec_enc (r : Nat) (h : runeB r) (t : List UInt8) : decU (encU r ++ t) = (r, (encU r).length, 0) := by
  obtain ⟨hr1, hr2⟩ := h
  unfold encU
  by_cases h1 : r ≤ 127
  · rw [if_pos h1]
    obtain ⟨a, ea, ha⟩ := byte_of r (by omega)
    rw [ea, List.singleton_append]
    have hl := lenU_1 (c := a) (by omega)
    have hm : measU (a :: t) = 1 := by rw [measU_cons _ _ (by omega), hl, run_stop _ _ _ _ (Nat.le_refl _)]
    rw [dec_whole hl (by omega) hm]
    simp only [List.take_succ_cons, List.take_zero, valU, foldU, List.foldl_nil, List.length_singleton]
    rw [(leadU_of (a := a)).1 (by omega), ha]
  · rw [if_neg h1]
    by_cases h2 : r ≤ 2047
    · rw [if_pos h2]
      obtain ⟨a, ea, ha⟩ := byte_of (192 + r / 64) (by omega)
      obtain ⟨b, eb, hb⟩ := byte_of (128 + r % 64) (by omega)
      rw [ea, eb]
      simp only [List.cons_append, List.nil_append]
      have hl := lenU_2 (c := a) (by omega)
      have c1 : contU a 1 b = true := (cont1_iff a b).2 (by omega)
      have hm : measU (a :: b :: t) = 2 := by rw [measU_cons _ _ (by omega), hl, run_go (by omega) c1, run_stop _ _ _ _ (Nat.le_refl _)]
      rw [dec_whole hl (by omega) hm]
      simp only [List.take_succ_cons, List.take_zero, valU, foldU, List.foldl_cons, List.foldl_nil, List.length_cons, List.length_nil]
      rw [(leadU_of (a := a)).2.1 (by omega) (by omega), ha, hb]
      refine Prod.ext ?_ rfl
      show 64 * (192 + r / 64 - 192) + (128 + r % 64 - 128) = r
      omega
    · rw [if_neg h2]
      by_cases h3 : r ≤ 65535
      · rw [if_pos h3]
        obtain ⟨a, ea, ha⟩ := byte_of (224 + r / 4096) (by omega)
        obtain ⟨b, eb, hb⟩ := byte_of (128 + r / 64 % 64) (by omega)
        obtain ⟨c, ec, hc⟩ := byte_of (128 + r % 64) (by omega)
        rw [ea, eb, ec]
        simp only [List.cons_append, List.nil_append]
        have hl := lenU_3 (c := a) (by omega)
        have c1 : contU a 1 b = true := (cont1_iff a b).2 (by omega)
        have c2 : contU a 2 c = true := by rw [cont_rest (by omega)]; exact decide_eq_true (by omega)
        have hm : measU (a :: b :: c :: t) = 3 := by rw [measU_cons _ _ (by omega), hl, run_go (by omega) c1, run_go (by omega) c2, run_stop _ _ _ _ (Nat.le_refl _)]
        rw [dec_whole hl (by omega) hm]
        simp only [List.take_succ_cons, List.take_zero, valU, foldU, List.foldl_cons, List.foldl_nil, List.length_cons, List.length_nil]
        rw [(leadU_of (a := a)).2.2.1 (by omega) (by omega), ha, hb, hc]
        refine Prod.ext ?_ rfl
        show 64 * (64 * (224 + r / 4096 - 224) + (128 + r / 64 % 64 - 128)) + (128 + r % 64 - 128) = r
        omega
      · rw [if_neg h3]
        obtain ⟨a, ea, ha⟩ := byte_of (240 + r / 262144) (by omega)
        obtain ⟨b, eb, hb⟩ := byte_of (128 + r / 4096 % 64) (by omega)
        obtain ⟨c, ec, hc⟩ := byte_of (128 + r / 64 % 64) (by omega)
        obtain ⟨d, ed, hd⟩ := byte_of (128 + r % 64) (by omega)
        rw [ea, eb, ec, ed]
        simp only [List.cons_append, List.nil_append]
        have hl := lenU_4 (c := a) (by omega)
        have c1 : contU a 1 b = true := (cont1_iff a b).2 (by omega)
        have c2 : contU a 2 c = true := by rw [cont_rest (by omega)]; exact decide_eq_true (by omega)
        have c3 : contU a 3 d = true := by rw [cont_rest (by omega)]; exact decide_eq_true (by omega)
        have hm : measU (a :: b :: c :: d :: t) = 4 := by rw [measU_cons _ _ (by omega), hl, run_go (by omega) c1, run_go (by omega) c2, run_go (by omega) c3, run_stop _ _ _ _ (Nat.le_refl _)]
        rw [dec_whole hl (by omega) hm]
        simp only [List.take_succ_cons, List.take_zero, valU, foldU, List.foldl_cons, List.foldl_nil, List.length_cons, List.length_nil]
        rw [(leadU_of (a := a)).2.2.2 (by omega), ha, hb, hc, hd]
        refine Prod.ext ?_ rfl
        show 64 * (64 * (64 * (240 + r / 262144 - 240) + (128 + r / 4096 % 64 - 128)) + (128 + r / 64 % 64 - 128)) + (128 + r % 64 - 128) = r
        omega
/-- The bytes of code points. -/
def encL (rs : List Nat) : List UInt8 := rs.flatMap encU
theorem encL_nil : encL [] = [] := rfl
theorem encL_cons (r : Nat) (rs : List Nat) : encL (r :: rs) = encU r ++ encL rs := by simp [encL]
theorem encL_app (a b : List Nat) : encL (a ++ b) = encL a ++ encL b := by simp [encL]
theorem encL_snoc (a : List Nat) (r : Nat) : encL (a ++ [r]) = encL a ++ encU r := by simp [encL]
def RuneL (rs : List Nat) : Prop := ∀ r ∈ rs, runeB r
theorem encU_ne (r : Nat) : encU r ≠ [] := by have := (encU_len r).1; intro e; rw [e] at this; simp at this
/-- Code points with their offsets. -/
def offR : Nat → List Nat → List (Nat × Nat)
  | _, [] => []
  | i, r :: rs => (i, r) :: offR (i + (encU r).length) rs
theorem all_enc : ∀ (rs : List Nat) (i : Nat), RuneL rs → allF (encL rs) i = (offR i rs, none)
  | [], i, _ => by rw [encL_nil, allF_nil]; rfl
  | r :: rs, i, h => by
    have hd := dec_enc r (h r (by simp)) (encL rs)
    have hne : encL (r :: rs) ≠ [] := by rw [encL_cons]; intro e; exact encU_ne r (List.append_eq_nil_iff.1 e).1
    have hd2 : decU (encL (r :: rs)) = (r, (encU r).length, 0) := by rw [encL_cons]; exact hd
    rw [allF_ok hne i (by rw [hd2]), hd2]
    have hdrop : (encL (r :: rs)).drop (encU r).length = encL rs := by rw [encL_cons]; simp
    rw [hdrop, all_enc rs _ (fun x hx => h x (by simp [hx]))]
    rfl
theorem off_runes : ∀ (rs : List Nat) (i : Nat), (offR i rs).map (·.2) = rs
  | [], i => rfl
  | r :: rs, i => by rw [offR, List.map_cons, off_runes rs]
theorem chk_enc {rs : List Nat} (h : RuneL rs) : chkF (encL rs) = (0, 0) := by unfold chkF; rw [all_enc rs 0 h]
/-- The code points that a text has up to its first error. -/
def runesOf (L : List UInt8) : List Nat := (allF L 0).1.map (·.2)
theorem runes_enc {rs : List Nat} (h : RuneL rs) : runesOf (encL rs) = rs := by unfold runesOf; rw [all_enc rs 0 h, off_runes]
theorem allU_rune : ∀ (n : Nat) (l : List UInt8) (i : Nat), ∀ x ∈ (allU n l i).1, runeB x.2
  | 0, l, i, x, h => by simp [allU] at h
  | n + 1, [], i, x, h => by simp [allU] at h
  | n + 1, c :: r, i, x, h => by
    rw [allU] at h
    by_cases he : (decU (c :: r)).2.2 ≠ 0
    · rw [if_pos he] at h; cases h
    · rw [if_neg he] at h
      dsimp only at h
      rcases List.mem_cons.1 h with h | h
      · subst h; exact decU_rune (by simpa using he)
      · exact allU_rune n _ _ x h
theorem runes_rune (L : List UInt8) : RuneL (runesOf L) := by
  intro r hr
  unfold runesOf at hr
  obtain ⟨x, hx, rfl⟩ := List.mem_map.1 hr
  exact allU_rune _ _ _ x hx
end Go.Proofs.YtannhfnpigiggaaGreatDoor

namespace Go.Proofs.YtannhfnpigiggaaGreatDoor
set_option linter.unusedSimpArgs false
set_option linter.unusedVariables false

/-- How many bytes a step of Repair takes, and what it leaves for them. -/
def stepU (L : List UInt8) : Nat := max (measU L) 1
def pieceU (L : List UInt8) : List UInt8 := if wholeU L then L.take (measU L) else [239, 191, 189]
def repU : Nat → List UInt8 → List UInt8
  | 0, _ => []
  | _ + 1, [] => []
  | n + 1, c :: r => pieceU (c :: r) ++ repU n ((c :: r).drop (stepU (c :: r)))
def repF (L : List UInt8) : List UInt8 := repU (L.length + 1) L
theorem stepU_pos (L : List UInt8) : 1 ≤ stepU L := by unfold stepU; omega
theorem stepU_le (c : UInt8) (r : List UInt8) : stepU (c :: r) ≤ (c :: r).length := by
  unfold stepU; have := (measU_le (c :: r)).1; simp at this ⊢; omega
theorem repU_fuel : ∀ (n m : Nat) (L : List UInt8), L.length < n → L.length < m → repU n L = repU m L
  | 0, _, _, h, _ => by omega
  | _, 0, _, _, h => by omega
  | n + 1, m + 1, [], _, _ => by rw [repU, repU]
  | n + 1, m + 1, c :: r, h1, h2 => by
    rw [repU, repU]
    have h3 := stepU_pos (c :: r)
    have hl : ((c :: r).drop (stepU (c :: r))).length < (c :: r).length := by rw [List.length_drop, List.length_cons]; omega
    rw [repU_fuel n m _ (by omega) (by omega)]
theorem repF_nil : repF [] = [] := rfl
theorem repF_cons (c : UInt8) (r : List UInt8) : repF (c :: r) = pieceU (c :: r) ++ repF ((c :: r).drop (stepU (c :: r))) := by
  have h3 := stepU_pos (c :: r)
  unfold repF
  rw [repU]
  congr 1
  exact repU_fuel _ _ _ (by rw [List.length_drop]; simp; omega) (by omega)
theorem repF_ne {L : List UInt8} (h : L ≠ []) : repF L = pieceU L ++ repF (L.drop (stepU L)) := by
  cases L with
  | nil => exact absurd rfl h
  | cons c r => exact repF_cons c r
/-- A step that is whole takes its own bytes. -/
theorem whole_step {L : List UInt8} (h : wholeU L = true) : stepU L = measU L ∧ decU L = (valU (L.take (measU L)), measU L, 0) := by
  cases L with
  | nil => cases h
  | cons f r =>
    have h' := of_decide_eq_true h
    exact ⟨by unfold stepU; omega, ((decU_parts (f :: r) (by simp)).1 h)⟩
theorem run_take (f : UInt8) (size : Nat) (t : List UInt8) : ∀ (r : List UInt8) (i k : Nat), runU f size i r = k → i + k = size → runU f size i (r.take k ++ t) = k
  | [], i, k, h1, h2 => by
    rw [runU] at h1; subst h1
    rw [List.take_nil, List.nil_append]; exact run_stop _ _ _ _ (by omega)
  | c :: r, i, k, h1, h2 => by
    rw [runU] at h1
    by_cases hc : i < size ∧ contU f i c = true
    · rw [if_pos hc] at h1
      subst h1
      rw [List.take_succ_cons, List.cons_append, runU, if_pos hc, run_take f size t r (i + 1) _ rfl (by omega)]
    · rw [if_neg hc] at h1
      subst h1
      rw [List.take_zero, List.nil_append]; exact run_stop _ _ _ _ (by omega)
/-- What a step leaves decodes as one code point, whatever lies behind it. -/
theorem piece_dec (c : UInt8) (r t : List UInt8) : ∃ x, decU (pieceU (c :: r) ++ t) = (x, (pieceU (c :: r)).length, 0) ∧ (wholeU (c :: r) = true → x = valU ((c :: r).take (measU (c :: r)))) := by
  unfold pieceU
  cases h : wholeU (c :: r) with
  | true =>
    rw [if_pos rfl]
    have h' := of_decide_eq_true h
    obtain ⟨h1, h2⟩ := h'
    have hm := measU_cons c r h2
    have hk : runU c (lenU c) 1 r + 1 = lenU c := by rw [← hm]; exact h1
    have hrun := run_take c (lenU c) t r 1 _ rfl (by omega)
    have htk : (c :: r).take (measU (c :: r)) = c :: r.take (runU c (lenU c) 1 r) := by rw [hm, List.take_succ_cons]
    have hlen : (c :: r.take (runU c (lenU c) 1 r)).length = lenU c := by
      have := (runU_le c (lenU c) r 1).1
      rw [List.length_cons, List.length_take]; omega
    have hme : measU (c :: (r.take (runU c (lenU c) 1 r) ++ t)) = lenU c := by rw [measU_cons _ _ h2, hrun]; exact hk
    refine ⟨valU (c :: r.take (runU c (lenU c) 1 r)), ?_, fun _ => by rw [htk]⟩
    rw [htk, List.cons_append, dec_whole rfl (by omega) hme, ← List.cons_append, hlen]
    congr 1
    rw [List.take_append_of_le_length (by omega), List.take_of_length_le (by omega)]
  | false =>
    rw [if_neg (by simp)]
    have h := dec_enc 65533 ⟨by omega, by omega⟩ t
    have e : encU 65533 = [239, 191, 189] := by decide
    rw [e] at h
    exact ⟨65533, h, fun h => by cases h⟩
theorem piece_ne (c : UInt8) (r : List UInt8) : pieceU (c :: r) ≠ [] := by
  intro e
  obtain ⟨x, h, _⟩ := piece_dec c r []
  rw [e] at h
  simp [decU] at h
theorem piece_len (L : List UInt8) : (pieceU L).length ≤ 3 * stepU L := by
  unfold pieceU stepU
  split
  · rw [List.length_take]; omega
  · simp; omega
theorem rep_len : ∀ (n : Nat) (L : List UInt8), L.length ≤ n → (repF L).length ≤ 3 * L.length := by
  intro n
  induction n with
  | zero => intro L h; rw [List.eq_nil_of_length_eq_zero (l := L) (by omega), repF_nil]; simp
  | succ n ih =>
    intro L h
    cases L with
    | nil => rw [repF_nil]; simp
    | cons c r =>
      have h3 := stepU_pos (c :: r)
      have h4 := stepU_le c r
      have h5 := piece_len (c :: r)
      have := ih ((c :: r).drop (stepU (c :: r))) (by rw [List.length_drop]; simp at h ⊢; omega)
      rw [repF_cons, List.length_append]
      rw [List.length_drop] at this
      omega
/-- The code points do not depend on where the text begins. -/
theorem runes_shift : ∀ (n : Nat) (l : List UInt8) (i j : Nat), (allU n l i).1.map (·.2) = (allU n l j).1.map (·.2)
  | 0, l, i, j => by simp [allU]
  | n + 1, [], i, j => by simp [allU]
  | n + 1, c :: r, i, j => by
    rw [allU, allU]
    by_cases he : (decU (c :: r)).2.2 ≠ 0
    · rw [if_pos he, if_pos he]
    · rw [if_neg he, if_neg he]
      dsimp only
      rw [List.map_cons, List.map_cons, runes_shift n _ (i + (decU (c :: r)).2.1) (j + (decU (c :: r)).2.1)]
theorem runes_cons {l : List UInt8} {x n : Nat} (h0 : l ≠ []) (h : decU l = (x, n, 0)) : runesOf l = x :: runesOf (l.drop n) := by
  unfold runesOf
  rw [allF_ok h0 0 (by rw [h]), h]
  simp only [List.map_cons]
  congr 1
  exact runes_shift _ _ _ _
theorem rep_runes (c : UInt8) (r : List UInt8) : ∃ x, runesOf (repF (c :: r)) = x :: runesOf (repF ((c :: r).drop (stepU (c :: r)))) ∧ (wholeU (c :: r) = true → x = valU ((c :: r).take (measU (c :: r)))) := by
  obtain ⟨x, h, hx⟩ := piece_dec c r (repF ((c :: r).drop (stepU (c :: r))))
  refine ⟨x, ?_, hx⟩
  rw [repF_cons, runes_cons (by intro e; exact piece_ne c r (List.append_eq_nil_iff.1 e).1) h]
  simp
/-- A byte of the first plane stays. -/
theorem rep_has (b : UInt8) (hb : b.toNat < 128) : ∀ (n : Nat) (L : List UInt8), L.length ≤ n → b ∈ L → b.toNat ∈ runesOf (repF L) := by
  intro n
  induction n with
  | zero => intro L h hm; rw [List.eq_nil_of_length_eq_zero (l := L) (by omega)] at hm; cases hm
  | succ n ih =>
    intro L h hm
    cases L with
    | nil => cases hm
    | cons c r =>
      obtain ⟨x, hr, hx⟩ := rep_runes c r
      rw [hr]
      by_cases e : c = b
      · subst e
        have hl := lenU_1 (c := c) (by omega)
        have hme : measU (c :: r) = 1 := by rw [measU_cons _ _ (by omega), hl, run_stop _ _ _ _ (Nat.le_refl _)]
        have hw : wholeU (c :: r) = true := by show decide (measU (c :: r) = lenU c ∧ lenU c ≠ 0) = true; rw [hme, hl]; rfl
        rw [hx hw, hme]
        have : valU ((c :: r).take 1) = c.toNat := by
          simp only [List.take_succ_cons, List.take_zero, valU, foldU, List.foldl_nil]
          exact (leadU_of (a := c)).1 hb
        rw [this]; simp
      · refine List.mem_cons_of_mem _ ?_
        have h3 := stepU_pos (c :: r)
        refine ih _ (by rw [List.length_drop]; simp at h ⊢; omega) ?_
        rcases List.mem_cons.1 hm with h' | h'
        · exact absurd h'.symm e
        · obtain ⟨j, hj, hjb⟩ := List.getElem_of_mem h'
          have hge : stepU (c :: r) ≤ j + 1 := by
            unfold stepU
            by_cases h0 : lenU c = 0
            · have : measU (c :: r) = 0 := by rw [measU, if_pos h0]
              omega
            · rw [measU_cons _ _ h0]
              rcases Nat.lt_or_ge j (runU c (lenU c) 1 r) with g | g
              · obtain ⟨d, hd, hcd⟩ := run_all c (lenU c) r 1 j g
                rw [List.getElem?_eq_getElem hj] at hd
                injection hd with hd
                have := (cont_range hcd).1
                rw [← hd, hjb] at this
                omega
              · omega
          have : (c :: r)[j + 1]'(by simp; exact hj) = b := by rw [List.getElem_cons_succ]; exact hjb
          rw [← this]
          have hk : j + 1 - stepU (c :: r) < ((c :: r).drop (stepU (c :: r))).length := by rw [List.length_drop, List.length_cons]; omega
          have e2 : ((c :: r).drop (stepU (c :: r)))[j + 1 - stepU (c :: r)] = (c :: r)[j + 1]'(by simp; exact hj) := by
            rw [List.getElem_drop]; congr 1; omega
          rw [← e2]
          exact List.getElem_mem hk
/-- How many bytes of an encoding a text begins with; 0: none. -/
def bAll (l : List UInt8) : Nat := match begR l with
  | some x => x.1
  | none => 0
/-- The step as the reference takes it. -/
def ref2 (L : List UInt8) : Nat := if 2 ≤ L.length ∧ 2 < bAll (L.take 2) then 2 else 1
def ref3 (L : List UInt8) : Nat := if 3 ≤ L.length ∧ 3 < bAll (L.take 3) ∧ ref2 L = 2 then 3 else ref2 L
def refN (L : List UInt8) : Nat := if bAll (L.take 1) = 0 then 1 else ref3 L
theorem bAll_some {l : List UInt8} {x : Nat × Nat} (h : begR l = some x) : bAll l = x.1 := by unfold bAll; rw [h]
theorem bAll_none {l : List UInt8} (h : begR l = none) : bAll l = 0 := by unfold bAll; rw [h]
theorem refN_eq (a : UInt8) (r : List UInt8) (h : wholeU (a :: r) = false) : refN (a :: r) = stepU (a :: r) := by
  have hnw : ¬ (measU (a :: r) = lenU a ∧ lenU a ≠ 0) := of_decide_eq_false h
  unfold stepU
  by_cases h0 : lenU a = 0
  · have hm : measU (a :: r) = 0 := by rw [measU, if_pos h0]
    have hb : bAll ((a :: r).take 1) = 0 := by
      rw [List.take_succ_cons, List.take_zero]
      rcases first_cases a with ⟨_, h⟩ | ⟨h, _⟩ | ⟨h, _⟩ | ⟨h, _⟩ | ⟨h, _⟩
      · exact bAll_none (beg1_no h)
      all_goals omega
    unfold refN
    rw [if_pos hb, hm]; rfl
  · have hb : bAll ((a :: r).take 1) ≠ 0 := by
      rw [List.take_succ_cons, List.take_zero, bAll_some (beg1 h0)]; exact h0
    have hm := measU_cons a r h0
    have h4 := lenU_le a
    unfold refN
    rw [if_neg hb]
    cases r with
    | nil =>
      have : ref3 [a] = 1 := by unfold ref3 ref2; simp
      rw [this, hm, runU]; rfl
    | cons b r1 =>
      rw [runU] at hm
      by_cases hc1 : 1 < lenU a ∧ contU a 1 b = true
      · rw [if_pos hc1] at hm
        have hb2 : bAll ((a :: b :: r1).take 2) = lenU a := by
          simp only [List.take_succ_cons, List.take_zero]
          rw [bAll_some (x := (lenU a, _)) (by rw [beg2 (by omega), if_pos hc1.2])]
        cases r1 with
        | nil =>
          rw [runU] at hm
          have hl : lenU a ≠ 2 := fun e => hnw ⟨by rw [hm, e], h0⟩
          have : ref3 [a, b] = 2 := by
            unfold ref3 ref2
            rw [if_neg (by simp), if_pos ⟨by simp, by rw [hb2]; omega⟩]
          rw [this, hm]; rfl
        | cons c r2 =>
          rw [runU] at hm
          have hl : lenU a ≠ 2 := fun e => by
            rw [e] at hm
            rw [if_neg (by omega)] at hm
            exact hnw ⟨by rw [hm, e], h0⟩
          have e2 : ref2 (a :: b :: c :: r2) = 2 := by
            unfold ref2; rw [if_pos ⟨by simp, by rw [hb2]; omega⟩]
          by_cases hc2 : 1 + 1 < lenU a ∧ contU a (1 + 1) c = true
          · rw [if_pos hc2] at hm
            have hl3 : lenU a ≠ 3 := fun e => by
              rw [e] at hm
              rw [run_stop _ _ _ _ (by omega)] at hm
              exact hnw ⟨by rw [hm, e], h0⟩
            have hb3 : bAll ((a :: b :: c :: r2).take 3) = lenU a := by
              simp only [List.take_succ_cons, List.take_zero]
              rw [bAll_some (x := (lenU a, _)) (by rw [beg3 (by omega) hc1.2, if_pos hc2.2])]
            have e3 : ref3 (a :: b :: c :: r2) = 3 := by
              unfold ref3; rw [if_pos ⟨by simp, by rw [hb3]; omega, e2⟩]
            have h44 : lenU a = 4 := by omega
            cases r2 with
            | nil => rw [runU] at hm; rw [e3, hm]; rfl
            | cons d r3 =>
              rw [runU] at hm
              by_cases hc3 : 1 + 1 + 1 < lenU a ∧ contU a (1 + 1 + 1) d = true
              · rw [if_pos hc3, h44, run_stop _ _ _ _ (by omega)] at hm
                exact absurd ⟨by rw [hm, h44], h0⟩ hnw
              · rw [if_neg hc3] at hm
                rw [e3, hm]; rfl
          · rw [if_neg hc2] at hm
            have hb3 : ¬ 3 < bAll ((a :: b :: c :: r2).take 3) := by
              simp only [List.take_succ_cons, List.take_zero]
              rw [bAll_none (by rw [beg3 (by omega) hc1.2, if_neg (fun hh => hc2 ⟨by omega, hh⟩)])]; omega
            have e3 : ref3 (a :: b :: c :: r2) = 2 := by
              unfold ref3; rw [if_neg (fun hh => hb3 hh.2.1), e2]
            rw [e3, hm]; rfl
      · rw [if_neg hc1] at hm
        have e2 : ref2 (a :: b :: r1) = 1 := by
          unfold ref2
          rw [if_neg]
          rintro ⟨_, hh⟩
          simp only [List.take_succ_cons, List.take_zero] at hh
          by_cases hl : 2 ≤ lenU a
          · rw [bAll_none (by rw [beg2 hl, if_neg (fun g => hc1 ⟨by omega, g⟩)])] at hh; omega
          · have : lenU a = 1 := by omega
            exact hnw ⟨by rw [hm, this], h0⟩
        have e3 : ref3 (a :: b :: r1) = 1 := by
          unfold ref3; rw [if_neg (fun hh => by have := hh.2.2; omega), e2]
        rw [e3, hm]; rfl
end Go.Proofs.YtannhfnpigiggaaGreatDoor
