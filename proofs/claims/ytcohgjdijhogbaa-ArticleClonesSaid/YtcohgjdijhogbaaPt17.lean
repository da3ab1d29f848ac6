/- Lemmas and walks, part 17. -/
import Derived.Test.YtcohgjdijhogbaaPt16
import Derived.Test.YtcohgjdijhogbaaPt5
import Derived.RangeFuncNested
import Derived.RangeFuncBound
import Derived.RangeFuncCalls
import Derived.RangeFuncLeaves
import Derived.Shelf.Abstract
import Derived.Shelf.RegionOpen
import Derived.WalkKit
import Derived.OwnWalkIn
import Derived.TacticsInMore
import Derived.LoopNIn
import Derived.LoopIn
import Derived.Test.YtcohgjdijhogbaaPt14
namespace Go.Proofs.Ytcohgjdijhogbaa
set_option linter.unusedSimpArgs false
set_option linter.unusedVariables false
open Go.RowKit Go.Shelf
attribute [local go_sem] Oper.semAt_some

theorem index_nl (L : List UInt8) : (Lib.indexByte L 10 = -1 ∧ L.takeWhile (· != 10) = L) ∨ (Lib.indexByte L 10 = ((L.takeWhile (· != 10)).length : Nat) ∧ (L.takeWhile (· != 10)).length < L.length) := by
  induction L with
  | nil => exact .inl ⟨rfl, rfl⟩
  | cons c r ih =>
    by_cases h : c = 10
    · subst h; exact .inr ⟨rfl, by simp⟩
    · have h1 : (c == 10) = false := by simpa using h
      have h2 : (c != 10) = true := by simp [bne, h1]
      rcases ih with ⟨e1, e2⟩ | ⟨e1, e2⟩
      · exact .inl ⟨by simp [Lib.indexByte, h1, e1], by simp [List.takeWhile_cons, h2, e2]⟩
      · refine .inr ⟨?_, by simp [List.takeWhile_cons, h2]; omega⟩
        have : ¬ Lib.indexByte r 10 = -1 := by omega
        simp [Lib.indexByte, h1, this, List.takeWhile_cons, h2]; omega
theorem cut_nl (L : List UInt8) : (Lib.cut L [10]).1 = L.takeWhile (· != 10) ∧ (Lib.cut L [10]).2.1 = L.drop ((L.takeWhile (· != 10)).length + 1) := by
  unfold Lib.cut
  rw [Lib.index_one]
  rcases index_nl L with ⟨e1, e2⟩ | ⟨e1, e2⟩
  · rw [e1, if_neg (by omega), e2]
    exact ⟨rfl, (List.drop_eq_nil_of_le (by omega)).symm⟩
  · rw [e1, if_pos (by omega)]
    refine ⟨?_, by simp⟩
    simp only [Int.toNat_natCast]
    exact (takeWhile_eq_take (· != 10) L).symm
/-- The rest's first line, and what is behind it. -/
theorem cut_at (L : List UInt8) (i : Nat) (h : i ≤ L.length) : (Lib.cut (L.drop i) [10]).1 = cutL L i (endF L i) ∧ (Lib.cut (L.drop i) [10]).2.1 = L.drop (endF L i + 1) := by
  obtain ⟨h1, h2⟩ := cut_nl (L.drop i)
  rw [h1, h2]
  refine ⟨?_, ?_⟩
  · rw [takeWhile_eq_take]; unfold cutL endF; congr 1; omega
  · rw [List.drop_drop]; unfold endF; rw [Nat.add_assoc]

/-- Lines with their numbers. -/
def numL (k : Nat) (l : List (List UInt8)) : List (Nat × ByteArray) := match l with
  | [] => []
  | x :: r => (k, ofL x) :: numL (k + 1) r
theorem numL_length : ∀ (l : List (List UInt8)) (k : Nat), (numL k l).length = l.length
  | [], _ => rfl
  | _ :: r, k => by simp [numL, numL_length r]
theorem numL_at : ∀ (l : List (List UInt8)) (k i : Nat), (numL k l)[i]? = (l[i]?).map fun x => (k + i, ofL x)
  | [], _, _ => by simp [numL]
  | x :: r, k, 0 => by simp [numL]
  | x :: r, k, i + 1 => by simp [numL, numL_at r]; cases r[i]? <;> simp; omega
theorem numL_texts : ∀ (l : List (List UInt8)) (k : Nat), (numL k l).map (fun x => toL x.2) = l
  | [], _ => rfl
  | x :: r, k => by simp [numL, numL_texts r, toL_ofL]
/-- What a loop over lines is handed. -/
abbrev LnT (M : Nat) := { x : Nat × ByteArray // x.1 ≤ M ∧ x.2.size ≤ M }
variable {M : Nat}
abbrev lnE (x : LnT M) : Array Value := #[.int .i64 (x.1.1 : Int), .string x.1.2]
def restL (L : List UInt8) (i : Nat) : List (List UInt8) := (spans L i).map fun x => cutL L x.1 x.2
theorem restL_zero (L : List UInt8) : linesF L = restL L 0 := rfl
theorem restL_step {L : List UInt8} {i : Nat} (h : i < L.length) : restL L i = cutL L i (endF L i) :: restL L (endF L i + 1) := by
  unfold restL; rw [spans_step h]; rfl
theorem restL_end {L : List UInt8} {i : Nat} (h : L.length ≤ i) : restL L i = [] := by
  unfold restL; rw [spans_end h]; rfl
def AllLn (L : List UInt8) (xs : List (LnT M)) : Prop := xs.map (·.1) = numL 0 (linesF L)
def SomeLn (L : List UInt8) (xs : List (LnT M)) : Prop := xs.map (·.1) <+: numL 0 (linesF L)
/-- pre has come; the rest of the text begins at i. -/
structure LnAt (L : List UInt8) (pre : List (LnT M)) (k i : Nat) : Prop where
  len : pre.length = k
  all : numL 0 (linesF L) = pre.map (·.1) ++ numL k (restL L i)
  le : i ≤ L.length + 1
  few : k ≤ i
theorem LnAt.zero (L : List UInt8) : LnAt (M := M) L [] 0 0 := ⟨rfl, rfl, by omega, by omega⟩
theorem LnAt.done {L : List UInt8} {pre : List (LnT M)} {k i : Nat} (h : LnAt L pre k i) (hi : L.length ≤ i) : AllLn L pre := by
  unfold AllLn; rw [h.all, restL_end hi]; simp [numL]
theorem LnAt.next {L : List UInt8} {pre : List (LnT M)} {k i : Nat} (h : LnAt L pre k i) (hi : i < L.length) (x : LnT M) (hx : x.1 = (k, ofL (cutL L i (endF L i)))) : LnAt L (pre ++ [x]) (k + 1) (endF L i + 1) := by
  have h1 := endF_ge L i
  have h2 := endF_le L i (by omega)
  refine ⟨by simp [h.len], ?_, by omega, by have := h.few; omega⟩
  rw [h.all, restL_step hi]; simp [numL, hx]
theorem LnAt.part {L : List UInt8} {pre : List (LnT M)} {k i : Nat} (h : LnAt L pre k i) : SomeLn L pre := by
  unfold SomeLn; rw [h.all]; exact List.prefix_append _ _

def szOf : Value → Nat
  | .string s => s.size
  | _ => 0
theorem nl_cut (R : ByteArray) (w : World) (hsh : w.ShapedOpen Try.prog) (hs : R.size ≤ 900000) : Calls Try.prog 36 #[.string R, .string ⟨#[10]⟩] w fun e w' =>
    ∃ (a b : ByteArray) (c : Bool) (n : Nat), e = .returned (.tuple #[.string a, .string b, .bool c]) ∧ toL a = (Lib.cut (toL R) [10]).1 ∧ toL b = (Lib.cut (toL R) [10]).2.1 ∧ w' = w.drewN n :=
  (Try.strings_Cut_shaped R ⟨#[10]⟩ w hsh (by omega)).mono fun _ _ ⟨h1, n, h2⟩ => ⟨_, _, _, n, h1, rfl, rfl, h2⟩
theorem art_lines (s : ByteArray) (w : World) (n : Nat) : CallsIn Fence.wide n Try.prog 15 #[.string s] w fun e w' => e = .returned (.func (.func 35) #[] #[.pointer (some ⟨w.heap.size, 0, none⟩)]) ∧ w' = w.alloc (.cells #[.string s] 9) := by
  refine callsIn_of_wp Try.func15 rfl trivial ?_ rfl
  simp only [Try.ntmps15, List.size_toArray, List.length_cons, List.length_nil, Nat.reduceAdd, Nat.reduceSub, Array.replicate_succ, Array.replicate_zero, List.push_toArray, List.append_toArray, List.nil_append, List.cons_append]
  gi_wp2
  go_ret
  exact ⟨rfl, rfl⟩

set_option maxRecDepth 100000 in
set_option maxHeartbeats 4000000 in
theorem lines_stops (n : Nat) (hn : 1 ≤ n) (w0 w : World) (hsh : w0.ShapedOpen Try.prog) (hw0 : Below w0.heap.size w0 w) (B : Nat) (hB : B < w.heap.size) (s : ByteArray) (hM : M ≤ 900000) (hs : s.size ≤ M) (hc : w.cell? ⟨B, 0, none⟩ = some (.string s)) :
    SeqStopsK Fence.wide n Try.prog 35 #[.pointer (some ⟨B, 0, none⟩)] lnE (Below w0.heap.size) (AllLn (M := M) (toL s)) (SomeLn (toL s)) (M + 1) w := fun l J Jx W hW hJA _ hY h0 => by
  have HJA := Lib.hid hJA
  have hcW := (hW.cell (p := ⟨B, 0, none⟩) hB).trans hc
  have hBW := Lib.hid (hw0.trans (hW.mono hw0.size))
  have HSH := Lib.hid hsh
  have HL := Lib.hid (toL_length s)
  have HZ := Lib.hid (LnAt.zero (M := M) (toL s))
  have HY := Lib.hid hY
  clear hsh hw0 hW hY hc hB hJA
  refine callsIn_of_wp Try.func35 rfl trivial ?_ rfl
  simp only [Try.ntmps35, List.size_toArray, List.length_cons, List.length_nil, Nat.reduceAdd, Nat.reduceSub, Array.replicate_succ, Array.replicate_zero, List.push_toArray, List.append_toArray, List.nil_append, List.cons_append]
  gi_wp2
  gi_loopw [3, 4] (fun r i wr => ∃ (k at_ : Nat) (pre : List (LnT M)) (R : ByteArray), r = .string R ∧ i = .int .i64 (k : Int) ∧ toL R = (toL s).drop at_ ∧ LnAt (toL s) pre k at_ ∧ J pre wr ∧ Below w0.heap.size w0 wr)
    (fun r _ _ => szOf r)
  case atStart => exact ⟨0, 0, [], s, rfl, rfl, rfl, HZ.out, h0, hBW.out⟩
  case round =>
    obtain ⟨k, at_, pre, R, rfl, rfl, hR, hat, hJ0, hB0⟩ := hrel
    have HR := Lib.hid hR; have HAT := Lib.hid hat; have HB0 := Lib.hid hB0
    clear hR hat hB0 HZ h0 hBW
    have hRs : R.size = s.size - at_ := by rw [← toL_length, HR.out, List.length_drop, HL.out]
    have k0 : (0 : Int) ≤ (k : Int) := by omega
    by_cases hz : R.size = 0
    · have hE := toList_nil hz
      have HD := Lib.hid (HAT.out.done (by rw [HL.out]; omega))
      clear hz hRs
      gi_wp2
      go_end0
      exact ⟨⟨_, rfl⟩, .inl ⟨pre, HD.out, hJ0⟩⟩
    · have hE := toList_cons hz
      have hlt : at_ < (toL s).length := by rw [HL.out]; omega
      have HCA := Lib.hid (cut_at (toL s) at_ (by omega))
      have hwsh := shaped_below HSH.out HB0.out
      have hkl := HAT.out.few
      have HKL := Lib.hid HAT.out.len
      have hle := HAT.out.le
      rw [HL.out] at hle hlt
      have hk9 : k ≤ M := by omega
      have hge := endF_ge (toL s) at_
      gi_wp2_with (refine ⟨trivial, ?_⟩; gi_at_call 36; refine (callsIn_wide.2 (nl_cut R _ hwsh (by omega))).mono ?_; rintro e w' ⟨la, lb, lc, nd, rfl, ha, hb, rfl⟩)
      have HA := Lib.hid (show toL la = cutL (toL s) at_ (endF (toL s) at_) from by rw [ha, HR.out, HCA.out.1])
      have HBB := Lib.hid (show toL lb = (toL s).drop (endF (toL s) at_ + 1) from by rw [hb, HR.out, HCA.out.2])
      have hLA := endF_le (toL s) at_ (by rw [HL.out]; omega)
      rw [HL.out] at hLA
      have hls : la.size ≤ M := by
        rw [← toL_length, HA.out, cutL_length _ _ _ (by rw [HL.out]; exact hLA)]; omega
      have hdec : szOf (.string lb) < szOf (.string R) := by
        show lb.size < R.size
        rw [← toL_length, HBB.out, List.length_drop, HL.out]; omega
      have HDEC := Lib.hid hdec
      have HN := Lib.hid (fun (x : LnT M) (hx : x.1 = (k, la)) => HAT.out.next (by rw [HL.out]; omega) x (by rw [hx, ← HA.out, ofL_toL]))
      have hJ1 := HJA.out pre wr (wr.drewN nd) none hJ0 ⟨rfl, rfl, rfl, Nat.le_refl _, fun _ _ _ => rfl⟩ (fun r e => by cases e)
      obtain ⟨fn, tmps, assign, body, hy, hY1⟩ := HY.out pre ⟨(k, la), by omega, hls⟩ (wr.drewN nd) hJ1 (by rw [HKL.out]; omega)
      dsimp only [lnE] at hy
      have HBD := Lib.hid (below_drewN HB0.out nd)
      clear ha hb hdec
      rw [hy]
      gi_wp2
      refine hY1.mono ?_
      rintro e W3 (⟨rfl, hJ3, hk3⟩ | ⟨rfl, hJx3⟩)
      · gi_wp2
        go_roundw
        case rel => exact ⟨k + 1, _, _, lb, rfl, by go_num, HBB.out, HN.out _ rfl, hJ3, HBD.out.trans hk3⟩
        case measure => exact HDEC.out
      · gi_wp2
        refine bodyPost_ret (results_none rfl _ _ _) rfl ?_
        exact ⟨⟨_, rfl⟩, .inr ⟨_, (HN.out ⟨(k, la), by omega, hls⟩ rfl).part, hJx3⟩⟩
end Go.Proofs.Ytcohgjdijhogbaa

namespace Go.Proofs.Ytcohgjdijhogbaa
set_option linter.unusedSimpArgs false
set_option linter.unusedVariables false
variable {M : Nat}

def sumL (l : List (List UInt8)) : Nat := (l.map fun x => x.length + 1).sum
theorem sumL_snoc (l : List (List UInt8)) (x : List UInt8) : sumL (l ++ [x]) = sumL l + x.length + 1 := by simp [sumL]; omega
/-- The first error of a body of N bytes whose lines from at on are these. -/
def chkGo (N : Nat) : Nat → List (List UInt8) → Nat × Int
  | _, [] => (0, 0)
  | i, x :: r => if i + x.length = N then (N, 4) else if 998 < x.length then (i + 998, 5) else if 0 ≤ badG x then (i + (badG x).toNat, 6) else chkGo N (i + x.length + 1) r
theorem chk_go (L : List UInt8) : ∀ (n i : Nat), bodyGo L (spansU n L i) = chkGo L.length i ((spansU n L i).map fun x => cutL L x.1 x.2)
  | 0, i => by simp [spansU, bodyGo, chkGo]
  | n + 1, i => by
    rw [spansU]
    by_cases h : i < L.length
    · have h1 := endF_ge L i
      have h2 := endF_le L i (by omega)
      have hc := cutL_length L i (endF L i) h2
      have e1 : i + (endF L i - i) = endF L i := by omega
      rw [if_pos h, List.map_cons, bodyGo, chkGo, hc, e1, chk_go L n]
    · rw [if_neg h]; simp [bodyGo, chkGo]
theorem chk_body (L : List UInt8) : bodyF L = chkGo L.length 0 (linesF L) := chk_go L _ 0
theorem bodyGo_le (L : List UInt8) : ∀ (n i : Nat), (bodyGo L (spansU n L i)).1 ≤ L.length
  | 0, i => by simp [spansU, bodyGo]
  | n + 1, i => by
    rw [spansU]
    by_cases h : i < L.length
    · have h1 := endF_ge L i
      have h2 := endF_le L i (by omega)
      have h3 := badG_le (cutL L i (endF L i))
      rw [cutL_length _ _ _ h2] at h3
      rw [if_pos h, bodyGo]
      split
      · exact Nat.le_refl _
      · split
        · simp only; omega
        · split
          · simp only; omega
          · exact bodyGo_le L n _
    · rw [if_neg h]; simp [bodyGo]
theorem body_le (L : List UInt8) : (bodyF L).1 ≤ L.length := bodyGo_le L _ 0
/-- No error in these lines. -/
def Clean (N : Nat) (pre : List (List UInt8)) : Prop := ∀ rest, chkGo N 0 (pre ++ rest) = chkGo N (sumL pre) rest
/-- The last of these lines has the first error. -/
def StopAt (N : Nat) (pre : List (List UInt8)) (v : Nat × Int) : Prop := ∀ rest, chkGo N 0 (pre ++ rest) = v
theorem Clean.nil (N : Nat) : Clean N [] := fun _ => rfl
theorem Clean.step {N : Nat} {pre : List (List UInt8)} (h : Clean N pre) (x : List UInt8) (rest : List (List UInt8)) :
    chkGo N 0 (pre ++ [x] ++ rest) = if sumL pre + x.length = N then (N, 4) else if 998 < x.length then (sumL pre + 998, 5) else if 0 ≤ badG x then (sumL pre + (badG x).toNat, 6) else chkGo N (sumL (pre ++ [x])) rest := by
  rw [List.append_assoc, h, sumL_snoc]; rfl
theorem Clean.next {N : Nat} {pre : List (List UInt8)} (h : Clean N pre) {x : List UInt8} (h1 : ¬ sumL pre + x.length = N) (h2 : ¬ 998 < x.length) (h3 : ¬ 0 ≤ badG x) : Clean N (pre ++ [x]) := fun rest => by
  rw [h.step, if_neg h1, if_neg h2, if_neg h3]
theorem Clean.short {N : Nat} {pre : List (List UInt8)} (h : Clean N pre) {x : List UInt8} (h1 : sumL pre + x.length = N) : StopAt N (pre ++ [x]) (N, 4) := fun rest => by
  rw [h.step, if_pos h1]
theorem Clean.long {N : Nat} {pre : List (List UInt8)} (h : Clean N pre) {x : List UInt8} (h1 : ¬ sumL pre + x.length = N) (h2 : 998 < x.length) : StopAt N (pre ++ [x]) (sumL pre + 998, 5) := fun rest => by
  rw [h.step, if_neg h1, if_pos h2]
theorem Clean.byte {N : Nat} {pre : List (List UInt8)} (h : Clean N pre) {x : List UInt8} (h1 : ¬ sumL pre + x.length = N) (h2 : ¬ 998 < x.length) (h3 : 0 ≤ badG x) : StopAt N (pre ++ [x]) (sumL pre + (badG x).toNat, 6) := fun rest => by
  rw [h.step, if_neg h1, if_neg h2, if_pos h3]
/-- The texts of lines. -/
def txL (xs : List (LnT M)) : List (List UInt8) := xs.map fun x => toL x.1.2
theorem txL_snoc (xs : List (LnT M)) (x : LnT M) : txL (xs ++ [x]) = txL xs ++ [toL x.1.2] := by simp [txL]
theorem txL_nil : txL (M := M) [] = [] := rfl
theorem txL_all {L : List UInt8} {xs : List (LnT M)} (h : AllLn L xs) : txL xs = linesF L := by
  have := congrArg (List.map fun x => toL x.2) h
  rw [numL_texts, List.map_map] at this; exact this
theorem txL_some {L : List UInt8} {pre : List (LnT M)} (h : SomeLn L pre) : ∃ r, linesF L = txL pre ++ r := by
  obtain ⟨r, hr⟩ := h
  have := congrArg (List.map fun x : Nat × ByteArray => toL x.2) hr
  rw [numL_texts, List.map_append, List.map_map] at this
  exact ⟨_, this.symm⟩
theorem sumL_le (xs : List (LnT M)) : sumL (txL xs) ≤ xs.length * (M + 1) := by
  induction xs with
  | nil => simp [sumL, txL]
  | cons x r ih =>
    have h1 : sumL (txL (x :: r)) = (toL x.1.2).length + 1 + sumL (txL r) := by simp [sumL, txL]
    have := x.2.2
    rw [h1, toL_length, List.length_cons, Nat.succ_mul]; omega
theorem body_done {L : List UInt8} {xs : List (LnT M)} (h : AllLn L xs) (hc : Clean L.length (txL xs)) : bodyF L = (0, 0) := by
  have := hc []
  rw [List.append_nil, txL_all h] at this
  rw [chk_body, this]; rfl
theorem body_stop {L : List UInt8} {pre : List (LnT M)} {v : Nat × Int} (h : SomeLn L pre) (hs : StopAt L.length (txL pre) v) : bodyF L = v := by
  obtain ⟨r, hr⟩ := txL_some h
  rw [chk_body, hr, hs]
end Go.Proofs.Ytcohgjdijhogbaa

namespace Go.Proofs.Ytcohgjdijhogbaa
set_option linter.unusedSimpArgs false
set_option linter.unusedVariables false
open Go.RowKit Go.Shelf
attribute [local go_sem] Oper.semAt_some

abbrev RnT := { x : Nat × Nat // x.1 ≤ 1000000 ∧ x.2 ≤ 1114111 ∧ (x.2 < 55296 ∨ 57343 < x.2) }
abbrev rnE (x : RnT) : Array Value := #[.int .i64 (x.1.1 : Int), .int .i32 (x.1.2 : Int)]
def AllRn (L : List UInt8) (xs : List RnT) : Prop := xs.map (·.1) = (allF L 0).1
def SomeRn (L : List UInt8) (xs : List RnT) : Prop := xs.map (·.1) <+: (allF L 0).1
structure RnAt (L : List UInt8) (pre : List RnT) (i : Nat) : Prop where
  all : (allF L 0).1 = pre.map (·.1) ++ (allF (L.drop i) i).1
  le : i ≤ L.length
  few : pre.length ≤ i
theorem RnAt.zero (L : List UInt8) : RnAt L [] 0 := ⟨rfl, by omega, Nat.le_refl _⟩
theorem RnAt.done {L : List UInt8} {pre : List RnT} {i : Nat} (h : RnAt L pre i) (hi : L.length ≤ i) : AllRn L pre := by
  unfold AllRn; rw [h.all, List.drop_eq_nil_of_le hi, allF_nil]; simp
theorem drop_ne {L : List UInt8} {i : Nat} (h : i < L.length) : L.drop i ≠ [] := fun e => by have := congrArg List.length e; rw [List.length_drop] at this; simp at this; omega
theorem RnAt.err {L : List UInt8} {pre : List RnT} {i : Nat} (h : RnAt L pre i) (hi : i < L.length) (he : (decU (L.drop i)).2.2 ≠ 0) : AllRn L pre := by
  unfold AllRn; rw [h.all, allF_err (drop_ne hi) i he]; simp
theorem RnAt.next {L : List UInt8} {pre : List RnT} {i : Nat} (h : RnAt L pre i) (hi : i < L.length) (he : (decU (L.drop i)).2.2 = 0) (x : RnT) (hx : x.1 = (i, (decU (L.drop i)).1)) : RnAt L (pre ++ [x]) (i + (decU (L.drop i)).2.1) := by
  have hk := decU_ok he
  rw [List.length_drop] at hk
  refine ⟨?_, by omega, by have := h.few; simp; omega⟩
  rw [h.all, allF_ok (drop_ne hi) i he, List.drop_drop]; simp [hx]
theorem RnAt.part {L : List UInt8} {pre : List RnT} {i : Nat} (h : RnAt L pre i) : SomeRn L pre := by
  unfold SomeRn; rw [h.all]; exact List.prefix_append _ _
def runeB (r : Nat) : Prop := r ≤ 1114111 ∧ (r < 55296 ∨ 57343 < r)
theorem begR_lead {f : UInt8} {r : List UInt8} {y : Nat × Nat} (h : begR (f :: r) = some y) : y.1 = leadN f ∧ okR (leadN f) (r.length + 1) y.2 = true := by
  rw [begR] at h
  split at h
  · cases h
  · split at h
    · cases h
    · split at h
      · rename_i hk; injection h with h; subst h; exact ⟨rfl, hk⟩
      · cases h
theorem okR_rune {n v : Nat} (h : okR n n v = true) : runeB v := by
  have hm : mostU n ≤ 1114111 := by unfold mostU; split <;> (try split) <;> (try split) <;> (try split) <;> omega
  unfold okR at h
  rw [Nat.sub_self] at h
  simp only [lowR, highR, Bool.not_eq_true', Bool.or_eq_false_iff, Bool.and_eq_false_iff, decide_eq_false_iff_not] at h
  unfold runeB
  generalize leastU n = a at *
  generalize mostU n = b at *
  obtain ⟨h1, h2⟩ := h
  have q1 := Nat.le_max_left v a
  have q2 := Nat.min_le_left v b
  have q3 := Nat.min_le_right v b
  have h3 := of_decide_eq_false h2
  rcases h1 with h1 | h1
  · have h4 := of_decide_eq_false h1; omega
  · have h4 := of_decide_eq_false h1; omega
theorem decU_rune {l : List UInt8} (h : (decU l).2.2 = 0) : runeB (decU l).1 := by
  cases l with
  | nil => simp [decU] at h
  | cons f r =>
    rw [← firstR_eq] at h ⊢
    unfold firstR at h ⊢
    cases h1 : begR ((f :: r).take 1) with
    | none => rw [h1] at h; simp at h
    | some x =>
      rw [h1] at h
      dsimp only at h ⊢
      by_cases h2 : x.1 ≤ (f :: r).length
      · rw [if_pos h2] at h ⊢
        cases h3 : begR ((f :: r).take x.1) with
        | none => rw [h3] at h; simp at h
        | some y =>
          dsimp only
          have hx := (begR_lead (f := f) (r := []) h1).1
          cases hk : x.1 with
          | zero => rw [hk] at h3; simp [begR] at h3
          | succ k =>
            rw [hk, List.take_succ_cons] at h3
            obtain ⟨h4, h5⟩ := begR_lead h3
            have hl : (r.take k).length + 1 = x.1 := by rw [List.length_take]; simp at h2; omega
            rw [hl, hx] at h5
            exact okR_rune h5
      · rw [if_neg h2] at h
        cases h3 : begR (f :: r) with
        | none => rw [h3] at h; simp at h
        | some y => rw [h3] at h; simp at h

theorem art_runes (s : ByteArray) (w : World) (n : Nat) : CallsIn Fence.wide n Try.prog 44 #[.string s] w fun e w' => e = .returned (.func (.func 58) #[] #[.pointer (some ⟨w.heap.size, 0, none⟩)]) ∧ w' = w.alloc (.cells #[.string s] 9) := by
  refine callsIn_of_wp Try.func44 rfl trivial ?_ rfl
  simp only [Try.ntmps44, List.size_toArray, List.length_cons, List.length_nil, Nat.reduceAdd, Nat.reduceSub, Array.replicate_succ, Array.replicate_zero, List.push_toArray, List.append_toArray, List.nil_append, List.cons_append]
  gi_wp2
  go_ret
  exact ⟨rfl, rfl⟩

set_option maxRecDepth 100000 in
set_option maxHeartbeats 4000000 in
theorem runes_stops (n : Nat) (hn : 1 ≤ n) (Kp : World → World → Prop) (w : World) (B : Nat) (hB : B < w.heap.size) (s : ByteArray) (hKc : ∀ W W', Kp W W' → W.cell? ⟨B, 0, none⟩ = some (.string s) → W'.cell? ⟨B, 0, none⟩ = some (.string s)) (hs : s.size ≤ 900000) (hc : w.cell? ⟨B, 0, none⟩ = some (.string s)) :
    SeqStopsK Fence.wide n Try.prog 58 #[.pointer (some ⟨B, 0, none⟩)] rnE Kp (AllRn (toL s)) (SomeRn (toL s)) 1000000 w := fun l J Jx W hW hJA _ hY h0 => by
  have HJA := Lib.hid hJA
  have HKC := Lib.hid hKc; clear hKc
  have HC := Lib.hid ((hW.cell (p := ⟨B, 0, none⟩) hB).trans hc)
  have HL := Lib.hid (toL_length s)
  have HZ := Lib.hid (RnAt.zero (toL s))
  have HY := Lib.hid hY
  clear hW hY hc hB hJA
  refine callsIn_of_wp Try.func58 rfl trivial ?_ rfl
  simp only [Try.ntmps58, List.size_toArray, List.length_cons, List.length_nil, Nat.reduceAdd, Nat.reduceSub, Array.replicate_succ, Array.replicate_zero, List.push_toArray, List.append_toArray, List.nil_append, List.cons_append]
  gi_wp2
  gi_loopw [3] (fun i wr => ∃ (at_ : Nat) (pre : List RnT), i = .int .i64 (at_ : Int) ∧ RnAt (toL s) pre at_ ∧ J pre wr ∧ wr.cell? ⟨B, 0, none⟩ = some (.string s))
    (fun i _ => s.size - (intOf i).toNat)
  case atStart => exact ⟨0, [], rfl, HZ.out, h0, HC.out⟩
  case round =>
    obtain ⟨at_, pre, rfl, hat, hJ0, hcr⟩ := hrel
    have HAT := Lib.hid hat
    have hle := HAT.out.le
    rw [HL.out] at hle
    clear hat HZ h0 HC
    have k0 : (0 : Int) ≤ (at_ : Int) := by omega
    by_cases hlt : at_ < s.size
    · have k1 : (at_ : Int) < (s.size : Int) := by omega
      have HT := Lib.hid (ext_drop s at_)
      have hxs : (s.extract at_ s.size).size ≤ 100000000 := by rw [extract_size _ _ _ (Nat.le_refl _)]; omega
      have HDC := Lib.hid (fun wx => u8_decode (s.extract at_ s.size) wx hxs)
      rw [HT.out] at HDC
      have hll : at_ < (toL s).length := by rw [HL.out]; exact hlt
      have hsz := decU_size ((toL s).drop at_)
      by_cases he : (decU ((toL s).drop at_)).2.2 = 0
      · have HN := Lib.hid (fun (x : RnT) hx => HAT.out.next hll he x hx)
        have hru := decU_rune he
        have hk := decU_ok he
        rw [List.length_drop, HL.out] at hk
        rw [he] at HDC
        generalize (decU ((toL s).drop at_)).2.1 = m at *
        generalize (decU ((toL s).drop at_)).1 = r at *
        have hfew := HAT.out.few
        clear he
        gi_wp2_with (refine ⟨trivial, ?_⟩; gi_at_call 59; refine (callsIn_wide.2 (HDC.out _)).mono ?_; rintro e w' ⟨rfl, nd, rfl⟩)
        have hJ1 := HJA.out pre wr (wr.drewN nd) none hJ0 ⟨rfl, rfl, rfl, Nat.le_refl _, fun _ _ _ => rfl⟩ (fun r e => by cases e)
        obtain ⟨fn, tmps, assign, body, hy, hY1⟩ := HY.out pre ⟨(at_, r), by omega, hru⟩ (wr.drewN nd) hJ1 (by omega)
        dsimp only [rnE] at hy
        have hcd : (wr.drewN nd).cell? ⟨B, 0, none⟩ = some (.string s) := hcr
        rw [hy]
        gi_wp2
        refine hY1.mono ?_
        rintro e W3 (⟨rfl, hJ3, hk3⟩ | ⟨rfl, hJx3⟩)
        · have hc3 := HKC.out _ _ hk3 hcd
          gi_wp2
          go_roundw
          case rel => exact ⟨at_ + m, _, by go_num, HN.out _ rfl, hJ3, hc3⟩
          case measure => simp [intOf] <;> omega
        · gi_wp2
          refine bodyPost_ret (results_none rfl _ _ _) rfl ?_
          exact ⟨⟨_, rfl⟩, .inr ⟨_, (HN.out ⟨(at_, r), by omega, hru⟩ rfl).part, hJx3⟩⟩
      · have HD := Lib.hid (HAT.out.err hll he)
        have e2 : ((decU ((toL s).drop at_)).2.2 != 0) = true := by simp [bne, he]
        generalize (decU ((toL s).drop at_)).2.2 = ke at *
        generalize (decU ((toL s).drop at_)).2.1 = m at *
        generalize (decU ((toL s).drop at_)).1 = r at *
        clear he
        gi_wp2_with (refine ⟨trivial, ?_⟩; gi_at_call 59; refine (callsIn_wide.2 (HDC.out _)).mono ?_; rintro e w' ⟨rfl, nd, rfl⟩)
        all_goals
          refine ⟨fun _ h => (by cases h), ?_⟩
          gi_wp2
        all_goals
          refine bodyPost_ret (results_none rfl _ _ _) rfl ?_
          exact ⟨⟨_, rfl⟩, .inl ⟨_, HD.out, HJA.out pre wr (wr.drewN nd) none hJ0 ⟨rfl, rfl, rfl, Nat.le_refl _, fun _ _ _ => rfl⟩ (fun r e => by cases e)⟩⟩
    · have k1 : (s.size : Int) ≤ (at_ : Int) := by omega
      have HD := Lib.hid (HAT.out.done (by rw [HL.out]; omega))
      gi_wp2
      go_end0
      exact ⟨⟨_, rfl⟩, .inl ⟨pre, HD.out, hJ0⟩⟩
end Go.Proofs.Ytcohgjdijhogbaa

namespace Go.Proofs.Ytcohgjdijhogbaa
set_option linter.unusedSimpArgs false
set_option linter.unusedVariables false
open Go.RowKit Go.Shelf
attribute [local go_sem] Oper.semAt_some

def hitX (x : RnT) : Bool := hitP2 x.1
/-- None of these is a bad code point. -/
def NoHit (pre : List RnT) : Prop := pre.find? hitX = none
/-- The last of these is a bad code point, and the first one. -/
def LastHit (pre : List RnT) (n : Nat) : Prop := ∃ ini last, pre = ini ++ [last] ∧ NoHit ini ∧ hitX last = true ∧ last.1.1 = n
theorem NoHit.nil : NoHit [] := rfl
theorem NoHit.snoc {pre : List RnT} {x : RnT} (h : NoHit pre) (hx : hitX x = false) : NoHit (pre ++ [x]) := by
  unfold NoHit at *; rw [List.find?_append, h]; simp [hx]
theorem find_map (l : List RnT) : (l.map (·.1)).find? hitP2 = (l.find? hitX).map (·.1) := by
  induction l with
  | nil => rfl
  | cons x r ih =>
    have e : hitP2 x.1 = hitX x := rfl
    cases h : hitX x
    · rw [List.map_cons, List.find?_cons, List.find?_cons, e, h]; exact ih
    · rw [List.map_cons, List.find?_cons, List.find?_cons, e, h]; rfl
theorem bad_none {L : List UInt8} {xs : List RnT} (h : AllRn L xs) (hn : NoHit xs) : badG L = match (allF L 0).2 with
    | some y => (y.1 : Int)
    | none => -1 := by
  unfold badG
  rw [← h, find_map, hn]; rfl
theorem bad_some {L : List UInt8} {pre : List RnT} {n : Nat} (h : SomeRn L pre) (hl : LastHit pre n) : badG L = (n : Int) := by
  obtain ⟨ini, last, rfl, h1, h2, rfl⟩ := hl
  obtain ⟨r, hr⟩ := h
  have hf : (ini ++ [last]).find? hitX = some last := by rw [List.find?_append, h1]; simp [h2]
  unfold badG
  rw [← hr, List.find?_append, find_map, hf]; rfl
theorem bad_chk {L : List UInt8} {xs : List RnT} (h : AllRn L xs) (hn : NoHit xs) : ((chkF L).2 = 0 → badG L = -1) ∧ ((chkF L).2 ≠ 0 → badG L = ((chkF L).1 : Int)) := by
  rw [bad_none h hn]
  constructor
  · intro h0; rw [chk_none.1 h0]
  · intro h0
    cases e : (allF L 0).2 with
    | none => exact absurd (chk_none.2 e) h0
    | some y => rw [chk_some e]

/-- The way out behind a loop over an iterator: one boxed result. -/
theorem retBox1 {W w : World} {D : Nat} {v v' : Int} {T : Array Value} (hb : Boxed W w.heap.size 3 (.int .i64 v)) (hB : Below w.heap.size w W) (hK : W.heap[D]? = some (.deferred (some []))) (hD : w.heap.size ≤ D) (hv : v = v') (hT : T[2]? = some (.pointer (some ⟨w.heap.size, 0, none⟩))) :
    bodyPostM Fence.wide 9 Try.prog Try.f30 (fun e w' => e = .returned (.int .i64 v') ∧ Below w.heap.size w w') .ret { tmps := T, defers := [{ target := .collected D, args := #[] }] } W := by
  subst hv
  have hc := cell_kept hb.cell (grownBy_putObj' W D (.deferred none)) (fun r e => by cases e; exact ⟨_, hK, rfl⟩)
  refine ⟨by simp, .inl ⟨_, _, rfl, run_takeDeferred hK, ?_⟩⟩
  refine ⟨.int .i64 v, ?_, rfl, hB.trans (belowK_b (w := w) (Nat.le_refl _) W D _ _ hD hK rfl rfl)⟩
  simp [results, Try.f30, go_sem, hT, hc]
set_option maxRecDepth 100000 in
set_option maxHeartbeats 4000000 in
theorem art_bad (s : ByteArray) (w : World) (hs : s.size ≤ 900000) : Calls Try.prog 30 #[.string s] w fun e w' => e = .returned (.int .i64 (badG (toL s))) ∧ Below w.heap.size w w' := by
  refine (callsIn_wide (n := 9)).1 ?_
  refine callsIn_of_wp_marks Try.func30 rfl trivial ?_ rfl
  simp only [Try.ntmps30, List.size_toArray, List.length_cons, List.length_nil, Nat.reduceAdd, Nat.reduceSub, Array.replicate_succ, Array.replicate_zero, List.push_toArray, List.append_toArray, List.nil_append, List.cons_append]
  gi_wp2_with (refine ⟨trivial, ?_⟩; gi_at_call 44; refine (art_runes s _ _).mono ?_; rintro e w' ⟨rfl, rfl⟩)
  have bR := Boxed.new w 3 (.int .i64 0)
  have bN := Boxed.new (w.alloc (.cells #[.int .i64 0] 3)) 9 (.string s)
  rw [World.size_alloc] at bN
  have hB0 : Below w.heap.size w ((w.alloc (.cells #[.int .i64 0] 3)).alloc (.cells #[.string s] 9)) := ((Below.refl _ w).alloc (Nat.le_refl _) _).alloc (by simp) _
  refine wpIn_rangeFunc_ownG (a₁ := ?a1) rfl (by omega) (gf := 58) (lb := #[.pointer (some ⟨w.heap.size + 1, 0, none⟩)]) rfl trivial (enters_of Try.func58 (by kernel_rfl) rfl)
    (runes_stops _ (by omega) (Below (w.heap.size + 2)) _ (w.heap.size + 1) (by simp) s (fun _ _ h1 h2 => (h1.cell (p := ⟨w.heap.size + 1, 0, none⟩) (by simp)).trans h2) hs bN.cell) belowK_t (belowK_b (by simp)) (Below.refl _ _) (fun _ => rfl)
    (fun pre W => (NoHit pre ∧ Boxed W w.heap.size 3 (.int .i64 0)) ∧ Below w.heap.size w W)
    (fun c pre W => (c = .ret ∧ ∃ n : Nat, LastHit pre n ∧ Boxed W w.heap.size 3 (.int .i64 (n : Int))) ∧ Below w.heap.size w W)
    (OwnFrom.and (OwnFrom.and (ownFrom_pure _ _) (Own.from (boxed_own _ _ _) _)) (ownFrom_below (Nat.le_refl _) (by simp; omega)))
    (fun c => OwnFrom.and (Own.from (fun s A B row hs hg hr => ⟨hs.1, hs.2.choose, hs.2.choose_spec.1, boxed_own _ _ (fun _ => _) s A B row hs.2.choose_spec.2 hg hr⟩) _) (ownFrom_below (Nat.le_refl _) (by simp; omega)))
    ⟨⟨NoHit.nil, bR.alloc _⟩, hB0⟩ ?assign ?body ?done ?stop
  case assign =>
    intro l x W K hK
    gi_wp2
    exact hK
  case body =>
    rintro l pre ⟨⟨o, r⟩, hx⟩ W ⟨⟨hn, hb⟩, hB⟩ _
    have HN := Lib.hid hn; have HBW := Lib.hid hB
    have hcell := hb.cell; have hfr := hb.frozen
    have HBX := Lib.hid hb
    clear hn hB hb bR bN hB0
    have HCT := Lib.hid (fun wx => art_isControl (r : Int) wx)
    rw [ctlI_nat] at HCT
    dsimp only
    by_cases h9 : r = 9
    · have f9 : ((r : Int) != 9) = false := by subst h9; rfl
      have HH := Lib.hid (show hitX ⟨(o, r), hx⟩ = false from by unfold hitX hitP2 hitU; simp [h9])
      clear h9
      gi_wp2
      refine ⟨trivial, ?_⟩
      gi_wp2
      exact ⟨KeepsFrom.refl _ _, Below.refl _ _, ⟨HN.out.snoc HH.out, HBX.out⟩, HBW.out⟩
    · have f9 : ((r : Int) != 9) = true := by simp; omega
      rcases hc : ctlU r with _ | _
      · rw [hc] at HCT
        have HH := Lib.hid (show hitX ⟨(o, r), hx⟩ = false from by unfold hitX hitP2 hitU; simp [hc])
        clear h9 hc
        gi_wp2_with (refine ⟨trivial, ?_⟩; gi_at_call 45; refine (CallsIn.inRound l (callsIn_wide.2 (HCT.out _))).mono ?_; rintro e w' ⟨rfl, rfl⟩)
        exact ⟨KeepsFrom.refl _ _, Below.refl _ _, ⟨HN.out.snoc HH.out, HBX.out⟩, HBW.out⟩
      · rw [hc] at HCT
        have HH := Lib.hid (show hitX ⟨(o, r), hx⟩ = true from by unfold hitX hitP2 hitU; simp [hc, h9])
        clear h9 hc
        gi_wp2_with (refine ⟨trivial, ?_⟩; gi_at_call 45; refine (CallsIn.inRound l (callsIn_wide.2 (HCT.out _))).mono ?_; rintro e w' ⟨rfl, rfl⟩)
        exact ⟨(KeepsOthers.setCell _ _ _).from _, ⟨rfl, o, ⟨pre, _, rfl, HN.out, HH.out, rfl⟩, HBX.out.set _⟩, HBW.out.setCell (p := ⟨w.heap.size, 0, none⟩) (Nat.le_refl _) _⟩
  case done =>
    rintro D ys W hD hS ⟨⟨hn, hb⟩, hB⟩ hK
    obtain ⟨hz, hnz⟩ := bad_chk hS hn
    have hcell := hb.cell; have hfr := hb.frozen
    have HCK := Lib.hid (fun wx => u8_check s wx (by omega))
    have HB := Lib.hid hB; have HK := Lib.hid hK; have HBX := Lib.hid hb
    clear hB hK hb hS hn bR bN hB0
    simp only [World.size_alloc] at hD
    generalize chkF (toL s) = ck at *
    obtain ⟨at_, er⟩ := ck
    simp only at HCK hz hnz
    by_cases h0 : er = 0
    · have HV := Lib.hid (hz h0)
      have e1 : (er != 0) = false := by subst h0; rfl
      clear hz hnz h0
      gi_wp2_with (refine ⟨trivial, ?_⟩; gi_at_call 46; refine (callsIn_wide.2 (HCK.out _)).mono ?_; rintro e w' ⟨rfl, nd, rfl⟩)
      have HW := Lib.hid (below_drewN HB.out nd)
      have HKD := Lib.hid (show (W.drewN nd).heap[D]? = some (.deferred (some [])) from HK.out)
      have HBD := Lib.hid (show Boxed (W.drewN nd) w.heap.size 3 (.int .i64 0) from HBX.out)
      generalize W.drewN nd = X at *
      exact retBox1 (HBD.out.set _) (HW.out.setCell (p := ⟨w.heap.size, 0, none⟩) (Nat.le_refl _) _) ((KeepsOthers.setCell X _ _).same D _ HKD.out rfl) (by omega) HV.out.symm rfl
    · have HV := Lib.hid (hnz h0)
      have e1 : (er != 0) = true := by simp [bne, h0]
      clear hz hnz h0
      gi_wp2_with (refine ⟨trivial, ?_⟩; gi_at_call 46; refine (callsIn_wide.2 (HCK.out _)).mono ?_; rintro e w' ⟨rfl, nd, rfl⟩)
      have HW := Lib.hid (below_drewN HB.out nd)
      have HKD := Lib.hid (show (W.drewN nd).heap[D]? = some (.deferred (some [])) from HK.out)
      have HBD := Lib.hid (show Boxed (W.drewN nd) w.heap.size 3 (.int .i64 0) from HBX.out)
      generalize W.drewN nd = X at *
      exact retBox1 (HBD.out.set _) (HW.out.setCell (p := ⟨w.heap.size, 0, none⟩) (Nat.le_refl _) _) ((KeepsOthers.setCell X _ _).same D _ HKD.out rfl) (by omega) HV.out.symm rfl
  case stop =>
    rintro D c pre W hD hS ⟨⟨rfl, n, hl, hb⟩, hB⟩ hK
    have HV := Lib.hid (bad_some hS hl)
    simp only [World.size_alloc] at hD
    gi_wp2
    exact retBox1 hb hB hK (by omega) HV.out.symm rfl
end Go.Proofs.Ytcohgjdijhogbaa

namespace Go.Proofs.Ytcohgjdijhogbaa
set_option linter.unusedSimpArgs false
set_option linter.unusedVariables false
open Go.RowKit Go.Shelf
attribute [local go_sem] Oper.semAt_some

theorem keeps_below {B : Nat} {W W' : World} (h : Below W.heap.size W W') : KeepsFrom B W W' :=
  KeepsOthers.from ⟨h.size, fun k o hk _ => (h.block k (heap_lt hk)).trans hk⟩ B
theorem bx_below {W W' : World} {B : Nat} {t : TypeId} {v : Value} (h : Boxed W B t v) (hb : Below W.heap.size W W') : Boxed W' B t v := (hb.block _ h.lt).trans h
theorem bx_put {W : World} {B : Nat} {t : TypeId} {v : Value} (h : Boxed W B t v) (v' : Value) : Boxed (W.setCell ⟨B, 0, none⟩ v') B t v' := h.set v'
/-- The way out behind a loop over an iterator: two boxed results. -/
theorem retBox2 {f : Func} {n t1 t2 : Nat} {W : World} {D b : Nat} {v1 v2 : Value} {T : Array Value} {Q : Ending → World → Prop} (hf : f.results = #[.cell 2 t1, .cell 3 t2]) (h1 : Boxed W b t1 v1) (h2 : Boxed W (b + 1) t2 v2) (hK : W.heap[D]? = some (.deferred (some [])))
    (hQ : Q (.returned (.tuple #[v1, v2])) (W.putObj D (.deferred none))) (hT1 : T[2]? = some (.pointer (some ⟨b, 0, none⟩))) (hT2 : T[3]? = some (.pointer (some ⟨b + 1, 0, none⟩)))
    (ha1 : ∀ w, (isAgg t1).run Try.prog w = .ok false w) (ha2 : ∀ w, (isAgg t2).run Try.prog w = .ok false w) :
    bodyPostM Fence.wide n Try.prog f Q .ret { tmps := T, defers := [{ target := .collected D, args := #[] }] } W := by
  have c1 := cell_kept h1.cell (grownBy_putObj' W D (.deferred none)) (fun r e => by cases e; exact ⟨_, hK, rfl⟩)
  have c2 := cell_kept h2.cell (grownBy_putObj' W D (.deferred none)) (fun r e => by cases e; exact ⟨_, hK, rfl⟩)
  refine ⟨by simp, .inl ⟨_, _, rfl, run_takeDeferred hK, ?_⟩⟩
  refine ⟨.tuple #[v1, v2], ?_, hQ⟩
  simp [results, hf, go_sem, hT1, hT2, c1, c2, ha1, ha2]
theorem bx_new {W : World} {B : Nat} (t : TypeId) (v : Value) (h : W.heap.size = B) : Boxed (W.alloc (.cells #[v] t)) B t v := by subst h; exact Boxed.new W t v
theorem bx_own {W W' : World} {row : Option Nat} {B : Nat} {t : TypeId} {v : Value} (h : Boxed W B t v) (hg : W.grownBy W' row) (hr : ∀ r, row = some r → ∃ o : Obj, W.heap[r]? = some o ∧ o.isCells = false) : Boxed W' B t v :=
  boxed_own (β := Unit) B t (fun _ => v) () W W' row h hg hr
/-- Between two lines of CheckBody. -/
structure CbI (b : Nat) (s : ByteArray) (pre : List (LnT 900000)) (W : World) : Prop where
  clean : Clean (toL s).length (txL pre)
  r1 : Boxed W (b + 1) 3 (.int .i64 0)
  r2 : Boxed W (b + 1 + 1) 23 (.int .i64 0)
  at_ : Boxed W (b + 1 + 1 + 1) 3 (.int .i64 (sumL (txL pre) : Nat))
  sb : Boxed W b 9 (.string s)
/-- CheckBody has found an error. -/
structure CbX (b : Nat) (s : ByteArray) (c : Code) (pre : List (LnT 900000)) (W : World) : Prop where
  ret : c = .ret
  ex : ∃ (n : Nat) (e : Int), StopAt (toL s).length (txL pre) (n, e) ∧ Boxed W (b + 1) 3 (.int .i64 (n : Int)) ∧ Boxed W (b + 1 + 1) 23 (.int .i64 e)
theorem CbI.own (b : Nat) (s : ByteArray) : Own (CbI b s) := fun _ _ _ _ hs hg hr => ⟨hs.clean, bx_own hs.r1 hg hr, bx_own hs.r2 hg hr, bx_own hs.at_ hg hr, bx_own hs.sb hg hr⟩
theorem CbX.own (b : Nat) (s : ByteArray) (c : Code) : Own (CbX b s c) := fun _ _ _ _ hs hg hr => by
  obtain ⟨h1, n, e, h2, h3, h4⟩ := hs
  exact ⟨h1, n, e, h2, bx_own h3 hg hr, bx_own h4 hg hr⟩

theorem bx_two {W : World} {b t1 t2 : Nat} {u1 u2 : Value} (v1 v2 : Value) (h1 : Boxed W b t1 u1) (h2 : Boxed W (b + 1) t2 u2) :
    Boxed ((W.setCell ⟨b, 0, none⟩ v1).setCell ⟨b + 1, 0, none⟩ v2) b t1 v1 ∧ Boxed ((W.setCell ⟨b, 0, none⟩ v1).setCell ⟨b + 1, 0, none⟩ v2) (b + 1) t2 v2 :=
  ⟨(h1.set v1).other (by omega) _, (h2.other (by omega) v1).set v2⟩
theorem keeps_two (B : Nat) (W : World) (p q : Addr) (v1 v2 : Value) : KeepsFrom B W ((W.setCell p v1).setCell q v2) := ((KeepsOthers.setCell W p v1).trans (KeepsOthers.setCell _ q v2)).from B
theorem below_two {n b : Nat} {w W : World} (h : Below n w W) (hb : n ≤ b) (v1 v2 : Value) : Below n w ((W.setCell ⟨b, 0, none⟩ v1).setCell ⟨b + 1, 0, none⟩ v2) :=
  (h.setCell (p := ⟨b, 0, none⟩) hb v1).setCell (p := ⟨b + 1, 0, none⟩) (Nat.le_succ_of_le hb) v2
theorem CbX.of {b : Nat} {s : ByteArray} {pre : List (LnT 900000)} {W : World} {u1 u2 v1 : Value} (n : Nat) (e : Int) (hst : StopAt (toL s).length (txL pre) (n, e)) (h1 : Boxed W (b + 1) 3 u1) (h2 : Boxed W (b + 1 + 1) 23 u2) (hv : v1 = .int .i64 (n : Int)) :
    CbX b s .ret pre ((W.setCell ⟨b + 1, 0, none⟩ v1).setCell ⟨b + 1 + 1, 0, none⟩ (.int .i64 e)) := by
  subst hv
  obtain ⟨q1, q2⟩ := bx_two (.int .i64 (n : Int)) (.int .i64 e) h1 h2
  exact ⟨rfl, n, e, hst, q1, q2⟩
set_option maxRecDepth 100000 in
set_option maxHeartbeats 4000000 in
theorem art_body (s : ByteArray) (w : World) (hsh : w.ShapedOpen Try.prog) (hs : s.size ≤ 900000) : Calls Try.prog 11 #[.string s] w fun e w' => e = .returned (.tuple #[.int .i64 ((bodyF (toL s)).1 : Nat), .int .i64 (bodyF (toL s)).2]) ∧ Below w.heap.size w w' := by
  have HSH := Lib.hid hsh; clear hsh
  have HL := Lib.hid (toL_length s)
  refine (callsIn_wide (n := 10)).1 ?_
  refine callsIn_of_wp_marks Try.func11 rfl trivial ?_ rfl
  simp only [Try.ntmps11, List.size_toArray, List.length_cons, List.length_nil, Nat.reduceAdd, Nat.reduceSub, Array.replicate_succ, Array.replicate_zero, List.push_toArray, List.append_toArray, List.nil_append, List.cons_append]
  gi_wp2_with (refine ⟨trivial, ?_⟩; gi_at_call 15; refine (art_lines s _ _).mono ?_; rintro e w' ⟨rfl, rfl⟩)
  have hB0 : Below w.heap.size w (((((w.alloc (.cells #[.string s] 9)).alloc (.cells #[.int .i64 0] 3)).alloc (.cells #[.int .i64 0] 23)).alloc (.cells #[.int .i64 0] 3)).alloc (.cells #[.string s] 9)) :=
    (((((Below.refl _ w).alloc (Nat.le_refl _) _).alloc (by simp) _).alloc (by simp; omega) _).alloc (by simp; omega) _).alloc (by simp; omega) _
  have hI0 : CbI w.heap.size s [] (((((w.alloc (.cells #[.string s] 9)).alloc (.cells #[.int .i64 0] 3)).alloc (.cells #[.int .i64 0] 23)).alloc (.cells #[.int .i64 0] 3)).alloc (.cells #[.string s] 9)) :=
    ⟨Clean.nil _, (((bx_new _ _ (by simp)).alloc _).alloc _).alloc _, ((bx_new _ _ (by simp)).alloc _).alloc _, (bx_new _ _ (by simp)).alloc _, ((((bx_new _ _ rfl).alloc _).alloc _).alloc _).alloc _⟩
  have hbx : Boxed (((((w.alloc (.cells #[.string s] 9)).alloc (.cells #[.int .i64 0] 3)).alloc (.cells #[.int .i64 0] 23)).alloc (.cells #[.int .i64 0] 3)).alloc (.cells #[.string s] 9)) (w.heap.size + 1 + 1 + 1 + 1) 9 (.string s) := bx_new _ _ (by simp)
  have hz0 : (((((w.alloc (.cells #[.string s] 9)).alloc (.cells #[.int .i64 0] 3)).alloc (.cells #[.int .i64 0] 23)).alloc (.cells #[.int .i64 0] 3)).alloc (.cells #[.string s] 9)).heap.size = w.heap.size + 5 := by simp
  generalize ((((w.alloc (.cells #[.string s] 9)).alloc (.cells #[.int .i64 0] 3)).alloc (.cells #[.int .i64 0] 23)).alloc (.cells #[.int .i64 0] 3)).alloc (.cells #[.string s] 9) = X at *
  refine wpIn_rangeFunc_ownG (a₁ := ?a1) rfl (by omega) (gf := 35) (lb := #[.pointer (some ⟨w.heap.size + 1 + 1 + 1 + 1, 0, none⟩)]) rfl trivial (enters_of Try.func35 (by kernel_rfl) rfl)
    (lines_stops _ (by omega) w X HSH.out hB0 (w.heap.size + 1 + 1 + 1 + 1) hbx.lt s (Nat.le_refl _) hs hbx.cell) belowK_t (belowK_b (by omega)) (Below.refl _ _) (fun _ => rfl)
    (fun pre W => CbI w.heap.size s pre W ∧ Below w.heap.size w W)
    (fun c pre W => CbX w.heap.size s c pre W ∧ Below w.heap.size w W)
    (OwnFrom.and (Own.from (CbI.own _ _) _) (ownFrom_below (Nat.le_refl _) (by omega)))
    (fun c => OwnFrom.and (Own.from (CbX.own _ _ _) _) (ownFrom_below (Nat.le_refl _) (by omega)))
    ⟨hI0, hB0⟩ ?assign ?body ?done ?stop
  case assign =>
    intro l x W K hK
    gi_wp2
    exact hK
  case body =>
    rintro l pre ⟨⟨o, x⟩, hx⟩ W ⟨hI, hB⟩ hlen
    have HI := Lib.hid hI; have HB := Lib.hid hB
    have hx1 : x.size ≤ 900000 := hx.2
    have hsl := sumL_le pre
    have HTX := Lib.hid (show txL (pre ++ [⟨(o, x), hx⟩]) = txL pre ++ [toL x] from txL_snoc _ _)
    have HXL := Lib.hid (toL_length x)
    have HSN := Lib.hid (sumL_snoc (txL pre) (toL x))
    have c1 := hI.r1.cell; have d1 := hI.r1.frozen
    have c2 := hI.r2.cell; have d2 := hI.r2.frozen
    have c3 := hI.at_.cell; have d3 := hI.at_.frozen
    have c4 := hI.sb.cell
    clear hI hB hI0 hB0 hbx
    obtain ⟨a, ha⟩ : ∃ a, a = sumL (txL pre) := ⟨_, rfl⟩
    rw [← ha] at c3 hsl
    have ha2 : a ≤ 1000001000000 := Nat.le_trans hsl (by omega)
    have a0 : (0 : Int) ≤ (a : Int) := by omega
    have HA := Lib.hid ha
    clear hsl hlen ha
    dsimp only
    by_cases h1 : a + x.size = s.size
    · have e1 : ((a : Int) + (x.size : Int) == (s.size : Int)) = true := by rw [beq_iff_eq]; omega
      have HST := Lib.hid (HI.out.clean.short (x := toL x) (by rw [HL.out, HXL.out, ← HA.out]; exact h1))
      rw [HL.out] at HST
      clear h1
      gi_wp2
      exact ⟨keeps_two _ _ _ _ _ _, CbX.of s.size 4 (by rw [HTX.out, HL.out]; exact HST.out) HI.out.r1 HI.out.r2 rfl, below_two HB.out (by omega) _ _⟩
    · have e1 : ((a : Int) + (x.size : Int) == (s.size : Int)) = false := beq_eq_false_iff_ne.2 (by omega)
      by_cases h2 : 998 < x.size
      · have e2 : (998 : Int) < (x.size : Int) := by omega
        have HST := Lib.hid (HI.out.clean.long (x := toL x) (by rw [HL.out, HXL.out, ← HA.out]; exact h1) (by rw [HXL.out]; exact h2))
        clear h1 h2
        rw [← HA.out] at HST
        gi_wp2
        exact ⟨keeps_two _ _ _ _ _ _, CbX.of (a + 998) 5 (by rw [HTX.out]; exact HST.out) HI.out.r1 HI.out.r2 (by go_num), below_two HB.out (by omega) _ _⟩
      · have e2 : (x.size : Int) ≤ 998 := by omega
        have HBD := Lib.hid (fun wx => art_bad x wx (by omega))
        have hbg := badG_ge (toL x)
        have hbu := badG_le (toL x)
        rw [HXL.out] at hbu
        by_cases h3 : 0 ≤ badG (toL x)
        · have HST := Lib.hid (HI.out.clean.byte (x := toL x) (by rw [HL.out, HXL.out, ← HA.out]; exact h1) (by rw [HXL.out]; exact h2) h3)
          rw [← HA.out] at HST
          generalize badG (toL x) = g at *
          clear h1 h2
          gi_wp2_with (refine ⟨trivial, ?_⟩; gi_at_call 30; refine (CallsIn.inRound l (callsIn_wide.2 (HBD.out _))).mono ?_; rintro e w1 ⟨rfl, hb1⟩; have q1 := (bx_below HI.out.r1 hb1).cell; have q2 := (bx_below HI.out.r1 hb1).frozen; have q3 := (bx_below HI.out.r2 hb1).cell; have q4 := (bx_below HI.out.r2 hb1).frozen; have q5 := (bx_below HI.out.at_ hb1).cell; rw [← HA.out] at q5; have q6 := (bx_below HI.out.at_ hb1).frozen)
          exact ⟨(keeps_below hb1).trans (keeps_two _ _ _ _ _ _), CbX.of (a + g.toNat) 6 (by rw [HTX.out]; exact HST.out) (bx_below HI.out.r1 hb1) (bx_below HI.out.r2 hb1) (by congr 1; omega), below_two (HB.out.trans (hb1.mono HB.out.size)) (by omega) _ _⟩
        · have HCN := Lib.hid (HI.out.clean.next (x := toL x) (by rw [HL.out, HXL.out, ← HA.out]; exact h1) (by rw [HXL.out]; exact h2) h3)
          have h3' : badG (toL x) < 0 := by omega
          generalize badG (toL x) = g at *
          clear h1 h2 h3
          gi_wp2_with (refine ⟨trivial, ?_⟩; gi_at_call 30; refine (CallsIn.inRound l (callsIn_wide.2 (HBD.out _))).mono ?_; rintro e w1 ⟨rfl, hb1⟩; have q1 := (bx_below HI.out.r1 hb1).cell; have q2 := (bx_below HI.out.r1 hb1).frozen; have q3 := (bx_below HI.out.r2 hb1).cell; have q4 := (bx_below HI.out.r2 hb1).frozen; have q5 := (bx_below HI.out.at_ hb1).cell; rw [← HA.out] at q5; have q6 := (bx_below HI.out.at_ hb1).frozen)
          have HNN := Lib.hid (show a + x.size + 1 = sumL (txL (pre ++ [⟨(o, x), hx⟩])) from by rw [HTX.out, HSN.out, HXL.out, ← HA.out])
          refine ⟨(keeps_below hb1).trans ((KeepsOthers.setCell _ _ _).from _), (hb1.mono HB.out.size).setCell (p := ⟨w.heap.size + 1 + 1 + 1, 0, none⟩) (by show w.heap.size ≤ w.heap.size + 1 + 1 + 1; omega) _, ⟨by rw [HTX.out]; exact HCN.out, (bx_below HI.out.r1 hb1).other (by omega) _, (bx_below HI.out.r2 hb1).other (by omega) _, ?_, (bx_below HI.out.sb hb1).other (by omega) _⟩, (HB.out.trans (hb1.mono HB.out.size)).setCell (p := ⟨w.heap.size + 1 + 1 + 1, 0, none⟩) (by show w.heap.size ≤ w.heap.size + 1 + 1 + 1; omega) _⟩
          rw [← HNN.out, show ((a + x.size + 1 : Nat) : Int) = (a : Int) + (x.size : Int) + 1 from by omega]
          exact (bx_below HI.out.at_ hb1).set _
  case done =>
    rintro D ys W hD hS ⟨hI, hB⟩ hK
    have HV := Lib.hid (body_done hS hI.clean)
    have c1 := hI.r1.cell; have d1 := hI.r1.frozen
    have c2 := hI.r2.cell; have d2 := hI.r2.frozen
    have b1 := Lib.hid hI.r1; have b2 := Lib.hid hI.r2
    have HB := Lib.hid hB; have HK := Lib.hid hK
    clear hI hB hK hS hI0 hB0 hbx
    gi_wp2
    obtain ⟨q1, q2⟩ := bx_two (.int .i64 0) (.int .i64 0) b1.out b2.out
    have hK2 := ((KeepsOthers.setCell W ⟨w.heap.size + 1, 0, none⟩ (.int .i64 0)).trans (KeepsOthers.setCell _ ⟨w.heap.size + 1 + 1, 0, none⟩ (.int .i64 0))).same D _ HK.out rfl
    exact retBox2 rfl q1 q2 hK2 ⟨by rw [HV.out]; rfl, (below_two HB.out (by omega) _ _).trans (belowK_b (w := w) (Nat.le_refl _) _ D _ _ (by omega) hK2 rfl rfl)⟩ rfl rfl (run_isAgg_plain Try.underlying3 rfl) (run_isAgg_plain Try.underlying23 rfl)
  case stop =>
    rintro D c pre W hD hS ⟨⟨rfl, n, e, hst, h1, h2⟩, hB⟩ hK
    have HV := Lib.hid (body_stop hS hst)
    gi_wp2
    refine retBox2 rfl h1 h2 hK ⟨by rw [HV.out], hB.trans (belowK_b (w := w) (Nat.le_refl _) W D _ _ (by omega) hK rfl rfl)⟩ rfl rfl (run_isAgg_plain Try.underlying3 rfl) (run_isAgg_plain Try.underlying23 rfl)
end Go.Proofs.Ytcohgjdijhogbaa

namespace Go.Proofs.Ytcohgjdijhogbaa
set_option linter.unusedSimpArgs false
set_option linter.unusedVariables false
variable {M : Nat}

/-- The lines below a level. -/
def strL (lev : Int) (l : List (List UInt8)) : List UInt8 := l.flatMap fun x => if (levN x : Int) < lev then x ++ [10] else []
theorem strL_snoc (lev : Int) (l : List (List UInt8)) (x : List UInt8) : strL lev (l ++ [x]) = strL lev l ++ (if (levN x : Int) < lev then x ++ [10] else []) := by simp [strL]
theorem strL_le (lev : Int) (l : List (List UInt8)) : (strL lev l).length ≤ sumL l := by
  induction l with
  | nil => simp [strL, sumL]
  | cons x r ih =>
    have e1 : strL lev (x :: r) = (if (levN x : Int) < lev then x ++ [10] else []) ++ strL lev r := rfl
    have e2 : sumL (x :: r) = x.length + 1 + sumL r := by simp [sumL]
    rw [e1, e2, List.length_append]
    split
    · simp; omega
    · simp; omega
def strF (L : List UInt8) (lev : Int) : List UInt8 × Int := if lev < 1 then ([], 2) else if (bodyF L).2 ≠ 0 then ([], (bodyF L).2) else (strL lev (linesF L), 0)
/-- One quoted line. -/
def quoL (x : List UInt8) : List UInt8 := if x = [] ∨ 0 < levN x then 62 :: x else 62 :: 32 :: x
theorem quoL_le (x : List UInt8) : (quoL x).length ≤ x.length + 2 := by unfold quoL; split <;> simp
def quoGo : List (List UInt8) → List UInt8 → List UInt8 × Int
  | [], out => if 65536 < out.length then ([], 5) else (out, 0)
  | x :: r, out => if 998 < (quoL x).length then ([], 5) else quoGo r (out ++ (quoL x ++ [10]))
def quoF (L : List UInt8) : List UInt8 × Int := if (bodyF L).2 ≠ 0 then ([], (bodyF L).2) else quoGo (linesF L) []
def quoT (l : List (List UInt8)) : List UInt8 := l.flatMap fun x => quoL x ++ [10]
theorem quoT_snoc (l : List (List UInt8)) (x : List UInt8) : quoT (l ++ [x]) = quoT l ++ (quoL x ++ [10]) := by simp [quoT]
theorem quoT_le (xs : List (LnT M)) : (quoT (txL xs)).length ≤ xs.length * (M + 3) := by
  induction xs with
  | nil => simp [quoT, txL]
  | cons x r ih =>
    have h1 : quoT (txL (x :: r)) = (quoL (toL x.1.2) ++ [10]) ++ quoT (txL r) := rfl
    have := x.2.2
    have h2 := quoL_le (toL x.1.2)
    rw [toL_length] at h2
    have e : (x :: r).length * (M + 3) = r.length * (M + 3) + (M + 3) := by rw [List.length_cons, Nat.succ_mul]
    rw [h1, e, List.length_append, List.length_append]
    simp only [List.length_cons, List.length_nil]
    omega
/-- Quoting goes on behind these lines; or it has ended in an error. -/
def QuoOn (l : List (List UInt8)) : Prop := ∀ rest, quoGo (l ++ rest) [] = quoGo rest (quoT l)
def QuoEnd (l : List (List UInt8)) : Prop := ∀ rest, quoGo (l ++ rest) [] = ([], 5)
theorem QuoOn.nil : QuoOn [] := fun _ => rfl
theorem QuoOn.next {l : List (List UInt8)} (h : QuoOn l) {x : List UInt8} (hx : ¬ 998 < (quoL x).length) : QuoOn (l ++ [x]) := fun rest => by
  rw [List.append_assoc, h, List.singleton_append, quoGo, if_neg hx, quoT_snoc]
theorem QuoOn.stop {l : List (List UInt8)} (h : QuoOn l) {x : List UInt8} (hx : 998 < (quoL x).length) : QuoEnd (l ++ [x]) := fun rest => by
  rw [List.append_assoc, h, List.singleton_append, quoGo, if_pos hx]
theorem quo_done {L : List UInt8} {xs : List (LnT M)} (h : AllLn L xs) (hb : (bodyF L).2 = 0) (hq : QuoOn (txL xs)) : quoF L = if 65536 < (quoT (txL xs)).length then ([], 5) else (quoT (txL xs), 0) := by
  have := hq []
  rw [List.append_nil] at this
  unfold quoF
  rw [if_neg (by omega), ← txL_all h, this]; rfl
theorem quo_stop {L : List UInt8} {pre : List (LnT M)} (h : SomeLn L pre) (hb : (bodyF L).2 = 0) (hq : QuoEnd (txL pre)) : quoF L = ([], 5) := by
  obtain ⟨r, hr⟩ := txL_some h
  unfold quoF
  rw [if_neg (by omega), hr, hq]
end Go.Proofs.Ytcohgjdijhogbaa

namespace Go.Proofs.Ytcohgjdijhogbaa
set_option linter.unusedSimpArgs false
set_option linter.unusedVariables false
open Go.RowKit Go.Shelf
attribute [local go_sem] Oper.semAt_some

theorem allLn_len {M : Nat} {L : List UInt8} {xs : List (LnT M)} (h : AllLn L xs) : xs.length = (linesF L).length := by
  have := congrArg List.length h
  rwa [List.length_map, numL_length] at this
set_option maxRecDepth 100000 in
set_option maxHeartbeats 4000000 in
theorem art_count (s : ByteArray) (w : World) (hsh : w.ShapedOpen Try.prog) (hs : s.size ≤ 900000) : Calls Try.prog 16 #[.string s] w fun e w' => e = .returned (.int .i64 ((linesF (toL s)).length : Nat)) ∧ Below w.heap.size w w' := by
  have HSH := Lib.hid hsh; clear hsh
  refine (callsIn_wide (n := 10)).1 ?_
  refine callsIn_of_wp_marks Try.func16 rfl trivial ?_ rfl
  simp only [Try.ntmps16, List.size_toArray, List.length_cons, List.length_nil, Nat.reduceAdd, Nat.reduceSub, Array.replicate_succ, Array.replicate_zero, List.push_toArray, List.append_toArray, List.nil_append, List.cons_append]
  gi_wp2_with (refine ⟨trivial, ?_⟩; gi_at_call 15; refine (art_lines s _ _).mono ?_; rintro e w' ⟨rfl, rfl⟩)
  have hB0 : Below w.heap.size w ((w.alloc (.cells #[.int .i64 0] 3)).alloc (.cells #[.string s] 9)) := ((Below.refl _ w).alloc (Nat.le_refl _) _).alloc (by simp) _
  have hI0 : Boxed ((w.alloc (.cells #[.int .i64 0] 3)).alloc (.cells #[.string s] 9)) w.heap.size 3 (.int .i64 (([] : List (LnT 900000)).length : Nat)) := (bx_new _ _ rfl).alloc _
  have hbx : Boxed ((w.alloc (.cells #[.int .i64 0] 3)).alloc (.cells #[.string s] 9)) (w.heap.size + 1) 9 (.string s) := bx_new _ _ (by simp)
  have hz0 : ((w.alloc (.cells #[.int .i64 0] 3)).alloc (.cells #[.string s] 9)).heap.size = w.heap.size + 2 := by simp
  generalize (w.alloc (.cells #[.int .i64 0] 3)).alloc (.cells #[.string s] 9) = X at *
  refine wpIn_rangeFunc_ownG (a₁ := ?a1) rfl (by omega) (gf := 35) (lb := #[.pointer (some ⟨w.heap.size + 1, 0, none⟩)]) rfl trivial (enters_of Try.func35 (by kernel_rfl) rfl)
    (lines_stops _ (by omega) w X HSH.out hB0 (w.heap.size + 1) hbx.lt s (Nat.le_refl _) hs hbx.cell) belowK_t (belowK_b (by omega)) (Below.refl _ _) (fun _ => rfl)
    (fun pre W => Boxed W w.heap.size 3 (.int .i64 (pre.length : Nat)) ∧ Below w.heap.size w W)
    (fun _ _ _ => False)
    (OwnFrom.and (Own.from (boxed_own _ _ _) _) (ownFrom_below (Nat.le_refl _) (by omega)))
    (fun _ _ _ _ _ hs _ _ => hs)
    ⟨hI0, hB0⟩ ?assign ?body ?done ?stop
  case assign =>
    intro l x W K hK
    gi_wp2
    exact hK
  case body =>
    rintro l pre x W ⟨hI, hB⟩ hlen
    have HI := Lib.hid hI; have HB := Lib.hid hB
    have c1 := hI.cell; have d1 := hI.frozen
    clear hI hB hI0 hB0 hbx
    have HN := Lib.hid (show ((pre ++ [x]).length : Int) = (pre.length : Int) + 1 from by simp)
    generalize pre.length = k at *
    gi_wp2
    exact ⟨(KeepsOthers.setCell _ _ _).from _, (Below.refl _ W).setCell (p := ⟨w.heap.size, 0, none⟩) (Nat.le_refl _) _, by rw [HN.out]; exact HI.out.set _, HB.out.setCell (p := ⟨w.heap.size, 0, none⟩) (Nat.le_refl _) _⟩
  case done =>
    rintro D ys W hD hS ⟨hI, hB⟩ hK
    have HV := Lib.hid (allLn_len hS)
    have c1 := hI.cell
    generalize ys.length = k at *
    gi_wp2
    refine ⟨by simp, .inl ⟨_, _, rfl, run_takeDeferred hK, ?_⟩⟩
    exact ⟨_, results_tmp rfl _ _ _, by show Ending.returned (Value.int .i64 (k : Int)) = _; rw [HV.out], hB.trans (belowK_b (w := w) (Nat.le_refl _) W D _ _ (by omega) hK rfl rfl)⟩
  case stop =>
    rintro D c pre W _ _ h _
    exact h.elim

end Go.Proofs.Ytcohgjdijhogbaa
