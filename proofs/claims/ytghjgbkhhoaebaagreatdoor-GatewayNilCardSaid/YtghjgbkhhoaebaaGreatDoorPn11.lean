/- Lemmas and walks, part 11. -/
import Derived.Test.YtghjgbkhhoaebaaGreatDoorPn9
import Derived.Test.YtghjgbkhhoaebaaGreatDoorPn10
import Derived.RangeFuncNested
import Derived.RangeFuncBound
import Derived.RangeFuncCalls
import Derived.RangeFuncLeaves
import Derived.Shelf.Abstract
import Derived.Shelf.RegionOpen
import Derived.WalkKit
import Derived.OwnWalkIn
import Derived.TacticsInMore
import Derived.LoopNIn
import Derived.LoopIn
namespace Go.Proofs.YtghjgbkhhoaebaaGreatDoor
set_option linter.unusedSimpArgs false
set_option linter.unusedVariables false
open Go.RowKit Go.Shelf
attribute [local go_sem] Oper.semAt_some

theorem index_nl (L : List UInt8) : (Lib.indexByte L 10 = -1 ∧ L.takeWhile (· != 10) = L) ∨ (Lib.indexByte L 10 = ((L.takeWhile (· != 10)).length : Nat) ∧ (L.takeWhile (· != 10)).length < L.length) := by
  induction L with
  | nil => exact .inl ⟨rfl, rfl⟩
  | cons c r ih =>
    by_cases h : c = 10
    · subst h; exact .inr ⟨rfl, by simp⟩
    · have h1 : (c == 10) = false := by simpa using h
      have h2 : (c != 10) = true := by simp [bne, h1]
      rcases ih with ⟨e1, e2⟩ | ⟨e1, e2⟩
      · exact .inl ⟨by simp [Lib.indexByte, h1, e1], by simp [List.takeWhile_cons, h2, e2]⟩
      · refine .inr ⟨?_, by simp [List.takeWhile_cons, h2]; omega⟩
        have : ¬ Lib.indexByte r 10 = -1 := by omega
        simp [Lib.indexByte, h1, this, List.takeWhile_cons, h2]; omega
theorem cut_nl (L : List UInt8) : (Lib.cut L [10]).1 = L.takeWhile (· != 10) ∧ (Lib.cut L [10]).2.1 = L.drop ((L.takeWhile (· != 10)).length + 1) := by
  unfold Lib.cut
  rw [Lib.index_one]
  rcases index_nl L with ⟨e1, e2⟩ | ⟨e1, e2⟩
  · rw [e1, if_neg (by omega), e2]
    exact ⟨rfl, (List.drop_eq_nil_of_le (by omega)).symm⟩
  · rw [e1, if_pos (by omega)]
    refine ⟨?_, by simp⟩
    simp only [Int.toNat_natCast]
    exact (takeWhile_eq_take (· != 10) L).symm
/-- The rest's first line, and what is behind it. -/
theorem cut_at (L : List UInt8) (i : Nat) (h : i ≤ L.length) : (Lib.cut (L.drop i) [10]).1 = cutL L i (endF L i) ∧ (Lib.cut (L.drop i) [10]).2.1 = L.drop (endF L i + 1) := by
  obtain ⟨h1, h2⟩ := cut_nl (L.drop i)
  rw [h1, h2]
  refine ⟨?_, ?_⟩
  · rw [takeWhile_eq_take]; unfold cutL endF; congr 1; omega
  · rw [List.drop_drop]; unfold endF; rw [Nat.add_assoc]

/-- Lines with their numbers. -/
def numL (k : Nat) (l : List (List UInt8)) : List (Nat × ByteArray) := match l with
  | [] => []
  | x :: r => (k, ofL x) :: numL (k + 1) r
theorem numL_length : ∀ (l : List (List UInt8)) (k : Nat), (numL k l).length = l.length
  | [], _ => rfl
  | _ :: r, k => by simp [numL, numL_length r]
theorem numL_at : ∀ (l : List (List UInt8)) (k i : Nat), (numL k l)[i]? = (l[i]?).map fun x => (k + i, ofL x)
  | [], _, _ => by simp [numL]
  | x :: r, k, 0 => by simp [numL]
  | x :: r, k, i + 1 => by simp [numL, numL_at r]; cases r[i]? <;> simp; omega
theorem numL_texts : ∀ (l : List (List UInt8)) (k : Nat), (numL k l).map (fun x => toL x.2) = l
  | [], _ => rfl
  | x :: r, k => by simp [numL, numL_texts r, toL_ofL]
/-- What a loop over lines is handed. -/
abbrev LnT (M : Nat) := { x : Nat × ByteArray // x.1 ≤ M ∧ x.2.size ≤ M }
variable {M : Nat}
abbrev lnE (x : LnT M) : Array Value := #[.int .i64 (x.1.1 : Int), .string x.1.2]
def restL (L : List UInt8) (i : Nat) : List (List UInt8) := (spans L i).map fun x => cutL L x.1 x.2
theorem restL_zero (L : List UInt8) : linesF L = restL L 0 := rfl
theorem restL_step {L : List UInt8} {i : Nat} (h : i < L.length) : restL L i = cutL L i (endF L i) :: restL L (endF L i + 1) := by
  unfold restL; rw [spans_step h]; rfl
theorem restL_end {L : List UInt8} {i : Nat} (h : L.length ≤ i) : restL L i = [] := by
  unfold restL; rw [spans_end h]; rfl
def AllLn (L : List UInt8) (xs : List (LnT M)) : Prop := xs.map (·.1) = numL 0 (linesF L)
def SomeLn (L : List UInt8) (xs : List (LnT M)) : Prop := xs.map (·.1) <+: numL 0 (linesF L)
/-- pre has come; the rest of the text begins at i. -/
structure LnAt (L : List UInt8) (pre : List (LnT M)) (k i : Nat) : Prop where
  len : pre.length = k
  all : numL 0 (linesF L) = pre.map (·.1) ++ numL k (restL L i)
  le : i ≤ L.length + 1
  few : k ≤ i
theorem LnAt.zero (L : List UInt8) : LnAt (M := M) L [] 0 0 := ⟨rfl, rfl, by omega, by omega⟩
theorem LnAt.done {L : List UInt8} {pre : List (LnT M)} {k i : Nat} (h : LnAt L pre k i) (hi : L.length ≤ i) : AllLn L pre := by
  unfold AllLn; rw [h.all, restL_end hi]; simp [numL]
theorem LnAt.next {L : List UInt8} {pre : List (LnT M)} {k i : Nat} (h : LnAt L pre k i) (hi : i < L.length) (x : LnT M) (hx : x.1 = (k, ofL (cutL L i (endF L i)))) : LnAt L (pre ++ [x]) (k + 1) (endF L i + 1) := by
  have h1 := endF_ge L i
  have h2 := endF_le L i (by omega)
  refine ⟨by simp [h.len], ?_, by omega, by have := h.few; omega⟩
  rw [h.all, restL_step hi]; simp [numL, hx]
theorem LnAt.part {L : List UInt8} {pre : List (LnT M)} {k i : Nat} (h : LnAt L pre k i) : SomeLn L pre := by
  unfold SomeLn; rw [h.all]; exact List.prefix_append _ _

def szOf : Value → Nat
  | .string s => s.size
  | _ => 0
theorem nl_cut (R : ByteArray) (w : World) (hsh : w.ShapedOpen Tryz.prog) (hs : R.size ≤ 900000) : Calls Tryz.prog 50 #[.string R, .string ⟨#[10]⟩] w fun e w' =>
    ∃ (a b : ByteArray) (c : Bool) (n : Nat), e = .returned (.tuple #[.string a, .string b, .bool c]) ∧ toL a = (Lib.cut (toL R) [10]).1 ∧ toL b = (Lib.cut (toL R) [10]).2.1 ∧ w' = w.drewN n :=
  (Tryz.strings_Cut_shaped R ⟨#[10]⟩ w hsh (by omega)).mono fun _ _ ⟨h1, n, h2⟩ => ⟨_, _, _, n, h1, rfl, rfl, h2⟩
theorem art_lines (s : ByteArray) (w : World) (n : Nat) : CallsIn Fence.wide n Tryz.prog 75 #[.string s] w fun e w' => e = .returned (.func (.func 108) #[] #[.pointer (some ⟨w.heap.size, 0, none⟩)]) ∧ w' = w.alloc (.cells #[.string s] 9) := by
  refine callsIn_of_wp Tryz.func75 rfl trivial ?_ rfl
  simp only [Tryz.ntmps75, List.size_toArray, List.length_cons, List.length_nil, Nat.reduceAdd, Nat.reduceSub, Array.replicate_succ, Array.replicate_zero, List.push_toArray, List.append_toArray, List.nil_append, List.cons_append]
  gi_wp2
  go_ret
  exact ⟨rfl, rfl⟩

set_option maxRecDepth 100000 in
set_option maxHeartbeats 4000000 in
theorem lines_stops (n : Nat) (hn : 1 ≤ n) (w0 w : World) (hsh : w0.ShapedOpen Tryz.prog) (hw0 : Below w0.heap.size w0 w) (B : Nat) (hB : B < w.heap.size) (s : ByteArray) (hM : M ≤ 900000) (hs : s.size ≤ M) (hc : w.cell? ⟨B, 0, none⟩ = some (.string s)) :
    SeqStopsK Fence.wide n Tryz.prog 108 #[.pointer (some ⟨B, 0, none⟩)] lnE (Below w0.heap.size) (AllLn (M := M) (toL s)) (SomeLn (toL s)) (M + 1) w := fun l J Jx W hW hJA _ hY h0 => by
  have HJA := Lib.hid hJA
  have hcW := (hW.cell (p := ⟨B, 0, none⟩) hB).trans hc
  have hBW := Lib.hid (hw0.trans (hW.mono hw0.size))
  have HSH := Lib.hid hsh
  have HL := Lib.hid (toL_length s)
  have HZ := Lib.hid (LnAt.zero (M := M) (toL s))
  have HY := Lib.hid hY
  clear hsh hw0 hW hY hc hB hJA
  refine callsIn_of_wp Tryz.func108 rfl trivial ?_ rfl
  simp only [Tryz.ntmps108, List.size_toArray, List.length_cons, List.length_nil, Nat.reduceAdd, Nat.reduceSub, Array.replicate_succ, Array.replicate_zero, List.push_toArray, List.append_toArray, List.nil_append, List.cons_append]
  gi_wp2
  gi_loopw [3, 4] (fun r i wr => ∃ (k at_ : Nat) (pre : List (LnT M)) (R : ByteArray), r = .string R ∧ i = .int .i64 (k : Int) ∧ toL R = (toL s).drop at_ ∧ LnAt (toL s) pre k at_ ∧ J pre wr ∧ Below w0.heap.size w0 wr)
    (fun r _ _ => szOf r)
  case atStart => exact ⟨0, 0, [], s, rfl, rfl, rfl, HZ.out, h0, hBW.out⟩
  case round =>
    obtain ⟨k, at_, pre, R, rfl, rfl, hR, hat, hJ0, hB0⟩ := hrel
    have HR := Lib.hid hR; have HAT := Lib.hid hat; have HB0 := Lib.hid hB0
    clear hR hat hB0 HZ h0 hBW
    have hRs : R.size = s.size - at_ := by rw [← toL_length, HR.out, List.length_drop, HL.out]
    have k0 : (0 : Int) ≤ (k : Int) := by omega
    by_cases hz : R.size = 0
    · have hE := toList_nil hz
      have HD := Lib.hid (HAT.out.done (by rw [HL.out]; omega))
      clear hz hRs
      gi_wp2
      go_end0
      exact ⟨⟨_, rfl⟩, .inl ⟨pre, HD.out, hJ0⟩⟩
    · have hE := toList_cons hz
      have hlt : at_ < (toL s).length := by rw [HL.out]; omega
      have HCA := Lib.hid (cut_at (toL s) at_ (by omega))
      have hwsh := shaped_below HSH.out HB0.out
      have hkl := HAT.out.few
      have HKL := Lib.hid HAT.out.len
      have hle := HAT.out.le
      rw [HL.out] at hle hlt
      have hk9 : k ≤ M := by omega
      have hge := endF_ge (toL s) at_
      gi_wp2_with (refine ⟨trivial, ?_⟩; gi_at_call 50; refine (callsIn_wide.2 (nl_cut R _ hwsh (by omega))).mono ?_; rintro e w' ⟨la, lb, lc, nd, rfl, ha, hb, rfl⟩)
      have HA := Lib.hid (show toL la = cutL (toL s) at_ (endF (toL s) at_) from by rw [ha, HR.out, HCA.out.1])
      have HBB := Lib.hid (show toL lb = (toL s).drop (endF (toL s) at_ + 1) from by rw [hb, HR.out, HCA.out.2])
      have hLA := endF_le (toL s) at_ (by rw [HL.out]; omega)
      rw [HL.out] at hLA
      have hls : la.size ≤ M := by
        rw [← toL_length, HA.out, cutL_length _ _ _ (by rw [HL.out]; exact hLA)]; omega
      have hdec : szOf (.string lb) < szOf (.string R) := by
        show lb.size < R.size
        rw [← toL_length, HBB.out, List.length_drop, HL.out]; omega
      have HDEC := Lib.hid hdec
      have HN := Lib.hid (fun (x : LnT M) (hx : x.1 = (k, la)) => HAT.out.next (by rw [HL.out]; omega) x (by rw [hx, ← HA.out, ofL_toL]))
      have hJ1 := HJA.out pre wr (wr.drewN nd) none hJ0 ⟨rfl, rfl, rfl, Nat.le_refl _, fun _ _ _ => rfl⟩ (fun r e => by cases e)
      obtain ⟨fn, tmps, assign, body, hy, hY1⟩ := HY.out pre ⟨(k, la), by omega, hls⟩ (wr.drewN nd) hJ1 (by rw [HKL.out]; omega)
      dsimp only [lnE] at hy
      have HBD := Lib.hid (below_drewN HB0.out nd)
      clear ha hb hdec
      rw [hy]
      gi_wp2
      refine hY1.mono ?_
      rintro e W3 (⟨rfl, hJ3, hk3⟩ | ⟨rfl, hJx3⟩)
      · gi_wp2
        go_roundw
        case rel => exact ⟨k + 1, _, _, lb, rfl, by go_num, HBB.out, HN.out _ rfl, hJ3, HBD.out.trans hk3⟩
        case measure => exact HDEC.out
      · gi_wp2
        refine bodyPost_ret (results_none rfl _ _ _) rfl ?_
        exact ⟨⟨_, rfl⟩, .inr ⟨_, (HN.out ⟨(k, la), by omega, hls⟩ rfl).part, hJx3⟩⟩
end Go.Proofs.YtghjgbkhhoaebaaGreatDoor

namespace Go.Proofs.YtghjgbkhhoaebaaGreatDoor
set_option linter.unusedSimpArgs false
set_option linter.unusedVariables false
open Go.RowKit Go.Shelf
attribute [local go_sem] Oper.semAt_some

abbrev RnT := { x : Nat × Nat // x.1 ≤ 1000000 ∧ x.2 ≤ 1114111 ∧ (x.2 < 55296 ∨ 57343 < x.2) }
abbrev rnE (x : RnT) : Array Value := #[.int .i64 (x.1.1 : Int), .int .i32 (x.1.2 : Int)]
def AllRn (L : List UInt8) (xs : List RnT) : Prop := xs.map (·.1) = (allF L 0).1
def SomeRn (L : List UInt8) (xs : List RnT) : Prop := xs.map (·.1) <+: (allF L 0).1
structure RnAt (L : List UInt8) (pre : List RnT) (i : Nat) : Prop where
  all : (allF L 0).1 = pre.map (·.1) ++ (allF (L.drop i) i).1
  le : i ≤ L.length
  few : pre.length ≤ i
theorem RnAt.zero (L : List UInt8) : RnAt L [] 0 := ⟨rfl, by omega, Nat.le_refl _⟩
theorem RnAt.done {L : List UInt8} {pre : List RnT} {i : Nat} (h : RnAt L pre i) (hi : L.length ≤ i) : AllRn L pre := by
  unfold AllRn; rw [h.all, List.drop_eq_nil_of_le hi, allF_nil]; simp
theorem drop_ne {L : List UInt8} {i : Nat} (h : i < L.length) : L.drop i ≠ [] := fun e => by have := congrArg List.length e; rw [List.length_drop] at this; simp at this; omega
theorem RnAt.err {L : List UInt8} {pre : List RnT} {i : Nat} (h : RnAt L pre i) (hi : i < L.length) (he : (decU (L.drop i)).2.2 ≠ 0) : AllRn L pre := by
  unfold AllRn; rw [h.all, allF_err (drop_ne hi) i he]; simp
theorem RnAt.next {L : List UInt8} {pre : List RnT} {i : Nat} (h : RnAt L pre i) (hi : i < L.length) (he : (decU (L.drop i)).2.2 = 0) (x : RnT) (hx : x.1 = (i, (decU (L.drop i)).1)) : RnAt L (pre ++ [x]) (i + (decU (L.drop i)).2.1) := by
  have hk := decU_ok he
  rw [List.length_drop] at hk
  refine ⟨?_, by omega, by have := h.few; simp; omega⟩
  rw [h.all, allF_ok (drop_ne hi) i he, List.drop_drop]; simp [hx]
theorem RnAt.part {L : List UInt8} {pre : List RnT} {i : Nat} (h : RnAt L pre i) : SomeRn L pre := by
  unfold SomeRn; rw [h.all]; exact List.prefix_append _ _
def runeB (r : Nat) : Prop := r ≤ 1114111 ∧ (r < 55296 ∨ 57343 < r)
theorem begR_lead {f : UInt8} {r : List UInt8} {y : Nat × Nat} (h : begR (f :: r) = some y) : y.1 = leadN f ∧ okR (leadN f) (r.length + 1) y.2 = true := by
  rw [begR] at h
  split at h
  · cases h
  · split at h
    · cases h
    · split at h
      · rename_i hk; injection h with h; subst h; exact ⟨rfl, hk⟩
      · cases h
theorem okR_rune {n v : Nat} (h : okR n n v = true) : runeB v := by
  have hm : mostU n ≤ 1114111 := by unfold mostU; split <;> (try split) <;> (try split) <;> (try split) <;> omega
  unfold okR at h
  rw [Nat.sub_self] at h
  simp only [lowR, highR, Bool.not_eq_true', Bool.or_eq_false_iff, Bool.and_eq_false_iff, decide_eq_false_iff_not] at h
  unfold runeB
  generalize leastU n = a at *
  generalize mostU n = b at *
  obtain ⟨h1, h2⟩ := h
  have q1 := Nat.le_max_left v a
  have q2 := Nat.min_le_left v b
  have q3 := Nat.min_le_right v b
  have h3 := of_decide_eq_false h2
  rcases h1 with h1 | h1
  · have h4 := of_decide_eq_false h1; omega
  · have h4 := of_decide_eq_false h1; omega
theorem decU_rune {l : List UInt8} (h : (decU l).2.2 = 0) : runeB (decU l).1 := by
  cases l with
  | nil => simp [decU] at h
  | cons f r =>
    rw [← firstR_eq] at h ⊢
    unfold firstR at h ⊢
    cases h1 : begR ((f :: r).take 1) with
    | none => rw [h1] at h; simp at h
    | some x =>
      rw [h1] at h
      dsimp only at h ⊢
      by_cases h2 : x.1 ≤ (f :: r).length
      · rw [if_pos h2] at h ⊢
        cases h3 : begR ((f :: r).take x.1) with
        | none => rw [h3] at h; simp at h
        | some y =>
          dsimp only
          have hx := (begR_lead (f := f) (r := []) h1).1
          cases hk : x.1 with
          | zero => rw [hk] at h3; simp [begR] at h3
          | succ k =>
            rw [hk, List.take_succ_cons] at h3
            obtain ⟨h4, h5⟩ := begR_lead h3
            have hl : (r.take k).length + 1 = x.1 := by rw [List.length_take]; simp at h2; omega
            rw [hl, hx] at h5
            exact okR_rune h5
      · rw [if_neg h2] at h
        cases h3 : begR (f :: r) with
        | none => rw [h3] at h; simp at h
        | some y => rw [h3] at h; simp at h

theorem art_runes (s : ByteArray) (w : World) (n : Nat) : CallsIn Fence.wide n Tryz.prog 102 #[.string s] w fun e w' => e = .returned (.func (.func 123) #[] #[.pointer (some ⟨w.heap.size, 0, none⟩)]) ∧ w' = w.alloc (.cells #[.string s] 9) := by
  refine callsIn_of_wp Tryz.func102 rfl trivial ?_ rfl
  simp only [Tryz.ntmps102, List.size_toArray, List.length_cons, List.length_nil, Nat.reduceAdd, Nat.reduceSub, Array.replicate_succ, Array.replicate_zero, List.push_toArray, List.append_toArray, List.nil_append, List.cons_append]
  gi_wp2
  go_ret
  exact ⟨rfl, rfl⟩

set_option maxRecDepth 100000 in
set_option maxHeartbeats 4000000 in
theorem runes_stops (n : Nat) (hn : 1 ≤ n) (Kp : World → World → Prop) (w : World) (B : Nat) (hB : B < w.heap.size) (s : ByteArray) (hKc : ∀ W W', Kp W W' → W.cell? ⟨B, 0, none⟩ = some (.string s) → W'.cell? ⟨B, 0, none⟩ = some (.string s)) (hs : s.size ≤ 900000) (hc : w.cell? ⟨B, 0, none⟩ = some (.string s)) :
    SeqStopsK Fence.wide n Tryz.prog 123 #[.pointer (some ⟨B, 0, none⟩)] rnE Kp (AllRn (toL s)) (SomeRn (toL s)) 1000000 w := fun l J Jx W hW hJA _ hY h0 => by
  have HJA := Lib.hid hJA
  have HKC := Lib.hid hKc; clear hKc
  have HC := Lib.hid ((hW.cell (p := ⟨B, 0, none⟩) hB).trans hc)
  have HL := Lib.hid (toL_length s)
  have HZ := Lib.hid (RnAt.zero (toL s))
  have HY := Lib.hid hY
  clear hW hY hc hB hJA
  refine callsIn_of_wp Tryz.func123 rfl trivial ?_ rfl
  simp only [Tryz.ntmps123, List.size_toArray, List.length_cons, List.length_nil, Nat.reduceAdd, Nat.reduceSub, Array.replicate_succ, Array.replicate_zero, List.push_toArray, List.append_toArray, List.nil_append, List.cons_append]
  gi_wp2
  gi_loopw [3] (fun i wr => ∃ (at_ : Nat) (pre : List RnT), i = .int .i64 (at_ : Int) ∧ RnAt (toL s) pre at_ ∧ J pre wr ∧ wr.cell? ⟨B, 0, none⟩ = some (.string s))
    (fun i _ => s.size - (intOf i).toNat)
  case atStart => exact ⟨0, [], rfl, HZ.out, h0, HC.out⟩
  case round =>
    obtain ⟨at_, pre, rfl, hat, hJ0, hcr⟩ := hrel
    have HAT := Lib.hid hat
    have hle := HAT.out.le
    rw [HL.out] at hle
    clear hat HZ h0 HC
    have k0 : (0 : Int) ≤ (at_ : Int) := by omega
    by_cases hlt : at_ < s.size
    · have k1 : (at_ : Int) < (s.size : Int) := by omega
      have HT := Lib.hid (ext_drop s at_)
      have hxs : (s.extract at_ s.size).size ≤ 100000000 := by rw [extract_size _ _ _ (Nat.le_refl _)]; omega
      have HDC := Lib.hid (fun wx => u8_decode (s.extract at_ s.size) wx hxs)
      rw [HT.out] at HDC
      have hll : at_ < (toL s).length := by rw [HL.out]; exact hlt
      have hsz := decU_size ((toL s).drop at_)
      by_cases he : (decU ((toL s).drop at_)).2.2 = 0
      · have HN := Lib.hid (fun (x : RnT) hx => HAT.out.next hll he x hx)
        have hru := decU_rune he
        have hk := decU_ok he
        rw [List.length_drop, HL.out] at hk
        rw [he] at HDC
        generalize (decU ((toL s).drop at_)).2.1 = m at *
        generalize (decU ((toL s).drop at_)).1 = r at *
        have hfew := HAT.out.few
        clear he
        gi_wp2_with (refine ⟨trivial, ?_⟩; gi_at_call 124; refine (callsIn_wide.2 (HDC.out _)).mono ?_; rintro e w' ⟨rfl, nd, rfl⟩)
        have hJ1 := HJA.out pre wr (wr.drewN nd) none hJ0 ⟨rfl, rfl, rfl, Nat.le_refl _, fun _ _ _ => rfl⟩ (fun r e => by cases e)
        obtain ⟨fn, tmps, assign, body, hy, hY1⟩ := HY.out pre ⟨(at_, r), by omega, hru⟩ (wr.drewN nd) hJ1 (by omega)
        dsimp only [rnE] at hy
        have hcd : (wr.drewN nd).cell? ⟨B, 0, none⟩ = some (.string s) := hcr
        rw [hy]
        gi_wp2
        refine hY1.mono ?_
        rintro e W3 (⟨rfl, hJ3, hk3⟩ | ⟨rfl, hJx3⟩)
        · have hc3 := HKC.out _ _ hk3 hcd
          gi_wp2
          go_roundw
          case rel => exact ⟨at_ + m, _, by go_num, HN.out _ rfl, hJ3, hc3⟩
          case measure => simp [intOf] <;> omega
        · gi_wp2
          refine bodyPost_ret (results_none rfl _ _ _) rfl ?_
          exact ⟨⟨_, rfl⟩, .inr ⟨_, (HN.out ⟨(at_, r), by omega, hru⟩ rfl).part, hJx3⟩⟩
      · have HD := Lib.hid (HAT.out.err hll he)
        have e2 : ((decU ((toL s).drop at_)).2.2 != 0) = true := by simp [bne, he]
        generalize (decU ((toL s).drop at_)).2.2 = ke at *
        generalize (decU ((toL s).drop at_)).2.1 = m at *
        generalize (decU ((toL s).drop at_)).1 = r at *
        clear he
        gi_wp2_with (refine ⟨trivial, ?_⟩; gi_at_call 124; refine (callsIn_wide.2 (HDC.out _)).mono ?_; rintro e w' ⟨rfl, nd, rfl⟩)
        all_goals
          refine ⟨fun _ h => (by cases h), ?_⟩
          gi_wp2
        all_goals
          refine bodyPost_ret (results_none rfl _ _ _) rfl ?_
          exact ⟨⟨_, rfl⟩, .inl ⟨_, HD.out, HJA.out pre wr (wr.drewN nd) none hJ0 ⟨rfl, rfl, rfl, Nat.le_refl _, fun _ _ _ => rfl⟩ (fun r e => by cases e)⟩⟩
    · have k1 : (s.size : Int) ≤ (at_ : Int) := by omega
      have HD := Lib.hid (HAT.out.done (by rw [HL.out]; omega))
      gi_wp2
      go_end0
      exact ⟨⟨_, rfl⟩, .inl ⟨pre, HD.out, hJ0⟩⟩
end Go.Proofs.YtghjgbkhhoaebaaGreatDoor
