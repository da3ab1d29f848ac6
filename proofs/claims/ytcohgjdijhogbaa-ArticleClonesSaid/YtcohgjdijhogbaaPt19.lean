/- Lemmas and walks, part 19. -/
import Derived.Test.YtcohgjdijhogbaaPt18
import Derived.Test.YtcohgjdijhogbaaPt17
import Derived.Laws.EntriesVeiled
namespace Go.Proofs.Ytcohgjdijhogbaa
set_option linter.unusedSimpArgs false
set_option linter.unusedVariables false
open Go.RowKit

/-- Block p is a parser's. -/
structure PkAt (w : World) (p : Nat) (s hd : ByteArray) (st : Int) (fv : Value) (bd : ByteArray) : Prop where
  blk : w.heap[p]? = some (.cells #[.string s, .string hd, .int .i64 st, fv, .string bd] 95 (0, 0))
theorem PkAt.c0 {w : World} {p : Nat} {s hd : ByteArray} {st : Int} {fv : Value} {bd : ByteArray} (h : PkAt w p s hd st fv bd) : w.cell? ⟨p, 0, none⟩ = some (.string s) := by rw [Lib.cell_of_heap h.blk]; rfl
theorem PkAt.c1 {w : World} {p : Nat} {s hd : ByteArray} {st : Int} {fv : Value} {bd : ByteArray} (h : PkAt w p s hd st fv bd) : w.cell? ⟨p, 1, none⟩ = some (.string hd) := by rw [Lib.cell_of_heap h.blk]; rfl
theorem PkAt.c2 {w : World} {p : Nat} {s hd : ByteArray} {st : Int} {fv : Value} {bd : ByteArray} (h : PkAt w p s hd st fv bd) : w.cell? ⟨p, 2, none⟩ = some (.int .i64 st) := by rw [Lib.cell_of_heap h.blk]; rfl
theorem PkAt.c3 {w : World} {p : Nat} {s hd : ByteArray} {st : Int} {fv : Value} {bd : ByteArray} (h : PkAt w p s hd st fv bd) : w.cell? ⟨p, 3, none⟩ = some fv := by rw [Lib.cell_of_heap h.blk]; rfl
theorem PkAt.c4 {w : World} {p : Nat} {s hd : ByteArray} {st : Int} {fv : Value} {bd : ByteArray} (h : PkAt w p s hd st fv bd) : w.cell? ⟨p, 4, none⟩ = some (.string bd) := by rw [Lib.cell_of_heap h.blk]; rfl
theorem PkAt.free {w : World} {p : Nat} {s hd : ByteArray} {st : Int} {fv : Value} {bd : ByteArray} (h : PkAt w p s hd st fv bd) (k : Nat) : w.frozen? ⟨p, k, none⟩ = false := Lib.frozen_of_heap h.blk k
theorem PkAt.lt {w : World} {p : Nat} {s hd : ByteArray} {st : Int} {fv : Value} {bd : ByteArray} (h : PkAt w p s hd st fv bd) : p < w.heap.size := heap_lt h.blk
theorem PkAt.below {w w' : World} {p : Nat} {s hd : ByteArray} {st : Int} {fv : Value} {bd : ByteArray} (h : PkAt w p s hd st fv bd) (hb : Below w.heap.size w w') : PkAt w' p s hd st fv bd := ⟨(hb.block _ h.lt).trans h.blk⟩
theorem PkAt.setFields {w : World} {p : Nat} {s hd : ByteArray} {st : Int} {fv : Value} {bd : ByteArray} (h : PkAt w p s hd st fv bd) (v : Value) : PkAt (w.setCell ⟨p, 3, none⟩ v) p s hd st v bd := ⟨by rw [heap_set h.blk]; rfl⟩
theorem PkAt.setBody {w : World} {p : Nat} {s hd : ByteArray} {st : Int} {fv : Value} {bd : ByteArray} (h : PkAt w p s hd st fv bd) (v : ByteArray) : PkAt (w.setCell ⟨p, 4, none⟩ (.string v)) p s hd st fv v := ⟨by rw [heap_set h.blk]; rfl⟩

theorem hp_nl (s : ByteArray) : Lib.hasPrefix s.data.toList (⟨#[10]⟩ : ByteArray).data.toList = decide ((toL s)[0]? = some 10) := by
  show Lib.hasPrefix (toL s) [10] = _
  cases toL s with
  | nil => rfl
  | cons c r =>
    by_cases e : c = 10
    · subst e; simp [Lib.hasPrefix]
    · have : ¬ (10 : UInt8) = c := fun h => e h.symm
      simp [Lib.hasPrefix, List.isPrefixOf, e, this]
set_option maxHeartbeats 4000000 in
set_option maxRecDepth 100000 in
theorem ap_new (s : ByteArray) (w : World) (hsh : w.ShapedOpen Try.prog) (hs : s.size ≤ 900000) : Calls Try.prog 49 #[.string s] w fun e w' =>
    e = .returned (.pointer (some ⟨w.heap.size, 0, none⟩)) ∧ PkAt w' w.heap.size s (ofL (newF (toL s)).1) (newF (toL s)).2 (.slice none 0 0) ⟨#[]⟩ ∧ Below w.heap.size w w' := by
  have hp := hp_nl s
  have HL := Lib.hid (toL_length s)
  have HSH := Lib.hid hsh; clear hsh
  have HB0 := Lib.hid ((Below.refl w.heap.size w).alloc (Nat.le_refl _) (.cells #[.string s, .string s, .int .i64 (-1), .slice none 0 0, .string ⟨#[]⟩] 95))
  have HPK := Lib.hid (show PkAt (w.alloc (.cells #[.string s, .string s, .int .i64 (-1), .slice none 0 0, .string ⟨#[]⟩] 95)) w.heap.size s s (-1) (.slice none 0 0) ⟨#[]⟩ from ⟨World.alloc_heap_new _ _⟩)
  by_cases h0 : (toL s)[0]? = some 10
  · have HV := Lib.hid (show newF (toL s) = ([], 1) from by unfold newF; rw [if_pos h0])
    rw [decide_eq_true h0] at hp
    have HP := Lib.hid hp
    clear h0 hp
    go_enter Try.func49, Try.ntmps49
    go_wp2_with ((go_at_call 61; (with_reducible refine (Try.strings_HasPrefix s _ _).mono ?_); rintro e w' ⟨rfl, rfl⟩; rw [HP.out]))
    go_ret
    exact ⟨rfl, ⟨by rw [HV.out]; exact World.alloc_heap_new _ _⟩, (Below.refl _ _).alloc (Nat.le_refl _) _⟩
  · rw [decide_eq_false h0] at hp
    have HP := Lib.hid hp
    by_cases hi : 0 ≤ Lib.index (toL s) [10, 10]
    · have HV := Lib.hid (show newF (toL s) = ((toL s).take ((Lib.index (toL s) [10, 10]).toNat + 1), Lib.index (toL s) [10, 10] + 2) from by unfold newF; rw [if_neg h0, if_pos hi])
      have hr := Lib.index_room (toL s) [10, 10] hi
      simp only [List.length_cons, List.length_nil] at hr
      rw [HL.out] at hr
      have HIX := Lib.hid (fun wx hx => Try.strings_Index_shaped s ⟨#[10, 10]⟩ wx hx (by omega))
      rw [show Lib.index s.data.toList (⟨#[10, 10]⟩ : ByteArray).data.toList = Lib.index (toL s) [10, 10] from rfl] at HIX
      obtain ⟨i, hi2⟩ : ∃ i : Nat, Lib.index (toL s) [10, 10] = (i : Int) := ⟨_, (Int.toNat_of_nonneg hi).symm⟩
      rw [hi2] at HV HIX hr
      have HE := Lib.hid (show s.extract 0 (i + 1) = ofL ((toL s).take (i + 1)) from by rw [extract_ofL, cutL]; simp)
      clear h0 hp hi hi2
      go_enter Try.func49, Try.ntmps49
      go_wp2_with (first | (go_at_call 61; (with_reducible refine (Try.strings_HasPrefix s _ _).mono ?_); rintro e w' ⟨rfl, rfl⟩; rw [HP.out]) | (go_at_call 62; (with_reducible refine (HIX.out _ (shaped_below HSH.out HB0.out)).mono ?_); rintro e w' ⟨rfl, rfl⟩))
      go_ret
      exact ⟨rfl, ⟨by rw [HV.out]; simp only [Int.toNat_natCast]; rw [← HE.out]; exact World.alloc_heap_new _ _⟩, (Below.refl _ _).alloc (Nat.le_refl _) _⟩
    · have HV := Lib.hid (show newF (toL s) = (toL s, -1) from by unfold newF; rw [if_neg h0, if_neg hi])
      have HIX := Lib.hid (fun wx hx => Try.strings_Index_shaped s ⟨#[10, 10]⟩ wx hx (by omega))
      rw [show Lib.index s.data.toList (⟨#[10, 10]⟩ : ByteArray).data.toList = Lib.index (toL s) [10, 10] from rfl] at HIX
      have hi' : Lib.index (toL s) [10, 10] < 0 := by omega
      generalize Lib.index (toL s) [10, 10] = i at *
      clear h0 hp hi
      go_enter Try.func49, Try.ntmps49
      go_wp2_with (first | (go_at_call 61; (with_reducible refine (Try.strings_HasPrefix s _ _).mono ?_); rintro e w' ⟨rfl, rfl⟩; rw [HP.out]) | (go_at_call 62; (with_reducible refine (HIX.out _ (shaped_below HSH.out HB0.out)).mono ?_); rintro e w' ⟨rfl, rfl⟩))
      go_ret
      exact ⟨rfl, ⟨by rw [HV.out, ofL_toL]; exact World.alloc_heap_new _ _⟩, (Below.refl _ _).alloc (Nat.le_refl _) _⟩
set_option maxHeartbeats 4000000 in
set_option maxRecDepth 100000 in
theorem ap_size {p : Nat} {s hd : ByteArray} {st : Int} {fv : Value} {bd : ByteArray} {w : World} (h : PkAt w p s hd st fv bd) : Calls Try.prog 50 #[.pointer (some ⟨p, 0, none⟩)] w fun e w' =>
    e = .returned (.tuple #[.int .i64 (if 65536 < s.size then 65536 else 0), .int .i64 (if 65536 < s.size then 5 else 0)]) ∧ w = w' := by
  have c0 := h.c0
  by_cases hz : 65536 < s.size
  · have hz' : (65536 : Int) < (s.size : Int) := by omega
    rw [if_pos hz, if_pos hz]
    clear hz h
    go_enter Try.func50, Try.ntmps50
    go_wp2_with fail
    go_ret2
    exact ⟨rfl, rfl⟩
  · have hz' : (s.size : Int) ≤ 65536 := by omega
    rw [if_neg hz, if_neg hz]
    clear hz h
    go_enter Try.func50, Try.ntmps50
    go_wp2_with fail
    go_ret2
    exact ⟨rfl, rfl⟩
set_option maxHeartbeats 4000000 in
set_option maxRecDepth 100000 in
theorem ap_division {p : Nat} {s hd : ByteArray} {st : Int} {fv : Value} {bd : ByteArray} {w : World} (h : PkAt w p s hd st fv bd) : Calls Try.prog 52 #[.pointer (some ⟨p, 0, none⟩)] w fun e w' =>
    e = .returned (.tuple #[.int .i64 (if st < 0 then (s.size : Int) else 0), .int .i64 (if st < 0 then 4 else 0)]) ∧ w = w' := by
  have c0 := h.c0; have c2 := h.c2
  by_cases hz : st < 0
  · rw [if_pos hz, if_pos hz]
    clear h
    go_enter Try.func52, Try.ntmps52
    go_wp2_with fail
    go_ret2
    exact ⟨rfl, rfl⟩
  · have hz' : 0 ≤ st := by omega
    rw [if_neg hz, if_neg hz]
    clear hz h
    go_enter Try.func52, Try.ntmps52
    go_wp2_with fail
    go_ret2
    exact ⟨rfl, rfl⟩
/-- The step that reads the header has been taken. -/
structure FieldsPost (n p : Nat) (s hd : ByteArray) (st : Int) (bd : ByteArray) (fs : List Fd) (w w' : World) : Prop where
  ex : ∃ v, PkAt w' p s hd st v bd ∧ w'.ownsRow (p + 1) 59 2 v fs.length (fldsV fs)
  bel : Below n w w'
  oth : ∀ g : Nat, g ≠ p → g < w.heap.size → w'.heap[g]? = w.heap[g]?
set_option maxHeartbeats 4000000 in
set_option maxRecDepth 100000 in
theorem ap_fields {n p : Nat} {s hd : ByteArray} {st : Int} {fv : Value} {bd : ByteArray} {w : World} (h : PkAt w p s hd st fv bd) (hn : n ≤ p) (hs : hd.size ≤ 900000) : Calls Try.prog 51 #[.pointer (some ⟨p, 0, none⟩)] w fun e w' =>
    ((parseF (toL hd)).2.2 ≠ 0 ∧ e = .returned (.tuple #[.int .i64 (parseF (toL hd)).2.1, .int .i64 (parseF (toL hd)).2.2]) ∧ Below n w w') ∨
    ((parseF (toL hd)).2.2 = 0 ∧ e = .returned (.tuple #[.int .i64 0, .int .i64 0]) ∧ FieldsPost n p s hd st bd (parseF (toL hd)).1 w w') := by
  have c1 := h.c1
  have HPK := Lib.hid h
  have hlt := h.lt
  have HFP := Lib.hid (fun wx => fld_parse hd wx (by omega))
  by_cases he : (parseF (toL hd)).2.2 = 0
  · have HG := Lib.hid (fun (e : Ending) (w' : World) (hx : e = .returned (.tuple #[.int .i64 0, .int .i64 0]) ∧ FieldsPost n p s hd st bd (parseF (toL hd)).1 w w') => show (((parseF (toL hd)).2.2 ≠ 0 ∧ e = .returned (.tuple #[.int .i64 (parseF (toL hd)).2.1, .int .i64 (parseF (toL hd)).2.2]) ∧ Below n w w') ∨
      ((parseF (toL hd)).2.2 = 0 ∧ e = .returned (.tuple #[.int .i64 0, .int .i64 0]) ∧ FieldsPost n p s hd st bd (parseF (toL hd)).1 w w')) from .inr ⟨he, hx⟩)
    refine Calls.mono ?_ HG.out
    clear HG h
    unfold ParsePost at HFP
    rw [he] at HFP
    generalize (parseF (toL hd)).1 = fs at *
    generalize (parseF (toL hd)).2.1 = a at *
    clear he
    go_enter Try.func51, Try.ntmps51
    go_wp2_with fail
    (with_reducible refine (HFP.out _).mono ?_)
    rintro e w1 ⟨v, rfl, hown, hb⟩
    have hpk := HPK.out.below hb
    have d3 := hpk.c3; have f3 := hpk.free 3
    have HP1 := Lib.hid hpk; have HO := Lib.hid hown; have HB := Lib.hid hb
    clear hpk hown hb
    obtain ⟨A, c, rfl, _⟩ := own_row HO.out
    go_wp2_with fail
    go_ret2
    exact ⟨rfl, ⟨_, HP1.out.setFields _, own_mono (ownsRow_setCell_below HO.out hlt _) hlt⟩, (HB.out.mono (by omega)).setCell (p := ⟨p, 3, none⟩) hn _, fun g hg hl => by rw [Below.heap_setCell _ _ _ _ hg]; exact HB.out.block _ hl⟩
  · have HG := Lib.hid (fun (e : Ending) (w' : World) (hx : e = .returned (.tuple #[.int .i64 (parseF (toL hd)).2.1, .int .i64 (parseF (toL hd)).2.2]) ∧ Below n w w') => show (((parseF (toL hd)).2.2 ≠ 0 ∧ e = .returned (.tuple #[.int .i64 (parseF (toL hd)).2.1, .int .i64 (parseF (toL hd)).2.2]) ∧ Below n w w') ∨
      ((parseF (toL hd)).2.2 = 0 ∧ e = .returned (.tuple #[.int .i64 0, .int .i64 0]) ∧ FieldsPost n p s hd st bd (parseF (toL hd)).1 w w')) from .inl ⟨he, hx⟩)
    refine Calls.mono ?_ HG.out
    clear HG h
    have e1 : ((parseF (toL hd)).2.2 != 0) = true := by simp [bne, he]
    unfold ParsePost at HFP
    generalize (parseF (toL hd)).1 = fs at *
    generalize (parseF (toL hd)).2.1 = a at *
    generalize (parseF (toL hd)).2.2 = k at *
    clear he
    go_enter Try.func51, Try.ntmps51
    go_wp2_with fail
    (with_reducible refine (HFP.out _).mono ?_)
    rintro e w1 ⟨v, rfl, hown, hb⟩
    have HB := Lib.hid hb
    clear hown hb
    go_wp2_with fail
    go_ret2
    exact ⟨rfl, HB.out.mono (by omega)⟩
set_option maxHeartbeats 4000000 in
set_option maxRecDepth 100000 in
theorem ap_body {n p : Nat} {s hd : ByteArray} {st : Nat} {fv : Value} {bd : ByteArray} {w : World} (hsh : w.ShapedOpen Try.prog) (h : PkAt w p s hd (st : Int) fv bd) (hn : n ≤ p) (hs : s.size ≤ 900000) (hst : st ≤ s.size) : Calls Try.prog 53 #[.pointer (some ⟨p, 0, none⟩)] w fun e w' =>
    ((bodyF ((toL s).drop st)).2 ≠ 0 ∧ e = .returned (.tuple #[.int .i64 ((st : Int) + ((bodyF ((toL s).drop st)).1 : Nat)), .int .i64 (bodyF ((toL s).drop st)).2]) ∧ Below n w w') ∨
    ((bodyF ((toL s).drop st)).2 = 0 ∧ e = .returned (.tuple #[.int .i64 0, .int .i64 0]) ∧ PkAt w' p s hd st fv (ofL ((toL s).drop st)) ∧ (∀ g, g ≠ p → g < w.heap.size → w'.heap[g]? = w.heap[g]?) ∧ Below n w w') := by
  have c0 := h.c0; have c2 := h.c2
  have hlt := h.lt
  have HT := Lib.hid (ext_drop s st)
  have HL := Lib.hid (toL_length s)
  have hxs : (s.extract st s.size).size ≤ 900000 := by rw [extract_size _ _ _ (Nat.le_refl _)]; omega
  have HBD := Lib.hid (fun wx hx => art_body (s.extract st s.size) wx hx hxs)
  rw [HT.out] at HBD
  have HSH := Lib.hid hsh
  have HXE := Lib.hid (show s.extract st s.size = ofL ((toL s).drop st) from by rw [← HT.out, ofL_toL])
  have hbl : (bodyF ((toL s).drop st)).1 ≤ 900000 := by
    have := body_le ((toL s).drop st); rw [List.length_drop, HL.out] at this; omega
  have s0 : (0 : Int) ≤ (st : Int) := by omega
  have s1 : (st : Int) ≤ (s.size : Int) := by omega
  have s2 : (st : Int).toNat = st := by omega
  by_cases he : (bodyF ((toL s).drop st)).2 = 0
  · refine Calls.mono (R := fun e w' => e = .returned (.tuple #[.int .i64 0, .int .i64 0]) ∧ PkAt w' p s hd (st : Int) fv (s.extract st s.size) ∧ (∀ g, g ≠ p → g < w.heap.size → w'.heap[g]? = w.heap[g]?) ∧ Below n w w') ?_ (fun e w' hx => .inr ⟨he, by rw [← HXE.out]; exact hx⟩)
    rw [he] at HBD
    generalize (bodyF ((toL s).drop st)).1 = a at *
    have HPK := Lib.hid h
    clear he hsh h hxs
    go_enter Try.func53, Try.ntmps53
    go_upto_region 1 with fail
    go_quiet (fail)
    have HPD := Lib.hid (show PkAt (w.drewN nq) p s hd (st : Int) fv bd from ⟨HPK.out.blk⟩)
    have HSD := Lib.hid (shaped_below HSH.out (below_drewN (Below.refl _ _) nq))
    have HWD := Lib.hid (show ∀ g : Nat, (w.drewN nq).heap[g]? = w.heap[g]? from fun _ => rfl)
    have HBN := Lib.hid (below_drewN (Below.refl n w) nq)
    have HZ := Lib.hid (show (w.drewN nq).heap.size = w.heap.size from rfl)
    generalize w.drewN nq = X at *
    clear c0 c2
    go_wp2_with fail
    (with_reducible refine (HBD.out _ HSD.out).mono ?_)
    rintro e w1 ⟨rfl, hb1⟩
    have hpk := HPD.out.below hb1
    have d4 := hpk.c4; have f4 := hpk.free 4
    have HP1 := Lib.hid hpk; have HB1 := Lib.hid hb1
    clear hpk hb1
    go_wp2_with fail
    go_ret2
    exact ⟨rfl, HP1.out.setBody _, fun g hg hl => by rw [Below.heap_setCell _ _ _ _ hg, HB1.out.block _ (by rw [HZ.out]; exact hl)]; exact HWD.out g, (HBN.out.trans (HB1.out.mono (by rw [HZ.out]; omega))).setCell (p := ⟨p, 4, none⟩) hn _⟩
  · refine Calls.mono (R := fun e w' => e = .returned (.tuple #[.int .i64 ((st : Int) + ((bodyF ((toL s).drop st)).1 : Nat)), .int .i64 (bodyF ((toL s).drop st)).2]) ∧ Below n w w') ?_ (fun e w' hx => .inl ⟨he, hx⟩)
    have e1 : ((bodyF ((toL s).drop st)).2 != 0) = true := by simp [bne, he]
    generalize (bodyF ((toL s).drop st)).1 = a at *
    generalize (bodyF ((toL s).drop st)).2 = k at *
    have HPK := Lib.hid h
    clear he hsh h hxs
    go_enter Try.func53, Try.ntmps53
    go_upto_region 1 with fail
    go_quiet (fail)
    have HPD := Lib.hid (show PkAt (w.drewN nq) p s hd (st : Int) fv bd from ⟨HPK.out.blk⟩)
    have HSD := Lib.hid (shaped_below HSH.out (below_drewN (Below.refl _ _) nq))
    have HBN := Lib.hid (below_drewN (Below.refl n w) nq)
    have HZ := Lib.hid (show (w.drewN nq).heap.size = w.heap.size from rfl)
    generalize w.drewN nq = X at *
    clear c0 c2
    go_wp2_with fail
    (with_reducible refine (HBD.out _ HSD.out).mono ?_)
    rintro e w1 ⟨rfl, hb1⟩
    have d2 := (HPD.out.below hb1).c2
    have HB1 := Lib.hid hb1
    clear hb1
    go_wp2_with fail
    go_ret2
    exact ⟨rfl, HBN.out.trans (HB1.out.mono (by rw [HZ.out]; omega))⟩
end Go.Proofs.Ytcohgjdijhogbaa

namespace Go.Proofs.Ytcohgjdijhogbaa
set_option linter.unusedSimpArgs false
set_option linter.unusedVariables false
open Go.RowKit

def ArtPost (s : ByteArray) (w : World) (e : Ending) (w' : World) : Prop :=
  ∃ v, e = .returned (.tuple #[.agg #[v, .string (ofL (parF (toL s)).body)], .int .i64 (parF (toL s)).at_, .int .i64 (parF (toL s)).e]) ∧ w'.ownsRow w.heap.size 59 2 v (parF (toL s)).fields.length (fldsV (parF (toL s)).fields) ∧ Below w.heap.size w w'
theorem ArtPost.err {s : ByteArray} {w w' : World} {a e : Int} (h : parF (toL s) = ⟨[], [], a, e⟩) (hb : Below w.heap.size w w') : ArtPost s w (.returned (.tuple #[.agg #[.slice none 0 0, .string ⟨#[]⟩], .int .i64 a, .int .i64 e])) w' :=
  ⟨.slice none 0 0, by rw [h]; rfl, by rw [h]; exact World.ownsRow_nil _ _ _ _, hb⟩
abbrev stepV (f p : Nat) : Value := .func (.func f) #[.pointer (some ⟨p, 0, none⟩)] #[]
/-- What holds when k steps have been taken. -/
structure ParSt (s : ByteArray) (w : World) (p q k : Nat) (wr : World) : Prop where
  box : wr.heap[w.heap.size]? = some (.cells #[.slice none 0 0, .string ⟨#[]⟩] 49 (0, 0))
  fns : wr.heap[q]? = some (.cells #[stepV 50 p, stepV 51 p, stepV 52 p, stepV 53 p] 92 (0, 0))
  bel : Below w.heap.size w wr
  size : 1 ≤ k → ¬ 65536 < s.size
  head : 2 ≤ k → (parseF (newF (toL s)).1).2.2 = 0
  empty : 3 ≤ k → ¬ (newF (toL s)).2 < 0
  body : 4 ≤ k → (bodyF ((toL s).drop (newF (toL s)).2.toNat)).2 = 0
  pk : ∃ v, PkAt wr p s (ofL (newF (toL s)).1) (newF (toL s)).2 v (if k = 4 then ofL ((toL s).drop (newF (toL s)).2.toNat) else ⟨#[]⟩) ∧ (if 2 ≤ k then wr.ownsRow (p + 1) 59 2 v (parseF (newF (toL s)).1).1.length (fldsV (parseF (newF (toL s)).1).1) else v = .slice none 0 0)
theorem ParSt.fn {s : ByteArray} {w : World} {p q k : Nat} {wr : World} (h : ParSt s w p q k wr) : wr.cell? ⟨q, 0, none⟩ = some (stepV 50 p) ∧ wr.cell? ⟨q, 1, none⟩ = some (stepV 51 p) ∧ wr.cell? ⟨q, 2, none⟩ = some (stepV 52 p) ∧ wr.cell? ⟨q, 3, none⟩ = some (stepV 53 p) := by
  refine ⟨?_, ?_, ?_, ?_⟩ <;> (rw [Lib.cell_of_heap h.fns]; rfl)
theorem ParSt.next0 {s : ByteArray} {w : World} {p q : Nat} {wr : World} (h : ParSt s w p q 0 wr) (hz : ¬ 65536 < s.size) : ParSt s w p q 1 wr :=
  ⟨h.box, h.fns, h.bel, fun _ => hz, fun h => by omega, fun h => by omega, fun h => by omega, h.pk⟩
theorem ParSt.next2 {s : ByteArray} {w : World} {p q : Nat} {wr : World} (h : ParSt s w p q 2 wr) (hz : ¬ (newF (toL s)).2 < 0) : ParSt s w p q 3 wr :=
  ⟨h.box, h.fns, h.bel, fun _ => h.size (by omega), fun _ => h.head (by omega), fun _ => hz, fun h => by omega, h.pk⟩
theorem heap_ne {w w' : World} {p q : Nat} {o : Obj} (h : w.heap[q]? = some o) (hg : ∀ g : Nat, g ≠ p → g < w.heap.size → w'.heap[g]? = w.heap[g]?) (hq : q ≠ p) : w'.heap[q]? = some o := (hg q hq (heap_lt h)).trans h
theorem own_ne {w w' : World} {p : Nat} {e : TypeId} {size n : Nat} {v : Value} {xs : List Value} (h : w.ownsRow (p + 1) e size v n xs) (hg : ∀ g : Nat, g ≠ p → g < w.heap.size → w'.heap[g]? = w.heap[g]?) : w'.ownsRow (p + 1) e size v n xs := by
  refine ⟨h.1, ?_⟩
  rcases h.2 with h2 | ⟨g, cap, cur, hv, hg', hh, r⟩
  · exact .inl h2
  · exact .inr ⟨g, cap, cur, hv, hg', heap_ne hh hg (by omega), r⟩
theorem ParSt.next1 {s : ByteArray} {w : World} {q : Nat} {wr w' : World} (h : ParSt s w (w.heap.size + 1) q 1 wr) (hq : w.heap.size + 1 < q) (he : (parseF (newF (toL s)).1).2.2 = 0)
    (hf : FieldsPost (w.heap.size + 1) (w.heap.size + 1) s (ofL (newF (toL s)).1) (newF (toL s)).2 ⟨#[]⟩ (parseF (newF (toL s)).1).1 wr w') : ParSt s w (w.heap.size + 1) q 2 w' := by
  obtain ⟨v, h1, h2⟩ := hf.ex
  exact ⟨heap_ne h.box hf.oth (by omega), heap_ne h.fns hf.oth (by omega), h.bel.trans (hf.bel.mono (Nat.le_succ _)), fun _ => h.size (by omega), fun _ => he, fun h => by omega, fun h => by omega, v, h1, h2⟩
theorem ParSt.next3 {s : ByteArray} {w : World} {q st : Nat} {v : Value} {wr w' : World} (h : ParSt s w (w.heap.size + 1) q 3 wr) (hq : w.heap.size + 1 < q) (hst : (newF (toL s)).2 = (st : Int)) (he : (bodyF ((toL s).drop st)).2 = 0)
    (hown : wr.ownsRow (w.heap.size + 1 + 1) 59 2 v (parseF (newF (toL s)).1).1.length (fldsV (parseF (newF (toL s)).1).1))
    (hf : PkAt w' (w.heap.size + 1) s (ofL (newF (toL s)).1) (st : Int) v (ofL ((toL s).drop st)) ∧ (∀ g : Nat, g ≠ w.heap.size + 1 → g < wr.heap.size → w'.heap[g]? = wr.heap[g]?) ∧ Below (w.heap.size + 1) wr w') : ParSt s w (w.heap.size + 1) q 4 w' := by
  obtain ⟨h1, h2, h3⟩ := hf
  refine ⟨heap_ne h.box h2 (by omega), heap_ne h.fns h2 (by omega), h.bel.trans (h3.mono (Nat.le_succ _)), fun _ => h.size (by omega), fun _ => h.head (by omega), fun _ => h.empty (by omega), fun _ => ?_, v, ?_, ?_⟩
  · rw [hst, Int.toNat_natCast]; exact he
  · rw [if_pos rfl, hst, Int.toNat_natCast]; exact h1
  · rw [if_pos (by omega)]; exact own_ne hown h2
theorem art_ret {s : ByteArray} {w W : World} {r : Nat} {v : Value} {b : ByteArray} {a e : Int} {T : Array Value} (hb : W.heap[r]? = some (.cells #[v, .string b] 49 (0, 0)))
    (hT2 : T[2]? = some (.pointer (some ⟨r, 0, none⟩))) (hT3 : T[3]? = some (.int .i64 a)) (hT4 : T[4]? = some (.int .i64 e)) (hQ : ArtPost s w (.returned (.tuple #[.agg #[v, .string b], .int .i64 a, .int .i64 e])) W) :
    bodyPost Try.prog Try.f33 (ArtPost s w) .ret { tmps := T, defers := [] } W := by
  have c0 : W.cell? ⟨r, 0, none⟩ = some v := by rw [Lib.cell_of_heap hb]; rfl
  have c1 : W.cell? ⟨r, 1, none⟩ = some (.string b) := by rw [Lib.cell_of_heap hb]; rfl
  refine bodyPost_ret (v := .tuple #[.agg #[v, .string b], .int .i64 a, .int .i64 e]) ?_ rfl hQ
  simp [results, Try.f33, go_sem, hT2, hT3, hT4, c0, c1]
theorem box_set {W : World} {r : Nat} {a b : Value} {t : TypeId} (h : W.heap[r]? = some (.cells #[a, b] t (0, 0))) (v u : Value) : ((W.setCell ⟨r, 0, none⟩ v).setCell ⟨r, 1, none⟩ u).heap[r]? = some (.cells #[v, u] t (0, 0)) := by
  rw [heap_set (heap_set h v) u]; rfl
theorem below_box {n r : Nat} {w W : World} (h : Below n w W) (hr : n ≤ r) (v u : Value) : Below n w ((W.setCell ⟨r, 0, none⟩ v).setCell ⟨r, 1, none⟩ u) :=
  (h.setCell (p := ⟨r, 0, none⟩) hr v).setCell (p := ⟨r, 1, none⟩) hr u
theorem info_fn : (Try.prog.info? 92).map (fun i => (i.zero, i.size, i.bytes)) = some (some .nilFunc, 1, 8) := by kernel_rfl
set_option maxHeartbeats 4000000 in
set_option maxRecDepth 100000 in
theorem art_parse (s : ByteArray) (w : World) (hsh : w.ShapedOpen Try.prog) (hs : s.size ≤ 900000) : Calls Try.prog 33 #[.string s] w (ArtPost s w) := by
  have HSH := Lib.hid hsh; clear hsh
  have HL := Lib.hid (toL_length s)
  have HSZ := Lib.hid (newF_le (toL s))
  have hBa : Below w.heap.size w (w.alloc (.cells #[.slice none 0 0, .string ⟨#[]⟩] 49)) := (Below.refl _ _).alloc (Nat.le_refl _) _
  have HBa := Lib.hid hBa; clear hBa
  have HBX := Lib.hid (show (w.alloc (.cells #[.slice none 0 0, .string ⟨#[]⟩] 49)).heap[w.heap.size]? = some (.cells #[.slice none 0 0, .string ⟨#[]⟩] 49 (0, 0)) from World.alloc_heap_new _ _)
  have HNEW := Lib.hid (ap_new s (w.alloc (.cells #[.slice none 0 0, .string ⟨#[]⟩] 49)) (shaped_below HSH.out HBa.out) hs)
  rw [World.size_alloc] at HNEW
  go_enter Try.func33, Try.ntmps33
  go_wp2_with fail
  (with_reducible refine HNEW.out.mono ?_)
  rintro e w1 ⟨rfl, hpk, hb1⟩
  have HPK := Lib.hid hpk
  have HB1 := Lib.hid (HBa.out.trans (hb1.mono (by simp)))
  have HX1 := Lib.hid ((hb1.block w.heap.size (by simp)).trans HBX.out)
  clear hpk hb1 HNEW HBX
  go_wp2_with fail
  have HF := Lib.hid (show ParSt s w (w.heap.size + 1) w1.heap.size 0 (w1.alloc (.cells #[stepV 50 (w.heap.size + 1), stepV 51 (w.heap.size + 1), stepV 52 (w.heap.size + 1), stepV 53 (w.heap.size + 1)] 92)) from
    ⟨(Below.heap_alloc _ _ _ (heap_lt HX1.out)).trans HX1.out, World.alloc_heap_new _ _, HB1.out.alloc HB1.out.size _, fun h => by omega, fun h => by omega, fun h => by omega, fun h => by omega, _, HPK.out.below ((Below.refl _ _).alloc (Nat.le_refl _) _), rfl⟩)
  have HPQ := Lib.hid (show w.heap.size + 1 < w1.heap.size from HPK.out.lt)
  generalize w1.alloc (.cells #[stepV 50 (w.heap.size + 1), stepV 51 (w.heap.size + 1), stepV 52 (w.heap.size + 1), stepV 53 (w.heap.size + 1)] 92) = X at *
  clear HPK HB1 HX1
  generalize w1.heap.size = q at *
  go_loopw [22, 3] (fun v22 _ wr => ∃ k : Nat, k ≤ 4 ∧ v22 = .int .i64 (k : Int) ∧ ParSt s w (w.heap.size + 1) q k wr) (fun v22 _ _ => 4 - (intOf v22).toNat)
  case atStart => exact ⟨0, by omega, rfl, HF.out⟩
  case round =>
    obtain ⟨k, hk, rfl, hst⟩ := hrel
    clear HF
    obtain ⟨wo, rfl⟩ : ∃ wo : World, wo = wr := ⟨_, rfl⟩
    obtain ⟨f0, f1, f2, f3⟩ := hst.fn
    have hbx := hst.box
    have HBL := Lib.hid hst.bel
    have hcx : wo.cell? ⟨w.heap.size, 0, none⟩ = some (.slice none 0 0) := by rw [Lib.cell_of_heap hbx]; rfl
    have hcy : wo.cell? ⟨w.heap.size, 1, none⟩ = some (.string ⟨#[]⟩) := by rw [Lib.cell_of_heap hbx]; rfl
    have hfx := Lib.frozen_of_heap hbx 0
    have hfy := Lib.frozen_of_heap hbx 1
    have HBX := Lib.hid hbx
    have HST := Lib.hid hst
    clear hbx hst
    rcases (by omega : k = 0 ∨ k = 1 ∨ k = 2 ∨ k = 3 ∨ k = 4) with rfl | rfl | rfl | rfl | rfl
    · obtain ⟨v, hpk, _⟩ := HST.out.pk
      have HSI := Lib.hid (ap_size hpk)
      clear hpk
      by_cases hz : 65536 < s.size
      · have HV := Lib.hid (show parF (toL s) = ⟨[], [], 65536, 5⟩ from by unfold parF; rw [HL.out, if_pos hz])
        rw [if_pos hz, if_pos hz] at HSI
        clear hz
        go_wp2_with ((go_at_call 50; (with_reducible refine HSI.out.mono ?_); rintro e w' ⟨rfl, rfl⟩))
        exact art_ret (box_set HBX.out _ _) rfl rfl rfl (ArtPost.err HV.out (below_box HBL.out (Nat.le_refl _) _ _))
      · have HN := Lib.hid (HST.out.next0 hz)
        rw [if_neg hz, if_neg hz] at HSI
        clear hz
        go_wp2_with ((go_at_call 50; (with_reducible refine HSI.out.mono ?_); rintro e w' ⟨rfl, rfl⟩))
        go_roundw
        case rel => exact ⟨1, by omega, rfl, HN.out⟩
        case measure => simp [intOf] <;> omega
    · obtain ⟨v, hpk, _⟩ := HST.out.pk
      have HSI := Lib.hid (ap_fields (n := w.heap.size + 1) hpk (Nat.le_refl _) (by have := HSZ.out.2.2; rw [HL.out] at this; rw [ofL_size]; omega))
      rw [toL_ofL] at HSI
      clear hpk
      by_cases he : (parseF (newF (toL s)).1).2.2 = 0
      · have HSI2 := Lib.hid (HSI.out.mono fun _ _ h => (h.resolve_left (fun x => x.1 he)).2)
        clear HSI
        have HN := Lib.hid (fun w' hf => HST.out.next1 (w' := w') HPQ.out he hf)
        clear he
        go_wp2_with ((go_at_call 51; (with_reducible refine HSI2.out.mono ?_); rintro e w' ⟨rfl, hf⟩; have HNN := Lib.hid (HN.out _ hf); clear hf))
        go_roundw
        case rel => exact ⟨2, by omega, rfl, HNN.out⟩
        case measure => simp [intOf] <;> omega
      · have HSI2 := Lib.hid (HSI.out.mono fun _ _ h => (h.resolve_right (fun x => he x.1)).2)
        have HV := Lib.hid (show parF (toL s) = ⟨[], [], (parseF (newF (toL s)).1).2.1, (parseF (newF (toL s)).1).2.2⟩ from by unfold parF; rw [HL.out, if_neg (HST.out.size (by omega)), if_pos he])
        have e1 : ((parseF (newF (toL s)).1).2.2 != 0) = true := by simp [bne, he]
        clear HSI
        generalize (parseF (newF (toL s)).1).2.2 = k at *
        generalize (parseF (newF (toL s)).1).2.1 = a at *
        clear he
        go_wp2_with ((go_at_call 51; (with_reducible refine HSI2.out.mono ?_); rintro e w' ⟨rfl, hb⟩; have HB2 := Lib.hid hb; have hbx2 := (hb.block _ (Nat.lt_succ_self _)).trans HBX.out; have g0 : w'.cell? ⟨w.heap.size, 0, none⟩ = some (.slice none 0 0) := (by rw [Lib.cell_of_heap hbx2]; rfl); have g1 : w'.cell? ⟨w.heap.size, 1, none⟩ = some (.string ⟨#[]⟩) := (by rw [Lib.cell_of_heap hbx2]; rfl); have g2 := Lib.frozen_of_heap hbx2 0; have g3 := Lib.frozen_of_heap hbx2 1; have HBX2 := Lib.hid hbx2; clear hb hbx2))
        exact art_ret (box_set HBX2.out _ _) rfl rfl rfl (ArtPost.err HV.out (below_box (HBL.out.trans (HB2.out.mono (Nat.le_succ _))) (Nat.le_refl _) _ _))
    · obtain ⟨v, hpk, _⟩ := HST.out.pk
      have HSI := Lib.hid (ap_division hpk)
      clear hpk
      by_cases hz : (newF (toL s)).2 < 0
      · have HV := Lib.hid (show parF (toL s) = ⟨[], [], (s.size : Nat), 4⟩ from by unfold parF; rw [HL.out, if_neg (HST.out.size (by omega)), if_neg (by rw [HST.out.head (by omega)]; simp), if_pos hz])
        rw [if_pos hz, if_pos hz] at HSI
        clear hz
        go_wp2_with ((go_at_call 52; (with_reducible refine HSI.out.mono ?_); rintro e w' ⟨rfl, rfl⟩))
        exact art_ret (box_set HBX.out _ _) rfl rfl rfl (ArtPost.err HV.out (below_box HBL.out (Nat.le_refl _) _ _))
      · have HN := Lib.hid (HST.out.next2 hz)
        rw [if_neg hz, if_neg hz] at HSI
        clear hz
        go_wp2_with ((go_at_call 52; (with_reducible refine HSI.out.mono ?_); rintro e w' ⟨rfl, rfl⟩))
        go_roundw
        case rel => exact ⟨3, by omega, rfl, HN.out⟩
        case measure => simp [intOf] <;> omega
    · obtain ⟨v, hpk, hown⟩ := HST.out.pk
      rw [if_neg (by omega)] at hpk
      rw [if_pos (by omega)] at hown
      have hge := HST.out.empty (by omega)
      obtain ⟨st, hst⟩ : ∃ st : Nat, (newF (toL s)).2 = (st : Int) := ⟨_, (Int.toNat_of_nonneg (by omega)).symm⟩
      have hle := HSZ.out.1
      rw [HL.out] at hle
      rw [hst] at hpk hle
      have HST2 := Lib.hid hst
      have HSI := Lib.hid (ap_body (n := w.heap.size + 1) (shaped_below HSH.out HBL.out) hpk (Nat.le_refl _) hs (by omega))
      clear hpk hst hge
      by_cases he : (bodyF ((toL s).drop st)).2 = 0
      · have HSI2 := Lib.hid (HSI.out.mono fun _ _ h => (h.resolve_left (fun x => x.1 he)).2)
        clear HSI
        have HN := Lib.hid (fun w' hf => HST.out.next3 (w' := w') HPQ.out HST2.out he hown hf)
        clear he hown
        go_wp2_with ((go_at_call 53; (with_reducible refine HSI2.out.mono ?_); rintro e w' ⟨rfl, hf⟩; have HNN := Lib.hid (HN.out _ hf); clear hf))
        go_roundw
        case rel => exact ⟨4, by omega, rfl, HNN.out⟩
        case measure => simp [intOf] <;> omega
      · have HSI2 := Lib.hid (HSI.out.mono fun _ _ h => (h.resolve_right (fun x => he x.1)).2)
        have HV := Lib.hid (show parF (toL s) = ⟨[], [], (st : Int) + ((bodyF ((toL s).drop st)).1 : Nat), (bodyF ((toL s).drop st)).2⟩ from by
          unfold parF; rw [HL.out, if_neg (HST.out.size (by omega)), if_neg (by rw [HST.out.head (by omega)]; simp), if_neg (HST.out.empty (by omega)), HST2.out, Int.toNat_natCast, if_pos he])
        have e1 : ((bodyF ((toL s).drop st)).2 != 0) = true := by simp [bne, he]
        clear HSI hown
        generalize (bodyF ((toL s).drop st)).2 = k at *
        generalize (bodyF ((toL s).drop st)).1 = a at *
        clear he
        go_wp2_with ((go_at_call 53; (with_reducible refine HSI2.out.mono ?_); rintro e w' ⟨rfl, hb⟩; have HB2 := Lib.hid hb; have hbx2 := (hb.block _ (Nat.lt_succ_self _)).trans HBX.out; have g0 : w'.cell? ⟨w.heap.size, 0, none⟩ = some (.slice none 0 0) := (by rw [Lib.cell_of_heap hbx2]; rfl); have g1 : w'.cell? ⟨w.heap.size, 1, none⟩ = some (.string ⟨#[]⟩) := (by rw [Lib.cell_of_heap hbx2]; rfl); have g2 := Lib.frozen_of_heap hbx2 0; have g3 := Lib.frozen_of_heap hbx2 1; have HBX2 := Lib.hid hbx2; clear hb hbx2))
        exact art_ret (box_set HBX2.out _ _) rfl rfl rfl (ArtPost.err HV.out (below_box (HBL.out.trans (HB2.out.mono (Nat.le_succ _))) (Nat.le_refl _) _ _))
    · obtain ⟨v, hpk, hown⟩ := HST.out.pk
      rw [if_pos rfl] at hpk
      rw [if_pos (by omega)] at hown
      have c3 := hpk.c3; have c4 := hpk.c4
      have HV := Lib.hid (show parF (toL s) = ⟨(parseF (newF (toL s)).1).1, (toL s).drop (newF (toL s)).2.toNat, 0, 0⟩ from by
        unfold parF; rw [HL.out, if_neg (HST.out.size (by omega)), if_neg (by rw [HST.out.head (by omega)]; simp), if_neg (HST.out.empty (by omega)), if_neg (by rw [HST.out.body (by omega)]; simp)])
      have HO := Lib.hid hown
      obtain ⟨A, c, rfl, _⟩ := own_row hown
      clear hpk hown
      generalize hfs : (parseF (newF (toL s)).1).1 = fs at *
      generalize hbd : (toL s).drop (newF (toL s)).2.toNat = bd at *
      clear hfs hbd
      go_wp2_with fail
      refine art_ret (box_set HBX.out _ _) rfl rfl rfl ⟨_, by rw [HV.out], ?_, below_box HBL.out (Nat.le_refl _) _ _⟩
      rw [HV.out]
      exact own_mono (ownsRow_setCell_below (ownsRow_setCell_below HO.out (by show w.heap.size < _; omega) _) (by show w.heap.size < _; omega) _) (by omega)
end Go.Proofs.Ytcohgjdijhogbaa
