/- Lemmas and walks, part 21. -/
import Derived.Test.YtghjgbkhhoaebaaGreatDoorPo10
import Derived.Test.YtghjgbkhhoaebaaGreatDoorPo16
import Derived.Test.YtghjgbkhhoaebaaGreatDoorPo20
import Derived.Test.YtghjgbkhhoaebaaGreatDoorPo12
import Derived.Test.YtghjgbkhhoaebaaGreatDoorPo6
namespace Go.Proofs.YtghjgbkhhoaebaaGreatDoor
set_option linter.unusedSimpArgs false
set_option linter.unusedVariables false
open Go.RowKit

abbrev repS : ByteArray := ⟨#[239, 191, 189]⟩
theorem bld_drewN {B b n : Nat} {bs : List Value} {W : World} (h : Lib.IsBuilder 91 5 B b bs W) : Lib.IsBuilder 91 5 B b bs (W.drewN n) := bld_below h (below_drewN (Below.refl _ _) n)
set_option maxHeartbeats 8000000 in
set_option maxRecDepth 100000 in
theorem u8_repair (s : ByteArray) (w : World) (ht : TabB w) (hs : s.size ≤ 10000000) : Calls Tryz.prog 103 #[.string s] w fun e w' => e = .returned (.string (ofL (repF (toL s)))) ∧ Below w.heap.size w w' := by
  have HL := Lib.hid (toL_length s)
  have HEN := Lib.hid (u8_encR w ht); clear ht
  generalize hT : repF (toL s) = T at *
  go_enter Tryz.func103, Tryz.ntmps103
  go_wp2_with ((go_at_call 125; (with_reducible refine HEN.out.mono ?_); rintro e w1 ⟨rfl, hb1⟩))
  have HB1 := Lib.hid hb1; clear hb1
  have hz1 := HB1.out.size
  have HI0 := Lib.hid (bld_new w1 w1.heap.size rfl)
  go_loopw [0, 6, 7] (fun v0 _ _ wr => ∃ (X : ByteArray) (out : List UInt8), v0 = .string X ∧ X.size ≤ s.size ∧ Lib.IsBuilder 91 5 w1.heap.size w1.heap.size (Lib.byteCells out) wr ∧ T = out ++ repF (toL X) ∧ out.length + 3 * X.size ≤ 3 * s.size ∧ Below w.heap.size w wr ∧ w1.heap.size ≤ wr.heap.size) (fun v0 _ _ _ => szOf v0)
  case atStart => exact ⟨s, [], rfl, by omega, HI0.out, by rw [← hT]; rfl, by simp, HB1.out.alloc hz1 _, by simp⟩
  case round =>
    obtain ⟨X, out, rfl, hXs, hbd, hp, hol, hb, hbz⟩ := hrel
    have HP := Lib.hid hp; have HB := Lib.hid hb; have HBD := Lib.hid hbd
    clear hp hb hbd hT HI0 HEN
    have hXL := toL_length X
    by_cases h0 : X.size = 0
    · have q1 : X.toList = [] := toList_nil h0
      have q2 : X.toList.isEmpty = true := by rw [q1]; rfl
      have HV := Lib.hid (show T = out from by rw [HP.out, List.eq_nil_of_length_eq_zero (hXL.trans h0), repF_nil, List.append_nil])
      clear h0 hXL q1
      go_wp2_with ((go_at_call 49; (with_reducible refine (Tryz.Builder_String_any _ _ _ _ HBD.out hbz).mono ?_); rintro e w2 ⟨rfl, hb2⟩))
      go_ret
      exact ⟨by rw [HV.out]; rfl, HB.out.trans (hb2.mono hz1)⟩
    · have q2 : X.toList.isEmpty = false := toList_cons h0
      have hne : toL X ≠ [] := by intro e; rw [e] at hXL; simp at hXL; omega
      have HME := Lib.hid (fun wx => u8_measure X wx (by omega))
      have hsp := stepU_pos (toL X)
      have hsl : stepU (toL X) ≤ X.size := by
        rw [← toL_length]
        cases h : toL X with
        | nil => exact absurd h hne
        | cons c r => exact stepU_le c r
      have hpl := piece_len (toL X)
      have HDR := Lib.hid (ext_drop X (stepU (toL X)))
      have HSTEP := Lib.hid (show T = (out ++ pieceU (toL X)) ++ repF (toL (X.extract (stepU (toL X)) X.size)) from by
        rw [HP.out, repF_ne hne, ext_drop, List.append_assoc])
      have hes : (X.extract (stepU (toL X)) X.size).size = X.size - stepU (toL X) := extract_size _ _ _ (Nat.le_refl _)
      have hml := (measU_le (toL X)).1
      rcases hw : wholeU (toL X) with _ | _
      · rw [hw] at HME
        have HPC := Lib.hid (show pieceU (toL X) = toL repS from by unfold pieceU; rw [if_neg (by rw [hw]; simp)]; rfl)
        have hst : stepU (toL X) = max (measU (toL X)) 1 := rfl
        have x1 : max ((measU (toL X) : Nat) : Int) 1 = ((stepU (toL X) : Nat) : Int) := by rw [hst]; omega
        have x2 : (0 : Int) ≤ ((stepU (toL X) : Nat) : Int) := by omega
        have x3 : ((stepU (toL X) : Nat) : Int) ≤ (X.size : Int) := by omega
        have HX1 := Lib.hid hst
        clear hst hw
        generalize measU (toL X) = m at *
        generalize stepU (toL X) = n at *
        have HWS := Lib.hid (fun md => bld_write2 w1.heap.size w1.heap.size out repS (wr.drewN md) (bld_drewN HBD.out) (by rw [show repS.size = 3 from rfl]; omega) (show w1.heap.size ≤ (wr.drewN md).heap.size from hbz))
        go_wp2_with (first
          | (go_at_call 126; (with_reducible refine (HME.out _).mono ?_); rintro e w' ⟨rfl, md, rfl⟩)
          | (go_at_call 45; (with_reducible refine (HWS.out md).mono ?_); rintro e w2 ⟨rfl, hbd2, hb2, -, -⟩; have HBD2 := Lib.hid hbd2; have HB2 := Lib.hid hb2; clear hbd2 hb2))
        go_roundw
        case rel =>
          have hz2 := HB2.out.size
          exact ⟨X.extract n X.size, out ++ pieceU (toL X), rfl, by omega, by rw [HPC.out]; exact HBD2.out, HSTEP.out, by rw [List.length_append]; omega, (below_drewN HB.out md).trans (HB2.out.mono hz1), Nat.le_trans hbz hz2⟩
        case measure => simp [szOf] <;> omega
      · rw [hw] at HME
        obtain ⟨e1, e2⟩ := whole_step hw
        have HPC := Lib.hid (show pieceU (toL X) = toL (X.extract 0 (measU (toL X))) from by unfold pieceU; rw [if_pos hw, ext_take])
        rw [e1] at hsp hsl hpl HDR HSTEP hes
        have hxs : (X.extract 0 (measU (toL X))).size ≤ 10000000 := by rw [extract_size _ _ _ (by rw [← toL_length]; exact hml)]; rw [toL_length] at hml; omega
        clear e1 e2 hw
        generalize measU (toL X) = n at *
        have x2 : (0 : Int) ≤ (n : Int) := by omega
        have x3 : (n : Int) ≤ (X.size : Int) := by omega
        obtain ⟨PX, hPX⟩ : ∃ PX, X.extract 0 n = PX := ⟨_, rfl⟩
        rw [hPX] at HPC hxs
        have HWS := Lib.hid (fun md => bld_write2 w1.heap.size w1.heap.size out PX (wr.drewN md) (bld_drewN HBD.out) (by omega) (show w1.heap.size ≤ (wr.drewN md).heap.size from hbz))
        go_wp2_with (first
          | (go_at_call 126; (with_reducible refine (HME.out _).mono ?_); rintro e w' ⟨rfl, md, rfl⟩)
          | (go_at_call 45; (with_reducible refine (HWS.out md).mono ?_); rintro e w2 ⟨rfl, hbd2, hb2, -, -⟩; have HBD2 := Lib.hid hbd2; have HB2 := Lib.hid hb2; clear hbd2 hb2))
        go_roundw
        case rel =>
          have hz2 := HB2.out.size
          exact ⟨X.extract n X.size, out ++ pieceU (toL X), rfl, by omega, by rw [HPC.out]; exact HBD2.out, HSTEP.out, by rw [List.length_append]; omega, (below_drewN HB.out md).trans (HB2.out.mono hz1), Nat.le_trans hbz hz2⟩
        case measure => simp [szOf] <;> omega
end Go.Proofs.YtghjgbkhhoaebaaGreatDoor

namespace Go.Proofs.YtghjgbkhhoaebaaGreatDoor
set_option linter.unusedSimpArgs false
set_option linter.unusedVariables false
open Go.RowKit Go.Shelf
attribute [local go_sem] Oper.semAt_some

set_option maxHeartbeats 2000000 in
set_option maxRecDepth 100000 in
theorem gw_isControl (x : Int) (w : World) : Calls Tryz.prog 104 #[.int .i32 x] w fun e w' => e = .returned (.bool (ctlI x)) ∧ w = w' := by
  by_cases h1 : x < 32
  · have HV := Lib.hid (show ctlI x = true from by unfold ctlI; simp [h1])
    have h1' : x ≤ 31 := by omega
    clear h1
    go_enter Tryz.func104, Tryz.ntmps104
    go_wp2_with fail
    go_ret
    exact ⟨ret_bool (by rw [HV.out]), rfl⟩
  · have h1' : 31 < x := by omega
    rcases e1 : (x == 8232) with _ | _
    all_goals
      rcases e2 : (x == 8233) with _ | _
      all_goals
        by_cases h2 : 127 ≤ x
        · by_cases h3 : x ≤ 159
          · have HV := Lib.hid (show ctlI x = true from by unfold ctlI; simp [h2, h3])
            clear h1
            go_enter Tryz.func104, Tryz.ntmps104
            go_wp2_with fail
            go_ret
            exact ⟨ret_bool (by rw [HV.out]), rfl⟩
          · have HV := Lib.hid (show ctlI x = (((x == 8232)) || (x == 8233)) from by unfold ctlI; simp [h1, h3])
            rw [e1, e2] at HV
            have h3' : 159 < x := by omega
            clear h1 h3
            go_enter Tryz.func104, Tryz.ntmps104
            go_wp2_with fail
            go_ret
            exact ⟨ret_bool (by rw [HV.out]; first | done | rfl | (simp; omega)), rfl⟩
        · have HV := Lib.hid (show ctlI x = (((x == 8232)) || (x == 8233)) from by unfold ctlI; simp [h1, h2])
          rw [e1, e2] at HV
          have h2' : x < 127 := by omega
          clear h1 h2
          go_enter Tryz.func104, Tryz.ntmps104
          go_wp2_with fail
          go_ret
          exact ⟨ret_bool (by rw [HV.out]; first | done | rfl | (simp; omega)), rfl⟩
/-- What plain has written when some code points have come. -/
def plX (pre : List RnT) : List Nat := clrR (pre.map fun x => x.1.2)
theorem plX_snoc (pre : List RnT) (x : RnT) : plX (pre ++ [x]) = plX pre ++ [if ctlU x.1.2 then 32 else x.1.2] := by unfold plX clrR; simp
theorem plX_all {L : List UInt8} {pre : List RnT} (h : AllRn L pre) : plX pre = clrR (runesOf L) := by
  unfold plX runesOf; unfold AllRn at h; rw [← h, List.map_map]; rfl
theorem plX_len (pre : List RnT) : (encL (plX pre)).length ≤ 4 * pre.length := by
  have h : ∀ rs : List Nat, (encL rs).length ≤ 4 * rs.length := by
    intro rs
    induction rs with
    | nil => simp [encL]
    | cons r rs ih => rw [encL_cons, List.length_append, List.length_cons]; have := (encU_len r).2; omega
  have := h (plX pre)
  unfold plX clrR at this ⊢
  simp only [List.length_map] at this ⊢
  exact this
theorem runes_leW (L : List UInt8) : (runesOf L).length ≤ L.length + 1 := by
  unfold runesOf allF; rw [List.length_map]; exact all_len _ _ _
theorem encL_le4 (rs : List Nat) : (encL rs).length ≤ 4 * rs.length := by
  induction rs with
  | nil => simp [encL]
  | cons r rs ih => rw [encL_cons, List.length_append, List.length_cons]; have := (encU_len r).2; omega
/-- Between two code points of plain. -/
structure PlI (b q : Nat) (s : ByteArray) (pre : List RnT) (W : World) : Prop where
  bd : Lib.IsBuilder 91 5 b b (Lib.byteCells (encL (plX pre))) W
  sb : Boxed W q 9 (.string s)
  sz : b ≤ W.heap.size
theorem PlI.own (b q : Nat) (s : ByteArray) : Own (PlI b q s) := fun _ _ _ _ hs hg hr => ⟨bld_own hs.bd hg hr, bx_own hs.sb hg hr, Nat.le_trans hs.sz hg.size⟩
set_option maxRecDepth 100000 in
set_option maxHeartbeats 8000000 in
theorem gw_plain (s : ByteArray) (w : World) (ht : TabB w) (hs : s.size ≤ 3000000) : Calls Tryz.prog 73 #[.string s] w fun e w' => e = .returned (.string (ofL (plnF (toL s)))) ∧ Below w.heap.size w w' := by
  have HRP := Lib.hid (fun wx (hb : Below w.heap.size w wx) => u8_repair s wx (ht.below hb) (by omega)); clear ht
  have hrl := rep_len (toL s).length (toL s) (Nat.le_refl _)
  rw [toL_length] at hrl
  refine (callsIn_wide (n := 10)).1 ?_
  refine callsIn_of_wp_marks Tryz.func73 rfl trivial ?_ rfl
  simp only [Tryz.ntmps73, List.size_toArray, List.length_cons, List.length_nil, Nat.reduceAdd, Nat.reduceSub, Array.replicate_succ, Array.replicate_zero, List.push_toArray, List.append_toArray, List.nil_append, List.cons_append]
  have HB0 := Lib.hid (show Below w.heap.size w (w.alloc (.cells #[.pointer none, .slice none 0 0] 91)) from (Below.refl _ w).alloc (Nat.le_refl _) _)
  have HBD0 := Lib.hid (bld_new w w.heap.size rfl)
  gi_wp2_with (first | (refine ⟨trivial, ?_⟩; gi_at_call 103; refine (callsIn_wide.2 (HRP.out _ HB0.out)).mono ?_; rintro e w1 ⟨rfl, hb1⟩) | (refine ⟨trivial, ?_⟩; gi_at_call 102; refine (art_runes _ _ _).mono ?_; rintro e w' ⟨rfl, rfl⟩))
  have HLP := Lib.hid (toL_ofL (repF (toL s)))
  have hps : (ofL (repF (toL s))).size ≤ 9000000 := by rw [ofL_size]; omega
  have HTT := Lib.hid (enc_trim (clrR (runesOf (repF (toL s)))) (clr_rune (runes_rune _)))
  have HTM := Lib.hid (show trimL blkR (clrR (runesOf (repF (toL s)))) = tmR (toL s) from rfl)
  have HTR := Lib.hid (tm_rune (toL s))
  have HTW := Lib.hid (trim_twice (toL s))
  have HPF := Lib.hid (show plnF (toL s) = encL (plnR (toL s)) from rfl)
  have HCR := Lib.hid (enc_trim (cutR 400 (tmR (toL s))) ((tm_rune (toL s)).sub fun _ h => mem_cut h))
  have HB1 := Lib.hid (HB0.out.trans (hb1.mono HB0.out.size))
  have hz1 : w.heap.size < w1.heap.size := by have := hb1.size; simp at this; omega
  have hI0 : PlI w.heap.size w1.heap.size (ofL (repF (toL s))) [] (w1.alloc (.cells #[.string (ofL (repF (toL s)))] 9)) := ⟨bld_below (bld_below HBD0.out hb1) ((Below.refl _ _).alloc (Nat.le_refl _) _), bx_new _ _ rfl, by simp; omega⟩
  have hBX : Below w.heap.size w (w1.alloc (.cells #[.string (ofL (repF (toL s)))] 9)) := HB1.out.alloc (by omega) _
  have hbx : Boxed (w1.alloc (.cells #[.string (ofL (repF (toL s)))] 9)) w1.heap.size 9 (.string (ofL (repF (toL s)))) := bx_new _ _ rfl
  have hzX : (w1.alloc (.cells #[.string (ofL (repF (toL s)))] 9)).heap.size = w1.heap.size + 1 := by simp
  clear HBD0 HB0 hb1 HRP
  generalize w1.alloc (.cells #[.string (ofL (repF (toL s)))] 9) = X at *
  generalize w1.heap.size = q at *
  generalize ofL (repF (toL s)) = RP at *
  generalize repF (toL s) = RL at *
  have hrl2 := runes_leW RL
  refine wpIn_rangeFunc_ownG (a₁ := ?a1) rfl (by omega) (gf := 123) (lb := #[.pointer (some ⟨q, 0, none⟩)]) rfl trivial (enters_of Tryz.func123 (by kernel_rfl) rfl)
    (runes_stops _ (by omega) (fun A B => B.cell? ⟨q, 0, none⟩ = A.cell? ⟨q, 0, none⟩) X q hbx.lt RP (fun _ _ h1 h2 => h1.trans h2) (by omega) hbx.cell) (fun h1 h2 => h2.trans h1) (fun W l o o' hl h1 h2 h3 => cell_put W l o' (by omega)) (Below.refl _ _) (fun _ => rfl)
    (fun pre W => PlI w.heap.size q RP pre W ∧ Below w.heap.size w W)
    (fun _ _ _ => False)
    (OwnFrom.and (Own.from (PlI.own _ _ _) _) (ownFrom_below (Nat.le_refl _) (by omega)))
    (fun _ _ _ _ _ hs _ _ => hs)
    ⟨hI0, hBX⟩ ?assign ?body ?done ?stop
  case assign =>
    intro l x W K hK
    gi_wp2
    exact hK
  case body =>
    rintro l pre ⟨⟨o, r⟩, hx⟩ W ⟨hI, hB⟩ hlen
    have HI := Lib.hid hI; have HB := Lib.hid hB
    have HSN := Lib.hid (plX_snoc pre ⟨(o, r), hx⟩)
    have hpl := plX_len pre
    have hrr : runeB r := hx.2
    have HCT := Lib.hid (fun wx => gw_isControl (r : Int) wx)
    rw [ctlI_nat] at HCT
    have c4 := hI.sb.cell
    clear hI hB hI0 hBX hbx
    dsimp only at HSN ⊢
    rcases hc : ctlU r with _ | _
    · rw [hc] at HCT HSN
      have HN := Lib.hid (show encL (plX (pre ++ [⟨(o, r), hx⟩])) = encL (plX pre) ++ encU r from by rw [HSN.out]; exact encL_snoc _ _)
      have HWR := Lib.hid (bld_rune w.heap.size w.heap.size (encL (plX pre)) r W HI.out.bd hrr (by omega) HI.out.sz)
      clear hc
      gi_wp2_with (first
        | (refine ⟨trivial, ?_⟩; gi_at_call 104; refine (CallsIn.inRound l (callsIn_wide.2 (HCT.out _))).mono ?_; rintro e w' ⟨rfl, rfl⟩)
        | (refine ⟨trivial, ?_⟩; gi_at_call 105; refine (CallsIn.inRound l (callsIn_wide.2 HWR.out)).mono ?_; rintro e W2 ⟨⟨kk, rfl⟩, hbd2, hb2, hk2, ho2⟩))
      have hsb2 := bx_but HI.out.sb hk2 (by decide) (by decide)
      exact ⟨ho2.from _, hsb2.cell.trans c4.symm, ⟨by rw [HN.out]; exact hbd2, hsb2, Nat.le_trans HI.out.sz hb2.size⟩, HB.out.trans hb2⟩
    · rw [hc] at HCT HSN
      have HN := Lib.hid (show encL (plX (pre ++ [⟨(o, r), hx⟩])) = encL (plX pre) ++ encU 32 from by rw [HSN.out]; exact encL_snoc _ _)
      have HWR := Lib.hid (show Calls Tryz.prog 105 #[.pointer (some ⟨w.heap.size, 0, none⟩), .int .i32 32] W _ from bld_rune w.heap.size w.heap.size (encL (plX pre)) 32 W HI.out.bd ⟨by omega, by omega⟩ (by omega) HI.out.sz)
      clear hc
      gi_wp2_with (first
        | (refine ⟨trivial, ?_⟩; gi_at_call 104; refine (CallsIn.inRound l (callsIn_wide.2 (HCT.out _))).mono ?_; rintro e w' ⟨rfl, rfl⟩)
        | (refine ⟨trivial, ?_⟩; gi_at_call 105; refine (CallsIn.inRound l (callsIn_wide.2 HWR.out)).mono ?_; rintro e W2 ⟨⟨kk, rfl⟩, hbd2, hb2, hk2, ho2⟩))
      have hsb2 := bx_but HI.out.sb hk2 (by decide) (by decide)
      exact ⟨ho2.from _, hsb2.cell.trans c4.symm, ⟨by rw [HN.out]; exact hbd2, hsb2, Nat.le_trans HI.out.sz hb2.size⟩, HB.out.trans hb2⟩
  case done =>
    rintro D ys W hD hS ⟨hI, hB⟩ hK
    rw [HLP.out] at hS
    have HPX := Lib.hid (plX_all hS)
    have hbd := hI.bd
    rw [HPX.out] at hbd
    have hsz := hI.sz
    have hcl := encL_le4 (clrR (runesOf RL))
    have hcl2 : (clrR (runesOf RL)).length = (runesOf RL).length := by unfold clrR; rw [List.length_map]
    have HT1 := Lib.hid (fun wx => asc_trim (ofL (encL (clrR (runesOf RL)))) wx (by rw [ofL_size]; omega))
    rw [toL_ofL, HTT.out, HTM.out] at HT1
    have hml : (encL (tmR (toL s))).length ≤ 50000000 := by
      rw [← HTM.out, ← HTT.out]
      have h1 : (trimL blkB (encL (clrR (runesOf RL)))).length ≤ (encL (clrR (runesOf RL))).length := by
        obtain ⟨t, ht⟩ := dropR_pre blkB ((encL (clrR (runesOf RL))).dropWhile blkB)
        have h2 := congrArg List.length ht
        have h3 := (List.dropWhile_sublist (l := encL (clrR (runesOf RL))) blkB).length_le
        unfold trimL
        rw [List.length_append] at h2; omega
      omega
    have HTC := Lib.hid (fun wx => u8_trunc (ofL (encL (tmR (toL s)))) (tmR (toL s)) HTR.out (toL_ofL _) wx (by rw [ofL_size]; omega))
    have hc4 := cutR_len (tmR (toL s)) 400
    have HT2 := Lib.hid (fun wx => asc_trim (ofL (encL (cutR 400 (tmR (toL s))))) wx (by rw [ofL_size]; omega))
    rw [toL_ofL, HCR.out, HTW.out, ← HPF.out] at HT2
    have HBB := Lib.hid hB; have HK := Lib.hid hK
    clear hI0 hBX hbx hI hB hK
    generalize encL (clrR (runesOf RL)) = CL at *
    generalize encL (cutR 400 (tmR (toL s))) = CC at *
    generalize encL (tmR (toL s)) = TC at *
    have HT1 := Lib.hid (show ∀ wx, Calls Tryz.prog 107 #[.string ⟨CL.toArray⟩] wx _ from HT1.out)
    gi_wp2_with (refine ⟨trivial, ?_⟩; gi_at_call 49; refine (callsIn_wide.2 (Tryz.Builder_String_any_k _ _ _ _ (Lib.IsBuilderF.of hbd) hsz)).mono ?_; rintro e w2 ⟨rfl, _, hb2, hok2⟩)
    have hK2 := hok2 D _ HK.out (by simp; omega) (fun c fz e => by cases e)
    gi_wp2_with (refine ⟨trivial, ?_⟩; gi_at_call 107; refine (callsIn_wide.2 (HT1.out _)).mono ?_; rintro e w' ⟨rfl, rfl⟩)
    gi_wp2_with (refine ⟨trivial, ?_⟩; gi_at_call 106; refine (callsIn_wide.2 (HTC.out _)).mono ?_; rintro e w3 ⟨rfl, hb3⟩)
    gi_wp2_with (refine ⟨trivial, ?_⟩; gi_at_call 107; refine (callsIn_wide.2 (HT2.out _)).mono ?_; rintro e w' ⟨rfl, rfl⟩)
    have hK3 := (hb3.block D (heap_lt hK2)).trans hK2
    have hBB := ((HBB.out.trans (hb2.mono (by omega))).trans (hb3.mono (Nat.le_trans hsz hb2.size))).trans (belowK_b (w := w) (Nat.le_refl _) w3 D _ (.deferred none) (by omega) hK3 rfl rfl)
    refine ⟨by simp, .inl ⟨_, _, rfl, run_takeDeferred hK3, ?_⟩⟩
    exact ⟨.string (ofL (plnF (toL s))), by simp [results, Tryz.f73, go_sem], rfl, hBB⟩
  case stop =>
    rintro D c pre W _ _ h _
    exact h.elim
end Go.Proofs.YtghjgbkhhoaebaaGreatDoor
