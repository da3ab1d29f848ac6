/- Lemmas and walks, part 16. -/
import Derived.Test.YtghjgbkhhoaebaaGreatDoorPo13
import Derived.Test.YtghjgbkhhoaebaaGreatDoorPo11
import Derived.Test.YtghjgbkhhoaebaaGreatDoorPo15
import Derived.Lib.ConvBytes
import Derived.Deep.DeepCutAuto
import Derived.Deep.DeepMust
import Derived.Test.YtghjgbkhhoaebaaGreatDoorPo5
import Derived.Test.YtghjgbkhhoaebaaGreatDoorPo9
import Derived.Test.YtghjgbkhhoaebaaGreatDoorPo10
import Derived.Test.YtghjgbkhhoaebaaGreatDoorPo6
import Derived.Test.YtghjgbkhhoaebaaGreatDoorPo12
import Derived.Test.YtghjgbkhhoaebaaGreatDoorPo7
namespace Go.Proofs.YtghjgbkhhoaebaaGreatDoor
set_option linter.unusedSimpArgs false
set_option linter.unusedVariables false
open Go.RowKit
open Go.Lib (decDigits)

theorem el_u8 : Elem Tryz.prog 89 5 1 1 := Elem.of Tryz.underlying89 (z := .int .u8 0) (by kernel_rfl) rfl (by omega)
/-- A row of bytes of the call's own. -/
structure BytO (w wr : World) (v : Value) (l : List UInt8) : Prop where
  own : wr.ownsRow w.heap.size 5 1 v l.length (bytesV l)
  bel : Below w.heap.size w wr
theorem byt_push {w wr w3 : World} {v : Value} {l : List UInt8} {c : UInt8} {g cap : Nat} (h : BytO w wr v l) (hown : w3.ownsRow w.heap.size 5 1 (.slice (some ⟨g, 0, none⟩) (l.length + 1) cap) (l.length + 1) (bytesV l ++ (#[u8 c] : Array Value).toList)) (hg : wr.grownBy w3 v.ownBlock) :
    BytO w w3 (.slice (some ⟨g, 0, none⟩) (l.length + 1) cap) (l ++ [c]) :=
  ⟨by simpa [bytesV] using hown, h.bel.grown hg h.bel.size (fun k hk => (h.own.lt k hk).1)⟩
theorem BytO.later {w wr w' : World} {v : Value} {l : List UInt8} (h : BytO w wr v l) (hb : Below wr.heap.size wr w') : BytO w w' v l := ⟨own_below h.own hb, h.bel.trans (hb.mono h.bel.size)⟩
theorem conv_byt (T : TypeId) (hT : Tryz.prog.underlying T = some .string) {w : World} {base : Nat} {v : Value} {l : List UInt8} (h : w.ownsRow base 5 1 v l.length (bytesV l)) : (convert 89 T v).run Tryz.prog w = .ok (.string (ofL l)) w := by
  rcases own_form h with ⟨rfl, h0⟩ | ⟨g, cap, rfl, _, _, _, hc⟩
  · have : l = [] := List.eq_nil_of_length_eq_zero h0
    subst this
    rw [run_convert_bytes_string w _ _ 5 none 0 0 Tryz.underlying89 Tryz.underlying5 hT]
    rfl
  · refine run_convert_bytes_back (P := Tryz.prog) w 89 T 5 ⟨g, 0, none⟩ cap l Tryz.underlying89 Tryz.underlying5 hT (fun j hj => ?_)
    have : (⟨g, 0, none⟩ : Addr).add j = ⟨g, j, none⟩ := by
      unfold Addr.add; split
      · rename_i h; subst h; rfl
      · simp
    rw [this]
    exact hc j _ (by simp [hj])
theorem keep_snoc : ∀ (L acc : Bs) (c : UInt8), keepN acc (L ++ [c]) = if isLetter (num c) || (!(keepN acc L).isEmpty && inN c) then keepN acc L ++ [c] else keepN acc L
  | [], acc, c => by simp [keepN]
  | x :: L, acc, c => by
    rw [List.cons_append, keepN, keepN]
    exact keep_snoc L _ c
theorem keep_le (L : Bs) : (keepN [] L).length ≤ L.length := by have := keep_len L []; simpa using this
/-- The base's bytes, in a row that holds still. -/
def BytR (w wr : World) (v : Value) (l : Bs) : Prop := ∃ g cap, v = .slice (some ⟨g, 0, none⟩) l.length cap ∧ l.length ≤ cap ∧ Row wr (some ⟨g, 0, none⟩) (bytesV l) ∧ Below w.heap.size w wr
theorem BytO.reads {w wr : World} {v : Value} {l : Bs} (h : BytO w wr v l) (hl : 0 < l.length) : BytR w wr v l := by
  obtain ⟨g, cap, rfl, hc, hg⟩ := own_pos h.own hl
  obtain ⟨A, c, e, hr⟩ := own_row h.own
  injection e with e1 e2 e3
  subst e1; subst e3
  exact ⟨g, cap, rfl, hc, hr, h.bel⟩
theorem byt_new {w wr : World} (hb : Below w.heap.size w wr) (l : Bs) (fr : Nat × Nat) : BytR w (wr.alloc (.cells (bytesV l).toArray 5 fr)) (.slice (some ⟨wr.heap.size, 0, none⟩) l.length l.length) l :=
  ⟨_, _, rfl, Nat.le_refl _, Row.mk _ _ _ _ (by simp) fun j v hv => by rw [World.cell?_alloc_mark]; simpa using hv, hb.alloc hb.size _⟩
theorem conv_row (T : TypeId) (hT : Tryz.prog.underlying T = some .string) {w : World} {g : Nat} (cap : Nat) {l : Bs} (h : Row w (some ⟨g, 0, none⟩) (bytesV l)) (k : Nat) (hk : k ≤ l.length) : (convert 89 T (.slice (some ⟨g, 0, none⟩) k cap)).run Tryz.prog w = .ok (.string (ofL (l.take k))) w := by
  have hlen : (l.take k).length = k := by rw [List.length_take]; omega
  have := run_convert_bytes_back (P := Tryz.prog) w 89 T 5 ⟨g, 0, none⟩ cap (l.take k) Tryz.underlying89 Tryz.underlying5 hT (fun j hj => by
    have hj2 : j < l.length := by omega
    have e : (⟨g, 0, none⟩ : Addr).add j = ⟨g, j, none⟩ := by
      unfold Addr.add; split
      · rename_i h; subst h; rfl
      · simp
    obtain ⟨b, off, e1, hc⟩ := h.cell (k := j) (by simpa using hj2)
    simp only [Option.some.injEq, Addr.mk.injEq] at e1
    obtain ⟨rfl, rfl, _⟩ := e1
    rw [e]
    rw [Nat.zero_add] at hc
    rw [hc, List.getElem_map, List.getElem_take])
  rw [hlen] at this
  exact this
theorem nth_len (b : Bs) {n : Nat} (hn : n < 100000) : (nthN b n).length ≤ 21 := by
  have := dec_len_lt 4 n (by simpa using hn)
  unfold nthN
  split <;> simp <;> omega
theorem taken_mem {l ps : List Bs} {s : Bs} (h : ∀ x, x ∈ ps ↔ x ∈ l.map lowerL) : decide (lowerL s ∈ ps) = takenB s l := by
  unfold takenB
  rw [Bool.eq_iff_iff, decide_eq_true_iff, h, List.any_eq_true, List.mem_map]
  simp
/-- What Nick gives. -/
def nickF (name : Bs) (l : List Bs) : Bs × Int := if 1000 < l.length then ([], 9) else (chooseN name l, 0)
theorem take_byteN (s : ByteArray) (k : Nat) (h : k < s.size) : (toL s).take (k + 1) = (toL s).take k ++ [s[k]'h] := by
  have hl : k < (toL s).length := by rw [toL_length]; exact h
  rw [List.take_succ_eq_append_getElem hl, toL_getElem s k h]
theorem run_mkm (T K E : TypeId) (hT : Tryz.prog.underlying T = some (.map K E)) (w : World) (n : Int) : (Instr.makeMap T (some (.int .i64 n))).run Tryz.prog w = .ok (.map (some w.heap.size)) (w.alloc (.map #[] 0)) := by
  simp [Instr.makeMap, newObj, Sem.run_bind, run_underlying hT, asInt]
  rfl

set_option maxHeartbeats 8000000 in
set_option maxRecDepth 100000 in
theorem gw_nick (name : ByteArray) (A : Option Addr) (l : List Bs) (c : Nat) (w : World) (ht : TabN w) (hr : Row w A (strsL l)) (hn : name.size ≤ 1000) (hl : l.length ≤ 1000000) (hx : ∀ x ∈ l, x.length ≤ maxLen) :
    Calls Tryz.prog 33 #[.string name, .slice A l.length c] w fun e w' => e = .returned (.tuple #[.string (ofL (nickF (toL name) l).1), .int .i64 (nickF (toL name) l).2]) ∧ Below w.heap.size w w' := by
  have HT := Lib.hid ht; have HR := Lib.hid hr; have HX := Lib.hid hx; clear ht hr hx
  by_cases h1 : 1000 < l.length
  · have h1' : (1000 : Int) < (l.length : Int) := by omega
    have HV := Lib.hid (show nickF (toL name) l = ([], 9) from by unfold nickF; rw [if_pos h1])
    clear h1
    go_enter Tryz.func33, Tryz.ntmps33
    go_wp2_with fail
    go_ret2
    exact ⟨by rw [HV.out]; rfl, Below.refl _ _⟩
  · have h1' : (l.length : Int) ≤ 1000 := by omega
    have HV := Lib.hid (show nickF (toL name) l = (chooseN (toL name) l, 0) from by unfold nickF; rw [if_neg h1])
    have HKL := Lib.hid (fun k => keep_le ((toL name).take k))
    go_enter Tryz.func33, Tryz.ntmps33
    go_wp2_with fail
    go_loopw [20, 6, 7, 8] (fun v20 v6 _ _ wr => ∃ k : Nat, k ≤ name.size ∧ v20 = .int .i64 (k : Int) ∧ BytO w wr v6 (keepN [] ((toL name).take k))) (fun v20 _ _ _ _ => name.size - (intOf v20).toNat)
    case atStart => exact ⟨0, by omega, rfl, World.ownsRow_nil _ _ _ _, Below.refl _ _⟩
    case round =>
      obtain ⟨k, hk, rfl, hb⟩ := hrel
      have HB := Lib.hid hb
      have k0 : (0 : Int) ≤ (k : Int) := by omega
      by_cases hlt : k < name.size
      · have k1 : (k : Int) < (name.size : Int) := by omega
        have HST := Lib.hid (show keepN [] ((toL name).take (k + 1)) = _ from by rw [take_byteN name k hlt, keep_snoc, inN_num])
        have hkl := HKL.out k
        rw [List.length_take] at hkl
        generalize keepN [] ((toL name).take k) = acc at *
        obtain ⟨A6, c6, rfl, hr6⟩ := own_row hb.own
        have hown := HB.out.own
        have hsz := HB.out.bel.size
        have hae : ((acc.length : Int) > 0 ∧ acc.isEmpty = false) ∨ ((acc.length : Int) ≤ 0 ∧ acc.isEmpty = true) := by
          cases acc with
          | nil => exact .inr ⟨by simp, rfl⟩
          | cons a r => exact .inl ⟨by simp, rfl⟩
        clear hb hr6
        rcases hil : isLetter (num (name[k]'hlt)) with _ | _
        all_goals rcases hin : inNI (num (name[k]'hlt)) with _ | _
        all_goals rcases hae with ⟨ha1, ha2⟩ | ⟨ha1, ha2⟩
        all_goals
          have HL1 := Lib.hid hil; have HI1 := Lib.hid hin
          rw [hil, hin, ha2] at HST
          clear hil hin ha2
          go_wp2_with (first | (go_at_call 61; (with_reducible refine (asc_isLetter _ _).mono ?_); rintro e w' ⟨rfl, rfl⟩; rw [HL1.out]) | (go_at_call 62; (with_reducible refine (gw_inNick _ _).mono ?_); rintro e w' ⟨rfl, rfl⟩; rw [HI1.out]) | (at_builtin; (refine wpList_push el_u8 rfl _ _ rfl hown #[.int .u8 (num (name[k]'hlt))] rfl rfl rfl (by simp [Value.oneCell']) (by omega) (by unfold maxLen; omega) hsz ?_); intro g cap w3 hown3 hg3 hat3))
          first
            | (go_roundw
               case rel => exact ⟨k + 1, by omega, by go_num, by rw [HST.out]; exact byt_push HB.out hown3 hg3⟩
               case measure => simp [intOf] <;> omega)
            | (go_roundw
               case rel => exact ⟨k + 1, by omega, by go_num, by rw [HST.out]; exact HB.out⟩
               case measure => simp [intOf] <;> omega)
      · obtain rfl : k = name.size := by omega
        have k1 : (name.size : Int) ≤ (name.size : Int) := by omega
        have hall : (toL name).take name.size = toL name := List.take_of_length_le (by rw [toL_length]; exact Nat.le_refl _)
        rw [hall] at hb HB
        have hkl := keep_le (toL name)
        rw [toL_length] at hkl
        have HBL := Lib.hid (base_len (toL name))
        have HLN := Lib.hid (toL_length name)
        have HBN := Lib.hid (show baseN (toL name) = if keepN [] (toL name) = [] then [103, 117, 101, 115, 116] else keepN [] (toL name) from rfl)
        obtain ⟨A6, c6, rfl, hr6⟩ := own_row hb.own
        go_upto_if 44 with fail
        go_cut [6] (fun s6 wx => BytR w wx s6 (baseN (toL name)))
        case first =>
          rcases hK : keepN [] (toL name) with _ | ⟨x, r⟩
          · rw [hK] at HBN HB
            have HQ := Lib.hid (HBN.out.trans (if_pos rfl))
            clear hb hr6 hK hkl HBN
            have kc := fun (wx : World) (C : Array Value) => Lib.run_convert_bytes_const (P := Tryz.prog) wx 89 5 C 5 5 Tryz.underlying89 Tryz.underlying5
            go_wp2_with fail
            go_meet
            case rel =>
              rw [HQ.out]
              exact byt_new HB.out.bel [103, 117, 101, 115, 116] (5, 6)
          · rw [hK] at HBN HB
            have HQ := Lib.hid (HBN.out.trans (if_neg (by simp)))
            have hl2 : (0 : Int) < ((x :: r).length : Int) := by simp
            have HL2 := Lib.hid hl2
            clear hb hr6 hK hkl HBN
            generalize x :: r = acc at *
            go_wp2_with fail
            go_meet
            case rel => rw [HQ.out]; exact HB.out.reads (by have := HL2.out; omega)
        case rest =>
          clear hb hr6 HB HBN HKL hkl hall
          have HB := Lib.hid hcut
          clear hcut
          have hmk := run_mkm 106 9 4 Tryz.underlying106
          obtain ⟨B, hB⟩ : ∃ B, B = baseN (toL name) := ⟨_, rfl⟩
          have HBE := Lib.hid hB
          have hbl := HBL.out
          rw [HLN.out] at hbl
          rw [← hB] at HB hbl
          have hbp : 0 < B.length := by
            obtain ⟨x, r, e, _⟩ := base_ok (toL name)
            rw [hB, e]; simp
          clear hB HBL
          obtain ⟨g, cap, rfl, hcap, hrow, hbel⟩ := HB.out
          have HRB := Lib.hid hrow; have HBB := Lib.hid hbel; clear HB hrow hbel
          go_upto_region 14 with fail
          have hst : StrMap (wc.alloc (.map #[] 0)) wc.heap.size [] := ⟨#[], 0, heap_alloc_new _ _, rfl⟩
          have HW1 := Lib.hid (show Below wc.heap.size wc (wc.alloc (.map #[] 0)) from (Below.refl _ _).alloc (Nat.le_refl _) _)
          generalize wc.alloc (.map #[] 0) = w2 at *
          clear hmk
          have HS2 := Lib.hid hst
          clear hst
          go_upto_region 15 with fail
          go_loopw [52, 11] (fun v52 _ wr => ∃ k : Nat, k ≤ l.length ∧ v52 = .int .i64 (k : Int) ∧ ∃ ps, StrMap wr wc.heap.size ps ∧ (∀ x, x ∈ ps ↔ x ∈ (l.take k).map lowerL) ∧ Below wc.heap.size wc wr) (fun v52 _ _ => l.length - (intOf v52).toNat)
          case atStart => exact ⟨0, by omega, rfl, [], HS2.out, by simp, HW1.out⟩
          case round =>
            obtain ⟨k, hk, rfl, ps, hsm, hps, hbl2⟩ := hrel
            have HSM := Lib.hid hsm; have HPS := Lib.hid hps; have HBL2 := Lib.hid hbl2
            clear hsm hps hbl2
            have k0 : (0 : Int) ≤ (k : Int) := by omega
            by_cases hlt : k < l.length
            · have k1 : (k : Int) < (l.length : Int) := by omega
              have HRW : Row wr A (strsL l) := HR.out.below (HBB.out.trans (HBL2.out.mono HBB.out.size))
              obtain ⟨bb, off, rfl, hcell⟩ := HRW.cell (k := k) (by simpa using hlt)
              rw [List.getElem_map] at hcell
              have HM := Lib.hid (HX.out l[k] (List.getElem_mem hlt))
              have HTK := Lib.hid (show l.take (k + 1) = l.take k ++ [l[k]] from List.take_succ_eq_append_getElem hlt)
              generalize l[k] = y at *
              clear HRW
              go_wp2_with ((go_at_call 72; (with_reducible refine (asc_lower (ofL y) wr (by rw [ofL_size]; exact HM.out)).mono ?_); rintro e w4 ⟨rfl, hb4⟩; rw [toL_ofL]; obtain ⟨w5, qs, hput, hsm5, hmem5, hg5⟩ := StrMap.put (M := 106) Tryz.underlying9 Tryz.underlying106 (HSM.out.below hb4) (ofL (lowerL y))))
              have HP5 := Lib.hid (⟨hsm5, hmem5, hg5, hb4⟩ : _ ∧ _ ∧ _ ∧ _)
              clear hsm5 hmem5 hg5 hb4 hput
              go_roundw
              case rel =>
                obtain ⟨g1, g2, g3, g4⟩ := HP5.out
                have hz := HBL2.out.size
                refine ⟨k + 1, by omega, by go_num, qs, g1, fun x => ?_, (HBL2.out.trans (g4.mono hz)).grown g3 (by have := g4.size; omega) (fun k hk => by simp at hk; omega)⟩
                rw [g2, HPS.out, HTK.out, toL_ofL]
                simp
              case measure => simp [intOf] <;> omega
            · obtain rfl : k = l.length := by omega
              have k1 : (l.length : Int) ≤ (l.length : Int) := by omega
              have HPL := Lib.hid (show ∀ x, x ∈ ps ↔ x ∈ l.map lowerL from fun x => by rw [HPS.out, List.take_of_length_le (Nat.le_refl _)])
              have HTW := Lib.hid (HT.out.below (HBB.out.trans (HBL2.out.mono HBB.out.size)))
              have HRW := Lib.hid (HRB.out.below HBL2.out)
              have HWW := Lib.hid (HBB.out.trans (HBL2.out.mono HBB.out.size))
              have hzz := HBL2.out.size
              clear HPS HRB HBB HBL2 HT HR HX HS2 HW1
              obtain ⟨w0, rfl⟩ : ∃ w0 : World, w0 = wr := ⟨_, rfl⟩
              have hcv := conv_row 9 Tryz.underlying9 cap HRW.out ((min (B.length : Int) 16).toNat) (by omega)
              rw [show B.take ((min (B.length : Int) 16).toNat) = nthN B 1 from by
                unfold nthN; rw [if_pos (by omega)]
                rcases Nat.le_total B.length 16 with h | h
                · rw [show (min (B.length : Int) 16).toNat = B.length from by omega, List.take_of_length_le (Nat.le_refl _), List.take_of_length_le h]
                · rw [show (min (B.length : Int) 16).toNat = 16 from by omega]] at hcv
              go_upto_region 21 with fail
              obtain ⟨F, hF⟩ : ∃ F, F = firstN B l 3000 1 := ⟨_, rfl⟩
              obtain ⟨f1, f2, f3, f4⟩ := choose_free B l (by omega)
              rw [← hF] at f1 f2 f3 f4
              have HF1 := Lib.hid f1; have HF4 := Lib.hid f4
              have HFC := Lib.hid (show chooseN (toL name) l = nthN B F from by unfold chooseN; rw [hF, HBE.out])
              clear hF hcv f1 f4
              go_loopw [12, 13, 14] (fun v12 v13 _ wr => ∃ n : Nat, 2 ≤ n ∧ v13 = .int .i64 (n : Int) ∧ v12 = .string (ofL (nthN B (n - 1))) ∧ (∀ k, 1 ≤ k → k < n - 1 → takenB (nthN B k) l = true) ∧ Below w0.heap.size w0 wr) (fun _ v13 _ _ => 3000 - (intOf v13).toNat)
              case atStart => exact ⟨2, by omega, rfl, rfl, fun k h1 h2 => by omega, Below.refl _ _⟩
              case round =>
                obtain ⟨n, hn2, rfl, rfl, hall, hbx⟩ := hrel
                have hnF : n ≤ F + 1 := by
                  rcases Nat.lt_or_ge (F + 1) n with h | h
                  · have := hall F f2 (by omega); rw [HF1.out] at this; cases this
                  · exact h
                have HAL := Lib.hid hall; have HBX := Lib.hid hbx
                clear hall hbx
                have hn0 : (0 : Int) ≤ (n : Int) := by omega
                have hnb : (n : Int) ≤ 2001 := by omega
                have hln : (nthN B (n - 1)).length ≤ 1000000 := Nat.le_trans (nth_len B (by omega)) (by omega)
                have HLO := Lib.hid (fun wx => asc_lower (ofL (nthN B (n - 1))) wx (by rw [ofL_size]; unfold maxLen; omega))
                rw [toL_ofL] at HLO
                have HLK := Lib.hid (fun wx (hx : Below wr.heap.size wr wx) => StrMap.look (M := 106) (E := 4) Tryz.underlying9 Tryz.underlying106 (fun w => by rfl) ((HSM.out.below HBX.out).below hx) (ofL (lowerL (nthN B (n - 1)))))
                have hmem : decide (toL (ofL (lowerL (nthN B (n - 1)))) ∈ ps) = takenB (nthN B (n - 1)) l := by
                  rw [toL_ofL]; exact taken_mem HPL.out
                simp only [hmem] at HLK
                clear hmem
                have HCV := Lib.hid (fun (wx : World) (hx : Below w0.heap.size w0 wx) (d : Int) (h0 : 0 ≤ d) (h1 : d ≤ 16) => conv_row 9 Tryz.underlying9 cap (HRW.out.below hx) ((min (B.length : Int) (16 - d)).toNat) (by omega))
                have HNX := Lib.hid (show nthN B (n + 1 - 1) = B.take (16 - (decDigits n).length) ++ decDigits n from by
                  rw [Nat.add_sub_cancel]; unfold nthN; rw [if_neg (by omega)])
                have HTC := Lib.hid (show B.take ((min (B.length : Int) (16 - ((ofL (decDigits n)).size : Int))).toNat) = B.take (16 - (decDigits n).length) from by
                  rw [ofL_size]
                  have := dec_len_lt 4 n (by omega)
                  rcases Nat.le_total B.length (16 - (decDigits n).length) with h | h
                  · rw [show (min (B.length : Int) (16 - ((decDigits n).length : Int))).toNat = B.length from by omega, List.take_of_length_le (Nat.le_refl _), List.take_of_length_le h]
                  · rw [show (min (B.length : Int) (16 - ((decDigits n).length : Int))).toNat = 16 - (decDigits n).length from by omega])
                have HDL := Lib.hid (show (decDigits n).length ≤ 5 from dec_len_lt 4 n (by omega))
                rcases htk : takenB (nthN B (n - 1)) l with _ | _
                · rw [htk] at HLK
                  have hnF2 : F = n - 1 := by
                    rcases Nat.lt_or_ge (n - 1) F with h | h
                    · have := HF4.out (n - 1) (by omega) h; rw [htk] at this; cases this
                    · omega
                  have HFF := Lib.hid hnF2
                  clear htk hnF2
                  generalize hnk : nthN B (n - 1) = nk at *
                  have HNK := Lib.hid hnk
                  clear hnk
                  go_wp2_with ((go_at_call 72; (with_reducible refine (HLO.out _).mono ?_); rintro e w4 ⟨rfl, hb4⟩; have hlk := HLK.out w4 hb4))
                  go_ret2
                  exact ⟨by rw [HV.out, HFC.out, HFF.out, HNK.out]; rfl, HWW.out.trans ((HBX.out.trans (hb4.mono HBX.out.size)).mono HWW.out.size)⟩
                · rw [htk] at HLK
                  have HTK := Lib.hid htk
                  clear htk
                  obtain ⟨nk, hnk⟩ : ∃ nk, nk = nthN B (n - 1) := ⟨_, rfl⟩
                  rw [← hnk] at HLO HLK hln ⊢
                  clear hnk
                  go_wp2_with (first | (go_at_call 72; (with_reducible refine (HLO.out _).mono ?_); rintro e w4 ⟨rfl, hb4⟩; have hlk := HLK.out w4 hb4) | (go_at_call 48; (with_reducible refine (asc_digits n (by omega) _ (HTW.out.below ((HBX.out).trans (hb4.mono HBX.out.size)))).mono ?_); rintro e w5 ⟨rfl, hb5⟩; go_must (have hsz : (ofL (decDigits n)).size ≤ 5 := (by rw [ofL_size]; exact HDL.out); have hcv := HCV.out w5 ((HBX.out.trans (hb4.mono HBX.out.size)).trans (hb5.mono (Nat.le_trans HBX.out.size hb4.size))) ((ofL (decDigits n)).size : Int) (by omega) (by omega); rw [HTC.out] at hcv; have htl : (ofL (B.take (16 - (decDigits n).length))).size ≤ 16 := (by rw [ofL_size, List.length_take]; omega))))
                  have HB6 := Lib.hid ((HBX.out.trans (hb4.mono HBX.out.size)).trans (hb5.mono (Nat.le_trans HBX.out.size hb4.size)))
                  clear hcv hsz htl hb4 hb5
                  go_roundw
                  case rel =>
                    refine ⟨n + 1, by omega, by go_num, by rw [HNX.out, ofL_append], fun k h1 h2 => ?_, HB6.out⟩
                    rcases Nat.lt_or_ge k (n - 1) with h | h
                    · exact HAL.out k h1 h
                    · rw [show k = n - 1 from by omega]; exact HTK.out
                  case measure => simp [intOf] <;> omega
end Go.Proofs.YtghjgbkhhoaebaaGreatDoor

namespace Go.Proofs.YtghjgbkhhoaebaaGreatDoor
set_option linter.unusedSimpArgs false
set_option linter.unusedVariables false
open Go.RowKit

/-- The greatest code points of one to four bytes. -/
def TabB (w : World) : Prop := Lib.TabIs Tryz.prog w "bulletin/utf8.bounds" .i32 [127, 2047, 65535, 1114111]
theorem TabB.below {w w' : World} (h : TabB w) (hb : Below w.heap.size w w') : TabB w' := Lib.tabBelow_of_tabIs h w' hb
theorem TabB.at {w : World} (h : TabB w) (i : Nat) (hi : i < 4) : w.cell? ⟨1, i, none⟩ = some (.int .i32 (([127, 2047, 65535, 1114111] : List Int).getD i 0)) := Lib.TabIs.cell h (by kernel_rfl) i hi
theorem made_oneV {v : Value} (hv : v.cells = #[v]) (n : Nat) : madeCells v.cells n = (List.replicate n v).toArray := by
  rw [hv]
  apply Array.ext'
  apply List.ext_getElem
  · simp [madeCells]
  · intro k h1 h2
    have : k % 1 = 0 := by omega
    simp [madeCells, this]
theorem mk_3 (w : World) : (Instr.makeSlice 89 (.int .i64 3) (.int .i64 3)).run Tryz.prog w = .ok (.slice (some ⟨w.heap.size, 0, none⟩) 3 3) (w.alloc (.cells #[.int .u8 0, .int .u8 0, .int .u8 0] 5)) := by
  obtain ⟨i, hi', h0, h1, h2⟩ := info_parts (show (Tryz.prog.info? 5).map (fun i => (i.zero, i.size, i.bytes)) = some (some (.int .u8 0), 1, 1) by kernel_rfl)
  rw [run_makeSlice (P := Tryz.prog) w 89 5 i (.int .u8 0) Tryz.underlying89 hi' h0 .i64 .i64 3 3 (by omega) (by omega) (by rw [h1]; simp) (by rw [h2]; simp) (by omega), h1]
  simp only [Int.reduceToNat, Nat.mul_one]
  rw [made_oneV rfl]
  rfl
theorem box3v {w : World} {r : Nat} {a b c : Value} {t : TypeId} (h : w.heap[r]? = some (.cells #[a, b, c] t (0, 0))) : w.cell? ⟨r, 0, none⟩ = some a ∧ w.cell? ⟨r, 1, none⟩ = some b ∧ w.cell? ⟨r, 2, none⟩ = some c ∧ r < w.heap.size :=
  ⟨by rw [Lib.cell_of_heap h]; rfl, by rw [Lib.cell_of_heap h]; rfl, by rw [Lib.cell_of_heap h]; rfl, heap_lt h⟩
theorem box3f {w : World} {r : Nat} {a b c : Value} {t : TypeId} (h : w.heap[r]? = some (.cells #[a, b, c] t (0, 0))) : w.frozen? ⟨r, 0, none⟩ = false ∧ w.frozen? ⟨r, 1, none⟩ = false ∧ w.frozen? ⟨r, 2, none⟩ = false :=
  ⟨Lib.frozen_of_heap h 0, Lib.frozen_of_heap h 1, Lib.frozen_of_heap h 2⟩
set_option maxHeartbeats 8000000 in
set_option maxRecDepth 100000 in
theorem u8_encR (w : World) (ht : TabB w) : Calls Tryz.prog 125 #[.int .i32 65533] w fun e w' => e = .returned (.tuple #[.string ⟨#[239, 191, 189]⟩, .int .i64 0]) ∧ Below w.heap.size w w' := by
  have b0 := ht.at 0 (by omega)
  have b1 := ht.at 1 (by omega)
  have b2 := ht.at 2 (by omega)
  have b3 := ht.at 3 (by omega)
  simp only [List.getD_cons_zero, List.getD_cons_succ] at b0 b1 b2 b3
  go_enter Tryz.func125, Tryz.ntmps125
  go_wp2_with fail
  go_loop [4] (fun v => v = .int .i64 2 ∨ v = .int .i64 3) (fun v => 4 - (intOf v).toNat)
  case atStart => exact .inl rfl
  case round =>
    rcases hrel with rfl | rfl
    · go_wp2_with fail
      go_round
      case rel => exact .inr rfl
      case measure => simp [intOf]
    · have hmk : ∀ wx : World, (Instr.makeSlice 89 (.int .i64 3) (.int .i64 3)).run Tryz.prog wx = .ok (.slice (some ⟨wx.heap.size, 0, none⟩) 3 3) (wx.alloc (.cells #[.int .u8 0, .int .u8 0, .int .u8 0] 5)) := mk_3
      go_upto_region 9 with fail
      have HC := Lib.hid (heap_alloc_new w (.cells #[.int .u8 0, .int .u8 0, .int .u8 0] 5))
      have HB := Lib.hid (show Below w.heap.size w (w.alloc (.cells #[.int .u8 0, .int .u8 0, .int .u8 0] 5)) from (Below.refl _ _).alloc (Nat.le_refl _) _)
      generalize w.alloc (.cells #[.int .u8 0, .int .u8 0, .int .u8 0] 5) = W at *
      clear hmk
      go_upto_region 10 with fail
      go_loopw [0, 6] (fun v0 v6 wr => ((v6 = .int .i64 2 ∧ v0 = .int .i32 65533 ∧ wr.heap[w.heap.size]? = some (.cells #[.int .u8 0, .int .u8 0, .int .u8 0] 5 (0, 0))) ∨ (v6 = .int .i64 1 ∧ v0 = .int .i32 1023 ∧ wr.heap[w.heap.size]? = some (.cells #[.int .u8 0, .int .u8 0, .int .u8 189] 5 (0, 0))) ∨ (v6 = .int .i64 0 ∧ v0 = .int .i32 15 ∧ wr.heap[w.heap.size]? = some (.cells #[.int .u8 0, .int .u8 191, .int .u8 189] 5 (0, 0)))) ∧ Below w.heap.size w wr) (fun _ v6 _ => (intOf v6).toNat)
      case atStart => exact ⟨.inl ⟨rfl, rfl, HC.out⟩, HB.out⟩
      case round =>
        obtain ⟨hrel, hbw⟩ := hrel
        have HBW := Lib.hid hbw; clear hbw HC HB
        rcases hrel with ⟨rfl, rfl, hc⟩ | ⟨rfl, rfl, hc⟩ | ⟨rfl, rfl, hc⟩
        all_goals
          have HC := Lib.hid hc
          obtain ⟨c0, c1, c2, cz⟩ := box3v hc
          obtain ⟨f0, f1, f2⟩ := box3f hc
          clear hc
        · go_wp2_with fail
          go_roundw
          case rel => exact ⟨.inr (.inl ⟨rfl, rfl, heap_set HC.out (.int .u8 189)⟩), HBW.out.setCell (p := ⟨w.heap.size, 2, none⟩) (Nat.le_refl _) _⟩
          case measure => simp [intOf]
        · go_wp2_with fail
          go_roundw
          case rel => exact ⟨.inr (.inr ⟨rfl, rfl, heap_set HC.out (.int .u8 191)⟩), HBW.out.setCell (p := ⟨w.heap.size, 1, none⟩) (Nat.le_refl _) _⟩
          case measure => simp [intOf]
        · have hc3 := heap_set HC.out (i := 0) (.int .u8 239)
          have hcv := conv_row 9 Tryz.underlying9 3 (w := wr.setCell ⟨w.heap.size, 0, none⟩ (.int .u8 239)) (g := w.heap.size) (l := [239, 191, 189]) (Row.mk _ _ _ _ (heap_lt hc3) fun j v hv => by
            rw [Lib.cell_of_heap hc3, Nat.zero_add]
            rcases j with _ | _ | _ | j
            · exact hv
            · exact hv
            · exact hv
            · simp at hv) 3 (Nat.le_refl _)
          rw [show ([239, 191, 189] : List UInt8).take 3 = [239, 191, 189] from rfl] at hcv
          clear hc3
          have hb1 : bits BinOp.and IntKind.i64 480 255 = 224 := by decide +kernel
          have hb2 : bits BinOp.or IntKind.i64 224 15 = 239 := by decide +kernel
          go_wp2_with fail

          go_ret2
          exact ⟨rfl, HBW.out.setCell (p := ⟨w.heap.size, 0, none⟩) (Nat.le_refl _) _⟩
end Go.Proofs.YtghjgbkhhoaebaaGreatDoor

namespace Go.Proofs.YtghjgbkhhoaebaaGreatDoor
set_option linter.unusedSimpArgs false
set_option linter.unusedVariables false
open Go.RowKit

def szU (r : Nat) : Nat := if r ≤ 127 then 1 else if r ≤ 2047 then 2 else if r ≤ 65535 then 3 else 4
theorem szU_len (r : Nat) : (encU r).length = szU r := by
  unfold encU szU
  split
  · rfl
  · split
    · rfl
    · split <;> rfl
theorem szU_le (r : Nat) : 1 ≤ szU r ∧ szU r ≤ 4 := by unfold szU; split <;> (try split) <;> (try split) <;> omega
theorem most_sz {r n : Nat} (h : r ≤ 1114111) (h1 : 1 ≤ n) (h2 : n ≤ szU r) : (n < szU r → mostU n < r) ∧ (¬ n < szU r → r ≤ mostU n) := by
  have h4 := (szU_le r).2
  rcases (by omega : n = 1 ∨ n = 2 ∨ n = 3 ∨ n = 4) with rfl | rfl | rfl | rfl
  all_goals
    unfold mostU
    simp only [if_true, if_false, Nat.reduceEqDiff]
    unfold szU at h2 ⊢
    constructor
    · intro g
      split at g <;> (try split at g) <;> (try split at g) <;> omega
    · intro g
      split at g <;> (try split at g) <;> (try split at g) <;> omega
set_option maxHeartbeats 2000000 in
set_option maxRecDepth 100000 in
theorem r3_size (r : Nat) (w : World) (hr : r ≤ 1114111) : Calls Tryz.prog 112 #[.int .i64 (r : Int)] w fun e w' => e = .returned (.int .i64 (szU r : Nat)) ∧ Below w.heap.size w w' := by
  have HM := Lib.hid (fun n (h1 : 1 ≤ n) (h2 : n ≤ szU r) => most_sz (r := r) hr h1 h2)
  have h4 := (szU_le r).2
  have h5 := (szU_le r).1
  generalize szU r = N at *
  go_enter Tryz.func112, Tryz.ntmps112
  go_wp2_with fail
  go_loopw [3] (fun v wr => ∃ n : Nat, 1 ≤ n ∧ n ≤ N ∧ v = .int .i64 (n : Int) ∧ Below w.heap.size w wr) (fun v _ => 5 - (intOf v).toNat)
  case atStart => exact ⟨1, by omega, h5, rfl, Below.refl _ _⟩
  case round =>
    obtain ⟨n, hn1, hnN, rfl, hb⟩ := hrel
    have HB := Lib.hid hb; clear hb
    have hkey := HM.out n hn1 hnN
    have HMO := Lib.hid (fun wx => r3_most n wx hn1 (by omega))
    have n0 : (0 : Int) ≤ (n : Int) := by omega
    have n9 : (n : Int) ≤ 4 := by omega
    by_cases hlt : n < N
    · have g := hkey.1 hlt
      clear hkey HM
      generalize mostU n = m at *
      have g1 : (m : Int) < (r : Int) := by omega
      go_wp2_with ((go_at_call 133; (with_reducible refine (HMO.out _).mono ?_); rintro e w2 ⟨rfl, hb2⟩))
      go_roundw
      case rel => exact ⟨n + 1, by omega, by omega, by go_num, HB.out.trans (hb2.mono HB.out.size)⟩
      case measure => simp [intOf] <;> omega
    · have g := hkey.2 hlt
      obtain rfl : n = N := by omega
      clear hkey HM
      generalize mostU n = m at *
      have g1 : (r : Int) ≤ (m : Int) := by omega
      go_wp2_with ((go_at_call 133; (with_reducible refine (HMO.out _).mono ?_); rintro e w2 ⟨rfl, hb2⟩))
      go_ret
      exact ⟨rfl, HB.out.trans (hb2.mono HB.out.size)⟩
/-- The last bytes of an encoding. -/
def tlU (r : Nat) : Nat → List UInt8
  | 0 => []
  | i + 1 => UInt8.ofNat (128 + r / 64 ^ i % 64) :: tlU r i
theorem tlU_len (r i : Nat) : (tlU r i).length = i := by
  induction i with
  | zero => rfl
  | succ i ih => rw [tlU, List.length_cons, ih]
def baseU (n : Nat) : Nat := if n = 2 then 192 else if n = 3 then 224 else 240
theorem encU_head (r : Nat) (h : r ≤ 1114111) (h1 : szU r ≠ 1) : encU r = UInt8.ofNat (baseU (szU r) + r / 64 ^ (szU r - 1)) :: tlU r (szU r - 1) ∧ baseU (szU r) + r / 64 ^ (szU r - 1) < 256 := by
  unfold encU szU at *
  by_cases a1 : r ≤ 127
  · rw [if_pos a1] at h1; exact absurd rfl h1
  · simp only [if_neg a1] at h1 ⊢
    by_cases a2 : r ≤ 2047
    · simp only [if_pos a2, tlU, baseU, Nat.reduceSub, Nat.reducePow, Nat.pow_zero, Nat.div_one, if_true]
      exact ⟨trivial, by omega⟩
    · simp only [if_neg a2] at h1 ⊢
      by_cases a3 : r ≤ 65535
      · simp only [if_pos a3, tlU, baseU, Nat.reduceSub, Nat.reducePow, Nat.pow_zero, Nat.div_one, if_true, Nat.reduceEqDiff, if_false]
        exact ⟨trivial, by omega⟩
      · simp only [if_neg a3, tlU, baseU, Nat.reduceSub, Nat.reducePow, Nat.pow_zero, Nat.div_one, if_true, Nat.reduceEqDiff, if_false]
        exact ⟨trivial, by omega⟩
theorem own_one (w wr : World) (hb : Below w.heap.size w wr) (c : UInt8) : (wr.alloc (.cells #[.int .u8 (c.toNat : Int)] 5)).ownsRow w.heap.size 5 1 (.slice (some ⟨wr.heap.size, 0, none⟩) 1 1) 1 (bytesV [c]) :=
  ⟨by simp, .inr ⟨wr.heap.size, 1, #[.int .u8 (c.toNat : Int)], rfl, hb.size, heap_alloc_new _ _, Nat.le_refl _, by unfold maxLen; omega, rfl, rfl⟩⟩
theorem bytesV_one (l : List UInt8) : ∀ u ∈ bytesV l, u.oneCell' = true := by
  intro u hu
  obtain ⟨c, _, rfl⟩ := List.mem_map.1 hu
  rfl
theorem byt_pour {w wr w3 : World} {v' : Value} {c : UInt8} {T : List UInt8} {o : Obj} (hb : Below w.heap.size w wr) (hown : w3.ownsRow w.heap.size 5 1 v' (1 + T.length) (bytesV [c] ++ bytesV T)) (hg : (wr.alloc o).grownBy w3 (Value.slice (some ⟨wr.heap.size, 0, none⟩) 1 1).ownBlock) : BytO w w3 v' ([c] ++ T) := by
  refine ⟨?_, ?_⟩
  · rw [List.length_append, List.length_singleton, show bytesV ([c] ++ T) = bytesV [c] ++ bytesV T from by simp]; exact hown
  · exact (hb.alloc hb.size o).grown hg (by simp; have := hb.size; omega) (fun k hk => by simp [Value.ownBlock] at hk; have := hb.size; omega)
theorem enc_fin {w W1 w3 : World} {v' : Value} {c : UInt8} {T L : List UInt8} {o : Obj} {b : Nat} (hb : Below w.heap.size w W1) (hL : L = [c] ++ T) (hown : w3.ownsRow w.heap.size 5 1 v' (1 + T.length) (bytesV [c] ++ bytesV T)) (hg : (W1.alloc o).grownBy w3 (Value.slice (some ⟨b, 0, none⟩) 1 1).ownBlock) (hbb : b = W1.heap.size := by simp) :
    ∃ g cap, Ending.returned v' = .returned (.slice (some ⟨g, 0, none⟩) L.length cap) ∧ Row w3 (some ⟨g, 0, none⟩) (bytesV L) ∧ Below w.heap.size w w3 := by
  subst hbb
  have h := byt_pour hb hown hg
  rw [← hL] at h
  obtain ⟨g, cap, e, _⟩ := own_pos h.own (by rw [hL]; simp)
  obtain ⟨A, c2, e2, hr⟩ := own_row h.own
  rw [e] at e2
  injection e2 with e3 e4 e5
  refine ⟨g, cap, by rw [e], ?_, h.bel⟩
  rw [e3]; exact hr
set_option maxHeartbeats 4000000 in
set_option maxRecDepth 100000 in
theorem r3_encode (r : Nat) (w : World) (hr : r ≤ 1114111) : Calls Tryz.prog 81 #[.int .i64 (r : Int)] w fun e w' => ∃ g cap, e = .returned (.slice (some ⟨g, 0, none⟩) (encU r).length cap) ∧ Row w' (some ⟨g, 0, none⟩) (bytesV (encU r)) ∧ Below w.heap.size w w' := by
  have HS := Lib.hid (fun wx => r3_size r wx hr)
  have h4 := (szU_le r).2
  have h5 := (szU_le r).1
  have r0 : (0 : Int) ≤ (r : Int) := by omega
  by_cases h1 : szU r = 1
  · have hr1 : r ≤ 127 := by unfold szU at h1; split at h1 <;> (try split at h1) <;> (try split at h1) <;> omega
    obtain ⟨c, ec, hc⟩ := byte_of r (by omega)
    have HE := Lib.hid (show encU r = [c] from by unfold encU; rw [if_pos hr1, ec])
    rw [h1] at HS
    have x1 : IntKind.u8.wrap (r : Int) = (c.toNat : Int) := by rw [hc]; exact IntWalk.u8_in _ (by omega)
    clear ec hc h1
    go_enter Tryz.func81, Tryz.ntmps81
    go_wp2_with ((go_at_call 112; (with_reducible refine (HS.out _).mono ?_); rintro e w1 ⟨rfl, hb1⟩))
    go_ret
    rw [HE.out]
    exact ⟨w1.heap.size, 1, rfl, Row.mk _ _ _ _ (by simp) fun j v hv => by
      rw [World.cell?_alloc_mark, Nat.zero_add]
      cases j with
      | zero => simpa using hv
      | succ j => simp at hv, hb1.alloc hb1.size _⟩
  · obtain ⟨hE, hlt⟩ := encU_head r hr h1
    have HE := Lib.hid hE
    have HSZ := Lib.hid (szU_len r)
    obtain ⟨hd, ehd, hhd⟩ := byte_of _ hlt
    rw [ehd] at HE
    have HHD := Lib.hid hhd
    clear hE ehd hhd
    generalize szU r = n at *
    have e1 : ((n : Int) == 1) = false := by simp; omega
    go_enter Tryz.func81, Tryz.ntmps81
    go_wp2_with ((go_at_call 112; (with_reducible refine (HS.out _).mono ?_); rintro e w1 ⟨rfl, hb1⟩))
    go_loopw [0, 4, 5] (fun v0 v4 v5 wr => ∃ i : Nat, 1 ≤ i ∧ i ≤ n ∧ v5 = .int .i64 (i : Int) ∧ v0 = .int .i64 ((r / 64 ^ (i - 1) : Nat) : Int) ∧ BytO w wr v4 (tlU r (i - 1))) (fun _ _ v5 _ => n - (intOf v5).toNat)
    case atStart => exact ⟨1, by omega, by omega, rfl, by simp, World.ownsRow_nil _ _ _ _, hb1⟩
    case round =>
      obtain ⟨i, hi1, hin, rfl, rfl, hbo⟩ := hrel
      obtain ⟨j, rfl⟩ : ∃ j, i = j + 1 := ⟨i - 1, by omega⟩
      simp only [Nat.add_sub_cancel] at hbo ⊢
      have HBO := Lib.hid hbo
      have hln := tlU_len r j
      have hdiv : r / 64 ^ j ≤ 1114111 := Nat.le_trans (Nat.div_le_self _ _) hr
      have HDD := Lib.hid (show r / 64 ^ j / 64 = r / 64 ^ (j + 1) from by rw [Nat.div_div_eq_div_mul, Nat.pow_succ])
      obtain ⟨A, cp, rfl, hro⟩ := own_row hbo.own
      have HRO := Lib.hid hro
      have hro0 := fun hA => hro.none_len (size := 1) (m := (tlU r j).length) (by simp) (by omega) hA
      clear hro hbo
      by_cases hlt2 : j + 1 < n
      · have k1 : ((j + 1 : Nat) : Int) < (n : Int) := by omega
        obtain ⟨c, ec, hc⟩ := byte_of (128 + r / 64 ^ j % 64) (by omega)
        have HT := Lib.hid (show tlU r (j + 1) = [c] ++ tlU r j from by rw [tlU, ec]; rfl)
        generalize tlU r j = T at *
        generalize r / 64 ^ j = q at *
        have q0 : (0 : Int) ≤ (q : Int) := by omega
        have x1 : IntKind.i64.wrap (128 + (q : Int) % 64) = (c.toNat : Int) := by rw [hc, show 128 + (q : Int) % 64 = ((128 + q % 64 : Nat) : Int) from by omega]; exact IntWalk.i64_in _ (by omega)
        have x2 : 128 + (q : Int) % 64 = (c.toNat : Int) := by omega
        have x3 : IntKind.u8.wrap (c.toNat : Int) = (c.toNat : Int) := IntWalk.u8_in _ (by omega)
        have x5 : IntKind.i64.wrap ((q : Int) / 64) = (q : Int) / 64 := IntWalk.i64_in _ (by omega)
        have hown := own_one w wr HBO.out.bel c
        have hr2 := HRO.out.below (show Below wr.heap.size wr (wr.alloc (.cells #[.int .u8 (c.toNat : Int)] 5)) from (Below.refl _ _).alloc (Nat.le_refl _) _)
        clear hc ec
        go_wp2_with ((at_builtin; refine wpList_pour el_u8 rfl _ _ rfl hown rfl (A := A) (m := T.length) (c := cp) (news := bytesV T) rfl hr2 ?q0 (bytesV_one T) ?q1 ?q2 ?q3 ?q4 ?_))
        case q0 => simp
        case q1 => intro hA; have := hro0 hA; omega
        case q2 => omega
        case q3 => unfold maxLen; omega
        case q4 => simp; have := HBO.out.bel.size; omega
        intro v' w3 hown3 hg3 _
        go_wp2_with fail
        go_roundw
        case rel =>
          refine ⟨j + 1 + 1, by omega, by omega, by go_num, ?_, ?_⟩
          · rw [Nat.add_sub_cancel, ← HDD.out]; refine congrArg (Value.int .i64) ?_; omega
          · rw [Nat.add_sub_cancel, HT.out]
            exact byt_pour HBO.out.bel (by rw [hln]; exact hown3) hg3
        case measure => simp [intOf] <;> omega
      · obtain rfl : n = j + 1 := by omega
        simp only [Nat.add_sub_cancel] at HE HHD hlt
        have k1 : ((j + 1 : Nat) : Int) ≤ ((j + 1 : Nat) : Int) := by omega
        have hhd := HHD.out
        have hEl : (encU r).length = j + 1 := HSZ.out
        generalize tlU r j = T at *
        generalize r / 64 ^ j = q at *
        have q0 : (0 : Int) ≤ (q : Int) := by omega
        have HRL := Lib.hid (fun (l : List Value) => HRO.out.below (show Below wr.heap.size wr (wr.alloc (.cells l.toArray 3)) from (Below.refl _ _).alloc (Nat.le_refl _) _))
        have HBB := Lib.hid (show Below w.heap.size w (wr.alloc (.cells #[.int .i64 0, .int .i64 0, .int .i64 192, .int .i64 224, .int .i64 240] 3)) from HBO.out.bel.alloc HBO.out.bel.size _)
        have hown := own_one w (wr.alloc (.cells #[.int .i64 0, .int .i64 0, .int .i64 192, .int .i64 224, .int .i64 240] 3)) HBB.out hd
        have hr2 := HRO.out.below (show Below wr.heap.size wr ((wr.alloc (.cells #[.int .i64 0, .int .i64 0, .int .i64 192, .int .i64 224, .int .i64 240] 3)).alloc (.cells #[.int .u8 (hd.toNat : Int)] 5)) from ((Below.refl _ _).alloc (Nat.le_refl _) _).alloc (by simp) _)
        have x3 : IntKind.u8.wrap (hd.toNat : Int) = (hd.toNat : Int) := IntWalk.u8_in _ (by have := hd.toNat_lt; omega)
        clear HHD HRL
        rw [show (wr.alloc (.cells #[.int .i64 0, .int .i64 0, .int .i64 192, .int .i64 224, .int .i64 240] 3)).heap.size = wr.heap.size + 1 from by simp] at hown
        rcases (by omega : j = 1 ∨ j = 2 ∨ j = 3) with rfl | rfl | rfl
        all_goals
          simp only [baseU, Nat.reduceAdd, Nat.reduceEqDiff, if_true, if_false] at hhd hlt
        · have x1 : IntKind.i64.wrap (192 + (q : Int)) = (hd.toNat : Int) := by rw [hhd, show 192 + (q : Int) = ((192 + q : Nat) : Int) from by omega]; exact IntWalk.i64_in _ (by omega)
          have x2 : 192 + (q : Int) = (hd.toNat : Int) := by omega
          clear hhd
          go_wp2_with ((at_builtin; refine wpList_pour el_u8 rfl _ _ rfl hown rfl (A := A) (m := T.length) (c := cp) (news := bytesV T) rfl hr2 ?q0 (bytesV_one T) ?q1 ?q2 ?q3 ?q4 ?_))
          case q0 => simp
          case q1 => intro hA; have := hro0 hA; omega
          case q2 => omega
          case q3 => unfold maxLen; omega
          case q4 => simp; have := HBO.out.bel.size; omega
          intro v' w3 hown3 hg3 _
          go_wp2_with fail
          go_ret
          exact enc_fin HBB.out (by rw [HE.out]; rfl) (by rw [hln]; exact hown3) (by exact hg3)
        · have x1 : IntKind.i64.wrap (224 + (q : Int)) = (hd.toNat : Int) := by rw [hhd, show 224 + (q : Int) = ((224 + q : Nat) : Int) from by omega]; exact IntWalk.i64_in _ (by omega)
          have x2 : 224 + (q : Int) = (hd.toNat : Int) := by omega
          clear hhd
          go_wp2_with ((at_builtin; refine wpList_pour el_u8 rfl _ _ rfl hown rfl (A := A) (m := T.length) (c := cp) (news := bytesV T) rfl hr2 ?q0 (bytesV_one T) ?q1 ?q2 ?q3 ?q4 ?_))
          case q0 => simp
          case q1 => intro hA; have := hro0 hA; omega
          case q2 => omega
          case q3 => unfold maxLen; omega
          case q4 => simp; have := HBO.out.bel.size; omega
          intro v' w3 hown3 hg3 _
          go_wp2_with fail
          go_ret
          exact enc_fin HBB.out (by rw [HE.out]; rfl) (by rw [hln]; exact hown3) (by exact hg3)
        · have x1 : IntKind.i64.wrap (240 + (q : Int)) = (hd.toNat : Int) := by rw [hhd, show 240 + (q : Int) = ((240 + q : Nat) : Int) from by omega]; exact IntWalk.i64_in _ (by omega)
          have x2 : 240 + (q : Int) = (hd.toNat : Int) := by omega
          clear hhd
          go_wp2_with ((at_builtin; refine wpList_pour el_u8 rfl _ _ rfl hown rfl (A := A) (m := T.length) (c := cp) (news := bytesV T) rfl hr2 ?q0 (bytesV_one T) ?q1 ?q2 ?q3 ?q4 ?_))
          case q0 => simp
          case q1 => intro hA; have := hro0 hA; omega
          case q2 => omega
          case q3 => unfold maxLen; omega
          case q4 => simp; have := HBO.out.bel.size; omega
          intro v' w3 hown3 hg3 _
          go_wp2_with fail
          go_ret
          exact enc_fin HBB.out (by rw [HE.out]; rfl) (by rw [hln]; exact hown3) (by exact hg3)
end Go.Proofs.YtghjgbkhhoaebaaGreatDoor

namespace Go.Proofs.YtghjgbkhhoaebaaGreatDoor
set_option linter.unusedSimpArgs false
set_option linter.unusedVariables false
open Go.RowKit

theorem ext_mid' (s : ByteArray) (i n : Nat) : toL (s.extract i (i + n)) = ((toL s).drop i).take n := by
  rw [extract_toL, cutL]; simp
theorem beg_val (l : List UInt8) : ∃ v : Nat, begV (begR l) = .tuple #[.bool (decide (0 < bAll l)), .int .i64 (bAll l : Nat), .int .i64 (v : Nat)] := by
  unfold bAll
  cases h : begR l with
  | none => exact ⟨0, rfl⟩
  | some x =>
    have := (begR_n h).1
    exact ⟨x.2, by simp [begV]; omega⟩
/-- The reference's first code point, as a step. -/
theorem first_yes {L : List UInt8} (h0 : L ≠ []) (h : wholeU L = true) : (firstR L).2.2 = 0 ∧ (firstR L).2.1 = stepU L ∧ pieceU L = L.take (stepU L) := by
  rw [decR h0]
  obtain ⟨h1, h2⟩ := whole_step h
  rw [h2, h1]
  exact ⟨rfl, rfl, by unfold pieceU; rw [if_pos h]⟩
theorem first_no {L : List UInt8} (h0 : L ≠ []) (h : wholeU L = false) : (firstR L).2.2 ≠ 0 ∧ pieceU L = [239, 191, 189] := by
  rw [decR h0]
  obtain ⟨_, h1, h2, h3⟩ := decU_parts L h0
  refine ⟨?_, by unfold pieceU; rw [if_neg (by rw [h]; simp)]⟩
  by_cases a : measU L = 0
  · rw [h1 h a]; simp
  · by_cases b : measU L = L.length
    · rw [h2 h a b]; simp
    · rw [h3 h a b]; simp
/-- The step's length while it is sought. -/
def nAt (L : List UInt8) (k : Nat) : Nat := if k = 2 then 1 else if k = 3 then ref2 L else ref3 L
theorem ref3_short {L : List UInt8} (h : L.length < 3) : ref3 L = ref2 L := by unfold ref3; rw [if_neg (by omega)]
theorem ref2_short {L : List UInt8} (h : L.length < 2) : ref2 L = 1 := by unfold ref2; rw [if_neg (by omega)]
theorem ref_le (L : List UInt8) : 1 ≤ ref2 L ∧ ref2 L ≤ 2 ∧ 1 ≤ ref3 L ∧ ref3 L ≤ 3 := by
  have h2 : 1 ≤ ref2 L ∧ ref2 L ≤ 2 := by unfold ref2; split <;> omega
  refine ⟨h2.1, h2.2, ?_⟩
  unfold ref3; split <;> omega
theorem nAt_end {L : List UInt8} {k : Nat} (h1 : 2 ≤ k) (h2 : k ≤ 4) (h3 : k = 4 ∨ L.length < k) : nAt L k = ref3 L := by
  unfold nAt
  rcases (by omega : k = 2 ∨ k = 3 ∨ k = 4) with rfl | rfl | rfl
  · rw [if_pos rfl, ref3_short (by omega), ref2_short (by omega)]
  · rw [if_neg (by omega), if_pos rfl, ref3_short (by omega)]
  · rw [if_neg (by omega), if_neg (by omega)]
theorem nAt_next {L : List UInt8} {k : Nat} (h1 : 2 ≤ k) (h2 : k ≤ 3) (h3 : k ≤ L.length) : nAt L (k + 1) = if k < bAll (L.take k) ∧ nAt L k = k - 1 then k else nAt L k := by
  unfold nAt
  rcases (by omega : k = 2 ∨ k = 3) with rfl | rfl
  · simp only [Nat.reduceAdd, if_true, if_false, Nat.reduceEqDiff]
    unfold ref2
    by_cases h : 2 < bAll (L.take 2)
    · rw [if_pos ⟨h3, h⟩, if_pos ⟨h, trivial⟩]
    · rw [if_neg (fun g => h g.2), if_neg (fun g => h g.1)]
  · simp only [Nat.reduceAdd, if_true, if_false, Nat.reduceEqDiff]
    unfold ref3
    by_cases h : 3 < bAll (L.take 3) ∧ ref2 L = 2
    · rw [if_pos ⟨h3, h.1, h.2⟩, if_pos ⟨h.1, h.2⟩]
    · rw [if_neg (fun g => h ⟨g.2.1, g.2.2⟩), if_neg (fun g => h ⟨g.1, g.2⟩)]
set_option maxHeartbeats 16000000 in
set_option maxRecDepth 100000 in
theorem r3_repair (s : ByteArray) (w : World) (hs : s.size ≤ 100000) : Calls Tryz.prog 79 #[.string s] w fun e w' => e = .returned (.string (ofL (repF (toL s)))) ∧ Below w.heap.size w w' := by
  have HL := Lib.hid (toL_length s)
  generalize hT : repF (toL s) = T at *
  have HENC := Lib.hid (fun wx => show Calls Tryz.prog 81 #[.int .i64 65533] wx fun e w' => ∃ g cap, e = .returned (.slice (some ⟨g, 0, none⟩) 3 cap) ∧ Row w' (some ⟨g, 0, none⟩) (bytesV [239, 191, 189]) ∧ Below wx.heap.size wx w' from by
    have := r3_encode 65533 wx (by omega)
    rw [show encU 65533 = [239, 191, 189] from by decide] at this
    exact this)
  go_enter Tryz.func79, Tryz.ntmps79
  go_wp2_with fail
  go_loopw [3, 4, 5, 6, 7, 8, 9, 10, 11, 12, 13, 14] (fun v3 v4 _ _ _ _ _ _ _ _ _ _ wr => ∃ (a : Nat) (out : List UInt8), a ≤ s.size ∧ v3 = .string (ofL out) ∧ v4 = .int .i64 (a : Int) ∧ T = out ++ repF ((toL s).drop a) ∧ out.length ≤ 3 * a ∧ Below w.heap.size w wr) (fun _ v4 _ _ _ _ _ _ _ _ _ _ _ => s.size - (intOf v4).toNat)
  case atStart => exact ⟨0, [], by omega, rfl, rfl, by rw [← hT]; rfl, by simp, Below.refl _ _⟩
  case round =>
    obtain ⟨a, out, ha, rfl, rfl, hp, hol, hb⟩ := hrel
    have HP := Lib.hid hp; have HB := Lib.hid hb
    clear hp hb hT
    have k0 : (0 : Int) ≤ (a : Int) := by omega
    have hosz : (ofL out).size ≤ 300000 := by rw [ofL_size]; omega
    by_cases hlt : a < s.size
    · have k1 : (a : Int) < (s.size : Int) := by omega
      have k2 : (a : Int) ≤ (s.size : Int) := by omega
      obtain ⟨X, hX⟩ : ∃ X, s.extract a s.size = X := ⟨_, rfl⟩
      have HXL := Lib.hid (show toL X = (toL s).drop a from by rw [← hX]; exact ext_drop s a)
      have hXs : X.size = s.size - a := by rw [← hX]; exact extract_size _ _ _ (Nat.le_refl _)
      have hne : toL X ≠ [] := by intro e; have := toL_length X; rw [e] at this; simp at this; omega
      have HF := Lib.hid (fun wx => r3_first X wx (by omega) (by omega))
      have HSTEP := Lib.hid (show T = (out ++ pieceU (toL X)) ++ repF ((toL s).drop (a + stepU (toL X))) from by
        rw [HP.out, ← HXL.out, repF_ne hne, HXL.out, List.drop_drop, ← HXL.out, List.append_assoc])
      have hsp := stepU_pos (toL X)
      have hsl : stepU (toL X) ≤ X.size := by
        rw [← toL_length]
        cases h : toL X with
        | nil => exact absurd h hne
        | cons c r => exact stepU_le c r
      have hpl := piece_len (toL X)
      rcases hw : wholeU (toL X) with _ | _
      · obtain ⟨f1, f2⟩ := first_no hne hw
        have HN := Lib.hid (show refN (toL X) = stepU (toL X) from by
          cases h : toL X with
          | nil => exact absurd h hne
          | cons c r => rw [h] at hw; exact refN_eq c r hw)
        rw [f2] at HSTEP
        have e1 : ((firstR (toL X)).2.2 == 0) = false := beq_eq_false_iff_ne.2 f1
        clear f1 f2 hpl hw HP
        generalize firstR (toL X) = F at *
        obtain ⟨fa, fb, fc⟩ := F
        simp only at HF e1
        have hrl := ref_le (toL X)
        go_wp2_with ((go_at_call 110; (with_reducible refine (HF.out _).mono ?_); rintro e w1 ⟨rfl, hb1⟩))
        have HB1 := Lib.hid (HB.out.trans (hb1.mono HB.out.size))
        clear hb1
        obtain ⟨wo, rfl⟩ : ∃ wo : World, wo = w1 := ⟨_, rfl⟩
        go_loopw [6, 8, 9, 10, 11] (fun v6 v8 _ _ _ wr2 => ∃ k : Nat, 2 ≤ k ∧ k ≤ 4 ∧ v8 = .int .i64 (k : Int) ∧ v6 = .int .i64 (nAt (toL X) k : Nat) ∧ Below w.heap.size w wr2) (fun _ v8 _ _ _ _ => 4 - (intOf v8).toNat)
        case atStart => exact ⟨2, by omega, by omega, rfl, rfl, HB1.out⟩
        case round =>
          obtain ⟨k, hk2, hk4, rfl, rfl, hb2⟩ := hrel
          have HB2 := Lib.hid hb2; clear hb2
          have kk0 : (0 : Int) ≤ (k : Int) := by omega
          by_cases hgo : k ≤ 3 ∧ k ≤ X.size
          · obtain ⟨hk3, hkx⟩ := hgo
            have HNX := Lib.hid (nAt_next (L := toL X) hk2 hk3 (by rw [toL_length]; exact hkx))
            have hnb : nAt (toL X) k ≤ 3 := by unfold nAt; split <;> (try split) <;> omega
            obtain ⟨ak, hak⟩ : ∃ ak, a + k = ak := ⟨_, rfl⟩
            obtain ⟨Y, hY⟩ : ∃ Y, s.extract a ak = Y := ⟨_, rfl⟩
            have hYL : toL Y = (toL X).take k := by rw [← hY, ← hak, ext_mid', HXL.out]
            have hYs : Y.size = k := by rw [← toL_length, hYL, List.length_take, toL_length]; omega
            have HBG := Lib.hid (fun wx => r3_begins Y wx (by omega) (by omega))
            obtain ⟨bv, hbv⟩ := beg_val ((toL X).take k)
            rw [hYL, hbv] at HBG
            have x1 : IntKind.i64.wrap ((a : Int) + (k : Int)) = (ak : Int) := by rw [show (a : Int) + (k : Int) = (ak : Int) from by omega]; exact IntWalk.i64_in _ (by omega)
            have x2 : (a : Int) + (k : Int) = (ak : Int) := by omega
            have x3 : (a : Int) ≤ (ak : Int) := by omega
            have x4 : (ak : Int) ≤ (s.size : Int) := by omega
            have x0 : (0 : Int) ≤ (ak : Int) := by omega
            have x5 : (k : Int) ≤ 3 := by omega
            have d1 : decide ((k : Int) ≤ 3) = true := by simp only [decide_eq_true_eq]; omega
            have d2 : decide ((ak : Int) ≤ (s.size : Int)) = true := by simp only [decide_eq_true_eq]; omega
            have x6 : IntKind.i64.wrap ((k : Int) - 1) = (k : Int) - 1 := IntWalk.i64_in _ (by omega)
            have HAK := Lib.hid hak
            clear hbv hYL hak
            generalize bAll ((toL X).take k) = bA at *
            generalize hna : nAt (toL X) k = na at *
            clear hna
            have key : (k < bA ∧ na = k - 1 ∧ decide (0 < bA) = true ∧ decide (k < bA) = true ∧ ((na : Int) == (k : Int) - 1) = true) ∨ (¬ (k < bA ∧ na = k - 1) ∧ ((decide (0 < bA) = false) ∨ (decide (0 < bA) = true ∧ (decide (k < bA) = false ∨ (decide (k < bA) = true ∧ ((na : Int) == (k : Int) - 1) = false))))) := by
              by_cases c1 : k < bA
              · by_cases c2 : na = k - 1
                · exact .inl ⟨c1, c2, decide_eq_true (by omega), decide_eq_true c1, by rw [beq_iff_eq]; omega⟩
                · exact .inr ⟨fun h => c2 h.2, .inr ⟨decide_eq_true (by omega), .inr ⟨decide_eq_true c1, by rw [beq_eq_false_iff_ne]; omega⟩⟩⟩
              · refine .inr ⟨fun h => c1 h.1, ?_⟩
                by_cases c3 : 0 < bA
                · exact .inr ⟨decide_eq_true c3, .inl (decide_eq_false c1)⟩
                · exact .inl (decide_eq_false c3)
            rcases key with ⟨g1, g2, g3, g4, g5⟩ | ⟨g0, g3 | ⟨g3, g4 | ⟨g4, g5⟩⟩⟩
            · have HN2 := Lib.hid (HNX.out.trans (if_pos ⟨g1, g2⟩))
              rw [g3] at HBG
              clear g1 g2 g3 HNX
              go_wp2_with ((go_at_call 111; (with_reducible refine (HBG.out _).mono ?_); rintro e w3 ⟨rfl, hb3⟩))
              go_roundw
              case rel => exact ⟨k + 1, by omega, by omega, by go_num, by rw [HN2.out], HB2.out.trans (hb3.mono HB2.out.size)⟩
              case measure => simp [intOf] <;> omega
            all_goals
              have HN2 := Lib.hid (HNX.out.trans (if_neg g0))
              rw [g3] at HBG
              clear g0 g3 HNX
              go_wp2_with ((go_at_call 111; (with_reducible refine (HBG.out _).mono ?_); rintro e w3 ⟨rfl, hb3⟩))
              go_roundw
              case rel => exact ⟨k + 1, by omega, by omega, by go_num, by rw [HN2.out], HB2.out.trans (hb3.mono HB2.out.size)⟩
              case measure => simp [intOf] <;> omega
          · have HE := Lib.hid (nAt_end (L := toL X) hk2 hk4 (by rw [toL_length]; omega))
            obtain ⟨ak, hak⟩ : ∃ ak, a + k = ak := ⟨_, rfl⟩
            have hstop : (decide ((k : Int) ≤ 3) = false ∧ (3 : Int) < (k : Int)) ∨ (decide ((k : Int) ≤ 3) = true ∧ (k : Int) ≤ 3 ∧ decide ((ak : Int) ≤ (s.size : Int)) = false) := by
              by_cases c : k ≤ 3
              · exact .inr ⟨decide_eq_true (by omega), by omega, decide_eq_false (by omega)⟩
              · exact .inl ⟨decide_eq_false (by omega), by omega⟩
            have x1 : IntKind.i64.wrap ((a : Int) + (k : Int)) = (ak : Int) := by rw [show (a : Int) + (k : Int) = (ak : Int) from by omega]; exact IntWalk.i64_in _ (by omega)
            have x2 : (a : Int) + (k : Int) = (ak : Int) := by omega
            obtain ⟨a1, ha1⟩ : ∃ a1, a + 1 = a1 := ⟨_, rfl⟩
            obtain ⟨Y, hY⟩ : ∃ Y, s.extract a a1 = Y := ⟨_, rfl⟩
            have hYL : toL Y = (toL X).take 1 := by rw [← hY, ← ha1, ext_mid', HXL.out]
            have hYs : Y.size = 1 := by rw [← toL_length, hYL, List.length_take, toL_length]; omega
            have HBG := Lib.hid (fun wx => r3_begins Y wx (by omega) (by omega))
            obtain ⟨bv, hbv⟩ := beg_val ((toL X).take 1)
            rw [hYL, hbv] at HBG
            have x3 : IntKind.i64.wrap ((a : Int) + 1) = (a1 : Int) := by rw [show (a : Int) + 1 = (a1 : Int) from by omega]; exact IntWalk.i64_in _ (by omega)
            have x4 : (a : Int) + 1 = (a1 : Int) := by omega
            have x5 : (a : Int) ≤ (a1 : Int) := by omega
            have x6 : (a1 : Int) ≤ (s.size : Int) := by omega
            have x7 : (0 : Int) ≤ (a1 : Int) := by omega
            have HA1 := Lib.hid ha1
            have HRN := Lib.hid (show refN (toL X) = if bAll ((toL X).take 1) = 0 then 1 else ref3 (toL X) from rfl)
            rw [HN.out] at HRN
            have hsp2 := hsp
            obtain ⟨RZ, hRZ⟩ : ∃ RZ, ofL ([239, 191, 189] : List UInt8) = RZ := ⟨_, rfl⟩
            have hrz : RZ.size = 3 := by rw [← hRZ, ofL_size]; rfl
            have hcv := fun (wx : World) (g cap : Nat) (hx : Row wx (some ⟨g, 0, none⟩) (bytesV [239, 191, 189])) => show (convert 89 9 (.slice (some ⟨g, 0, none⟩) 3 cap)).run Tryz.prog wx = .ok (.string RZ) wx from by
              have h := conv_row 9 Tryz.underlying9 cap hx 3 (Nat.le_refl _)
              rw [show ([239, 191, 189] : List UInt8).take 3 = [239, 191, 189] from rfl, hRZ] at h
              exact h
            have HCV := Lib.hid hcv
            have HOF := Lib.hid (show ofL out ++ RZ = ofL (out ++ [239, 191, 189]) from by rw [← hRZ]; simp [ofL_append])
            rw [HE.out]
            clear hbv hYL hcv HE hak ha1 hRZ
            generalize bAll ((toL X).take 1) = bA at *
            generalize stepU (toL X) = n at *
            generalize ref3 (toL X) = r3 at *
            obtain ⟨an, han⟩ : ∃ an, a + n = an := ⟨_, rfl⟩
            have y1 : IntKind.i64.wrap ((a : Int) + (n : Int)) = (an : Int) := by rw [show (a : Int) + (n : Int) = (an : Int) from by omega]; exact IntWalk.i64_in _ (by omega)
            have y2 : (a : Int) + (n : Int) = (an : Int) := by omega
            rw [han] at HSTEP
            have HAN := Lib.hid han
            clear han
            by_cases hz : bA = 0
            · have d0 : decide (0 < bA) = false := decide_eq_false (by omega)
              rw [d0] at HBG
              rw [if_pos hz] at HRN
              obtain rfl : n = 1 := HRN.out
              clear hz d0
              rcases hstop with ⟨d1, d2⟩ | ⟨d1, d2, d3⟩
              all_goals
                go_wp2_with (first
                  | (go_at_call 111; (with_reducible refine (HBG.out _).mono ?_); rintro e w3 ⟨rfl, hb3⟩)
                  | (go_at_call 81; (with_reducible refine (HENC.out _).mono ?_); rintro e w4 ⟨g, cap, rfl, hrow, hb4⟩; have hcv := HCV.out _ _ cap hrow))
                go_roundw
                case rel => exact ⟨an, out ++ [239, 191, 189], by have := HAN.out; omega, congrArg Value.string HOF.out, by first | rfl | (have := HAN.out; refine congrArg (Value.int .i64) ?_; omega), HSTEP.out, by have := HAN.out; rw [List.length_append]; simp; omega, HB2.out.trans ((hb3.trans (hb4.mono hb3.size)).mono HB2.out.size)⟩
                case measure => have := HAN.out; simp [intOf] <;> omega
            · have d0 : decide (0 < bA) = true := decide_eq_true (by omega)
              rw [d0] at HBG
              rw [if_neg hz] at HRN
              obtain rfl : r3 = n := HRN.out.symm
              clear hz d0
              rcases hstop with ⟨d1, d2⟩ | ⟨d1, d2, d3⟩
              all_goals
                go_wp2_with (first
                  | (go_at_call 111; (with_reducible refine (HBG.out _).mono ?_); rintro e w3 ⟨rfl, hb3⟩)
                  | (go_at_call 81; (with_reducible refine (HENC.out _).mono ?_); rintro e w4 ⟨g, cap, rfl, hrow, hb4⟩; have hcv := HCV.out _ _ cap hrow))
                go_roundw
                case rel => exact ⟨an, out ++ [239, 191, 189], by have := HAN.out; omega, congrArg Value.string HOF.out, by first | rfl | (have := HAN.out; refine congrArg (Value.int .i64) ?_; omega), HSTEP.out, by have := HAN.out; rw [List.length_append]; simp; omega, HB2.out.trans ((hb3.trans (hb4.mono hb3.size)).mono HB2.out.size)⟩
                case measure => have := HAN.out; simp [intOf] <;> omega
      · obtain ⟨f1, f2, f3⟩ := first_yes hne hw
        have HTK := Lib.hid (show toL (s.extract a (a + stepU (toL X))) = pieceU (toL X) from by rw [ext_mid', ← HXL.out, f3])
        clear f3 hw HP
        generalize hF : firstR (toL X) = F at *
        obtain ⟨fa, fb, fc⟩ := F
        simp only at HF f1 f2
        subst f1; subst f2
        generalize stepU (toL X) = n at *
        obtain ⟨an, han⟩ : ∃ an, a + n = an := ⟨_, rfl⟩
        rw [han] at HTK HSTEP
        have x1 : IntKind.i64.wrap ((a : Int) + (n : Int)) = (an : Int) := by rw [show (a : Int) + (n : Int) = (an : Int) from by omega]; exact IntWalk.i64_in _ (by omega)
        have x2 : (a : Int) + (n : Int) = (an : Int) := by omega
        have x3 : (a : Int) ≤ (an : Int) := by omega
        have x4 : (an : Int) ≤ (s.size : Int) := by omega
        have x5 : (0 : Int) ≤ (an : Int) := by omega
        have HAN := Lib.hid han
        have hps : (s.extract a an).size ≤ 100000 := by rw [extract_size _ _ _ (by omega)]; omega
        obtain ⟨PX, hPX⟩ : ∃ PX, s.extract a an = PX := ⟨_, rfl⟩
        rw [hPX] at HTK hps
        clear hF han
        go_wp2_with ((go_at_call 110; (with_reducible refine (HF.out _).mono ?_); rintro e w1 ⟨rfl, hb1⟩))
        go_roundw
        case rel => exact ⟨an, out ++ pieceU (toL X), by have := HAN.out; omega, by rw [← HTK.out]; refine congrArg Value.string ?_; rw [show ofL out ++ PX = ofL out ++ ofL (toL PX) from by rw [ofL_toL]]; simp [ofL_append], rfl, HSTEP.out, by have := HAN.out; rw [List.length_append]; omega, HB.out.trans (hb1.mono HB.out.size)⟩
        case measure => have := HAN.out; simp [intOf] <;> omega
    · have k1 : (s.size : Int) ≤ (a : Int) := by omega
      have HV := Lib.hid (show T = out from by rw [HP.out, List.drop_eq_nil_of_le (by rw [HL.out]; omega), repF_nil, List.append_nil])
      go_wp2_with fail
      go_ret
      exact ⟨by rw [HV.out]; rfl, HB.out⟩
end Go.Proofs.YtghjgbkhhoaebaaGreatDoor

namespace Go.Proofs.YtghjgbkhhoaebaaGreatDoor
set_option linter.unusedSimpArgs false
set_option linter.unusedVariables false
open Go.RowKit

theorem clr_snoc {R : List Nat} {k : Nat} (h : k < R.length) : clrR (R.take (k + 1)) = clrR (R.take k) ++ [if ctlU R[k] then 32 else R[k]] := by
  unfold clrR; rw [List.take_succ_eq_append_getElem h, List.map_append]; rfl
theorem encL_le (rs : List Nat) : (encL rs).length ≤ 4 * rs.length := by
  induction rs with
  | nil => simp [encL]
  | cons r rs ih => rw [encL_cons, List.length_append, List.length_cons]; have := (encU_len r).2; omega
theorem runes_le (L : List UInt8) : (runesOf L).length ≤ L.length + 1 := by
  unfold runesOf allF; rw [List.length_map]; exact all_len _ _ _
theorem off_map (rs : List Nat) : ((offR 0 rs).map (·.1)).length = rs.length := by
  have := congrArg List.length (off_runes rs 0)
  rw [List.length_map] at this ⊢; exact this
theorem lastF_take {l : List Nat} {k : Nat} (h : k < l.length) (e : Nat) : lastF (l.take (k + 1)) e = if l[k] ≤ 400 then l[k] else lastF (l.take k) e := by
  rw [List.take_succ_eq_append_getElem h, lastF_app]; rfl
theorem intRow_cell {w : World} {A : Option Addr} {R : List Nat} (h : Row w A (ints R)) {k : Nat} (hk : k < R.length) : ∃ b off, A = some ⟨b, off, none⟩ ∧ w.cell? ⟨b, off + k, none⟩ = some (.int .i64 (R[k] : Int)) := by
  obtain ⟨b, off, e, hc⟩ := h.cell (k := k) (by rw [ints_len]; exact hk)
  refine ⟨b, off, e, ?_⟩
  rw [hc]; simp [ints]
theorem pln_len_tm (L : List UInt8) : trimL blkB (encL (clrR (runesOf (repF L)))) = encL (tmR L) := enc_trim _ (clr_rune (runes_rune _))
theorem encL_len_ge (rs : List Nat) : rs.length ≤ (encL rs).length := by
  induction rs with
  | nil => simp
  | cons r rs ih => rw [encL_cons, List.length_append, List.length_cons]; have := (encU_len r).1; omega
theorem off_le : ∀ (rs : List Nat) (i : Nat), ∀ o ∈ (offR i rs).map (·.1), o ≤ i + (encL rs).length
  | [], i, o, h => by simp [offR] at h
  | r :: rs, i, o, h => by
    rw [offR, List.map_cons] at h
    rw [encL_cons, List.length_append]
    rcases List.mem_cons.1 h with h | h
    · rw [h]; omega
    · have := off_le rs _ o h; omega
set_option maxHeartbeats 16000000 in
set_option maxRecDepth 100000 in
theorem lw_plain (s : ByteArray) (w : World) (hs : s.size ≤ 20000) : Calls Tryz.prog 37 #[.string s] w fun e w' => e = .returned (.string (ofL (plnF (toL s)))) ∧ Below w.heap.size w w' := by
  have HRP := Lib.hid (r3_repair s w (by omega))
  have hrl := rep_len (toL s).length (toL s) (Nat.le_refl _)
  have hrn := runes_le (repF (toL s))
  rw [toL_length] at hrl
  have HTM := Lib.hid (pln_len_tm (toL s))
  have HTR := Lib.hid (tm_rune (toL s))
  have HPD := Lib.hid (show plnF (toL s) = dropR blkB (encL (cutR 400 (tmR (toL s)))) from (enc_dr _ ((tm_rune (toL s)).sub fun _ h => mem_cut h)).symm)
  have HRU := Lib.hid (runes_rune (repF (toL s)))
  have HAL := Lib.hid (fun wx => r3_all (ofL (repF (toL s))) wx (by rw [ofL_size]; omega))
  unfold AllPost at HAL
  rw [toL_ofL] at HAL
  rw [show (allF (repF (toL s)) 0).1.map (·.2) = runesOf (repF (toL s)) from rfl] at HAL
  generalize repF (toL s) = RP at *
  generalize hR : runesOf RP = R at *
  generalize tmR (toL s) = TM at *
  generalize plnF (toL s) = PF at *
  generalize (allF RP 0).1.map (·.1) = OF at *
  generalize chkF RP = CK at *
  obtain ⟨ca, ce⟩ := CK
  simp only at HAL
  clear hR
  go_enter Tryz.func37, Tryz.ntmps37
  go_wp2_with (first
    | (go_at_call 79; (with_reducible refine HRP.out.mono ?_); rintro e w1 ⟨rfl, hb1⟩)
    | (go_at_call 78; (with_reducible refine (HAL.out _).mono ?_); rintro e w2 ⟨va, vb, rfl, ⟨Aa, cpa, rfl, hra⟩, ⟨Ab, cpb, rfl, hrb⟩, hb2⟩))
  have HB2 := Lib.hid (hb1.trans (hb2.mono hb1.size))
  have HRA := Lib.hid hra
  clear hb1 hb2 hra hrb HRP HAL
  go_loopw [7, 8] (fun v7 v8 wr => ∃ k : Nat, k ≤ R.length ∧ v8 = .int .i64 (k : Int) ∧ v7 = .string (ofL (encL (clrR (R.take k)))) ∧ Below w2.heap.size w2 wr) (fun _ v8 _ => R.length - (intOf v8).toNat)
  case atStart => exact ⟨0, by omega, rfl, rfl, Below.refl _ _⟩
  case round =>
    obtain ⟨k, hk, rfl, rfl, hb⟩ := hrel
    have HB := Lib.hid hb; clear hb
    have k0 : (0 : Int) ≤ (k : Int) := by omega
    by_cases hlt : k < R.length
    · have k1 : (k : Int) < (R.length : Int) := by omega
      obtain ⟨bb, off, rfl, hcell⟩ := intRow_cell (HRA.out.below HB.out) hlt
      have HSN := Lib.hid (clr_snoc hlt)
      have hrr := HRU.out R[k] (List.getElem_mem hlt)
      have hle := encL_le (clrR (R.take k))
      have hcl : (clrR (R.take k)).length ≤ k := by unfold clrR; rw [List.length_map, List.length_take]; omega
      have hsz : (ofL (encL (clrR (R.take k)))).size ≤ 1000000 := by rw [ofL_size]; omega
      generalize R[k] = r at *
      have HCT := Lib.hid (fun wx => r3_control (r : Int) wx)
      rw [ctlI_nat] at HCT
      have HEN := Lib.hid (fun wx => r3_encode r wx hrr.1)
      have hel := (encU_len r).2
      generalize clrR (R.take k) = CT at *
      rcases hc : ctlU r with _ | _
      · rw [hc] at HCT HSN
        have HN := Lib.hid (show ofL (encL CT) ++ ofL (encU r) = ofL (encL (clrR (R.take (k + 1)))) from by rw [HSN.out]; simp [encL_snoc, ofL_append])
        have HCV := Lib.hid (fun wx g cap (hx : Row wx (some ⟨g, 0, none⟩) (bytesV (encU r))) => conv_row 9 Tryz.underlying9 cap hx (encU r).length (Nat.le_refl _))
        rw [List.take_of_length_le (Nat.le_refl _)] at HCV
        have hes : (ofL (encU r)).size ≤ 4 := by rw [ofL_size]; exact hel
        clear hc
        go_wp2_with (first
          | (go_at_call 80; (with_reducible refine (HCT.out _).mono ?_); rintro e w' ⟨rfl, rfl⟩)
          | (go_at_call 81; (with_reducible refine (HEN.out _).mono ?_); rintro e w3 ⟨g, cap, rfl, hrow, hb3⟩; have hcv := HCV.out _ _ cap hrow))
        go_roundw
        case rel => exact ⟨k + 1, by omega, by go_num, congrArg Value.string HN.out, HB.out.trans (hb3.mono HB.out.size)⟩
        case measure => simp [intOf] <;> omega
      · rw [hc] at HCT HSN
        have HN := Lib.hid (show ofL (encL CT) ++ ⟨#[32]⟩ = ofL (encL (clrR (R.take (k + 1)))) from by
          rw [HSN.out, if_pos rfl, encL_snoc, show encU 32 = [32] from rfl]; exact ofL_append _ _)
        clear hc
        go_wp2_with ((go_at_call 80; (with_reducible refine (HCT.out _).mono ?_); rintro e w' ⟨rfl, rfl⟩))
        go_roundw
        case rel => exact ⟨k + 1, by omega, by go_num, congrArg Value.string HN.out, HB.out⟩
        case measure => simp [intOf] <;> omega
    · have k1 : (R.length : Int) ≤ (k : Int) := by omega
      have htk : R.take k = R := List.take_of_length_le (by omega)
      rw [htk]
      have hle := encL_le (clrR R)
      have hcl : (clrR R).length = R.length := by unfold clrR; rw [List.length_map]
      have HTT := Lib.hid (fun wx => r1_trim (ofL (encL (clrR R))) wx (by rw [ofL_size]; omega))
      rw [toL_ofL, HTM.out] at HTT
      have hml : (encL TM).length ≤ 1000000 := by
        rw [← HTM.out]
        have h1 : (trimL blkB (encL (clrR R))).length ≤ (encL (clrR R)).length := by
          obtain ⟨t, ht⟩ := dropR_pre blkB ((encL (clrR R)).dropWhile blkB)
          have h2 := congrArg List.length ht
          have h3 := (List.dropWhile_sublist (l := encL (clrR R)) blkB).length_le
          unfold trimL
          rw [List.length_append] at h2; omega
        omega
      have HA2 := Lib.hid (fun wx => r3_all2 (ofL (encL TM)) wx (by rw [ofL_size]; exact hml))
      unfold AllPost2 at HA2
      rw [toL_ofL, all_enc TM 0 HTR.out, chk_enc HTR.out] at HA2
      have hol := off_map TM
      have hoc := encL_len_ge TM
      have HCO := Lib.hid (show lastF ((offR 0 TM).map (·.1) ++ [(encL TM).length]) 0 = (encL (cutR 400 TM)).length from by
        have := cut_off TM 0 0 (by omega); simpa using this)
      have HCT := Lib.hid (cutR_take TM 400)
      have hcl2 : (encL (cutR 400 TM)).length ≤ (encL TM).length := by
        obtain ⟨t, ht⟩ := cutR_pre TM 400
        have := congrArg (fun x => (encL x).length) ht
        simp only [encL_app, List.length_append] at this; omega
      have hts : (ofL (encL TM)).size = (encL TM).length := ofL_size _
      have hge : ∀ o ∈ (offR 0 TM).map (·.1) ++ [(encL TM).length], o ≤ 1000000 := by
        intro o ho
        rcases List.mem_append.1 ho with ho | ho
        · have := off_le TM 0 o ho; omega
        · rw [List.mem_singleton] at ho; omega
      have HGE := Lib.hid hge
      clear hge HTM hle hcl
      generalize (offR 0 TM).map (·.1) = OT at *
      generalize cutR 400 TM = CT at *
      generalize encL CT = CE at *
      obtain ⟨TS, hTS⟩ : ∃ TS, ofL (encL TM) = TS := ⟨_, rfl⟩
      have HTS := Lib.hid (show toL TS = encL TM from by rw [← hTS, toL_ofL])
      rw [hTS] at HA2 HTT hts
      generalize (encL TM).length = TL at *
      clear hTS
      go_upto_region 14 with (first
        | (go_at_call 82; (with_reducible refine (HTT.out _).mono ?_); rintro e w' ⟨rfl, rfl⟩)
        | (go_at_call 78; (with_reducible refine (HA2.out _).mono ?_); rintro e w4 ⟨va, vb, rfl, hTI⟩; have HTI := Lib.hid hTI; have hob := hTI.ob; have hbs := hTI.bel.size; clear hTI)
        | (at_builtin; refine wpList_push el_int rfl _ _ rfl hob #[.int .i64 (TL : Int)] rfl rfl rfl (by simp [Value.oneCell']) (by omega) (by unfold maxLen; omega) hbs ?_; intro g cap w5 hown5 hg5 hat5))
      have hsz4 := HTI.out.bel.size
      have HBW := Lib.hid (show Below wr.heap.size wr w5 from HTI.out.bel.grown hg5 hsz4 (fun k hk => (HTI.out.ob.lt k hk).1))
      have hown6 : w5.ownsRow wr.heap.size 3 1 (.slice (some ⟨g, 0, none⟩) (OT.length + 1) cap) (OT ++ [TL]).length (ints (OT ++ [TL])) := by
        rw [← ints_snoc, List.length_append, List.length_singleton]; exact hown5
      obtain ⟨A5, c5, e5, hr5⟩ := own_row hown6
      injection e5 with e6 e7 e8
      subst e6
      have HR5 := Lib.hid hr5
      have hL2 : (OT ++ [TL]).length = OT.length + 1 := by simp
      clear hown5 hown6 hr5 hob hbs e7 e8 HTI HTT HA2
      generalize OT ++ [TL] = L2 at *
      first | rw [← hL2] | rw [show TM.length + 1 = L2.length from by omega]
      go_loop [13, 14] (fun v13 v14 => ∃ k : Nat, k ≤ L2.length ∧ v14 = .int .i64 (k : Int) ∧ v13 = .int .i64 (lastF (L2.take k) 0 : Nat)) (fun _ v14 => L2.length - (intOf v14).toNat)
      case atStart => exact ⟨0, by omega, rfl, rfl⟩
      case round =>
        obtain ⟨i, hi, rfl, rfl⟩ := hrel
        have i0 : (0 : Int) ≤ (i : Int) := by omega
        by_cases hlt2 : i < L2.length
        · have i1 : (i : Int) < (L2.length : Int) := by omega
          obtain ⟨bb, off, e9, hcell⟩ := intRow_cell HR5.out hlt2
          injection e9 with e9
          injection e9 with e9 e10 e11
          subst e9; subst e10
          simp only [Nat.zero_add] at hcell
          have i2 : (i : Int) < ((TM.length + 1 : Nat) : Int) := by omega
          have i3 : (i : Int) < (TM.length : Int) + 1 := by omega
          have HLF := Lib.hid (lastF_take hlt2 0)
          generalize L2[i] = o at *
          generalize lastF (L2.take i) 0 = lf at *
          by_cases ho : o ≤ 400
          · have ho1 : (o : Int) ≤ 400 := by omega
            rw [if_pos ho] at HLF
            clear ho
            go_wp2_with fail
            go_round
            case rel => exact ⟨i + 1, by omega, by go_num, by rw [HLF.out]⟩
            case measure => simp [intOf] <;> omega
          · have ho1 : (400 : Int) < (o : Int) := by omega
            rw [if_neg ho] at HLF
            clear ho
            go_wp2_with fail
            go_round
            case rel => exact ⟨i + 1, by omega, by go_num, by rw [HLF.out]⟩
            case measure => simp [intOf] <;> omega
        · have i1 : (L2.length : Int) ≤ (i : Int) := by omega
          have htk2 : L2.take i = L2 := List.take_of_length_le (by omega)
          rw [htk2, HCO.out]
          have e0 : (0 : Int) ≤ (CE.length : Int) := by omega
          have e1 : (CE.length : Int) ≤ (TL : Int) := by omega
          have hxs : (TS.extract 0 CE.length).size ≤ 1000000 := by rw [extract_size _ _ _ (by omega)]; omega
          have HTE := Lib.hid (fun wx => lw_trimEnd (TS.extract 0 CE.length) wx (by omega))
          rw [ext_take, HTS.out, HCT.out, ← HPD.out] at HTE
          generalize CE.length = en at *
          go_wp2_with ((go_at_call 83; (with_reducible refine (HTE.out _).mono ?_); rintro e w' ⟨rfl, rfl⟩))
          go_ret
          exact ⟨rfl, HB2.out.trans ((HB.out.trans (HBW.out.mono HB.out.size)).mono HB2.out.size)⟩
end Go.Proofs.YtghjgbkhhoaebaaGreatDoor
