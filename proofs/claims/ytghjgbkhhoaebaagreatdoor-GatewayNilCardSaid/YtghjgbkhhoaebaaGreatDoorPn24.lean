/- Lemmas and walks, part 24. -/
import Derived.Test.YtghjgbkhhoaebaaGreatDoorPn13
import Derived.Test.YtghjgbkhhoaebaaGreatDoorPn7
import Derived.Test.YtghjgbkhhoaebaaGreatDoorPn23
import Derived.Lib.ConvBytes
import Derived.Deep.DeepCutAuto
import Derived.Deep.DeepMust
import Derived.Test.YtghjgbkhhoaebaaGreatDoorPn5
import Derived.Test.YtghjgbkhhoaebaaGreatDoorPn10
namespace Go.Proofs.YtghjgbkhhoaebaaGreatDoor
set_option linter.unusedSimpArgs false
set_option linter.unusedVariables false
open Go.RowKit
open Go.Lib (decDigits)

theorem el_u8 : Elem Tryz.prog 89 5 1 1 := Elem.of Tryz.underlying89 (z := .int .u8 0) (by kernel_rfl) rfl (by omega)
/-- A row of bytes of the call's own. -/
structure BytO (w wr : World) (v : Value) (l : List UInt8) : Prop where
  own : wr.ownsRow w.heap.size 5 1 v l.length (bytesV l)
  bel : Below w.heap.size w wr
theorem byt_push {w wr w3 : World} {v : Value} {l : List UInt8} {c : UInt8} {g cap : Nat} (h : BytO w wr v l) (hown : w3.ownsRow w.heap.size 5 1 (.slice (some ⟨g, 0, none⟩) (l.length + 1) cap) (l.length + 1) (bytesV l ++ (#[u8 c] : Array Value).toList)) (hg : wr.grownBy w3 v.ownBlock) :
    BytO w w3 (.slice (some ⟨g, 0, none⟩) (l.length + 1) cap) (l ++ [c]) :=
  ⟨by simpa [bytesV] using hown, h.bel.grown hg h.bel.size (fun k hk => (h.own.lt k hk).1)⟩
theorem BytO.later {w wr w' : World} {v : Value} {l : List UInt8} (h : BytO w wr v l) (hb : Below wr.heap.size wr w') : BytO w w' v l := ⟨own_below h.own hb, h.bel.trans (hb.mono h.bel.size)⟩
theorem conv_byt (T : TypeId) (hT : Tryz.prog.underlying T = some .string) {w : World} {base : Nat} {v : Value} {l : List UInt8} (h : w.ownsRow base 5 1 v l.length (bytesV l)) : (convert 89 T v).run Tryz.prog w = .ok (.string (ofL l)) w := by
  rcases own_form h with ⟨rfl, h0⟩ | ⟨g, cap, rfl, _, _, _, hc⟩
  · have : l = [] := List.eq_nil_of_length_eq_zero h0
    subst this
    rw [run_convert_bytes_string w _ _ 5 none 0 0 Tryz.underlying89 Tryz.underlying5 hT]
    rfl
  · refine run_convert_bytes_back (P := Tryz.prog) w 89 T 5 ⟨g, 0, none⟩ cap l Tryz.underlying89 Tryz.underlying5 hT (fun j hj => ?_)
    have : (⟨g, 0, none⟩ : Addr).add j = ⟨g, j, none⟩ := by
      unfold Addr.add; split
      · rename_i h; subst h; rfl
      · simp
    rw [this]
    exact hc j _ (by simp [hj])
theorem keep_snoc : ∀ (L acc : Bs) (c : UInt8), keepN acc (L ++ [c]) = if isLetter (num c) || (!(keepN acc L).isEmpty && inN c) then keepN acc L ++ [c] else keepN acc L
  | [], acc, c => by simp [keepN]
  | x :: L, acc, c => by
    rw [List.cons_append, keepN, keepN]
    exact keep_snoc L _ c
theorem keep_le (L : Bs) : (keepN [] L).length ≤ L.length := by have := keep_len L []; simpa using this
/-- The base's bytes, in a row that holds still. -/
def BytR (w wr : World) (v : Value) (l : Bs) : Prop := ∃ g cap, v = .slice (some ⟨g, 0, none⟩) l.length cap ∧ l.length ≤ cap ∧ Row wr (some ⟨g, 0, none⟩) (bytesV l) ∧ Below w.heap.size w wr
theorem BytO.reads {w wr : World} {v : Value} {l : Bs} (h : BytO w wr v l) (hl : 0 < l.length) : BytR w wr v l := by
  obtain ⟨g, cap, rfl, hc, hg⟩ := own_pos h.own hl
  obtain ⟨A, c, e, hr⟩ := own_row h.own
  injection e with e1 e2 e3
  subst e1; subst e3
  exact ⟨g, cap, rfl, hc, hr, h.bel⟩
theorem byt_new {w wr : World} (hb : Below w.heap.size w wr) (l : Bs) (fr : Nat × Nat) : BytR w (wr.alloc (.cells (bytesV l).toArray 5 fr)) (.slice (some ⟨wr.heap.size, 0, none⟩) l.length l.length) l :=
  ⟨_, _, rfl, Nat.le_refl _, Row.mk _ _ _ _ (by simp) fun j v hv => by rw [World.cell?_alloc_mark]; simpa using hv, hb.alloc hb.size _⟩
theorem conv_row (T : TypeId) (hT : Tryz.prog.underlying T = some .string) {w : World} {g : Nat} (cap : Nat) {l : Bs} (h : Row w (some ⟨g, 0, none⟩) (bytesV l)) (k : Nat) (hk : k ≤ l.length) : (convert 89 T (.slice (some ⟨g, 0, none⟩) k cap)).run Tryz.prog w = .ok (.string (ofL (l.take k))) w := by
  have hlen : (l.take k).length = k := by rw [List.length_take]; omega
  have := run_convert_bytes_back (P := Tryz.prog) w 89 T 5 ⟨g, 0, none⟩ cap (l.take k) Tryz.underlying89 Tryz.underlying5 hT (fun j hj => by
    have hj2 : j < l.length := by omega
    have e : (⟨g, 0, none⟩ : Addr).add j = ⟨g, j, none⟩ := by
      unfold Addr.add; split
      · rename_i h; subst h; rfl
      · simp
    obtain ⟨b, off, e1, hc⟩ := h.cell (k := j) (by simpa using hj2)
    simp only [Option.some.injEq, Addr.mk.injEq] at e1
    obtain ⟨rfl, rfl, _⟩ := e1
    rw [e]
    rw [Nat.zero_add] at hc
    rw [hc, List.getElem_map, List.getElem_take])
  rw [hlen] at this
  exact this
theorem nth_len (b : Bs) {n : Nat} (hn : n < 100000) : (nthN b n).length ≤ 21 := by
  have := dec_len_lt 4 n (by simpa using hn)
  unfold nthN
  split <;> simp <;> omega
theorem taken_mem {l ps : List Bs} {s : Bs} (h : ∀ x, x ∈ ps ↔ x ∈ l.map lowerL) : decide (lowerL s ∈ ps) = takenB s l := by
  unfold takenB
  rw [Bool.eq_iff_iff, decide_eq_true_iff, h, List.any_eq_true, List.mem_map]
  simp
/-- What Nick gives. -/
def nickF (name : Bs) (l : List Bs) : Bs × Int := if 1000 < l.length then ([], 9) else (chooseN name l, 0)
theorem take_byteN (s : ByteArray) (k : Nat) (h : k < s.size) : (toL s).take (k + 1) = (toL s).take k ++ [s[k]'h] := by
  have hl : k < (toL s).length := by rw [toL_length]; exact h
  rw [List.take_succ_eq_append_getElem hl, toL_getElem s k h]
theorem run_mkm (T K E : TypeId) (hT : Tryz.prog.underlying T = some (.map K E)) (w : World) (n : Int) : (Instr.makeMap T (some (.int .i64 n))).run Tryz.prog w = .ok (.map (some w.heap.size)) (w.alloc (.map #[] 0)) := by
  simp [Instr.makeMap, newObj, Sem.run_bind, run_underlying hT, asInt]
  rfl

set_option maxHeartbeats 8000000 in
set_option maxRecDepth 100000 in
theorem gw_nick (name : ByteArray) (A : Option Addr) (l : List Bs) (c : Nat) (w : World) (ht : TabN w) (hr : Row w A (strsL l)) (hn : name.size ≤ 1000) (hl : l.length ≤ 1000000) (hx : ∀ x ∈ l, x.length ≤ maxLen) :
    Calls Tryz.prog 33 #[.string name, .slice A l.length c] w fun e w' => e = .returned (.tuple #[.string (ofL (nickF (toL name) l).1), .int .i64 (nickF (toL name) l).2]) ∧ Below w.heap.size w w' := by
  have HT := Lib.hid ht; have HR := Lib.hid hr; have HX := Lib.hid hx; clear ht hr hx
  by_cases h1 : 1000 < l.length
  · have h1' : (1000 : Int) < (l.length : Int) := by omega
    have HV := Lib.hid (show nickF (toL name) l = ([], 9) from by unfold nickF; rw [if_pos h1])
    clear h1
    go_enter Tryz.func33, Tryz.ntmps33
    go_wp2_with fail
    go_ret2
    exact ⟨by rw [HV.out]; rfl, Below.refl _ _⟩
  · have h1' : (l.length : Int) ≤ 1000 := by omega
    have HV := Lib.hid (show nickF (toL name) l = (chooseN (toL name) l, 0) from by unfold nickF; rw [if_neg h1])
    have HKL := Lib.hid (fun k => keep_le ((toL name).take k))
    go_enter Tryz.func33, Tryz.ntmps33
    go_wp2_with fail
    go_loopw [20, 6, 7, 8] (fun v20 v6 _ _ wr => ∃ k : Nat, k ≤ name.size ∧ v20 = .int .i64 (k : Int) ∧ BytO w wr v6 (keepN [] ((toL name).take k))) (fun v20 _ _ _ _ => name.size - (intOf v20).toNat)
    case atStart => exact ⟨0, by omega, rfl, World.ownsRow_nil _ _ _ _, Below.refl _ _⟩
    case round =>
      obtain ⟨k, hk, rfl, hb⟩ := hrel
      have HB := Lib.hid hb
      have k0 : (0 : Int) ≤ (k : Int) := by omega
      by_cases hlt : k < name.size
      · have k1 : (k : Int) < (name.size : Int) := by omega
        have HST := Lib.hid (show keepN [] ((toL name).take (k + 1)) = _ from by rw [take_byteN name k hlt, keep_snoc, inN_num])
        have hkl := HKL.out k
        rw [List.length_take] at hkl
        generalize keepN [] ((toL name).take k) = acc at *
        obtain ⟨A6, c6, rfl, hr6⟩ := own_row hb.own
        have hown := HB.out.own
        have hsz := HB.out.bel.size
        have hae : ((acc.length : Int) > 0 ∧ acc.isEmpty = false) ∨ ((acc.length : Int) ≤ 0 ∧ acc.isEmpty = true) := by
          cases acc with
          | nil => exact .inr ⟨by simp, rfl⟩
          | cons a r => exact .inl ⟨by simp, rfl⟩
        clear hb hr6
        rcases hil : isLetter (num (name[k]'hlt)) with _ | _
        all_goals rcases hin : inNI (num (name[k]'hlt)) with _ | _
        all_goals rcases hae with ⟨ha1, ha2⟩ | ⟨ha1, ha2⟩
        all_goals
          have HL1 := Lib.hid hil; have HI1 := Lib.hid hin
          rw [hil, hin, ha2] at HST
          clear hil hin ha2
          go_wp2_with (first | (go_at_call 61; (with_reducible refine (asc_isLetter _ _).mono ?_); rintro e w' ⟨rfl, rfl⟩; rw [HL1.out]) | (go_at_call 62; (with_reducible refine (gw_inNick _ _).mono ?_); rintro e w' ⟨rfl, rfl⟩; rw [HI1.out]) | (at_builtin; (refine wpList_push el_u8 rfl _ _ rfl hown #[.int .u8 (num (name[k]'hlt))] rfl rfl rfl (by simp [Value.oneCell']) (by omega) (by unfold maxLen; omega) hsz ?_); intro g cap w3 hown3 hg3 hat3))
          first
            | (go_roundw
               case rel => exact ⟨k + 1, by omega, by go_num, by rw [HST.out]; exact byt_push HB.out hown3 hg3⟩
               case measure => simp [intOf] <;> omega)
            | (go_roundw
               case rel => exact ⟨k + 1, by omega, by go_num, by rw [HST.out]; exact HB.out⟩
               case measure => simp [intOf] <;> omega)
      · obtain rfl : k = name.size := by omega
        have k1 : (name.size : Int) ≤ (name.size : Int) := by omega
        have hall : (toL name).take name.size = toL name := List.take_of_length_le (by rw [toL_length]; exact Nat.le_refl _)
        rw [hall] at hb HB
        have hkl := keep_le (toL name)
        rw [toL_length] at hkl
        have HBL := Lib.hid (base_len (toL name))
        have HLN := Lib.hid (toL_length name)
        have HBN := Lib.hid (show baseN (toL name) = if keepN [] (toL name) = [] then [103, 117, 101, 115, 116] else keepN [] (toL name) from rfl)
        obtain ⟨A6, c6, rfl, hr6⟩ := own_row hb.own
        go_upto_if 44 with fail
        go_cut [6] (fun s6 wx => BytR w wx s6 (baseN (toL name)))
        case first =>
          rcases hK : keepN [] (toL name) with _ | ⟨x, r⟩
          · rw [hK] at HBN HB
            have HQ := Lib.hid (HBN.out.trans (if_pos rfl))
            clear hb hr6 hK hkl HBN
            have kc := fun (wx : World) (C : Array Value) => Lib.run_convert_bytes_const (P := Tryz.prog) wx 89 5 C 5 5 Tryz.underlying89 Tryz.underlying5
            go_wp2_with fail
            go_meet
            case rel =>
              rw [HQ.out]
              exact byt_new HB.out.bel [103, 117, 101, 115, 116] (5, 6)
          · rw [hK] at HBN HB
            have HQ := Lib.hid (HBN.out.trans (if_neg (by simp)))
            have hl2 : (0 : Int) < ((x :: r).length : Int) := by simp
            have HL2 := Lib.hid hl2
            clear hb hr6 hK hkl HBN
            generalize x :: r = acc at *
            go_wp2_with fail
            go_meet
            case rel => rw [HQ.out]; exact HB.out.reads (by have := HL2.out; omega)
        case rest =>
          clear hb hr6 HB HBN HKL hkl hall
          have HB := Lib.hid hcut
          clear hcut
          have hmk := run_mkm 106 9 4 Tryz.underlying106
          obtain ⟨B, hB⟩ : ∃ B, B = baseN (toL name) := ⟨_, rfl⟩
          have HBE := Lib.hid hB
          have hbl := HBL.out
          rw [HLN.out] at hbl
          rw [← hB] at HB hbl
          have hbp : 0 < B.length := by
            obtain ⟨x, r, e, _⟩ := base_ok (toL name)
            rw [hB, e]; simp
          clear hB HBL
          obtain ⟨g, cap, rfl, hcap, hrow, hbel⟩ := HB.out
          have HRB := Lib.hid hrow; have HBB := Lib.hid hbel; clear HB hrow hbel
          go_upto_region 14 with fail
          have hst : StrMap (wc.alloc (.map #[] 0)) wc.heap.size [] := ⟨#[], 0, heap_alloc_new _ _, rfl⟩
          have HW1 := Lib.hid (show Below wc.heap.size wc (wc.alloc (.map #[] 0)) from (Below.refl _ _).alloc (Nat.le_refl _) _)
          generalize wc.alloc (.map #[] 0) = w2 at *
          clear hmk
          have HS2 := Lib.hid hst
          clear hst
          go_upto_region 15 with fail
          go_loopw [52, 11] (fun v52 _ wr => ∃ k : Nat, k ≤ l.length ∧ v52 = .int .i64 (k : Int) ∧ ∃ ps, StrMap wr wc.heap.size ps ∧ (∀ x, x ∈ ps ↔ x ∈ (l.take k).map lowerL) ∧ Below wc.heap.size wc wr) (fun v52 _ _ => l.length - (intOf v52).toNat)
          case atStart => exact ⟨0, by omega, rfl, [], HS2.out, by simp, HW1.out⟩
          case round =>
            obtain ⟨k, hk, rfl, ps, hsm, hps, hbl2⟩ := hrel
            have HSM := Lib.hid hsm; have HPS := Lib.hid hps; have HBL2 := Lib.hid hbl2
            clear hsm hps hbl2
            have k0 : (0 : Int) ≤ (k : Int) := by omega
            by_cases hlt : k < l.length
            · have k1 : (k : Int) < (l.length : Int) := by omega
              have HRW : Row wr A (strsL l) := HR.out.below (HBB.out.trans (HBL2.out.mono HBB.out.size))
              obtain ⟨bb, off, rfl, hcell⟩ := HRW.cell (k := k) (by simpa using hlt)
              rw [List.getElem_map] at hcell
              have HM := Lib.hid (HX.out l[k] (List.getElem_mem hlt))
              have HTK := Lib.hid (show l.take (k + 1) = l.take k ++ [l[k]] from List.take_succ_eq_append_getElem hlt)
              generalize l[k] = y at *
              clear HRW
              go_wp2_with ((go_at_call 72; (with_reducible refine (asc_lower (ofL y) wr (by rw [ofL_size]; exact HM.out)).mono ?_); rintro e w4 ⟨rfl, hb4⟩; rw [toL_ofL]; obtain ⟨w5, qs, hput, hsm5, hmem5, hg5⟩ := StrMap.put (M := 106) Tryz.underlying9 Tryz.underlying106 (HSM.out.below hb4) (ofL (lowerL y))))
              have HP5 := Lib.hid (⟨hsm5, hmem5, hg5, hb4⟩ : _ ∧ _ ∧ _ ∧ _)
              clear hsm5 hmem5 hg5 hb4 hput
              go_roundw
              case rel =>
                obtain ⟨g1, g2, g3, g4⟩ := HP5.out
                have hz := HBL2.out.size
                refine ⟨k + 1, by omega, by go_num, qs, g1, fun x => ?_, (HBL2.out.trans (g4.mono hz)).grown g3 (by have := g4.size; omega) (fun k hk => by simp at hk; omega)⟩
                rw [g2, HPS.out, HTK.out, toL_ofL]
                simp
              case measure => simp [intOf] <;> omega
            · obtain rfl : k = l.length := by omega
              have k1 : (l.length : Int) ≤ (l.length : Int) := by omega
              have HPL := Lib.hid (show ∀ x, x ∈ ps ↔ x ∈ l.map lowerL from fun x => by rw [HPS.out, List.take_of_length_le (Nat.le_refl _)])
              have HTW := Lib.hid (HT.out.below (HBB.out.trans (HBL2.out.mono HBB.out.size)))
              have HRW := Lib.hid (HRB.out.below HBL2.out)
              have HWW := Lib.hid (HBB.out.trans (HBL2.out.mono HBB.out.size))
              have hzz := HBL2.out.size
              clear HPS HRB HBB HBL2 HT HR HX HS2 HW1
              obtain ⟨w0, rfl⟩ : ∃ w0 : World, w0 = wr := ⟨_, rfl⟩
              have hcv := conv_row 9 Tryz.underlying9 cap HRW.out ((min (B.length : Int) 16).toNat) (by omega)
              rw [show B.take ((min (B.length : Int) 16).toNat) = nthN B 1 from by
                unfold nthN; rw [if_pos (by omega)]
                rcases Nat.le_total B.length 16 with h | h
                · rw [show (min (B.length : Int) 16).toNat = B.length from by omega, List.take_of_length_le (Nat.le_refl _), List.take_of_length_le h]
                · rw [show (min (B.length : Int) 16).toNat = 16 from by omega]] at hcv
              go_upto_region 21 with fail
              obtain ⟨F, hF⟩ : ∃ F, F = firstN B l 3000 1 := ⟨_, rfl⟩
              obtain ⟨f1, f2, f3, f4⟩ := choose_free B l (by omega)
              rw [← hF] at f1 f2 f3 f4
              have HF1 := Lib.hid f1; have HF4 := Lib.hid f4
              have HFC := Lib.hid (show chooseN (toL name) l = nthN B F from by unfold chooseN; rw [hF, HBE.out])
              clear hF hcv f1 f4
              go_loopw [12, 13, 14] (fun v12 v13 _ wr => ∃ n : Nat, 2 ≤ n ∧ v13 = .int .i64 (n : Int) ∧ v12 = .string (ofL (nthN B (n - 1))) ∧ (∀ k, 1 ≤ k → k < n - 1 → takenB (nthN B k) l = true) ∧ Below w0.heap.size w0 wr) (fun _ v13 _ _ => 3000 - (intOf v13).toNat)
              case atStart => exact ⟨2, by omega, rfl, rfl, fun k h1 h2 => by omega, Below.refl _ _⟩
              case round =>
                obtain ⟨n, hn2, rfl, rfl, hall, hbx⟩ := hrel
                have hnF : n ≤ F + 1 := by
                  rcases Nat.lt_or_ge (F + 1) n with h | h
                  · have := hall F f2 (by omega); rw [HF1.out] at this; cases this
                  · exact h
                have HAL := Lib.hid hall; have HBX := Lib.hid hbx
                clear hall hbx
                have hn0 : (0 : Int) ≤ (n : Int) := by omega
                have hnb : (n : Int) ≤ 2001 := by omega
                have hln : (nthN B (n - 1)).length ≤ 1000000 := Nat.le_trans (nth_len B (by omega)) (by omega)
                have HLO := Lib.hid (fun wx => asc_lower (ofL (nthN B (n - 1))) wx (by rw [ofL_size]; unfold maxLen; omega))
                rw [toL_ofL] at HLO
                have HLK := Lib.hid (fun wx (hx : Below wr.heap.size wr wx) => StrMap.look (M := 106) (E := 4) Tryz.underlying9 Tryz.underlying106 (fun w => by rfl) ((HSM.out.below HBX.out).below hx) (ofL (lowerL (nthN B (n - 1)))))
                have hmem : decide (toL (ofL (lowerL (nthN B (n - 1)))) ∈ ps) = takenB (nthN B (n - 1)) l := by
                  rw [toL_ofL]; exact taken_mem HPL.out
                simp only [hmem] at HLK
                clear hmem
                have HCV := Lib.hid (fun (wx : World) (hx : Below w0.heap.size w0 wx) (d : Int) (h0 : 0 ≤ d) (h1 : d ≤ 16) => conv_row 9 Tryz.underlying9 cap (HRW.out.below hx) ((min (B.length : Int) (16 - d)).toNat) (by omega))
                have HNX := Lib.hid (show nthN B (n + 1 - 1) = B.take (16 - (decDigits n).length) ++ decDigits n from by
                  rw [Nat.add_sub_cancel]; unfold nthN; rw [if_neg (by omega)])
                have HTC := Lib.hid (show B.take ((min (B.length : Int) (16 - ((ofL (decDigits n)).size : Int))).toNat) = B.take (16 - (decDigits n).length) from by
                  rw [ofL_size]
                  have := dec_len_lt 4 n (by omega)
                  rcases Nat.le_total B.length (16 - (decDigits n).length) with h | h
                  · rw [show (min (B.length : Int) (16 - ((decDigits n).length : Int))).toNat = B.length from by omega, List.take_of_length_le (Nat.le_refl _), List.take_of_length_le h]
                  · rw [show (min (B.length : Int) (16 - ((decDigits n).length : Int))).toNat = 16 - (decDigits n).length from by omega])
                have HDL := Lib.hid (show (decDigits n).length ≤ 5 from dec_len_lt 4 n (by omega))
                rcases htk : takenB (nthN B (n - 1)) l with _ | _
                · rw [htk] at HLK
                  have hnF2 : F = n - 1 := by
                    rcases Nat.lt_or_ge (n - 1) F with h | h
                    · have := HF4.out (n - 1) (by omega) h; rw [htk] at this; cases this
                    · omega
                  have HFF := Lib.hid hnF2
                  clear htk hnF2
                  generalize hnk : nthN B (n - 1) = nk at *
                  have HNK := Lib.hid hnk
                  clear hnk
                  go_wp2_with ((go_at_call 72; (with_reducible refine (HLO.out _).mono ?_); rintro e w4 ⟨rfl, hb4⟩; have hlk := HLK.out w4 hb4))
                  go_ret2
                  exact ⟨by rw [HV.out, HFC.out, HFF.out, HNK.out]; rfl, HWW.out.trans ((HBX.out.trans (hb4.mono HBX.out.size)).mono HWW.out.size)⟩
                · rw [htk] at HLK
                  have HTK := Lib.hid htk
                  clear htk
                  obtain ⟨nk, hnk⟩ : ∃ nk, nk = nthN B (n - 1) := ⟨_, rfl⟩
                  rw [← hnk] at HLO HLK hln ⊢
                  clear hnk
                  go_wp2_with (first | (go_at_call 72; (with_reducible refine (HLO.out _).mono ?_); rintro e w4 ⟨rfl, hb4⟩; have hlk := HLK.out w4 hb4) | (go_at_call 48; (with_reducible refine (asc_digits n (by omega) _ (HTW.out.below ((HBX.out).trans (hb4.mono HBX.out.size)))).mono ?_); rintro e w5 ⟨rfl, hb5⟩; go_must (have hsz : (ofL (decDigits n)).size ≤ 5 := (by rw [ofL_size]; exact HDL.out); have hcv := HCV.out w5 ((HBX.out.trans (hb4.mono HBX.out.size)).trans (hb5.mono (Nat.le_trans HBX.out.size hb4.size))) ((ofL (decDigits n)).size : Int) (by omega) (by omega); rw [HTC.out] at hcv; have htl : (ofL (B.take (16 - (decDigits n).length))).size ≤ 16 := (by rw [ofL_size, List.length_take]; omega))))
                  have HB6 := Lib.hid ((HBX.out.trans (hb4.mono HBX.out.size)).trans (hb5.mono (Nat.le_trans HBX.out.size hb4.size)))
                  clear hcv hsz htl hb4 hb5
                  go_roundw
                  case rel =>
                    refine ⟨n + 1, by omega, by go_num, by rw [HNX.out, ofL_append], fun k h1 h2 => ?_, HB6.out⟩
                    rcases Nat.lt_or_ge k (n - 1) with h | h
                    · exact HAL.out k h1 h
                    · rw [show k = n - 1 from by omega]; exact HTK.out
                  case measure => simp [intOf] <;> omega
end Go.Proofs.YtghjgbkhhoaebaaGreatDoor

namespace Go.Proofs.YtghjgbkhhoaebaaGreatDoor
set_option linter.unusedSimpArgs false
set_option linter.unusedVariables false
open Go.RowKit

/-- The greatest code points of one to four bytes. -/
def TabB (w : World) : Prop := Lib.TabIs Tryz.prog w "bulletin/utf8.bounds" .i32 [127, 2047, 65535, 1114111]
theorem TabB.below {w w' : World} (h : TabB w) (hb : Below w.heap.size w w') : TabB w' := Lib.tabBelow_of_tabIs h w' hb
theorem TabB.at {w : World} (h : TabB w) (i : Nat) (hi : i < 4) : w.cell? ⟨1, i, none⟩ = some (.int .i32 (([127, 2047, 65535, 1114111] : List Int).getD i 0)) := Lib.TabIs.cell h (by kernel_rfl) i hi
theorem made_oneV {v : Value} (hv : v.cells = #[v]) (n : Nat) : madeCells v.cells n = (List.replicate n v).toArray := by
  rw [hv]
  apply Array.ext'
  apply List.ext_getElem
  · simp [madeCells]
  · intro k h1 h2
    have : k % 1 = 0 := by omega
    simp [madeCells, this]
theorem mk_3 (w : World) : (Instr.makeSlice 89 (.int .i64 3) (.int .i64 3)).run Tryz.prog w = .ok (.slice (some ⟨w.heap.size, 0, none⟩) 3 3) (w.alloc (.cells #[.int .u8 0, .int .u8 0, .int .u8 0] 5)) := by
  obtain ⟨i, hi', h0, h1, h2⟩ := info_parts (show (Tryz.prog.info? 5).map (fun i => (i.zero, i.size, i.bytes)) = some (some (.int .u8 0), 1, 1) by kernel_rfl)
  rw [run_makeSlice (P := Tryz.prog) w 89 5 i (.int .u8 0) Tryz.underlying89 hi' h0 .i64 .i64 3 3 (by omega) (by omega) (by rw [h1]; simp) (by rw [h2]; simp) (by omega), h1]
  simp only [Int.reduceToNat, Nat.mul_one]
  rw [made_oneV rfl]
  rfl
theorem box3v {w : World} {r : Nat} {a b c : Value} {t : TypeId} (h : w.heap[r]? = some (.cells #[a, b, c] t (0, 0))) : w.cell? ⟨r, 0, none⟩ = some a ∧ w.cell? ⟨r, 1, none⟩ = some b ∧ w.cell? ⟨r, 2, none⟩ = some c ∧ r < w.heap.size :=
  ⟨by rw [Lib.cell_of_heap h]; rfl, by rw [Lib.cell_of_heap h]; rfl, by rw [Lib.cell_of_heap h]; rfl, heap_lt h⟩
theorem box3f {w : World} {r : Nat} {a b c : Value} {t : TypeId} (h : w.heap[r]? = some (.cells #[a, b, c] t (0, 0))) : w.frozen? ⟨r, 0, none⟩ = false ∧ w.frozen? ⟨r, 1, none⟩ = false ∧ w.frozen? ⟨r, 2, none⟩ = false :=
  ⟨Lib.frozen_of_heap h 0, Lib.frozen_of_heap h 1, Lib.frozen_of_heap h 2⟩
set_option maxHeartbeats 8000000 in
set_option maxRecDepth 100000 in
theorem u8_encR (w : World) (ht : TabB w) : Calls Tryz.prog 125 #[.int .i32 65533] w fun e w' => e = .returned (.tuple #[.string ⟨#[239, 191, 189]⟩, .int .i64 0]) ∧ Below w.heap.size w w' := by
  have b0 := ht.at 0 (by omega)
  have b1 := ht.at 1 (by omega)
  have b2 := ht.at 2 (by omega)
  have b3 := ht.at 3 (by omega)
  simp only [List.getD_cons_zero, List.getD_cons_succ] at b0 b1 b2 b3
  go_enter Tryz.func125, Tryz.ntmps125
  go_wp2_with fail
  go_loop [4] (fun v => v = .int .i64 2 ∨ v = .int .i64 3) (fun v => 4 - (intOf v).toNat)
  case atStart => exact .inl rfl
  case round =>
    rcases hrel with rfl | rfl
    · go_wp2_with fail
      go_round
      case rel => exact .inr rfl
      case measure => simp [intOf]
    · have hmk : ∀ wx : World, (Instr.makeSlice 89 (.int .i64 3) (.int .i64 3)).run Tryz.prog wx = .ok (.slice (some ⟨wx.heap.size, 0, none⟩) 3 3) (wx.alloc (.cells #[.int .u8 0, .int .u8 0, .int .u8 0] 5)) := mk_3
      go_upto_region 9 with fail
      have HC := Lib.hid (heap_alloc_new w (.cells #[.int .u8 0, .int .u8 0, .int .u8 0] 5))
      have HB := Lib.hid (show Below w.heap.size w (w.alloc (.cells #[.int .u8 0, .int .u8 0, .int .u8 0] 5)) from (Below.refl _ _).alloc (Nat.le_refl _) _)
      generalize w.alloc (.cells #[.int .u8 0, .int .u8 0, .int .u8 0] 5) = W at *
      clear hmk
      go_upto_region 10 with fail
      go_loopw [0, 6] (fun v0 v6 wr => ((v6 = .int .i64 2 ∧ v0 = .int .i32 65533 ∧ wr.heap[w.heap.size]? = some (.cells #[.int .u8 0, .int .u8 0, .int .u8 0] 5 (0, 0))) ∨ (v6 = .int .i64 1 ∧ v0 = .int .i32 1023 ∧ wr.heap[w.heap.size]? = some (.cells #[.int .u8 0, .int .u8 0, .int .u8 189] 5 (0, 0))) ∨ (v6 = .int .i64 0 ∧ v0 = .int .i32 15 ∧ wr.heap[w.heap.size]? = some (.cells #[.int .u8 0, .int .u8 191, .int .u8 189] 5 (0, 0)))) ∧ Below w.heap.size w wr) (fun _ v6 _ => (intOf v6).toNat)
      case atStart => exact ⟨.inl ⟨rfl, rfl, HC.out⟩, HB.out⟩
      case round =>
        obtain ⟨hrel, hbw⟩ := hrel
        have HBW := Lib.hid hbw; clear hbw HC HB
        rcases hrel with ⟨rfl, rfl, hc⟩ | ⟨rfl, rfl, hc⟩ | ⟨rfl, rfl, hc⟩
        all_goals
          have HC := Lib.hid hc
          obtain ⟨c0, c1, c2, cz⟩ := box3v hc
          obtain ⟨f0, f1, f2⟩ := box3f hc
          clear hc
        · go_wp2_with fail
          go_roundw
          case rel => exact ⟨.inr (.inl ⟨rfl, rfl, heap_set HC.out (.int .u8 189)⟩), HBW.out.setCell (p := ⟨w.heap.size, 2, none⟩) (Nat.le_refl _) _⟩
          case measure => simp [intOf]
        · go_wp2_with fail
          go_roundw
          case rel => exact ⟨.inr (.inr ⟨rfl, rfl, heap_set HC.out (.int .u8 191)⟩), HBW.out.setCell (p := ⟨w.heap.size, 1, none⟩) (Nat.le_refl _) _⟩
          case measure => simp [intOf]
        · have hc3 := heap_set HC.out (i := 0) (.int .u8 239)
          have hcv := conv_row 9 Tryz.underlying9 3 (w := wr.setCell ⟨w.heap.size, 0, none⟩ (.int .u8 239)) (g := w.heap.size) (l := [239, 191, 189]) (Row.mk _ _ _ _ (heap_lt hc3) fun j v hv => by
            rw [Lib.cell_of_heap hc3, Nat.zero_add]
            rcases j with _ | _ | _ | j
            · exact hv
            · exact hv
            · exact hv
            · simp at hv) 3 (Nat.le_refl _)
          rw [show ([239, 191, 189] : List UInt8).take 3 = [239, 191, 189] from rfl] at hcv
          clear hc3
          have hb1 : bits BinOp.and IntKind.i64 480 255 = 224 := by decide +kernel
          have hb2 : bits BinOp.or IntKind.i64 224 15 = 239 := by decide +kernel
          go_wp2_with fail

          go_ret2
          exact ⟨rfl, HBW.out.setCell (p := ⟨w.heap.size, 0, none⟩) (Nat.le_refl _) _⟩
end Go.Proofs.YtghjgbkhhoaebaaGreatDoor
