/- The walks over the reference's ToLine and FromLine. -/
import Derived.Test.YtcohgjdijhogbaaDoorLineV
import Derived.Lib.ConvBytes
namespace Go.Proofs.YtcohgjdijhogbaaDoor
set_option linter.unusedSimpArgs false
set_option linter.unusedVariables false
open Go.RowKit

theorem el_u8 : Elem Tryd.prog 36 5 1 1 := Elem.of Tryd.underlying36 (z := .int .u8 0) (by kernel_rfl) rfl (by omega)
/-- A row of bytes of the call's own. -/
structure BytO (w wr : World) (v : Value) (l : List UInt8) : Prop where
  own : wr.ownsRow w.heap.size 5 1 v l.length (bytesV l)
  bel : Below w.heap.size w wr
theorem byt_new (w : World) : BytO w (w.alloc (.cells #[] 5)) (.slice (some ⟨w.heap.size, 0, none⟩) 0 0) [] :=
  ⟨⟨rfl, .inr ⟨w.heap.size, 0, #[], rfl, Nat.le_refl _, heap_alloc_new _ _, Nat.le_refl _, by unfold maxLen; omega, rfl, rfl⟩⟩, (Below.refl _ _).alloc (Nat.le_refl _) _⟩
theorem byt_push {w wr w3 : World} {v : Value} {l : List UInt8} {c : UInt8} {g cap : Nat} (h : BytO w wr v l) (hown : w3.ownsRow w.heap.size 5 1 (.slice (some ⟨g, 0, none⟩) (l.length + 1) cap) (l.length + 1) (bytesV l ++ (#[u8 c] : Array Value).toList)) (hg : wr.grownBy w3 v.ownBlock) :
    BytO w w3 (.slice (some ⟨g, 0, none⟩) (l.length + 1) cap) (l ++ [c]) :=
  ⟨by simpa [bytesV] using hown, h.bel.grown hg h.bel.size (fun k hk => (h.own.lt k hk).1)⟩
theorem conv_byt (T : TypeId) (hT : Tryd.prog.underlying T = some .string) {w : World} {base : Nat} {v : Value} {l : List UInt8} (h : w.ownsRow base 5 1 v l.length (bytesV l)) : (convert 36 T v).run Tryd.prog w = .ok (.string (ofL l)) w := by
  rcases own_form h with ⟨rfl, h0⟩ | ⟨g, cap, rfl, _, _, _, hc⟩
  · have : l = [] := List.eq_nil_of_length_eq_zero h0
    subst this
    rw [run_convert_bytes_string w _ _ 5 none 0 0 Tryd.underlying36 Tryd.underlying5 hT]
    rfl
  · refine run_convert_bytes_back (P := Tryd.prog) w 36 T 5 ⟨g, 0, none⟩ cap l Tryd.underlying36 Tryd.underlying5 hT (fun j hj => ?_)
    have : (⟨g, 0, none⟩ : Addr).add j = ⟨g, j, none⟩ := by
      unfold Addr.add; split
      · rename_i h; subst h; rfl
      · simp
    rw [this]
    exact hc j _ (by simp [hj])
theorem crlf_snoc : ∀ (l : List UInt8) (c : UInt8), crlf (l ++ [c]) = crlf l ++ (if c = 10 then [13, 10] else [c])
  | [], c => by simp [crlf]
  | d :: r, c => by
    rw [List.cons_append, crlf, crlf, crlf_snoc r c]
    by_cases h : d = 10 <;> simp [h]
theorem last_at (s : ByteArray) (h : 0 < s.size) : lastOk (toL s) = decide (s[s.size - 1]'(by omega) = 10) := by
  rw [last_ok s (by omega), List.getLast?_eq_getElem?, toL_length, byteAt s (s.size - 1) (by omega)]
  simp
/-- What the reference's ToLine has laid behind k bytes. -/
def TlRel (s : ByteArray) (w : World) (v4 v5 : Value) (wr : World) : Prop := ∃ (k : Nat), k ≤ s.size ∧ v5 = .int .i64 (k : Int) ∧ BytO w wr v4 (crlf ((toL s).take k)) ∧ ((toL s).take k).contains 13 = false
theorem take_byte (s : ByteArray) (k : Nat) (h : k < s.size) : (toL s).take (k + 1) = (toL s).take k ++ [s[k]'h] := by
  have hl : k < (toL s).length := by rw [toL_length]; exact h
  rw [List.take_succ_eq_append_getElem hl, toL_getElem s k h]
set_option maxHeartbeats 4000000 in
set_option maxRecDepth 100000 in
theorem rf_toLine (s : ByteArray) (w : World) (hs : s.size ≤ 900000) : Calls Tryd.prog 7 #[.string s] w fun e w' => e = .returned (.tuple #[.string (ofL (tlF (toL s)).1), .int .i64 (tlF (toL s)).2]) ∧ Below w.heap.size w w' := by
  have HL := Lib.hid (toL_length s)
  have HV0 := Lib.hid (show tlF (toL s) = if 65536 < (toL s).length then ([], 5) else if (toL s).contains 13 then ([], 6) else if lastOk (toL s) = false then ([], 4) else (crlf (toL s), 0) from rfl)
  rw [HL.out] at HV0
  by_cases h1 : 65536 < s.size
  · have HV := Lib.hid (show tlF (toL s) = ([], 5) from by rw [HV0.out, if_pos h1])
    have h1' : (65536 : Int) < (s.size : Int) := by omega
    clear h1
    go_enter Tryd.func7, Tryd.ntmps7
    go_wp2_with fail
    go_ret2
    exact ⟨by rw [HV.out]; rfl, Below.refl _ _⟩
  · have h1' : (s.size : Int) ≤ 65536 := by omega
    have HVC := Lib.hid (fun (h : (toL s).contains 13 = true) => show tlF (toL s) = ([], 6) from by rw [HV0.out, if_neg h1, if_pos h])
    have HVN := Lib.hid (fun (h : (toL s).contains 13 = false) => show tlF (toL s) = if lastOk (toL s) = false then ([], 4) else (crlf (toL s), 0) from by rw [HV0.out, if_neg h1, h]; rfl)
    have HN0 := Lib.hid (byt_new w)
    clear HV0 h1
    go_enter Tryd.func7, Tryd.ntmps7
    go_wp2_with fail
    go_loopw [4, 5] (fun v4 v5 wr => TlRel s w v4 v5 wr) (fun _ v5 _ => s.size - (intOf v5).toNat)
    case atStart => exact ⟨0, by omega, rfl, HN0.out, rfl⟩
    case round =>
      obtain ⟨k, hk, rfl, hb, hc⟩ := hrel
      have HB := Lib.hid hb; have HC := Lib.hid hc
      clear hb hc HN0
      obtain ⟨wo, rfl⟩ : ∃ wo : World, wo = wr := ⟨_, rfl⟩
      have k0 : (0 : Int) ≤ (k : Int) := by omega
      have hcl := crlf_len ((toL s).take k)
      rw [List.length_take, HL.out] at hcl
      by_cases hlt : k < s.size
      · have k1 : (k : Int) < (s.size : Int) := by omega
        have HT := Lib.hid (take_byte s k hlt)
        by_cases h13 : s[k]'hlt = 13
        · have f1 : (num (s[k]'hlt) == 13) = true := by rw [h13]; rfl
          have HV := Lib.hid (HVC.out (by
            rw [List.contains_iff_mem]
            have hl : k < (toL s).length := by rw [HL.out]; exact hlt
            have := List.getElem_mem hl
            rw [toL_getElem s k hlt, h13] at this; exact this))
          clear h13
          go_wp2_with fail
          go_ret2
          exact ⟨by rw [HV.out]; rfl, HB.out.bel⟩
        · have f1 : (num (s[k]'hlt) == 13) = false := by
            rw [show (num (s[k]'hlt) == 13) = decide ((s[k]'hlt) = 13) from numq _ 13 (by omega)]; exact decide_eq_false h13
          have HCN := Lib.hid (show ((toL s).take (k + 1)).contains 13 = false from by
            rw [HT.out, List.contains_append, HC.out]; simpa using fun e => h13 e.symm)
          have hown := HB.out.own
          have hsz := HB.out.bel.size
          by_cases h10 : s[k]'hlt = 10
          · have f2 : (num (s[k]'hlt) == 10) = true := by rw [h10]; rfl
            have HNX := Lib.hid (show crlf ((toL s).take (k + 1)) = (crlf ((toL s).take k) ++ [13]) ++ [s[k]'hlt] from by rw [HT.out, crlf_snoc, if_pos h10, h10]; simp)
            generalize crlf ((toL s).take k) = acc at *
            clear h13 h10
            go_upto_region 11 with ((at_builtin; refine wpList_push el_u8 rfl _ _ rfl hown #[u8 13] rfl rfl rfl (by simp [Value.oneCell']) (by omega) (by unfold maxLen; omega) hsz ?_; intro g cap w3 hown3 hg3 hat3))
            have HB3 := Lib.hid (byt_push HB.out hown3 hg3)
            have hal : (acc ++ [13]).length = acc.length + 1 := by simp
            have hown4 := HB3.out.own
            have hsz4 := HB3.out.bel.size
            clear hown3 hg3 hat3 hown hsz
            rw [hal] at hown4
            have HAL := Lib.hid hal
            clear hal
            generalize acc ++ [13] = acc2 at *
            have hal2 := HAL.out
            have HB4 := Lib.hid (fun (g' cap' : Nat) (w5 : World) h1 h2 => byt_push (w3 := w5) (g := g') (cap := cap') (c := s[k]'hlt) HB3.out h1 h2)
            rw [HAL.out] at HB4
            clear hal2
            go_wp2_with ((at_builtin; refine wpList_push el_u8 rfl _ _ rfl hown4 #[u8 (s[k]'hlt)] rfl rfl rfl (by simp [Value.oneCell']) (by omega) (by unfold maxLen; omega) hsz4 ?_; intro g2 cap2 w5 hown5 hg5 hat5))
            have HB5 := Lib.hid (HB4.out _ _ _ hown5 hg5)
            clear hown5 hg5 hat5 hown4 hsz4
            go_roundw
            case rel => exact ⟨k + 1, by omega, by go_num, by rw [HNX.out]; exact HB5.out, HCN.out⟩
            case measure => simp [intOf] <;> omega
          · have f2 : (num (s[k]'hlt) == 10) = false := by
              rw [show (num (s[k]'hlt) == 10) = decide ((s[k]'hlt) = 10) from numq _ 10 (by omega)]; exact decide_eq_false h10
            have HNX := Lib.hid (show crlf ((toL s).take (k + 1)) = crlf ((toL s).take k) ++ [s[k]'hlt] from by rw [HT.out, crlf_snoc, if_neg h10])
            generalize crlf ((toL s).take k) = acc at *
            clear h13 h10
            go_wp2_with ((at_builtin; refine wpList_push el_u8 rfl _ _ rfl hown #[u8 (s[k]'hlt)] rfl rfl rfl (by simp [Value.oneCell']) (by omega) (by unfold maxLen; omega) hsz ?_; intro g cap w3 hown3 hg3 hat3))
            have HB3 := Lib.hid (byt_push HB.out hown3 hg3)
            clear hown3 hg3 hat3 hown hsz
            go_roundw
            case rel => exact ⟨k + 1, by omega, by go_num, by rw [HNX.out]; exact HB3.out, HCN.out⟩
            case measure => simp [intOf] <;> omega
      · obtain rfl : k = s.size := by omega
        have hall : (toL s).take s.size = toL s := List.take_of_length_le (by rw [HL.out]; exact Nat.le_refl _)
        have HV := Lib.hid (HVN.out (by rw [← hall]; exact HC.out))
        have hB2 := HB.out
        rw [hall] at hB2
        have HB2 := Lib.hid hB2
        have hcv := conv_byt 9 Tryd.underlying9 hB2.own
        have k1 : (s.size : Int) ≤ (s.size : Int) := by omega
        clear hall hB2 HVN HVC HC hcl
        generalize crlf (toL s) = acc at *
        by_cases hz : s.size = 0
        · have hE := toList_nil hz
          have HW := Lib.hid (show tlF (toL s) = (acc, 0) from by rw [HV.out, last_nil s hz]; rfl)
          clear hz
          go_wp2_with fail
          go_ret2
          exact ⟨by rw [HW.out]; rfl, HB2.out.bel⟩
        · have hE := toList_cons hz
          have hp : 0 < s.size := by omega
          have hp1 : s.size - 1 < s.size := by omega
          have HLA := Lib.hid (last_at s hp)
          have k2 : ((s.size : Int) - 1).toNat = s.size - 1 := by omega
          have k3 : (0 : Int) ≤ (s.size : Int) - 1 := by omega
          have k4 : (s.size : Int) - 1 < (s.size : Int) := by omega
          by_cases h10 : s[s.size - 1]'hp1 = 10
          · have f2 : (num (s[s.size - 1]'hp1) != 10) = false := by rw [h10]; rfl
            have HW := Lib.hid (show tlF (toL s) = (acc, 0) from by rw [HV.out, HLA.out, decide_eq_true h10]; rfl)
            clear h10 hz
            go_wp2_with fail
            go_ret2
            exact ⟨by rw [HW.out]; rfl, HB2.out.bel⟩
          · have f2 : (num (s[s.size - 1]'hp1) != 10) = true := by
              rw [bne, show (num (s[s.size - 1]'hp1) == 10) = decide ((s[s.size - 1]'hp1) = 10) from numq _ 10 (by omega), decide_eq_false h10]; rfl
            have HW := Lib.hid (show tlF (toL s) = ([], 4) from by rw [HV.out, HLA.out, decide_eq_false h10]; rfl)
            clear h10 hz
            go_wp2_with fail
            go_ret2
            exact ⟨by rw [HW.out]; rfl, HB2.out.bel⟩
end Go.Proofs.YtcohgjdijhogbaaDoor
