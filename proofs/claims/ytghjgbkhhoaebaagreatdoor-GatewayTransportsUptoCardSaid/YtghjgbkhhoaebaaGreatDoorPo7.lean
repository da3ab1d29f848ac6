/- Lemmas and walks, part 7. -/
import Derived.Test.YtghjgbkhhoaebaaGreatDoorPo6
namespace Go.Proofs.YtghjgbkhhoaebaaGreatDoor
set_option linter.unusedSimpArgs false
set_option linter.unusedVariables false

theorem endF_ge (L : List UInt8) (i : Nat) : i ≤ endF L i := by unfold endF; omega
theorem endF_le (L : List UInt8) (i : Nat) (h : i ≤ L.length) : endF L i ≤ L.length := by
  unfold endF
  have : ((L.drop i).takeWhile (· != 10)).length ≤ (L.drop i).length := (List.takeWhile_sublist _).length_le
  rw [List.length_drop] at this; omega
/-- Where the lines begin and end, from i on. -/
def spansU : Nat → List UInt8 → Nat → List (Nat × Nat)
  | 0, _, _ => []
  | k + 1, L, i => if i < L.length then (i, endF L i) :: spansU k L (endF L i + 1) else []
def spans (L : List UInt8) (i : Nat) : List (Nat × Nat) := spansU (L.length + 1) L i
theorem spansU_fuel : ∀ (n m : Nat) (L : List UInt8) (i : Nat), L.length < n + i → L.length < m + i → spansU n L i = spansU m L i
  | 0, 0, _, _, _, _ => rfl
  | 0, m + 1, L, i, h, _ => by rw [spansU, spansU, if_neg (by omega)]
  | n + 1, 0, L, i, _, h => by rw [spansU, spansU, if_neg (by omega)]
  | n + 1, m + 1, L, i, h1, h2 => by
    rw [spansU, spansU]
    by_cases h : i < L.length
    · have := endF_ge L i
      rw [if_pos h, if_pos h, spansU_fuel n m L _ (by omega) (by omega)]
    · rw [if_neg h, if_neg h]
theorem spans_step {L : List UInt8} {i : Nat} (h : i < L.length) : spans L i = (i, endF L i) :: spans L (endF L i + 1) := by
  have := endF_ge L i
  unfold spans
  rw [spansU, if_pos h, spansU_fuel L.length (L.length + 1) L _ (by omega) (by omega)]
theorem spans_end {L : List UInt8} {i : Nat} (h : L.length ≤ i) : spans L i = [] := by
  unfold spans; rw [spansU, if_neg (by omega)]
/-- The first error of a body among lines. -/
def bodyGo (L : List UInt8) : List (Nat × Nat) → Nat × Int
  | [] => (0, 0)
  | x :: r => if x.2 = L.length then (L.length, 4) else if 998 < x.2 - x.1 then (x.1 + 998, 5) else if 0 ≤ badG (cutL L x.1 x.2) then (x.1 + (badG (cutL L x.1 x.2)).toNat, 6) else bodyGo L r
def bodyF (L : List UInt8) : Nat × Int := bodyGo L (spans L 0)
theorem badG_ge (L : List UInt8) : -1 ≤ badG L := by
  unfold badG; split
  · omega
  · split <;> omega
theorem allU_off : ∀ (n : Nat) (l : List UInt8) (i : Nat), (∀ x ∈ (allU n l i).1, x.1 ≤ i + l.length) ∧ ∀ y, (allU n l i).2 = some y → y.1 ≤ i + l.length
  | 0, l, i => by simp [allU]
  | n + 1, [], i => by simp [allU]
  | n + 1, c :: r, i => by
    rw [allU]
    by_cases h : (decU (c :: r)).2.2 ≠ 0
    · rw [if_pos h]
      exact ⟨by simp, fun y e => by injection e with e; subst e; simp⟩
    · rw [if_neg h]
      have hk := decU_ok (l := c :: r) (by omega)
      obtain ⟨h1, h2⟩ := allU_off n ((c :: r).drop (decU (c :: r)).2.1) (i + (decU (c :: r)).2.1)
      rw [List.length_drop] at h1 h2
      refine ⟨fun x hx => ?_, fun y e => ?_⟩
      · rcases List.mem_cons.1 hx with rfl | hx
        · simp
        · have := h1 x hx; omega
      · have := h2 y e; omega
theorem badG_le (L : List UInt8) : badG L ≤ L.length := by
  obtain ⟨h1, h2⟩ := allU_off (L.length + 1) L 0
  unfold badG
  split
  · rename_i x hx
    have := h1 x (List.mem_of_find?_eq_some hx); omega
  · split
    · rename_i y hy
      have := h2 y hy; omega
    · omega
end Go.Proofs.YtghjgbkhhoaebaaGreatDoor

namespace Go.Proofs.YtghjgbkhhoaebaaGreatDoor
set_option linter.unusedSimpArgs false
set_option linter.unusedVariables false
open Go.RowKit

end Go.Proofs.YtghjgbkhhoaebaaGreatDoor

namespace Go.Proofs.YtghjgbkhhoaebaaGreatDoor
set_option linter.unusedSimpArgs false
set_option linter.unusedVariables false
open Go.RowKit

/-- The lines' texts. -/
def linesF (L : List UInt8) : List (List UInt8) := (spans L 0).map fun x => cutL L x.1 x.2
theorem el_str4 : Elem Tryz.prog 77 9 1 16 := Elem.of Tryz.underlying77 (z := .string ⟨#[]⟩) (by kernel_rfl) rfl (by omega)
theorem spans_len : ∀ (n : Nat) (L : List UInt8) (i : Nat), (spansU n L i).length ≤ n
  | 0, _, _ => by simp [spansU]
  | n + 1, L, i => by
    rw [spansU]; split
    · have := spans_len n L (endF L i + 1); simp; omega
    · simp
structure StrO (w wr : World) (v : Value) (l : List (List UInt8)) : Prop where
  own : wr.ownsRow w.heap.size 9 1 v l.length (strsL l)
  bel : Below w.heap.size w wr
set_option maxHeartbeats 4000000 in
set_option maxRecDepth 100000 in
theorem rf_lines (s : ByteArray) (w : World) (hs : s.size ≤ 1000000) : Calls Tryz.prog 38 #[.string s] w fun e w' => ∃ v, e = .returned v ∧ StrO w w' v (linesF (toL s)) := by
  have HL := Lib.hid (toL_length s)
  have HS0 := Lib.hid (show StrO w w (.slice none 0 0) [] from ⟨World.ownsRow_nil _ _ _ _, Below.refl _ _⟩)
  go_enter Tryz.func38, Tryz.ntmps38
  go_wp2_with fail
  go_loopw [3, 4] (fun v3 v4 wr => ∃ (i : Nat) (acc : List (List UInt8)), i ≤ s.size + 1 ∧ acc.length ≤ i ∧ v4 = .int .i64 (i : Int) ∧ linesF (toL s) = acc ++ (spans (toL s) i).map (fun x => cutL (toL s) x.1 x.2) ∧ StrO w wr v3 acc) (fun _ v4 _ => s.size + 1 - (intOf v4).toNat)
  case atStart => exact ⟨0, [], by omega, by simp, rfl, rfl, HS0.out⟩
  case round =>
    obtain ⟨i, acc, hi, hacc, rfl, hb, hS⟩ := hrel
    have HB := Lib.hid hb; have HS := Lib.hid hS; clear hb hS HS0
    obtain ⟨wo, rfl⟩ : ∃ wo : World, wo = wr := ⟨_, rfl⟩
    have i0 : (0 : Int) ≤ (i : Int) := by omega
    by_cases hlt : i < s.size
    · have i1 : (i : Int) < (s.size : Int) := by omega
      have HST := Lib.hid (spans_step (L := toL s) (i := i) (by rw [HL.out]; exact hlt))
      have hge := endF_ge (toL s) i
      have hle := endF_le (toL s) i (by rw [HL.out]; omega)
      rw [HL.out] at hle
      have HEND := Lib.hid (fun wx => rf_end s i wx (by omega) (by omega))
      generalize endF (toL s) i = b at *
      have HN := Lib.hid (show linesF (toL s) = (acc ++ [toL (s.extract i b)]) ++ (spans (toL s) (b + 1)).map (fun x => cutL (toL s) x.1 x.2) from by
        rw [HB.out, HST.out, extract_toL]; simp)
      have b1 : (i : Int) ≤ (b : Int) := by omega
      have b2 : (b : Int) ≤ (s.size : Int) := by omega
      have hown := HS.out.own
      have hsz := HS.out.bel.size
      clear HB HST
      have hxl := Lib.hid (ofL_toL (s.extract i b))
      go_upto_region 5 with ((go_at_call 77; (with_reducible refine (HEND.out _).mono ?_); rintro e w' ⟨rfl, rfl⟩))
      go_wp2_with ((at_builtin; refine wpList_push el_str4 rfl _ _ rfl hown #[.string (s.extract i b)] rfl rfl rfl (by simp [Value.oneCell']) (by omega) (by unfold maxLen; omega) hsz ?_; intro g cap w3 hown3 hg3 hat3))
      have HF := Lib.hid (show StrO w w3 (.slice (some ⟨g, 0, none⟩) (acc.length + 1) cap) (acc ++ [toL (s.extract i b)]) from ⟨by simpa [ofL_toL] using hown3, HS.out.bel.grown hg3 hsz (fun k hk => (hown.lt k hk).1)⟩)
      go_roundw
      case rel => exact ⟨b + 1, _, by omega, by simp; omega, by go_num, HN.out, HF.out⟩
      case measure => simp [intOf] <;> omega
    · have HR := Lib.hid (show linesF (toL s) = acc from by rw [HB.out, spans_end (by rw [HL.out]; omega)]; simp)
      have i1 : (s.size : Int) ≤ (i : Int) := by omega
      go_wp2_with fail
      go_ret
      exact ⟨_, rfl, by rw [HR.out]; exact HS.out⟩
end Go.Proofs.YtghjgbkhhoaebaaGreatDoor

namespace Go.Proofs.YtghjgbkhhoaebaaGreatDoor
set_option linter.unusedSimpArgs false
set_option linter.unusedVariables false
open Go.RowKit

def levN (L : List UInt8) : Nat := (L.takeWhile (· == 62)).length
def levR (L : List UInt8) : List UInt8 := if 0 < levN L ∧ (L.drop (levN L))[0]? = some 32 then L.drop (levN L + 1) else L.drop (levN L)
/-- The marks from k on. -/
def levK (L : List UInt8) (k : Nat) : Nat := k + ((L.drop k).takeWhile (· == 62)).length
theorem levK_zero (L : List UInt8) : levN L = levK L 0 := by simp [levN, levK]
theorem levK_step {s : ByteArray} {k : Nat} (h : k < s.size) : levK (toL s) k = if s[k]'h = 62 then levK (toL s) (k + 1) else k := by
  have hl : k < (toL s).length := by rw [toL_length]; exact h
  unfold levK
  rw [List.drop_eq_getElem_cons hl, List.takeWhile_cons, toL_getElem s k h]
  by_cases e : s[k]'h = 62
  · rw [if_pos e, e]; simp; omega
  · have : (s[k]'h == 62) = false := by simpa using e
    rw [if_neg e, this]; simp
theorem levK_end {s : ByteArray} {k : Nat} (h : s.size ≤ k) : levK (toL s) k = k := by
  unfold levK; rw [List.drop_eq_nil_of_le (by rw [toL_length]; exact h)]; rfl
theorem levN_le (s : ByteArray) : levN (toL s) ≤ s.size := by
  rw [← toL_length s]; exact (List.takeWhile_sublist _).length_le
set_option maxHeartbeats 4000000 in
set_option maxRecDepth 100000 in
theorem rf_level (s : ByteArray) (w : World) (hs : s.size ≤ 1000000) : Calls Tryz.prog 39 #[.string s] w fun e w' => e = .returned (.tuple #[.int .i64 (levN (toL s) : Nat), .string (ofL (levR (toL s)))]) ∧ w = w' := by
  have HL := Lib.hid (toL_length s)
  have hnl := levN_le s
  obtain ⟨n, hn⟩ : ∃ n, n = levN (toL s) := ⟨_, rfl⟩
  rw [← hn] at hnl
  have HN := Lib.hid hn
  have HK := Lib.hid (levK_zero (toL s))
  go_enter Tryz.func39, Tryz.ntmps39
  go_wp2_with fail
  go_loop [4, 6] (fun v4 _ => ∃ k : Nat, k ≤ s.size ∧ v4 = .int .i64 (k : Int) ∧ levN (toL s) = levK (toL s) k) (fun v4 _ => s.size - (intOf v4).toNat)
  case atStart => exact ⟨0, by omega, rfl, HK.out⟩
  case round =>
    obtain ⟨k, hk, rfl, hlk⟩ := hrel
    have HLK := Lib.hid hlk; clear hlk
    have k0 : (0 : Int) ≤ (k : Int) := by omega
    have key : (∃ h : k < s.size, s[k]'h = 62) ∨ ((∃ h : k < s.size, s[k]'h ≠ 62) ∨ k = s.size) := by
      by_cases h : k < s.size
      · by_cases e : s[k]'h = 62
        · exact .inl ⟨h, e⟩
        · exact .inr (.inl ⟨h, e⟩)
      · exact .inr (.inr (by omega))
    rcases key with ⟨hlt, e⟩ | hstop
    · have k1 : (k : Int) < (s.size : Int) := by omega
      have f1 : (num (s[k]'hlt) == 62) = true := by rw [e]; rfl
      have HR := Lib.hid (show levN (toL s) = levK (toL s) (k + 1) from by rw [HLK.out, levK_step hlt, if_pos e])
      clear e
      go_wp2_with fail
      go_round
      case rel => exact ⟨k + 1, by omega, by go_num, HR.out⟩
      case measure => simp [intOf] <;> omega
    · have HE := Lib.hid (show levN (toL s) = k from by
        rw [HLK.out]
        rcases hstop with ⟨hlt, e⟩ | rfl
        · rw [levK_step hlt, if_neg e]
        · exact levK_end (Nat.le_refl _))
      have HT := Lib.hid (ext_drop s k)
      have hxs : (s.extract k s.size).size = s.size - k := extract_size _ _ _ (Nat.le_refl _)
      have HR := Lib.hid (show levR (toL s) = if 0 < k ∧ (toL (s.extract k s.size))[0]? = some 32 then (toL s).drop (k + 1) else toL (s.extract k s.size) from by
        unfold levR; rw [HE.out, HT.out])
      have HT1 := Lib.hid (show toL ((s.extract k s.size).extract 1 (s.extract k s.size).size) = (toL s).drop (k + 1) from by
        rw [ext_drop, HT.out, List.drop_drop])
      have HSL := Lib.hid (show ∀ wx : World, True from fun _ => trivial)
      have hkey : (∃ h : k < s.size, (num (s[k]'h) == 62) = false ∧ (k : Int) < (s.size : Int)) ∨ (s.size : Int) ≤ (k : Int) := by
        rcases hstop with ⟨hlt, e⟩ | rfl
        · exact .inl ⟨hlt, by rw [show (num (s[k]'hlt) == 62) = decide ((s[k]'hlt) = 62) from numq _ 62 (by omega)]; exact decide_eq_false e, by omega⟩
        · exact .inr (by omega)
      have k1 : (k : Int) ≤ (s.size : Int) := by omega
      clear hstop HLK
      rcases hkey with ⟨hlt, f1, f2⟩ | f2
      all_goals
        go_upto_region 5 with fail
        generalize s.extract k s.size = X at *
        rcases Nat.eq_zero_or_pos k with hk0 | hk0
        · have HV := Lib.hid (show levR (toL s) = toL X from by rw [HR.out, if_neg (by omega)])
          have d0 : (k : Int) ≤ 0 := by omega
          have d1 : decide ((0 : Int) < (k : Int)) = false := by simp; omega
          clear hk0
          go_wp2_with fail
          go_ret2
          exact ⟨by rw [HE.out, HV.out, ofL_toL]; rfl, rfl⟩
        · have d0 : (0 : Int) < (k : Int) := by omega
          by_cases hx0 : X.size = 0
          · have hE := toList_nil hx0
            have HV := Lib.hid (show levR (toL s) = toL X from by rw [HR.out, if_neg (by rw [toL_nil hx0]; simp)])
            have HX := Lib.hid hx0
            clear hx0 hxs
            go_wp2_with fail
            go_ret2
            exact ⟨by rw [HE.out, HV.out, ofL_toL]; rfl, rfl⟩
          · have hE := toList_cons hx0
            have hp : 0 < X.size := by omega
            have p0 : (0 : Int) < (X.size : Int) := by omega
            have p1 : (1 : Int) ≤ (X.size : Int) := by omega
            have HB := Lib.hid (byteAt X 0 hp)
            by_cases e : X[0]'hp = 32
            · have f3 : (num (X[0]'hp) == 32) = true := by rw [e]; rfl
              have HV := Lib.hid (show levR (toL s) = (toL s).drop (k + 1) from by rw [HR.out, if_pos ⟨hk0, by rw [HB.out, e]⟩])
              clear e hx0 hxs
              go_wp2_with fail
              go_ret2
              exact ⟨by rw [HE.out, HV.out, ← HT1.out, ofL_toL]; rfl, rfl⟩
            · have f3 : (num (X[0]'hp) == 32) = false := by
                rw [show (num (X[0]'hp) == 32) = decide ((X[0]'hp) = 32) from numq _ 32 (by omega)]; exact decide_eq_false e
              have HV := Lib.hid (show levR (toL s) = toL X from by rw [HR.out, if_neg (by rw [HB.out]; intro h; apply e; injection h.2)])
              clear e hx0 hxs
              go_wp2_with fail
              go_ret2
              exact ⟨by rw [HE.out, HV.out, ofL_toL]; rfl, rfl⟩
end Go.Proofs.YtghjgbkhhoaebaaGreatDoor

namespace Go.Proofs.YtghjgbkhhoaebaaGreatDoor
set_option linter.unusedSimpArgs false
set_option linter.unusedVariables false
open Go.RowKit

def AllPost2 (L : List UInt8) (w : World) (e : Ending) (w' : World) : Prop := ∃ va vb, e = .returned (.tuple #[va, vb, .int .i64 ((chkF L).1 : Nat), .int .i64 (chkF L).2]) ∧ TwoI w w' va vb ((allF L 0).1.map (·.2)) ((allF L 0).1.map (·.1))
set_option maxHeartbeats 8000000 in
set_option maxRecDepth 100000 in
theorem r3_all2 (s : ByteArray) (w : World) (hs : s.size ≤ 1000000) :
    Calls Tryz.prog 78 #[.string s] w (AllPost2 (toL s) w) := by
  have HL := Lib.hid (toL_length s)
  have HT0 := Lib.hid (show TwoI w w (.slice none 0 0) (.slice none 0 0) [] [] from ⟨World.ownsRow_nil _ _ _ _, World.ownsRow_nil _ _ _ _, (fun g e => by cases e), Below.refl _ _⟩)
  go_enter Tryz.func78, Tryz.ntmps78
  go_wp2_with fail
  go_loopw [6, 7, 8] (fun v6 v7 v8 wr => ∃ (i : Nat) (acc : List (Nat × Nat)), i ≤ s.size ∧ acc.length ≤ i ∧ v8 = .int .i64 (i : Int) ∧ (allF (toL s) 0).1 = acc ++ (allF ((toL s).drop i) i).1 ∧ (allF (toL s) 0).2 = (allF ((toL s).drop i) i).2 ∧ TwoI w wr v6 v7 (acc.map (·.2)) (acc.map (·.1))) (fun _ _ v8 _ => s.size - (intOf v8).toNat)
  case atStart => exact ⟨0, [], by omega, by simp, rfl, rfl, rfl, HT0.out⟩
  case round =>
    obtain ⟨i, acc, hi, hacc, rfl, h1, h2, hT⟩ := hrel
    have H1 := Lib.hid h1; have H2 := Lib.hid h2; have HT := Lib.hid hT
    clear h1 h2 hT HT0
    obtain ⟨wo, rfl⟩ : ∃ wo : World, wo = wr := ⟨_, rfl⟩
    have i0 : (0 : Int) ≤ (i : Int) := by omega
    by_cases hlt : i < s.size
    · have i1 : (i : Int) < (s.size : Int) := by omega
      have HTD := Lib.hid (ext_drop s i)
      have hxs : (s.extract i s.size).size = s.size - i := extract_size _ _ _ (Nat.le_refl _)
      have hne : (toL s).drop i ≠ [] := fun h => by have := congrArg List.length h; rw [List.length_drop, HL.out] at this; simp at this; omega
      have HDC := Lib.hid (r3_first (s.extract i s.size) wo (by omega) (by omega))
      rw [HTD.out, decR hne] at HDC
      have hsz := decU_size ((toL s).drop i)
      clear hxs
      by_cases he : (decU ((toL s).drop i)).2.2 = 0
      · have HN := Lib.hid (allF_ok hne i he)
        have hk := decU_ok he
        rw [List.length_drop, HL.out] at hk
        have HA1 := Lib.hid (show (allF (toL s) 0).1 = (acc ++ [(i, (decU ((toL s).drop i)).1)]) ++ (allF ((toL s).drop (i + (decU ((toL s).drop i)).2.1)) (i + (decU ((toL s).drop i)).2.1)).1 from by rw [H1.out, HN.out, List.drop_drop]; simp)
        have HA2 := Lib.hid (show (allF (toL s) 0).2 = (allF ((toL s).drop (i + (decU ((toL s).drop i)).2.1)) (i + (decU ((toL s).drop i)).2.1)).2 from by rw [H2.out, HN.out, List.drop_drop])
        rw [he] at HDC
        generalize (decU ((toL s).drop i)).2.1 = n at *
        generalize (decU ((toL s).drop i)).1 = r at *
        have hl1 : (acc.map (·.2)).length + 1 ≤ 1000001 := by simp; omega
        have hl2 : (acc.map (·.1)).length + 1 ≤ 1000001 := by simp; omega
        clear he hne HTD HN
        go_wp2_with fail
        (with_reducible refine HDC.out.mono ?_)
        rintro e w1 ⟨rfl, hd1⟩
        have HT1 := Lib.hid (HT.out.below hd1)
        have hoa := HT1.out.oa
        have hsz1 := HT1.out.bel.size
        clear hd1 HT
        go_wp2_with (first
          | (at_builtin; refine wpList_push el_int rfl _ _ rfl hoa #[.int .i64 (r : Int)] rfl rfl rfl (by simp [Value.oneCell']) (by omega) (by unfold maxLen; omega) hsz1 ?_; intro g cap w3 hown3 hg3 hat3; have HT2 := Lib.hid (HT1.out.pushA hown3 hg3 hat3); have hob := HT2.out.ob; have hsz2 := HT2.out.bel.size)
          | (at_builtin; refine wpList_push el_int rfl _ _ rfl hob #[.int .i64 (i : Int)] rfl rfl rfl (by simp [Value.oneCell']) (by omega) (by unfold maxLen; omega) hsz2 ?_; intro g2 cap2 w4 hown4 hg4 hat4; have HT3 := Lib.hid (HT2.out.pushB hown4 hg4 hat4)))
        go_roundw
        case rel => exact ⟨i + n, acc ++ [(i, r)], by omega, by simp; omega, by go_num, HA1.out, HA2.out, by simpa using HT3.out⟩
        case measure => simp [intOf] <;> omega
      · have HR := Lib.hid (show chkF (toL s) = (i, (decU ((toL s).drop i)).2.2) from by unfold chkF; rw [H2.out, allF_err hne i he])
        have HA1 := Lib.hid (show (allF (toL s) 0).1 = acc from by rw [H1.out, allF_err hne i he]; simp)
        have e1 : ((decU ((toL s).drop i)).2.2 == 0) = false := beq_eq_false_iff_ne.2 he
        have e2 : ((decU ((toL s).drop i)).2.2 != 0) = true := by simp [bne, e1]
        obtain ⟨k, hk⟩ : ∃ k, k = (decU ((toL s).drop i)).2.2 := ⟨_, rfl⟩
        rw [← hk] at HDC HR e1 e2
        generalize (decU ((toL s).drop i)).2.1 = n at *
        generalize (decU ((toL s).drop i)).1 = r at *
        clear he hne HTD hk
        go_wp2_with fail
        (with_reducible refine HDC.out.mono ?_)
        rintro e w1 ⟨rfl, hd1⟩
        have HT1 := Lib.hid (HT.out.below hd1)
        clear hd1
        go_wp2_with fail
        refine bodyPost_ret (by simp [results, Tryz.results78, go_sem]; rfl) rfl ?_
        exact ⟨_, _, by rw [HR.out], by rw [HA1.out]; exact HT1.out⟩
    · obtain rfl : i = s.size := by omega
      have HN := Lib.hid (show allF ((toL s).drop s.size) s.size = ([], none) from by rw [List.drop_eq_nil_of_le (by rw [HL.out]; exact Nat.le_refl _)]; rfl)
      have HR := Lib.hid (show chkF (toL s) = (0, 0) from by unfold chkF; rw [H2.out, HN.out])
      have HA1 := Lib.hid (show (allF (toL s) 0).1 = acc from by rw [H1.out, HN.out]; simp)
      have i1 : (s.size : Int) ≤ (s.size : Int) := by omega
      go_wp2_with fail
      refine bodyPost_ret (by simp [results, Tryz.results78, go_sem]; rfl) rfl ?_
      exact ⟨_, _, by rw [HR.out]; rfl, by rw [HA1.out]; exact HT.out⟩
end Go.Proofs.YtghjgbkhhoaebaaGreatDoor
