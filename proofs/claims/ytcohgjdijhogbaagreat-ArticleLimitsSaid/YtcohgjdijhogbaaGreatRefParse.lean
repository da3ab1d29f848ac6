/- The walk over the reference's Parse. -/
import Derived.Test.YtcohgjdijhogbaaGreatRefAdd
import Derived.Test.YtcohgjdijhogbaaGreatParseS
namespace Go.Proofs.YtcohgjdijhogbaaGreat
set_option linter.unusedSimpArgs false
set_option linter.unusedVariables false
open Go.RowKit

def RParsePost (s : ByteArray) (w : World) (e : Ending) (w' : World) : Prop :=
  ∃ v, e = .returned (.tuple #[v, .int .i64 (parseF (toL s)).2.1, .int .i64 (parseF (toL s)).2.2]) ∧ FldsOwn w w' 66 v (parseF (toL s)).1

/-- The loop has come to the state st at offset a, and g rounds at most are to come. -/
structure RAt (s : ByteArray) (g : Nat) (st : PSt) (a : Nat) : Prop where
  loop : pLoop validName (s.size + 1) (toL s) pInit 0 = pLoop validName g (toL s) st a
  e0 : st.e = 0
  len : st.fields.length ≤ 64
  body : (lastBody st.fields).length ≤ 8192
  fuel : s.size < g + a
  small : s.size ≤ 65536

theorem RAt.fail {s : ByteArray} {g a : Nat} {st : PSt} (h : RAt s g st a) (ha : a < s.size) {e : Int} {p : Nat} (hs : (pStep validName (toL s) st a).e = e ∧ (pStep validName (toL s) st a).at_ = p) (he : e ≠ 0) : parseF (toL s) = ([], (p : Int), e) := by
  obtain ⟨m, rfl⟩ : ∃ m, g = m + 1 := ⟨g - 1, by have := h.fuel; omega⟩
  have hl := h.loop
  rw [pLoop_fail validName m (toL s) st a (by rw [toL_length]; exact ha) h.e0 (by rw [hs.1]; exact he)] at hl
  unfold parseF parseV
  rw [toL_length, if_neg (by have := h.small; omega), hl, hs.1, hs.2, if_pos he]
theorem RAt.done {s : ByteArray} {g a : Nat} {st : PSt} (h : RAt s g st a) (ha : ¬ a < s.size) : parseF (toL s) = (st.fields, 0, 0) := by
  have hl : pLoop validName (s.size + 1) (toL s) pInit 0 = st := by
    rw [h.loop]
    cases g with
    | zero => rfl
    | succ n => rw [pLoop, if_neg (fun k => ha (by have := k.1; rw [toL_length] at this; exact this))]
  unfold parseF parseV
  rw [toL_length, if_neg (by have := h.small; omega), hl, if_neg (by simp [h.e0])]
theorem RAt.next {s : ByteArray} {g a : Nat} {st st' : PSt} (h : RAt s (g + 1) st a) (ha : a < s.size) (hs : pStep validName (toL s) st a = st') (he : st'.e = 0) (hl : st'.fields.length ≤ 64) (hb : (lastBody st'.fields).length ≤ 8192) (ht : a ≤ st'.to) : RAt s g st' (st'.to + 1) :=
  ⟨by rw [h.loop, pLoop, if_pos ⟨by rw [toL_length]; exact ha, h.e0⟩, hs], he, hl, hb, by have := h.fuel; omega, h.small⟩

theorem findI_next {q : UInt8 → Bool} {l : List UInt8} {k t d : Nat} (h : k < t) (ht : t ≤ l.length) (hq : q l[k] = false) : findI q (cutL l k t) d = findI q (cutL l (k + 1) t) (d + 1) := by
  rw [cutL_cons l k t h ht, findI, hq]; simp
theorem findI_hit {q : UInt8 → Bool} {l : List UInt8} {k t d : Nat} (h : k < t) (ht : t ≤ l.length) (hq : q l[k] = true) : findI q (cutL l k t) d = d := by
  rw [cutL_cons l k t h ht, findI, hq]; simp
theorem findI_none {q : UInt8 → Bool} {l : List UInt8} {k t d : Nat} (h : t ≤ k) : findI q (cutL l k t) d = -1 := by
  simp [cutL, show t - k = 0 from by omega, findI]
theorem lineLen_cut (l : List UInt8) (a : Nat) : lineLen l a = findI isLF (cutL l a l.length) 0 := by
  have : cutL l a l.length = l.drop a := by unfold cutL; exact List.take_of_length_le (by simp)
  rw [this]; rfl

theorem colon_eq {c : UInt8} (h : (num c == 58) = true) : isColon c = true := by
  have h' : (c.toNat : Int) = 58 := by simpa using h
  unfold isColon
  rw [beq_iff_eq]
  apply UInt8.toNat_inj.1
  show c.toNat = 58
  omega
theorem colon_ne {c : UInt8} (h : (num c == 58) = false) : isColon c = false := by
  have h' : ¬ (c.toNat : Int) = 58 := by simpa using h
  unfold isColon
  rw [beq_eq_false_iff_ne]
  intro e
  apply h'
  rw [e]; rfl

theorem el_F : Elem Tryz.prog 29 66 2 32 := Elem.of Tryz.underlying29 info_F rfl (by omega)
theorem addGo_range (l : List UInt8) : ∀ (n a t : Nat) (b : List UInt8), (addGo n l a t b).2 = -1 ∨ ∃ bad : Nat, (addGo n l a t b).2 = bad := by
  intro n
  induction n with
  | zero => intro a t b; exact .inl rfl
  | succ n ih =>
    intro a t b
    rw [addGo]
    split
    · exact .inl rfl
    · split
      · exact .inr ⟨_, rfl⟩
      · exact ih _ _ _
theorem FldsOwn.last {w wr : World} {e : TypeId} {v : Value} {l : List Fd} (h : FldsOwn w wr e v l) (hne : l ≠ []) : ∃ g c, v = .slice (some ⟨g, 0, none⟩) l.length c ∧
    wr.cell? ⟨g, (l.length - 1) * 2 + 1, none⟩ = some (.string (ofL (lastBody l))) ∧ wr.frozen? ⟨g, (l.length - 1) * 2 + 1, none⟩ = false ∧ g < wr.heap.size ∧
    (∀ b : ByteArray, FldsOwn w (wr.setCell ⟨g, (l.length - 1) * 2 + 1, none⟩ (.string b)) e v (setLast l (toL b))) := by
  obtain ⟨hown, hbel⟩ := h
  have hl : 0 < l.length := List.length_pos_iff.2 hne
  rcases own_form hown with ⟨rfl, h0⟩ | ⟨g, cap, rfl, hg, hlt, hcap, hc⟩
  · omega
  · obtain ⟨dl, f, rfl⟩ : ∃ dl f, l = dl ++ [f] := by
      rcases List.eq_nil_or_concat l with h | ⟨dl, f, h⟩
      · exact absurd h hne
      · exact ⟨dl, f, by simpa using h⟩
    obtain ⟨_, h2⟩ := fldsV_at (dl ++ [f]) ((dl ++ [f]).length - 1) (by omega)
    refine ⟨g, cap, rfl, ?_, hown.frozenAt _, hlt, fun b => ⟨?_, ?_⟩⟩
    · have := hc _ _ h2
      rw [this, lastBody_snoc]
      simp
    · have hst := (hown.stored (((dl ++ [f]).length - 1) * 2 + 1) (.string b)).1
      rw [setLast_length, setLast_snoc, fldsV_set]
      exact hst
    · exact hbel.setCell (p := ⟨g, ((dl ++ [f]).length - 1) * 2 + 1, none⟩) hg _

theorem FldsOwn.newLast {w wr w1 : World} {e : TypeId} {v : Value} {l : List Fd} {x : ByteArray} {gg cap : Nat} (h : FldsOwn w wr e v l)
    (hown : w1.ownsRow w.heap.size e 2 (.slice (some ⟨gg, 0, none⟩) (l.length + 1) cap) (l.length + 1) (fldsV l ++ (#[.string x, .string ⟨#[]⟩] : Array Value).toList)) (hg : wr.grownBy w1 v.ownBlock) :
    w1.cell? ⟨gg, l.length * 2 + 1, none⟩ = some (.string ⟨#[]⟩) ∧ w1.frozen? ⟨gg, l.length * 2 + 1, none⟩ = false ∧ Below w.heap.size w w1 ∧
    (∀ b : ByteArray, FldsOwn w (w1.setCell ⟨gg, l.length * 2 + 1, none⟩ (.string b)) e (.slice (some ⟨gg, 0, none⟩) (l.length + 1) cap) (setLast (l ++ [(toL x, [])]) (toL b))) := by
  have FF : FldsOwn w w1 e (.slice (some ⟨gg, 0, none⟩) (l.length + 1) cap) (l ++ [(toL x, [])]) := by
    refine ⟨?_, h.bel.grown hg h.bel.size (fun k hk => (h.own.lt k hk).1)⟩
    have e1 : fldsV (l ++ [(toL x, [])]) = fldsV l ++ (#[.string x, .string ⟨#[]⟩] : Array Value).toList := by simp [fldsV, ofL_toL]; rfl
    rw [e1, List.length_append]; exact hown
  obtain ⟨g, c, hv, h1, h2, _, h3⟩ := FF.last (by simp)
  have hgg : gg = g := by injection hv with a; injection a with a; injection a
  subst hgg
  have e2 : (l ++ [(toL x, [])]).length - 1 = l.length := by simp
  rw [e2] at h1 h2 h3
  rw [lastBody_snoc] at h1
  exact ⟨h1, h2, FF.bel, h3⟩

theorem ref_add' (b s : ByteArray) (frm to : Nat) (f : Int) (w : World) (hf : f = (frm : Int)) (hs : s.size ≤ 1000000) (hft : frm ≤ to) (hto : to ≤ s.size) (hb : b.size ≤ 900000) :
    Calls Tryz.prog 36 #[.string b, .string s, .int .i64 f, .int .i64 to] w fun e w' => e = .returned (.tuple #[.string (ofL (addGo (s.size + 1) (toL s) frm to (toL b)).1), .int .i64 (addGo (s.size + 1) (toL s) frm to (toL b)).2]) ∧ w = w' := by
  subst hf; exact ref_add b s frm to w hs hft hto hb

set_option maxHeartbeats 8000000 in
set_option maxRecDepth 100000 in
theorem ref_parse (s : ByteArray) (w : World) (hs : s.size ≤ 1000000) : Calls Tryz.prog 22 #[.string s] w (RParsePost s w) := by
  have HL := Lib.hid (toL_length s)
  by_cases h6 : 65536 < s.size
  · have h6' : decide ((65536 : Int) < (s.size : Int)) = true := by simp; omega
    have H := Lib.hid (show parseF (toL s) = ([], 65536, 5) by unfold parseF parseV; rw [HL.out, if_pos h6])
    go_enter Tryz.func22, Tryz.ntmps22
    go_wp2_with fail
    go_ret3
    refine ⟨.slice none 0 0, ?_, ?_, Below.refl _ _⟩
    · rw [H.out]; rfl
    · rw [H.out]; exact World.ownsRow_nil _ _ _ _
  · have h6' : decide ((65536 : Int) < (s.size : Int)) = false := by simp; omega
    go_enter Tryz.func22, Tryz.ntmps22
    go_wp2_with fail
    go_loopg [5, 6] (s.size + 1) (fun g v ix wr => ∃ (a : Nat) (st : PSt), ix = .int .i64 a ∧ a ≤ s.size ∧ RAt s g st a ∧ FldsOwn w wr 66 v st.fields)
    case atStart => exact ⟨0, pInit, rfl, by omega, ⟨rfl, rfl, by simp [pInit], by simp [pInit, lastBody], by omega, by omega⟩, ⟨World.ownsRow_nil _ _ _ _, Below.refl _ _⟩⟩
    case round =>
      obtain ⟨a, st, rfl, ha, hR, hF⟩ := hrel
      have HR := Lib.hid hR
      have hl64 := hR.len
      have hfuel := hR.fuel
      clear hR
      by_cases hlt : a < s.size
      · go_wp2_with fail
        go_loop [7] (fun v => ∃ k : Nat, a ≤ k ∧ k ≤ s.size ∧ v = .int .i64 k ∧ lineLen (toL s) a = findI isLF (cutL (toL s) k s.size) (k - a)) (fun v => s.size - (intOf v).toNat)
        case atStart => exact ⟨a, Nat.le_refl _, ha, rfl, by rw [lineLen_cut, HL.out, Nat.sub_self]⟩
        case round =>
          obtain ⟨k, hak, hk, rfl, hq⟩ := hrel
          have HQ := Lib.hid hq; clear hq
          by_cases hks : k < s.size
          · have m1 : decide ((k : Int) < (s.size : Int)) = true := by simp; omega
            rcases hc : (num s[k] != 10) with _ | _
            · have hLF : isLF ((toL s)[k]'(by rw [HL.out]; exact hks)) = true := by
                rw [toL_getElem _ _ hks]
                have h10 : num s[k] = 10 := by simpa using hc
                unfold isLF
                rw [beq_iff_eq]
                apply UInt8.toNat_inj.1
                have : (s[k].toNat : Int) = 10 := h10
                show s[k].toNat = 10
                omega
              have HN := Lib.hid (HQ.out.trans (findI_hit (d := k - a) hks (by rw [HL.out]; omega) hLF))
              clear hLF HQ
              have m2 : ((k : Int) == (s.size : Int)) = false := beq_eq_false_iff_ne.2 (by omega)
              by_cases h9 : 998 < k - a
              · have h9' : decide ((998 : Int) < (k : Int) - (a : Int)) = true := by simp; omega
                have HE := Lib.hid (HR.out.fail hlt (step_long validName (toL s) st a HR.out.e0 (k - a) HN.out h9) (by decide))
                go_wp2_with fail
                go_ret3
                refine ⟨.slice none 0 0, ?_, ?_, hF.bel⟩
                · rw [HE.out]; rfl
                · rw [HE.out]; exact World.ownsRow_nil _ _ _ _
              · have h9' : decide ((998 : Int) < (k : Int) - (a : Int)) = false := by simp; omega
                have HK := Lib.hid (show a + (k - a) = k by omega)
                go_wp2_with fail
                go_loop [8, 9] (fun cv iv => ∃ i : Nat, a ≤ i ∧ i ≤ k ∧ iv = .int .i64 i ∧ findI isForb (cutL (toL s) a k) 0 = findI isForb (cutL (toL s) i k) (i - a) ∧
                    ((cv = .int .i64 (-1) ∧ findI isColon (cutL (toL s) a k) 0 = findI isColon (cutL (toL s) i k) (i - a)) ∨ ∃ c : Nat, cv = .int .i64 c ∧ a ≤ c ∧ c < i ∧ findI isColon (cutL (toL s) a k) 0 = ((c - a : Nat) : Int))) (fun _ iv => k - (intOf iv).toNat)
                case atStart => exact ⟨a, Nat.le_refl _, hak, rfl, by rw [Nat.sub_self], .inl ⟨rfl, by rw [Nat.sub_self]⟩⟩
                case round =>
                  obtain ⟨i, hai, hik, rfl, hqf, hcol⟩ := hrel
                  have HQF := Lib.hid hqf; clear hqf
                  have HCOL := Lib.hid hcol; clear hcol
                  by_cases hi : i < k
                  · have his : i < s.size := by omega
                    have HIL := Lib.hid (show i < (toL s).length by rw [HL.out]; exact his)
                    have hkL : k ≤ (toL s).length := by rw [HL.out]; omega
                    have HGE := Lib.hid (toL_getElem s i his)
                    rcases hf : forbidden (num (s[i]'his)) with _ | _
                    · have HF2 := Lib.hid (HQF.out.trans (findI_next (q := isForb) (d := i - a) hi hkL (by rw [HGE.out]; exact hf)))
                      have hvb : (isVisible (num (s[i]'his)) = true) ∨ (isVisible (num (s[i]'his)) = false ∧ isBlank (num (s[i]'his)) = true) := by
                        unfold forbidden at hf
                        cases h1 : isVisible (num (s[i]'his)) <;> cases h2 : isBlank (num (s[i]'his)) <;> simp [h1, h2] at hf ⊢
                      clear hf
                      rcases h58 : (num (s[i]'his) == 58) with _ | _
                      · have HCN := Lib.hid (show isColon ((toL s)[i]'HIL.out) = false by rw [HGE.out]; exact colon_ne h58)
                        rcases hvb with hv | ⟨hv, hb⟩ <;> rcases HCOL.out with ⟨rfl, hcq⟩ | ⟨c, rfl, hc1, hc2, hcq⟩
                        all_goals
                          have HCQ := Lib.hid hcq; clear hcq HCOL
                          go_wp2_with (first | (go_at_call 33; refine (ref_visible _ _).mono ?_; rintro e w' ⟨rfl, rfl⟩) | (go_at_call 34; refine (ref_blank _ _).mono ?_; rintro e w' ⟨rfl, rfl⟩))
                          go_round
                          case rel =>
                            refine ⟨i + 1, by omega, by omega, by go_num, by rw [HF2.out, show i - a + 1 = i + 1 - a from by omega], ?_⟩
                            first
                              | exact .inl ⟨rfl, by rw [HCQ.out, findI_next hi hkL HCN.out, show i - a + 1 = i + 1 - a from by omega]⟩
                              | exact .inr ⟨_, rfl, by assumption, Nat.lt_succ_of_lt (by assumption), HCQ.out⟩
                          case measure => simp [intOf] <;> omega
                      · have HCN := Lib.hid (show isColon ((toL s)[i]'HIL.out) = true by rw [HGE.out]; exact colon_eq h58)
                        rcases hvb with hv | ⟨hv, hb⟩ <;> rcases HCOL.out with ⟨rfl, hcq⟩ | ⟨c, rfl, hc1, hc2, hcq⟩
                        all_goals
                          have HCQ := Lib.hid hcq; clear hcq HCOL
                          go_wp2_with (first | (go_at_call 33; refine (ref_visible _ _).mono ?_; rintro e w' ⟨rfl, rfl⟩) | (go_at_call 34; refine (ref_blank _ _).mono ?_; rintro e w' ⟨rfl, rfl⟩))
                          go_round
                          case rel =>
                            refine ⟨i + 1, by omega, by omega, by go_num, by rw [HF2.out, show i - a + 1 = i + 1 - a from by omega], ?_⟩
                            first
                              | exact .inr ⟨i, rfl, hai, Nat.lt_succ_self i, by rw [HCQ.out, findI_hit hi hkL HCN.out]⟩
                              | exact .inr ⟨_, rfl, by assumption, Nat.lt_succ_of_lt (by assumption), HCQ.out⟩
                          case measure => simp [intOf] <;> omega
                    · have HF2 := Lib.hid (HQF.out.trans (findI_hit (q := isForb) (d := i - a) hi hkL (by rw [HGE.out]; exact hf)))
                      have HE := Lib.hid (HR.out.fail hlt (step_byte validName (toL s) st a HR.out.e0 (k - a) HN.out h9 (i - a) (by rw [HK.out]; exact HF2.out)) (by decide))
                      obtain ⟨hv, hb⟩ : isVisible (num (s[i]'his)) = false ∧ isBlank (num (s[i]'his)) = false := by
                        unfold forbidden at hf
                        cases h1 : isVisible (num (s[i]'his)) <;> cases h2 : isBlank (num (s[i]'his)) <;> simp [h1, h2] at hf ⊢
                      clear hf
                      go_wp2_with (first | (go_at_call 33; refine (ref_visible _ _).mono ?_; rintro e w' ⟨rfl, rfl⟩) | (go_at_call 34; refine (ref_blank _ _).mono ?_; rintro e w' ⟨rfl, rfl⟩))
                      go_ret3
                      refine ⟨.slice none 0 0, ?_, ?_, hF.bel⟩
                      · rw [HE.out, show a + (i - a) = i from by omega]; rfl
                      · rw [HE.out]; exact World.ownsRow_nil _ _ _ _
                  · obtain rfl : i = k := by omega
                    have HF2 := Lib.hid (HQF.out.trans (findI_none (q := isForb) (d := i - a) (Nat.le_refl _)))
                    have hline : pLine (toL s) st a = { st with frm := a, to := i, at_ := a } := by
                      have := line_fine (toL s) st a HR.out.e0 (i - a) HN.out h9 (by rw [HK.out, HF2.out]; decide)
                      rw [HK.out] at this; exact this
                    have hK2 : a + (i - a) = i := HK.out
                    have hline' : pLine (toL s) st a = { st with frm := a, to := a + (i - a), at_ := a } := by rw [hK2]; exact hline
                    have HLI := Lib.hid hline'
                    clear hline hline' hK2 HF2 HQF
                    obtain ⟨A, cc, rfl, hrow⟩ := own_row hF.own
                    clear hrow
                    obtain ⟨m, rfl⟩ : ∃ m, gk = m + 1 := ⟨gk - 1, by omega⟩
                    by_cases ham : a < i
                    · have ham' : decide ((a : Int) < (i : Int)) = true := by simp; omega
                      have has : a < s.size := by omega
                      have HX := Lib.hid (cutL_cons (toL s) a i ham (by rw [HL.out]; omega))
                      rcases hb : isBlank (num (s[a]'has)) with _ | _
                      · have HMO := Lib.hid (show moreLine (cutL (toL s) a (a + (i - a))) = false by rw [HK.out, HX.out, toL_getElem _ _ has]; exact hb)
                        rcases HCOL.out with ⟨rfl, hcq⟩ | ⟨c, rfl, hc1, hc2, hcq⟩
                        · have HE := Lib.hid (HR.out.fail hlt (step_nocolon HR.out.e0 HLI.out HMO.out (by rw [HK.out, hcq, findI_none (Nat.le_refl _)]; decide)) (by decide))
                          clear hcq HCOL
                          go_wp2_with (first | (go_at_call 33; refine (ref_visible _ _).mono ?_; rintro e w' ⟨rfl, rfl⟩) | (go_at_call 34; refine (ref_blank _ _).mono ?_; rintro e w' ⟨rfl, rfl⟩))
                          go_ret3
                          refine ⟨.slice none 0 0, ?_, ?_, hF.bel⟩
                          · rw [HE.out]; rfl
                          · rw [HE.out]; exact World.ownsRow_nil _ _ _ _
                        · have HCQ := Lib.hid (show findI isColon (cutL (toL s) a (a + (i - a))) 0 = ((c - a : Nat) : Int) by rw [HK.out]; exact hcq)
                          clear hcq HCOL
                          have hcn : decide ((c : Int) < 0) = false := by simp
                          have htk : toL (s.extract a c) = (cutL (toL s) a (a + (i - a))).take (c - a) := by
                            rw [extract_toL, HK.out]; unfold cutL; rw [List.take_take, show min (c - a) (i - a) = c - a from by omega]
                          have HTK := Lib.hid htk; clear htk
                          have hxs := extract_size s a c (by omega)
                          have hxs' : (s.extract a c).size ≤ 1000000 := by omega
                          clear hxs
                          have hVN := Lib.hid (ref_validName (s.extract a c) wr (by unfold maxLen; omega))
                          have hac : a ≤ c := hc1
                          have hcs : c ≤ s.size := by omega
                          rcases hv : validName (toL (s.extract a c)) with _ | _
                          · have HE := Lib.hid (HR.out.fail hlt (step_name HR.out.e0 HLI.out HMO.out (c - a) HCQ.out (by rw [← HTK.out]; exact hv)) (by decide))
                            go_wp2_with (first | (go_at_call 34; refine (ref_blank _ _).mono ?_; rintro e w' ⟨rfl, rfl⟩) | (go_at_call 35; refine hVN.out.mono ?_; rintro e w' ⟨rfl, rfl⟩))
                            go_ret3
                            refine ⟨.slice none 0 0, ?_, ?_, hF.bel⟩
                            · rw [HE.out]; rfl
                            · rw [HE.out]; exact World.ownsRow_nil _ _ _ _
                          · by_cases h64 : st.fields.length = 64
                            · have h64' : ((st.fields.length : Int) == 64) = true := by simp [h64]
                              have HE := Lib.hid (HR.out.fail hlt (step_limit HR.out.e0 HLI.out HMO.out (c - a) HCQ.out (by rw [← HTK.out]; exact hv) h64) (by decide))
                              clear h64
                              go_wp2_with (first | (go_at_call 34; refine (ref_blank _ _).mono ?_; rintro e w' ⟨rfl, rfl⟩) | (go_at_call 35; refine hVN.out.mono ?_; rintro e w' ⟨rfl, rfl⟩))
                              go_ret3
                              refine ⟨.slice none 0 0, ?_, ?_, hF.bel⟩
                              · rw [HE.out]; rfl
                              · rw [HE.out]; exact World.ownsRow_nil _ _ _ _
                            · have h64' : ((st.fields.length : Int) == 64) = false := beq_eq_false_iff_ne.2 (by omega)
                              have HNM := Lib.hid (name_new (vn := validName) HR.out.e0 HLI.out HMO.out (c - a) HCQ.out (by rw [← HTK.out]; exact hv) h64)
                              rw [← HTK.out, HK.out, show a + (c - a) + 1 = c + 1 from by omega] at HNM
                              have hown := hF.own
                              have hbs := hF.bel.size
                              have hlb := HR.out.body
                              go_wp2_with (first | (go_at_call 34; refine (ref_blank _ _).mono ?_; rintro e w' ⟨rfl, rfl⟩) | (go_at_call 35; refine hVN.out.mono ?_; rintro e w' ⟨rfl, rfl⟩) | (at_builtin; refine wpList_push el_F rfl _ _ rfl hown #[.string (s.extract a c), .string ⟨#[]⟩] rfl rfl rfl (by simp [Value.oneCell']) (by omega) (by unfold maxLen; omega) hbs ?_; intro gg cap w1 hown1 hg1 hat1; obtain ⟨hdb, hdf, hbel2, hput⟩ := hF.newLast hown1 hg1; have HPUT := Lib.hid hput; clear hput hown1 hg1 hat1))
                              obtain ⟨b, hbe⟩ : ∃ b : ByteArray, b = ⟨#[]⟩ := ⟨_, rfl⟩
                              have HBB := Lib.hid (show lastBody (st.fields ++ [(toL (s.extract a c), [])]) = toL b by rw [lastBody_snoc, hbe]; rfl)
                              have hbz : b.size = 0 := by rw [hbe]; rfl
                              rw [← hbe] at hdb ⊢
                              clear hbe
                              (with_reducible refine (ref_add' b s (c + 1) i _ _ (by omega) hs (by omega) (by omega) (by omega)).mono ?_)
                              rintro e w' ⟨rfl, rfl⟩
                              have hbl := addGo_body_le (toL s) (s.size + 1) (c + 1) i (toL b) (by omega) (by rw [HL.out]; omega)
                              have hbr := addGo_range (toL s) (s.size + 1) (c + 1) i (toL b)
                              rw [toL_length] at hbl
                              have HAD := Lib.hid (show ∀ q, addGo (s.size + 1) (toL s) (c + 1) i (toL b) = q → addGo ((toL s).length + 1) (toL s) (c + 1) i (lastBody (st.fields ++ [(toL (s.extract a c), [])])) = q from fun q hq => by rw [HL.out, HBB.out]; exact hq)
                              obtain ⟨r1, r2, hr⟩ : ∃ r1 r2, addGo (s.size + 1) (toL s) (c + 1) i (toL b) = (r1, r2) := ⟨_, _, rfl⟩
                              rw [hr] at hbl hbr ⊢
                              have HAD2 := Lib.hid (HAD.out _ hr)
                              clear hr HAD
                              simp only at hbl hbr ⊢
                              obtain ⟨y, hy⟩ : ∃ y, ofL r1 = y := ⟨_, rfl⟩
                              have HY := Lib.hid (show r1 = toL y by rw [← hy, toL_ofL])
                              rw [hy]
                              rw [HY.out, toL_length] at hbl
                              rw [HY.out] at HAD2
                              clear hy
                              rcases hbr with rfl | ⟨bad, rfl⟩
                              · by_cases h8 : 8192 < y.size
                                · have h8' : decide ((8192 : Int) < (y.size : Int)) = true := by simp; omega
                                  have HE := Lib.hid (HR.out.fail hlt (step_body HNM.out HR.out.e0 (by simp only; omega) (by simp only; rw [HL.out]; omega) (by simp) (toL y) HAD2.out (by rw [toL_length]; exact h8)) (by decide))
                                  go_wp2_with fail
                                  go_ret3
                                  refine ⟨.slice none 0 0, ?_, ?_, hbel2⟩
                                  · rw [HE.out]; rfl
                                  · rw [HE.out]; exact World.ownsRow_nil _ _ _ _
                                · have h8' : decide ((8192 : Int) < (y.size : Int)) = false := by simp; omega
                                  have HST := Lib.hid (step_fine HNM.out HR.out.e0 (by simp only; omega) (by simp only; rw [HL.out]; omega) (by simp) (toL y) HAD2.out (by rw [toL_length]; exact h8))
                                  go_wp2_with fail
                                  go_roundg m
                                  case measure => omega
                                  case rel =>
                                    refine ⟨i + 1, _, by go_num, by omega, HR.out.next hlt HST.out HR.out.e0 (by simp only; rw [setLast_length]; simp; omega) (by simp only; rw [lastBody_setLast _ _ (by simp), toL_length]; omega) (by simp only; omega), ?_⟩
                                    exact HPUT.out y
                              · have hbad : decide ((0 : Int) ≤ (bad : Int)) = true := by simp
                                have HE := Lib.hid (HR.out.fail hlt (step_bad HNM.out HR.out.e0 (by simp only; omega) (by simp only; rw [HL.out]; omega) (by simp) (toL y) bad HAD2.out) (by decide))
                                go_wp2_with fail
                                go_ret3
                                refine ⟨.slice none 0 0, ?_, ?_, hbel2⟩
                                · rw [HE.out]; rfl
                                · rw [HE.out]; exact World.ownsRow_nil _ _ _ _
                      · have HMO := Lib.hid (show moreLine (cutL (toL s) a (a + (i - a))) = true by rw [HK.out, HX.out, toL_getElem _ _ has]; exact hb)
                        by_cases h0 : st.fields.length = 0
                        · have h0' : ((st.fields.length : Int) == 0) = true := by simp [h0]
                          have HE := Lib.hid (HR.out.fail hlt (step_lone HR.out.e0 HLI.out HMO.out h0) (by decide))
                          clear h0
                          go_wp2_with (first | (go_at_call 33; refine (ref_visible _ _).mono ?_; rintro e w' ⟨rfl, rfl⟩) | (go_at_call 34; refine (ref_blank _ _).mono ?_; rintro e w' ⟨rfl, rfl⟩))
                          go_ret3
                          refine ⟨.slice none 0 0, ?_, ?_, hF.bel⟩
                          · rw [HE.out]; rfl
                          · rw [HE.out]; exact World.ownsRow_nil _ _ _ _
                        · have h0' : ((st.fields.length : Int) == 0) = false := beq_eq_false_iff_ne.2 (by omega)
                          have HNM := Lib.hid (name_more (vn := validName) HR.out.e0 HLI.out HMO.out h0)
                          rw [HK.out] at HNM
                          have hb2 := HR.out.body
                          have hne2 : st.fields ≠ [] := fun e => h0 (by rw [e]; rfl)
                          obtain ⟨g, c2, hgv, hdb, hdf, hgl, hput⟩ := hF.last hne2
                          obtain ⟨rfl, rfl⟩ : A = some ⟨g, 0, none⟩ ∧ cc = c2 := by injection hgv with h1 _ h3; exact ⟨h1, h3⟩
                          have hl0 : 0 < st.fields.length := List.length_pos_iff.2 hne2
                          obtain ⟨b, hbb⟩ : ∃ b, ofL (lastBody st.fields) = b := ⟨_, rfl⟩
                          have HBB := Lib.hid (show lastBody st.fields = toL b by rw [← hbb, toL_ofL])
                          rw [hbb] at hdb
                          rw [HBB.out, toL_length] at hb2
                          have HPUT := Lib.hid hput
                          clear hbb hput hgv
                          have hbel2 := hF.bel
                          go_wp2_with (first | (go_at_call 33; refine (ref_visible _ _).mono ?_; rintro e w' ⟨rfl, rfl⟩) | (go_at_call 34; refine (ref_blank _ _).mono ?_; rintro e w' ⟨rfl, rfl⟩))
                          (with_reducible refine (ref_add' b s a i _ _ (by omega) hs (by omega) (by omega) (by omega)).mono ?_)
                          rintro e w' ⟨rfl, rfl⟩
                          have hbl := addGo_body_le (toL s) (s.size + 1) (a) i (toL b) (by omega) (by rw [HL.out]; omega)
                          have hbr := addGo_range (toL s) (s.size + 1) (a) i (toL b)
                          rw [toL_length] at hbl
                          have HAD := Lib.hid (show ∀ q, addGo (s.size + 1) (toL s) (a) i (toL b) = q → addGo ((toL s).length + 1) (toL s) (a) i (lastBody (st.fields)) = q from fun q hq => by rw [HL.out, HBB.out]; exact hq)
                          obtain ⟨r1, r2, hr⟩ : ∃ r1 r2, addGo (s.size + 1) (toL s) (a) i (toL b) = (r1, r2) := ⟨_, _, rfl⟩
                          rw [hr] at hbl hbr ⊢
                          have HAD2 := Lib.hid (HAD.out _ hr)
                          clear hr HAD
                          simp only at hbl hbr ⊢
                          obtain ⟨y, hy⟩ : ∃ y, ofL r1 = y := ⟨_, rfl⟩
                          have HY := Lib.hid (show r1 = toL y by rw [← hy, toL_ofL])
                          rw [hy]
                          rw [HY.out, toL_length] at hbl
                          rw [HY.out] at HAD2
                          clear hy
                          rcases hbr with rfl | ⟨bad, rfl⟩
                          · by_cases h8 : 8192 < y.size
                            · have h8' : decide ((8192 : Int) < (y.size : Int)) = true := by simp; omega
                              have HE := Lib.hid (HR.out.fail hlt (step_body HNM.out HR.out.e0 (by simp only; omega) (by simp only; rw [HL.out]; omega) hne2 (toL y) HAD2.out (by rw [toL_length]; exact h8)) (by decide))
                              go_wp2_with fail
                              go_ret3
                              refine ⟨.slice none 0 0, ?_, ?_, hbel2⟩
                              · rw [HE.out]; rfl
                              · rw [HE.out]; exact World.ownsRow_nil _ _ _ _
                            · have h8' : decide ((8192 : Int) < (y.size : Int)) = false := by simp; omega
                              have HST := Lib.hid (step_fine HNM.out HR.out.e0 (by simp only; omega) (by simp only; rw [HL.out]; omega) hne2 (toL y) HAD2.out (by rw [toL_length]; exact h8))
                              go_wp2_with fail
                              go_roundg m
                              case measure => omega
                              case rel =>
                                refine ⟨i + 1, _, by go_num, by omega, HR.out.next hlt HST.out HR.out.e0 (by simp only; rw [setLast_length]; exact hl64) (by simp only; rw [lastBody_setLast _ _ hne2, toL_length]; omega) (by simp only; omega), ?_⟩
                                exact HPUT.out y
                          · have hbad : decide ((0 : Int) ≤ (bad : Int)) = true := by simp
                            have HE := Lib.hid (HR.out.fail hlt (step_bad HNM.out HR.out.e0 (by simp only; omega) (by simp only; rw [HL.out]; omega) hne2 (toL y) bad HAD2.out) (by decide))
                            go_wp2_with fail
                            go_ret3
                            refine ⟨.slice none 0 0, ?_, ?_, hbel2⟩
                            · rw [HE.out]; rfl
                            · rw [HE.out]; exact World.ownsRow_nil _ _ _ _
                    · obtain rfl : a = i := by omega
                      have ham' : decide ((a : Int) < (a : Int)) = false := by simp
                      rcases HCOL.out with ⟨rfl, hcq⟩ | ⟨c, rfl, hc1, hc2, hcq⟩
                      · have HE := Lib.hid (HR.out.fail hlt (step_nocolon HR.out.e0 HLI.out (by simp [cutL, moreLine]) (by rw [findI_none (by omega)]; decide)) (by decide))
                        clear hcq HCOL
                        go_wp2_with (first | (go_at_call 33; refine (ref_visible _ _).mono ?_; rintro e w' ⟨rfl, rfl⟩) | (go_at_call 34; refine (ref_blank _ _).mono ?_; rintro e w' ⟨rfl, rfl⟩))
                        go_ret3
                        refine ⟨.slice none 0 0, ?_, ?_, hF.bel⟩
                        · rw [HE.out]; rfl
                        · rw [HE.out]; exact World.ownsRow_nil _ _ _ _
                      · omega
            · have hLF : isLF ((toL s)[k]'(by rw [HL.out]; exact hks)) = false := by
                rw [toL_getElem _ _ hks]
                have h10 : num s[k] ≠ 10 := by simpa using hc
                unfold isLF
                rw [beq_eq_false_iff_ne]
                intro e
                apply h10
                rw [e]; rfl
              have HN := Lib.hid (HQ.out.trans (findI_next (d := k - a) hks (by rw [HL.out]; omega) hLF))
              clear hLF
              go_wp2_with fail
              go_round
              case rel => exact ⟨k + 1, by omega, by omega, by go_num, by rw [HN.out, show k - a + 1 = k + 1 - a from by omega]⟩
              case measure => simp [intOf] <;> omega
          · have m1 : decide ((k : Int) < (s.size : Int)) = false := by simp; omega
            have m2 : ((k : Int) == (s.size : Int)) = true := by simp; omega
            have HN := Lib.hid (HQ.out.trans (findI_none (d := k - a) (by omega)))
            have HE := Lib.hid (HR.out.fail hlt (step_short validName (toL s) st a HR.out.e0 (by rw [HN.out]; decide)) (by decide))
            go_wp2_with fail
            go_ret3
            refine ⟨.slice none 0 0, ?_, ?_, hF.bel⟩
            · rw [HE.out, HL.out]; rfl
            · rw [HE.out]; exact World.ownsRow_nil _ _ _ _
      · have HE := Lib.hid (HR.out.done hlt)
        go_wp2_with fail
        go_ret3
        exact ⟨u5, by rw [HE.out]; rfl, by rw [HE.out]; exact hF⟩

end Go.Proofs.YtcohgjdijhogbaaGreat
