/- Lemmas and walks, part 28. -/
import Derived.Test.YtannhfnpigiggaaGreatDoorPs27
import Derived.Test.YtannhfnpigiggaaGreatDoorPs4
import Derived.Deep.RegionHeld3
import Derived.Deep.QuietTactic
import Derived.BigQuiet
namespace Go.Proofs.YtannhfnpigiggaaGreatDoor
set_option linter.unusedSimpArgs false
set_option linter.unusedVariables false
open Go.RowKit
attribute [local go_sem ↓] wp_load_in

theorem index_inL : ∀ (s p : Bs), decide (0 ≤ Lib.index s p) = inL s p
  | [], p => by
    unfold Lib.index inL
    cases p <;> simp
  | c :: r, p => by
    have ih := index_inL r p
    unfold Lib.index inL
    cases h : p.isPrefixOf (c :: r)
    · rw [Bool.false_or, ← ih]
      simp only [h, Bool.false_eq_true, if_false]
      by_cases h1 : Lib.index r p = -1
      · simp [h1]
      · have : decide (0 ≤ Lib.index r p + 1) = decide (0 ≤ Lib.index r p) := by
          rw [Bool.eq_iff_iff]
          simp only [decide_eq_true_eq]
          constructor
          · intro h2; omega
          · intro h2; omega
        simp [h1, this]
    · simp [h]
set_option maxHeartbeats 1000000 in
set_option maxRecDepth 100000 in
theorem asc_indexFold (a b : ByteArray) (w : World) (ha : a.size ≤ 1000000) (hb : b.size ≤ 1000000) (hsh : w.ShapedOpen Tryz.prog) :
    Calls Tryz.prog 213 #[.string a, .string b] w fun e w' => (∃ i : Int, e = .returned (.int .i64 i) ∧ decide (0 ≤ i) = inL (lowerL (toL a)) (lowerL (toL b))) ∧ Below w.heap.size w w' := by
  have HA := Lib.hid (asc_lower a w (by unfold maxLen; omega))
  have HB := Lib.hid (fun wx => asc_lower b wx (by unfold maxLen; omega))
  have hla : (ofL (lowerL (toL a))).size < 4294967281 := by rw [ofL_size, lowerL_length, toL_length]; omega
  have HI := Lib.hid (fun wx (hx : Below w.heap.size w wx) => Tryz.strings_Index_shaped (ofL (lowerL (toL a))) (ofL (lowerL (toL b))) wx (shaped_below hsh hx) hla)
  have HV := Lib.hid (index_inL (lowerL (toL a)) (lowerL (toL b)))
  clear hsh hla
  obtain ⟨LA, hLA⟩ : ∃ LA, ofL (lowerL (toL a)) = LA := ⟨_, rfl⟩
  obtain ⟨LB, hLB⟩ : ∃ LB, ofL (lowerL (toL b)) = LB := ⟨_, rfl⟩
  have HLA := Lib.hid (show LA.data.toList = lowerL (toL a) from by rw [← hLA]; rfl)
  have HLB := Lib.hid (show LB.data.toList = lowerL (toL b) from by rw [← hLB]; rfl)
  rw [hLA] at HA HI
  rw [hLB] at HI
  have HB2 := Lib.hid (show ∀ wx, Calls Tryz.prog 214 #[.string b] wx fun e w' => e = .returned (.string LB) ∧ Below wx.heap.size wx w' from hLB ▸ HB.out)
  clear hLA hLB HB
  go_enter Tryz.func213, Tryz.ntmps213
  go_wp2_with (first
    | (go_at_call 76; (with_reducible refine (HI.out _ HBB.out).mono ?_); rintro e w3 ⟨rfl, rfl⟩)
    | ((with_reducible refine HA.out.mono ?_); rintro e w1 ⟨rfl, hb1⟩; have HB1 := Lib.hid hb1; clear hb1)
    | ((with_reducible refine (HB2.out _).mono ?_); rintro e w2 ⟨rfl, hb2⟩; have HBB := Lib.hid (HB1.out.trans (hb2.mono HB1.out.size)); clear hb2))
  go_ret
  exact ⟨⟨_, rfl, by rw [HLA.out, HLB.out]; exact HV.out⟩, HBB.out⟩
end Go.Proofs.YtannhfnpigiggaaGreatDoor

namespace Go.Proofs.YtannhfnpigiggaaGreatDoor
set_option linter.unusedSimpArgs false
set_option linter.unusedVariables false
open Go.RowKit
attribute [local go_sem ↓] wp_load_in

abbrev TxP (W : World) (b : Nat) (TS : ByteArray) (wx : World) : Prop := wx.cell? ⟨b, 3, none⟩ = some (.string TS) ∧ Below W.heap.size W wx
theorem TxP.later {W wx wy : World} {b : Nat} {TS : ByteArray} (h : TxP W b TS wx) (hb : Below wx.heap.size wx wy) (hz : b < W.heap.size) : TxP W b TS wy :=
  ⟨(hb.cell (p := ⟨b, 3, none⟩) (Nat.lt_of_lt_of_le hz h.2.size)).trans h.1, h.2.trans (hb.mono h.2.size)⟩
set_option maxHeartbeats 8000000 in
set_option maxRecDepth 100000 in
theorem h_txt {x : InS} {IC : Array Value} {A : Option Addr} {gc : Nat} (h : InV x IC A gc) {f m t : Bs} (hf : f ∈ txtFs) (hm : m ∈ modesL) (ht : t.length ≤ 1000000) (w : World) (hsh : w.ShapedOpen Tryz.prog) :
    Calls Tryz.prog 211 #[.agg #[.string (ofL f), .func (.func (txtFn f)) #[] #[], .string (ofL m), .string (ofL t)], .agg IC] w (HoP (txtS m (txtOf f x) t) w) := by
  have HN := Lib.hid (fun wx => in_txt h hf wx)
  have hen := txt_enters hf
  have hxs : (txtOf f x).length ≤ 1000000 := by
    have h0 := h.s0; have h1 := h.s1; have h2 := h.s2
    unfold txtOf
    split
    · exact h0
    · split
      · exact h1
      · exact h2
  have HSH := Lib.hid hsh
  have HSZ := Lib.hid h.size
  clear hsh
  obtain ⟨FS, hFS⟩ : ∃ FS, ofL f = FS := ⟨_, rfl⟩
  obtain ⟨MS, hMS⟩ : ∃ MS, ofL m = MS := ⟨_, rfl⟩
  obtain ⟨TS, hTS⟩ : ∃ TS, ofL t = TS := ⟨_, rfl⟩
  obtain ⟨XS, hXS⟩ : ∃ XS, ofL (txtOf f x) = XS := ⟨_, rfl⟩
  have E1 := Lib.hid (act_eq m wIs)
  have E2 := Lib.hid (act_eq m wHas)
  rw [hMS] at E1 E2
  have HT := Lib.hid (show toL TS = t from by rw [← hTS, toL_ofL])
  have HX := Lib.hid (show toL XS = txtOf f x from by rw [← hXS, toL_ofL])
  have hts : TS.size ≤ 1000000 := by rw [← hTS, ofL_size]; exact ht
  have hxz : XS.size ≤ 1000000 := by rw [← hXS, ofL_size]; exact hxs
  rw [hXS] at HN
  rw [hFS, hMS, hTS, ← HX.out, ← HT.out]
  clear hFS hMS hTS hXS hf h hxs ht HX HT
  generalize txtFn f = F at *
  have HEF := Lib.hid (fun wx => asc_equalFold XS TS wx (by unfold maxLen; omega) (by unfold maxLen; omega))
  have HIF := Lib.hid (fun wx (hx : Below w.heap.size w wx) => asc_indexFold XS TS wx hxz hts (shaped_below HSH.out hx))
  clear HSH
  go_enter Tryz.func211, Tryz.ntmps211
  go_upto_region 1 with fail
  obtain ⟨q0, q1, q2, q3⟩ := two_new w (.cells #[.string FS, .func (.func F) #[] #[], .string MS, .string TS] 165) (.cells IC 26)
  have HB := Lib.hid q2
  have c1 : ((w.alloc (.cells #[.string FS, .func (.func F) #[] #[], .string MS, .string TS] 165)).alloc (.cells IC 26)).cell? ⟨w.heap.size, 1, none⟩ = some (.func (.func F) #[] #[]) := by rw [Lib.cell_of_heap q0]; rfl
  have c2 : ((w.alloc (.cells #[.string FS, .func (.func F) #[] #[], .string MS, .string TS] 165)).alloc (.cells IC 26)).cell? ⟨w.heap.size, 2, none⟩ = some (.string MS) := by rw [Lib.cell_of_heap q0]; rfl
  have c3 : ((w.alloc (.cells #[.string FS, .func (.func F) #[] #[], .string MS, .string TS] 165)).alloc (.cells IC 26)).cell? ⟨w.heap.size, 3, none⟩ = some (.string TS) := by rw [Lib.cell_of_heap q0]; rfl
  obtain ⟨o1, e1⟩ := in_of (in_load q1 HSZ.out)
  have hz : w.heap.size < ((w.alloc (.cells #[.string FS, .func (.func F) #[] #[], .string MS, .string TS] 165)).alloc (.cells IC 26)).heap.size := by omega
  clear q0 q1 q2 q3
  generalize (w.alloc (.cells #[.string FS, .func (.func F) #[] #[], .string MS, .string TS] 165)).alloc (.cells IC 26) = W at *
  simp only [modesL, List.mem_cons, List.not_mem_nil, or_false] at hm
  rcases hm with rfl | rfl | rfl
  · have f1 : (MS.toList == [105, 115]) = true := E1.out.trans (by decide)
    have HV := Lib.hid (show txtS wIs (toL XS) (toL TS) = foldEq (toL XS) (toL TS) from rfl)
    generalize foldEq (toL XS) (toL TS) = q at *
    go_wp2_with (first
      | (go_at_call 212; (with_reducible refine (HEF.out _).mono ?_); rintro e w3 ⟨rfl, hb3⟩; have HB3 := Lib.hid (HB2.out.trans (hb3.mono HB2.out.size)); clear hb3)
      | ((with_reducible refine (HN.out _).mono ?_); rintro e w2 ⟨rfl, hb2⟩; have HB2 := Lib.hid (HB.out.trans (hb2.mono HB.out.size)); have d2 := (hb2.cell (p := ⟨w.heap.size, 2, none⟩) hz).trans c2; have d3 := (hb2.cell (p := ⟨w.heap.size, 3, none⟩) hz).trans c3; clear hb2))
    go_ret
    exact ⟨ret_bool HV.out.symm, HB3.out⟩
  · have f1 : (MS.toList == [105, 115]) = false := E1.out.trans (by decide)
    have f2 : (MS.toList == [104, 97, 115]) = true := E2.out.trans (by decide)
    have HV := Lib.hid (show txtS wHas (toL XS) (toL TS) = inL (lowerL (toL XS)) (lowerL (toL TS)) from rfl)
    generalize inL (lowerL (toL XS)) (lowerL (toL TS)) = q at *
    go_wp2_with (first
      | (go_at_call 213; (with_reducible refine (HIF.out _ HB2.out).mono ?_); rintro e w3 ⟨⟨i, rfl, hi⟩, hb3⟩; have HI := Lib.hid hi; have HB3 := Lib.hid (HB2.out.trans (hb3.mono HB2.out.size)); clear hb3 hi)
      | ((with_reducible refine (HN.out _).mono ?_); rintro e w2 ⟨rfl, hb2⟩; have HB2 := Lib.hid (HB.out.trans (hb2.mono HB.out.size)); have d2 := (hb2.cell (p := ⟨w.heap.size, 2, none⟩) hz).trans c2; have d3 := (hb2.cell (p := ⟨w.heap.size, 3, none⟩) hz).trans c3; clear hb2))
    go_ret
    exact ⟨ret_bool (HI.out.trans HV.out.symm), HB3.out⟩
  · have f1 : (MS.toList == [105, 115]) = false := E1.out.trans (by decide)
    have f2 : (MS.toList == [104, 97, 115]) = false := E2.out.trans (by decide)
    have HL := Lib.hid (show (toL XS).length = XS.size ∧ (toL TS).length = TS.size from ⟨toL_length _, toL_length _⟩)
    have HV := Lib.hid (show txtS wBegins (toL XS) (toL TS) = (decide ((toL TS).length ≤ (toL XS).length) && foldEq ((toL XS).take (toL TS).length) (toL TS)) from rfl)
    rw [HL.out.1, HL.out.2] at HV
    by_cases hle : TS.size ≤ XS.size
    · rw [decide_eq_true hle, Bool.true_and] at HV
      have hle' : decide (TS.size ≤ XS.size) = true := decide_eq_true hle
      have HE2 := Lib.hid (fun wx => asc_equalFold (XS.extract 0 TS.size) TS wx (by rw [ByteArray.size_extract]; unfold maxLen; omega) (by unfold maxLen; omega))
      rw [show toL (XS.extract 0 TS.size) = (toL XS).take TS.size from by rw [extract_toL]; unfold cutL; simp] at HE2
      generalize foldEq ((toL XS).take TS.size) (toL TS) = q at *
      go_upto_region 7 with (((with_reducible refine (HN.out _).mono ?_); rintro e w2 ⟨rfl, hb2⟩; have HB2 := Lib.hid (HB.out.trans (hb2.mono HB.out.size)); have d2 := (hb2.cell (p := ⟨w.heap.size, 2, none⟩) hz).trans c2; have d3 := (hb2.cell (p := ⟨w.heap.size, 3, none⟩) hz).trans c3; have hz2 := Nat.lt_of_lt_of_le hz hb2.size; clear hb2))
      have HK := Lib.hid (show TxP w2 w.heap.size TS w2.drew from ⟨d3, (Below.refl _ _).drew⟩)
      go_region_held3 (fun w' => w'.cell? ⟨w.heap.size, 3, none⟩ = some (.string TS) ∧ Below w2.heap.size w2 w')
        (first | exact HK.out | exact TxP.later (by assumption) hb5 hz2)
        ((go_at_call 212; (with_reducible refine (HE2.out _).mono ?_); rintro e w5 ⟨rfl, hb5⟩))
      rename_i hS
      go_wp2_with fail
      go_ret
      exact ⟨ret_bool HV.out.symm, HB2.out.trans (hS.2.mono HB2.out.size)⟩
    · rw [decide_eq_false hle, Bool.false_and] at HV
      have hle' : decide (TS.size ≤ XS.size) = false := decide_eq_false hle
      go_upto_region 7 with (((with_reducible refine (HN.out _).mono ?_); rintro e w2 ⟨rfl, hb2⟩; have HB2 := Lib.hid (HB.out.trans (hb2.mono HB.out.size)); have d2 := (hb2.cell (p := ⟨w.heap.size, 2, none⟩) hz).trans c2; have d3 := (hb2.cell (p := ⟨w.heap.size, 3, none⟩) hz).trans c3; have hz2 := Nat.lt_of_lt_of_le hz hb2.size; clear hb2))
      go_quiet (fail)
      go_wp2_with fail
      go_ret
      exact ⟨ret_bool HV.out.symm, HB2.out.trans ((below_drewN (Below.refl w2.heap.size w2) nq).mono HB2.out.size)⟩
end Go.Proofs.YtannhfnpigiggaaGreatDoor

namespace Go.Proofs.YtannhfnpigiggaaGreatDoor
set_option linter.unusedSimpArgs false
set_option linter.unusedVariables false
open Go.Lib (decDigits)

/-- What a token may weigh in the printed text. -/
def wtT (t : Tok) : Nat := 2 * t.text.length + 16
def wtL : List Tok → Nat
  | [] => 0
  | t :: r => wtT t + wtL r
theorem isT_cons {x : Bs} {ts : List Tok} (h : isT x ts = true) : ∃ t r, ts = t :: r ∧ t.text = x ∧ (t.kind = 1 ∨ t.kind = 4) := by
  cases ts with
  | nil => cases h
  | cons t r =>
    simp only [isT, Bool.and_eq_true, Bool.or_eq_true, beq_iff_eq] at h
    exact ⟨t, r, rfl, h.2, h.1⟩
theorem isT_tail {x : Bs} {ts : List Tok} (h : isT x ts = true) : wtL ts = 2 * x.length + 16 + wtL ts.tail := by
  obtain ⟨t, r, rfl, e, _⟩ := isT_cons h
  simp only [wtL, wtT, List.tail_cons, e]
theorem oneF_cons {l : List Bs} {ts : List Tok} {a : Bs × List Tok} (h : oneF l ts = .ok a) : ∃ t, ts = t :: a.2 ∧ t.text = a.1 ∧ a.1 ∈ l ∧ (t.kind = 1 ∨ t.kind = 4) := by
  cases ts with
  | nil => cases h
  | cons t r =>
    unfold oneF at h
    simp only at h
    split at h
    · rename_i hq
      injection h with h
      obtain ⟨x, hx, hi⟩ := List.any_eq_true.1 hq
      obtain ⟨t', r', e, e2, hk⟩ := isT_cons hi
      injection e with e3 e4
      subst e3
      refine ⟨t, by rw [← h], by rw [← h], by rw [← h]; simp only; rw [e2]; exact hx, hk⟩
    · cases h
theorem numF_cons {m : Nat} {ts : List Tok} {a : Nat × List Tok} (h : numF m ts = .ok a) : ∃ t, ts = t :: a.2 ∧ t.num = a.1 ∧ a.1 ≤ m ∧ t.kind = 2 := by
  cases ts with
  | nil => cases h
  | cons t r =>
    unfold numF at h
    simp only at h
    split at h
    · cases h
    · rename_i hk
      split at h
      · cases h
      · injection h with h; exact ⟨t, by rw [← h], by rw [← h], by rw [← h]; simp only; omega, by omega⟩
theorem quoF_cons {ts : List Tok} {a : Tok × List Tok} (h : quoF ts = .ok a) : ts = a.1 :: a.2 ∧ a.1.kind = 3 := by
  cases ts with
  | nil => cases h
  | cons t r =>
    unfold quoF at h
    simp only at h
    split at h
    · cases h
    · injection h with h; rw [← h]; exact ⟨rfl, by simp only; omega⟩
theorem escL_length (s : Bs) : (escL s).length ≤ 2 * s.length := by
  induction s with
  | nil => simp [escL]
  | cons c r ih =>
    have e : escL (c :: r) = (if c = 34 ∨ c = 92 then [92, c] else [c]) ++ escL r := by simp [escL]
    rw [e, List.length_append, List.length_cons]
    split <;> simp <;> omega
theorem quoteL_length (s : Bs) : (quoteL s).length ≤ 2 * s.length + 2 := by
  have := escL_length s
  simp only [quoteL, List.length_cons, List.length_append, List.length_nil]; omega
/-- The length of a condition's text, with parentheses where it may want them. -/
def prB (c : Cond) : Nat := (printF c).length + (if isOr c then 2 else 0)
theorem prB_ge (c : Cond) : (printF c).length ≤ prB c := Nat.le_add_right _ _
theorem cmpOp_len {o : Bs} (h : o ∈ cmpOps) : o.length ≤ 2 := by
  have : ∀ x ∈ cmpOps, x.length ≤ 2 := by decide
  exact this o h
theorem numFs_len {o : Bs} (h : o ∈ numFs) : o.length ≤ 7 := by
  have : ∀ x ∈ numFs, x.length ≤ 7 := by decide
  exact this o h
theorem txtFs_len {o : Bs} (h : o ∈ txtFs) : o.length ≤ 7 := by
  have : ∀ x ∈ txtFs, x.length ≤ 7 := by decide
  exact this o h
theorem modes_len {o : Bs} (h : o ∈ modesL) : o.length ≤ 6 := by
  have : ∀ x ∈ modesL, x.length ≤ 6 := by decide
  exact this o h
/-- A test that was read. -/
theorem testF_cases {ts : List Tok} {a : Cond × List Tok} (h : testF ts = .ok a) :
    (∃ t o n, t.kind = 1 ∧ t.text ∈ numFs ∧ oneF cmpOps ts.tail = .ok o ∧ numF 2147483647 o.2 = .ok n ∧ ts = t :: ts.tail ∧ a = (.cmp t.text o.1 n.1, n.2)) ∨
    (∃ t m q, t.kind = 1 ∧ t.text ∉ numFs ∧ t.text ∈ txtFs ∧ oneF modesL ts.tail = .ok m ∧ quoF m.2 = .ok q ∧ ts = t :: ts.tail ∧ a = (.txt t.text m.1 q.1.text, q.2)) ∨
    (∃ t f i q, ts = t :: ts.tail ∧ t.kind = 1 ∧ t.text ∉ numFs ∧ t.text ∉ txtFs ∧ oneF [wAuthor, wGroup] ts = .ok f ∧ oneF [wIs] f.2 = .ok i ∧ quoF i.2 = .ok q ∧ a.2 = q.2 ∧ ((f.1 = wGroup ∧ (compF q.1.text).2.2 = 0 ∧ a.1 = .grp q.1.text) ∨ (f.1 = wAuthor ∧ authB q.1.text = true ∧ a.1 = .auth q.1.text))) := by
  cases ts with
  | nil => cases h
  | cons t r =>
    unfold testF at h
    simp only at h
    split at h
    · cases h
    · rename_i hk
      have hk : t.kind = 1 := by omega
      split at h
      · rename_i h1
        obtain ⟨o, ho, h⟩ := bindE_ok h
        obtain ⟨n, hn, h⟩ := bindE_ok h
        injection h with h
        exact .inl ⟨t, o, n, hk, h1, ho, hn, rfl, h.symm⟩
      · rename_i h1
        split at h
        · rename_i h2
          obtain ⟨o, ho, h⟩ := bindE_ok h
          obtain ⟨n, hn, h⟩ := bindE_ok h
          injection h with h
          exact .inr (.inl ⟨t, o, n, hk, h1, h2, ho, hn, rfl, h.symm⟩)
        · rename_i h2
          rw [whoF_eq] at h
          obtain ⟨f, hf, h⟩ := bindE_ok h
          obtain ⟨i, hi, h⟩ := bindE_ok h
          obtain ⟨q, hq, h⟩ := bindE_ok h
          refine .inr (.inr ⟨t, f, i, q, rfl, hk, h1, h2, hf, hi, hq, ?_⟩)
          obtain ⟨_, _, _, hm, _⟩ := oneF_cons hf
          split at h
          · rename_i hg
            split at h
            · cases h
            · rename_i hc
              injection h with h
              rw [← h]
              exact ⟨rfl, .inl ⟨hg, by omega, rfl⟩⟩
          · rename_i hg
            split at h
            · rename_i hc
              injection h with h
              rw [← h]
              refine ⟨rfl, .inr ⟨?_, hc, rfl⟩⟩
              have hm : f.1 ∈ ([wAuthor, wGroup] : List Bs) := hm
              simp only [List.mem_cons, List.not_mem_nil, or_false] at hm
              rcases hm with hm | hm
              · exact hm
              · exact absurd hm hg
            · cases h
theorem testF_wt {ts : List Tok} {a : Cond × List Tok} (h : testF ts = .ok a) : prB a.1 + wtL a.2 ≤ wtL ts := by
  rcases testF_cases h with ⟨t, o, n, _, h1, ho, hn, hts, rfl⟩ | ⟨t, m, q, _, _, h1, ho, hq, hts, rfl⟩ | ⟨t, f, i, q, hts, _, _, _, hf, hi, hq, h2, hw⟩
  · obtain ⟨t1, e1, e2, m1, _⟩ := oneF_cons ho
    obtain ⟨t2, e3, e4, m2, _⟩ := numF_cons hn
    have d := dec_len_lt 9 n.1 (by omega)
    rw [hts, e1, e3]
    simp only [prB, isOr, printF, wtL, wtT, List.length_append, List.length_cons, e2]
    simp; omega
  · obtain ⟨t1, e1, e2, m1, _⟩ := oneF_cons ho
    obtain ⟨e3, _⟩ := quoF_cons hq
    have d := quoteL_length q.1.text
    rw [hts, e1, e3]
    simp only [prB, isOr, printF, wtL, wtT, List.length_append, List.length_cons, e2]
    simp; omega
  · obtain ⟨t0, e0, e5, _, _⟩ := oneF_cons hf
    obtain ⟨t1, e1, e2, m1, _⟩ := oneF_cons hi
    obtain ⟨e3, _⟩ := quoF_cons hq
    have d := quoteL_length q.1.text
    rw [e0, e1, e3, h2]
    rcases hw with ⟨hg, _, hw⟩ | ⟨hg, _, hw⟩
    · rw [hw]
      rw [hg] at e5
      have l1 : wGroup.length = 5 := rfl
      have l2 : wIs.length = 2 := rfl
      simp only [prB, isOr, printF, wtL, wtT, List.length_append, List.length_cons, e5, l1, l2]
      simp; omega
    · rw [hw]
      rw [hg] at e5
      have l1 : wAuthor.length = 6 := rfl
      have l2 : wIs.length = 2 := rfl
      simp only [prB, isOr, printF, wtL, wtT, List.length_append, List.length_cons, e5, l1, l2]
      simp; omega
/-- A parser of conditions whose text is no longer than the tokens weigh. -/
def Wt (p : Pr Cond) : Prop := ∀ ts a, p ts = .ok a → prB a.1 + wtL a.2 ≤ wtL ts
def Wt0 (p : Pr Cond) : Prop := ∀ ts a, p ts = .ok a → (printF a.1).length + wtL a.2 ≤ wtL ts
def sumB : List Cond → Nat
  | [] => 0
  | c :: r => prB c + 5 + sumB r
def sumO : List Cond → Nat
  | [] => 0
  | c :: r => (printF c).length + 4 + sumO r
theorem printAnd_le : ∀ (l : List Cond), (printAnd l).length + 5 ≤ sumB l + 5
  | [] => by simp [printAnd, sumB]
  | [c] => by
    simp only [printAnd, sumB, prB]
    split <;> simp <;> omega
  | c :: d :: r => by
    have ih := printAnd_le (d :: r)
    have e : printAnd (c :: d :: r) = (if isOr c then 40 :: (printF c ++ [41]) else printF c) ++ ([32, 97, 110, 100, 32] ++ printAnd (d :: r)) := by rw [printAnd]
    rw [e]
    simp only [sumB, prB, List.length_append, List.length_cons, List.length_nil] at ih ⊢
    split <;> simp <;> omega
theorem printAnd_two (c d : Cond) (r : List Cond) : (printAnd (c :: d :: r)).length ≤ prB c + sumB (d :: r) := by
  have ih := printAnd_le (d :: r)
  have e : printAnd (c :: d :: r) = (if isOr c then 40 :: (printF c ++ [41]) else printF c) ++ ([32, 97, 110, 100, 32] ++ printAnd (d :: r)) := by rw [printAnd]
  rw [e]
  have hd : (printAnd (d :: r)).length + 5 ≤ sumB (d :: r) := by
    cases r with
    | nil =>
      simp only [printAnd, sumB, prB]
      split <;> simp <;> omega
    | cons x r =>
      have ih2 := printAnd_two d x r
      simp only [sumB] at ih2 ⊢; omega
  simp only [prB, List.length_append, List.length_cons, List.length_nil]
  split <;> simp <;> omega
theorem printOr_two (c d : Cond) (r : List Cond) : (printOr (c :: d :: r)).length ≤ (printF c).length + sumO (d :: r) := by
  have e : printOr (c :: d :: r) = printF c ++ ([32, 111, 114, 32] ++ printOr (d :: r)) := by rw [printOr]
  rw [e]
  have hd : (printOr (d :: r)).length + 4 ≤ sumO (d :: r) := by
    cases r with
    | nil => simp only [printOr, sumO]; omega
    | cons x r =>
      have ih2 := printOr_two d x r
      simp only [sumO] at ih2 ⊢; omega
  simp only [List.length_append, List.length_cons, List.length_nil]; omega
theorem more_wtA {p : Pr Cond} (hp : Wt p) : ∀ g ts a, moreF wAnd p g ts = .ok a → sumB a.1 + wtL a.2 ≤ wtL ts
  | 0, ts, a, h => by unfold moreF at h; injection h with h; rw [← h]; simp [sumB]
  | g + 1, ts, a, h => by
    unfold moreF at h
    split at h
    · rename_i hw
      obtain ⟨x, h1, h⟩ := bindE_ok h
      obtain ⟨y, h2, h⟩ := bindE_ok h
      have e1 := hp _ _ h1
      have e2 := more_wtA hp g _ _ h2
      have e3 := isT_tail hw
      have e4 : wAnd.length = 3 := rfl
      injection h with h; rw [← h]; simp only [sumB]; omega
    · injection h with h; rw [← h]; simp [sumB]
theorem more_wtO {p : Pr Cond} (hp : Wt0 p) : ∀ g ts a, moreF wOr p g ts = .ok a → sumO a.1 + wtL a.2 ≤ wtL ts
  | 0, ts, a, h => by unfold moreF at h; injection h with h; rw [← h]; simp [sumO]
  | g + 1, ts, a, h => by
    unfold moreF at h
    split at h
    · rename_i hw
      obtain ⟨x, h1, h⟩ := bindE_ok h
      obtain ⟨y, h2, h⟩ := bindE_ok h
      have e1 := hp _ _ h1
      have e2 := more_wtO hp g _ _ h2
      have e3 := isT_tail hw
      have e4 : wOr.length = 2 := rfl
      injection h with h; rw [← h]; simp only [sumO]; omega
    · injection h with h; rw [← h]; simp [sumO]
theorem both_wt {p : Pr Cond} (hp : Wt p) : Wt (bothF p) := by
  intro ts a h
  unfold bothF listC at h
  obtain ⟨x, h1, h⟩ := bindE_ok h
  obtain ⟨y, h2, h⟩ := bindE_ok h
  have e1 := hp _ _ h1
  have e2 := more_wtA hp _ _ _ h2
  injection h with h; rw [← h]
  rcases hy : y.1 with _ | ⟨d, r⟩
  · rw [hy] at e2; simp only [joinC, sumB] at e2 ⊢; omega
  · rw [hy] at e2
    have e3 := printAnd_two x.1 d r
    simp only [joinC, prB, isOr, printF] at e1 e3 ⊢
    simp only [Bool.false_eq_true, if_false]; omega
theorem or_wt {p : Pr Cond} (hp : Wt p) : Wt0 (orF p) := by
  intro ts a h
  unfold orF listC at h
  obtain ⟨x, h1, h⟩ := bindE_ok h
  obtain ⟨y, h2, h⟩ := bindE_ok h
  have hb : Wt0 (bothF p) := fun ts a h => by have := both_wt hp ts a h; have := prB_ge a.1; omega
  have e1 := hb _ _ h1
  have e2 := more_wtO hb _ _ _ h2
  injection h with h; rw [← h]
  rcases hy : y.1 with _ | ⟨d, r⟩
  · rw [hy] at e2; simp only [joinC, sumO] at e2 ⊢; omega
  · rw [hy] at e2
    have e3 := printOr_two x.1 d r
    simp only [joinC, printF] at e3 ⊢; omega
theorem single_wt : ∀ n, Wt (singleF n)
  | n, ts, a, h => by
    unfold singleF at h
    split at h
    · exact testF_wt h
    · rename_i hw
      cases n with
      | zero => cases h
      | succ n =>
        simp only at h
        split at h
        · rename_i hn
          obtain ⟨x, h1, h⟩ := bindE_ok h
          have e1 := single_wt n _ _ h1
          have e3 := isT_tail hn
          have e4 : wNot.length = 3 := rfl
          have := prB_ge x.1
          injection h with h; rw [← h]
          simp only [prB, isOr, printF]
          split <;> simp [e4] <;> omega
        · rename_i hn
          have hl : isT yLp ts = true := by
            cases h1 : isT yLp ts
            · rw [h1] at hw; cases h2 : isT wNot ts
              · rw [h2] at hw; exact absurd rfl hw
              · exact absurd h2 hn
            · rfl
          obtain ⟨x, h1, h⟩ := bindE_ok h
          obtain ⟨y, h2, h⟩ := bindE_ok h
          have e1 := or_wt (single_wt n) _ _ h1
          have e3 := isT_tail hl
          obtain ⟨t, e4, e5, _⟩ := oneF_cons h2
          injection h with h; rw [← h]
          rw [e4] at e1
          simp only [prB, wtL, wtT] at e1 ⊢
          split <;> omega
theorem cond_wt (n : Nat) : Wt0 (condF n) := or_wt (single_wt n)
end Go.Proofs.YtannhfnpigiggaaGreatDoor

namespace Go.Proofs.YtannhfnpigiggaaGreatDoor
set_option linter.unusedSimpArgs false
set_option linter.unusedVariables false

/-- A token without its column. -/
def ess (t : Tok) : Nat × Bs × Nat := (t.kind, t.text, t.num)
theorem ess_eq {t u : Tok} (h : ess u = ess t) : u.kind = t.kind ∧ u.text = t.text ∧ u.num = t.num := by
  unfold ess at h
  injection h with h1 h
  injection h with h2 h3
  exact ⟨h1, h2, h3⟩
theorem map_ess_cons {us : List Tok} {t : Tok} {ts : List Tok} (h : us.map ess = (t :: ts).map ess) : ∃ u us', us = u :: us' ∧ ess u = ess t ∧ us'.map ess = ts.map ess := by
  cases us with
  | nil => cases h
  | cons u us' =>
    simp only [List.map_cons] at h
    injection h with h1 h2
    exact ⟨u, us', rfl, h1, h2⟩
theorem map_ess_nil {us : List Tok} (h : us.map ess = ([] : List Tok).map ess) : us = [] := by simpa using h
theorem map_ess_app {us : List Tok} {a b : List Tok} (h : us.map ess = (a ++ b).map ess) : ∃ u v, us = u ++ v ∧ u.map ess = a.map ess ∧ v.map ess = b.map ess := by
  induction a generalizing us with
  | nil => exact ⟨[], us, rfl, rfl, h⟩
  | cons t a ih =>
    obtain ⟨u, us', rfl, h1, h2⟩ := map_ess_cons h
    obtain ⟨x, y, rfl, h3, h4⟩ := ih h2
    exact ⟨u :: x, y, rfl, by simp [h1, h3], h4⟩
theorem isT_ess {x : Bs} {t u : Tok} {r s : List Tok} (h : ess u = ess t) : isT x (u :: s) = isT x (t :: r) := by
  obtain ⟨h1, h2, _⟩ := ess_eq h
  simp only [isT, h1, h2]
theorem oneF_loc {l : List Bs} {ts : List Tok} {a : Bs × List Tok} (h : oneF l ts = .ok a) : ∃ t, ts = t :: a.2 ∧ t.kind ≠ 0 ∧ t.text = a.1 ∧ ∀ u r', ess u = ess t → oneF l (u :: r') = .ok (a.1, r') := by
  obtain ⟨t, e1, e2, _, ek⟩ := oneF_cons h
  refine ⟨t, e1, by omega, e2, fun u r' hu => ?_⟩
  have hq : l.any (fun x => isT x (u :: r')) = true := by
    rw [e1] at h
    unfold oneF at h
    simp only at h
    split at h
    · rename_i hq
      rw [← hq]
      congr 1
      funext x
      exact isT_ess hu
    · cases h
  unfold oneF
  simp only
  rw [if_pos hq, (ess_eq hu).2.1, e2]
theorem numF_loc {m : Nat} {ts : List Tok} {a : Nat × List Tok} (h : numF m ts = .ok a) : ∃ t, ts = t :: a.2 ∧ t.kind ≠ 0 ∧ ∀ u r', ess u = ess t → numF m (u :: r') = .ok (a.1, r') := by
  obtain ⟨t, e1, e2, e3, ek⟩ := numF_cons h
  refine ⟨t, e1, by omega, fun u r' hu => ?_⟩
  obtain ⟨g1, g2, g3⟩ := ess_eq hu
  unfold numF
  simp only
  rw [if_neg (by omega), if_neg (by omega), g3, e2]
theorem quoF_loc {ts : List Tok} {a : Tok × List Tok} (h : quoF ts = .ok a) : ∃ t, ts = t :: a.2 ∧ t.kind ≠ 0 ∧ ∀ u r', ess u = ess t → ∃ q, quoF (u :: r') = .ok (q, r') ∧ q.text = a.1.text := by
  obtain ⟨e1, ek⟩ := quoF_cons h
  refine ⟨a.1, e1, by omega, fun u r' hu => ⟨u, ?_, (ess_eq hu).2.1⟩⟩
  unfold quoF
  simp only
  rw [if_neg (by rw [(ess_eq hu).1]; omega)]
theorem bindE_is {α β : Type} {x : Except Fl α} {k : α → Except Fl β} {a : α} (h : x = .ok a) : bindE x k = k a := by subst h; rfl
theorem testF_loc {ts : List Tok} {a : Cond × List Tok} (h : testF ts = .ok a) : ∃ t pre, ts = t :: (pre ++ a.2) ∧ (∀ x ∈ t :: pre, x.kind ≠ 0) ∧ ∀ us r', us.map ess = (t :: pre).map ess → testF (us ++ r') = .ok (a.1, r') := by
  rcases testF_cases h with ⟨t, o, n, hk, h1, ho, hn, hts, rfl⟩ | ⟨t, m, q, hk, h0, h1, ho, hq, hts, rfl⟩ | ⟨t, f, i, q, hts, hk, h0, h1, hf, hi, hq, h2, hw⟩
  · obtain ⟨t1, e1, k1, _, l1⟩ := oneF_loc ho
    obtain ⟨t2, e2, k2, l2⟩ := numF_loc hn
    refine ⟨t, [t1, t2], by rw [hts, e1, e2]; rfl, ?_, fun us r' hu => ?_⟩
    · intro x hx
      simp only [List.mem_cons, List.not_mem_nil, or_false] at hx
      rcases hx with rfl | rfl | rfl
      · omega
      · exact k1
      · exact k2
    · obtain ⟨u, us, rfl, g0, hu⟩ := map_ess_cons hu
      obtain ⟨u1, us, rfl, g1, hu⟩ := map_ess_cons hu
      obtain ⟨u2, us, rfl, g2, hu⟩ := map_ess_cons hu
      cases map_ess_nil hu
      obtain ⟨d1, d2, d3⟩ := ess_eq g0
      simp only [List.cons_append, List.nil_append]
      unfold testF
      simp only
      rw [if_neg (by rw [d1]; omega), d2, if_pos h1, bindE_is (l1 _ _ g1), bindE_is (l2 _ _ g2)]
  · obtain ⟨t1, e1, k1, _, l1⟩ := oneF_loc ho
    obtain ⟨t2, e2, k2, l2⟩ := quoF_loc hq
    refine ⟨t, [t1, t2], by rw [hts, e1, e2]; rfl, ?_, fun us r' hu => ?_⟩
    · intro x hx
      simp only [List.mem_cons, List.not_mem_nil, or_false] at hx
      rcases hx with rfl | rfl | rfl
      · omega
      · exact k1
      · exact k2
    · obtain ⟨u, us, rfl, g0, hu⟩ := map_ess_cons hu
      obtain ⟨u1, us, rfl, g1, hu⟩ := map_ess_cons hu
      obtain ⟨u2, us, rfl, g2, hu⟩ := map_ess_cons hu
      cases map_ess_nil hu
      obtain ⟨d1, d2, d3⟩ := ess_eq g0
      obtain ⟨q', x1, x2⟩ := l2 u2 r' g2
      simp only [List.cons_append, List.nil_append]
      unfold testF
      simp only
      rw [if_neg (by rw [d1]; omega), d2, if_neg h0, if_pos h1, bindE_is (l1 _ _ g1), bindE_is x1]
      simp only [x2]
  · obtain ⟨t0, e0, k0, _, l0⟩ := oneF_loc hf
    obtain ⟨t1, e1, k1, _, l1⟩ := oneF_loc hi
    obtain ⟨t2, e2, k2, l2⟩ := quoF_loc hq
    have et : t0 = t := by rw [e0] at hts; injection hts
    subst et
    refine ⟨t0, [t1, t2], by rw [e0, e1, e2, h2]; rfl, ?_, fun us r' hu => ?_⟩
    · intro x hx
      simp only [List.mem_cons, List.not_mem_nil, or_false] at hx
      rcases hx with rfl | rfl | rfl
      · exact k0
      · exact k1
      · exact k2
    · obtain ⟨u, us, rfl, g0, hu⟩ := map_ess_cons hu
      obtain ⟨u1, us, rfl, g1, hu⟩ := map_ess_cons hu
      obtain ⟨u2, us, rfl, g2, hu⟩ := map_ess_cons hu
      cases map_ess_nil hu
      obtain ⟨d1, d2, d3⟩ := ess_eq g0
      obtain ⟨q', x1, x2⟩ := l2 u2 r' g2
      simp only [List.cons_append, List.nil_append]
      unfold testF
      simp only
      rw [if_neg (by rw [d1]; omega), d2, if_neg h0, if_neg h1, whoF_eq, bindE_is (show oneF whoL _ = _ from l0 _ _ g0)]
      simp only
      rw [bindE_is (show oneF isL _ = _ from l1 _ _ g1)]
      simp only
      rw [bindE_is x1]
      simp only [x2]
      rcases hw with ⟨w1, w2, w3⟩ | ⟨w1, w2, w3⟩
      · rw [if_pos w1, if_neg (by omega), w3]
      · rw [if_neg (by rw [w1]; decide), if_pos w2, w3]
/-- What is read does not depend on what follows, if that may stand there. -/
def LocW (p : Pr Cond) (W : List Tok → Prop) : Prop := ∀ ts a, p ts = .ok a → W a.2 ∧ ∃ t pre, ts = t :: (pre ++ a.2) ∧ (∀ x ∈ t :: pre, x.kind ≠ 0) ∧ ∀ us r', us.map ess = (t :: pre).map ess → W r' → p (us ++ r') = .ok (a.1, r')
/-- A claim about what follows that depends on the first token's make. -/
def HeadW (W : List Tok → Prop) : Prop := ∀ t u r s, ess u = ess t → W (t :: r) → W (u :: s)
theorem headW_app {W : List Tok → Prop} (hW : HeadW W) {us pre a r' : List Tok} (h : us.map ess = pre.map ess) (h1 : W (pre ++ a)) (h2 : W r') : W (us ++ r') := by
  cases pre with
  | nil => rw [map_ess_nil h]; exact h2
  | cons t pre =>
    obtain ⟨u, us', rfl, g, _⟩ := map_ess_cons h
    exact hW t u _ _ g h1
theorem more_stop {word : Bs} {p : Pr Cond} {ts : List Tok} (h : isT word ts = false) : ∀ g, moreF word p g ts = .ok ([], ts)
  | 0 => rfl
  | g + 1 => by unfold moreF; rw [if_neg (by simp [h])]
theorem moreF_loc {word : Bs} {p : Pr Cond} {W : List Tok → Prop} (hp : LocW p W) (hW : HeadW W) : ∀ g ts a, ts.length ≤ g → W ts → moreF word p g ts = .ok a →
    isT word a.2 = false ∧ W a.2 ∧ ∃ pre, ts = pre ++ a.2 ∧ (∀ x ∈ pre, x.kind ≠ 0) ∧ ∀ us r' g', us.map ess = pre.map ess → isT word r' = false → W r' → (us ++ r').length ≤ g' → moreF word p g' (us ++ r') = .ok (a.1, r')
  | 0, ts, a, hg, hts, h => by
    have e : ts = [] := by cases ts with | nil => rfl | cons t r => simp at hg
    subst e
    unfold moreF at h
    injection h with h; subst h
    refine ⟨rfl, hts, [], rfl, by simp, fun us r' g' hu hr _ _ => ?_⟩
    rw [map_ess_nil hu]; exact more_stop hr g'
  | g + 1, ts, a, hg, hts, h => by
    unfold moreF at h
    split at h
    · rename_i hw
      obtain ⟨x, h1, h⟩ := bindE_ok h
      obtain ⟨y, h2, h⟩ := bindE_ok h
      injection h with h; subst h
      obtain ⟨t, r, rfl, ht, hk⟩ := isT_cons hw
      rw [List.tail_cons] at h1
      obtain ⟨w1, t1, pre1, e1, k1, l1⟩ := hp _ _ h1
      have hl : x.2.length ≤ g := by
        have := congrArg List.length e1
        simp only [List.length_cons, List.length_append] at this hg
        omega
      obtain ⟨i2, w2, pre2, e2, k2, l2⟩ := moreF_loc hp hW g x.2 y hl w1 h2
      refine ⟨i2, w2, t :: (t1 :: (pre1 ++ pre2)), ?_, ?_, fun us r' g' hu hr hWr hg' => ?_⟩
      · rw [e1]; conv => lhs; rw [e2]
        simp
      · intro z hz
        rcases List.mem_cons.1 hz with rfl | hz
        · omega
        · rcases List.mem_cons.1 hz with rfl | hz
          · exact k1 _ (by simp)
          · rcases List.mem_append.1 hz with hz | hz
            · exact k1 z (by simp [hz])
            · exact k2 z hz
      · obtain ⟨u, us, rfl, g0, hu⟩ := map_ess_cons hu
        obtain ⟨u1, us2, rfl, hu1, hu2⟩ := map_ess_app (a := t1 :: pre1) (b := pre2) hu
        cases g' with
        | zero => simp at hg'
        | succ g' =>
          have hl2 : (us2 ++ r').length ≤ g' := by
            simp only [List.length_cons, List.length_append] at hg' ⊢; omega
          have hin : moreF word p g' (us2 ++ r') = .ok (y.1, r') := l2 us2 r' g' hu2 hr hWr hl2
          have hW2 : W (us2 ++ r') := headW_app hW hu2 (by rw [← e2]; exact w1) hWr
          have hone : p (u1 ++ (us2 ++ r')) = .ok (x.1, us2 ++ r') := l1 u1 _ hu1 hW2
          unfold moreF
          simp only [List.cons_append, List.append_assoc]
          rw [if_pos (by rw [isT_ess g0]; exact hw), List.tail_cons, bindE_is hone]
          simp only
          rw [bindE_is hin]
    · rename_i hw
      injection h with h; subst h
      refine ⟨by simpa using hw, hts, [], rfl, by simp, fun us r' g' hu hr _ _ => ?_⟩
      rw [map_ess_nil hu]; exact more_stop hr g'
theorem listC_loc {word : Bs} {mk : List Cond → Cond} {p : Pr Cond} {W : List Tok → Prop} (hp : LocW p W) (hW : HeadW W) : LocW (listC word mk p) (fun r => isT word r = false ∧ W r) := by
  intro ts a h
  unfold listC at h
  obtain ⟨x, h1, h⟩ := bindE_ok h
  obtain ⟨y, h2, h⟩ := bindE_ok h
  injection h with h; subst h
  obtain ⟨w1, t, pre1, e1, k1, l1⟩ := hp _ _ h1
  obtain ⟨i2, w2, pre2, e2, k2, l2⟩ := moreF_loc hp hW _ x.2 y (Nat.le_refl _) w1 h2
  refine ⟨⟨i2, w2⟩, t, pre1 ++ pre2, ?_, ?_, fun us r' hu hr => ?_⟩
  · rw [e1]; conv => lhs; rw [e2]
    simp
  · intro z hz
    rcases List.mem_cons.1 hz with rfl | hz
    · exact k1 _ (by simp)
    · rcases List.mem_append.1 hz with hz | hz
      · exact k1 z (by simp [hz])
      · exact k2 z hz
  · obtain ⟨u1, us2, rfl, hu1, hu2⟩ := map_ess_app (a := t :: pre1) (b := pre2) hu
    have hW2 : W (us2 ++ r') := headW_app hW hu2 (by rw [← e2]; exact w1) hr.2
    have hone : p (u1 ++ (us2 ++ r')) = .ok (x.1, us2 ++ r') := l1 u1 _ hu1 hW2
    have hin := l2 us2 r' (us2 ++ r').length hu2 hr.1 hr.2 (Nat.le_refl _)
    unfold listC
    rw [List.append_assoc, bindE_is hone]
    simp only
    rw [bindE_is hin]
theorem headW_not {word : Bs} {W : List Tok → Prop} (h : HeadW W) : HeadW (fun r => isT word r = false ∧ W r) := fun t u r s e hh => ⟨by rw [isT_ess e (r := r)]; exact hh.1, h t u r s e hh.2⟩
def anyW (_ : List Tok) : Prop := True
def stopA (r : List Tok) : Prop := isT wAnd r = false ∧ anyW r
def stopO (r : List Tok) : Prop := isT wOr r = false ∧ stopA r
theorem both_loc {p : Pr Cond} (hp : LocW p anyW) : LocW (bothF p) stopA := listC_loc hp (fun _ _ _ _ _ _ => trivial)
theorem or_loc {p : Pr Cond} (hp : LocW p anyW) : LocW (orF p) stopO := listC_loc (both_loc hp) (headW_not fun _ _ _ _ _ _ => trivial)
theorem stopO_rp {y : Tok} {r : List Tok} (h : y.text = yRp) : stopO (y :: r) := by
  refine ⟨?_, ?_, trivial⟩
  · simp only [isT, h]; simp; intro _; decide
  · simp only [isT, h]; simp; intro _; decide
theorem single_loc : ∀ n, LocW (singleF n) anyW
  | n, ts, a, h => by
    refine ⟨trivial, ?_⟩
    unfold singleF at h
    split at h
    · rename_i hw
      obtain ⟨t, pre, e, k, l⟩ := testF_loc h
      refine ⟨t, pre, e, k, fun us r' hu _ => ?_⟩
      obtain ⟨u, us', rfl, g0, hu'⟩ := map_ess_cons hu
      have := l (u :: us') r' (by simp [g0, hu'])
      rw [e] at hw
      unfold singleF
      simp only [List.cons_append] at this ⊢
      rw [if_pos (by rw [isT_ess g0, isT_ess g0]; exact hw)]
      exact this
    · rename_i hw
      cases n with
      | zero => cases h
      | succ n =>
        simp only at h
        split at h
        · rename_i hn
          obtain ⟨x, h1, h⟩ := bindE_ok h
          injection h with h; subst h
          obtain ⟨t0, r0, rfl, ht, hk⟩ := isT_cons hn
          rw [List.tail_cons] at h1
          obtain ⟨_, t, pre, e, k, l⟩ := single_loc n _ _ h1
          refine ⟨t0, t :: pre, by rw [e]; rfl, ?_, fun us r' hu _ => ?_⟩
          · intro z hz
            rcases List.mem_cons.1 hz with rfl | hz
            · omega
            · exact k z hz
          · obtain ⟨u, us', rfl, g0, hu'⟩ := map_ess_cons hu
            have hin := l us' r' hu' trivial
            unfold singleF
            simp only [List.cons_append, List.tail_cons]
            rw [if_neg (by rw [isT_ess g0 (r := r0), isT_ess g0 (r := r0)]; exact hw), if_pos (by rw [isT_ess g0 (r := r0)]; exact hn), bindE_is hin]
        · rename_i hn
          have hl : isT yLp ts = true := by
            cases h1 : isT yLp ts
            · rw [h1] at hw; cases h2 : isT wNot ts
              · rw [h2] at hw; exact absurd rfl hw
              · exact absurd h2 hn
            · rfl
          obtain ⟨x, h1, h⟩ := bindE_ok h
          obtain ⟨y, h2, h⟩ := bindE_ok h
          injection h with h; subst h
          obtain ⟨t0, r0, rfl, ht, hk⟩ := isT_cons hl
          rw [List.tail_cons] at h1
          obtain ⟨_, t, pre, e, k, l⟩ := or_loc (single_loc n) _ _ h1
          obtain ⟨t2, e2, k2, hy, l2⟩ := oneF_loc h2
          obtain ⟨_, _, _, hyl, _⟩ := oneF_cons h2
          have hyt : y.1 = yRp := by simpa using hyl
          refine ⟨t0, t :: (pre ++ [t2]), by rw [e]; conv => lhs; rw [e2]
                                             simp, ?_, fun us r' hu _ => ?_⟩
          · intro z hz
            rcases List.mem_cons.1 hz with rfl | hz
            · omega
            · rcases List.mem_cons.1 hz with rfl | hz
              · exact k _ (by simp)
              · rcases List.mem_append.1 hz with hz | hz
                · exact k z (by simp [hz])
                · simp only [List.mem_cons, List.not_mem_nil, or_false] at hz
                  subst hz; exact k2
          · obtain ⟨u, us', rfl, g0, hu'⟩ := map_ess_cons hu
            obtain ⟨u1, us2, rfl, hu1, hu2⟩ := map_ess_app (a := t :: pre) (b := [t2]) hu'
            obtain ⟨u2, us3, rfl, g2, hu3⟩ := map_ess_cons hu2
            cases map_ess_nil hu3
            have hs : stopO (u2 :: r') := stopO_rp (by rw [(ess_eq g2).2.1, hy, hyt])
            have hin := l u1 (u2 :: r') hu1 hs
            have h3 := l2 u2 r' g2
            unfold singleF
            simp only [List.cons_append, List.tail_cons, List.append_assoc, List.nil_append]
            rw [if_neg (by rw [isT_ess g0 (r := r0), isT_ess g0 (r := r0)]; exact hw), if_neg (by rw [isT_ess g0 (r := r0)]; exact hn), bindE_is hin]
            simp only
            rw [bindE_is h3]
theorem cond_loc (n : Nat) : LocW (condF n) stopO := or_loc (single_loc n)
/-- What one parser reads, the other reads as well. -/
def MonP (p q : Pr Cond) : Prop := ∀ ts a, p ts = .ok a → q ts = .ok a
theorem more_mon {word : Bs} {p q : Pr Cond} (h : MonP p q) : ∀ g ts a, moreF word p g ts = .ok a → moreF word q g ts = .ok a
  | 0, ts, a, e => e
  | g + 1, ts, a, e => by
    unfold moreF at e ⊢
    split at e
    · rename_i hw
      rw [if_pos hw]
      obtain ⟨x, h1, e⟩ := bindE_ok e
      obtain ⟨y, h2, e⟩ := bindE_ok e
      rw [bindE_is (h _ _ h1), bindE_is (more_mon h g _ _ h2)]
      exact e
    · rename_i hw
      rw [if_neg hw]; exact e
theorem list_mon {word : Bs} {mk : List Cond → Cond} {p q : Pr Cond} (h : MonP p q) : MonP (listC word mk p) (listC word mk q) := by
  intro ts a e
  unfold listC at e ⊢
  obtain ⟨x, h1, e⟩ := bindE_ok e
  obtain ⟨y, h2, e⟩ := bindE_ok e
  rw [bindE_is (h _ _ h1), bindE_is (more_mon h _ _ _ h2)]
  exact e
theorem or_mon {p q : Pr Cond} (h : MonP p q) : MonP (orF p) (orF q) := list_mon (list_mon h)
theorem single_mon : ∀ n, MonP (singleF n) (singleF (n + 1))
  | n, ts, a, h => by
    unfold singleF at h ⊢
    split at h
    · rename_i hw
      rw [if_pos hw]; exact h
    · rename_i hw
      rw [if_neg hw]
      cases n with
      | zero => cases h
      | succ n =>
        simp only at h ⊢
        split at h
        · rename_i hn
          rw [if_pos hn]
          obtain ⟨x, h1, h⟩ := bindE_ok h
          rw [bindE_is (single_mon n _ _ h1)]; exact h
        · rename_i hn
          rw [if_neg hn]
          obtain ⟨x, h1, h⟩ := bindE_ok h
          rw [bindE_is (or_mon (single_mon n) _ _ h1)]; exact h
theorem single_mon_le {m n : Nat} (h : m ≤ n) : MonP (singleF m) (singleF n) := by
  induction h with
  | refl => exact fun _ _ e => e
  | step _ ih => exact fun ts a e => single_mon _ _ _ (ih ts a e)
theorem cond_mon {m n : Nat} (h : m ≤ n) : MonP (condF m) (condF n) := or_mon (single_mon_le h)
end Go.Proofs.YtannhfnpigiggaaGreatDoor
