/- Walks over field.Get, Names, Unknown and the reference's Names, Unknown, and Same of strings. -/
import Derived.Test.YtaigbplfbfaghaaRefGet
namespace Go.Proofs.Ytaigbplfbfaghaa
set_option linter.unusedSimpArgs false
set_option linter.unusedVariables false
open Go.RowKit

set_option maxHeartbeats 1000000 in
set_option maxRecDepth 100000 in
theorem fld_get (A : Option Addr) (l : List Fd) (c : Nat) (s : ByteArray) (w : World) (hr : Row w A (fldsV l)) (hl : Mild l) (hs : s.size ≤ 1000000) :
    Calls Try.prog 30 #[.slice A l.length c, .string s] w fun e w' => e = .returned (.tuple #[.string (ofL (getB l (toL s))), .int .i64 (getN l (toL s))]) ∧ Below w.heap.size w w' := by
  have HR := Lib.hid hr; clear hr
  have HM := Lib.hid hl; clear hl
  go_enter Try.func30, Try.ntmps30
  go_wp2_with fail
  (with_reducible refine (fld_named s w).mono ?_)
  rintro e w1 ⟨rfl, hB1, hb1⟩
  have HB1 := Lib.hid hB1; clear hB1
  go_wp2_with fail
  (with_reducible refine (fld_choose _ _ _ _ (pred_named w.heap.size s hs) A l c _ (HR.out.below hb1) HM.out HB1.out).mono ?_)
  rintro e w2 ⟨v, rfl, hF⟩
  have hb2 := hb1.trans (hF.bel.mono hb1.size)
  obtain ⟨A2, c2, rfl, hrow2⟩ := own_row hF.own
  have HG := Lib.hid (show (getB l (toL s), getN l (toL s)) = _ from Prod.ext rfl rfl)
  have HGB := Lib.hid (show getB l (toL s) = match l.filter fun f => foldEq f.1 (toL s) with | [] => [] | f :: _ => f.2 from rfl)
  have HGN := Lib.hid (show getN l (toL s) = (l.filter fun f => foldEq f.1 (toL s)).length from rfl)
  clear HG hF
  generalize (l.filter fun f => foldEq f.1 (toL s)) = m at *
  cases m with
  | nil =>
    go_wp2_with fail
    go_ret2
    exact ⟨by rw [HGB.out, HGN.out]; rfl, hb2⟩
  | cons f r =>
    obtain ⟨bb, off, rfl, hbb, _⟩ := hrow2.at (k := 0) (by rw [fldsV_length]; simp)
    obtain ⟨hc1, hc2⟩ := hrow2.field' (k := 0) (by simp) rfl rfl
    simp only [List.getElem_cons_zero, Nat.zero_mul, Nat.add_zero] at hc1 hc2
    generalize hm : (f :: r).length = m at *
    have hm0 : 0 < m := by rw [← hm]; simp
    have t1 : ((m : Int) == 0) = false := beq_eq_false_iff_ne.2 (by omega)
    have t2 : (0 : Int) < (m : Int) := by omega
    clear hm hrow2
    go_wp2_with fail
    go_ret2
    exact ⟨by rw [HGB.out, HGN.out]; rfl, hb2⟩

def addName (acc : List (List UInt8)) (f : Fd) : List (List UInt8) := if acc.contains (lowerL f.1) = true then acc else acc ++ [lowerL f.1]
def namesF (l : List Fd) : List (List UInt8) := l.foldl addName []
theorem namesF_snoc (l : List Fd) (k : Nat) (h : k < l.length) : namesF (l.take (k + 1)) = addName (namesF (l.take k)) l[k] := by
  rw [List.take_succ_eq_append_getElem h, namesF, List.foldl_append]; rfl
theorem addName_mem (l : List Fd) : ∀ acc x, x ∈ l.foldl addName acc ↔ x ∈ acc ∨ ∃ f ∈ l, lowerL f.1 = x := by
  induction l with
  | nil => intro acc x; simp
  | cons f r ih =>
    intro acc x
    rw [List.foldl_cons, ih]
    unfold addName
    split
    · rename_i h
      simp only [List.contains_iff_mem] at h
      constructor
      · rintro (h1 | ⟨g, hg, h2⟩)
        · exact .inl h1
        · exact .inr ⟨g, by simp [hg], h2⟩
      · rintro (h1 | ⟨g, hg, h2⟩)
        · exact .inl h1
        · rcases List.mem_cons.1 hg with rfl | hg
          · subst h2; exact .inl h
          · exact .inr ⟨g, hg, h2⟩
    · simp only [List.mem_append, List.mem_singleton]
      constructor
      · rintro ((h1 | h1) | ⟨g, hg, h2⟩)
        · exact .inl h1
        · exact .inr ⟨f, by simp, h1.symm⟩
        · exact .inr ⟨g, by simp [hg], h2⟩
      · rintro (h1 | ⟨g, hg, h2⟩)
        · exact .inl (.inl h1)
        · rcases List.mem_cons.1 hg with rfl | hg
          · exact .inl (.inr h2.symm)
          · exact .inr ⟨g, hg, h2⟩
theorem getN_names (l : List Fd) (s : List UInt8) : (getN l s = 0) ↔ (namesF l).contains (lowerL s) = false := by
  rw [getN, List.length_eq_zero_iff, List.filter_eq_nil_iff, ← Bool.not_eq_true, List.contains_iff_mem, namesF, addName_mem]
  simp [foldEq]
theorem namesF_len (l : List Fd) : ∀ acc, (l.foldl addName acc).length ≤ acc.length + l.length := by
  induction l with
  | nil => intro acc; simp
  | cons f r ih =>
    intro acc
    rw [List.foldl_cons]
    have := ih (addName acc f)
    have h2 : (addName acc f).length ≤ acc.length + 1 := by unfold addName; split <;> simp
    simp; omega

theorem sl_contains_str (A : Option Addr) (l : List (List UInt8)) (c : Nat) (x : ByteArray) (w : World) (hr : Row w A (strsL l)) (hl : l.length ≤ 1000000) :
    Calls Try.prog 65 #[.slice A l.length c, .string x] w fun e w' => e = .returned (.bool (l.contains (toL x))) ∧ w = w' := by
  by_cases h0 : l = []
  · subst h0
    exact (Try.slices_Contains_string_empty A c x w).mono fun e w' ⟨h1, h2⟩ => ⟨h1, h2.symm⟩
  · obtain ⟨b, off, rfl, _, hc⟩ := hr.at (k := 0) (by simp; exact List.length_pos_iff.2 h0)
    refine (Try.slices_Contains_string b off l.length c (l.map ofL) x w (by simp) (by omega) (fun j hj => ?_)).mono fun e w' ⟨h1, h2⟩ => ⟨?_, h2.symm⟩
    · simp at hj
      rw [hc j (.string (ofL l[j])) (by simp [hj])]
      simp [List.getD, hj]
    · rw [h1]
      refine ret_bool ?_
      rw [List.take_of_length_le (by simp), Bool.eq_iff_iff]
      rw [Lib.containsS_iff, List.contains_iff_mem, List.mem_map]
      constructor
      · rintro ⟨y, hy, rfl⟩; rw [toL_ofL]; exact hy
      · intro h; exact ⟨toL x, h, ofL_toL x⟩

/-- Behind 'append(v, x)' of one string. -/
structure StrsOwn (w wr : World) (v : Value) (l : List (List UInt8)) : Prop where
  own : wr.ownsRow w.heap.size 9 1 v l.length (strsL l)
  bel : Below w.heap.size w wr
theorem StrsOwn.push1 {w wr w1 : World} {v v' : Value} {l : List (List UInt8)} {x : ByteArray} (h : StrsOwn w wr v l) (hown : w1.ownsRow w.heap.size 9 1 v' (l.length + 1) (strsL l ++ [.string x])) (hg : wr.grownBy w1 v.ownBlock) : StrsOwn w w1 v' (l ++ [toL x]) := by
  refine ⟨by simpa [ofL_toL] using hown, ?_⟩
  exact h.bel.grown hg h.bel.size (fun k hk => (h.own.lt k hk).1)
theorem StrsOwn.later {w wr w1 : World} {v : Value} {l : List (List UInt8)} (h : StrsOwn w wr v l) (hb : Below wr.heap.size wr w1) : StrsOwn w w1 v l :=
  ⟨own_below h.own hb, h.bel.trans (hb.mono h.bel.size)⟩

set_option maxHeartbeats 4000000 in
set_option maxRecDepth 100000 in
theorem fld_names (A : Option Addr) (l : List Fd) (c : Nat) (w : World) (hr : Row w A (fldsV l)) (hl : Mild l) :
    Calls Try.prog 33 #[.slice A l.length c] w fun e w' => ∃ v, e = .returned v ∧ StrsOwn w w' v (namesF l) := by
  have HR := Lib.hid hr; clear hr
  obtain ⟨hl1, hl2⟩ := hl
  have HL2 := Lib.hid hl2; clear hl2
  go_enter Try.func33, Try.ntmps33
  go_wp2_with fail
  go_loopg [3, 9] l.length (fun g v ix wr => ∃ k : Nat, g = l.length - k ∧ k ≤ l.length ∧ ix = .int .i64 k ∧ StrsOwn w wr v (namesF (l.take k)))
  case atStart => exact ⟨0, by omega, by omega, rfl, ⟨World.ownsRow_nil _ _ _ _, Below.refl _ _⟩⟩
  case round =>
    obtain ⟨k, rfl, hk, rfl, hF⟩ := hrel
    by_cases hlt : k < l.length
    · have hk1 : (0 : Int) ≤ (k : Int) := by omega
      have hk2 : (k : Int) < (l.length : Int) := by omega
      obtain ⟨bb, off, rfl, hbb, _⟩ := HR.out.at (k := 0) (by rw [fldsV_length]; omega)
      obtain ⟨n, hn⟩ : ∃ n, ofL l[k].1 = n := ⟨_, rfl⟩
      obtain ⟨b, hb⟩ : ∃ b, ofL l[k].2 = b := ⟨_, rfl⟩
      have hnL : l[k].1 = toL n := by rw [← hn, toL_ofL]
      have hm : l[k].1.length ≤ 1000000 ∧ l[k].2.length ≤ 1000000 := HL2.out l[k] (List.getElem_mem hlt)
      obtain ⟨hc1, hc2⟩ := (HR.out.below hF.bel).field' hlt hn hb
      have hm1 : n.size ≤ 1000000 := by rw [← toL_length, ← hnL]; exact hm.1
      have HNS := Lib.hid (show namesF (l.take (k + 1)) = (if (namesF (l.take k)).contains (lowerL (toL n)) = true then namesF (l.take k) else namesF (l.take k) ++ [lowerL (toL n)]) by
        rw [namesF_snoc l k hlt, addName, hnL])
      have hlen : (namesF (l.take k)).length ≤ k := by have := namesF_len (l.take k) []; simp [namesF] at this ⊢; omega
      clear hn hb hnL hm
      go_wp2_with fail
      have hbA : Below wr.heap.size wr (wr.alloc (.cells #[.string n, .string b] 28)) := (Below.refl _ _).alloc (Nat.le_refl _) _
      (with_reducible refine (asc_lower n _ (le_maxLen hm1)).mono ?_)
      rintro e w2 ⟨rfl, hb2⟩
      have hF2 := (hF.later hbA).later hb2
      clear hc1 hc2
      obtain ⟨x, hx⟩ : ∃ x, ofL (lowerL (toL n)) = x := ⟨_, rfl⟩
      have HX := Lib.hid (show lowerL (toL n) = toL x by rw [← hx, toL_ofL])
      rw [hx]
      rw [HX.out] at HNS
      clear hx
      obtain ⟨A2, c2, rfl, hrow2⟩ := own_row hF2.own
      go_wp2_with fail
      (with_reducible refine (sl_contains_str A2 (namesF (l.take k)) c2 x w2 hrow2 (by omega)).mono ?_)
      rintro e w3 ⟨rfl, rfl⟩
      rcases hp : (namesF (l.take k)).contains (toL x) with _ | _
      · have hsz2 := hF2.bel.size
        have hown2 := hF2.own
        clear hrow2
        go_wp2_with ((at_builtin; refine wpList_push el_string rfl _ _ rfl hown2 #[.string x] rfl rfl rfl (by simp [Value.oneCell']) (by omega) (by unfold maxLen; omega) hsz2 ?_; intro g cap w3 hown3 hg3 hat3))
        go_roundg (l.length - (k + 1))
        case measure => omega
        case rel =>
          refine ⟨k + 1, rfl, by omega, by go_num, ?_⟩
          rw [HNS.out, if_neg (by rw [hp]; simp)]
          exact hF2.push1 hown3 hg3
      · clear hrow2
        go_wp2_with fail
        go_roundg (l.length - (k + 1))
        case measure => omega
        case rel =>
          refine ⟨k + 1, rfl, by omega, by go_num, ?_⟩
          rw [HNS.out, if_pos hp]; exact hF2
    · have HE := Lib.hid (show l.take k = l by rw [List.take_of_length_le (by omega)])
      go_wp2_with fail
      go_ret
      rw [HE.out] at hF
      exact ⟨_, rfl, hF⟩

theorem row_take {w : World} {A : Option Addr} {l : List Fd} (h : Row w A (fldsV l)) (k : Nat) : Row w A (fldsV (l.take k)) := by
  rcases h with h | ⟨b, off, rfl, hb, hc⟩
  · have : l = [] := by have := congrArg List.length h; rw [fldsV_length] at this; simp at this; exact List.eq_nil_of_length_eq_zero (by omega)
    subst this; exact .inl (by simp)
  · refine Row.mk _ _ _ _ hb fun j v hv => hc j v ?_
    have e : fldsV l = fldsV (l.take k) ++ fldsV (l.drop k) := by simp only [fldsV]; rw [← List.flatMap_append, List.take_append_drop]
    rw [e, List.getElem?_append_left]
    · exact hv
    · rcases Nat.lt_or_ge j (fldsV (l.take k)).length with h' | h'
      · exact h'
      · rw [List.getElem?_eq_none h'] at hv; cases hv

theorem mild_take {l : List Fd} (h : Mild l) (k : Nat) : Mild (l.take k) := ⟨by have := h.1; simp; omega, fun f hf => h.2 f (List.mem_of_mem_take hf)⟩

set_option maxHeartbeats 4000000 in
set_option maxRecDepth 100000 in
theorem ref_names (A : Option Addr) (l : List Fd) (c : Nat) (w : World) (hr : Row w A (fldsV l)) (hl : Mild l) (hcap : l.length ≤ c) :
    Calls Try.prog 34 #[.slice A l.length c] w fun e w' => ∃ v, e = .returned v ∧ StrsOwn w w' v (namesF l) := by
  have HR := Lib.hid hr; clear hr
  have HM := Lib.hid hl
  obtain ⟨hl1, hl2⟩ := hl
  have HL2 := Lib.hid hl2; clear hl2
  go_enter Try.func34, Try.ntmps34
  go_wp2_with fail
  go_loopg [3, 4] l.length (fun g v ix wr => ∃ k : Nat, g = l.length - k ∧ k ≤ l.length ∧ ix = .int .i64 k ∧ StrsOwn w wr v (namesF (l.take k)))
  case atStart => exact ⟨0, by omega, by omega, rfl, ⟨World.ownsRow_nil _ _ _ _, Below.refl _ _⟩⟩
  case round =>
    obtain ⟨k, rfl, hk, rfl, hF⟩ := hrel
    by_cases hlt : k < l.length
    · have hk1 : (0 : Int) ≤ (k : Int) := by omega
      have hk2 : (k : Int) < (l.length : Int) := by omega
      obtain ⟨bb, off, rfl, hbb, _⟩ := HR.out.at (k := 0) (by rw [fldsV_length]; omega)
      obtain ⟨n, hn⟩ : ∃ n, ofL l[k].1 = n := ⟨_, rfl⟩
      obtain ⟨b, hb⟩ : ∃ b, ofL l[k].2 = b := ⟨_, rfl⟩
      have hnL : l[k].1 = toL n := by rw [← hn, toL_ofL]
      have hm : l[k].1.length ≤ 1000000 ∧ l[k].2.length ≤ 1000000 := HL2.out l[k] (List.getElem_mem hlt)
      have HC := Lib.hid (fun wx (hx : Below w.heap.size w wx) => (HR.out.below hx).field' hlt hn hb)
      obtain ⟨hc1, hc2⟩ := HC.out _ hF.bel
      have hm1 : n.size ≤ 1000000 := by rw [← toL_length, ← hnL]; exact hm.1
      have HNS := Lib.hid (show namesF (l.take (k + 1)) = (if (namesF (l.take k)).contains (lowerL (toL n)) = true then namesF (l.take k) else namesF (l.take k) ++ [lowerL (toL n)]) by
        rw [namesF_snoc l k hlt, addName, hnL])
      have HGN := Lib.hid (getN_names (l.take k) (toL n))
      have hlen : (namesF (l.take k)).length ≤ k := by have := namesF_len (l.take k) []; simp [namesF] at this ⊢; omega
      have hkc : (k : Int) ≤ (c : Int) := by omega
      have hlk : (l.take k).length = k := by simp; omega
      have HLK := Lib.hid hlk
      clear hn hb hnL hm hlk hc2
      have hgn := getN_le (l.take k) (toL n)
      rw [HLK.out] at hgn
      have HGC := Lib.hid (show ∀ wx, Below w.heap.size w wx → Calls Try.prog 31 #[.slice (some ⟨bb, off, none⟩) k c, .string n] wx fun e w' => e = .returned (.tuple #[.string (ofL (getB (l.take k) (toL n))), .int .i64 (getN (l.take k) (toL n))]) ∧ Below wx.heap.size wx w' from fun wx hx => by
        have := ref_get (some ⟨bb, off, none⟩) (l.take k) c n wx (row_take (HR.out.below hx) k) (mild_take HM.out k) (le_maxLen hm1)
        rw [HLK.out] at this; exact this)
      have hsz := hF.bel.size
      go_wp2_with fail
      go_region_held3 (fun w' => w'.cell? ⟨bb, off + k * 2, none⟩ = some (.string n))
        (first
          | go_keep
          | ((rw [hb2.cell (p := ⟨bb, off + k * 2, none⟩) (by simp; omega)]; assumption)))
        (first | (go_at_call 31; refine (HGC.out _ hF.bel.drew).mono ?_; rintro e w2 ⟨rfl, hb2⟩))
      have hF2 := hF.later (below_undrew hb2)
      clear hb2
      generalize hN : getN (l.take k) (toL n) = N at *
      by_cases h0 : N = 0
      · subst h0
        have HNX := Lib.hid (HNS.out.trans (if_neg (by rw [HGN.out.1 rfl]; simp)))
        clear hN hc1
        obtain ⟨hc1, hc2⟩ := HC.out _ hF2.bel
        go_wp2_with fail
        (with_reducible refine (ref_lower n _ (le_maxLen hm1)).mono ?_)
        rintro e w3 ⟨rfl, hb3⟩
        have hF3 := hF2.later hb3
        obtain ⟨x, hx⟩ : ∃ x, ofL (lowerL (toL n)) = x := ⟨_, rfl⟩
        have HX := Lib.hid (show lowerL (toL n) = toL x by rw [← hx, toL_ofL])
        rw [hx]
        rw [HX.out] at HNX
        clear hx
        have hsz3 := hF3.bel.size
        have hown3 := hF3.own
        go_wp2_with ((at_builtin; refine wpList_push el_string rfl _ _ rfl hown3 #[.string x] rfl rfl rfl (by simp [Value.oneCell']) (by omega) (by unfold maxLen; omega) hsz3 ?_; intro g cap w4 hown4 hg4 hat4))
        go_roundg (l.length - (k + 1))
        case measure => omega
        case rel =>
          refine ⟨k + 1, rfl, by omega, by go_num, ?_⟩
          rw [HNX.out]
          exact hF3.push1 hown4 hg4
      · have HNX := Lib.hid (HNS.out.trans (if_pos (by
          rcases hq : (namesF (l.take k)).contains (lowerL (toL n)) with _ | _
          · exact absurd (HGN.out.2 hq) h0
          · rfl)))
        have h0' : ((N : Int) == 0) = false := beq_eq_false_iff_ne.2 (by omega)
        clear hN hc1
        go_wp2_with fail
        go_roundg (l.length - (k + 1))
        case measure => omega
        case rel =>
          refine ⟨k + 1, rfl, by omega, by go_num, ?_⟩
          rw [HNX.out]; exact hF2
    · have HE := Lib.hid (show l.take k = l by rw [List.take_of_length_le (by omega)])
      go_wp2_with fail
      go_ret
      rw [HE.out] at hF
      exact ⟨_, rfl, hF⟩

theorem cat_take (s : List (List UInt8)) (k : Nat) (h : k < s.length) (l : List Fd) : (l.filter fun f => !((s.take (k + 1)).any fun x => foldEq f.1 x)) = (l.filter fun f => !((s.take k).any fun x => foldEq f.1 x)).filter fun f => !foldEq f.1 s[k] := by
  rw [List.filter_filter]
  congr 1; funext f
  rw [List.take_succ_eq_append_getElem h, List.any_append]
  simp [Bool.and_comm]

def unknownF (l : List Fd) (names : List (List UInt8)) : List Fd := l.filter fun f => !(names.any fun x => foldEq f.1 x)

theorem unknownF_nil (l : List Fd) : unknownF l [] = l := List.filter_eq_self.2 (by simp)
theorem mild_filter {l : List Fd} (h : Mild l) (p : Fd → Bool) : Mild (l.filter p) := ⟨Nat.le_trans (List.length_filter_le _ _) h.1, fun f hf => h.2 f (List.mem_filter.1 hf).1⟩

/-- What out holds in the reference's Unknown. -/
def UnkAt (w wr : World) (v : Value) (m : List Fd) : Prop := ∃ A c, v = .slice A m.length c ∧ Row wr A (fldsV m) ∧ Below w.heap.size w wr

set_option maxHeartbeats 4000000 in
set_option maxRecDepth 100000 in
theorem ref_unknown (A B : Option Addr) (l : List Fd) (s : List (List UInt8)) (c d : Nat) (w : World) (hr : Row w A (fldsV l)) (hq : Row w B (strsL s)) (hl : Mild l) (hs : s.length ≤ 1000 ∧ ∀ x ∈ s, x.length ≤ maxLen) :
    Calls Try.prog 36 #[.slice A l.length c, .slice B s.length d] w fun e w' => ∃ v, e = .returned v ∧ UnkAt w w' v (unknownF l s) := by
  have HR := Lib.hid hr; have HQ := Lib.hid hq; clear hr hq
  have HM := Lib.hid hl; clear hl
  obtain ⟨hs1, hs2⟩ := hs
  have HS2 := Lib.hid hs2; clear hs2
  go_enter Try.func36, Try.ntmps36
  go_wp2_with fail
  go_loopg [5, 6] s.length (fun g v ix wr => ∃ k : Nat, g = s.length - k ∧ k ≤ s.length ∧ ix = .int .i64 k ∧ UnkAt w wr v (unknownF l (s.take k)))
  case atStart => exact ⟨0, by omega, by omega, rfl, ⟨A, c, by rw [List.take_zero, unknownF_nil], by rw [List.take_zero, unknownF_nil]; exact HR.out, Below.refl _ _⟩⟩
  case round =>
    obtain ⟨k, rfl, hk, rfl, ⟨A1, c1, rfl, hrow, hbel⟩⟩ := hrel
    by_cases hlt : k < s.length
    · have hk1 : (0 : Int) ≤ (k : Int) := by omega
      have hk2 : (k : Int) < (s.length : Int) := by omega
      obtain ⟨g, off, rfl, hcell⟩ := (HQ.out.below hbel).cell (k := k) (by simpa using hlt)
      rw [List.getElem_map] at hcell
      obtain ⟨x, hx⟩ : ∃ x, ofL s[k] = x := ⟨_, rfl⟩
      have hxL : s[k] = toL x := by rw [← hx, toL_ofL]
      have hxs : x.size ≤ maxLen := by rw [← toL_length, ← hxL]; exact HS2.out _ (List.getElem_mem hlt)
      have HU := Lib.hid (show unknownF l (s.take (k + 1)) = (unknownF l (s.take k)).filter fun f => !foldEq f.1 (toL x) by
        unfold unknownF; rw [cat_take s k hlt l, hxL])
      rw [hx] at hcell
      clear hx hxL
      have hml : Mild (unknownF l (s.take k)) := mild_filter HM.out _
      have HML := Lib.hid hml; clear hml
      have HROW := Lib.hid hrow; clear hrow
      go_wp2_with fail
      (with_reducible refine (ref_without A1 (unknownF l (s.take k)) c1 x wr HROW.out HML.out hxs).mono ?_)
      rintro e w2 ⟨v2, rfl, hF⟩
      obtain ⟨A2, c2, rfl, hrow2⟩ := own_row hF.own
      have hb2 := hbel.trans (hF.bel.mono hbel.size)
      go_wp2_with fail
      go_roundg (s.length - (k + 1))
      case measure => omega
      case rel =>
        refine ⟨k + 1, rfl, by omega, by go_num, ⟨A2, c2, ?_, ?_, hb2⟩⟩
        · rw [HU.out]
        · rw [HU.out]; exact hrow2
    · have HE := Lib.hid (show s.take k = s by rw [List.take_of_length_le (by omega)])
      go_wp2_with fail
      go_ret
      rw [HE.out] at hrow ⊢
      exact ⟨_, rfl, ⟨A1, c1, rfl, hrow, hbel⟩⟩

set_option maxHeartbeats 1000000 in
set_option maxRecDepth 100000 in
theorem fld_unknown11 (pb : Nat) (n b x : ByteArray) (w : World) (h : w.heap[pb]? = some (.cells #[.string n, .string b] 28 (0, 0))) (hn : n.size ≤ 1000000) (hx : x.size ≤ maxLen) :
    Calls Try.prog 68 #[.string x, .pointer (some ⟨pb, 0, none⟩)] w fun e w' => e = .returned (.bool (foldEq (toL n) (toL x))) ∧ Below w.heap.size w w' := by
  have c1 : w.cell? ⟨pb, 0, none⟩ = some (.string n) := by rw [Lib.cell_of_heap h]; rfl
  have H := Lib.hid h; clear h
  go_enter Try.func68, Try.ntmps68
  go_wp2_with fail
  (with_reducible refine (asc_equalFold n x _ (le_maxLen hn) hx).mono ?_)
  rintro e w2 ⟨rfl, hb2⟩
  go_wp2_with fail
  go_ret
  exact ⟨rfl, hb2⟩

theorem pred_unknown11 (pb : Nat) (n b : ByteArray) (hn : n.size ≤ 1000000) : StrPred 68 #[.pointer (some ⟨pb, 0, none⟩)] (fun x => foldEq (toL n) x) (fun w => w.heap[pb]? = some (.cells #[.string n, .string b] 28 (0, 0))) :=
  ⟨Try.call68, fun x w hI hx => fld_unknown11 pb n b x w hI hn hx, fun w w' h hb => (hb.block _ (heap_lt h)).trans h⟩

/-- The box that holds the slice of names. -/
structure BoxNames (pb : Nat) (B : Option Addr) (s : List (List UInt8)) (d : Nat) (w : World) : Prop where
  box : w.heap[pb]? = some (.cells #[.slice B s.length d] 36 (0, 0))
  row : Row w B (strsL s)
theorem BoxNames.keeps {pb d : Nat} {B : Option Addr} {s : List (List UInt8)} (w w' : World) (h : BoxNames pb B s d w) (hb : Below w.heap.size w w') : BoxNames pb B s d w' :=
  ⟨(hb.block _ (heap_lt h.box)).trans h.box, h.row.below hb⟩

set_option maxHeartbeats 1000000 in
set_option maxRecDepth 100000 in
theorem fld_unknown1 (pb d : Nat) (B : Option Addr) (s : List (List UInt8)) (n b : ByteArray) (w : World) (h : BoxNames pb B s d w) (hs : s.length ≤ 1000 ∧ ∀ x ∈ s, x.length ≤ maxLen) (hn : n.size ≤ 1000000) :
    Calls Try.prog 67 #[.agg #[.string n, .string b], .pointer (some ⟨pb, 0, none⟩)] w fun e w' => e = .returned (.bool (!(s.any fun x => foldEq (toL n) x))) ∧ Below w.heap.size w w' := by
  have hlt := heap_lt h.box
  have c1 : w.cell? ⟨pb, 0, none⟩ = some (.slice B s.length d) := by rw [Lib.cell_of_heap h.box]; rfl
  have H := Lib.hid h; clear h
  have HS := Lib.hid hs; clear hs
  go_enter Try.func67, Try.ntmps67
  go_wp2_with fail
  have hA : Below w.heap.size w (w.alloc (.cells #[.string n, .string b] 28)) := (Below.refl _ _).alloc (Nat.le_refl _) _
  (with_reducible refine (sl_containsFunc_str _ _ _ _ (pred_unknown11 w.heap.size n b hn) B s d _ (Nat.le_trans HS.out.1 (by decide)) (H.out.row.below hA) (heap_alloc_new w _) HS.out.2).mono ?_)
  rintro e w2 ⟨rfl, hb2⟩
  go_wp2_with fail
  go_ret
  exact ⟨rfl, hA.trans (hb2.mono hA.size)⟩

theorem pred_unknown1 (pb d : Nat) (B : Option Addr) (s : List (List UInt8)) (hs : s.length ≤ 1000 ∧ ∀ x ∈ s, x.length ≤ maxLen) : FldPred 67 #[.pointer (some ⟨pb, 0, none⟩)] (fun f => !(s.any fun x => foldEq f.1 x)) (BoxNames pb B s d) :=
  ⟨Try.call67, fun n b w hI hn hb => fld_unknown1 pb d B s n b w hI hs hn, BoxNames.keeps⟩

set_option maxHeartbeats 1000000 in
set_option maxRecDepth 100000 in
theorem fld_unknown (A B : Option Addr) (l : List Fd) (s : List (List UInt8)) (c d : Nat) (w : World) (hr : Row w A (fldsV l)) (hq : Row w B (strsL s)) (hl : Mild l) (hs : s.length ≤ 1000 ∧ ∀ x ∈ s, x.length ≤ maxLen) :
    Calls Try.prog 35 #[.slice A l.length c, .slice B s.length d] w fun e w' => ∃ v, e = .returned v ∧ FldsOwn w w' 28 v (unknownF l s) := by
  have HR := Lib.hid hr; have HQ := Lib.hid hq; clear hr hq
  have HM := Lib.hid hl; clear hl
  have HS := Lib.hid hs; clear hs
  go_enter Try.func35, Try.ntmps35
  go_wp2_with fail
  have hA : Below w.heap.size w (w.alloc (.cells #[.slice B s.length d] 36)) := (Below.refl _ _).alloc (Nat.le_refl _) _
  (with_reducible refine (fld_choose _ _ _ _ (pred_unknown1 w.heap.size d B s HS.out) A l c _ (HR.out.below hA) HM.out ⟨heap_alloc_new w _, HQ.out.below hA⟩).mono ?_)
  rintro e w2 ⟨v, rfl, hF⟩
  go_wp2_with fail
  go_ret
  exact ⟨v, rfl, ⟨own_mono hF.own hA.size, hA.trans (hF.bel.mono hA.size)⟩⟩

set_option maxHeartbeats 4000000 in
set_option maxRecDepth 100000 in
theorem refs_same (A B : Option Addr) (l m : List (List UInt8)) (c d : Nat) (w : World) (hr : Row w A (strsL l)) (hq : Row w B (strsL m)) (hl : l.length ≤ 1000000) (hm : m.length ≤ 1000000) :
    Calls Try.prog 32 #[.slice A l.length c, .slice B m.length d] w fun e w' => e = .returned (.bool (decide (l = m))) ∧ Below w.heap.size w w' := by
  have HR := Lib.hid hr; have HQ := Lib.hid hq; clear hr hq
  by_cases hlm : l.length = m.length
  · have hlm' : ((l.length : Int) != (m.length : Int)) = false := by simp [hlm]
    have HLM := Lib.hid hlm; clear hlm
    go_enter Try.func32, Try.ntmps32
    go_wp2_with fail
    go_loopg [5] l.length (fun g ix wr => ∃ k : Nat, g = l.length - k ∧ k ≤ l.length ∧ ix = .int .i64 k ∧ l.take k = m.take k ∧ Below w.heap.size w wr)
    case atStart => exact ⟨0, by omega, by omega, rfl, rfl, Below.refl _ _⟩
    case round =>
      obtain ⟨k, rfl, hk, rfl, htk, hB⟩ := hrel
      have HTK := Lib.hid htk; clear htk
      by_cases hlt : k < l.length
      · have hlt2 : k < m.length := by have := HLM.out; omega
        have hk1 : (0 : Int) ≤ (k : Int) := by omega
        have hk2 : (k : Int) < (l.length : Int) := by omega
        have hk3 : (k : Int) < (m.length : Int) := by omega
        obtain ⟨bb, off, rfl, hc1⟩ := (HR.out.below hB).cell (k := k) (by simpa using hlt)
        obtain ⟨bc, off2, rfl, hd1⟩ := (HQ.out.below hB).cell (k := k) (by simpa using hlt2)
        rw [List.getElem_map] at hc1 hd1
        obtain ⟨n, hn⟩ : ∃ n, ofL l[k] = n := ⟨_, rfl⟩
        obtain ⟨n2, hn2⟩ : ∃ n2, ofL m[k] = n2 := ⟨_, rfl⟩
        have HNB := Lib.hid (show l[k] = toL n by rw [← hn, toL_ofL])
        have HNB2 := Lib.hid (show m[k] = toL n2 by rw [← hn2, toL_ofL])
        rw [hn] at hc1
        rw [hn2] at hd1
        clear hn hn2
        rcases e1 : (n.toList == n2.toList) with _ | _
        · have HF := Lib.hid (show decide (l = m) = false by
            simp only [decide_eq_false_iff_not]; intro e; subst e
            have := HNB.out.symm.trans HNB2.out
            rw [toL_inj this] at e1; simp at e1)
          go_wp2_with fail
          go_quiet (fail)
          go_wp2_with fail
          go_ret
          exact ⟨ret_bool HF.out.symm, below_drewN hB _⟩
        · have HT := Lib.hid (show l.take (k + 1) = m.take (k + 1) by
              rw [List.take_succ_eq_append_getElem hlt, List.take_succ_eq_append_getElem hlt2, HTK.out, HNB.out, HNB2.out]
              have h1 : n = n2 := toL_inj (by rw [ByteArray.toList_eq, ByteArray.toList_eq] at e1; exact eq_of_beq e1)
              rw [h1])
          go_wp2_with fail
          go_quiet (fail)
          go_wp2_with fail
          go_roundg (l.length - (k + 1))
          case measure => omega
          case rel => exact ⟨k + 1, rfl, by omega, by go_num, HT.out, below_drewN hB _⟩
      · have HF := Lib.hid (show decide (l = m) = true by
          have h1 := HTK.out
          rw [List.take_of_length_le (by omega), List.take_of_length_le (by have := HLM.out; omega)] at h1
          simpa using h1)
        go_wp2_with fail
        go_ret
        exact ⟨ret_bool HF.out.symm, hB⟩
  · have hlm' : ((l.length : Int) != (m.length : Int)) = true := by simp; omega
    have HF := Lib.hid (show decide (l = m) = false by
      simp only [decide_eq_false_iff_not]; intro e; subst e; exact hlm rfl)
    clear hlm
    go_enter Try.func32, Try.ntmps32
    go_wp2_with fail
    go_ret
    exact ⟨ret_bool HF.out.symm, Below.refl _ _⟩

end Go.Proofs.Ytaigbplfbfaghaa
