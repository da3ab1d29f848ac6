/- Walks over the lists' methods. -/
import Derived.Test.YtcknomaaikeebaaDoorWmB
import Derived.Test.YtcknomaaikeebaaDoorWm5
namespace Go.Proofs.YtcknomaaikeebaaDoor
set_option linter.unusedSimpArgs false
set_option linter.unusedVariables false
open Go.RowKit

theorem ListAt.lt {w : World} {b : Nat} {txt : ByteArray} {es : List Ent} (h : ListAt w b txt es) : b < w.heap.size := by
  obtain ⟨A, c, l, h1, _⟩ := h; exact heap_lt h1
set_option maxHeartbeats 1000000 in
theorem lst_len (b : Nat) (txt : ByteArray) (es : List Ent) (w : World) (h : ListAt w b txt es) : Calls Tryd.prog 30 #[.pointer (some ⟨b, 0, none⟩)] w fun e w' => e = .returned (.int .i64 es.length) ∧ w = w' := by
  obtain ⟨A, c, l, h1, h2, h3⟩ := h
  have hc : w.cell? ⟨b, 1, none⟩ = some (.slice A es.length c) := by rw [Lib.cell_of_heap h1]; rfl
  clear h1 h2 h3
  go_enter Tryd.func30, Tryd.ntmps30
  go_wp2_with fail
  go_ret
  exact ⟨rfl, rfl⟩
set_option maxHeartbeats 1000000 in
theorem lst_len_nil (w : World) : Calls Tryd.prog 30 #[.pointer none] w fun e w' => e = .returned (.int .i64 0) ∧ w = w' := by
  go_enter Tryd.func30, Tryd.ntmps30
  go_wp2_with fail
  go_ret
  exact ⟨rfl, rfl⟩
theorem ListAt.ent {w : World} {b : Nat} {txt : ByteArray} {es : List Ent} (h : ListAt w b txt es) : ∃ A c, w.cell? ⟨b, 1, none⟩ = some (.slice A es.length c) ∧ ∀ j (hj : j < es.length), ∃ bb off pb t, A = some ⟨bb, off, none⟩ ∧ w.cell? ⟨bb, off + j * 2, none⟩ = some (.pointer (some ⟨pb, 0, none⟩)) ∧ w.cell? ⟨bb, off + j * 2 + 1, none⟩ = some (.int .i64 es[j].2) ∧ PatAt w pb t es[j].1 := by
  obtain ⟨A, c, l, h1, h2, h3⟩ := h
  refine ⟨A, c, by rw [Lib.cell_of_heap h1]; rfl, fun j hj => ?_⟩
  have hjl : j < l.length := by rw [h3.1]; exact hj
  obtain ⟨bb, off, e, _, hc⟩ := h2.at (k := 0) (by rw [entC_length]; omega)
  obtain ⟨g1, g2⟩ := entC_at l j hjl
  obtain ⟨g3, t, g4⟩ := h3.2 j l[j] es[j] (List.getElem?_eq_getElem hjl) (List.getElem?_eq_getElem hj)
  exact ⟨bb, off, l[j].1, t, e, hc _ _ g1, by rw [Nat.add_assoc, ← g3]; exact hc _ _ g2, g4.at⟩
theorem verd_step (es : List Ent) (j : Nat) (hj : j < es.length) (name : Bs) : verdictF (es.take (j + 1)) name = if matchF es[j].1 name then es[j].2 else verdictF (es.take j) name := by
  rw [List.take_succ_eq_append_getElem hj, verdictF_snoc]
set_option maxHeartbeats 1000000 in
theorem lst_verdict_nil (s : ByteArray) (w : World) : Calls Tryd.prog 15 #[.pointer none, .string s] w fun e w' => e = .returned (.int .i64 0) ∧ Below w.heap.size w w' := by
  go_enter Tryd.func15, Tryd.ntmps15
  go_wp2_with fail
  (with_reducible refine (lst_len_nil _).mono ?_)
  rintro e w1 ⟨rfl, rfl⟩
  go_wp2_with fail
  go_loopw [5, 10] (fun v5 _ wr => v5 = .int .i64 (-1) ∧ Below w.heap.size w wr) (fun _ _ _ => 0)
  case atStart => exact ⟨rfl, Below.refl _ _⟩
  case round =>
    obtain ⟨rfl, hb⟩ := hrel
    go_wp2_with fail
    go_ret
    exact ⟨rfl, hb⟩
set_option maxHeartbeats 4000000 in
set_option maxRecDepth 100000 in
theorem lst_verdict (b : Nat) (txt : ByteArray) (es : List Ent) (s : ByteArray) (w : World) (h : ListAt w b txt es) (hok : ∀ e ∈ es, EntOk e) (hl : es.length ≤ 64) (hs : s.size ≤ 100000) :
    Calls Tryd.prog 15 #[.pointer (some ⟨b, 0, none⟩), .string s] w fun e w' => e = .returned (.int .i64 (verdictF es (toL s))) ∧ Below w.heap.size w w' := by
  have HLST := Lib.hid h; have HOK := Lib.hid hok
  clear h hok
  have HTK := Lib.hid (show es.take es.length = es from List.take_length)
  go_enter Tryd.func15, Tryd.ntmps15
  go_wp2_with fail
  (with_reducible refine (lst_len b txt es w HLST.out).mono ?_)
  rintro e w1 ⟨rfl, rfl⟩
  go_wp2_with fail
  go_loopw [5, 10] (fun v5 _ wr => ∃ k : Nat, k ≤ es.length ∧ v5 = .int .i64 ((k : Int) - 1) ∧ verdictF es (toL s) = verdictF (es.take k) (toL s) ∧ Below w.heap.size w wr) (fun v5 _ _ => (intOf v5 + 1).toNat)
  case atStart => exact ⟨es.length, Nat.le_refl _, rfl, by rw [HTK.out], Below.refl _ _⟩
  case round =>
    obtain ⟨k, hk, rfl, hvd, hb⟩ := hrel
    have HVD := Lib.hid hvd; clear hvd
    obtain ⟨wo, rfl⟩ : ∃ wo : World, wo = wr := ⟨_, rfl⟩
    cases k with
    | zero =>
      have HZ := Lib.hid (show verdictF (es.take 0) (toL s) = 0 from rfl)
      rw [HZ.out] at HVD
      go_wp2_with fail
      go_ret
      exact ⟨by rw [HVD.out]; rfl, hb⟩
    | succ j =>
      have hj : j < es.length := hk
      have ej : (((j + 1 : Nat) : Int) - 1) = (j : Int) := by omega
      rw [ej]
      have hj1 : (0 : Int) ≤ (j : Int) := by omega
      have hj2 : (j : Int) < (es.length : Int) := by omega
      have HL2 := Lib.hid (HLST.out.below hb)
      obtain ⟨A, c, hc1, hent⟩ := HL2.out.ent
      obtain ⟨bb, off, pb, t, rfl, hc2, hc3, hpt⟩ := hent j hj
      have HST := Lib.hid (verd_step es j hj (toL s))
      have hoe := HOK.out es[j] (List.getElem_mem hj)
      generalize es[j] = x at *
      rw [HST.out] at HVD
      have HPT := Lib.hid hpt
      have HOE := Lib.hid hoe.1
      have hxl := hoe.2.1
      clear hpt hoe hent HL2 HST
      go_wp2_with fail
      (with_reducible refine (pat_match pb t x.1 s wo HPT.out (by omega) HOE.out hs).mono ?_)
      rintro e w2 ⟨rfl, hb2⟩
      have d1 := (hb2.cell (p := ⟨b, 1, none⟩) (Nat.lt_of_lt_of_le HLST.out.lt hb.size)).trans hc1
      have d3 := (hb2.cell (p := ⟨bb, off + j * 2 + 1, none⟩) (World.block_lt_of_cell? wo _ hc3)).trans hc3
      have hb3 := hb.trans (hb2.mono hb.size)
      clear hc1 hc2 hc3 hb2
      rcases hmt : matchF x.1 (toL s) with _ | _
      · rw [hmt, if_neg (by simp)] at HVD
        go_wp2_with fail
        go_roundw
        case rel => exact ⟨j, by omega, by go_num, HVD.out, hb3⟩
        case measure => simp [intOf] <;> omega
      · rw [hmt, if_pos rfl] at HVD
        go_wp2_with fail
        go_ret
        exact ⟨by rw [HVD.out]; rfl, hb3⟩
/-- A list, or none. -/
def LstV (w : World) (v : Value) (es : List Ent) : Prop := (v = .pointer none ∧ es = []) ∨ ∃ b txt, v = .pointer (some ⟨b, 0, none⟩) ∧ ListAt w b txt es
theorem LstV.below {w w' : World} {v : Value} {es : List Ent} (h : LstV w v es) (hb : Below w.heap.size w w') : LstV w' v es := by
  rcases h with h | ⟨b, t, e, h⟩
  · exact .inl h
  · exact .inr ⟨b, t, e, h.below hb⟩
theorem lst_verdictV (v : Value) (es : List Ent) (s : ByteArray) (w : World) (h : LstV w v es) (hok : ∀ e ∈ es, EntOk e) (hl : es.length ≤ 64) (hs : s.size ≤ 100000) :
    Calls Tryd.prog 15 #[v, .string s] w fun e w' => e = .returned (.int .i64 (verdictF es (toL s))) ∧ Below w.heap.size w w' := by
  rcases h with ⟨rfl, rfl⟩ | ⟨b, t, rfl, h⟩
  · exact lst_verdict_nil s w
  · exact lst_verdict b t es s w h hok hl hs
theorem sel_step (es : List Ent) (ns : List Bs) (k : Nat) (hk : k < ns.length) (a : Bool) : selGo es (ns.drop k) a = if verdictF es ns[k] = 3 then false else selGo es (ns.drop (k + 1)) (a || verdictF es ns[k] == 1) := by
  rw [List.drop_eq_getElem_cons hk, selGo]
set_option maxHeartbeats 4000000 in
set_option maxRecDepth 100000 in
theorem lst_selects (v : Value) (es : List Ent) (A : Option Addr) (ns : List Bs) (c : Nat) (w : World) (h : LstV w v es) (hok : ∀ e ∈ es, EntOk e) (hl : es.length ≤ 64) (hr : Row w A (strsL ns)) (hn : ns.length ≤ 1000) (hns : ∀ x ∈ ns, x.length ≤ 100000) :
    Calls Tryd.prog 16 #[v, .slice A ns.length c] w fun e w' => e = .returned (.bool (selGo es ns false)) ∧ Below w.heap.size w w' := by
  have HLST := Lib.hid h; have HOK := Lib.hid hok; have HR := Lib.hid hr; have HNS := Lib.hid hns
  clear h hok hr hns
  go_enter Tryd.func16, Tryd.ntmps16
  go_wp2_with fail
  go_loopw [10, 5] (fun v10 v5 wr => ∃ (k : Nat) (a : Bool), k ≤ ns.length ∧ v10 = .int .i64 k ∧ v5 = .bool a ∧ selGo es ns false = selGo es (ns.drop k) a ∧ Below w.heap.size w wr) (fun v10 _ _ => ns.length - (intOf v10).toNat)
  case atStart => exact ⟨0, false, by omega, rfl, rfl, rfl, Below.refl _ _⟩
  case round =>
    obtain ⟨k, a, hk, rfl, rfl, hsl, hb⟩ := hrel
    have HSL := Lib.hid hsl; clear hsl
    obtain ⟨wo, rfl⟩ : ∃ wo : World, wo = wr := ⟨_, rfl⟩
    by_cases hlt : k < ns.length
    · have hk1 : (0 : Int) ≤ (k : Int) := by omega
      have hk2 : (k : Int) < (ns.length : Int) := by omega
      obtain ⟨bb, off, rfl, hcell⟩ := (HR.out.below hb).cell (k := k) (by simpa using hlt)
      rw [List.getElem_map] at hcell
      have HST := Lib.hid (sel_step es ns k hlt a)
      have hxl := HNS.out ns[k] (List.getElem_mem hlt)
      have hXX : ns[k] = toL (ofL ns[k]) := (toL_ofL _).symm
      generalize hX : ofL ns[k] = X at *
      rw [hXX] at HST hxl
      clear hXX hX
      rw [toL_length] at hxl
      rw [HST.out] at HSL
      have HV2 := Lib.hid (HLST.out.below hb)
      have hrng := verdictF_range es HOK.out (toL X)
      go_wp2_with fail
      (with_reducible refine (lst_verdictV v es X wo HV2.out HOK.out hl hxl).mono ?_)
      rintro e w2 ⟨rfl, hb2⟩
      have hb3 := hb.trans (hb2.mono hb.size)
      clear hcell hb2 HV2 HST
      generalize verdictF es (toL X) = vd at *
      by_cases h1 : vd = 1
      · subst h1
        rw [if_neg (by decide)] at HSL
        go_wp2_with fail
        go_roundw
        case rel => exact ⟨k + 1, true, by omega, by go_num, rfl, by rw [HSL.out]; simp, hb3⟩
        case measure => simp [intOf] <;> omega
      · have e1 : (vd == 1) = false := beq_eq_false_iff_ne.2 h1
        by_cases h3 : vd = 3
        · subst h3
          rw [if_pos rfl] at HSL
          go_wp2_with fail
          go_ret
          exact ⟨by rw [HSL.out]; rfl, hb3⟩
        · have e3 : (vd == 3) = false := beq_eq_false_iff_ne.2 h3
          rw [if_neg h3, e1, Bool.or_false] at HSL
          go_wp2_with fail
          go_roundw
          case rel => exact ⟨k + 1, a, by omega, by go_num, rfl, HSL.out, hb3⟩
          case measure => simp [intOf] <;> omega
    · obtain rfl : k = ns.length := by omega
      have HZ := Lib.hid (show selGo es ns false = a from by rw [HSL.out, List.drop_length]; rfl)
      go_wp2_with fail
      go_ret
      exact ⟨by rw [HZ.out]; rfl, hb⟩
theorem filt_step (es : List Ent) (ns : List Bs) (k : Nat) (hk : k < ns.length) : filtF es (ns.take (k + 1)) = filtF es (ns.take k) ++ (if verdictF es ns[k] = 1 then [ns[k]] else []) := by
  unfold filtF
  rw [List.take_succ_eq_append_getElem hk, List.filter_append]
  by_cases h : verdictF es ns[k] = 1 <;> simp [h]
theorem el_strs' : Elem Tryd.prog 54 9 1 16 := Elem.of Tryd.underlying54 (z := .string ⟨#[]⟩) (by kernel_rfl) rfl (by omega)
structure StrsO (w wr : World) (v : Value) (l : List Bs) : Prop where
  own : wr.ownsRow w.heap.size 9 1 v l.length (strsL l)
  bel : Below w.heap.size w wr
end Go.Proofs.YtcknomaaikeebaaDoor
