/- The reference's lists in memory; the walks over its Verdict and Selects. -/
import Derived.Test.YtmiieifcefgedaaDoorWmQ8
import Derived.Test.YtmiieifcefgedaaDoorWmD
namespace Go.Proofs.YtmiieifcefgedaaDoor
set_option linter.unusedSimpArgs false
set_option linter.unusedVariables false
open Go.RowKit

/-- An item: its verdict, and its pattern's two cells. -/
abbrev RIt := Int × ByteArray × Value
abbrev rowI (l : List RIt) : List Value := l.flatMap fun p => [.int .i64 p.1, .string p.2.1, p.2.2]
theorem rowI_length (l : List RIt) : (rowI l).length = l.length * 3 := by
  induction l with
  | nil => rfl
  | cons x r ih => simp [rowI] at ih ⊢; omega
theorem rowI_at (l : List RIt) (k : Nat) (h : k < l.length) : (rowI l)[k * 3]? = some (.int .i64 l[k].1) ∧ (rowI l)[k * 3 + 1]? = some (.string l[k].2.1) ∧ (rowI l)[k * 3 + 2]? = some l[k].2.2 := by
  induction l generalizing k with
  | nil => simp at h
  | cons x r ih =>
    cases k with
    | zero => simp [rowI]
    | succ k =>
      have := ih k (by simpa using h)
      simp only [rowI, List.flatMap_cons] at this ⊢
      rw [show (k + 1) * 3 = k * 3 + 3 from by omega, List.getElem?_append_right (by simp), List.getElem?_append_right (by simp), List.getElem?_append_right (by simp)]
      simpa using this
theorem rowI_snoc (l : List RIt) (x : Int) (t : ByteArray) (u : Value) : rowI l ++ [.int .i64 x, .string t, u] = rowI (l ++ [(x, t, u)]) := by simp [rowI]
/-- The items of a list lie in memory. -/
def ItsAt (w : World) (l : List RIt) (es : List Ent) : Prop := l.length = es.length ∧ ∀ (k : Nat) (p : RIt) (e : Ent), l[k]? = some p → es[k]? = some e → p.1 = e.2 ∧ RPat w p.2.1 e.1 (.agg #[.string p.2.1, p.2.2])
theorem ItsAt.below {w w' : World} {l : List RIt} {es : List Ent} (h : ItsAt w l es) (hb : Below w.heap.size w w') : ItsAt w' l es :=
  ⟨h.1, fun k p e h1 h2 => ⟨(h.2 k p e h1 h2).1, (h.2 k p e h1 h2).2.below hb⟩⟩
theorem ItsAt.kept {w w' : World} {l : List RIt} {es : List Ent} {row : Option Nat} (h : ItsAt w l es) (hg : w.grownBy w' row) (hr : ∀ g, row = some g → ∃ cur t fr, w.heap[g]? = some (.cells cur t fr) ∧ t ≠ 70) : ItsAt w' l es :=
  ⟨h.1, fun k p e h1 h2 => ⟨(h.2 k p e h1 h2).1, (h.2 k p e h1 h2).2.kept hg hr⟩⟩
theorem ItsAt.snoc {w : World} {l : List RIt} {es : List Ent} (h : ItsAt w l es) {t : ByteArray} {u : Value} {e : Ent} (hp : RPat w t e.1 (.agg #[.string t, u])) : ItsAt w (l ++ [(e.2, t, u)]) (es ++ [e]) := by
  refine ⟨by simp [h.1], fun k p x h1 h2 => ?_⟩
  rcases Nat.lt_trichotomy k l.length with hk | hk | hk
  · rw [List.getElem?_append_left hk] at h1
    rw [List.getElem?_append_left (by rw [← h.1]; exact hk)] at h2
    exact h.2 k p x h1 h2
  · subst hk
    rw [List.getElem?_append_right (Nat.le_refl _)] at h1
    rw [List.getElem?_append_right (by rw [h.1]; exact Nat.le_refl _), ← h.1] at h2
    simp at h1 h2
    subst h1 h2
    exact ⟨rfl, hp⟩
  · rw [List.getElem?_eq_none (by simp; omega)] at h1; cases h1
theorem ItsAt.nil (w : World) : ItsAt w [] [] := ⟨rfl, fun k p e h => by simp at h⟩
/-- A list of the reference as a value. -/
def RList (w : World) (es : List Ent) (v : Value) : Prop := ∃ A c l, v = .slice A es.length c ∧ Row w A (rowI l) ∧ ItsAt w l es
theorem RList.below {w w' : World} {es : List Ent} {v : Value} (h : RList w es v) (hb : Below w.heap.size w w') : RList w' es v := by
  obtain ⟨A, c, l, h1, h2, h3⟩ := h
  exact ⟨A, c, l, h1, h2.below hb, h3.below hb⟩
def RListV (w : World) (x : List Ent × Nat × Int) (v : Value) : Prop := (x.2.2 = 0 ∧ RList w x.1 v) ∨ (x.2.2 ≠ 0 ∧ v = .slice none 0 0)
def RListPost (s : ByteArray) (w : World) (e : Ending) (w' : World) : Prop := ∃ v, e = .returned (.tuple #[v, .int .i64 ((listF (toL s)).2.1 : Nat), .int .i64 (listF (toL s)).2.2]) ∧ RListV w' (listF (toL s)) v ∧ Below w.heap.size w w'
theorem RList.item {w : World} {es : List Ent} {A : Option Addr} {l : List RIt} (hr : Row w A (rowI l)) (hi : ItsAt w l es) {k : Nat} (hk : k < es.length) :
    ∃ bb off t u, A = some ⟨bb, off, none⟩ ∧ bb < w.heap.size ∧ w.cell? ⟨bb, off + k * 3, none⟩ = some (.int .i64 es[k].2) ∧ w.cell? ⟨bb, off + k * 3 + 1, none⟩ = some (.string t) ∧ w.cell? ⟨bb, off + k * 3 + 2, none⟩ = some u ∧ RPat w t es[k].1 (.agg #[.string t, u]) := by
  have hkl : k < l.length := by rw [hi.1]; exact hk
  obtain ⟨bb, off, e, hlt, hc⟩ := hr.at (k := k * 3) (by rw [rowI_length]; omega)
  obtain ⟨a0, a1, a2⟩ := rowI_at l k hkl
  obtain ⟨i1, i2⟩ := hi.2 k l[k] es[k] (List.getElem?_eq_getElem hkl) (List.getElem?_eq_getElem hk)
  exact ⟨bb, off, _, _, e, hlt, by rw [← i1]; exact hc _ _ a0, by rw [Nat.add_assoc]; exact hc _ _ a1, by rw [Nat.add_assoc]; exact hc _ _ a2, i2⟩
theorem verd_up (es : List Ent) (k : Nat) (hk : k < es.length) (name : Bs) : verdictF (es.take (k + 1)) name = if matchF es[k].1 name then es[k].2 else verdictF (es.take k) name := by
  rw [List.take_succ_eq_append_getElem hk, verdictF_snoc]

set_option maxHeartbeats 4000000 in
set_option maxRecDepth 100000 in
theorem rf_verdict (v : Value) (es : List Ent) (s : ByteArray) (w : World) (h : RList w es v) (hok : ∀ e ∈ es, EntOk e) (hl : es.length ≤ 64) (hs : s.size ≤ 100000) :
    Calls Tryd.prog 26 #[v, .string s] w fun e w' => e = .returned (.int .i64 (verdictF es (toL s))) ∧ Below w.heap.size w w' := by
  obtain ⟨A, c, l, rfl, hrow, hits⟩ := h
  have HR := Lib.hid hrow; have HI := Lib.hid hits; have HOK := Lib.hid hok
  clear hrow hits hok
  have HTK := Lib.hid (show es.take es.length = es from List.take_length)
  go_enter Tryd.func26, Tryd.ntmps26
  go_wp2_with fail
  go_loopw [5, 6] (fun v5 v6 wr => ∃ k : Nat, k ≤ es.length ∧ v6 = .int .i64 (k : Int) ∧ v5 = .int .i64 (verdictF (es.take k) (toL s)) ∧ Below w.heap.size w wr) (fun _ v6 _ => es.length - (intOf v6).toNat)
  case atStart => exact ⟨0, by omega, rfl, rfl, Below.refl _ _⟩
  case round =>
    obtain ⟨k, hk, rfl, rfl, hb⟩ := hrel
    obtain ⟨wo, rfl⟩ : ∃ wo : World, wo = wr := ⟨_, rfl⟩
    by_cases hlt : k < es.length
    · have hk1 : (0 : Int) ≤ (k : Int) := by omega
      have hk2 : (k : Int) < (es.length : Int) := by omega
      obtain ⟨bb, off, t, u, rfl, hbb, c0, c1, c2, hpt⟩ := RList.item (HR.out.below hb) (HI.out.below hb) hlt
      have HV := Lib.hid (verd_up es k hlt (toL s))
      have hoe := HOK.out es[k] (List.getElem_mem hlt)
      generalize es[k] = x at *
      have HPT := Lib.hid hpt
      have HOE := Lib.hid hoe.1
      have hxl := hoe.2.1
      clear hpt hoe
      go_wp2_with fail
      (with_reducible refine (rf_match _ t x.1 s wo HPT.out (by omega) HOE.out hs).mono ?_)
      rintro e w2 ⟨rfl, hb2⟩
      have d0 := (hb2.cell (p := ⟨bb, off + k * 3, none⟩) hbb).trans c0
      have hb3 := hb.trans (hb2.mono hb.size)
      clear c0 c1 c2 hb2
      rcases hmt : matchF x.1 (toL s) with _ | _
      · rw [hmt, if_neg (by simp)] at HV
        go_wp2_with fail
        go_roundw
        case rel => exact ⟨k + 1, by omega, by go_num, by rw [HV.out], hb3⟩
        case measure => simp [intOf] <;> omega
      · rw [hmt, if_pos rfl] at HV
        go_wp2_with fail
        go_roundw
        case rel => exact ⟨k + 1, by omega, by go_num, by rw [HV.out], hb3⟩
        case measure => simp [intOf] <;> omega
    · obtain rfl : k = es.length := by omega
      rw [HTK.out]
      go_wp2_with fail
      go_ret
      exact ⟨rfl, hb⟩

set_option maxHeartbeats 4000000 in
set_option maxRecDepth 100000 in
theorem rf_selects (v : Value) (es : List Ent) (A : Option Addr) (ns : List Bs) (c : Nat) (w : World) (h : RList w es v) (hok : ∀ e ∈ es, EntOk e) (hl : es.length ≤ 64) (hr : Row w A (strsL ns)) (hn : ns.length ≤ 1000) (hns : ∀ x ∈ ns, x.length ≤ 100000) :
    Calls Tryd.prog 32 #[v, .slice A ns.length c] w fun e w' => e = .returned (.bool (selGo es ns false)) ∧ Below w.heap.size w w' := by
  have HLST := Lib.hid h; have HOK := Lib.hid hok; have HR := Lib.hid hr; have HNS := Lib.hid hns
  clear h hok hr hns
  go_enter Tryd.func32, Tryd.ntmps32
  go_wp2_with fail
  go_loopw [6, 5] (fun v6 v5 wr => ∃ (k : Nat) (a : Bool), k ≤ ns.length ∧ v6 = .int .i64 (k : Int) ∧ v5 = .bool a ∧ selGo es ns false = selGo es (ns.drop k) a ∧ Below w.heap.size w wr) (fun v6 _ _ => ns.length - (intOf v6).toNat)
  case atStart => exact ⟨0, false, by omega, rfl, rfl, rfl, Below.refl _ _⟩
  case round =>
    obtain ⟨k, a, hk, rfl, rfl, hsl, hb⟩ := hrel
    have HSL := Lib.hid hsl; clear hsl
    obtain ⟨wo, rfl⟩ : ∃ wo : World, wo = wr := ⟨_, rfl⟩
    by_cases hlt : k < ns.length
    · have hk1 : (0 : Int) ≤ (k : Int) := by omega
      have hk2 : (k : Int) < (ns.length : Int) := by omega
      obtain ⟨bb, off, rfl, hcell⟩ := (HR.out.below hb).cell (k := k) (by simpa using hlt)
      rw [List.getElem_map] at hcell
      have HST := Lib.hid (sel_step es ns k hlt a)
      have hxl := HNS.out ns[k] (List.getElem_mem hlt)
      have hXX : ns[k] = toL (ofL ns[k]) := (toL_ofL _).symm
      generalize hX : ofL ns[k] = X at *
      rw [hXX] at HST hxl
      clear hXX hX
      rw [toL_length] at hxl
      rw [HST.out] at HSL
      have HV2 := Lib.hid (HLST.out.below hb)
      have hrng := verdictF_range es HOK.out (toL X)
      go_wp2_with fail
      (with_reducible refine (rf_verdict v es X wo HV2.out HOK.out hl hxl).mono ?_)
      rintro e w2 ⟨rfl, hb2⟩
      have hb3 := hb.trans (hb2.mono hb.size)
      clear hcell hb2 HV2 HST
      generalize verdictF es (toL X) = vd at *
      by_cases h1 : vd = 1
      · subst h1
        rw [if_neg (by decide)] at HSL
        rcases a with _ | _
        all_goals
          go_wp2_with fail
          go_roundw
          case rel => exact ⟨k + 1, true, by omega, by go_num, rfl, by rw [HSL.out]; simp, hb3⟩
          case measure => simp [intOf] <;> omega
      · have e1 : (vd == 1) = false := beq_eq_false_iff_ne.2 h1
        by_cases h3 : vd = 3
        · subst h3
          rw [if_pos rfl] at HSL
          go_wp2_with fail
          go_ret
          exact ⟨by rw [HSL.out]; rfl, hb3⟩
        · have e3 : (vd == 3) = false := beq_eq_false_iff_ne.2 h3
          rw [if_neg h3, e1, Bool.or_false] at HSL
          rcases a with _ | _
          all_goals
            go_wp2_with fail
            go_roundw
            case rel => exact ⟨k + 1, _, by omega, by go_num, rfl, HSL.out, hb3⟩
            case measure => simp [intOf] <;> omega
    · obtain rfl : k = ns.length := by omega
      have HZ := Lib.hid (show selGo es ns false = a from by rw [HSL.out, List.drop_length]; rfl)
      go_wp2_with fail
      go_ret
      exact ⟨by rw [HZ.out]; rfl, hb⟩
end Go.Proofs.YtmiieifcefgedaaDoor
