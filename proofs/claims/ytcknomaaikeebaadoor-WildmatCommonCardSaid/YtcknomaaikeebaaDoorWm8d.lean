/- The walk over commonRest: the first is a star. -/
import Derived.Test.YtcknomaaikeebaaDoorWm8a
namespace Go.Proofs.YtcknomaaikeebaaDoor
set_option linter.unusedSimpArgs false
set_option linter.unusedVariables false
open Go.RowKit

set_option maxHeartbeats 8000000 in
set_option maxRecDepth 100000 in
theorem rest_10 (w : World) (pb qb mb i k : Nat) (tp tq : ByteArray) (ps qs : List Em) (m : PosMap) (hp : PatAt w pb tp ps) (hq : PatAt w qb tq qs) (hm : MapP w mb m)
    (hop : ∀ e ∈ ps, e.Ok) (hlp : ps.length ≤ 100) (hlq : qs.length ≤ 100) (hi : i ≤ ps.length) (hk : k ≤ qs.length) (hv : ∀ x v, m.lookup x = some v → v.length ≤ 500)
    (h1 : i < ps.length) (h2 : k < qs.length) (hx0 : (emAt ps i).isStar = true) (hy0 : (emAt qs k).isStar = false) :
    Calls Tryd.prog 19 #[.pointer (some ⟨pb, 0, none⟩), .pointer (some ⟨qb, 0, none⟩), .agg #[.int .i64 i, .int .i64 k], .map (some mb)] w (RestPost w (stepF ps qs m i k)) := by
  obtain ⟨A, ca, hpr⟩ := hp.rd
  obtain ⟨B, cb, hqr⟩ := hq.rd
  have hpl := hp.lt
  have hql := hq.lt
  have HPR := Lib.hid hpr; have HQR := Lib.hid hqr
  clear hpr hqr hp hq
  have HN := Lib.hid (rest_new w mb i k m hm)
  have HV := Lib.hid hv; clear hv hm
  have HOP := Lib.hid hop; clear hop
  obtain ⟨eb, eo, hA, _⟩ := (HPR.out w (Below.refl _ _)).row.em h1
  have HPE := Lib.hid (fun wr hb => pat_el (HPR.out wr hb) h1 hA)
  have HXO := Lib.hid (HOP.out ps[i] (List.getElem_mem h1))
  have HXA := Lib.hid (emAt_get ps i h1)
  have hebl := pat_el_lt (HPR.out w (Below.refl _ _)) h1 hA
  generalize ps[i] = x at *
  subst hA
  rw [HXA.out] at hx0
  have hx := hx0; clear hx0
  obtain ⟨fb, fo, hB, _⟩ := (HQR.out w (Below.refl _ _)).row.em h2
  have HQE := Lib.hid (fun wr hb => pat_el (HQR.out wr hb) h2 hB)
  have HYA := Lib.hid (emAt_get qs k h2)
  have hfbl := pat_el_lt (HQR.out w (Below.refl _ _)) h2 hB
  generalize qs[k] = y at *
  subst hB
  rw [HYA.out] at hy0
  have hy := hy0; clear hy0
  obtain ⟨c0, c1, c2, c3, f2, f3, hlt⟩ := HN.out.facts
  have hp1 := (HPR.out _ HN.out.bel).cell
  have hq1 := (HQR.out _ HN.out.bel).cell
  have i1 : (i : Int) < (ps.length : Int) := by omega
  have i2 : (k : Int) < (qs.length : Int) := by omega
  go_enter Tryd.func19, Tryd.ntmps19
  go_wp2_with fail
  generalize ((((w.alloc (.cells #[.int .i64 i, .int .i64 k] 64)).alloc (.cells #[.map (some mb)] 61)).alloc (.cells #[.string ⟨#[]⟩] 9)).alloc (.cells #[.bool false] 4)) = W at *
  generalize hNN : w.heap.size = N at *
  go_region
  have HR := Lib.hid (drew_facts HN.out)
  clear c0 c1 c2 c3 f2 f3 hp1 hq1 hlt HN
  generalize W.drew = W1 at *
  go_wp2_with fail
  obtain ⟨c0, c1, c2, c3, f2, f3, hlt⟩ := HR.out.facts
  obtain ⟨a1, a2⟩ := HPE.out _ HR.out.bel
  go_region_held3 (fun w' => w'.cell? ⟨pb, 1, none⟩ = some (.slice (some ⟨eb, eo, none⟩) ps.length ca) ∧ w'.cell? ⟨N, 0, none⟩ = some (.int .i64 i) ∧ w'.cell? ⟨eb, eo + i, none⟩ = some (emV x))
    (first
      | exact ⟨a1, c0, a2⟩
      | exact ⟨(hbs.cell (p := ⟨pb, 1, none⟩) (by show pb < W1.heap.size; omega)).trans a1, (hbs.cell (p := ⟨N, 0, none⟩) (by show N < W1.heap.size; omega)).trans c0, (hbs.cell (p := ⟨eb, eo + i, none⟩) (by show eb < W1.heap.size; omega)).trans a2⟩)
    ((go_at_call 23; (with_reducible refine (em_isStar x _).mono ?_); rintro e W2 ⟨rfl, hbs⟩))
  have HRn := Lib.hid ((drew_facts HR.out).later hbs)
  clear HR; have HR := HRn; clear HRn hbs a1 a2 c0 c1 c2 c3 f2 f3 hlt
  go_wp2_with fail
  obtain ⟨c0, c1, c2, c3, f2, f3, hlt⟩ := HR.out.facts
  obtain ⟨a1, a2⟩ := HQE.out _ HR.out.bel
  go_region_held3 (fun w' => w'.cell? ⟨qb, 1, none⟩ = some (.slice (some ⟨fb, fo, none⟩) qs.length cb) ∧ w'.cell? ⟨N, 1, none⟩ = some (.int .i64 k) ∧ w'.cell? ⟨fb, fo + k, none⟩ = some (emV y))
    (first
      | exact ⟨a1, c1, a2⟩
      | exact ⟨(hbs.cell (p := ⟨qb, 1, none⟩) (by show qb < W2.heap.size; omega)).trans a1, (hbs.cell (p := ⟨N, 1, none⟩) (by show N < W2.heap.size; omega)).trans c1, (hbs.cell (p := ⟨fb, fo + k, none⟩) (by show fb < W2.heap.size; omega)).trans a2⟩)
    ((go_at_call 23; (with_reducible refine (em_isStar y _).mono ?_); rintro e W3 ⟨rfl, hbs⟩))
  have HRn := Lib.hid ((drew_facts HR.out).later hbs)
  clear HR; have HR := HRn; clear HRn hbs a1 a2 c0 c1 c2 c3 f2 f3 hlt
  have HLEN : Hid (((none : Option Bs).getD []).length ≤ 1000) := Lib.hid (by simp)
  obtain ⟨c0, c1, c2, c3, f2, f3, hlt⟩ := HR.out.facts
  go_wp2_with fail
  (with_reducible refine (wm_try' w N mb i k m _ _ ⟨#[]⟩ (i + 1) k _ _ (by omega) (by omega) HR.out (by decide) HLEN.out (look_len HV.out _)).mono ?_)
  rintro e W4 ⟨rfl, hrn⟩
  have HRn := Lib.hid hrn
  clear HR hrn; have HR := HRn; clear HRn c0 c1 c2 c3 f2 f3 hlt
  have HLn := Lib.hid (tryF_len' _ (m.lookup (i + 1, k)) [] 1000 HLEN.out (fun v e => by have := HV.out _ _ e; simp; omega))
  clear HLEN; have HLEN := HLn; clear HLn
  rw [show toL ⟨#[]⟩ = ([] : Bs) from rfl] at HR
  have HSML := Lib.hid (fun w => wm_smallest x y w HXO.out)
  rcases hsm : smallF x y with _ | h
  · have HSMC := Lib.hid (fun w0 => (HSML.out w0).mono (R' := fun e w' => e = .returned (.string ⟨#[]⟩) ∧ Below w0.heap.size w0 w') (by rintro e w' ⟨rfl, hb⟩; rw [hsm]; exact ⟨rfl, hb⟩))
    have HST := Lib.hid (show stepF ps qs m i k = tryF none [] (m.lookup (i + 1, k)) from by simp [stepF, h1, h2, HXA.out, hx, HYA.out, hy, hsm])
    clear HSML hsm
    obtain ⟨c0, c1, c2, c3, f2, f3, hlt⟩ := HR.out.facts
    obtain ⟨a1, a2⟩ := HPE.out _ HR.out.bel
    obtain ⟨b1, b2⟩ := HQE.out _ HR.out.bel
    go_wp2_with fail
    go_region_held3 (fun w' => w'.cell? ⟨pb, 1, none⟩ = some (.slice (some ⟨eb, eo, none⟩) ps.length ca) ∧ w'.cell? ⟨N, 0, none⟩ = some (.int .i64 i) ∧ w'.cell? ⟨eb, eo + i, none⟩ = some (emV x) ∧ w'.cell? ⟨qb, 1, none⟩ = some (.slice (some ⟨fb, fo, none⟩) qs.length cb) ∧ w'.cell? ⟨N, 1, none⟩ = some (.int .i64 k) ∧ w'.cell? ⟨fb, fo + k, none⟩ = some (emV y))
      (first
        | exact ⟨a1, c0, a2, b1, c1, b2⟩
        | exact ⟨(hbs.cell (p := ⟨pb, 1, none⟩) (by show pb < W4.heap.size; omega)).trans a1, (hbs.cell (p := ⟨N, 0, none⟩) (by show N < W4.heap.size; omega)).trans c0, (hbs.cell (p := ⟨eb, eo + i, none⟩) (by show eb < W4.heap.size; omega)).trans a2, (hbs.cell (p := ⟨qb, 1, none⟩) (by show qb < W4.heap.size; omega)).trans b1, (hbs.cell (p := ⟨N, 1, none⟩) (by show N < W4.heap.size; omega)).trans c1, (hbs.cell (p := ⟨fb, fo + k, none⟩) (by show fb < W4.heap.size; omega)).trans b2⟩)
      ((go_at_call 33; (with_reducible refine (HSMC.out _).mono ?_); rintro e W6 ⟨rfl, hbs⟩))
    have HRn := Lib.hid ((drew_facts HR.out).later hbs)
    clear HR; have HR := HRn; clear HRn hbs a1 a2 b1 b2 c0 c1 c2 c3 f2 f3 hlt HSMC
    obtain ⟨c0, c1, c2, c3, f2, f3, hlt⟩ := HR.out.facts
    go_wp2_with fail
    go_region
    all_goals
      have HFIN := Lib.hid (rest_same HR.out)
      obtain ⟨_, _, d2, d3, _⟩ := HFIN.out.facts
      go_wp2_with fail
      refine bodyPost_ret (results_two rfl _ _ ⟨N + 1 + 1, 0, none⟩ ⟨N + 1 + 1 + 1, 0, none⟩ _ _ rfl rfl agg_no9 agg_no4 d2 d3) rfl ?_
      rw [HST.out]
      exact ⟨rfl, by rw [hNN]; exact HFIN.out.bel⟩
  · have HSMC := Lib.hid (fun w0 => (HSML.out w0).mono (R' := fun e w' => e = .returned (.string ⟨#[h]⟩) ∧ Below w0.heap.size w0 w') (by rintro e w' ⟨rfl, hb⟩; rw [hsm]; exact ⟨rfl, hb⟩))
    have HST := Lib.hid (show stepF ps qs m i k = tryF (tryF none [] (m.lookup (i + 1, k))) [h] (m.lookup (i, (k + 1))) from by simp [stepF, h1, h2, HXA.out, hx, HYA.out, hy, hsm])
    clear HSML hsm
    obtain ⟨c0, c1, c2, c3, f2, f3, hlt⟩ := HR.out.facts
    obtain ⟨a1, a2⟩ := HPE.out _ HR.out.bel
    obtain ⟨b1, b2⟩ := HQE.out _ HR.out.bel
    go_wp2_with fail
    go_region_held3 (fun w' => w'.cell? ⟨pb, 1, none⟩ = some (.slice (some ⟨eb, eo, none⟩) ps.length ca) ∧ w'.cell? ⟨N, 0, none⟩ = some (.int .i64 i) ∧ w'.cell? ⟨eb, eo + i, none⟩ = some (emV x) ∧ w'.cell? ⟨qb, 1, none⟩ = some (.slice (some ⟨fb, fo, none⟩) qs.length cb) ∧ w'.cell? ⟨N, 1, none⟩ = some (.int .i64 k) ∧ w'.cell? ⟨fb, fo + k, none⟩ = some (emV y))
      (first
        | exact ⟨a1, c0, a2, b1, c1, b2⟩
        | exact ⟨(hbs.cell (p := ⟨pb, 1, none⟩) (by show pb < W4.heap.size; omega)).trans a1, (hbs.cell (p := ⟨N, 0, none⟩) (by show N < W4.heap.size; omega)).trans c0, (hbs.cell (p := ⟨eb, eo + i, none⟩) (by show eb < W4.heap.size; omega)).trans a2, (hbs.cell (p := ⟨qb, 1, none⟩) (by show qb < W4.heap.size; omega)).trans b1, (hbs.cell (p := ⟨N, 1, none⟩) (by show N < W4.heap.size; omega)).trans c1, (hbs.cell (p := ⟨fb, fo + k, none⟩) (by show fb < W4.heap.size; omega)).trans b2⟩)
      ((go_at_call 33; (with_reducible refine (HSMC.out _).mono ?_); rintro e W6 ⟨rfl, hbs⟩))
    have HRn := Lib.hid ((drew_facts HR.out).later hbs)
    clear HR; have HR := HRn; clear HRn hbs a1 a2 b1 b2 c0 c1 c2 c3 f2 f3 hlt HSMC
    have hsz1 : (⟨#[h]⟩ : ByteArray).size ≤ 1 := Nat.le_refl 1
    have hne : (⟨#[h]⟩ : ByteArray).toList.isEmpty = false := by rw [ByteArray.toList_eq]; rfl
    have HRa := Lib.hid (fun o => HR.out.later ((Below.refl _ _).alloc (Nat.le_refl _) o))
    obtain ⟨c0, c1, c2, c3, f2, f3, hlt⟩ := HR.out.facts
    have hltN : N < W6.heap.size := by omega
    go_wp2_with fail
    (with_reducible refine (wm_try' w N mb i k m _ _ ⟨#[h]⟩ i (k + 1) _ _ (by omega) (by omega) (HRa.out _) hsz1 HLEN.out (look_len HV.out _)).mono ?_)
    rintro e W7 ⟨rfl, hrn⟩
    rw [show toL ⟨#[h]⟩ = ([h] : Bs) from rfl] at hrn
    have HRn := Lib.hid hrn
    clear HR hrn HRa; have HR := HRn; clear HRn c0 c1 c2 c3 f2 f3 hlt
    obtain ⟨c0, c1, c2, c3, f2, f3, hlt⟩ := HR.out.facts
    go_wp2_with fail
    go_region
    all_goals
      have HFIN := Lib.hid (rest_same HR.out)
      obtain ⟨_, _, d2, d3, _⟩ := HFIN.out.facts
      go_wp2_with fail
      refine bodyPost_ret (results_two rfl _ _ ⟨N + 1 + 1, 0, none⟩ ⟨N + 1 + 1 + 1, 0, none⟩ _ _ rfl rfl agg_no9 agg_no4 d2 d3) rfl ?_
      rw [HST.out]
      exact ⟨rfl, by rw [hNN]; exact HFIN.out.bel⟩
end Go.Proofs.YtcknomaaikeebaaDoor
