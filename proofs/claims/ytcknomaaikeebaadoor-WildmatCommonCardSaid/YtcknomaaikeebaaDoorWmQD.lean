/- The walk over the reference's Common. -/
import Derived.Test.YtcknomaaikeebaaDoorWmQC
namespace Go.Proofs.YtcknomaaikeebaaDoor
set_option linter.unusedSimpArgs false
set_option linter.unusedVariables false
open Go.RowKit

theorem EsAt.drewN {w : World} {pb : Nat} {A : Option Addr} {c : Nat} {es : List Em} (h : EsAt w pb A c es) (n : Nat) : EsAt (w.drewN n) pb A c es := ⟨h.cell, h.row⟩
theorem NewAt.sizeW {W wo : World} {p q : List Em} {rb sb : Nat} {R S : Nat → Nat} {i r s : Nat} {W1 : World} (h : NewAt W wo p q rb sb R S i r s W1) : W.heap.size ≤ W1.heap.size := h.bel.size
theorem RowAt.drewN {W W1 : World} {f : Nat → Option Bs} {m r s k : Nat} {wr : World} (h : RowAt W W1 f m r s k wr) (n : Nat) : RowAt W W1 f m r s k (wr.drewN n) :=
  ⟨h.row, h.mark, h.old, below_drewN h.bel n⟩
theorem tab_size {p q : List Em} (hp : p.length ≤ 80) (hq : q.length ≤ 80) (i j : Nat) : ((tabF p q i j).getD []).length ≤ 1000 := by
  cases h : tabF p q i j with
  | none => simp
  | some s => have := tab_len p q i j s h; simp; omega
theorem try_len_le {o r : Option Bs} {s : Bs} (h : tryF o [] r = some s) (ho : ∀ s, o = some s → s.length ≤ 400) (hr : ∀ s, r = some s → s.length ≤ 400) : s.length ≤ 400 :=
  tryF_len o [] r 400 ho (fun s h => by simpa using hr s h) s h
theorem best_len {x y : Em} {r cur : Option Bs} {n : Nat} (hc : ∀ s, cur = some s → s.length ≤ n) (hr : ∀ s, r = some s → s.length + 1 ≤ n) : ∀ q s, bestTo x y r cur q = some s → s.length ≤ n
  | 0, s, h => hc s h
  | q + 1, s, h => by
    rw [bestTo] at h
    split at h
    · exact tryF_len _ _ _ n (best_len hc hr q) (fun s h => by have := hr s h; simp; omega) s h
    · exact best_len hc hr q s h
theorem emFn_nat {e : Em} (hs : e.isStar = false) (c : Nat) : emFn e c = e.chars.contains (UInt8.ofNat c) := by unfold emFn; rw [hs]; rfl
theorem s_none : sOf none = ⟨#[]⟩ := toL_inj rfl
structure Here (rb sb i r s m : Nat) (w : World) : Prop where
  a : w.cell? ⟨rb, i, none⟩ = some (.slice (some ⟨r, 0, none⟩) (m + 1) (m + 1))
  b : w.cell? ⟨sb, i, none⟩ = some (.slice (some ⟨s, 0, none⟩) (m + 1) (m + 1))
/-- The four loads of a place of the table. -/
structure PlaceAt (rb sb i r s m j : Nat) (o : Option Bs) (w : World) : Prop where
  a : w.cell? ⟨rb, i, none⟩ = some (.slice (some ⟨r, 0, none⟩) (m + 1) (m + 1))
  b : w.cell? ⟨sb, i, none⟩ = some (.slice (some ⟨s, 0, none⟩) (m + 1) (m + 1))
  c : w.cell? ⟨r, j, none⟩ = some (.string (sOf o))
  d : w.cell? ⟨s, j, none⟩ = some (.bool o.isSome)
theorem PlaceAt.below {rb sb i r s m j : Nat} {o : Option Bs} {w w' : World} (h : PlaceAt rb sb i r s m j o w) (hb : Below w.heap.size w w') : PlaceAt rb sb i r s m j o w' :=
  ⟨(hb.cell (p := ⟨rb, i, none⟩) (World.block_lt_of_cell? w _ h.a)).trans h.a, (hb.cell (p := ⟨sb, i, none⟩) (World.block_lt_of_cell? w _ h.b)).trans h.b, (hb.cell (p := ⟨r, j, none⟩) (World.block_lt_of_cell? w _ h.c)).trans h.c, (hb.cell (p := ⟨s, j, none⟩) (World.block_lt_of_cell? w _ h.d)).trans h.d⟩
theorem here_at {W wo : World} {p q : List Em} {rb sb : Nat} {R S : Nat → Nat} {i r s : Nat} {W1 wr : World} {k : Nat} (h : NewAt W wo p q rb sb R S i r s W1) (hr : RowAt W W1 (tabF p q i) q.length r s k wr) (hi : i ≤ p.length) : Here rb sb i r s q.length wr := by
  have g1 := hr.keep h.rest (h.rest.ne h.newR (by decide)) (h.rest.ne h.newS (by decide))
  have g2 := hr.keep h.is (h.is.ne h.newR (by decide)) (h.is.ne h.newS (by decide))
  have a := g1.cell (pRow_get _ _ _ _ i (Nat.le_refl _) hi)
  have b := g2.cell (pRow_get _ _ _ _ i (Nat.le_refl _) hi)
  simp only [slV, ups_at] at a b
  exact ⟨a, b⟩
theorem place_right {W wo : World} {p q : List Em} {rb sb : Nat} {R S : Nat → Nat} {i r s : Nat} {W1 wr : World} {j : Nat} (h : NewAt W wo p q rb sb R S i r s W1) (hr : RowAt W W1 (tabF p q i) q.length r s (j + 1) wr) (hi : i ≤ p.length) (hj : j < q.length) : PlaceAt rb sb i r s q.length (j + 1) (tabF p q i (j + 1)) wr := by
  have hh := here_at h hr hi
  exact ⟨hh.a, hh.b, hr.row.cell (pRow_get _ _ _ _ (j + 1) (Nat.le_refl _) (by omega)), hr.mark.cell (pRow_get _ _ _ _ (j + 1) (Nat.le_refl _) (by omega))⟩
theorem place_down {W wo : World} {p q : List Em} {rb sb : Nat} {R S : Nat → Nat} {i r s : Nat} {W1 wr : World} {k : Nat} (j : Nat) (h : NewAt W wo p q rb sb R S i r s W1) (hR : ∀ k, i + 1 ≤ k → k ≤ p.length → R k < wo.heap.size) (hS : ∀ k, i + 1 ≤ k → k ≤ p.length → S k < wo.heap.size) (hr : RowAt W W1 (tabF p q i) q.length r s k wr) (hi : i < p.length) (hj : j ≤ q.length) : PlaceAt rb sb (i + 1) (R (i + 1)) (S (i + 1)) q.length j (tabF p q (i + 1) j) wr := by
  have fr := h.fr; have fs := h.fs
  have g1 := hr.keep h.rest (h.rest.ne h.newR (by decide)) (h.rest.ne h.newS (by decide))
  have g2 := hr.keep h.is (h.is.ne h.newR (by decide)) (h.is.ne h.newS (by decide))
  have r1 := hR (i + 1) (by omega) (by omega)
  have s1 := hS (i + 1) (by omega) (by omega)
  have a := g1.cell (pRow_get _ _ _ _ (i + 1) (by omega) (by omega))
  have b := g2.cell (pRow_get _ _ _ _ (i + 1) (by omega) (by omega))
  simp only [slV] at a b
  rw [ups_ne _ _ _ _ (by omega)] at a b
  have k1 := h.rowR (i + 1) (by omega) (by omega)
  have k2 := h.rowS (i + 1) (by omega) (by omega)
  exact ⟨a, b, (hr.keep k1 (by omega) (k1.ne h.newS (by decide))).cell (pRow_get _ _ _ _ j (by omega) hj), (hr.keep k2 (k2.ne h.newR (by decide)) (by omega)).cell (pRow_get _ _ _ _ j (by omega) hj)⟩

theorem hit_len {o : Option Bs} (h : ∀ s, o = some s → s.length ≤ 900) : (o.getD []).length ≤ 1000 := by
  cases o with
  | none => simp
  | some s => have := h s rfl; simp; omega
theorem hit_txt (d : UInt8) (o : Option Bs) : ∀ t, o.map (d :: ·) = some t → toL (⟨#[d]⟩ ++ sOf o) = t := by
  intro t h
  cases o with
  | none => cases h
  | some s =>
    simp at h; subst h
    have := ofL_append [d] s
    show toL (ofL [d] ++ ofL s) = _
    rw [this, toL_ofL]; rfl
theorem tab_size9 {p q : List Em} (hp : p.length ≤ 80) (hq : q.length ≤ 80) (i j : Nat) : ((tabF p q i j).getD []).length ≤ 900 := by
  cases h : tabF p q i j with
  | none => simp
  | some s => have := tab_len p q i j s h; simp; omega
theorem hit_size (d : UInt8) (o : Option Bs) (h : (o.getD []).length ≤ 900) : ((⟨#[d]⟩ : ByteArray) ++ sOf o).size ≤ 1000 := by
  rw [ByteArray.size_append, ← toL_length (sOf o), sOf_toL]; show 1 + _ ≤ 1000; omega
theorem conv_hit (T : TypeId) (hT : Tryd.prog.underlying T = some .string) (w : World) (c : Nat) (hc : c < 128) : (convert 69 T (.slice (some ⟨w.heap.size, 0, none⟩) 1 1)).run Tryd.prog (w.alloc (.cells #[.int .u8 (c : Int)] 5)).drew = .ok (.string ⟨#[UInt8.ofNat c]⟩) (w.alloc (.cells #[.int .u8 (c : Int)] 5)).drew := by
  have h := conv_one T hT w.drew (UInt8.ofNat c)
  rw [show num (UInt8.ofNat c) = (c : Int) from by simp [num, UInt8.toNat_ofNat']; omega] at h
  exact h

set_option maxHeartbeats 32000000 in
set_option maxRecDepth 100000 in
theorem rf_common (v1 v2 : Value) (t1 t2 : ByteArray) (p q : List Em) (w : World) (h1 : RPat w t1 p v1) (h2 : RPat w t2 q v2) (hp : p.length ≤ 80) (hq : q.length ≤ 80) (okp : ∀ e ∈ p, e.Ok) (okq : ∀ e ∈ q, e.Ok) :
    Calls Tryd.prog 9 #[v1, v2] w fun e w' => e = .returned (.tuple #[.string (sOf (comF p q)), .bool (comF p q).isSome]) ∧ Below w.heap.size w w' := by
  obtain ⟨A1, c1, rfl, r1, _⟩ := h1
  obtain ⟨A2, c2, rfl, r2, _⟩ := h2
  have HB1 := Lib.hid ((Below.refl w.heap.size w).alloc (Nat.le_refl _) (.cells #[.string t1, .slice A1 p.length c1] 30))
  have HE1 := Lib.hid ((box_es (txt := t1) (c := c1) r1).below ((Below.refl _ _).alloc (Nat.le_refl _) (.cells #[.string t2, .slice A2 q.length c2] 30)))
  have HE2 := Lib.hid (box_es (w := w.alloc (.cells #[.string t1, .slice A1 p.length c1] 30)) (txt := t2) (c := c2) (r2.below HB1.out))
  have HBW := Lib.hid (HB1.out.alloc (by simp) (.cells #[.string t2, .slice A2 q.length c2] 30))
  have HOP := Lib.hid okp; have HOQ := Lib.hid okq
  have HLEN := Lib.hid (fun i j => tab_size hp hq i j)
  clear r1 r2 HB1 okp okq
  go_enter Tryd.func9, Tryd.ntmps9
  go_upto_region 1 with fail
  rw [World.size_alloc] at HE2
  generalize (w.alloc (.cells #[.string t1, .slice A1 p.length c1] 30)).alloc (.cells #[.string t2, .slice A2 q.length c2] 30) = V0 at *
  have q1 := HE1.out.cell
  have q2 := HE2.out.cell
  go_quiet (fail)
  have HF1 := Lib.hid (HE1.out.drewN nq)
  have HF2 := Lib.hid (HE2.out.drewN nq)
  have HBV := Lib.hid (below_drewN HBW.out nq)
  clear q1 q2 HE1 HE2 HBW
  generalize V0.drewN nq = V at *
  have m1 := mk_ss (p.length + 1) ((p.length : Int) + 1) (by omega) (by omega)
  have m2 := mk_bb (p.length + 1) ((p.length : Int) + 1) (by omega) (by omega)
  go_wp2_with fail
  clear m1 m2
  simp only [← List.toArray_replicate]
  have HT0 := Lib.hid (show TabAt V p q V.heap.size (V.heap.size + 1) (fun _ => 0) (fun _ => 0) (p.length + 1) ((V.alloc (.cells (List.replicate (p.length + 1) (.slice none 0 0)).toArray 54)).alloc (.cells (List.replicate (p.length + 1) (.slice none 0 0)).toArray 67)) from by
    refine ⟨?_, ?_, fun i h1 h2 => by omega, fun i h1 h2 => by omega, ((Below.refl _ _).alloc (Nat.le_refl _) _).alloc (by simp) _⟩
    · rw [← pRow_none]; exact (LAt.new V _ _).below ((Below.refl _ _).alloc (Nat.le_refl _) _)
    · rw [← pRow_none]
      have := LAt.new (V.alloc (.cells (List.replicate (p.length + 1) (.slice none 0 0)).toArray 54)) 67 (List.replicate (p.length + 1) (.slice none 0 0))
      rwa [World.size_alloc] at this)
  generalize (V.alloc (.cells (List.replicate (p.length + 1) (.slice none 0 0)).toArray 54)).alloc (.cells (List.replicate (p.length + 1) (.slice none 0 0)).toArray 67) = W0 at *
  have hrb : V.heap.size ≤ V.heap.size := Nat.le_refl _
  have hsb : V.heap.size ≤ V.heap.size + 1 := by omega
  generalize hrbv : V.heap.size = rb at *
  generalize hsbv : rb + 1 = sb at *
  go_loopw [10, 32] (fun v10 _ wr => ∃ (k : Nat) (R S : Nat → Nat), k ≤ p.length + 1 ∧ v10 = .int .i64 ((k : Int) - 1) ∧ TabAt V p q rb sb R S k wr) (fun v10 _ _ => (intOf v10 + 1).toNat)
  case atStart => exact ⟨p.length + 1, _, _, by omega, (show Value.int .i64 (p.length : Int) = _ from by congr 1; omega), HT0.out⟩
  case round =>
    obtain ⟨k, R, S, hk, rfl, hT⟩ := hrel
    have HT := Lib.hid hT
    clear HT0 hT
    obtain ⟨wo, rfl⟩ : ∃ wo : World, wo = wr := ⟨_, rfl⟩
    cases k with
    | zero =>
      have a1 := HT.out.rest.cell (pRow_get _ _ _ _ 0 (Nat.le_refl _) (Nat.zero_le _))
      have a2 := HT.out.is.cell (pRow_get _ _ _ _ 0 (Nat.le_refl _) (Nat.zero_le _))
      have a3 := (HT.out.rowR 0 (Nat.le_refl _) (Nat.zero_le _)).cell (pRow_get _ _ _ _ 0 (Nat.le_refl _) (Nat.zero_le _))
      have a4 := (HT.out.rowS 0 (Nat.le_refl _) (Nat.zero_le _)).cell (pRow_get _ _ _ _ 0 (Nat.le_refl _) (Nat.zero_le _))
      simp only [slV, stV, bV, tab_all] at a1 a2 a3 a4
      have n1 : (0 : Int) < ((p.length + 1 : Nat) : Int) := by omega
      have n2 : (0 : Int) < ((q.length + 1 : Nat) : Int) := by omega
      have HZ := Lib.hid (HBV.out.trans (HT.out.bel.mono (by have := HBV.out.size; omega)))
      obtain ⟨X, hX⟩ : ∃ X, X = sOf (comF p q) := ⟨_, rfl⟩
      obtain ⟨b, hb⟩ : ∃ b, b = (comF p q).isSome := ⟨_, rfl⟩
      rw [← hX] at a3
      rw [← hb] at a4
      have HX := Lib.hid hX; have HBB := Lib.hid hb
      clear hX hb
      go_upto_region 28 with fail
      go_quiet (fail)
      have HY := Lib.hid (below_drewN HZ.out nq)
      go_wp2_with fail
      go_ret2
      exact ⟨by rw [← HX.out, ← HBB.out]; rfl, HY.out⟩
    | succ i =>
      have hi : i ≤ p.length := by omega
      have ej : (((i + 1 : Nat) : Int) - 1) = (i : Int) := by omega
      rw [ej]
      have i0 : (0 : Int) ≤ (i : Int) := by omega
      have i1 : (i : Int) < ((p.length + 1 : Nat) : Int) := by omega
      have HRl := Lib.hid (fun k (k1 : i + 1 ≤ k) (k2 : k ≤ p.length) => (HT.out.rowR k k1 k2).lt)
      have HSl := Lib.hid (fun k (k1 : i + 1 ≤ k) (k2 : k ≤ p.length) => (HT.out.rowS k k1 k2).lt)
      obtain ⟨z1, hz1⟩ := pRow_at (slV q.length R) (.slice none 0 0) p.length (i + 1) i hi
      obtain ⟨z2, hz2⟩ := pRow_at (slV q.length S) (.slice none 0 0) p.length (i + 1) i hi
      have b1 := HT.out.rest.cell hz1
      have b2 := HT.out.is.cell hz2
      have b3 := HT.out.rest.free i
      have b4 := HT.out.is.free i
      have b5 := HT.out.rest.lt
      have b6 := HT.out.is.lt
      have m1 := mk_s (q.length + 1) ((q.length : Int) + 1) (by omega) (by omega)
      have m2 := mk_b (q.length + 1) ((q.length : Int) + 1) (by omega) (by omega)
      have HWO := Lib.hid HT.out.bel.size
      have HSWAP := Lib.hid (fun (wx : World) (u v : Value) => swap_set wx rb sb i i u v (by omega))
      have HNA := Lib.hid (show NewAt V wo p q rb sb R S i wo.heap.size (wo.heap.size + 1) _ from new_of (w2 := (wo.alloc (.cells (List.replicate (q.length + 1) (.string ⟨#[]⟩)).toArray 9)).alloc (.cells (List.replicate (q.length + 1) (.bool false)).toArray 4)) HT.out hi (((Below.refl _ _).alloc (Nat.le_refl _) _).alloc (by simp) _)
        ((LAt.new wo _ _).below ((Below.refl _ _).alloc (Nat.le_refl _) _)) (by
          have := LAt.new (wo.alloc (.cells (List.replicate (q.length + 1) (.string ⟨#[]⟩)).toArray 9)) 4 (List.replicate (q.length + 1) (.bool false))
          rwa [World.size_alloc] at this) (Nat.le_refl _) (by omega) (by omega) (by omega))
      have HNB := Lib.hid (show NewAt V wo p q rb sb R S i (wo.heap.size + 1) wo.heap.size _ from new_of (w2 := (wo.alloc (.cells (List.replicate (q.length + 1) (.bool false)).toArray 4)).alloc (.cells (List.replicate (q.length + 1) (.string ⟨#[]⟩)).toArray 9)) HT.out hi (((Below.refl _ _).alloc (Nat.le_refl _) _).alloc (by simp) _)
        (by
          have := LAt.new (wo.alloc (.cells (List.replicate (q.length + 1) (.bool false)).toArray 4)) 9 (List.replicate (q.length + 1) (.string ⟨#[]⟩))
          rwa [World.size_alloc] at this) ((LAt.new wo _ _).below ((Below.refl _ _).alloc (Nat.le_refl _) _)) (by omega) (Nat.le_refl _) (by omega) (by omega))
      clear hz1 hz2
      go_upto_region 7 with fail
      go_cut [10] (fun s10 wx => s10 = .int .i64 (i : Int) ∧ ∃ r s, NewAt V wo p q rb sb R S i r s wx)
      case first =>
        have HNA' := Lib.hid (show NewAt V wo p q rb sb R S i wo.heap.size (wo.heap.size + 1) _ from by
          have h := HNA.out
          rw [World.setCell_alloc_past _ _ _ _ (by simp; omega), World.setCell_alloc_past _ _ _ _ b5, World.setCell_alloc_past _ _ _ _ (by simp; omega), World.setCell_alloc_past _ _ _ _ (by simp; omega), List.toArray_replicate, List.toArray_replicate] at h
          exact h.drew)
        have HNB' := Lib.hid (show NewAt V wo p q rb sb R S i (wo.heap.size + 1) wo.heap.size _ from by
          have h := HNB.out
          rw [World.setCell_alloc_past _ _ _ _ (by simp; omega), World.setCell_alloc_past _ _ _ _ b5, World.setCell_alloc_past _ _ _ _ (by simp; omega), World.setCell_alloc_past _ _ _ _ (by simp; omega), List.toArray_replicate, List.toArray_replicate] at h
          exact h.drew)
        clear HNA HNB HSWAP
        go_region
        all_goals
          go_wp2_with fail
          go_meet
          case rel => first | exact ⟨rfl, _, _, HNA'.out⟩ | exact ⟨rfl, _, _, HNB'.out⟩
      case rest =>
        obtain ⟨rfl, r, s, hN⟩ := hcut
        have HN := Lib.hid hN
        clear HT HNA HNB HSWAP m1 m2 b1 b2 b3 b4 b5 b6 hN
        obtain ⟨W1, rfl⟩ : ∃ W1 : World, W1 = wc := ⟨_, rfl⟩
        have HR0 := Lib.hid HN.out.start
        go_wp2_with fail
        go_loopw [11, 49] (fun v11 _ wr => ∃ k : Nat, k ≤ q.length + 1 ∧ v11 = .int .i64 ((k : Int) - 1) ∧ RowAt V W1 (tabF p q i) q.length r s k wr ∧ W1.heap.size ≤ wr.heap.size) (fun v11 _ _ => (intOf v11 + 1).toNat)
        case atStart => exact ⟨q.length + 1, by omega, (show Value.int .i64 (q.length : Int) = _ from by congr 1; omega), HR0.out, Nat.le_refl _⟩
        case round =>
          obtain ⟨k, hk, rfl, hrow, hz⟩ := hrel
          have HROW := Lib.hid hrow
          have HZ := Lib.hid hz
          clear HR0 hrow hz
          obtain ⟨wi, rfl⟩ : ∃ wi : World, wi = wr := ⟨_, rfl⟩
          cases k with
          | zero =>
            have HD := Lib.hid (HN.out.done HRl.out HSl.out HROW.out)
            go_wp2_with fail
            go_roundw
            case rel => exact ⟨i, _, _, by omega, rfl, HD.out⟩
            case measure => simp [intOf] <;> omega
          | succ j =>
            have hj : j ≤ q.length := by omega
            have ej2 : (((j + 1 : Nat) : Int) - 1) = (j : Int) := by omega
            rw [ej2]
            have j0 : (0 : Int) ≤ (j : Int) := by omega
            have j1' : (j : Int) < (q.length : Int) + 1 := by omega
            have i1' : (i : Int) < (p.length : Int) + 1 := by omega
            have j1 : (j : Int) < ((q.length + 1 : Nat) : Int) := by omega
            have hVr : V.heap.size ≤ r := by have := HN.out.fr; have := HWO.out; omega
            have hVs : V.heap.size ≤ s := by have := HN.out.fs; have := HWO.out; omega
            by_cases hin : i < p.length
            · have i2 : (i : Int) < (p.length : Int) := by omega
              have i3 : ((i : Int) == (p.length : Int)) = false := beq_eq_false_iff_ne.2 (by omega)
              by_cases hjn : j < q.length
              · have j2 : (j : Int) < (q.length : Int) := by omega
                have j3 : ((j : Int) == (q.length : Int)) = false := beq_eq_false_iff_ne.2 (by omega)
                obtain ⟨bb, off, hA, hbl, g0, gj⟩ := (HF1.out.below HROW.out.bel).at hin
                subst hA
                have gb := (HF1.out.below HROW.out.bel).cell
                obtain ⟨cb, cff, hA2, hcl, k0, kj⟩ := (HF2.out.below HROW.out.bel).at hjn
                subst hA2
                have kb := (HF2.out.below HROW.out.bel).cell
                have HGJ := Lib.hid gj; have HKJ := Lib.hid kj
                have HTB2 := Lib.hid (fun (h2 : (p[i].isStar && q[j].isStar) = false) => tab_best p q i j hin hjn (HOP.out _ (List.getElem_mem hin)) (HOQ.out _ (List.getElem_mem hjn)) h2 _ _ _ rfl rfl rfl)
                have HTB1 := Lib.hid (tab_both p q i j hin hjn)
                have HPX := Lib.hid (HOP.out _ (List.getElem_mem hin))
                have HPY := Lib.hid (HOQ.out _ (List.getElem_mem hjn))
                clear gj kj
                generalize p[i] = X at *
                generalize q[j] = Y at *
                rcases hs1 : X.isStar with _ | _
                · rw [hs1] at g0 HTB2
                  rcases hs2 : Y.isStar with _ | _
                  · rw [hs2] at k0 HTB2
                    as_aux_lemma =>
                      have HZ0 := HZ
                      go_wp2_with fail
                      have HTB := Lib.hid (show tabF p q i j = bestTo X Y (tabF p q (i + 1) (j + 1)) none 128 from HTB2.out rfl)
                      have HPL := Lib.hid (place_down (j + 1) HN.out HRl.out HSl.out HROW.out hin (by omega))
                      have HBL := Lib.hid (fun c (hc : c ≤ 128) => best_len (x := X) (y := Y) (r := tabF p q (i + 1) (j + 1)) (cur := none) (n := 900) (fun s hs => by cases hs) (fun s hs => by have := tab_len p q _ _ s hs; omega) c)
                      clear HTB1 HTB2
                      go_loopw [12, 13, 14] (fun v12 v13 v14 wr => ∃ c : Nat, c ≤ 128 ∧ v14 = .int .i64 (c : Int) ∧ v12 = .string (sOf (bestTo X Y (tabF p q (i + 1) (j + 1)) none c)) ∧ v13 = .bool (bestTo X Y (tabF p q (i + 1) (j + 1)) none c).isSome ∧ Below wi.heap.size wi wr) (fun _ _ v14 _ => 128 - (intOf v14).toNat)
                      case atStart => exact ⟨0, by omega, rfl, by rw [bestTo]; rw [s_none], by rw [bestTo]; rfl, Below.refl _ _⟩
                      case round =>
                        obtain ⟨c, hc, rfl, rfl, rfl, hbc⟩ := hrel
                        obtain ⟨wc, rfl⟩ : ∃ wc : World, wc = wr := ⟨_, rfl⟩
                        have HBC := Lib.hid hbc
                        by_cases hc1 : c < 128
                        · have c0 : (0 : Int) ≤ (c : Int) := by omega
                          have c1 : (c : Int) < 128 := by omega
                          have g0c := (hbc.cell (p := ⟨bb, off + i * 129, none⟩) (World.block_lt_of_cell? _ _ g0)).trans g0
                          have k0c := (hbc.cell (p := ⟨cb, cff + j * 129, none⟩) (World.block_lt_of_cell? _ _ k0)).trans k0
                          have gbc := (hbc.cell (p := ⟨w.heap.size, 1, none⟩) (World.block_lt_of_cell? _ _ gb)).trans gb
                          have kbc := (hbc.cell (p := ⟨w.heap.size + 1, 1, none⟩) (World.block_lt_of_cell? _ _ kb)).trans kb
                          have gsc := (hbc.cell (p := ⟨bb, off + i * 129 + 1 + c, none⟩) (World.block_lt_of_cell? _ _ (HGJ.out c hc1))).trans (HGJ.out c hc1)
                          rw [emFn_nat hs1] at gsc
                          have ksc := (hbc.cell (p := ⟨cb, cff + j * 129 + 1 + c, none⟩) (World.block_lt_of_cell? _ _ (HKJ.out c hc1))).trans (HKJ.out c hc1)
                          rw [emFn_nat hs2] at ksc
                          clear hbc
                          go_upto_region 19 with fail
                          go_quiet (fail)
                          have HBD := Lib.hid (below_drewN HBC.out nq)
                          have gbd : (wc.drewN nq).cell? ⟨w.heap.size, 1, none⟩ = _ := gbc
                          have kbd : (wc.drewN nq).cell? ⟨w.heap.size + 1, 1, none⟩ = _ := kbc
                          have gsd : (wc.drewN nq).cell? ⟨bb, off + i * 129 + 1 + c, none⟩ = _ := gsc
                          have ksd : (wc.drewN nq).cell? ⟨cb, cff + j * 129 + 1 + c, none⟩ = _ := ksc
                          clear g0c k0c gbc kbc gsc ksc
                          generalize wc.drewN nq = wd at *
                          have wu : IntKind.u8.wrap (c : Int) = (c : Int) := wrap_u8 _ (by omega) (by omega)
                          have HCHR := Lib.hid (fun wx => rf_char' c (by omega) (c : Int) rfl wx)
                          have HNO := Lib.hid (fun (h : hitE X Y (UInt8.ofNat c) = false) => show bestTo X Y (tabF p q (i + 1) (j + 1)) none (c + 1) = bestTo X Y (tabF p q (i + 1) (j + 1)) none c from by rw [bestTo, if_neg (by rw [h]; simp)])
                          have HYES := Lib.hid (fun (h : hitE X Y (UInt8.ofNat c) = true) => show bestTo X Y (tabF p q (i + 1) (j + 1)) none (c + 1) = tryF (bestTo X Y (tabF p q (i + 1) (j + 1)) none c) [UInt8.ofNat c] (tabF p q (i + 1) (j + 1)) from by rw [bestTo, if_pos h])
                          have HLC := Lib.hid (HBL.out c hc)
                          have HHIT := Lib.hid (show hitE X Y (UInt8.ofNat c) = (isChar (UInt8.ofNat c) && (X.isStar || X.chars.contains (UInt8.ofNat c)) && (Y.isStar || Y.chars.contains (UInt8.ofNat c))) from rfl)
                          rw [hs1, hs2] at HHIT
                          generalize hbn : bestTo X Y (tabF p q (i + 1) (j + 1)) none (c + 1) = On at *
                          generalize bestTo X Y (tabF p q (i + 1) (j + 1)) none c = Oc at *
                          have HBN := Lib.hid hbn
                          clear hbn
                          generalize hitE X Y (UInt8.ofNat c) = hit at *
                          rcases hch : isChar (UInt8.ofNat c) with _ | _
                          · have HCC := Lib.hid hch
                            rw [hch] at HHIT
                            have HO := Lib.hid (HNO.out (by rw [HHIT.out]; simp))
                            clear HNO HYES HHIT hch
                            go_wp2_with ((go_at_call 17; (with_reducible refine (HCHR.out _).mono ?_); rintro e w' ⟨rfl, rfl⟩; rw [HCC.out]))
                            go_roundw
                            case rel => exact ⟨c + 1, by omega, by go_num, by rw [HBN.out, HO.out], by rw [HBN.out, HO.out], HBD.out⟩
                            case measure => simp [intOf] <;> omega
                          · have HCC := Lib.hid hch
                            rw [hch] at HHIT
                            clear hch
                            rcases hp1 : X.chars.contains (UInt8.ofNat c) with _ | _
                            · rw [hp1] at gsd HHIT
                              clear hp1
                              have HO := Lib.hid (HNO.out (by rw [HHIT.out]; simp))
                              clear HNO HYES HHIT 
                              go_wp2_with ((go_at_call 17; (with_reducible refine (HCHR.out _).mono ?_); rintro e w' ⟨rfl, rfl⟩; rw [HCC.out]))
                              go_roundw
                              case rel => exact ⟨c + 1, by omega, by go_num, by rw [HBN.out, HO.out], by rw [HBN.out, HO.out], HBD.out⟩
                              case measure => simp [intOf] <;> omega
                            · rw [hp1] at gsd HHIT
                              clear hp1
                              rcases hq1 : Y.chars.contains (UInt8.ofNat c) with _ | _
                              · rw [hq1] at ksd HHIT
                                clear hq1
                                have HO := Lib.hid (HNO.out (by rw [HHIT.out]; simp))
                                clear HNO HYES HHIT 
                                go_wp2_with ((go_at_call 17; (with_reducible refine (HCHR.out _).mono ?_); rintro e w' ⟨rfl, rfl⟩; rw [HCC.out]))
                                go_roundw
                                case rel => exact ⟨c + 1, by omega, by go_num, by rw [HBN.out, HO.out], by rw [HBN.out, HO.out], HBD.out⟩
                                case measure => simp [intOf] <;> omega
                              · rw [hq1] at ksd HHIT
                                clear hq1
                                have HO := Lib.hid (HYES.out (by rw [HHIT.out]; simp))
                                clear HNO HYES HHIT 
                                have hpl := HPL.out.below HBD.out
                                have pa := hpl.a; have pb := hpl.b; have pc := hpl.c; have pd := hpl.d
                                have HBS := Lib.hid (fun wx => show Calls Tryd.prog 20 #[.string (sOf Oc), .bool Oc.isSome, .string (⟨#[UInt8.ofNat c]⟩ ++ sOf (tabF p q (i + 1) (j + 1))), .bool (tabF p q (i + 1) (j + 1)).isSome] wx fun e w' => e = .returned (.tuple #[.string (sOf (tryF Oc [UInt8.ofNat c] (tabF p q (i + 1) (j + 1)))), .bool (tryF Oc [UInt8.ofNat c] (tabF p q (i + 1) (j + 1))).isSome]) ∧ wx = w' from by
                                  have h := rf_best Oc ((tabF p q (i + 1) (j + 1)).map (UInt8.ofNat c :: ·)) (⟨#[UInt8.ofNat c]⟩ ++ sOf (tabF p q (i + 1) (j + 1))) wx (hit_len HLC.out) (hit_txt _ _) (hit_size _ _ (tab_size9 hp hq _ _))
                                  rwa [← tryF_head, Option.isSome_map] at h)
                                have hlc := tab_size9 hp hq (i + 1) (j + 1)
                                have hsc : (sOf (tabF p q (i + 1) (j + 1))).size ≤ 900 := by rw [← toL_length, sOf_toL]; exact hlc
                                have x1 : IntKind.i64.wrap ((i : Int) + 1) = (i : Int) + 1 := IntWalk.i64_in _ (by omega)
                                have x2 : IntKind.i64.wrap ((j : Int) + 1) = (j : Int) + 1 := IntWalk.i64_in _ (by omega)
                                have hsd : (({ data := #[UInt8.ofNat c] } : ByteArray) ++ sOf (tabF p q (i + 1) (j + 1))).size ≤ 901 := by rw [ByteArray.size_append]; show 1 + _ ≤ 901; omega
                                have hcv := conv_hit 9 Tryd.underlying9 wd c (by omega)
                                have HKA := Lib.hid (hpl.below (w' := (wd.alloc (.cells #[.int .u8 (c : Int)] 5)).drew) ((Below.refl _ _).alloc (Nat.le_refl _) _).drew)
                                have HKB := Lib.hid (show Below wd.heap.size wd (wd.alloc (.cells #[.int .u8 (c : Int)] 5)).drew from ((Below.refl _ _).alloc (Nat.le_refl _) _).drew)
                                have n1 : (0 : Int) ≤ (i : Int) + 1 := by omega
                                have n2 : (0 : Int) ≤ (j : Int) + 1 := by omega
                                have n3 : (i : Int) + 1 < (p.length : Int) + 1 := by omega
                                have n4 : (j : Int) + 1 < (q.length : Int) + 1 := by omega
                                have n5 : ((i : Int) + 1).toNat = i + 1 := by omega
                                have n6 : ((j : Int) + 1).toNat = j + 1 := by omega
                                clear hpl hlc
                                go_upto_region 26 with ((go_at_call 17; (with_reducible refine (HCHR.out _).mono ?_); rintro e w' ⟨rfl, rfl⟩; rw [HCC.out]))
                                go_region_held (fun w' => w'.cell? ⟨rb, (i + 1), none⟩ = some (.slice (some ⟨(R (i + 1)), 0, none⟩) (q.length + 1) (q.length + 1)) ∧ w'.cell? ⟨sb, (i + 1), none⟩ = some (.slice (some ⟨(S (i + 1)), 0, none⟩) (q.length + 1) (q.length + 1)) ∧ w'.cell? ⟨(R (i + 1)), (j + 1), none⟩ = some (.string (sOf (tabF p q (i + 1) (j + 1)))) ∧ w'.cell? ⟨(S (i + 1)), (j + 1), none⟩ = some (.bool (tabF p q (i + 1) (j + 1)).isSome) ∧ Below wd.heap.size wd w')
                                  (first
                                    | exact ⟨pa, pb, pc, pd, (Below.refl _ _).drew⟩
                                    | exact ⟨HKA.out.a, HKA.out.b, HKA.out.c, HKA.out.d, HKB.out⟩)
                                  ((go_at_call 20; (with_reducible refine (HBS.out _).mono ?_); rintro e w' ⟨rfl, rfl⟩))
                                all_goals
                                  go_wp2_with fail
                                  go_roundw
                                  case rel => exact ⟨c + 1, by omega, by go_num, by rw [HBN.out, HO.out], by rw [HBN.out, HO.out], HBD.out.trans (HKB.out.mono HBD.out.size)⟩
                                  case measure => simp [intOf] <;> omega
                        · have c1 : (128 : Int) ≤ (c : Int) := by omega
                          obtain rfl : c = 128 := by omega
                          have HX := Lib.hid (show sOf (bestTo X Y (tabF p q (i + 1) (j + 1)) none 128) = sOf (tabF p q i j) from by rw [HTB.out])
                          have HB := Lib.hid (show (bestTo X Y (tabF p q (i + 1) (j + 1)) none 128).isSome = (tabF p q i j).isSome from by rw [HTB.out])
                          generalize bestTo X Y (tabF p q (i + 1) (j + 1)) none 128 = Oe at *
                          have HROW2 := Lib.hid (HROW.out.below HZ.out hbc)
                          have HZ2 := Lib.hid (Nat.le_trans HZ.out hbc.size)
                          clear HROW HZ HZ0 hbc HBC g0 k0 gb kb
                          have HROW := HROW2; have HZ := HZ2
                          clear HROW2 HZ2
                          have hh := here_at HN.out HROW.out hi
                          have ha := hh.a; have hb := hh.b
                          have hc := HROW.out.row.cell (Classical.choose_spec (pRow_at (stV (tabF p q i)) (.string ⟨#[]⟩) q.length (j + 1) j hj))
                          have hd := HROW.out.mark.cell (Classical.choose_spec (pRow_at (bV (tabF p q i)) (.bool false) q.length (j + 1) j hj))
                          have he := HROW.out.row.free j
                          have hf := HROW.out.mark.free j
                          have hg := HROW.out.row.lt
                          have hl := HROW.out.mark.lt
                          have hm := World.block_lt_of_cell? _ _ ha
                          have hn := World.block_lt_of_cell? _ _ hb
                          have hrs : r ≠ s := HROW.out.row.ne HROW.out.mark (by decide)
                          have hsr : s ≠ r := Ne.symm hrs
                          generalize Classical.choose (pRow_at (stV (tabF p q i)) (.string ⟨#[]⟩) q.length (j + 1) j hj) = zc at hc
                          generalize Classical.choose (pRow_at (bV (tabF p q i)) (.bool false) q.length (j + 1) j hj) = zd at hd
                          have HS1 := Lib.hid (HROW.out.put hj hVr hVs (sOf Oe) (Oe.isSome) HX.out HB.out).drew
                          have HS2 := Lib.hid (HROW.out.put' hj hVr hVs (sOf Oe) (Oe.isSome) HX.out HB.out).drew
                          clear hh HX HB HROW
                          go_upto_region 27 with fail
                          go_region
                          all_goals
                            go_wp2_with fail
                            go_roundw
                            case rel => first | exact ⟨j, by omega, rfl, HS1.out, by simpa using HZ.out⟩ | exact ⟨j, by omega, rfl, HS2.out, by simpa using HZ.out⟩
                            case measure => simp [intOf] <;> omega
                  · rw [hs2] at k0 HTB2
                    as_aux_lemma =>
                      have HLO := Lib.hid (show ((none : Option Bs).getD []).length ≤ 1000 from by simp)
                      have hpl := place_right HN.out HROW.out hi hjn
                      have pa := hpl.a; have pb := hpl.b; have pc := hpl.c; have pd := hpl.d
                      have HBST := Lib.hid (fun wx => rf_best (none) (tabF p q i (j + 1)) (sOf (tabF p q i (j + 1))) wx (by first | (simp; done) | exact HLEN.out _ _ | exact HLO.out) (fun t ht => by rw [sOf_toL, ht]; rfl) (by rw [← toL_length, sOf_toL]; exact HLEN.out _ _))
                      clear hpl
                      have x1 : IntKind.i64.wrap ((i : Int) + 1) = (i : Int) + 1 := IntWalk.i64_in _ (by omega)
                      have x2 : IntKind.i64.wrap ((j : Int) + 1) = (j : Int) + 1 := IntWalk.i64_in _ (by omega)
                      go_upto_region 15 with fail
                      go_quiet ((go_at_call 20; exact quiet_left' (HBST.out _)))
                      clear pa pb pc pd HBST x1 x2
                      have HROW2 := Lib.hid (HROW.out.drewN nq)
                      have HZ2 := Lib.hid (show W1.heap.size ≤ (wi.drewN nq).heap.size from HZ.out)
                      have g0' : (wi.drewN nq).cell? ⟨bb, off + i * 129, none⟩ = some (.bool false) := g0
                      have k0' : (wi.drewN nq).cell? ⟨cb, cff + j * 129, none⟩ = some (.bool true) := k0
                      have gb' : (wi.drewN nq).cell? ⟨w.heap.size, 1, none⟩ = _ := gb
                      have kb' : (wi.drewN nq).cell? ⟨w.heap.size + 1, 1, none⟩ = _ := kb
                      have HGJ' := Lib.hid (show ∀ j', j' < 128 → (wi.drewN nq).cell? ⟨bb, off + i * 129 + 1 + j', none⟩ = _ from HGJ.out)
                      have HKJ' := Lib.hid (show ∀ j', j' < 128 → (wi.drewN nq).cell? ⟨cb, cff + j * 129 + 1 + j', none⟩ = _ from HKJ.out)
                      clear HROW HZ g0 k0 gb kb HGJ HKJ
                      have HROW := HROW2; have HZ := HZ2; have g0 := g0'; have k0 := k0'; have gb := gb'; have kb := kb'; have HGJ := HGJ'; have HKJ := HKJ'
                      clear HROW2 HZ2 g0' k0' gb' kb' HGJ' HKJ'
                      generalize wi.drewN nq = wb at *
                      have HZ0 := HZ
                      go_wp2_with fail
                      have HTB := Lib.hid (show tabF p q i j = bestTo X Y (tabF p q (i + 1) j) (tryF none [] (tabF p q i (j + 1))) 128 from HTB2.out rfl)
                      have HPL := Lib.hid (place_down j HN.out HRl.out HSl.out HROW.out hin hj)
                      have HBL := Lib.hid (fun c (hc : c ≤ 128) => best_len (x := X) (y := Y) (r := tabF p q (i + 1) j) (cur := (tryF none [] (tabF p q i (j + 1)))) (n := 900) (fun s hs => by have := HLEN.out i j; exact Nat.le_trans (try_len_le hs (by intro s h; first | cases h | (rw [tryF_none] at h; have := tab_len p q _ _ s h; omega)) (fun s h => by have := tab_len p q _ _ s h; omega)) (by omega)) (fun s hs => by have := tab_len p q _ _ s hs; omega) c)
                      clear HTB1 HTB2
                      go_loopw [12, 13, 14] (fun v12 v13 v14 wr => ∃ c : Nat, c ≤ 128 ∧ v14 = .int .i64 (c : Int) ∧ v12 = .string (sOf (bestTo X Y (tabF p q (i + 1) j) (tryF none [] (tabF p q i (j + 1))) c)) ∧ v13 = .bool (bestTo X Y (tabF p q (i + 1) j) (tryF none [] (tabF p q i (j + 1))) c).isSome ∧ Below wb.heap.size wb wr) (fun _ _ v14 _ => 128 - (intOf v14).toNat)
                      case atStart => exact ⟨0, by omega, rfl, by rw [bestTo], by rw [bestTo], Below.refl _ _⟩
                      case round =>
                        obtain ⟨c, hc, rfl, rfl, rfl, hbc⟩ := hrel
                        obtain ⟨wc, rfl⟩ : ∃ wc : World, wc = wr := ⟨_, rfl⟩
                        have HBC := Lib.hid hbc
                        by_cases hc1 : c < 128
                        · have c0 : (0 : Int) ≤ (c : Int) := by omega
                          have c1 : (c : Int) < 128 := by omega
                          have g0c := (hbc.cell (p := ⟨bb, off + i * 129, none⟩) (World.block_lt_of_cell? _ _ g0)).trans g0
                          have k0c := (hbc.cell (p := ⟨cb, cff + j * 129, none⟩) (World.block_lt_of_cell? _ _ k0)).trans k0
                          have gbc := (hbc.cell (p := ⟨w.heap.size, 1, none⟩) (World.block_lt_of_cell? _ _ gb)).trans gb
                          have kbc := (hbc.cell (p := ⟨w.heap.size + 1, 1, none⟩) (World.block_lt_of_cell? _ _ kb)).trans kb
                          have gsc := (hbc.cell (p := ⟨bb, off + i * 129 + 1 + c, none⟩) (World.block_lt_of_cell? _ _ (HGJ.out c hc1))).trans (HGJ.out c hc1)
                          rw [emFn_nat hs1] at gsc
                          clear hbc
                          go_upto_region 19 with fail
                          go_quiet (fail)
                          have HBD := Lib.hid (below_drewN HBC.out nq)
                          have gbd : (wc.drewN nq).cell? ⟨w.heap.size, 1, none⟩ = _ := gbc
                          have kbd : (wc.drewN nq).cell? ⟨w.heap.size + 1, 1, none⟩ = _ := kbc
                          have gsd : (wc.drewN nq).cell? ⟨bb, off + i * 129 + 1 + c, none⟩ = _ := gsc
                          clear g0c k0c gbc kbc gsc
                          generalize wc.drewN nq = wd at *
                          have wu : IntKind.u8.wrap (c : Int) = (c : Int) := wrap_u8 _ (by omega) (by omega)
                          have HCHR := Lib.hid (fun wx => rf_char' c (by omega) (c : Int) rfl wx)
                          have HNO := Lib.hid (fun (h : hitE X Y (UInt8.ofNat c) = false) => show bestTo X Y (tabF p q (i + 1) j) (tryF none [] (tabF p q i (j + 1))) (c + 1) = bestTo X Y (tabF p q (i + 1) j) (tryF none [] (tabF p q i (j + 1))) c from by rw [bestTo, if_neg (by rw [h]; simp)])
                          have HYES := Lib.hid (fun (h : hitE X Y (UInt8.ofNat c) = true) => show bestTo X Y (tabF p q (i + 1) j) (tryF none [] (tabF p q i (j + 1))) (c + 1) = tryF (bestTo X Y (tabF p q (i + 1) j) (tryF none [] (tabF p q i (j + 1))) c) [UInt8.ofNat c] (tabF p q (i + 1) j) from by rw [bestTo, if_pos h])
                          have HLC := Lib.hid (HBL.out c hc)
                          have HHIT := Lib.hid (show hitE X Y (UInt8.ofNat c) = (isChar (UInt8.ofNat c) && (X.isStar || X.chars.contains (UInt8.ofNat c)) && (Y.isStar || Y.chars.contains (UInt8.ofNat c))) from rfl)
                          rw [hs1, hs2] at HHIT
                          generalize hbn : bestTo X Y (tabF p q (i + 1) j) (tryF none [] (tabF p q i (j + 1))) (c + 1) = On at *
                          generalize bestTo X Y (tabF p q (i + 1) j) (tryF none [] (tabF p q i (j + 1))) c = Oc at *
                          have HBN := Lib.hid hbn
                          clear hbn
                          generalize hitE X Y (UInt8.ofNat c) = hit at *
                          rcases hch : isChar (UInt8.ofNat c) with _ | _
                          · have HCC := Lib.hid hch
                            rw [hch] at HHIT
                            have HO := Lib.hid (HNO.out (by rw [HHIT.out]; simp))
                            clear HNO HYES HHIT hch
                            go_wp2_with ((go_at_call 17; (with_reducible refine (HCHR.out _).mono ?_); rintro e w' ⟨rfl, rfl⟩; rw [HCC.out]))
                            go_roundw
                            case rel => exact ⟨c + 1, by omega, by go_num, by rw [HBN.out, HO.out], by rw [HBN.out, HO.out], HBD.out⟩
                            case measure => simp [intOf] <;> omega
                          · have HCC := Lib.hid hch
                            rw [hch] at HHIT
                            clear hch
                            rcases hp1 : X.chars.contains (UInt8.ofNat c) with _ | _
                            · rw [hp1] at gsd HHIT
                              clear hp1
                              have HO := Lib.hid (HNO.out (by rw [HHIT.out]; simp))
                              clear HNO HYES HHIT 
                              go_wp2_with ((go_at_call 17; (with_reducible refine (HCHR.out _).mono ?_); rintro e w' ⟨rfl, rfl⟩; rw [HCC.out]))
                              go_roundw
                              case rel => exact ⟨c + 1, by omega, by go_num, by rw [HBN.out, HO.out], by rw [HBN.out, HO.out], HBD.out⟩
                              case measure => simp [intOf] <;> omega
                            · rw [hp1] at gsd HHIT
                              clear hp1
                              have HO := Lib.hid (HYES.out (by rw [HHIT.out]; simp))
                              clear HNO HYES HHIT 
                              have hpl := HPL.out.below HBD.out
                              have pa := hpl.a; have pb := hpl.b; have pc := hpl.c; have pd := hpl.d
                              have HBS := Lib.hid (fun wx => show Calls Tryd.prog 20 #[.string (sOf Oc), .bool Oc.isSome, .string (⟨#[UInt8.ofNat c]⟩ ++ sOf (tabF p q (i + 1) j)), .bool (tabF p q (i + 1) j).isSome] wx fun e w' => e = .returned (.tuple #[.string (sOf (tryF Oc [UInt8.ofNat c] (tabF p q (i + 1) j))), .bool (tryF Oc [UInt8.ofNat c] (tabF p q (i + 1) j)).isSome]) ∧ wx = w' from by
                                have h := rf_best Oc ((tabF p q (i + 1) j).map (UInt8.ofNat c :: ·)) (⟨#[UInt8.ofNat c]⟩ ++ sOf (tabF p q (i + 1) j)) wx (hit_len HLC.out) (hit_txt _ _) (hit_size _ _ (tab_size9 hp hq _ _))
                                rwa [← tryF_head, Option.isSome_map] at h)
                              have hlc := tab_size9 hp hq (i + 1) j
                              have hsc : (sOf (tabF p q (i + 1) j)).size ≤ 900 := by rw [← toL_length, sOf_toL]; exact hlc
                              have x1 : IntKind.i64.wrap ((i : Int) + 1) = (i : Int) + 1 := IntWalk.i64_in _ (by omega)
                              have x2 : IntKind.i64.wrap ((j : Int) + 1) = (j : Int) + 1 := IntWalk.i64_in _ (by omega)
                              have hsd : (({ data := #[UInt8.ofNat c] } : ByteArray) ++ sOf (tabF p q (i + 1) j)).size ≤ 901 := by rw [ByteArray.size_append]; show 1 + _ ≤ 901; omega
                              have hcv := conv_hit 9 Tryd.underlying9 wd c (by omega)
                              have HKA := Lib.hid (hpl.below (w' := (wd.alloc (.cells #[.int .u8 (c : Int)] 5)).drew) ((Below.refl _ _).alloc (Nat.le_refl _) _).drew)
                              have HKB := Lib.hid (show Below wd.heap.size wd (wd.alloc (.cells #[.int .u8 (c : Int)] 5)).drew from ((Below.refl _ _).alloc (Nat.le_refl _) _).drew)
                              have n1 : (0 : Int) ≤ (i : Int) + 1 := by omega
                              have n2 : (0 : Int) ≤ (j : Int) + 1 := by omega
                              have n3 : (i : Int) + 1 < (p.length : Int) + 1 := by omega
                              have n4 : (j : Int) + 1 < (q.length : Int) + 1 := by omega
                              have n5 : ((i : Int) + 1).toNat = i + 1 := by omega
                              have n6 : ((j : Int) + 1).toNat = j + 1 := by omega
                              clear hpl hlc
                              go_upto_region 26 with ((go_at_call 17; (with_reducible refine (HCHR.out _).mono ?_); rintro e w' ⟨rfl, rfl⟩; rw [HCC.out]))
                              go_region_held (fun w' => w'.cell? ⟨rb, (i + 1), none⟩ = some (.slice (some ⟨(R (i + 1)), 0, none⟩) (q.length + 1) (q.length + 1)) ∧ w'.cell? ⟨sb, (i + 1), none⟩ = some (.slice (some ⟨(S (i + 1)), 0, none⟩) (q.length + 1) (q.length + 1)) ∧ w'.cell? ⟨(R (i + 1)), j, none⟩ = some (.string (sOf (tabF p q (i + 1) j))) ∧ w'.cell? ⟨(S (i + 1)), j, none⟩ = some (.bool (tabF p q (i + 1) j).isSome) ∧ Below wd.heap.size wd w')
                                (first
                                  | exact ⟨pa, pb, pc, pd, (Below.refl _ _).drew⟩
                                  | exact ⟨HKA.out.a, HKA.out.b, HKA.out.c, HKA.out.d, HKB.out⟩)
                                ((go_at_call 20; (with_reducible refine (HBS.out _).mono ?_); rintro e w' ⟨rfl, rfl⟩))
                              all_goals
                                go_wp2_with fail
                                go_roundw
                                case rel => exact ⟨c + 1, by omega, by go_num, by rw [HBN.out, HO.out], by rw [HBN.out, HO.out], HBD.out.trans (HKB.out.mono HBD.out.size)⟩
                                case measure => simp [intOf] <;> omega
                        · have c1 : (128 : Int) ≤ (c : Int) := by omega
                          obtain rfl : c = 128 := by omega
                          have HX := Lib.hid (show sOf (bestTo X Y (tabF p q (i + 1) j) (tryF none [] (tabF p q i (j + 1))) 128) = sOf (tabF p q i j) from by rw [HTB.out])
                          have HB := Lib.hid (show (bestTo X Y (tabF p q (i + 1) j) (tryF none [] (tabF p q i (j + 1))) 128).isSome = (tabF p q i j).isSome from by rw [HTB.out])
                          generalize bestTo X Y (tabF p q (i + 1) j) (tryF none [] (tabF p q i (j + 1))) 128 = Oe at *
                          have HROW2 := Lib.hid (HROW.out.below HZ.out hbc)
                          have HZ2 := Lib.hid (Nat.le_trans HZ.out hbc.size)
                          clear HROW HZ HZ0 hbc HBC g0 k0 gb kb
                          have HROW := HROW2; have HZ := HZ2
                          clear HROW2 HZ2
                          have hh := here_at HN.out HROW.out hi
                          have ha := hh.a; have hb := hh.b
                          have hc := HROW.out.row.cell (Classical.choose_spec (pRow_at (stV (tabF p q i)) (.string ⟨#[]⟩) q.length (j + 1) j hj))
                          have hd := HROW.out.mark.cell (Classical.choose_spec (pRow_at (bV (tabF p q i)) (.bool false) q.length (j + 1) j hj))
                          have he := HROW.out.row.free j
                          have hf := HROW.out.mark.free j
                          have hg := HROW.out.row.lt
                          have hl := HROW.out.mark.lt
                          have hm := World.block_lt_of_cell? _ _ ha
                          have hn := World.block_lt_of_cell? _ _ hb
                          have hrs : r ≠ s := HROW.out.row.ne HROW.out.mark (by decide)
                          have hsr : s ≠ r := Ne.symm hrs
                          generalize Classical.choose (pRow_at (stV (tabF p q i)) (.string ⟨#[]⟩) q.length (j + 1) j hj) = zc at hc
                          generalize Classical.choose (pRow_at (bV (tabF p q i)) (.bool false) q.length (j + 1) j hj) = zd at hd
                          have HS1 := Lib.hid (HROW.out.put hj hVr hVs (sOf Oe) (Oe.isSome) HX.out HB.out).drew
                          have HS2 := Lib.hid (HROW.out.put' hj hVr hVs (sOf Oe) (Oe.isSome) HX.out HB.out).drew
                          clear hh HX HB HROW
                          go_upto_region 27 with fail
                          go_region
                          all_goals
                            go_wp2_with fail
                            go_roundw
                            case rel => first | exact ⟨j, by omega, rfl, HS1.out, by simpa using HZ.out⟩ | exact ⟨j, by omega, rfl, HS2.out, by simpa using HZ.out⟩
                            case measure => simp [intOf] <;> omega
                · rw [hs1] at g0 HTB2
                  rcases hs2 : Y.isStar with _ | _
                  · rw [hs2] at k0 HTB2
                    as_aux_lemma =>
                      have hpl := place_down j HN.out HRl.out HSl.out HROW.out hin hj
                      have pa := hpl.a; have pb := hpl.b; have pc := hpl.c; have pd := hpl.d
                      have HBST := Lib.hid (fun wx => rf_best (none) (tabF p q (i + 1) j) (sOf (tabF p q (i + 1) j)) wx (by first | (simp; done) | exact HLEN.out _ _ | exact HLO.out) (fun t ht => by rw [sOf_toL, ht]; rfl) (by rw [← toL_length, sOf_toL]; exact HLEN.out _ _))
                      clear hpl
                      have x1 : IntKind.i64.wrap ((i : Int) + 1) = (i : Int) + 1 := IntWalk.i64_in _ (by omega)
                      have x2 : IntKind.i64.wrap ((j : Int) + 1) = (j : Int) + 1 := IntWalk.i64_in _ (by omega)
                      go_upto_region 13 with fail
                      go_quiet ((go_at_call 20; exact quiet_left' (HBST.out _)))
                      clear pa pb pc pd HBST x1 x2
                      have HROW2 := Lib.hid (HROW.out.drewN nq)
                      have HZ2 := Lib.hid (show W1.heap.size ≤ (wi.drewN nq).heap.size from HZ.out)
                      have g0' : (wi.drewN nq).cell? ⟨bb, off + i * 129, none⟩ = some (.bool true) := g0
                      have k0' : (wi.drewN nq).cell? ⟨cb, cff + j * 129, none⟩ = some (.bool false) := k0
                      have gb' : (wi.drewN nq).cell? ⟨w.heap.size, 1, none⟩ = _ := gb
                      have kb' : (wi.drewN nq).cell? ⟨w.heap.size + 1, 1, none⟩ = _ := kb
                      have HGJ' := Lib.hid (show ∀ j', j' < 128 → (wi.drewN nq).cell? ⟨bb, off + i * 129 + 1 + j', none⟩ = _ from HGJ.out)
                      have HKJ' := Lib.hid (show ∀ j', j' < 128 → (wi.drewN nq).cell? ⟨cb, cff + j * 129 + 1 + j', none⟩ = _ from HKJ.out)
                      clear HROW HZ g0 k0 gb kb HGJ HKJ
                      have HROW := HROW2; have HZ := HZ2; have g0 := g0'; have k0 := k0'; have gb := gb'; have kb := kb'; have HGJ := HGJ'; have HKJ := HKJ'
                      clear HROW2 HZ2 g0' k0' gb' kb' HGJ' HKJ'
                      generalize wi.drewN nq = wa at *
                      have HZ0 := HZ
                      go_wp2_with fail
                      have HTB := Lib.hid (show tabF p q i j = bestTo X Y (tabF p q i (j + 1)) (tryF none [] (tabF p q (i + 1) j)) 128 from HTB2.out rfl)
                      have HPL := Lib.hid (place_right HN.out HROW.out hi hjn)
                      have HBL := Lib.hid (fun c (hc : c ≤ 128) => best_len (x := X) (y := Y) (r := tabF p q i (j + 1)) (cur := (tryF none [] (tabF p q (i + 1) j))) (n := 900) (fun s hs => by have := HLEN.out i j; exact Nat.le_trans (try_len_le hs (by intro s h; first | cases h | (rw [tryF_none] at h; have := tab_len p q _ _ s h; omega)) (fun s h => by have := tab_len p q _ _ s h; omega)) (by omega)) (fun s hs => by have := tab_len p q _ _ s hs; omega) c)
                      clear HTB1 HTB2
                      go_loopw [12, 13, 14] (fun v12 v13 v14 wr => ∃ c : Nat, c ≤ 128 ∧ v14 = .int .i64 (c : Int) ∧ v12 = .string (sOf (bestTo X Y (tabF p q i (j + 1)) (tryF none [] (tabF p q (i + 1) j)) c)) ∧ v13 = .bool (bestTo X Y (tabF p q i (j + 1)) (tryF none [] (tabF p q (i + 1) j)) c).isSome ∧ Below wa.heap.size wa wr) (fun _ _ v14 _ => 128 - (intOf v14).toNat)
                      case atStart => exact ⟨0, by omega, rfl, by rw [bestTo], by rw [bestTo], Below.refl _ _⟩
                      case round =>
                        obtain ⟨c, hc, rfl, rfl, rfl, hbc⟩ := hrel
                        obtain ⟨wc, rfl⟩ : ∃ wc : World, wc = wr := ⟨_, rfl⟩
                        have HBC := Lib.hid hbc
                        by_cases hc1 : c < 128
                        · have c0 : (0 : Int) ≤ (c : Int) := by omega
                          have c1 : (c : Int) < 128 := by omega
                          have g0c := (hbc.cell (p := ⟨bb, off + i * 129, none⟩) (World.block_lt_of_cell? _ _ g0)).trans g0
                          have k0c := (hbc.cell (p := ⟨cb, cff + j * 129, none⟩) (World.block_lt_of_cell? _ _ k0)).trans k0
                          have gbc := (hbc.cell (p := ⟨w.heap.size, 1, none⟩) (World.block_lt_of_cell? _ _ gb)).trans gb
                          have kbc := (hbc.cell (p := ⟨w.heap.size + 1, 1, none⟩) (World.block_lt_of_cell? _ _ kb)).trans kb
                          have ksc := (hbc.cell (p := ⟨cb, cff + j * 129 + 1 + c, none⟩) (World.block_lt_of_cell? _ _ (HKJ.out c hc1))).trans (HKJ.out c hc1)
                          rw [emFn_nat hs2] at ksc
                          clear hbc
                          go_upto_region 19 with fail
                          go_quiet (fail)
                          have HBD := Lib.hid (below_drewN HBC.out nq)
                          have gbd : (wc.drewN nq).cell? ⟨w.heap.size, 1, none⟩ = _ := gbc
                          have kbd : (wc.drewN nq).cell? ⟨w.heap.size + 1, 1, none⟩ = _ := kbc
                          have ksd : (wc.drewN nq).cell? ⟨cb, cff + j * 129 + 1 + c, none⟩ = _ := ksc
                          clear g0c k0c gbc kbc ksc
                          generalize wc.drewN nq = wd at *
                          have wu : IntKind.u8.wrap (c : Int) = (c : Int) := wrap_u8 _ (by omega) (by omega)
                          have HCHR := Lib.hid (fun wx => rf_char' c (by omega) (c : Int) rfl wx)
                          have HNO := Lib.hid (fun (h : hitE X Y (UInt8.ofNat c) = false) => show bestTo X Y (tabF p q i (j + 1)) (tryF none [] (tabF p q (i + 1) j)) (c + 1) = bestTo X Y (tabF p q i (j + 1)) (tryF none [] (tabF p q (i + 1) j)) c from by rw [bestTo, if_neg (by rw [h]; simp)])
                          have HYES := Lib.hid (fun (h : hitE X Y (UInt8.ofNat c) = true) => show bestTo X Y (tabF p q i (j + 1)) (tryF none [] (tabF p q (i + 1) j)) (c + 1) = tryF (bestTo X Y (tabF p q i (j + 1)) (tryF none [] (tabF p q (i + 1) j)) c) [UInt8.ofNat c] (tabF p q i (j + 1)) from by rw [bestTo, if_pos h])
                          have HLC := Lib.hid (HBL.out c hc)
                          have HHIT := Lib.hid (show hitE X Y (UInt8.ofNat c) = (isChar (UInt8.ofNat c) && (X.isStar || X.chars.contains (UInt8.ofNat c)) && (Y.isStar || Y.chars.contains (UInt8.ofNat c))) from rfl)
                          rw [hs1, hs2] at HHIT
                          generalize hbn : bestTo X Y (tabF p q i (j + 1)) (tryF none [] (tabF p q (i + 1) j)) (c + 1) = On at *
                          generalize bestTo X Y (tabF p q i (j + 1)) (tryF none [] (tabF p q (i + 1) j)) c = Oc at *
                          have HBN := Lib.hid hbn
                          clear hbn
                          generalize hitE X Y (UInt8.ofNat c) = hit at *
                          rcases hch : isChar (UInt8.ofNat c) with _ | _
                          · have HCC := Lib.hid hch
                            rw [hch] at HHIT
                            have HO := Lib.hid (HNO.out (by rw [HHIT.out]; simp))
                            clear HNO HYES HHIT hch
                            go_wp2_with ((go_at_call 17; (with_reducible refine (HCHR.out _).mono ?_); rintro e w' ⟨rfl, rfl⟩; rw [HCC.out]))
                            go_roundw
                            case rel => exact ⟨c + 1, by omega, by go_num, by rw [HBN.out, HO.out], by rw [HBN.out, HO.out], HBD.out⟩
                            case measure => simp [intOf] <;> omega
                          · have HCC := Lib.hid hch
                            rw [hch] at HHIT
                            clear hch
                            rcases hq1 : Y.chars.contains (UInt8.ofNat c) with _ | _
                            · rw [hq1] at ksd HHIT
                              clear hq1
                              have HO := Lib.hid (HNO.out (by rw [HHIT.out]; simp))
                              clear HNO HYES HHIT 
                              go_wp2_with ((go_at_call 17; (with_reducible refine (HCHR.out _).mono ?_); rintro e w' ⟨rfl, rfl⟩; rw [HCC.out]))
                              go_roundw
                              case rel => exact ⟨c + 1, by omega, by go_num, by rw [HBN.out, HO.out], by rw [HBN.out, HO.out], HBD.out⟩
                              case measure => simp [intOf] <;> omega
                            · rw [hq1] at ksd HHIT
                              clear hq1
                              have HO := Lib.hid (HYES.out (by rw [HHIT.out]; simp))
                              clear HNO HYES HHIT 
                              have hpl := HPL.out.below HBD.out
                              have pa := hpl.a; have pb := hpl.b; have pc := hpl.c; have pd := hpl.d
                              have HBS := Lib.hid (fun wx => show Calls Tryd.prog 20 #[.string (sOf Oc), .bool Oc.isSome, .string (⟨#[UInt8.ofNat c]⟩ ++ sOf (tabF p q i (j + 1))), .bool (tabF p q i (j + 1)).isSome] wx fun e w' => e = .returned (.tuple #[.string (sOf (tryF Oc [UInt8.ofNat c] (tabF p q i (j + 1)))), .bool (tryF Oc [UInt8.ofNat c] (tabF p q i (j + 1))).isSome]) ∧ wx = w' from by
                                have h := rf_best Oc ((tabF p q i (j + 1)).map (UInt8.ofNat c :: ·)) (⟨#[UInt8.ofNat c]⟩ ++ sOf (tabF p q i (j + 1))) wx (hit_len HLC.out) (hit_txt _ _) (hit_size _ _ (tab_size9 hp hq _ _))
                                rwa [← tryF_head, Option.isSome_map] at h)
                              have hlc := tab_size9 hp hq i (j + 1)
                              have hsc : (sOf (tabF p q i (j + 1))).size ≤ 900 := by rw [← toL_length, sOf_toL]; exact hlc
                              have x1 : IntKind.i64.wrap ((i : Int) + 1) = (i : Int) + 1 := IntWalk.i64_in _ (by omega)
                              have x2 : IntKind.i64.wrap ((j : Int) + 1) = (j : Int) + 1 := IntWalk.i64_in _ (by omega)
                              have hsd : (({ data := #[UInt8.ofNat c] } : ByteArray) ++ sOf (tabF p q i (j + 1))).size ≤ 901 := by rw [ByteArray.size_append]; show 1 + _ ≤ 901; omega
                              have hcv := conv_hit 9 Tryd.underlying9 wd c (by omega)
                              have HKA := Lib.hid (hpl.below (w' := (wd.alloc (.cells #[.int .u8 (c : Int)] 5)).drew) ((Below.refl _ _).alloc (Nat.le_refl _) _).drew)
                              have HKB := Lib.hid (show Below wd.heap.size wd (wd.alloc (.cells #[.int .u8 (c : Int)] 5)).drew from ((Below.refl _ _).alloc (Nat.le_refl _) _).drew)
                              have n1 : (0 : Int) ≤ (i : Int) + 1 := by omega
                              have n2 : (0 : Int) ≤ (j : Int) + 1 := by omega
                              have n3 : (i : Int) + 1 < (p.length : Int) + 1 := by omega
                              have n4 : (j : Int) + 1 < (q.length : Int) + 1 := by omega
                              have n5 : ((i : Int) + 1).toNat = i + 1 := by omega
                              have n6 : ((j : Int) + 1).toNat = j + 1 := by omega
                              clear hpl hlc
                              go_upto_region 26 with ((go_at_call 17; (with_reducible refine (HCHR.out _).mono ?_); rintro e w' ⟨rfl, rfl⟩; rw [HCC.out]))
                              go_region_held (fun w' => w'.cell? ⟨rb, i, none⟩ = some (.slice (some ⟨r, 0, none⟩) (q.length + 1) (q.length + 1)) ∧ w'.cell? ⟨sb, i, none⟩ = some (.slice (some ⟨s, 0, none⟩) (q.length + 1) (q.length + 1)) ∧ w'.cell? ⟨r, (j + 1), none⟩ = some (.string (sOf (tabF p q i (j + 1)))) ∧ w'.cell? ⟨s, (j + 1), none⟩ = some (.bool (tabF p q i (j + 1)).isSome) ∧ Below wd.heap.size wd w')
                                (first
                                  | exact ⟨pa, pb, pc, pd, (Below.refl _ _).drew⟩
                                  | exact ⟨HKA.out.a, HKA.out.b, HKA.out.c, HKA.out.d, HKB.out⟩)
                                ((go_at_call 20; (with_reducible refine (HBS.out _).mono ?_); rintro e w' ⟨rfl, rfl⟩))
                              all_goals
                                go_wp2_with fail
                                go_roundw
                                case rel => exact ⟨c + 1, by omega, by go_num, by rw [HBN.out, HO.out], by rw [HBN.out, HO.out], HBD.out.trans (HKB.out.mono HBD.out.size)⟩
                                case measure => simp [intOf] <;> omega
                        · have c1 : (128 : Int) ≤ (c : Int) := by omega
                          obtain rfl : c = 128 := by omega
                          have HX := Lib.hid (show sOf (bestTo X Y (tabF p q i (j + 1)) (tryF none [] (tabF p q (i + 1) j)) 128) = sOf (tabF p q i j) from by rw [HTB.out])
                          have HB := Lib.hid (show (bestTo X Y (tabF p q i (j + 1)) (tryF none [] (tabF p q (i + 1) j)) 128).isSome = (tabF p q i j).isSome from by rw [HTB.out])
                          generalize bestTo X Y (tabF p q i (j + 1)) (tryF none [] (tabF p q (i + 1) j)) 128 = Oe at *
                          have HROW2 := Lib.hid (HROW.out.below HZ.out hbc)
                          have HZ2 := Lib.hid (Nat.le_trans HZ.out hbc.size)
                          clear HROW HZ HZ0 hbc HBC g0 k0 gb kb
                          have HROW := HROW2; have HZ := HZ2
                          clear HROW2 HZ2
                          have hh := here_at HN.out HROW.out hi
                          have ha := hh.a; have hb := hh.b
                          have hc := HROW.out.row.cell (Classical.choose_spec (pRow_at (stV (tabF p q i)) (.string ⟨#[]⟩) q.length (j + 1) j hj))
                          have hd := HROW.out.mark.cell (Classical.choose_spec (pRow_at (bV (tabF p q i)) (.bool false) q.length (j + 1) j hj))
                          have he := HROW.out.row.free j
                          have hf := HROW.out.mark.free j
                          have hg := HROW.out.row.lt
                          have hl := HROW.out.mark.lt
                          have hm := World.block_lt_of_cell? _ _ ha
                          have hn := World.block_lt_of_cell? _ _ hb
                          have hrs : r ≠ s := HROW.out.row.ne HROW.out.mark (by decide)
                          have hsr : s ≠ r := Ne.symm hrs
                          generalize Classical.choose (pRow_at (stV (tabF p q i)) (.string ⟨#[]⟩) q.length (j + 1) j hj) = zc at hc
                          generalize Classical.choose (pRow_at (bV (tabF p q i)) (.bool false) q.length (j + 1) j hj) = zd at hd
                          have HS1 := Lib.hid (HROW.out.put hj hVr hVs (sOf Oe) (Oe.isSome) HX.out HB.out).drew
                          have HS2 := Lib.hid (HROW.out.put' hj hVr hVs (sOf Oe) (Oe.isSome) HX.out HB.out).drew
                          clear hh HX HB HROW
                          go_upto_region 27 with fail
                          go_region
                          all_goals
                            go_wp2_with fail
                            go_roundw
                            case rel => first | exact ⟨j, by omega, rfl, HS1.out, by simpa using HZ.out⟩ | exact ⟨j, by omega, rfl, HS2.out, by simpa using HZ.out⟩
                            case measure => simp [intOf] <;> omega
                  · rw [hs2] at k0 HTB2
                    as_aux_lemma =>
                      have hpl := place_down j HN.out HRl.out HSl.out HROW.out hin hj
                      have pa := hpl.a; have pb := hpl.b; have pc := hpl.c; have pd := hpl.d
                      have HBST := Lib.hid (fun wx => rf_best (none) (tabF p q (i + 1) j) (sOf (tabF p q (i + 1) j)) wx (by first | (simp; done) | exact HLEN.out _ _ | exact HLO.out) (fun t ht => by rw [sOf_toL, ht]; rfl) (by rw [← toL_length, sOf_toL]; exact HLEN.out _ _))
                      clear hpl
                      have x1 : IntKind.i64.wrap ((i : Int) + 1) = (i : Int) + 1 := IntWalk.i64_in _ (by omega)
                      have x2 : IntKind.i64.wrap ((j : Int) + 1) = (j : Int) + 1 := IntWalk.i64_in _ (by omega)
                      go_upto_region 13 with fail
                      go_quiet ((go_at_call 20; exact quiet_left' (HBST.out _)))
                      clear pa pb pc pd HBST x1 x2
                      have HROW2 := Lib.hid (HROW.out.drewN nq)
                      have HZ2 := Lib.hid (show W1.heap.size ≤ (wi.drewN nq).heap.size from HZ.out)
                      have g0' : (wi.drewN nq).cell? ⟨bb, off + i * 129, none⟩ = some (.bool true) := g0
                      have k0' : (wi.drewN nq).cell? ⟨cb, cff + j * 129, none⟩ = some (.bool true) := k0
                      have gb' : (wi.drewN nq).cell? ⟨w.heap.size, 1, none⟩ = _ := gb
                      have kb' : (wi.drewN nq).cell? ⟨w.heap.size + 1, 1, none⟩ = _ := kb
                      have HGJ' := Lib.hid (show ∀ j', j' < 128 → (wi.drewN nq).cell? ⟨bb, off + i * 129 + 1 + j', none⟩ = _ from HGJ.out)
                      have HKJ' := Lib.hid (show ∀ j', j' < 128 → (wi.drewN nq).cell? ⟨cb, cff + j * 129 + 1 + j', none⟩ = _ from HKJ.out)
                      clear HROW HZ g0 k0 gb kb HGJ HKJ
                      have HROW := HROW2; have HZ := HZ2; have g0 := g0'; have k0 := k0'; have gb := gb'; have kb := kb'; have HGJ := HGJ'; have HKJ := HKJ'
                      clear HROW2 HZ2 g0' k0' gb' kb' HGJ' HKJ'
                      generalize wi.drewN nq = wa at *
                      have HLO := Lib.hid (show (((tryF none [] (tabF p q (i + 1) j)) : Option Bs).getD []).length ≤ 1000 from by rw [tryF_none]; exact HLEN.out _ _)
                      have hpl := place_right HN.out HROW.out hi hjn
                      have pa := hpl.a; have pb := hpl.b; have pc := hpl.c; have pd := hpl.d
                      have HBST := Lib.hid (fun wx => rf_best ((tryF none [] (tabF p q (i + 1) j))) (tabF p q i (j + 1)) (sOf (tabF p q i (j + 1))) wx (by first | (simp; done) | exact HLEN.out _ _ | exact HLO.out) (fun t ht => by rw [sOf_toL, ht]; rfl) (by rw [← toL_length, sOf_toL]; exact HLEN.out _ _))
                      clear hpl
                      have x1 : IntKind.i64.wrap ((i : Int) + 1) = (i : Int) + 1 := IntWalk.i64_in _ (by omega)
                      have x2 : IntKind.i64.wrap ((j : Int) + 1) = (j : Int) + 1 := IntWalk.i64_in _ (by omega)
                      go_upto_region 15 with fail
                      go_quiet ((go_at_call 20; exact quiet_left' (HBST.out _)))
                      clear pa pb pc pd HBST x1 x2
                      have HROW2 := Lib.hid (HROW.out.drewN nq)
                      have HZ2 := Lib.hid (show W1.heap.size ≤ (wa.drewN nq).heap.size from HZ.out)
                      have g0' : (wa.drewN nq).cell? ⟨bb, off + i * 129, none⟩ = some (.bool true) := g0
                      have k0' : (wa.drewN nq).cell? ⟨cb, cff + j * 129, none⟩ = some (.bool true) := k0
                      have gb' : (wa.drewN nq).cell? ⟨w.heap.size, 1, none⟩ = _ := gb
                      have kb' : (wa.drewN nq).cell? ⟨w.heap.size + 1, 1, none⟩ = _ := kb
                      have HGJ' := Lib.hid (show ∀ j', j' < 128 → (wa.drewN nq).cell? ⟨bb, off + i * 129 + 1 + j', none⟩ = _ from HGJ.out)
                      have HKJ' := Lib.hid (show ∀ j', j' < 128 → (wa.drewN nq).cell? ⟨cb, cff + j * 129 + 1 + j', none⟩ = _ from HKJ.out)
                      clear HROW HZ g0 k0 gb kb HGJ HKJ
                      have HROW := HROW2; have HZ := HZ2; have g0 := g0'; have k0 := k0'; have gb := gb'; have kb := kb'; have HGJ := HGJ'; have HKJ := HKJ'
                      clear HROW2 HZ2 g0' k0' gb' kb' HGJ' HKJ'
                      generalize wa.drewN nq = wb at *
                      have HZ0 := HZ
                      go_wp2_with fail
                      have HX := Lib.hid (show sOf (tryF (tryF none [] (tabF p q (i + 1) j)) [] (tabF p q i (j + 1))) = sOf (tabF p q i j) from by rw [HTB1.out hs1 hs2])
                      have HB := Lib.hid (show (tryF (tryF none [] (tabF p q (i + 1) j)) [] (tabF p q i (j + 1))).isSome = (tabF p q i j).isSome from by rw [HTB1.out hs1 hs2])
                      clear HTB1 HTB2
                      go_loopw [12, 13, 14] (fun v12 v13 v14 wr => ∃ c : Nat, c ≤ 128 ∧ v14 = .int .i64 (c : Int) ∧ v12 = .string (sOf (tryF (tryF none [] (tabF p q (i + 1) j)) [] (tabF p q i (j + 1)))) ∧ v13 = .bool ((tryF (tryF none [] (tabF p q (i + 1) j)) [] (tabF p q i (j + 1))).isSome) ∧ Below wb.heap.size wb wr) (fun _ _ v14 _ => 128 - (intOf v14).toNat)
                      case atStart => exact ⟨0, by omega, rfl, rfl, rfl, Below.refl _ _⟩
                      case round =>
                        obtain ⟨c, hc, rfl, rfl, rfl, hbc⟩ := hrel
                        obtain ⟨wc, rfl⟩ : ∃ wc : World, wc = wr := ⟨_, rfl⟩
                        have HBC := Lib.hid hbc
                        by_cases hc1 : c < 128
                        · have c0 : (0 : Int) ≤ (c : Int) := by omega
                          have c1 : (c : Int) < 128 := by omega
                          have g0c := (hbc.cell (p := ⟨bb, off + i * 129, none⟩) (World.block_lt_of_cell? _ _ g0)).trans g0
                          have k0c := (hbc.cell (p := ⟨cb, cff + j * 129, none⟩) (World.block_lt_of_cell? _ _ k0)).trans k0
                          have gbc := (hbc.cell (p := ⟨w.heap.size, 1, none⟩) (World.block_lt_of_cell? _ _ gb)).trans gb
                          have kbc := (hbc.cell (p := ⟨w.heap.size + 1, 1, none⟩) (World.block_lt_of_cell? _ _ kb)).trans kb
                          clear hbc
                          go_upto_region 19 with fail
                          go_quiet (fail)
                          have HBD := Lib.hid (below_drewN HBC.out nq)
                          have gbd : (wc.drewN nq).cell? ⟨w.heap.size, 1, none⟩ = _ := gbc
                          have kbd : (wc.drewN nq).cell? ⟨w.heap.size + 1, 1, none⟩ = _ := kbc
                          clear g0c k0c gbc kbc
                          generalize wc.drewN nq = wd at *
                          go_wp2_with fail
                          go_roundw
                          case rel => exact ⟨c + 1, by omega, by go_num, rfl, rfl, HBD.out⟩
                          case measure => simp [intOf] <;> omega
                        · have c1 : (128 : Int) ≤ (c : Int) := by omega
                          obtain rfl : c = 128 := by omega
                          have HROW2 := Lib.hid (HROW.out.below HZ.out hbc)
                          have HZ2 := Lib.hid (Nat.le_trans HZ.out hbc.size)
                          clear HROW HZ HZ0 hbc HBC g0 k0 gb kb
                          have HROW := HROW2; have HZ := HZ2
                          clear HROW2 HZ2
                          have hh := here_at HN.out HROW.out hi
                          have ha := hh.a; have hb := hh.b
                          have hc := HROW.out.row.cell (Classical.choose_spec (pRow_at (stV (tabF p q i)) (.string ⟨#[]⟩) q.length (j + 1) j hj))
                          have hd := HROW.out.mark.cell (Classical.choose_spec (pRow_at (bV (tabF p q i)) (.bool false) q.length (j + 1) j hj))
                          have he := HROW.out.row.free j
                          have hf := HROW.out.mark.free j
                          have hg := HROW.out.row.lt
                          have hl := HROW.out.mark.lt
                          have hm := World.block_lt_of_cell? _ _ ha
                          have hn := World.block_lt_of_cell? _ _ hb
                          have hrs : r ≠ s := HROW.out.row.ne HROW.out.mark (by decide)
                          have hsr : s ≠ r := Ne.symm hrs
                          generalize Classical.choose (pRow_at (stV (tabF p q i)) (.string ⟨#[]⟩) q.length (j + 1) j hj) = zc at hc
                          generalize Classical.choose (pRow_at (bV (tabF p q i)) (.bool false) q.length (j + 1) j hj) = zd at hd
                          have HS1 := Lib.hid (HROW.out.put hj hVr hVs (sOf (tryF (tryF none [] (tabF p q (i + 1) j)) [] (tabF p q i (j + 1)))) ((tryF (tryF none [] (tabF p q (i + 1) j)) [] (tabF p q i (j + 1))).isSome) HX.out HB.out).drew
                          have HS2 := Lib.hid (HROW.out.put' hj hVr hVs (sOf (tryF (tryF none [] (tabF p q (i + 1) j)) [] (tabF p q i (j + 1)))) ((tryF (tryF none [] (tabF p q (i + 1) j)) [] (tabF p q i (j + 1))).isSome) HX.out HB.out).drew
                          clear hh HX HB HROW
                          go_upto_region 27 with fail
                          go_region
                          all_goals
                            go_wp2_with fail
                            go_roundw
                            case rel => first | exact ⟨j, by omega, rfl, HS1.out, by simpa using HZ.out⟩ | exact ⟨j, by omega, rfl, HS2.out, by simpa using HZ.out⟩
                            case measure => simp [intOf] <;> omega
              · have j2 : (q.length : Int) ≤ (j : Int) := by omega
                have j3 : ((j : Int) == (q.length : Int)) = true := by rw [beq_iff_eq]; omega
                have HTAB := Lib.hid (tab_left p q i j hin (by omega))
                as_aux_lemma =>
                  obtain ⟨bb, off, hA, hbl, g0, gj⟩ := (HF1.out.below HROW.out.bel).at hin
                  subst hA
                  have gb := (HF1.out.below HROW.out.bel).cell
                  clear gj
                  rcases hs : p[i].isStar with _ | _
                  · rw [hs] at g0 HTAB
                    have HX := Lib.hid (show (⟨#[]⟩ : ByteArray) = sOf (tabF p q i j) from by rw [HTAB.out]; rfl)
                    have HB := Lib.hid (show false = (tabF p q i j).isSome from by rw [HTAB.out]; rfl)
                    clear hs
                    go_wp2_with fail
                    go_loopw [12, 13, 14] (fun v12 v13 v14 wr => v12 = .string (⟨#[]⟩) ∧ v13 = .bool (false) ∧ v14 = .int .i64 0 ∧ wr = wi) (fun _ _ _ _ => 0)
                    case atStart => exact ⟨rfl, rfl, rfl, rfl⟩
                    case round =>
                      obtain ⟨rfl, rfl, rfl, rfl⟩ := hrel
                      have hh := here_at HN.out HROW.out hi
                      have ha := hh.a; have hb := hh.b
                      have hc := HROW.out.row.cell (Classical.choose_spec (pRow_at (stV (tabF p q i)) (.string ⟨#[]⟩) q.length (j + 1) j hj))
                      have hd := HROW.out.mark.cell (Classical.choose_spec (pRow_at (bV (tabF p q i)) (.bool false) q.length (j + 1) j hj))
                      have he := HROW.out.row.free j
                      have hf := HROW.out.mark.free j
                      have hg := HROW.out.row.lt
                      have hl := HROW.out.mark.lt
                      have hm := World.block_lt_of_cell? _ _ ha
                      have hn := World.block_lt_of_cell? _ _ hb
                      have hrs : r ≠ s := HROW.out.row.ne HROW.out.mark (by decide)
                      have hsr : s ≠ r := Ne.symm hrs
                      generalize Classical.choose (pRow_at (stV (tabF p q i)) (.string ⟨#[]⟩) q.length (j + 1) j hj) = zc at hc
                      generalize Classical.choose (pRow_at (bV (tabF p q i)) (.bool false) q.length (j + 1) j hj) = zd at hd
                      have HS1 := Lib.hid (HROW.out.put hj hVr hVs (⟨#[]⟩) (false) HX.out HB.out).drew
                      have HS2 := Lib.hid (HROW.out.put' hj hVr hVs (⟨#[]⟩) (false) HX.out HB.out).drew
                      clear hh HX HB HROW
                      go_upto_region 27 with fail
                      go_region
                      all_goals
                        go_wp2_with fail
                        go_roundw
                        case rel => first | exact ⟨j, by omega, rfl, HS1.out, by simpa using HZ.out⟩ | exact ⟨j, by omega, rfl, HS2.out, by simpa using HZ.out⟩
                        case measure => simp [intOf] <;> omega
                  · rw [hs, if_pos rfl] at HTAB
                    rw [hs] at g0
                    have HX := Lib.hid (show sOf (tryF none [] (tabF p q (i + 1) j)) = sOf (tabF p q i j) from by rw [HTAB.out])
                    have HB := Lib.hid (show (tryF none [] (tabF p q (i + 1) j)).isSome = (tabF p q i j).isSome from by rw [HTAB.out])
                    clear hs
                    have hpl := place_down j HN.out HRl.out HSl.out HROW.out hin hj
                    have pa := hpl.a; have pb := hpl.b; have pc := hpl.c; have pd := hpl.d
                    have HBST := Lib.hid (fun wx => rf_best (none) (tabF p q (i + 1) j) (sOf (tabF p q (i + 1) j)) wx (by first | (simp; done) | exact HLEN.out _ _ | exact HLO.out) (fun t ht => by rw [sOf_toL, ht]; rfl) (by rw [← toL_length, sOf_toL]; exact HLEN.out _ _))
                    clear hpl
                    have x1 : IntKind.i64.wrap ((i : Int) + 1) = (i : Int) + 1 := IntWalk.i64_in _ (by omega)
                    have x2 : IntKind.i64.wrap ((j : Int) + 1) = (j : Int) + 1 := IntWalk.i64_in _ (by omega)
                    go_upto_region 13 with fail
                    go_quiet ((go_at_call 20; exact quiet_left' (HBST.out _)))
                    clear pa pb pc pd HBST x1 x2
                    have HROW2 := Lib.hid (HROW.out.drewN nq)
                    have HZ2 := Lib.hid (show W1.heap.size ≤ (wi.drewN nq).heap.size from HZ.out)
                    clear HROW HZ g0 gb hbl
                    have HROW := HROW2
                    have HZ := HZ2
                    clear HROW2 HZ2
                    generalize wi.drewN nq = wq at *
                    go_wp2_with fail
                    go_loopw [12, 13, 14] (fun v12 v13 v14 wr => v12 = .string (sOf (tryF none [] (tabF p q (i + 1) j))) ∧ v13 = .bool ((tryF none [] (tabF p q (i + 1) j)).isSome) ∧ v14 = .int .i64 0 ∧ wr = wq) (fun _ _ _ _ => 0)
                    case atStart => exact ⟨rfl, rfl, rfl, rfl⟩
                    case round =>
                      obtain ⟨rfl, rfl, rfl, rfl⟩ := hrel
                      have hh := here_at HN.out HROW.out hi
                      have ha := hh.a; have hb := hh.b
                      have hc := HROW.out.row.cell (Classical.choose_spec (pRow_at (stV (tabF p q i)) (.string ⟨#[]⟩) q.length (j + 1) j hj))
                      have hd := HROW.out.mark.cell (Classical.choose_spec (pRow_at (bV (tabF p q i)) (.bool false) q.length (j + 1) j hj))
                      have he := HROW.out.row.free j
                      have hf := HROW.out.mark.free j
                      have hg := HROW.out.row.lt
                      have hl := HROW.out.mark.lt
                      have hm := World.block_lt_of_cell? _ _ ha
                      have hn := World.block_lt_of_cell? _ _ hb
                      have hrs : r ≠ s := HROW.out.row.ne HROW.out.mark (by decide)
                      have hsr : s ≠ r := Ne.symm hrs
                      generalize Classical.choose (pRow_at (stV (tabF p q i)) (.string ⟨#[]⟩) q.length (j + 1) j hj) = zc at hc
                      generalize Classical.choose (pRow_at (bV (tabF p q i)) (.bool false) q.length (j + 1) j hj) = zd at hd
                      have HS1 := Lib.hid (HROW.out.put hj hVr hVs (sOf (tryF none [] (tabF p q (i + 1) j))) ((tryF none [] (tabF p q (i + 1) j)).isSome) HX.out HB.out).drew
                      have HS2 := Lib.hid (HROW.out.put' hj hVr hVs (sOf (tryF none [] (tabF p q (i + 1) j))) ((tryF none [] (tabF p q (i + 1) j)).isSome) HX.out HB.out).drew
                      clear hh HX HB HROW
                      go_upto_region 27 with fail
                      go_region
                      all_goals
                        go_wp2_with fail
                        go_roundw
                        case rel => first | exact ⟨j, by omega, rfl, HS1.out, by simpa using HZ.out⟩ | exact ⟨j, by omega, rfl, HS2.out, by simpa using HZ.out⟩
                        case measure => simp [intOf] <;> omega
            · have i2 : (p.length : Int) ≤ (i : Int) := by omega
              have i3 : ((i : Int) == (p.length : Int)) = true := by rw [beq_iff_eq]; omega
              by_cases hjn : j < q.length
              · have j2 : (j : Int) < (q.length : Int) := by omega
                have j3 : ((j : Int) == (q.length : Int)) = false := beq_eq_false_iff_ne.2 (by omega)
                have HTAB := Lib.hid (tab_right p q i j (by omega) hjn)
                as_aux_lemma =>
                  obtain ⟨bb, off, hA, hbl, g0, gj⟩ := (HF2.out.below HROW.out.bel).at hjn
                  subst hA
                  have gb := (HF2.out.below HROW.out.bel).cell
                  clear gj
                  rcases hs : q[j].isStar with _ | _
                  · rw [hs] at g0 HTAB
                    have HX := Lib.hid (show (⟨#[]⟩ : ByteArray) = sOf (tabF p q i j) from by rw [HTAB.out]; rfl)
                    have HB := Lib.hid (show false = (tabF p q i j).isSome from by rw [HTAB.out]; rfl)
                    clear hs
                    go_wp2_with fail
                    go_loopw [12, 13, 14] (fun v12 v13 v14 wr => v12 = .string (⟨#[]⟩) ∧ v13 = .bool (false) ∧ v14 = .int .i64 0 ∧ wr = wi) (fun _ _ _ _ => 0)
                    case atStart => exact ⟨rfl, rfl, rfl, rfl⟩
                    case round =>
                      obtain ⟨rfl, rfl, rfl, rfl⟩ := hrel
                      have hh := here_at HN.out HROW.out hi
                      have ha := hh.a; have hb := hh.b
                      have hc := HROW.out.row.cell (Classical.choose_spec (pRow_at (stV (tabF p q i)) (.string ⟨#[]⟩) q.length (j + 1) j hj))
                      have hd := HROW.out.mark.cell (Classical.choose_spec (pRow_at (bV (tabF p q i)) (.bool false) q.length (j + 1) j hj))
                      have he := HROW.out.row.free j
                      have hf := HROW.out.mark.free j
                      have hg := HROW.out.row.lt
                      have hl := HROW.out.mark.lt
                      have hm := World.block_lt_of_cell? _ _ ha
                      have hn := World.block_lt_of_cell? _ _ hb
                      have hrs : r ≠ s := HROW.out.row.ne HROW.out.mark (by decide)
                      have hsr : s ≠ r := Ne.symm hrs
                      generalize Classical.choose (pRow_at (stV (tabF p q i)) (.string ⟨#[]⟩) q.length (j + 1) j hj) = zc at hc
                      generalize Classical.choose (pRow_at (bV (tabF p q i)) (.bool false) q.length (j + 1) j hj) = zd at hd
                      have HS1 := Lib.hid (HROW.out.put hj hVr hVs (⟨#[]⟩) (false) HX.out HB.out).drew
                      have HS2 := Lib.hid (HROW.out.put' hj hVr hVs (⟨#[]⟩) (false) HX.out HB.out).drew
                      clear hh HX HB HROW
                      go_upto_region 27 with fail
                      go_region
                      all_goals
                        go_wp2_with fail
                        go_roundw
                        case rel => first | exact ⟨j, by omega, rfl, HS1.out, by simpa using HZ.out⟩ | exact ⟨j, by omega, rfl, HS2.out, by simpa using HZ.out⟩
                        case measure => simp [intOf] <;> omega
                  · rw [hs, if_pos rfl] at HTAB
                    rw [hs] at g0
                    have HX := Lib.hid (show sOf (tryF none [] (tabF p q i (j + 1))) = sOf (tabF p q i j) from by rw [HTAB.out])
                    have HB := Lib.hid (show (tryF none [] (tabF p q i (j + 1))).isSome = (tabF p q i j).isSome from by rw [HTAB.out])
                    clear hs
                    have hpl := place_right HN.out HROW.out hi hjn
                    have pa := hpl.a; have pb := hpl.b; have pc := hpl.c; have pd := hpl.d
                    have HBST := Lib.hid (fun wx => rf_best (none) (tabF p q i (j + 1)) (sOf (tabF p q i (j + 1))) wx (by first | (simp; done) | exact HLEN.out _ _ | exact HLO.out) (fun t ht => by rw [sOf_toL, ht]; rfl) (by rw [← toL_length, sOf_toL]; exact HLEN.out _ _))
                    clear hpl
                    have x1 : IntKind.i64.wrap ((i : Int) + 1) = (i : Int) + 1 := IntWalk.i64_in _ (by omega)
                    have x2 : IntKind.i64.wrap ((j : Int) + 1) = (j : Int) + 1 := IntWalk.i64_in _ (by omega)
                    go_upto_region 15 with fail
                    go_quiet ((go_at_call 20; exact quiet_left' (HBST.out _)))
                    clear pa pb pc pd HBST x1 x2
                    have HROW2 := Lib.hid (HROW.out.drewN nq)
                    have HZ2 := Lib.hid (show W1.heap.size ≤ (wi.drewN nq).heap.size from HZ.out)
                    clear HROW HZ g0 gb hbl
                    have HROW := HROW2
                    have HZ := HZ2
                    clear HROW2 HZ2
                    generalize wi.drewN nq = wq at *
                    go_wp2_with fail
                    go_loopw [12, 13, 14] (fun v12 v13 v14 wr => v12 = .string (sOf (tryF none [] (tabF p q i (j + 1)))) ∧ v13 = .bool ((tryF none [] (tabF p q i (j + 1))).isSome) ∧ v14 = .int .i64 0 ∧ wr = wq) (fun _ _ _ _ => 0)
                    case atStart => exact ⟨rfl, rfl, rfl, rfl⟩
                    case round =>
                      obtain ⟨rfl, rfl, rfl, rfl⟩ := hrel
                      have hh := here_at HN.out HROW.out hi
                      have ha := hh.a; have hb := hh.b
                      have hc := HROW.out.row.cell (Classical.choose_spec (pRow_at (stV (tabF p q i)) (.string ⟨#[]⟩) q.length (j + 1) j hj))
                      have hd := HROW.out.mark.cell (Classical.choose_spec (pRow_at (bV (tabF p q i)) (.bool false) q.length (j + 1) j hj))
                      have he := HROW.out.row.free j
                      have hf := HROW.out.mark.free j
                      have hg := HROW.out.row.lt
                      have hl := HROW.out.mark.lt
                      have hm := World.block_lt_of_cell? _ _ ha
                      have hn := World.block_lt_of_cell? _ _ hb
                      have hrs : r ≠ s := HROW.out.row.ne HROW.out.mark (by decide)
                      have hsr : s ≠ r := Ne.symm hrs
                      generalize Classical.choose (pRow_at (stV (tabF p q i)) (.string ⟨#[]⟩) q.length (j + 1) j hj) = zc at hc
                      generalize Classical.choose (pRow_at (bV (tabF p q i)) (.bool false) q.length (j + 1) j hj) = zd at hd
                      have HS1 := Lib.hid (HROW.out.put hj hVr hVs (sOf (tryF none [] (tabF p q i (j + 1)))) ((tryF none [] (tabF p q i (j + 1))).isSome) HX.out HB.out).drew
                      have HS2 := Lib.hid (HROW.out.put' hj hVr hVs (sOf (tryF none [] (tabF p q i (j + 1)))) ((tryF none [] (tabF p q i (j + 1))).isSome) HX.out HB.out).drew
                      clear hh HX HB HROW
                      go_upto_region 27 with fail
                      go_region
                      all_goals
                        go_wp2_with fail
                        go_roundw
                        case rel => first | exact ⟨j, by omega, rfl, HS1.out, by simpa using HZ.out⟩ | exact ⟨j, by omega, rfl, HS2.out, by simpa using HZ.out⟩
                        case measure => simp [intOf] <;> omega
              · have j2 : (q.length : Int) ≤ (j : Int) := by omega
                have j3 : ((j : Int) == (q.length : Int)) = true := by rw [beq_iff_eq]; omega
                have HTAB := Lib.hid (tab_end p q i j (by omega) (by omega))
                have HX := Lib.hid (show (⟨#[]⟩ : ByteArray) = sOf (tabF p q i j) from by rw [HTAB.out]; rfl)
                have HB := Lib.hid (show true = (tabF p q i j).isSome from by rw [HTAB.out]; rfl)
                as_aux_lemma =>
                  go_wp2_with fail
                  go_loopw [12, 13, 14] (fun v12 v13 v14 wr => v12 = .string (⟨#[]⟩) ∧ v13 = .bool (true) ∧ v14 = .int .i64 0 ∧ wr = wi) (fun _ _ _ _ => 0)
                  case atStart => exact ⟨rfl, rfl, rfl, rfl⟩
                  case round =>
                    obtain ⟨rfl, rfl, rfl, rfl⟩ := hrel
                    have hh := here_at HN.out HROW.out hi
                    have ha := hh.a; have hb := hh.b
                    have hc := HROW.out.row.cell (Classical.choose_spec (pRow_at (stV (tabF p q i)) (.string ⟨#[]⟩) q.length (j + 1) j hj))
                    have hd := HROW.out.mark.cell (Classical.choose_spec (pRow_at (bV (tabF p q i)) (.bool false) q.length (j + 1) j hj))
                    have he := HROW.out.row.free j
                    have hf := HROW.out.mark.free j
                    have hg := HROW.out.row.lt
                    have hl := HROW.out.mark.lt
                    have hm := World.block_lt_of_cell? _ _ ha
                    have hn := World.block_lt_of_cell? _ _ hb
                    have hrs : r ≠ s := HROW.out.row.ne HROW.out.mark (by decide)
                    have hsr : s ≠ r := Ne.symm hrs
                    generalize Classical.choose (pRow_at (stV (tabF p q i)) (.string ⟨#[]⟩) q.length (j + 1) j hj) = zc at hc
                    generalize Classical.choose (pRow_at (bV (tabF p q i)) (.bool false) q.length (j + 1) j hj) = zd at hd
                    have HS1 := Lib.hid (HROW.out.put hj hVr hVs (⟨#[]⟩) (true) HX.out HB.out).drew
                    have HS2 := Lib.hid (HROW.out.put' hj hVr hVs (⟨#[]⟩) (true) HX.out HB.out).drew
                    clear hh HX HB HROW
                    go_upto_region 27 with fail
                    go_region
                    all_goals
                      go_wp2_with fail
                      go_roundw
                      case rel => first | exact ⟨j, by omega, rfl, HS1.out, by simpa using HZ.out⟩ | exact ⟨j, by omega, rfl, HS2.out, by simpa using HZ.out⟩
                      case measure => simp [intOf] <;> omega
end Go.Proofs.YtcknomaaikeebaaDoor
