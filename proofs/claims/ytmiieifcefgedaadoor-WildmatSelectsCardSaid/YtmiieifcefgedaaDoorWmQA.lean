/- The walk over the reference's ParseList. -/
import Derived.Test.YtmiieifcefgedaaDoorWmQ9
import Derived.Test.YtmiieifcefgedaaDoorWmQ6
namespace Go.Proofs.YtmiieifcefgedaaDoor
set_option linter.unusedSimpArgs false
set_option linter.unusedVariables false
open Go.RowKit

theorem alloc_bl (w : World) (o : Obj) : Below w.heap.size w (w.alloc o) := (Below.refl _ _).alloc (Nat.le_refl _) _
/-- The pieces that are left, from i on, the piece at hand begun at f. -/
def restP (L : Bs) (i f : Nat) : List Bs := if i ≤ L.length then splitAux (L.drop i) (cutL L f i) else []
def LG (L : Bs) (i f : Nat) (es : List Ent) : Prop := listF L = listGo (restP L i f) f es
theorem lg_start {L : Bs} (h : L.length ≠ 0) : LG L 0 0 [] := by
  unfold LG restP listF; rw [if_neg h, if_pos (Nat.zero_le _)]; rfl
theorem cut_snoc {L : Bs} {f i : Nat} (hf : f ≤ i) (hi : i < L.length) : cutL L f (i + 1) = cutL L f i ++ [L[i]] := cutL_step L f i hf hi
theorem lg_skip {L : Bs} {i f : Nat} {es : List Ent} (h : LG L i f es) (hf : f ≤ i) (hi : i < L.length) (hc : L[i] ≠ 44) : LG L (i + 1) f es := by
  unfold LG restP at *
  rw [h, if_pos (by omega), if_pos (by omega), List.drop_eq_getElem_cons hi, splitAux, if_neg (by simpa [isMark] using hc), cut_snoc hf hi]
theorem restP_piece {L : Bs} {i f : Nat} (hi : i ≤ L.length) (hc : ∀ h : i < L.length, L[i] = 44) : restP L i f = cutL L f i :: restP L (i + 1) (i + 1) := by
  unfold restP
  rw [if_pos hi]
  by_cases h : i < L.length
  · rw [if_pos (by omega), List.drop_eq_getElem_cons h, splitAux, if_pos (by simp [isMark, hc h])]
    congr 2
    simp [cutL]
  · rw [if_neg (by omega), List.drop_eq_nil_of_le (by omega)]; rfl
theorem lg_full {L : Bs} {i f : Nat} {es : List Ent} (h : LG L i f es) (hi : i ≤ L.length) (hc : ∀ h : i < L.length, L[i] = 44) (he : es.length = 64) : listF L = ([], f, 9) := by
  unfold LG at h; rw [h, restP_piece hi hc, listGo_full _ _ _ _ he]
theorem lg_bad {L T : Bs} {i f a n : Nat} {v k : Int} {es : List Ent} {ps : List Em} (h : LG L i f es) (hi : i ≤ L.length) (hc : ∀ h : i < L.length, L[i] = 44) (he : es.length ≠ 64) (hv : verdF (cutL L f i) = (v, T)) (ha : (cutL L f i).length - T.length = a - f) (hfa : f ≤ a) (hp : compF T = (ps, n, k)) (hk : k ≠ 0) : listF L = ([], a + n, k) := by
  unfold LG at h; rw [h, restP_piece hi hc, listGo_bad _ _ _ _ he (by rw [hv, hp]; exact hk), hv, hp]
  simp only
  rw [ha, show f + (a - f) = a by omega]
theorem lg_good {L T : Bs} {i f n : Nat} {v : Int} {es : List Ent} {ps : List Em} (h : LG L i f es) (hf : f ≤ i) (hi : i ≤ L.length) (hc : ∀ h : i < L.length, L[i] = 44) (he : es.length ≠ 64) (hv : verdF (cutL L f i) = (v, T)) (hp : compF T = (ps, n, 0)) : LG L (i + 1) (i + 1) (es ++ [(ps, v)]) := by
  unfold LG at *; rw [h, restP_piece hi hc, listGo_good _ _ _ _ he (by rw [hv, hp]), hv, hp]
  have : (cutL L f i).length = i - f := cutL_length _ _ _ hi
  rw [this, show f + (i - f) + 1 = i + 1 by omega]
theorem lg_end {L : Bs} {f : Nat} {es : List Ent} (h : LG L (L.length + 1) f es) : listF L = (es, 0, 0) := by
  unfold LG restP at h; rw [h, if_neg (by omega)]; rfl
theorem cut_cons {s : ByteArray} {f i : Nat} (hf : f < i) (hi : i ≤ s.size) : cutL (toL s) f i = s[f]'(by omega) :: cutL (toL s) (f + 1) i := by
  unfold cutL
  rw [List.drop_eq_getElem_cons (by rw [toL_length]; omega), show i - f = (i - (f + 1)) + 1 by omega, List.take_succ_cons, toL_getElem s f (by omega)]
/-- The three beginnings of a piece. -/
theorem verd_nil {s : ByteArray} {f i : Nat} (hf : f = i) : verdF (cutL (toL s) f i) = (1, toL (s.extract f i)) := by
  subst hf; rw [extract_toL]; simp [cutL, verdF]
theorem verd_33 {s : ByteArray} {f i : Nat} (hf : f < i) (hi : i ≤ s.size) (h : s[f]'(by omega) = 33) : verdF (cutL (toL s) f i) = (2, toL (s.extract (f + 1) i)) := by
  rw [cut_cons hf hi, verdF, if_pos h, extract_toL]
theorem verd_64 {s : ByteArray} {f i : Nat} (hf : f < i) (hi : i ≤ s.size) (h : s[f]'(by omega) = 64) : verdF (cutL (toL s) f i) = (3, toL (s.extract (f + 1) i)) := by
  rw [cut_cons hf hi, verdF, if_neg (by rw [h]; decide), if_pos h, extract_toL]
theorem verd_no {s : ByteArray} {f i : Nat} (hf : f < i) (hi : i ≤ s.size) (h : s[f]'(by omega) ≠ 33) (h2 : s[f]'(by omega) ≠ 64) : verdF (cutL (toL s) f i) = (1, toL (s.extract f i)) := by
  rw [extract_toL, cut_cons hf hi, verdF, if_neg h, if_neg h2]
theorem verd_len {s : ByteArray} {f a i : Nat} (hf : f ≤ a) (ha : a ≤ i) (hi : i ≤ s.size) : (cutL (toL s) f i).length - (toL (s.extract a i)).length = a - f := by
  rw [extract_toL, cutL_length _ _ _ (by rw [toL_length]; exact hi), cutL_length _ _ _ (by rw [toL_length]; exact hi)]; omega
theorem info_I : (Tryd.prog.info? 96).map (fun i => (i.zero, i.size, i.bytes)) = some (some (.agg #[.int .i64 0, .string ⟨#[]⟩, .slice none 0 0]), 3, 48) := by kernel_rfl
theorem el_I : Elem Tryd.prog 44 96 3 48 := Elem.of Tryd.underlying44 info_I rfl (by omega)
theorem range3 {W : World} {b : Nat} {x y z : Value} {t : TypeId} {fr : Nat × Nat} (h : W.heap[b]? = some (.cells #[x, y, z] t fr)) : W.rangeAt b 0 [x, y, z] := fun j v hv => by
  rw [Nat.zero_add, Lib.cell_of_heap h]; simpa using hv
theorem there3 {W : World} {b : Nat} {x y z : Value} {t : TypeId} (h : W.heap[b]? = some (.cells #[x, y, z] t (0, 0))) : W.there b 1 2 := fun j hj => by
  refine ⟨?_, Lib.frozen_of_heap h _⟩
  rw [Lib.cell_of_heap h]
  rcases j with _ | _ | j
  · rfl
  · rfl
  · omega
theorem size_I (x y z : Value) : (Tryd.prog.info? 96).map (·.size) = some [x, y, z].length := by kernel_rfl
section
variable {ops : Array Oper} {rest : List Oper} {op : Oper} {a : Act} {w : World} {Q : Exit → Act → World → Prop}
theorem wpList_loadI (hgd : op.guard = none) (x : Operand) (ho : op.op = .load 96 x) {b : Nat} {p q r : Value} {t : TypeId} (hE : w.heap[b]? = some (.cells #[p, q, r] t (0, 0))) (hx : a.eval x = .pointer (some ⟨b, 0, none⟩))
    (h : wpList Tryd.prog ops Q rest (a.put op.dst (.agg #[p, q, r])) w) : wpList Tryd.prog ops Q (op :: rest) a w :=
  wpList_load_mid hgd _ x ho b 0 hx [p, q, r] _ (range3 hE) Tryd.underlying96 rfl (size_I _ _ _) h
theorem wpList_storeI (hgd : op.guard = none) (x y : Operand) (ho : op.op = .store 29 x y) {b : Nat} {o p q p' q' : Value} {t : TypeId} (hE : w.heap[b]? = some (.cells #[o, p, q] t (0, 0))) (hx : a.eval x = .pointer (some ⟨b, 1, none⟩)) (hy : a.eval y = .agg #[p', q']) (h1 : p'.oneCell' = true) (h2 : q'.oneCell' = true)
    (h : ∀ W, W.heap[b]? = some (.cells #[o, p', q'] t (0, 0)) → (∀ N, N ≤ b → Below N w W) → w.grownBy W (some b) → wpList Tryd.prog ops Q rest (a.put op.dst undef) W) : wpList Tryd.prog ops Q (op :: rest) a w :=
  wpList_store_mid hgd _ x y ho b 1 #[p', q'] hx hy (there3 hE) (size_P _ _) (by simp [h1, h2]) (h _ (by
    unfold World.setCells World.setCells World.setCells
    have := heap_set (i := 2) (heap_set (i := 1) hE p') q'
    simpa using this) (fun N hN => below_setCells hN _ _ _ _ (Below.refl _ _)) (by
    unfold World.setCells World.setCells World.setCells
    exact grown_set (grown_set (World.grownBy.refl _ _) 1 p') 2 q'))
end
/-- The list while the reference reads it. -/
structure RLs (w : World) (l : List RIt) (es : List Ent) (v : Value) (wr : World) : Prop where
  own : wr.ownsRow w.heap.size 96 3 v es.length (rowI l)
  its : ItsAt wr l es
  bel : Below w.heap.size w wr
theorem RLs.below {w : World} {l : List RIt} {es : List Ent} {v : Value} {wr w' : World} (h : RLs w l es v wr) (hb : Below wr.heap.size wr w') : RLs w l es v w' :=
  ⟨own_below h.own hb, h.its.below hb, h.bel.trans (hb.mono h.bel.size)⟩
theorem RLs.push {w : World} {l : List RIt} {es : List Ent} {v v' : Value} {wr w1 : World} {t : ByteArray} {u : Value} {e : Ent} (h : RLs w l es v wr) (hown : w1.ownsRow w.heap.size 96 3 v' (es.length + 1) (rowI l ++ [.int .i64 e.2, .string t, u])) (hp : RPat wr t e.1 (.agg #[.string t, u])) (hg : wr.grownBy w1 v.ownBlock) : RLs w (l ++ [(e.2, t, u)]) (es ++ [e]) v' w1 := by
  have hr : ∀ g', v.ownBlock = some g' → ∃ cur t fr, wr.heap[g']? = some (.cells cur t fr) ∧ t ≠ 70 := fun g' e => by
    obtain ⟨cur, hh⟩ := own_type h.own g' e; exact ⟨_, _, _, hh, by decide⟩
  refine ⟨?_, (h.its.kept hg hr).snoc (hp.kept hg hr), h.bel.grown hg h.bel.size (fun k hk => (h.own.lt k hk).1)⟩
  rw [rowI_snoc] at hown
  simpa using hown
theorem RLs.list {w : World} {l : List RIt} {es : List Ent} {v : Value} {wr : World} (h : RLs w l es v wr) : RList wr es v := by
  obtain ⟨A, c, rfl, hr⟩ := own_row h.own
  exact ⟨A, c, l, rfl, hr, h.its⟩
theorem rlist_no {s : ByteArray} {w w' : World} {n : Nat} {k : Int} (h : listF (toL s) = ([], n, k)) (hk : k ≠ 0) (hb : Below w.heap.size w w') (N : Int) (hN : N = n) : RListPost s w (.returned (.tuple #[.slice none 0 0, .int .i64 N, .int .i64 k])) w' := by
  subst hN
  refine ⟨_, by rw [h], ?_, hb⟩
  rw [h]; exact .inr ⟨hk, rfl⟩
theorem rlist_yes {s : ByteArray} {w wr : World} {l : List RIt} {es : List Ent} {v : Value} (h : listF (toL s) = (es, 0, 0)) (hc : RLs w l es v wr) : RListPost s w (.returned (.tuple #[v, .int .i64 0, .int .i64 0])) wr := by
  refine ⟨v, by rw [h]; rfl, ?_, hc.bel⟩
  rw [h]; exact .inl ⟨rfl, hc.list⟩
theorem RPatV.shape' {w : World} {s : ByteArray} {x : List Em × Nat × Int} {v : Value} (h : RPatV w s x v) : ∃ t A n c, v = .agg #[.string t, .slice A n c] ∧ (x.2.2 = 0 → RPat w t x.1 (.agg #[.string t, .slice A n c])) := by
  rcases h with ⟨_, A, c, rfl, h2, h3⟩ | ⟨h0, rfl⟩
  · exact ⟨_, _, _, _, rfl, fun _ => ⟨A, c, rfl, h2, h3⟩⟩
  · exact ⟨_, _, _, _, rfl, fun e => absurd e h0⟩

set_option maxHeartbeats 16000000 in
set_option maxRecDepth 100000 in
theorem rf_parseList (s : ByteArray) (w : World) (hs : s.size ≤ 1000) :
    Calls Tryd.prog 24 #[.string s] w (RListPost s w) := by
  have HL := Lib.hid (toL_length s)
  by_cases h0 : s.size = 0
  · have hE : s = ⟨#[]⟩ := by
      apply toL_inj; rw [List.eq_nil_of_length_eq_zero (HL.out.trans h0)]; rfl
    subst hE
    go_enter Tryd.func24, Tryd.ntmps24
    go_wp2_with fail
    go_ret3
    exact rlist_no (n := 0) (k := 4) (by decide +kernel) (by decide) (Below.refl _ _) _ rfl
  have hE : s.toList.isEmpty = false := toList_cons h0
  have HG := Lib.hid (lg_start (L := toL s) (by rw [HL.out]; exact h0))
  have HR0 := Lib.hid (show RLs w [] [] (.slice none 0 0) w from ⟨World.ownsRow_nil _ _ _ _, ItsAt.nil w, Below.refl _ _⟩)
  go_enter Tryd.func24, Tryd.ntmps24
  go_wp2_with fail
  go_loopw [5, 6, 7] (fun v5 v6 v7 wr => ∃ (i f : Nat) (l : List RIt) (es : List Ent), i ≤ s.size + 1 ∧ f ≤ i ∧ v7 = .int .i64 (i : Int) ∧ v6 = .int .i64 (f : Int) ∧ es.length ≤ 64 ∧ LG (toL s) i f es ∧ RLs w l es v5 wr) (fun _ _ v7 _ => s.size + 1 - (intOf v7).toNat)
  case atStart => exact ⟨0, 0, [], [], by omega, by omega, rfl, rfl, by simp, HG.out, HR0.out⟩
  case round =>
    obtain ⟨i, f, l, es, hi, hfi, rfl, rfl, hes, hlg, hR⟩ := hrel
    have HLG := Lib.hid hlg; have HR := Lib.hid hR
    clear HG HR0 hE hlg hR
    obtain ⟨wo, rfl⟩ : ∃ wo : World, wo = wr := ⟨_, rfl⟩
    obtain ⟨Av, cv, hvv⟩ := own_slice HR.out.own
    subst hvv
    have i0 : (0 : Int) ≤ (i : Int) := by omega
    have f0 : (0 : Int) ≤ (f : Int) := by omega
    by_cases hin : i ≤ s.size
    · have i1 : (i : Int) ≤ (s.size : Int) := by omega
      by_cases hsk : ∃ h : i < s.size, s[i]'h ≠ 44
      · obtain ⟨hlt, hc⟩ := hsk
        have i2 : (i : Int) < (s.size : Int) := by omega
        have g1 : (num (s[i]'hlt) != 44) = true := by
          have := eq_num (s[i]'hlt) 44; rw [show num 44 = 44 from rfl] at this; simp [bne, this, hc]
        have HLG2 := Lib.hid (lg_skip HLG.out hfi (by rw [HL.out]; exact hlt) (by rw [toL_getElem s i hlt]; exact hc))
        clear hc
        go_wp2_with fail
        go_roundw
        case rel => exact ⟨i + 1, f, l, es, by omega, by omega, by go_num, rfl, hes, HLG2.out, HR.out⟩
        case measure => simp [intOf] <;> omega
      · have HC := Lib.hid (show ∀ h : i < (toL s).length, (toL s)[i] = 44 from fun h => by
          rw [HL.out] at h
          rw [toL_getElem s i h]
          exact Decidable.by_contra fun hh => hsk ⟨h, hh⟩)
        have HIN := Lib.hid (show i ≤ (toL s).length by rw [HL.out]; exact hin)
        have hmid : (∃ h : i < s.size, (num (s[i]'h) != 44) = false) ∨ (s.size : Int) ≤ (i : Int) := by
          by_cases h : i < s.size
          · left; refine ⟨h, ?_⟩
            have hc : s[i]'h = 44 := Decidable.by_contra fun hh => hsk ⟨h, hh⟩
            rw [hc]; rfl
          · right; omega
        clear hsk
        have hcond : ∃ hb : Bool, hb = decide (i < s.size) := ⟨_, rfl⟩
        rcases hmid with ⟨hlt, g1⟩ | g1
        · by_cases h64 : es.length = 64
          · have HZ := Lib.hid (lg_full HLG.out HIN.out HC.out h64)
            have g64 : ((es.length : Int) == 64) = true := by rw [beq_iff_eq]; omega
            clear h64
            go_wp2_with fail
            go_ret3
            exact rlist_no HZ.out (by decide) HR.out.bel _ rfl
          · have g64 : ((es.length : Int) == 64) = false := beq_eq_false_iff_ne.2 (by omega)
            have hb1 : (es.length + 1) * 48 ≤ 140737488355328 := by omega
            have hb2 : es.length + 1 ≤ maxLen := by unfold maxLen; omega
            by_cases hfi' : f < i
            · have f1 : (f : Int) < (i : Int) := by omega
              have f2 : (f : Int) < (s.size : Int) := by omega
              have hfs : f < s.size := by omega
              by_cases e33 : s[f]'hfs = 33
              · have q1 : (num (s[f]'hfs) == 33) = true := by rw [e33]; rfl
                have HV := Lib.hid (verd_33 hfi' hin e33)
                have HVL := Lib.hid (verd_len (s := s) (f := f) (a := f + 1) (i := i) (by omega) (by omega) hin)
                clear e33
                have a0 : (0 : Int) ≤ ((f + 1 : Nat) : Int) := by omega
                have a1 : ((f + 1 : Nat) : Int) ≤ (i : Int) := by omega
                have a2 : (0 : Int) ≤ ((f : Int) + 1) := by omega
                have a3 : ((f : Int) + 1) ≤ (i : Int) := by omega
                have a4 : (((f : Int) + 1)).toNat = f + 1 := by omega
                go_upto_region 19 with fail
                have HW := Lib.hid (heap_alloc_new wo (.cells #[.int .i64 2, .string ⟨#[]⟩, .slice none 0 0] 96))
                have HBW := Lib.hid (alloc_bl wo (.cells #[.int .i64 2, .string ⟨#[]⟩, .slice none 0 0] 96))
                generalize wo.alloc (.cells #[.int .i64 2, .string ⟨#[]⟩, .slice none 0 0] 96) = W at *
                have hXs : (s.extract (f + 1) i).size ≤ 1000000 := by rw [extract_size _ _ _ hin]; omega
                go_wp2_with fail
                (with_reducible refine (rf_compile (s.extract (f + 1) i) W hXs).mono ?_)
                rintro e w1 ⟨u, rfl, hu, hb1'⟩
                have HN80 := Lib.hid (compF_len (toL (s.extract (f + 1) i)))
                rcases hcf : compF (toL (s.extract (f + 1) i)) with ⟨ps, n1, e1⟩
                have HCF := Lib.hid hcf
                rw [hcf] at hu HN80
                obtain ⟨tx, A', nn, cc, rfl, hrp⟩ := hu.shape'
                have hn80 := HN80.out.2.1
                simp only at hrp hn80 ⊢
                have HB1 := Lib.hid (HBW.out.trans (hb1'.mono HBW.out.size))
                have HX1 := Lib.hid ((hb1'.block _ (heap_lt HW.out)).trans HW.out)
                clear hcf hu HN80 hb1' HW hXs
                by_cases he : e1 = 0
                · subst he
                  have HRP := Lib.hid (hrp rfl)
                  have HGO := Lib.hid (lg_good HLG.out hfi HIN.out HC.out h64 HV.out HCF.out)
                  clear hrp HCF HBW HVL
                  go_upto_region 22 with fail
                  have HP2 := Lib.hid (heap_alloc_new w1 (.cells #[.string tx, .slice A' nn cc] 29))
                  have HB2 := Lib.hid (alloc_bl w1 (.cells #[.string tx, .slice A' nn cc] 29))
                  have HX2 := Lib.hid ((HB2.out.block _ (heap_lt HX1.out)).trans HX1.out)
                  have HRP2 := Lib.hid (HRP.out.below HB2.out)
                  have HBB := Lib.hid (HB1.out.trans (HB2.out.mono HB1.out.size))
                  clear HB1 HX1 HRP HB2
                  generalize w1.alloc (.cells #[.string tx, .slice A' nn cc] 29) = W2 at *
                  go_upto_region 23 with (first | (refine wpList_loadP rfl _ rfl HP2.out rfl ?_) | (refine wpList_storeI rfl _ _ rfl HX2.out rfl rfl rfl rfl ?_; intro W3 hX3 hB3 hG3))
                  have HRP3 := Lib.hid (HRP2.out.kept hG3 (fun g e => by injection e with e; subst e; exact ⟨_, _, _, HX2.out, by decide⟩))
                  have HR3 := Lib.hid (HR.out.below (HBB.out.trans (hB3 _ (Nat.le_refl _))))
                  have hown := HR3.out.own
                  have hbs := HR3.out.bel.size
                  have h1c : ∀ u ∈ (#[.int .i64 2, .string tx, .slice A' nn cc] : Array Value).toList, u.oneCell' = true := by simp [Value.oneCell']
                  clear HP2 HX2 HBB HRP2 hB3 hG3
                  go_wp2_with (first | (refine wpList_loadI rfl _ rfl hX3 rfl ?_) | (at_builtin; refine wpList_push el_I rfl _ _ rfl hown #[.int .i64 2, .string tx, .slice A' nn cc] rfl rfl rfl h1c hb1 hb2 hbs ?_; intro g cap w4 hown4 hg4 hat4))
                  have HF := Lib.hid (HR3.out.push (e := (ps, 2)) hown4 HRP3.out hg4)
                  go_roundw
                  case rel => exact ⟨i + 1, i + 1, _, es ++ [(ps, 2)], by omega, by omega, by go_num, by go_num, by simp; omega, HGO.out, HF.out⟩
                  case measure => simp [intOf] <;> omega
                · have HZ := Lib.hid (lg_bad HLG.out HIN.out HC.out h64 HV.out HVL.out (by omega) HCF.out he)
                  have g5 : (e1 != 0) = true := by simp [bne, he]
                  have HBZ := Lib.hid (HR.out.bel.trans (HB1.out.mono HR.out.bel.size))
                  have HBY := Lib.hid (HBZ.out.trans ((alloc_bl w1 (.cells #[.string tx, .slice A' nn cc] 29)).mono HBZ.out.size))
                  have HE0 := Lib.hid he
                  clear hrp he HBZ
                  go_wp2_with fail
                  go_ret3
                  exact rlist_no HZ.out HE0.out HBY.out _ (by omega)
              have q1 : (num (s[f]'hfs) == 33) = false := by
                have := eq_num (s[f]'hfs) 33; rw [show num 33 = 33 from rfl] at this; rw [this]; exact beq_eq_false_iff_ne.2 e33
              by_cases e64 : s[f]'hfs = 64
              · have q2 : (num (s[f]'hfs) == 64) = true := by rw [e64]; rfl
                have HV := Lib.hid (verd_64 hfi' hin e64)
                have HVL := Lib.hid (verd_len (s := s) (f := f) (a := f + 1) (i := i) (by omega) (by omega) hin)
                clear e33 e64
                have a0 : (0 : Int) ≤ ((f + 1 : Nat) : Int) := by omega
                have a1 : ((f + 1 : Nat) : Int) ≤ (i : Int) := by omega
                have a2 : (0 : Int) ≤ ((f : Int) + 1) := by omega
                have a3 : ((f : Int) + 1) ≤ (i : Int) := by omega
                have a4 : (((f : Int) + 1)).toNat = f + 1 := by omega
                go_upto_region 19 with fail
                have HW := Lib.hid (heap_alloc_new wo (.cells #[.int .i64 3, .string ⟨#[]⟩, .slice none 0 0] 96))
                have HBW := Lib.hid (alloc_bl wo (.cells #[.int .i64 3, .string ⟨#[]⟩, .slice none 0 0] 96))
                generalize wo.alloc (.cells #[.int .i64 3, .string ⟨#[]⟩, .slice none 0 0] 96) = W at *
                have hXs : (s.extract (f + 1) i).size ≤ 1000000 := by rw [extract_size _ _ _ hin]; omega
                go_wp2_with fail
                (with_reducible refine (rf_compile (s.extract (f + 1) i) W hXs).mono ?_)
                rintro e w1 ⟨u, rfl, hu, hb1'⟩
                have HN80 := Lib.hid (compF_len (toL (s.extract (f + 1) i)))
                rcases hcf : compF (toL (s.extract (f + 1) i)) with ⟨ps, n1, e1⟩
                have HCF := Lib.hid hcf
                rw [hcf] at hu HN80
                obtain ⟨tx, A', nn, cc, rfl, hrp⟩ := hu.shape'
                have hn80 := HN80.out.2.1
                simp only at hrp hn80 ⊢
                have HB1 := Lib.hid (HBW.out.trans (hb1'.mono HBW.out.size))
                have HX1 := Lib.hid ((hb1'.block _ (heap_lt HW.out)).trans HW.out)
                clear hcf hu HN80 hb1' HW hXs
                by_cases he : e1 = 0
                · subst he
                  have HRP := Lib.hid (hrp rfl)
                  have HGO := Lib.hid (lg_good HLG.out hfi HIN.out HC.out h64 HV.out HCF.out)
                  clear hrp HCF HBW HVL
                  go_upto_region 22 with fail
                  have HP2 := Lib.hid (heap_alloc_new w1 (.cells #[.string tx, .slice A' nn cc] 29))
                  have HB2 := Lib.hid (alloc_bl w1 (.cells #[.string tx, .slice A' nn cc] 29))
                  have HX2 := Lib.hid ((HB2.out.block _ (heap_lt HX1.out)).trans HX1.out)
                  have HRP2 := Lib.hid (HRP.out.below HB2.out)
                  have HBB := Lib.hid (HB1.out.trans (HB2.out.mono HB1.out.size))
                  clear HB1 HX1 HRP HB2
                  generalize w1.alloc (.cells #[.string tx, .slice A' nn cc] 29) = W2 at *
                  go_upto_region 23 with (first | (refine wpList_loadP rfl _ rfl HP2.out rfl ?_) | (refine wpList_storeI rfl _ _ rfl HX2.out rfl rfl rfl rfl ?_; intro W3 hX3 hB3 hG3))
                  have HRP3 := Lib.hid (HRP2.out.kept hG3 (fun g e => by injection e with e; subst e; exact ⟨_, _, _, HX2.out, by decide⟩))
                  have HR3 := Lib.hid (HR.out.below (HBB.out.trans (hB3 _ (Nat.le_refl _))))
                  have hown := HR3.out.own
                  have hbs := HR3.out.bel.size
                  have h1c : ∀ u ∈ (#[.int .i64 3, .string tx, .slice A' nn cc] : Array Value).toList, u.oneCell' = true := by simp [Value.oneCell']
                  clear HP2 HX2 HBB HRP2 hB3 hG3
                  go_wp2_with (first | (refine wpList_loadI rfl _ rfl hX3 rfl ?_) | (at_builtin; refine wpList_push el_I rfl _ _ rfl hown #[.int .i64 3, .string tx, .slice A' nn cc] rfl rfl rfl h1c hb1 hb2 hbs ?_; intro g cap w4 hown4 hg4 hat4))
                  have HF := Lib.hid (HR3.out.push (e := (ps, 3)) hown4 HRP3.out hg4)
                  go_roundw
                  case rel => exact ⟨i + 1, i + 1, _, es ++ [(ps, 3)], by omega, by omega, by go_num, by go_num, by simp; omega, HGO.out, HF.out⟩
                  case measure => simp [intOf] <;> omega
                · have HZ := Lib.hid (lg_bad HLG.out HIN.out HC.out h64 HV.out HVL.out (by omega) HCF.out he)
                  have g5 : (e1 != 0) = true := by simp [bne, he]
                  have HBZ := Lib.hid (HR.out.bel.trans (HB1.out.mono HR.out.bel.size))
                  have HBY := Lib.hid (HBZ.out.trans ((alloc_bl w1 (.cells #[.string tx, .slice A' nn cc] 29)).mono HBZ.out.size))
                  have HE0 := Lib.hid he
                  clear hrp he HBZ
                  go_wp2_with fail
                  go_ret3
                  exact rlist_no HZ.out HE0.out HBY.out _ (by omega)
              · have q2 : (num (s[f]'hfs) == 64) = false := by
                  have := eq_num (s[f]'hfs) 64; rw [show num 64 = 64 from rfl] at this; rw [this]; exact beq_eq_false_iff_ne.2 e64
                have HV := Lib.hid (verd_no hfi' hin e33 e64)
                have HVL := Lib.hid (verd_len (s := s) (f := f) (a := f) (i := i) (by omega) (by omega) hin)
                clear e33 e64
                have a0 : (0 : Int) ≤ ((f : Nat) : Int) := by omega
                have a1 : ((f : Nat) : Int) ≤ (i : Int) := by omega
                have a2 : (0 : Int) ≤ (f : Int) := by omega
                have a3 : (f : Int) ≤ (i : Int) := by omega
                have a4 : ((f : Int)).toNat = f := by omega
                go_upto_region 19 with fail
                have HW := Lib.hid (heap_alloc_new wo (.cells #[.int .i64 1, .string ⟨#[]⟩, .slice none 0 0] 96))
                have HBW := Lib.hid (alloc_bl wo (.cells #[.int .i64 1, .string ⟨#[]⟩, .slice none 0 0] 96))
                generalize wo.alloc (.cells #[.int .i64 1, .string ⟨#[]⟩, .slice none 0 0] 96) = W at *
                have hXs : (s.extract (f) i).size ≤ 1000000 := by rw [extract_size _ _ _ hin]; omega
                go_wp2_with fail
                (with_reducible refine (rf_compile (s.extract (f) i) W hXs).mono ?_)
                rintro e w1 ⟨u, rfl, hu, hb1'⟩
                have HN80 := Lib.hid (compF_len (toL (s.extract (f) i)))
                rcases hcf : compF (toL (s.extract (f) i)) with ⟨ps, n1, e1⟩
                have HCF := Lib.hid hcf
                rw [hcf] at hu HN80
                obtain ⟨tx, A', nn, cc, rfl, hrp⟩ := hu.shape'
                have hn80 := HN80.out.2.1
                simp only at hrp hn80 ⊢
                have HB1 := Lib.hid (HBW.out.trans (hb1'.mono HBW.out.size))
                have HX1 := Lib.hid ((hb1'.block _ (heap_lt HW.out)).trans HW.out)
                clear hcf hu HN80 hb1' HW hXs
                by_cases he : e1 = 0
                · subst he
                  have HRP := Lib.hid (hrp rfl)
                  have HGO := Lib.hid (lg_good HLG.out hfi HIN.out HC.out h64 HV.out HCF.out)
                  clear hrp HCF HBW HVL
                  go_upto_region 22 with fail
                  have HP2 := Lib.hid (heap_alloc_new w1 (.cells #[.string tx, .slice A' nn cc] 29))
                  have HB2 := Lib.hid (alloc_bl w1 (.cells #[.string tx, .slice A' nn cc] 29))
                  have HX2 := Lib.hid ((HB2.out.block _ (heap_lt HX1.out)).trans HX1.out)
                  have HRP2 := Lib.hid (HRP.out.below HB2.out)
                  have HBB := Lib.hid (HB1.out.trans (HB2.out.mono HB1.out.size))
                  clear HB1 HX1 HRP HB2
                  generalize w1.alloc (.cells #[.string tx, .slice A' nn cc] 29) = W2 at *
                  go_upto_region 23 with (first | (refine wpList_loadP rfl _ rfl HP2.out rfl ?_) | (refine wpList_storeI rfl _ _ rfl HX2.out rfl rfl rfl rfl ?_; intro W3 hX3 hB3 hG3))
                  have HRP3 := Lib.hid (HRP2.out.kept hG3 (fun g e => by injection e with e; subst e; exact ⟨_, _, _, HX2.out, by decide⟩))
                  have HR3 := Lib.hid (HR.out.below (HBB.out.trans (hB3 _ (Nat.le_refl _))))
                  have hown := HR3.out.own
                  have hbs := HR3.out.bel.size
                  have h1c : ∀ u ∈ (#[.int .i64 1, .string tx, .slice A' nn cc] : Array Value).toList, u.oneCell' = true := by simp [Value.oneCell']
                  clear HP2 HX2 HBB HRP2 hB3 hG3
                  go_wp2_with (first | (refine wpList_loadI rfl _ rfl hX3 rfl ?_) | (at_builtin; refine wpList_push el_I rfl _ _ rfl hown #[.int .i64 1, .string tx, .slice A' nn cc] rfl rfl rfl h1c hb1 hb2 hbs ?_; intro g cap w4 hown4 hg4 hat4))
                  have HF := Lib.hid (HR3.out.push (e := (ps, 1)) hown4 HRP3.out hg4)
                  go_roundw
                  case rel => exact ⟨i + 1, i + 1, _, es ++ [(ps, 1)], by omega, by omega, by go_num, by go_num, by simp; omega, HGO.out, HF.out⟩
                  case measure => simp [intOf] <;> omega
                · have HZ := Lib.hid (lg_bad HLG.out HIN.out HC.out h64 HV.out HVL.out (by omega) HCF.out he)
                  have g5 : (e1 != 0) = true := by simp [bne, he]
                  have HBZ := Lib.hid (HR.out.bel.trans (HB1.out.mono HR.out.bel.size))
                  have HBY := Lib.hid (HBZ.out.trans ((alloc_bl w1 (.cells #[.string tx, .slice A' nn cc] 29)).mono HBZ.out.size))
                  have HE0 := Lib.hid he
                  clear hrp he HBZ
                  go_wp2_with fail
                  go_ret3
                  exact rlist_no HZ.out HE0.out HBY.out _ (by omega)
            · have f1 : (i : Int) ≤ (f : Int) := by omega
              have HV := Lib.hid (verd_nil (s := s) (f := f) (i := i) (by omega))
              have HVL := Lib.hid (verd_len (s := s) (f := f) (a := f) (i := i) (by omega) (by omega) hin)
              have a0 : (0 : Int) ≤ ((f : Nat) : Int) := by omega
              have a1 : ((f : Nat) : Int) ≤ (i : Int) := by omega
              have a2 : (0 : Int) ≤ (f : Int) := by omega
              have a3 : (f : Int) ≤ (i : Int) := by omega
              have a4 : ((f : Int)).toNat = f := by omega
              go_upto_region 19 with fail
              have HW := Lib.hid (heap_alloc_new wo (.cells #[.int .i64 1, .string ⟨#[]⟩, .slice none 0 0] 96))
              have HBW := Lib.hid (alloc_bl wo (.cells #[.int .i64 1, .string ⟨#[]⟩, .slice none 0 0] 96))
              generalize wo.alloc (.cells #[.int .i64 1, .string ⟨#[]⟩, .slice none 0 0] 96) = W at *
              have hXs : (s.extract (f) i).size ≤ 1000000 := by rw [extract_size _ _ _ hin]; omega
              go_wp2_with fail
              (with_reducible refine (rf_compile (s.extract (f) i) W hXs).mono ?_)
              rintro e w1 ⟨u, rfl, hu, hb1'⟩
              have HN80 := Lib.hid (compF_len (toL (s.extract (f) i)))
              rcases hcf : compF (toL (s.extract (f) i)) with ⟨ps, n1, e1⟩
              have HCF := Lib.hid hcf
              rw [hcf] at hu HN80
              obtain ⟨tx, A', nn, cc, rfl, hrp⟩ := hu.shape'
              have hn80 := HN80.out.2.1
              simp only at hrp hn80 ⊢
              have HB1 := Lib.hid (HBW.out.trans (hb1'.mono HBW.out.size))
              have HX1 := Lib.hid ((hb1'.block _ (heap_lt HW.out)).trans HW.out)
              clear hcf hu HN80 hb1' HW hXs
              by_cases he : e1 = 0
              · subst he
                have HRP := Lib.hid (hrp rfl)
                have HGO := Lib.hid (lg_good HLG.out hfi HIN.out HC.out h64 HV.out HCF.out)
                clear hrp HCF HBW HVL
                go_upto_region 22 with fail
                have HP2 := Lib.hid (heap_alloc_new w1 (.cells #[.string tx, .slice A' nn cc] 29))
                have HB2 := Lib.hid (alloc_bl w1 (.cells #[.string tx, .slice A' nn cc] 29))
                have HX2 := Lib.hid ((HB2.out.block _ (heap_lt HX1.out)).trans HX1.out)
                have HRP2 := Lib.hid (HRP.out.below HB2.out)
                have HBB := Lib.hid (HB1.out.trans (HB2.out.mono HB1.out.size))
                clear HB1 HX1 HRP HB2
                generalize w1.alloc (.cells #[.string tx, .slice A' nn cc] 29) = W2 at *
                go_upto_region 23 with (first | (refine wpList_loadP rfl _ rfl HP2.out rfl ?_) | (refine wpList_storeI rfl _ _ rfl HX2.out rfl rfl rfl rfl ?_; intro W3 hX3 hB3 hG3))
                have HRP3 := Lib.hid (HRP2.out.kept hG3 (fun g e => by injection e with e; subst e; exact ⟨_, _, _, HX2.out, by decide⟩))
                have HR3 := Lib.hid (HR.out.below (HBB.out.trans (hB3 _ (Nat.le_refl _))))
                have hown := HR3.out.own
                have hbs := HR3.out.bel.size
                have h1c : ∀ u ∈ (#[.int .i64 1, .string tx, .slice A' nn cc] : Array Value).toList, u.oneCell' = true := by simp [Value.oneCell']
                clear HP2 HX2 HBB HRP2 hB3 hG3
                go_wp2_with (first | (refine wpList_loadI rfl _ rfl hX3 rfl ?_) | (at_builtin; refine wpList_push el_I rfl _ _ rfl hown #[.int .i64 1, .string tx, .slice A' nn cc] rfl rfl rfl h1c hb1 hb2 hbs ?_; intro g cap w4 hown4 hg4 hat4))
                have HF := Lib.hid (HR3.out.push (e := (ps, 1)) hown4 HRP3.out hg4)
                go_roundw
                case rel => exact ⟨i + 1, i + 1, _, es ++ [(ps, 1)], by omega, by omega, by go_num, by go_num, by simp; omega, HGO.out, HF.out⟩
                case measure => simp [intOf] <;> omega
              · have HZ := Lib.hid (lg_bad HLG.out HIN.out HC.out h64 HV.out HVL.out (by omega) HCF.out he)
                have g5 : (e1 != 0) = true := by simp [bne, he]
                have HBZ := Lib.hid (HR.out.bel.trans (HB1.out.mono HR.out.bel.size))
                have HBY := Lib.hid (HBZ.out.trans ((alloc_bl w1 (.cells #[.string tx, .slice A' nn cc] 29)).mono HBZ.out.size))
                have HE0 := Lib.hid he
                clear hrp he HBZ
                go_wp2_with fail
                go_ret3
                exact rlist_no HZ.out HE0.out HBY.out _ (by omega)
        · by_cases h64 : es.length = 64
          · have HZ := Lib.hid (lg_full HLG.out HIN.out HC.out h64)
            have g64 : ((es.length : Int) == 64) = true := by rw [beq_iff_eq]; omega
            clear h64
            go_wp2_with fail
            go_ret3
            exact rlist_no HZ.out (by decide) HR.out.bel _ rfl
          · have g64 : ((es.length : Int) == 64) = false := beq_eq_false_iff_ne.2 (by omega)
            have hb1 : (es.length + 1) * 48 ≤ 140737488355328 := by omega
            have hb2 : es.length + 1 ≤ maxLen := by unfold maxLen; omega
            by_cases hfi' : f < i
            · have f1 : (f : Int) < (i : Int) := by omega
              have f2 : (f : Int) < (s.size : Int) := by omega
              have hfs : f < s.size := by omega
              by_cases e33 : s[f]'hfs = 33
              · have q1 : (num (s[f]'hfs) == 33) = true := by rw [e33]; rfl
                have HV := Lib.hid (verd_33 hfi' hin e33)
                have HVL := Lib.hid (verd_len (s := s) (f := f) (a := f + 1) (i := i) (by omega) (by omega) hin)
                clear e33
                have a0 : (0 : Int) ≤ ((f + 1 : Nat) : Int) := by omega
                have a1 : ((f + 1 : Nat) : Int) ≤ (i : Int) := by omega
                have a2 : (0 : Int) ≤ ((f : Int) + 1) := by omega
                have a3 : ((f : Int) + 1) ≤ (i : Int) := by omega
                have a4 : (((f : Int) + 1)).toNat = f + 1 := by omega
                go_upto_region 19 with fail
                have HW := Lib.hid (heap_alloc_new wo (.cells #[.int .i64 2, .string ⟨#[]⟩, .slice none 0 0] 96))
                have HBW := Lib.hid (alloc_bl wo (.cells #[.int .i64 2, .string ⟨#[]⟩, .slice none 0 0] 96))
                generalize wo.alloc (.cells #[.int .i64 2, .string ⟨#[]⟩, .slice none 0 0] 96) = W at *
                have hXs : (s.extract (f + 1) i).size ≤ 1000000 := by rw [extract_size _ _ _ hin]; omega
                go_wp2_with fail
                (with_reducible refine (rf_compile (s.extract (f + 1) i) W hXs).mono ?_)
                rintro e w1 ⟨u, rfl, hu, hb1'⟩
                have HN80 := Lib.hid (compF_len (toL (s.extract (f + 1) i)))
                rcases hcf : compF (toL (s.extract (f + 1) i)) with ⟨ps, n1, e1⟩
                have HCF := Lib.hid hcf
                rw [hcf] at hu HN80
                obtain ⟨tx, A', nn, cc, rfl, hrp⟩ := hu.shape'
                have hn80 := HN80.out.2.1
                simp only at hrp hn80 ⊢
                have HB1 := Lib.hid (HBW.out.trans (hb1'.mono HBW.out.size))
                have HX1 := Lib.hid ((hb1'.block _ (heap_lt HW.out)).trans HW.out)
                clear hcf hu HN80 hb1' HW hXs
                by_cases he : e1 = 0
                · subst he
                  have HRP := Lib.hid (hrp rfl)
                  have HGO := Lib.hid (lg_good HLG.out hfi HIN.out HC.out h64 HV.out HCF.out)
                  clear hrp HCF HBW HVL
                  go_upto_region 22 with fail
                  have HP2 := Lib.hid (heap_alloc_new w1 (.cells #[.string tx, .slice A' nn cc] 29))
                  have HB2 := Lib.hid (alloc_bl w1 (.cells #[.string tx, .slice A' nn cc] 29))
                  have HX2 := Lib.hid ((HB2.out.block _ (heap_lt HX1.out)).trans HX1.out)
                  have HRP2 := Lib.hid (HRP.out.below HB2.out)
                  have HBB := Lib.hid (HB1.out.trans (HB2.out.mono HB1.out.size))
                  clear HB1 HX1 HRP HB2
                  generalize w1.alloc (.cells #[.string tx, .slice A' nn cc] 29) = W2 at *
                  go_upto_region 23 with (first | (refine wpList_loadP rfl _ rfl HP2.out rfl ?_) | (refine wpList_storeI rfl _ _ rfl HX2.out rfl rfl rfl rfl ?_; intro W3 hX3 hB3 hG3))
                  have HRP3 := Lib.hid (HRP2.out.kept hG3 (fun g e => by injection e with e; subst e; exact ⟨_, _, _, HX2.out, by decide⟩))
                  have HR3 := Lib.hid (HR.out.below (HBB.out.trans (hB3 _ (Nat.le_refl _))))
                  have hown := HR3.out.own
                  have hbs := HR3.out.bel.size
                  have h1c : ∀ u ∈ (#[.int .i64 2, .string tx, .slice A' nn cc] : Array Value).toList, u.oneCell' = true := by simp [Value.oneCell']
                  clear HP2 HX2 HBB HRP2 hB3 hG3
                  go_wp2_with (first | (refine wpList_loadI rfl _ rfl hX3 rfl ?_) | (at_builtin; refine wpList_push el_I rfl _ _ rfl hown #[.int .i64 2, .string tx, .slice A' nn cc] rfl rfl rfl h1c hb1 hb2 hbs ?_; intro g cap w4 hown4 hg4 hat4))
                  have HF := Lib.hid (HR3.out.push (e := (ps, 2)) hown4 HRP3.out hg4)
                  go_roundw
                  case rel => exact ⟨i + 1, i + 1, _, es ++ [(ps, 2)], by omega, by omega, by go_num, by go_num, by simp; omega, HGO.out, HF.out⟩
                  case measure => simp [intOf] <;> omega
                · have HZ := Lib.hid (lg_bad HLG.out HIN.out HC.out h64 HV.out HVL.out (by omega) HCF.out he)
                  have g5 : (e1 != 0) = true := by simp [bne, he]
                  have HBZ := Lib.hid (HR.out.bel.trans (HB1.out.mono HR.out.bel.size))
                  have HBY := Lib.hid (HBZ.out.trans ((alloc_bl w1 (.cells #[.string tx, .slice A' nn cc] 29)).mono HBZ.out.size))
                  have HE0 := Lib.hid he
                  clear hrp he HBZ
                  go_wp2_with fail
                  go_ret3
                  exact rlist_no HZ.out HE0.out HBY.out _ (by omega)
              have q1 : (num (s[f]'hfs) == 33) = false := by
                have := eq_num (s[f]'hfs) 33; rw [show num 33 = 33 from rfl] at this; rw [this]; exact beq_eq_false_iff_ne.2 e33
              by_cases e64 : s[f]'hfs = 64
              · have q2 : (num (s[f]'hfs) == 64) = true := by rw [e64]; rfl
                have HV := Lib.hid (verd_64 hfi' hin e64)
                have HVL := Lib.hid (verd_len (s := s) (f := f) (a := f + 1) (i := i) (by omega) (by omega) hin)
                clear e33 e64
                have a0 : (0 : Int) ≤ ((f + 1 : Nat) : Int) := by omega
                have a1 : ((f + 1 : Nat) : Int) ≤ (i : Int) := by omega
                have a2 : (0 : Int) ≤ ((f : Int) + 1) := by omega
                have a3 : ((f : Int) + 1) ≤ (i : Int) := by omega
                have a4 : (((f : Int) + 1)).toNat = f + 1 := by omega
                go_upto_region 19 with fail
                have HW := Lib.hid (heap_alloc_new wo (.cells #[.int .i64 3, .string ⟨#[]⟩, .slice none 0 0] 96))
                have HBW := Lib.hid (alloc_bl wo (.cells #[.int .i64 3, .string ⟨#[]⟩, .slice none 0 0] 96))
                generalize wo.alloc (.cells #[.int .i64 3, .string ⟨#[]⟩, .slice none 0 0] 96) = W at *
                have hXs : (s.extract (f + 1) i).size ≤ 1000000 := by rw [extract_size _ _ _ hin]; omega
                go_wp2_with fail
                (with_reducible refine (rf_compile (s.extract (f + 1) i) W hXs).mono ?_)
                rintro e w1 ⟨u, rfl, hu, hb1'⟩
                have HN80 := Lib.hid (compF_len (toL (s.extract (f + 1) i)))
                rcases hcf : compF (toL (s.extract (f + 1) i)) with ⟨ps, n1, e1⟩
                have HCF := Lib.hid hcf
                rw [hcf] at hu HN80
                obtain ⟨tx, A', nn, cc, rfl, hrp⟩ := hu.shape'
                have hn80 := HN80.out.2.1
                simp only at hrp hn80 ⊢
                have HB1 := Lib.hid (HBW.out.trans (hb1'.mono HBW.out.size))
                have HX1 := Lib.hid ((hb1'.block _ (heap_lt HW.out)).trans HW.out)
                clear hcf hu HN80 hb1' HW hXs
                by_cases he : e1 = 0
                · subst he
                  have HRP := Lib.hid (hrp rfl)
                  have HGO := Lib.hid (lg_good HLG.out hfi HIN.out HC.out h64 HV.out HCF.out)
                  clear hrp HCF HBW HVL
                  go_upto_region 22 with fail
                  have HP2 := Lib.hid (heap_alloc_new w1 (.cells #[.string tx, .slice A' nn cc] 29))
                  have HB2 := Lib.hid (alloc_bl w1 (.cells #[.string tx, .slice A' nn cc] 29))
                  have HX2 := Lib.hid ((HB2.out.block _ (heap_lt HX1.out)).trans HX1.out)
                  have HRP2 := Lib.hid (HRP.out.below HB2.out)
                  have HBB := Lib.hid (HB1.out.trans (HB2.out.mono HB1.out.size))
                  clear HB1 HX1 HRP HB2
                  generalize w1.alloc (.cells #[.string tx, .slice A' nn cc] 29) = W2 at *
                  go_upto_region 23 with (first | (refine wpList_loadP rfl _ rfl HP2.out rfl ?_) | (refine wpList_storeI rfl _ _ rfl HX2.out rfl rfl rfl rfl ?_; intro W3 hX3 hB3 hG3))
                  have HRP3 := Lib.hid (HRP2.out.kept hG3 (fun g e => by injection e with e; subst e; exact ⟨_, _, _, HX2.out, by decide⟩))
                  have HR3 := Lib.hid (HR.out.below (HBB.out.trans (hB3 _ (Nat.le_refl _))))
                  have hown := HR3.out.own
                  have hbs := HR3.out.bel.size
                  have h1c : ∀ u ∈ (#[.int .i64 3, .string tx, .slice A' nn cc] : Array Value).toList, u.oneCell' = true := by simp [Value.oneCell']
                  clear HP2 HX2 HBB HRP2 hB3 hG3
                  go_wp2_with (first | (refine wpList_loadI rfl _ rfl hX3 rfl ?_) | (at_builtin; refine wpList_push el_I rfl _ _ rfl hown #[.int .i64 3, .string tx, .slice A' nn cc] rfl rfl rfl h1c hb1 hb2 hbs ?_; intro g cap w4 hown4 hg4 hat4))
                  have HF := Lib.hid (HR3.out.push (e := (ps, 3)) hown4 HRP3.out hg4)
                  go_roundw
                  case rel => exact ⟨i + 1, i + 1, _, es ++ [(ps, 3)], by omega, by omega, by go_num, by go_num, by simp; omega, HGO.out, HF.out⟩
                  case measure => simp [intOf] <;> omega
                · have HZ := Lib.hid (lg_bad HLG.out HIN.out HC.out h64 HV.out HVL.out (by omega) HCF.out he)
                  have g5 : (e1 != 0) = true := by simp [bne, he]
                  have HBZ := Lib.hid (HR.out.bel.trans (HB1.out.mono HR.out.bel.size))
                  have HBY := Lib.hid (HBZ.out.trans ((alloc_bl w1 (.cells #[.string tx, .slice A' nn cc] 29)).mono HBZ.out.size))
                  have HE0 := Lib.hid he
                  clear hrp he HBZ
                  go_wp2_with fail
                  go_ret3
                  exact rlist_no HZ.out HE0.out HBY.out _ (by omega)
              · have q2 : (num (s[f]'hfs) == 64) = false := by
                  have := eq_num (s[f]'hfs) 64; rw [show num 64 = 64 from rfl] at this; rw [this]; exact beq_eq_false_iff_ne.2 e64
                have HV := Lib.hid (verd_no hfi' hin e33 e64)
                have HVL := Lib.hid (verd_len (s := s) (f := f) (a := f) (i := i) (by omega) (by omega) hin)
                clear e33 e64
                have a0 : (0 : Int) ≤ ((f : Nat) : Int) := by omega
                have a1 : ((f : Nat) : Int) ≤ (i : Int) := by omega
                have a2 : (0 : Int) ≤ (f : Int) := by omega
                have a3 : (f : Int) ≤ (i : Int) := by omega
                have a4 : ((f : Int)).toNat = f := by omega
                go_upto_region 19 with fail
                have HW := Lib.hid (heap_alloc_new wo (.cells #[.int .i64 1, .string ⟨#[]⟩, .slice none 0 0] 96))
                have HBW := Lib.hid (alloc_bl wo (.cells #[.int .i64 1, .string ⟨#[]⟩, .slice none 0 0] 96))
                generalize wo.alloc (.cells #[.int .i64 1, .string ⟨#[]⟩, .slice none 0 0] 96) = W at *
                have hXs : (s.extract (f) i).size ≤ 1000000 := by rw [extract_size _ _ _ hin]; omega
                go_wp2_with fail
                (with_reducible refine (rf_compile (s.extract (f) i) W hXs).mono ?_)
                rintro e w1 ⟨u, rfl, hu, hb1'⟩
                have HN80 := Lib.hid (compF_len (toL (s.extract (f) i)))
                rcases hcf : compF (toL (s.extract (f) i)) with ⟨ps, n1, e1⟩
                have HCF := Lib.hid hcf
                rw [hcf] at hu HN80
                obtain ⟨tx, A', nn, cc, rfl, hrp⟩ := hu.shape'
                have hn80 := HN80.out.2.1
                simp only at hrp hn80 ⊢
                have HB1 := Lib.hid (HBW.out.trans (hb1'.mono HBW.out.size))
                have HX1 := Lib.hid ((hb1'.block _ (heap_lt HW.out)).trans HW.out)
                clear hcf hu HN80 hb1' HW hXs
                by_cases he : e1 = 0
                · subst he
                  have HRP := Lib.hid (hrp rfl)
                  have HGO := Lib.hid (lg_good HLG.out hfi HIN.out HC.out h64 HV.out HCF.out)
                  clear hrp HCF HBW HVL
                  go_upto_region 22 with fail
                  have HP2 := Lib.hid (heap_alloc_new w1 (.cells #[.string tx, .slice A' nn cc] 29))
                  have HB2 := Lib.hid (alloc_bl w1 (.cells #[.string tx, .slice A' nn cc] 29))
                  have HX2 := Lib.hid ((HB2.out.block _ (heap_lt HX1.out)).trans HX1.out)
                  have HRP2 := Lib.hid (HRP.out.below HB2.out)
                  have HBB := Lib.hid (HB1.out.trans (HB2.out.mono HB1.out.size))
                  clear HB1 HX1 HRP HB2
                  generalize w1.alloc (.cells #[.string tx, .slice A' nn cc] 29) = W2 at *
                  go_upto_region 23 with (first | (refine wpList_loadP rfl _ rfl HP2.out rfl ?_) | (refine wpList_storeI rfl _ _ rfl HX2.out rfl rfl rfl rfl ?_; intro W3 hX3 hB3 hG3))
                  have HRP3 := Lib.hid (HRP2.out.kept hG3 (fun g e => by injection e with e; subst e; exact ⟨_, _, _, HX2.out, by decide⟩))
                  have HR3 := Lib.hid (HR.out.below (HBB.out.trans (hB3 _ (Nat.le_refl _))))
                  have hown := HR3.out.own
                  have hbs := HR3.out.bel.size
                  have h1c : ∀ u ∈ (#[.int .i64 1, .string tx, .slice A' nn cc] : Array Value).toList, u.oneCell' = true := by simp [Value.oneCell']
                  clear HP2 HX2 HBB HRP2 hB3 hG3
                  go_wp2_with (first | (refine wpList_loadI rfl _ rfl hX3 rfl ?_) | (at_builtin; refine wpList_push el_I rfl _ _ rfl hown #[.int .i64 1, .string tx, .slice A' nn cc] rfl rfl rfl h1c hb1 hb2 hbs ?_; intro g cap w4 hown4 hg4 hat4))
                  have HF := Lib.hid (HR3.out.push (e := (ps, 1)) hown4 HRP3.out hg4)
                  go_roundw
                  case rel => exact ⟨i + 1, i + 1, _, es ++ [(ps, 1)], by omega, by omega, by go_num, by go_num, by simp; omega, HGO.out, HF.out⟩
                  case measure => simp [intOf] <;> omega
                · have HZ := Lib.hid (lg_bad HLG.out HIN.out HC.out h64 HV.out HVL.out (by omega) HCF.out he)
                  have g5 : (e1 != 0) = true := by simp [bne, he]
                  have HBZ := Lib.hid (HR.out.bel.trans (HB1.out.mono HR.out.bel.size))
                  have HBY := Lib.hid (HBZ.out.trans ((alloc_bl w1 (.cells #[.string tx, .slice A' nn cc] 29)).mono HBZ.out.size))
                  have HE0 := Lib.hid he
                  clear hrp he HBZ
                  go_wp2_with fail
                  go_ret3
                  exact rlist_no HZ.out HE0.out HBY.out _ (by omega)
            · have f1 : (i : Int) ≤ (f : Int) := by omega
              have HV := Lib.hid (verd_nil (s := s) (f := f) (i := i) (by omega))
              have HVL := Lib.hid (verd_len (s := s) (f := f) (a := f) (i := i) (by omega) (by omega) hin)
              have a0 : (0 : Int) ≤ ((f : Nat) : Int) := by omega
              have a1 : ((f : Nat) : Int) ≤ (i : Int) := by omega
              have a2 : (0 : Int) ≤ (f : Int) := by omega
              have a3 : (f : Int) ≤ (i : Int) := by omega
              have a4 : ((f : Int)).toNat = f := by omega
              go_upto_region 19 with fail
              have HW := Lib.hid (heap_alloc_new wo (.cells #[.int .i64 1, .string ⟨#[]⟩, .slice none 0 0] 96))
              have HBW := Lib.hid (alloc_bl wo (.cells #[.int .i64 1, .string ⟨#[]⟩, .slice none 0 0] 96))
              generalize wo.alloc (.cells #[.int .i64 1, .string ⟨#[]⟩, .slice none 0 0] 96) = W at *
              have hXs : (s.extract (f) i).size ≤ 1000000 := by rw [extract_size _ _ _ hin]; omega
              go_wp2_with fail
              (with_reducible refine (rf_compile (s.extract (f) i) W hXs).mono ?_)
              rintro e w1 ⟨u, rfl, hu, hb1'⟩
              have HN80 := Lib.hid (compF_len (toL (s.extract (f) i)))
              rcases hcf : compF (toL (s.extract (f) i)) with ⟨ps, n1, e1⟩
              have HCF := Lib.hid hcf
              rw [hcf] at hu HN80
              obtain ⟨tx, A', nn, cc, rfl, hrp⟩ := hu.shape'
              have hn80 := HN80.out.2.1
              simp only at hrp hn80 ⊢
              have HB1 := Lib.hid (HBW.out.trans (hb1'.mono HBW.out.size))
              have HX1 := Lib.hid ((hb1'.block _ (heap_lt HW.out)).trans HW.out)
              clear hcf hu HN80 hb1' HW hXs
              by_cases he : e1 = 0
              · subst he
                have HRP := Lib.hid (hrp rfl)
                have HGO := Lib.hid (lg_good HLG.out hfi HIN.out HC.out h64 HV.out HCF.out)
                clear hrp HCF HBW HVL
                go_upto_region 22 with fail
                have HP2 := Lib.hid (heap_alloc_new w1 (.cells #[.string tx, .slice A' nn cc] 29))
                have HB2 := Lib.hid (alloc_bl w1 (.cells #[.string tx, .slice A' nn cc] 29))
                have HX2 := Lib.hid ((HB2.out.block _ (heap_lt HX1.out)).trans HX1.out)
                have HRP2 := Lib.hid (HRP.out.below HB2.out)
                have HBB := Lib.hid (HB1.out.trans (HB2.out.mono HB1.out.size))
                clear HB1 HX1 HRP HB2
                generalize w1.alloc (.cells #[.string tx, .slice A' nn cc] 29) = W2 at *
                go_upto_region 23 with (first | (refine wpList_loadP rfl _ rfl HP2.out rfl ?_) | (refine wpList_storeI rfl _ _ rfl HX2.out rfl rfl rfl rfl ?_; intro W3 hX3 hB3 hG3))
                have HRP3 := Lib.hid (HRP2.out.kept hG3 (fun g e => by injection e with e; subst e; exact ⟨_, _, _, HX2.out, by decide⟩))
                have HR3 := Lib.hid (HR.out.below (HBB.out.trans (hB3 _ (Nat.le_refl _))))
                have hown := HR3.out.own
                have hbs := HR3.out.bel.size
                have h1c : ∀ u ∈ (#[.int .i64 1, .string tx, .slice A' nn cc] : Array Value).toList, u.oneCell' = true := by simp [Value.oneCell']
                clear HP2 HX2 HBB HRP2 hB3 hG3
                go_wp2_with (first | (refine wpList_loadI rfl _ rfl hX3 rfl ?_) | (at_builtin; refine wpList_push el_I rfl _ _ rfl hown #[.int .i64 1, .string tx, .slice A' nn cc] rfl rfl rfl h1c hb1 hb2 hbs ?_; intro g cap w4 hown4 hg4 hat4))
                have HF := Lib.hid (HR3.out.push (e := (ps, 1)) hown4 HRP3.out hg4)
                go_roundw
                case rel => exact ⟨i + 1, i + 1, _, es ++ [(ps, 1)], by omega, by omega, by go_num, by go_num, by simp; omega, HGO.out, HF.out⟩
                case measure => simp [intOf] <;> omega
              · have HZ := Lib.hid (lg_bad HLG.out HIN.out HC.out h64 HV.out HVL.out (by omega) HCF.out he)
                have g5 : (e1 != 0) = true := by simp [bne, he]
                have HBZ := Lib.hid (HR.out.bel.trans (HB1.out.mono HR.out.bel.size))
                have HBY := Lib.hid (HBZ.out.trans ((alloc_bl w1 (.cells #[.string tx, .slice A' nn cc] 29)).mono HBZ.out.size))
                have HE0 := Lib.hid he
                clear hrp he HBZ
                go_wp2_with fail
                go_ret3
                exact rlist_no HZ.out HE0.out HBY.out _ (by omega)
    · obtain rfl : i = s.size + 1 := by omega
      have HZ := Lib.hid (lg_end (by rw [HL.out]; exact HLG.out))
      have g1 : (s.size : Int) < ((s.size + 1 : Nat) : Int) := by omega
      have g2 : (s.size : Int) < (s.size : Int) + 1 := by omega
      go_wp2_with fail
      go_ret3
      exact rlist_yes HZ.out HR.out
end Go.Proofs.YtmiieifcefgedaaDoor
