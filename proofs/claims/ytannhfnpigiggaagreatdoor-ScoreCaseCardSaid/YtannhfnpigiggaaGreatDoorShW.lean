/- The law's conversions of an input: short, to, back. -/
import Derived.Test.YtannhfnpigiggaaGreatDoorPs40
import Derived.Deep.RegionLaw
import Derived.Deep.AppendLies
import Derived.Deep.WholeRow
import Derived.Deep.RegionHeld3
namespace Go.Proofs.YtannhfnpigiggaaGreatDoor
set_option linter.unusedSimpArgs false
set_option linter.unusedVariables false
open Go.RowKit
attribute [local go_sem] run_store

abbrev auA (f : Nat → Int) : Array Value := #[.int .u8 (f 0), .int .u8 (f 1), .int .u8 (f 2), .int .u8 (f 3), .int .u8 (f 4), .int .u8 (f 5), .int .u8 (f 6), .int .u8 (f 7), .int .u8 (f 8), .int .u8 (f 9), .int .u8 (f 10), .int .u8 (f 11), .int .u8 (f 12), .int .u8 (f 13), .int .u8 (f 14), .int .u8 (f 15)]
abbrev inX (N S B : ByteArray) (f : Nat → Int) (G : Value) (a b c d e : Int) : Array Value := #[.string N, .string S, .string B, .int .u8 (f 0), .int .u8 (f 1), .int .u8 (f 2), .int .u8 (f 3), .int .u8 (f 4), .int .u8 (f 5), .int .u8 (f 6), .int .u8 (f 7), .int .u8 (f 8), .int .u8 (f 9), .int .u8 (f 10), .int .u8 (f 11), .int .u8 (f 12), .int .u8 (f 13), .int .u8 (f 14), .int .u8 (f 15), G, .int .i64 a, .int .i64 b, .int .i64 c, .int .i64 d, .int .i64 e]
abbrev inZ : Array Value := #[.string ⟨#[]⟩, .string ⟨#[]⟩, .string ⟨#[]⟩, .int .u8 0, .int .u8 0, .int .u8 0, .int .u8 0, .int .u8 0, .int .u8 0, .int .u8 0, .int .u8 0, .int .u8 0, .int .u8 0, .int .u8 0, .int .u8 0, .int .u8 0, .int .u8 0, .int .u8 0, .int .u8 0, .slice none 0 0, .int .i64 0, .int .i64 0, .int .i64 0, .int .i64 0, .int .i64 0]
set_option maxHeartbeats 2000000 in
theorem law_short (a : ByteArray) (ha : a.size ≤ maxLen) (n : Nat) (k : Int) (hk : k = (n : Int)) (w : World) (hn : n ≤ 1000000) : Calls Tryz.prog 12 #[.string a, .int .i64 k] w fun e w' => e = .returned (.string (a.extract 0 (min a.size n))) ∧ w = w' := by
  subst hk
  unfold maxLen at ha
  have hm : min (a.size : Int) (n : Int) = ((min a.size n : Nat) : Int) := by omega
  have h0 : (0 : Int) ≤ ((min a.size n : Nat) : Int) := by omega
  have h1 : ((min a.size n : Nat) : Int) ≤ (a.size : Int) := by omega
  have HT := Lib.hid (show (((min a.size n : Nat) : Int)).toNat = min a.size n from by omega)
  generalize min a.size n = m at *
  go_enter Tryz.func12, Tryz.ntmps12
  go_wp2_with fail
  go_ret
  exact ⟨rfl, rfl⟩
theorem short_toL (a : ByteArray) (n : Nat) : toL (a.extract 0 (min a.size n)) = (toL a).take n := by
  rw [extract_toL]
  unfold cutL
  rw [List.drop_zero, Nat.sub_zero]
  by_cases h : a.size ≤ n
  · rw [Nat.min_eq_left h, List.take_of_length_le (by rw [toL_length]; exact Nat.le_refl _), List.take_of_length_le (by rw [toL_length]; exact h)]
  · rw [Nat.min_eq_right (by omega)]
theorem au_range {w : World} {N S B : ByteArray} {f : Nat → Int} {G : Value} {a b c d e : Int} {p : Nat} {T : TypeId} {fr : Nat × Nat} (h : w.heap[p]? = some (.cells (inX N S B f G a b c d e) T fr)) : w.rangeAt p 3 (auA f).toList := fun j v hv => by
  rw [Lib.cell_of_heap h]
  have hj : j < 16 := (List.getElem?_eq_some_iff.1 hv).1
  have : ∀ i, i < 16 → (inX N S B f G a b c d e)[3 + i]? = (auA f).toList[i]? := by
    intro i hi
    match i, hi with
    | 0, _ => rfl
    | 1, _ => rfl
    | 2, _ => rfl
    | 3, _ => rfl
    | 4, _ => rfl
    | 5, _ => rfl
    | 6, _ => rfl
    | 7, _ => rfl
    | 8, _ => rfl
    | 9, _ => rfl
    | 10, _ => rfl
    | 11, _ => rfl
    | 12, _ => rfl
    | 13, _ => rfl
    | 14, _ => rfl
    | 15, _ => rfl
    | n + 16, h => omega
  rw [this j hj]; exact hv
/-- What a composite yields, as one word. -/
def OkBd (t : TypeId) (ps : Array (Nat × Value)) : Prop := ∃ u : Value, ∀ w, (Instr.build t ps).run Tryz.prog w = .ok u w
noncomputable def bdOf (t : TypeId) (ps : Array (Nat × Value)) : Value := by
  classical exact if h : OkBd t ps then h.choose else undef
theorem bd_of {t : TypeId} {ps : Array (Nat × Value)} {u : Value} (h : ∀ w, (Instr.build t ps).run Tryz.prog w = .ok u w) : OkBd t ps ∧ bdOf t ps = u := by
  have hk : OkBd t ps := ⟨u, h⟩
  refine ⟨hk, ?_⟩
  have h2 := (h default).symm.trans (hk.choose_spec default)
  unfold bdOf
  rw [dif_pos hk]
  injection h2 with h2 _
  exact h2.symm
theorem wp_bd {d : Option Tmp} {ty : TypeId} {pos : String} {af : Array Edge} {t : TypeId} {ps : Array (Nat × Operand)} {a : Act} {w : World} {K : Act → World → Prop} {Q : Exit → Act → World → Prop} {g : Option (Nat × Bool)} (h : OkBd t (ps.map fun (i, x) => (i, a.eval x))) :
    Oper.wp Tryz.prog { dst := d, op := .build t ps, type := ty, pos := pos, after := af, guard := g } a w K Q = K (a.put d (bdOf t (ps.map fun (i, x) => (i, a.eval x)))) w := by
  obtain ⟨u, hu⟩ := h
  rw [(bd_of hu).2]
  unfold Oper.wp execOp
  simp only [hu w, Sem.run_bind, Sem.run_pure, Result.andThen_ok]
  rfl
theorem run_bd {t : TypeId} {ps : Array (Nat × Value)} {w : World} (h : OkBd t ps) : (Instr.build t ps).run Tryz.prog w = .ok (bdOf t ps) w := by
  obtain ⟨u, hu⟩ := h
  rw [(bd_of hu).2]; exact hu w
theorem ex_bd {d : Option Tmp} {ty : TypeId} {pos : String} {af : Array Edge} {t : TypeId} {ps : Array (Nat × Operand)} {ρ : Operand → Value} {w : World} {g : Option (Nat × Bool)} (h : OkBd t (ps.map fun (i, x) => (i, ρ x))) :
    (execOp ρ { dst := d, op := .build t ps, type := ty, pos := pos, after := af, guard := g }).run Tryz.prog w = .ok (.value (bdOf t (ps.map fun (i, x) => (i, ρ x)))) w := by
  obtain ⟨u, hu⟩ := h
  rw [(bd_of hu).2]
  unfold execOp
  simp only [hu w, Sem.run_bind, Sem.run_pure, Result.andThen_ok]
attribute [local go_sem ↓] wp_bd ex_bd
set_option maxHeartbeats 16000000 in
set_option maxRecDepth 100000 in
/-- What is read of an input, in a later world. -/
abbrev InP (W : World) (b : Nat) (N S B : ByteArray) (L : List Value) (a c d e g : Int) (wx : World) : Prop := wx.cell? ⟨b, 0, none⟩ = some (.string N) ∧ wx.cell? ⟨b, 1, none⟩ = some (.string S) ∧ wx.cell? ⟨b, 2, none⟩ = some (.string B) ∧ wx.rangeAt b 3 L ∧ wx.cell? ⟨b, 20, none⟩ = some (.int .i64 a) ∧ wx.cell? ⟨b, 21, none⟩ = some (.int .i64 c) ∧ wx.cell? ⟨b, 22, none⟩ = some (.int .i64 d) ∧ wx.cell? ⟨b, 23, none⟩ = some (.int .i64 e) ∧ wx.cell? ⟨b, 24, none⟩ = some (.int .i64 g) ∧ Below W.heap.size W wx
theorem InP.alloc {W wx : World} {b : Nat} {N S B : ByteArray} {L : List Value} {a c d e g : Int} (h : InP W b N S B L a c d e g wx) (hz : b < W.heap.size) (o : Obj) : InP W b N S B L a c d e g (wx.alloc o) := by
  obtain ⟨h0, h1, h2, h3, h4, h5, h6, h7, h8, hb⟩ := h
  have hl := Nat.lt_of_lt_of_le hz hb.size
  have hblk : (wx.alloc o).heap[b]? = wx.heap[b]? := Lib.alloc_old wx o b hl
  refine ⟨?_, ?_, ?_, fun j v hv => ?_, ?_, ?_, ?_, ?_, ?_, hb.trans ((alloc_bel wx o).mono hb.size)⟩
  all_goals first
    | (rw [World.cell?_of_block hblk]; assumption)
    | (rw [World.cell?_of_block hblk]; exact h3 j v hv)
/-- What the load of the reference's input yields, as one word. -/
def OkRi (w : World) (v : Value) : Prop := ∃ u, (Instr.loadAt 35 v).run Tryz.prog w = .ok u w
noncomputable def riOf (w : World) (v : Value) : Value := by
  classical exact if h : OkRi w v then h.choose else undef
theorem ri_of {w : World} {v u : Value} (h : (Instr.loadAt 35 v).run Tryz.prog w = .ok u w) : OkRi w v ∧ riOf w v = u := by
  have hk : OkRi w v := ⟨u, h⟩
  refine ⟨hk, ?_⟩
  have h2 := h.symm.trans hk.choose_spec
  unfold riOf
  rw [dif_pos hk]
  injection h2 with h2 _
  exact h2.symm
theorem wp_load_ri {d : Option Tmp} {ty : TypeId} {pos : String} {af : Array Edge} {x : Operand} {a : Act} {w : World} {K : Act → World → Prop} {Q : Exit → Act → World → Prop} {g : Option (Nat × Bool)} (h : OkRi w (a.eval x)) :
    Oper.wp Tryz.prog { dst := d, op := .load 35 x, type := ty, pos := pos, after := af, guard := g } a w K Q = K (a.put d (riOf w (a.eval x))) w := by
  obtain ⟨u, hu⟩ := h
  rw [(ri_of hu).2]
  unfold Oper.wp execOp
  simp only [hu, Sem.run_bind, Sem.run_pure, Result.andThen_ok]
  rfl
attribute [local go_sem ↓] wp_load_ri
theorem to_ret {Q : Ending → World → Prop} {W : World} {r : Nat} {RK : Array Value} {T : Array Value} (hb : W.heap[r]? = some (.cells RK 35 (0, 0))) (hs : RK.size = 25)
    (t2 : T[2]? = some (.pointer (some ⟨r, 0, none⟩))) (hQ : Q (.returned (.agg RK)) W) :
    bodyPost Tryz.prog Tryz.f15 Q .ret { tmps := T, defers := [] } W := by
  have hl := run_loadVar_mid (P := Tryz.prog) W r 0 35 RK.toList _ (fun j v hv => by rw [Nat.zero_add, Lib.cell_of_heap hb]; simpa using hv) Tryz.underlying35 rfl (by rw [show RK.toList.length = 25 from by simpa using hs]; kernel_rfl)
  refine bodyPost_ret (v := .agg RK) ?_ rfl hQ
  simp only [Array.toArray_toList] at hl
  have ha : (asAddr (.pointer (some ⟨r, 0, none⟩))).run Tryz.prog W = .ok ⟨r, 0, none⟩ W := rfl
  simp [results, Tryz.f15, t2, ha, hl]
def gsF (l : List Bs) : List Bs := l.map (·.take 80)
/-- While to runs: the input's box, the result's, the local one, its groups so far. -/
structure ToAt (w : World) (pb : Nat) (IC : Array Value) (RC : Value → Array Value) (gs : List Bs) (wr : World) : Prop where
  inp : wr.heap[w.heap.size]? = some (.cells IC 26 (0, 0))
  res : wr.heap[w.heap.size + 1]? = some (.cells inZ 35 (0, 0))
  loc : ∃ G, wr.heap[pb]? = some (.cells (RC G) 35 (0, 0)) ∧ wr.ownsRow (pb + 1) 9 1 G gs.length (strsL gs)
  bel : Below w.heap.size w wr
set_option maxHeartbeats 16000000 in
set_option maxRecDepth 100000 in
theorem law_to_start (N S B : ByteArray) (f : Nat → Int) (A : Option Addr) (l : List Bs) (gc : Nat) (a b c d e : Int) (w : World) (hN : N.size ≤ maxLen) (hS : S.size ≤ maxLen) (hB : B.size ≤ maxLen) (hl : l.length ≤ maxLen) (hr : Row w A (strsL l)) (hle : ∀ x ∈ l, x.length ≤ maxLen) :
    Calls Tryz.prog 15 #[.agg (inX N S B f (.slice A l.length gc) a b c d e)] w fun e' w' => ∃ A2 c2, e' = .returned (.agg (inX (N.extract 0 (min N.size 300)) (S.extract 0 (min S.size 300)) (B.extract 0 (min B.size 300)) f (.slice A2 ((l.take 8).map (·.take 80)).length c2) a b c d e)) ∧ Row w' A2 (strsL ((l.take 8).map (·.take 80))) ∧ Below w.heap.size w w' := by
  have H1 := Lib.hid (fun wx => law_short N hN 300 300 rfl wx (by omega))
  have H2 := Lib.hid (fun wx => law_short S hS 300 300 rfl wx (by omega))
  have H3 := Lib.hid (fun wx => law_short B hB 300 300 rfl wx (by omega))
  obtain ⟨N', hN'⟩ : ∃ x, N.extract 0 (min N.size 300) = x := ⟨_, rfl⟩
  obtain ⟨S', hS'⟩ : ∃ x, S.extract 0 (min S.size 300) = x := ⟨_, rfl⟩
  obtain ⟨B', hB'⟩ : ∃ x, B.extract 0 (min B.size 300) = x := ⟨_, rfl⟩
  rw [hN'] at H1 ⊢
  rw [hS'] at H2 ⊢
  rw [hB'] at H3 ⊢
  clear hN' hS' hB'
  obtain ⟨IC, hIC⟩ : ∃ IC, inX N S B f (.slice A l.length gc) a b c d e = IC := ⟨_, rfl⟩
  rw [hIC]
  have HIC := Lib.hid hIC
  clear hIC
  obtain ⟨q0, q1, q2, q3⟩ := two_new w (.cells IC 26) (.cells inZ 35)
  have Q0 := Lib.hid q0
  have Q1 := Lib.hid q1
  have Q2 := Lib.hid q2
  have Q3 := Lib.hid q3
  clear q0 q1 q2 q3
  go_enter Tryz.func15, Tryz.ntmps15
  go_upto_region 1 with fail
  generalize (w.alloc (.cells IC 26)).alloc (.cells inZ 35) = W at *
  have c0 : W.cell? ⟨w.heap.size, 0, none⟩ = some (.string N) := by rw [Lib.cell_of_heap Q0.out, ← HIC.out]; rfl
  have c1 : W.cell? ⟨w.heap.size, 1, none⟩ = some (.string S) := by rw [Lib.cell_of_heap Q0.out, ← HIC.out]; rfl
  have c2 : W.cell? ⟨w.heap.size, 2, none⟩ = some (.string B) := by rw [Lib.cell_of_heap Q0.out, ← HIC.out]; rfl
  have c20 : W.cell? ⟨w.heap.size, 20, none⟩ = some (.int .i64 a) := by rw [Lib.cell_of_heap Q0.out, ← HIC.out]; rfl
  have c21 : W.cell? ⟨w.heap.size, 21, none⟩ = some (.int .i64 b) := by rw [Lib.cell_of_heap Q0.out, ← HIC.out]; rfl
  have c22 : W.cell? ⟨w.heap.size, 22, none⟩ = some (.int .i64 c) := by rw [Lib.cell_of_heap Q0.out, ← HIC.out]; rfl
  have c23 : W.cell? ⟨w.heap.size, 23, none⟩ = some (.int .i64 d) := by rw [Lib.cell_of_heap Q0.out, ← HIC.out]; rfl
  have c24 : W.cell? ⟨w.heap.size, 24, none⟩ = some (.int .i64 e) := by rw [Lib.cell_of_heap Q0.out, ← HIC.out]; rfl
  have hq0 := Q0.out
  rw [← HIC.out] at hq0
  have hra := au_range hq0
  obtain ⟨L, hLL⟩ : ∃ L : List Value, (auA f).toList = L := ⟨_, rfl⟩
  rw [hLL] at hra
  have hty := Tryz.underlying23
  have hsi : (Tryz.prog.info? 23).map (·.size) = some L.length := by rw [← hLL]; exact size_Au
  obtain ⟨ob, eb⟩ := bd_of (t := 35) (ps := #[(0, .string N'), (1, .string S'), (2, .string B'), (3, .agg L.toArray), (5, .int .i64 a), (6, .int .i64 b), (7, .int .i64 c), (8, .int .i64 d), (9, .int .i64 e)]) (u := .agg (inX N' S' B' f (.slice none 0 0) a b c d e)) (fun w => by subst hLL; kernel_rfl)
  obtain ⟨RC, hRC⟩ : ∃ RC, inX N' S' B' f (.slice none 0 0) a b c d e = RC := ⟨_, rfl⟩
  rw [hRC] at eb
  have hst : (storeCells ⟨W.heap.size, 0, none⟩ RC.toList 0).run Tryz.prog (W.alloc (.cells inZ 35)).drew = .ok () (W.alloc (.cells RC 35)).drew := run_storeCells_new (P := Tryz.prog) W.drew 35 inZ RC (by rw [← hRC]; kernel_rfl) (by rw [← hRC]; rfl) (by rw [← hRC]; simp [Value.oneCell'])
  have hrs : RC.size = 25 := by rw [← hRC]; rfl
  have HRC := Lib.hid hRC
  have hz := heap_lt Q0.out
  have HK := Lib.hid (show InP W w.heap.size N S B L a b c d e W.drew from ⟨c0, c1, c2, hra, c20, c21, c22, c23, c24, (Below.refl _ _).drew⟩)
  have HKA := Lib.hid (fun o => show InP W w.heap.size N S B L a b c d e (W.alloc o).drew from InP.alloc HK.out hz o)
  clear hq0 hLL hRC c0 c1 c2 c20 c21 c22 c23 c24 hra
  have HRS := Lib.hid hrs
  have hpb : w.heap.size + 2 = W.heap.size := Q3.out.symm
  have HTO := Lib.hid (show ToAt w W.heap.size IC (fun G => inX N' S' B' f G a b c d e) [] (W.alloc (.cells RC 35)).drew from by
    have hb := alloc_bel W (.cells RC 35)
    refine ⟨(hb.block _ hz).trans Q0.out, (hb.block _ (by omega)).trans Q1.out, ⟨.slice none 0 0, ?_, World.ownsRow_nil _ _ _ _⟩, (Q2.out.trans (hb.mono Q2.out.size)).drew⟩
    rw [HRC.out]
    exact heap_alloc_new W _)
  clear hpb
  go_cut [3] (fun v3 wx => v3 = .pointer (some ⟨W.heap.size, 0, none⟩) ∧ ToAt w W.heap.size IC (fun G => inX N' S' B' f G a b c d e) [] wx)
  case first =>
    go_region_held3 (fun w' => w'.cell? ⟨w.heap.size, 0, none⟩ = some (.string N) ∧ w'.cell? ⟨w.heap.size, 1, none⟩ = some (.string S) ∧ w'.cell? ⟨w.heap.size, 2, none⟩ = some (.string B) ∧ w'.rangeAt w.heap.size 3 L ∧ w'.cell? ⟨w.heap.size, 20, none⟩ = some (.int .i64 a) ∧ w'.cell? ⟨w.heap.size, 21, none⟩ = some (.int .i64 b) ∧ w'.cell? ⟨w.heap.size, 22, none⟩ = some (.int .i64 c) ∧ w'.cell? ⟨w.heap.size, 23, none⟩ = some (.int .i64 d) ∧ w'.cell? ⟨w.heap.size, 24, none⟩ = some (.int .i64 e) ∧ Below W.heap.size W w')
      (first | assumption | exact HK.out | exact InP.alloc (by assumption) hz _ | exact HKA.out _)
      (first
        | ((go_at_call 12; (with_reducible refine (H1.out _).mono ?_); rintro e' w' ⟨rfl, rfl⟩))
        | ((go_at_call 12; (with_reducible refine (H2.out _).mono ?_); rintro e' w' ⟨rfl, rfl⟩))
        | ((go_at_call 12; (with_reducible refine (H3.out _).mono ?_); rintro e' w' ⟨rfl, rfl⟩)))

    all_goals
      go_wp2_with fail
      go_meet
      case rel => exact ⟨rfl, HTO.out⟩
  case rest =>
  obtain ⟨rfl, hto⟩ := hcut
  have HT := Lib.hid hto
  have hp1 : w.heap.size + 2 = W.heap.size := Q3.out.symm
  have HLE := Lib.hid hle
  have HROW := Lib.hid hr
  clear hto HRS HTO Q0 Q1 Q2 Q3 HRC ob eb hrs hst HK HKA hty hsi H1 H2 H3 hle hr hN hS hB hz
  generalize W.heap.size = pb at *
  have hp2 : w.heap.size + 2 ≤ pb := by omega
  have hlm : l.length ≤ 9223372036854775807 := by unfold maxLen at hl; omega
  clear hp1 hl
  obtain ⟨i0, hi0, hz0, hz1, hz2⟩ := info_parts (show (Tryz.prog.info? 9).map (fun i => (i.zero, i.size, i.bytes)) = some (some (.string ⟨#[]⟩), 1, 16) from by kernel_rfl)
  have hRF : ∀ G G' : Value, (inX N' S' B' f G a b c d e).setIfInBounds 19 G' = inX N' S' B' f G' a b c d e := fun _ _ => rfl
  have hRG : ∀ G : Value, (inX N' S' B' f G a b c d e)[19]? = some G := fun _ => rfl
  have hIG : IC[19]? = some (.slice A l.length gc) := by rw [← HIC.out]; rfl
  obtain ⟨RF, hRFF⟩ : ∃ RF : Value → Array Value, (fun G => inX N' S' B' f G a b c d e) = RF := ⟨_, rfl⟩
  have HRFF := Lib.hid hRFF
  have HSET := Lib.hid (show ∀ G G' : Value, (RF G).setIfInBounds 19 G' = RF G' from fun G G' => by subst hRFF; rfl)
  have HGET := Lib.hid (show ∀ G : Value, (RF G)[19]? = some G from fun G => by subst hRFF; rfl)
  rw [hRFF] at HT
  have HIG := Lib.hid hIG
  clear hRF hRG hIG hRFF
  go_wp2_with fail
  go_loopg [4] l.length (fun g ix wr => ∃ k : Nat, g = l.length - k ∧ k ≤ l.length ∧ k ≤ 8 ∧ ix = .int .i64 (k : Int) ∧ ToAt w pb IC RF (gsF (l.take k)) wr)
  case atStart => exact ⟨0, by omega, by omega, by omega, rfl, HT.out⟩
  case round =>
    obtain ⟨k, rfl, hk, hk8, rfl, hF⟩ := hrel
    have HF := Lib.hid hF
    obtain ⟨wo, rfl⟩ : ∃ wo : World, wo = wr := ⟨_, rfl⟩
    clear hF HT
    obtain ⟨G, hbx, hown⟩ := HF.out.loc
    have hgl : (gsF (l.take k)).length = k := by unfold gsF; simp; omega
    rw [hgl] at hown
    obtain ⟨A2, c2, hG⟩ : ∃ A2 c2, G = .slice A2 k c2 := by obtain ⟨A2, c2, h, _⟩ := own_row hown; exact ⟨A2, c2, h⟩
    subst hG
    have p19 : wo.cell? ⟨w.heap.size, 19, none⟩ = some (.slice A l.length gc) := by rw [Lib.cell_of_heap HF.out.inp]; exact HIG.out
    have q19 : wo.cell? ⟨pb, 19, none⟩ = some (.slice A2 k c2) := by rw [Lib.cell_of_heap hbx]; exact HGET.out _
    have qf := Lib.frozen_of_heap hbx 19
    have z0 := heap_lt HF.out.inp
    have z1 := heap_lt hbx
    have HBX := Lib.hid hbx
    clear hbx
    have k0 : (0 : Int) ≤ (k : Int) := by omega
    by_cases hlt0 : k < l.length ∧ k < 8
    · obtain ⟨hlt, hlt8⟩ := hlt0
      have k7 : (k : Int) < 8 := by omega
      have k2 : (k : Int) < (l.length : Int) := by omega
      obtain ⟨bb, off, rfl, hbb, hcc⟩ := (HROW.out.below HF.out.bel).at (k := k) (by rw [strsL, List.length_map]; exact hlt)
      have c0 := hcc k (.string (ofL l[k])) (by rw [strsL, List.getElem?_map, List.getElem?_eq_getElem hlt]; rfl)
      have HXL := Lib.hid (show (ofL l[k]).size ≤ maxLen from by rw [ofL_size]; exact HLE.out _ (List.getElem_mem hlt))
      have HTK := Lib.hid (show gsF (l.take (k + 1)) = gsF (l.take k) ++ [(toL (ofL l[k])).take 80] from by
        unfold gsF; rw [List.take_succ_eq_append_getElem hlt, List.map_append, toL_ofL]; rfl)
      generalize ofL l[k] = X at *
      have HSH := Lib.hid (fun wx => law_short X HXL.out 80 80 rfl wx (by omega))
      have HYE := Lib.hid (short_toL X 80)
      generalize X.extract 0 (min X.size 80) = Y at *
      rw [← HYE.out] at HTK
      clear hcc
      have aw : (Value.slice A2 k c2).ownBlock ≠ some pb := fun e => by have := (hown.lt _ e).1; omega
      have aw1 : (Value.slice A2 k c2).ownBlock ≠ some (w.heap.size + 1) := fun e => by have := (hown.lt _ e).1; omega
      have aw0 : (Value.slice A2 k c2).ownBlock ≠ some w.heap.size := fun e => by have := (hown.lt _ e).1; omega
      have HOWN := Lib.hid hown
      go_upto_region 5 with fail
      go_region_law (first
        | (go_simp; go_at_call 12; (with_reducible refine (HSH.out _).mono ?_); rintro e' w' ⟨rfl, rfl⟩; dsimp only)
        | (refine step_append_lies _ (by rfl) _ _ _ (by rfl) (pb + 1) 9 i0 _ 1 16 Tryz.underlying24 hi0 hz0 hz1 hz2 rfl (by omega) (.slice A2 k c2) _ (strsL (gsF (l.take k))) (by rfl) ((hown.alloc _).drew)
            ⟨wo.heap.size, 0, none⟩ 1 1 [.string Y] (by rfl) (by rfl) (World.news_of_block (cs := #[.string Y]) (t := 9) (fr := (0, 0)) (heap_alloc_new wo _)) (by simp [Value.oneCell'])
            (by omega) (by unfold maxLen; omega) (by omega) (by simp; omega) (wo.heap.size + 1) (by simp) ?_
           intro gg cap w4 hown3 hgrow hat hlt1
           have HB := Lib.hid ((hgrow.block pb (by simp; omega) (Ne.symm aw)).trans ((Lib.alloc_old wo _ pb (by omega)).trans HBX.out))
           have hcz : w4.cell? ⟨pb, 19, none⟩ = some (.slice A2 k c2) := (by rw [Lib.cell_of_heap HB.out]; exact HGET.out _)
           have hfz : w4.frozen? ⟨pb, 19, none⟩ = false := Lib.frozen_of_heap HB.out 19))
      all_goals
        have hgw : wo.grownBy w4 (Value.slice A2 k c2).ownBlock := ⟨hgrow.os, hgrow.tape, hgrow.output, Nat.le_trans (by simp) hgrow.size, fun j hj hne => (hgrow.block j (by simp; omega) hne).trans (Lib.alloc_old wo _ j hj)⟩
        have hz1' : w.heap.size + 1 < wo.heap.size := by omega
        have HN := Lib.hid (show ToAt w pb IC RF (gsF (l.take (k + 1))) (w4.setCell ⟨pb, 19, none⟩ (.slice (some ⟨gg, 0, none⟩) (k + 1) cap)) from by
          refine ⟨(heap_set_ne _ (by omega)).trans ((hgw.block _ z0 (Ne.symm aw0)).trans HF.out.inp), (heap_set_ne _ (by omega)).trans ((hgw.block _ hz1' (Ne.symm aw1)).trans HF.out.res), ⟨.slice (some ⟨gg, 0, none⟩) (k + 1) cap, by rw [← HSET.out (.slice A2 k c2)]; exact heap_set HB.out _, ?_⟩, (HF.out.bel.grown hgw HF.out.bel.size (fun g e => by have := (HOWN.out.lt g e).1; omega)).setCell (p := ⟨pb, 19, none⟩) (by simp only; omega) _⟩
          have hlen : (gsF (l.take (k + 1))).length = k + 1 := by unfold gsF; simp; omega
          rw [hlen]
          have hst : strsL (gsF (l.take (k + 1))) = strsL (gsF (l.take k)) ++ [Value.string Y] := by rw [HTK.out]; simp [strsL, ofL_toL]
          rw [hst]
          exact own_oth hown3 (fun g e => heap_set_ne _ (by have := (hown3.lt g e).1; omega)))
        clear hown3 hgrow hat hlt1 hgw HB hcz hfz hown p19 q19 qf
        generalize w4.setCell ⟨pb, 19, none⟩ (.slice (some ⟨gg, 0, none⟩) (k + 1) cap) = w5 at *
        go_wp2_with fail
        go_roundg (l.length - (k + 1))
        case measure => omega
        case rel => exact ⟨k + 1, rfl, by omega, by omega, by go_num, HN.out⟩
    · have HE := Lib.hid (show l.take k = l.take 8 ∧ k = (l.take 8).length by
        rcases Nat.lt_or_ge 8 l.length with h | h
        · obtain rfl : k = 8 := by omega
          exact ⟨rfl, by simp; omega⟩
        · obtain rfl : k = l.length := by omega
          exact ⟨by rw [List.take_of_length_le h, List.take_of_length_le (Nat.le_refl _)], by simp; omega⟩)
      have HOWN := Lib.hid hown
      have hrs : (RF (.slice A2 k c2)).size = 25 := by have := HRFF.out; subst this; rfl
      have hon : (RF (.slice A2 k c2)).all (·.oneCell') = true := by have := HRFF.out; subst this; simp [Value.oneCell']
      have HRK := Lib.hid (show RF (.slice A2 k c2) = inX N' S' B' f (.slice A2 k c2) a b c d e from by have := HRFF.out; subst this; rfl)
      have hbx := HBX.out
      generalize RF (.slice A2 k c2) = RK at *
      obtain ⟨ol, el⟩ := ri_of (range_loadS (T := 35) (W := wo) (B := pb) (off := 0) (cs := RK.toList) (fun j v hv => by rw [Nat.zero_add, Lib.cell_of_heap hbx]; simpa using hv) Tryz.underlying35 rfl (by rw [show RK.toList.length = 25 from by simpa using hrs]; kernel_rfl))
      have hst2 : (storeCells ⟨w.heap.size + 1, 0, none⟩ RK.toList 0).run Tryz.prog wo = .ok () (wo.setRow (w.heap.size + 1) RK) := by
        have h := run_storeCells_from (P := Tryz.prog) (w.heap.size + 1) 35 RK.toList 0 inZ wo HF.out.res (by simp [hrs]) (fun v hv => (Array.all_eq_true_iff_forall_mem.1 hon) v (by simpa using hv))
        simpa using h
      have HFIN := Lib.hid (show (wo.setRow (w.heap.size + 1) RK).heap[w.heap.size + 1]? = some (.cells RK 35 (0, 0)) from Go.setRow_heap wo _ _ _ _ _ HF.out.res)
      have HBF := Lib.hid (show Below w.heap.size w (wo.setRow (w.heap.size + 1) RK) from by
        have hb := HF.out.bel
        exact ⟨hb.os, hb.tape, hb.output, by rw [Go.setRow_size]; exact hb.size, fun j hj => (Go.setRow_other wo _ j _ (by omega)).trans (hb.block j hj)⟩)
      have HOW2 := Lib.hid (own_oth hown (w' := wo.setRow (w.heap.size + 1) RK) (fun g e => Go.setRow_other wo _ g _ (by have := (hown.lt g e).1; omega)))
      have HQ : (l.length : Int) ≤ (k : Int) ∨ ((k : Int) < (l.length : Int) ∧ (8 : Int) ≤ (k : Int)) := by omega
      rcases HQ with hcmp | ⟨hcmp, hcmp2⟩
      all_goals
        clear hown hbx
        go_wp2_with fail
        refine to_ret HFIN.out hrs rfl ?_
        have ho := HOW2.out
        rw [HE.out.1] at ho
        have hk2 : k = ((l.take 8).map (·.take 80)).length := by rw [List.length_map]; exact HE.out.2
        obtain ⟨A3, c3, e3, hr3⟩ := own_row ho
        injection e3 with e4 e5 e6
        subst e4
        exact ⟨A2, c2, by rw [HRK.out, ← hk2], hr3, HBF.out⟩
end Go.Proofs.YtannhfnpigiggaaGreatDoor
