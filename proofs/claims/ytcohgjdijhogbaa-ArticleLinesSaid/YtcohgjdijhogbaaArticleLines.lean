/- For every string and every byte, ArticleLines returns true: the chapter's examples hold, Lines yields the lines of the first 2000 bytes in order and stops as soon as it is told to, and Count returns their number. No condition. -/
import Derived.Test.YtcohgjdijhogbaaPt22
import Derived.Test.YtcohgjdijhogbaaRefQ
import Derived.Test.YtcohgjdijhogbaaPt23
import Derived.HandedShaped
import Derived.Deep.RegionHeld3
namespace Go.Proofs.Ytcohgjdijhogbaa
set_option linter.unusedSimpArgs false
set_option linter.unusedVariables false
open Go.ChangeShapes Go.WideShapes Go.ChangeAt Go.RowKit Go.Shelf
open Go.ChangeMaps (open_string shut_string)
attribute [local go_sem] Oper.semAt_some

theorem u8_wf {d : Int} (h : (Lit.int .u8 d).wf = true) : 0 ≤ d ∧ d < 256 := by
  simp only [Lit.wf, Bool.and_eq_true, decide_eq_true_eq] at h
  have h1 : IntKind.u8.min = 0 := by decide
  have h2 : IntKind.u8.max = 255 := by decide
  rw [h1, h2] at h
  omega

/-- A line that comes as the k-th of these. -/
def fits (ls : List (List UInt8)) (k : Nat) (x : Nat × ByteArray) : Prop := x.1 = k ∧ ls[k]? = some (toL x.2)
theorem some_fits {L : List UInt8} {pre : List (LnT 900000)} {x : LnT 900000} (h : SomeLn L (pre ++ [x])) : fits (linesF L) pre.length x.1 := by
  obtain ⟨r, hr⟩ := h
  have h1 : (numL 0 (linesF L))[pre.length]? = some x.1 := by
    rw [← hr]; simp
  rw [numL_at] at h1
  cases hl : (linesF L)[pre.length]? with
  | none => rw [hl] at h1; simp at h1
  | some y =>
    rw [hl] at h1
    simp at h1
    unfold fits
    rw [← h1]
    exact ⟨rfl, by rw [hl, toL_ofL]⟩
theorem some_len {L : List UInt8} {pre : List (LnT 900000)} (h : SomeLn L pre) : pre.length ≤ (linesF L).length := by
  have := h.length_le
  rwa [List.length_map, numL_length] at this
/-- Between two lines. -/
structure AlI (b n m : Nat) (A : Option Addr) (c : Nat) (ls : List (List UInt8)) (pre : List (LnT 900000)) (W : World) : Prop where
  few : pre.length < m
  rb : Boxed W b 4 (.bool false)
  lb : Boxed W n 30 (.slice A ls.length c)
  mb : Boxed W (n + 1) 3 (.int .i64 (m : Int))
  nb : Boxed W (n + 1 + 1) 3 (.int .i64 (pre.length : Nat))
  row : Row W A (strsL ls)
  away : ∀ b' off, A = some ⟨b', off, none⟩ → strsL ls ≠ [] → b' ≠ n + 1 + 1
/-- The loop has been left. -/
structure AlX (b n m : Nat) (A : Option Addr) (c : Nat) (ls : List (List UInt8)) (cd : Code) (pre : List (LnT 900000)) (W : World) : Prop where
  ex : (cd = .ret ∧ ∃ ini x, pre = ini ++ [x] ∧ ¬ fits ls ini.length x.1) ∨ (cd = .exit 0 ∧ pre.length = m ∧ Boxed W b 4 (.bool false) ∧ Boxed W n 30 (.slice A ls.length c) ∧ Boxed W (n + 1) 3 (.int .i64 (m : Int)) ∧ Boxed W (n + 1 + 1) 3 (.int .i64 (m : Nat)) ∧ Row W A (strsL ls))
theorem row_own {W W' : World} {row : Option Nat} {A : Option Addr} {xs : List Value} (h : Row W A xs) (hg : W.grownBy W' row) (hr : ∀ r, row = some r → ∃ o : Obj, W.heap[r]? = some o ∧ o.isCells = false) : Row W' A xs := by
  rcases h with h | ⟨b, off, rfl, hb, hc⟩
  · exact .inl h
  · refine .inr ⟨b, off, rfl, Nat.lt_of_lt_of_le hb hg.size, fun j v hv => ?_⟩
    have := hc j v hv
    have hk := hg.block b hb (fun e => by
      obtain ⟨o, ho, ho2⟩ := hr b e.symm
      simp only [World.cell?, ho] at this
      cases o <;> simp_all [Obj.isCells])
    simp only [World.cell?] at this ⊢
    rw [hk]; exact this
theorem row_set {W : World} {A : Option Addr} {xs : List Value} {B : Nat} {t : TypeId} {u : Value} (h : Row W A xs) (hb : Boxed W B t u) (v : Value) (hne : ∀ b off, A = some ⟨b, off, none⟩ → xs ≠ [] → b ≠ B) : Row (W.setCell ⟨B, 0, none⟩ v) A xs := by
  rcases h with h | ⟨b, off, rfl, hlt, hc⟩
  · exact .inl h
  · by_cases hx : xs = []
    · exact .inl hx
    · have hbn := hne b off rfl hx
      refine .inr ⟨b, off, rfl, by rw [World.size_setCell]; exact hlt, fun j y hy => ?_⟩
      rw [World.cell?_setCell_other _ _ _ _ (fun e => hbn (by injection e with e _ _; exact e.symm))]
      exact hc j y hy
theorem AlI.own (b n m : Nat) (A : Option Addr) (c : Nat) (ls : List (List UInt8)) : Own (AlI b n m A c ls) := fun _ _ _ _ hs hg hr => ⟨hs.few, bx_own hs.rb hg hr, bx_own hs.lb hg hr, bx_own hs.mb hg hr, bx_own hs.nb hg hr, row_own hs.row hg hr, hs.away⟩
theorem AlX.own (b n m : Nat) (A : Option Addr) (c : Nat) (ls : List (List UInt8)) (cd : Code) : Own (AlX b n m A c ls cd) := fun _ _ _ _ hs hg hr => by
  rcases hs.ex with h | ⟨h1, h2, h3, h4, h5, h6, h7⟩
  · exact ⟨.inl h⟩
  · exact ⟨.inr ⟨h1, h2, bx_own h3 hg hr, bx_own h4 hg hr, bx_own h5 hg hr, bx_own h6 hg hr, row_own h7 hg hr⟩⟩
/-- The way out behind a loop over an iterator: one boxed result. -/
theorem retBoxL {W : World} {D b : Nat} {v1 : Value} {T : Array Value} {Q : Ending → World → Prop} (h1 : Boxed W b 4 v1) (hK : W.heap[D]? = some (.deferred (some [])))
    (hQ : Q (.returned v1) (W.putObj D (.deferred none))) (hT1 : T[4]? = some (.pointer (some ⟨b, 0, none⟩))) :
    bodyPostM Fence.wide 12 Try.prog Try.f4 Q .ret { tmps := T, defers := [{ target := .collected D, args := #[] }] } W := by
  have c1 := cell_kept h1.cell (grownBy_putObj' W D (.deferred none)) (fun r e => by cases e; exact ⟨_, hK, rfl⟩)
  refine ⟨by simp, .inl ⟨_, _, rfl, run_takeDeferred hK, ?_⟩⟩
  refine ⟨v1, ?_, hQ⟩
  simp [results, Try.f4, go_sem, hT1, c1]
def FinP (w : World) (D n m q : Nat) (A : Option Addr) (c len : Nat) (w' : World) : Prop := w'.cell? ⟨n, 0, none⟩ = some (.slice A len c) ∧ w'.cell? ⟨n + 1, 0, none⟩ = some (.int .i64 (m : Int)) ∧ w'.cell? ⟨n + 1 + 1, 0, none⟩ = some (.int .i64 (q : Int)) ∧ w'.heap[D]? = some (.deferred (some [])) ∧ Below w.heap.size w w'
theorem FinP.later {w w1 w' : World} {D n m q : Nat} {A : Option Addr} {c len : Nat} (h : FinP w D n m q A c len w1) (hb : Below w1.heap.size w1 w') : FinP w D n m q A c len w' := by
  obtain ⟨h1, h2, h3, h4, h5⟩ := h
  exact ⟨(hb.cell (World.block_lt_of_cell? _ _ h1)).trans h1, (hb.cell (World.block_lt_of_cell? _ _ h2)).trans h2, (hb.cell (World.block_lt_of_cell? _ _ h3)).trans h3, (hb.block _ (heap_lt h4)).trans h4, h5.trans (hb.mono h5.size)⟩
theorem FinP.store {w w1 : World} {D n m q : Nat} {A : Option Addr} {c len : Nat} (h : FinP w D n m q A c len w1) (v : Value) (hn : w.heap.size < n) : FinP w D n m q A c len (w1.setCell ⟨w.heap.size, 0, none⟩ v) := by
  obtain ⟨h1, h2, h3, h4, h5⟩ := h
  refine ⟨(World.cell?_setCell_other _ _ _ _ (by first | (simp; done) | (simp; omega))).trans h1, (World.cell?_setCell_other _ _ _ _ (by first | (simp; done) | (simp; omega))).trans h2, (World.cell?_setCell_other _ _ _ _ (by first | (simp; done) | (simp; omega))).trans h3, (KeepsOthers.setCell w1 ⟨w.heap.size, 0, none⟩ v).same D _ h4 rfl, h5.setCell (p := ⟨w.heap.size, 0, none⟩) (Nat.le_refl _) v⟩
set_option maxRecDepth 100000 in
set_option maxHeartbeats 8000000 in
theorem ArticleLines_walk (a : ByteArray) (ha : a.size ≤ maxLen) (st : Int) (hst : (Lit.int .u8 st).wf = true) (w : World) (hsh : w.ShapedOpen Try.prog) :
    Calls Try.prog 4 #[.string a, .int .u8 st] w fun e w' => e = .returned (.bool true) ∧ Below w.heap.size w w' := by
  have HSH := Lib.hid hsh; clear hsh
  have HS := Lib.hid (fun wx => law_short a ha 2000 2000 rfl wx (by omega))
  have hx := short_size a 2000
  generalize a.extract 0 (min a.size 2000) = s at *
  have HL := Lib.hid (toL_length s)
  have HLN := Lib.hid (fun wx => rf_lines s wx (by omega))
  have hll := lines_len (toL s)
  rw [HL.out] at hll
  obtain ⟨ls, hls⟩ : ∃ ls, ls = linesF (toL s) := ⟨_, rfl⟩
  rw [← hls] at HLN hll
  have HLS := Lib.hid hls
  clear hls
  have hb0 := u8_wf hst
  obtain ⟨m, hm⟩ : ∃ m : Nat, (m : Int) = st + 1 := ⟨(st + 1).toNat, by omega⟩
  refine (callsIn_wide (n := 12)).1 ?_
  refine callsIn_of_wp_marks Try.func4 rfl trivial ?_ rfl
  simp only [Try.ntmps4, List.size_toArray, List.length_cons, List.length_nil, Nat.reduceAdd, Nat.reduceSub, Array.replicate_succ, Array.replicate_zero, List.push_toArray, List.append_toArray, List.nil_append, List.cons_append]
  have hB1 : Below w.heap.size w (w.alloc (.cells #[.bool false] 4)) := (Below.refl _ _).alloc (Nat.le_refl _) _
  have HB1 := Lib.hid hB1
  clear hB1
  gi_wp2_with (first | (refine ⟨trivial, ?_⟩; gi_at_call 10; refine (callsIn_wide.2 (HS.out _)).mono ?_; rintro e w' ⟨rfl, rfl⟩) | (refine ⟨trivial, ?_⟩; gi_at_call 13; refine (callsIn_wide.2 (art_known _ (shaped_below HSH.out HB1.out))).mono ?_; rintro e w2 ⟨rfl, hb2⟩) | (refine ⟨trivial, ?_⟩; gi_at_call 14; refine (callsIn_wide.2 (HLN.out _)).mono ?_; rintro e w3 ⟨v, rfl, hS⟩; obtain ⟨A, c, hvA, hR⟩ := own_row hS.own; subst hvA) | (refine ⟨trivial, ?_⟩; gi_at_call 15; refine (art_lines s _ _).mono ?_; rintro e w' ⟨rfl, rfl⟩))
  rw [← hm]
  have HB3 := Lib.hid ((HB1.out.trans (hb2.mono HB1.out.size)).trans (hS.bel.mono (HB1.out.trans (hb2.mono HB1.out.size)).size))
  have hz1 : w.heap.size < w3.heap.size := by
    have h1 := hb2.size
    have h2 := hS.bel.size
    rw [World.size_alloc] at h1; omega
  have hrb : Boxed w3 w.heap.size 4 (.bool false) := bx_below (bx_below (bx_new _ _ rfl) hb2) hS.bel
  have HI0 := Lib.hid (show AlI w.heap.size w3.heap.size m A c ls [] ((((w3.alloc (.cells #[.slice A ls.length c] 30)).alloc (.cells #[.int .i64 (m : Int)] 3)).alloc (.cells #[.int .i64 0] 3)).alloc (.cells #[.string s] 9)) from
    ⟨by show 0 < m; omega, (((hrb.alloc _).alloc _).alloc _).alloc _, (((bx_new _ _ rfl).alloc _).alloc _).alloc _, ((bx_new _ _ (by simp)).alloc _).alloc _, (bx_new _ _ (by simp)).alloc _, hR.below ((((((Below.refl _ w3).alloc (Nat.le_refl _) _).alloc (by simp) _).alloc (by simp; omega) _).alloc (by simp; omega) _)), fun b' off e hne => by
      rcases hR with h | ⟨b2, off2, e2, hlt, _⟩
      · exact absurd h hne
      · rw [e] at e2; injection e2 with e2; injection e2 with e2 _; omega⟩)
  have hB0 : Below w.heap.size w ((((w3.alloc (.cells #[.slice A ls.length c] 30)).alloc (.cells #[.int .i64 (m : Int)] 3)).alloc (.cells #[.int .i64 0] 3)).alloc (.cells #[.string s] 9)) := (((HB3.out.alloc (by omega) _).alloc (by simp; omega) _).alloc (by simp; omega) _).alloc (by simp; omega) _
  have hbx : Boxed ((((w3.alloc (.cells #[.slice A ls.length c] 30)).alloc (.cells #[.int .i64 (m : Int)] 3)).alloc (.cells #[.int .i64 0] 3)).alloc (.cells #[.string s] 9)) (w3.heap.size + 1 + 1 + 1) 9 (.string s) := bx_new _ _ (by simp)
  have hz0 : ((((w3.alloc (.cells #[.slice A ls.length c] 30)).alloc (.cells #[.int .i64 (m : Int)] 3)).alloc (.cells #[.int .i64 0] 3)).alloc (.cells #[.string s] 9)).heap.size = w3.heap.size + 4 := by simp
  have HM := Lib.hid hm
  clear hb2 hS hR hrb hm
  generalize (((w3.alloc (.cells #[.slice A ls.length c] 30)).alloc (.cells #[.int .i64 (m : Int)] 3)).alloc (.cells #[.int .i64 0] 3)).alloc (.cells #[.string s] 9) = X at *
  generalize w3.heap.size = n at *
  refine wpIn_rangeFunc_ownG (a₁ := ?a1) rfl (by omega) (gf := 35) (lb := #[.pointer (some ⟨n + 1 + 1 + 1, 0, none⟩)]) rfl trivial (enters_of Try.func35 (by kernel_rfl) rfl)
    (lines_stops _ (by omega) w X HSH.out hB0 (n + 1 + 1 + 1) hbx.lt s (Nat.le_refl _) (by omega) hbx.cell) belowK_t (belowK_b (by omega)) (Below.refl _ _) (fun _ => rfl)
    (fun pre W => AlI w.heap.size n m A c ls pre W ∧ Below w.heap.size w W)
    (fun cd pre W => AlX w.heap.size n m A c ls cd pre W ∧ Below w.heap.size w W)
    (OwnFrom.and (Own.from (AlI.own _ _ _ _ _ _) _) (ownFrom_below (Nat.le_refl _) (by omega)))
    (fun cd => OwnFrom.and (Own.from (AlX.own _ _ _ _ _ _ _) _) (ownFrom_below (Nat.le_refl _) (by omega)))
    ⟨HI0.out, hB0⟩ ?assign ?body ?done ?stop
  case assign =>
    intro l x W K hK
    gi_wp2
    exact hK
  case body =>
    rintro l pre ⟨⟨o, x⟩, hx⟩ W ⟨hI, hB⟩ hlen
    have HI := Lib.hid hI; have HB := Lib.hid hB
    have c1 := hI.rb.cell; have d1 := hI.rb.frozen
    have c2 := hI.lb.cell
    have c3 := hI.mb.cell
    have c4 := hI.nb.cell; have d4 := hI.nb.frozen
    have hfew := hI.few
    have HROW := Lib.hid hI.row
    have HROWS := Lib.hid (fun v => row_set hI.row hI.nb v (hI.away))
    clear hI hB hbx hB0 HI0
    obtain ⟨k, hk⟩ : ∃ k, k = pre.length := ⟨_, rfl⟩
    rw [← hk] at c4 hfew hlen
    have HK := Lib.hid hk
    clear hk
    have k1 : (k : Int) < (m : Int) := by omega
    have k0 : (0 : Int) ≤ (k : Int) := by omega
    dsimp only
    by_cases h1 : k < ls.length
    · have h1' : (k : Int) < (ls.length : Int) := by omega
      by_cases h2 : o = k
      · have e2 : ((o : Int) != (k : Int)) = false := by subst h2; simp
        obtain ⟨g, off, rfl, hc⟩ := HROW.out.cell (k := k) (by simpa using h1)
        simp only [strsL, List.getElem_map] at hc
        obtain ⟨Y, hY⟩ : ∃ Y, Y = ofL ls[k] := ⟨_, rfl⟩
        rw [← hY] at hc
        have n1 : decide (ls.length ≤ k) = false := by simp; omega
        have hYL : toL Y = ls[k] := by rw [hY, toL_ofL]
        have HYL := Lib.hid (show ls[k]? = some (toL Y) from by rw [hYL]; exact List.getElem?_eq_getElem h1)
        clear hY hYL
        rcases h3 : (x.toList == Y.toList) with _ | _
        rotate_left
        · have h3b : (x.toList != Y.toList) = false := by rw [bne, h3]; rfl
          have HPL := Lib.hid (show (pre ++ [(⟨(o, x), hx⟩ : LnT 900000)]).length = k + 1 from by simp [HK.out])
          by_cases h4 : k + 1 = m
          · have e4 : ((k : Int) + 1 == (m : Int)) = true := by rw [beq_iff_eq]; omega
            have HM4 := Lib.hid h4
            clear h2 h4
            gi_wp2
            refine ⟨(KeepsOthers.setCell _ _ _).from _, ⟨.inr ⟨rfl, by rw [HPL.out]; exact HM4.out, ?_, ?_, ?_, ?_, (HROWS.out _)⟩⟩, HB.out.setCell (p := ⟨n + 1 + 1, 0, none⟩) (by show w.heap.size ≤ n + 1 + 1; omega) _⟩
            · exact HI.out.rb.other (by omega) _
            · exact HI.out.lb.other (by omega) _
            · exact HI.out.mb.other (by omega) _
            · rw [← HM4.out, show ((k + 1 : Nat) : Int) = (k : Int) + 1 from by omega]
              exact HI.out.nb.set _
          · have e4 : ((k : Int) + 1 == (m : Int)) = false := beq_eq_false_iff_ne.2 (by omega)
            have HM4 := Lib.hid h4
            clear h2 h4
            gi_wp2
            refine ⟨(KeepsOthers.setCell _ _ _).from _, (Below.refl _ W).setCell (p := ⟨n + 1 + 1, 0, none⟩) (by show w.heap.size ≤ n + 1 + 1; omega) _, ⟨?_, ?_, ?_, ?_, ?_, (HROWS.out _), HI.out.away⟩, HB.out.setCell (p := ⟨n + 1 + 1, 0, none⟩) (by show w.heap.size ≤ n + 1 + 1; omega) _⟩
            · have := HM4.out; rw [HPL.out]; omega
            · exact HI.out.rb.other (by omega) _
            · exact HI.out.lb.other (by omega) _
            · exact HI.out.mb.other (by omega) _
            · rw [HPL.out, show ((k + 1 : Nat) : Int) = (k : Int) + 1 from by omega]
              exact HI.out.nb.set _
        · have h3b : (x.toList != Y.toList) = true := by rw [bne, h3]; rfl
          have HBAD := Lib.hid (show ¬ fits ls pre.length (o, x) from by
            rintro ⟨_, e⟩
            rw [← HK.out, HYL.out] at e
            injection e with e
            have := (beq_toList x Y).symm.trans h3
            exact of_decide_eq_false this e.symm)
          clear h2
          gi_wp2
          exact ⟨(KeepsOthers.setCell _ _ _).from _, ⟨.inl ⟨rfl, pre, _, rfl, HBAD.out⟩⟩, HB.out.setCell (p := ⟨w.heap.size, 0, none⟩) (Nat.le_refl _) _⟩
      · have e2 : ((o : Int) != (k : Int)) = true := by simp; omega
        have n1 : decide (ls.length ≤ k) = false := by simp; omega
        have HBAD := Lib.hid (show ¬ fits ls pre.length (o, x) from by
          rintro ⟨e, _⟩
          rw [← HK.out] at e; exact h2 e)
        clear h2
        gi_wp2
        exact ⟨(KeepsOthers.setCell _ _ _).from _, ⟨.inl ⟨rfl, pre, _, rfl, HBAD.out⟩⟩, HB.out.setCell (p := ⟨w.heap.size, 0, none⟩) (Nat.le_refl _) _⟩
    · have h1' : (ls.length : Int) ≤ (k : Int) := by omega
      have n1 : decide (ls.length ≤ k) = true := by simp; omega
      have HBAD := Lib.hid (show ¬ fits ls pre.length (o, x) from by
        rintro ⟨_, e⟩
        rw [← HK.out, List.getElem?_eq_none (by omega)] at e; cases e)
      gi_wp2
      exact ⟨(KeepsOthers.setCell _ _ _).from _, ⟨.inl ⟨rfl, pre, _, rfl, HBAD.out⟩⟩, HB.out.setCell (p := ⟨w.heap.size, 0, none⟩) (Nat.le_refl _) _⟩
  case done =>
    rintro D ys W hD hS ⟨hI, hB⟩ hK
    obtain ⟨few, rb, lb, mb, nb, _, _⟩ := hI
    have hq : ys.length = ls.length := by rw [HLS.out]; have := congrArg List.length hS; rwa [List.length_map, numL_length] at this
    have hqm : (ys.length : Nat) = min m ls.length := by omega
    generalize ys.length = q at *
    clear few hq hbx hB0 HI0
    have c1 := rb.cell; have d1 := rb.frozen
    have c2 := lb.cell
    have c3 := mb.cell
    have c4 := nb.cell
    have hmin : min (m : Int) (ls.length : Int) = (q : Int) := by omega
    have hmx : Try.prog.follows .mixedOrders = true := by kernel_rfl
    have HRB := Lib.hid rb; have HLB := Lib.hid lb; have HMB := Lib.hid mb; have HNB := Lib.hid nb
    have HB := Lib.hid hB; have HK := Lib.hid hK
    have HSD := Lib.hid (shaped_below HSH.out hB.drew)
    have HRD := Lib.hid (show Boxed W.drew w.heap.size 4 (.bool false) from rb)
    have HLD := Lib.hid (show Boxed W.drew n 30 (.slice A ls.length c) from lb)
    have HBD := Lib.hid hB.drew
    have HKD := Lib.hid (show W.drew.heap[D]? = some (.deferred (some [])) from hK)
    have HCT := Lib.hid (fun wx (hx : wx.ShapedOpen Try.prog) => art_count s wx hx (by omega))
    rw [← HLS.out] at HCT
    have hq2 : (q : Int) ≤ 1000000 := by omega
    have hq3 : ((ls.length : Int) == (ls.length : Int)) = true := by simp
    have hq4 : ((q : Int) == (q : Int)) = true := by simp
    clear rb lb mb nb hB hK hqm
    gi_wp2
    have HF0 := Lib.hid (show FinP w D n m q A c ls.length W.drew from ⟨c2, c3, c4, HKD.out, HBD.out⟩)
    have HCF := Lib.hid (fun wx (hx : FinP w D n m q A c ls.length wx) => HCT.out wx (shaped_below HSH.out hx.2.2.2.2))
    rw [wpIn_wide]
    go_region_held3 (fun w' => w'.cell? ⟨n, 0, none⟩ = some (.slice A ls.length c) ∧ w'.cell? ⟨n + 1, 0, none⟩ = some (.int .i64 (m : Int)) ∧ w'.cell? ⟨n + 1 + 1, 0, none⟩ = some (.int .i64 (q : Int)) ∧ w'.heap[D]? = some (.deferred (some [])) ∧ Below w.heap.size w w')
      (first
        | exact HF0.out
        | exact FinP.later (by assumption) hb5
        | exact FinP.store (by assumption) _ hz1)
      ((go_at_call 16; (with_reducible refine (HCF.out _ ?hh).mono ?_); (case hh => assumption); rintro e w5 ⟨rfl, hb5⟩; have r1 := bx_below HRD.out hb5; have k1 := Boxed.cell r1; have k2 := Boxed.frozen r1))
    all_goals gi_wp2
    all_goals
      have hS5 : FinP w D n m q A c ls.length (w5.setCell ⟨w.heap.size, 0, none⟩ (.bool true)) := by assumption
      exact retBoxL (r1.set _) hS5.2.2.2.1 ⟨rfl, hS5.2.2.2.2.trans (belowK_b (w := w) (Nat.le_refl _) _ D _ _ (by omega) hS5.2.2.2.1 rfl rfl)⟩ rfl
  case stop =>
    rintro D cd pre W hD hS ⟨hX, hB⟩ hK
    rcases hX.ex with ⟨_, ini, x, rfl, hbad⟩ | ⟨rfl, hq, rb, lb, mb, nb, _⟩
    · exact absurd (by rw [HLS.out]; exact some_fits hS) hbad
    have hql := some_len hS
    rw [← HLS.out] at hql
    obtain ⟨q, hqe⟩ : ∃ q, q = m := ⟨_, rfl⟩
    rw [← hqe] at nb
    have hqm : (q : Nat) = min m ls.length := by omega
    clear hq hql hbx hB0 HI0 hX hqe
    have c1 := rb.cell; have d1 := rb.frozen
    have c2 := lb.cell
    have c3 := mb.cell
    have c4 := nb.cell
    have hmin : min (m : Int) (ls.length : Int) = (q : Int) := by omega
    have hmx : Try.prog.follows .mixedOrders = true := by kernel_rfl
    have HRB := Lib.hid rb; have HLB := Lib.hid lb; have HMB := Lib.hid mb; have HNB := Lib.hid nb
    have HB := Lib.hid hB; have HK := Lib.hid hK
    have HSD := Lib.hid (shaped_below HSH.out hB.drew)
    have HRD := Lib.hid (show Boxed W.drew w.heap.size 4 (.bool false) from rb)
    have HLD := Lib.hid (show Boxed W.drew n 30 (.slice A ls.length c) from lb)
    have HBD := Lib.hid hB.drew
    have HKD := Lib.hid (show W.drew.heap[D]? = some (.deferred (some [])) from hK)
    have HCT := Lib.hid (fun wx (hx : wx.ShapedOpen Try.prog) => art_count s wx hx (by omega))
    rw [← HLS.out] at HCT
    have hq2 : (q : Int) ≤ 1000000 := by omega
    have hq3 : ((ls.length : Int) == (ls.length : Int)) = true := by simp
    have hq4 : ((q : Int) == (q : Int)) = true := by simp
    clear rb lb mb nb hB hK hqm
    gi_wp2
    have HF0 := Lib.hid (show FinP w D n m q A c ls.length W.drew from ⟨c2, c3, c4, HKD.out, HBD.out⟩)
    have HCF := Lib.hid (fun wx (hx : FinP w D n m q A c ls.length wx) => HCT.out wx (shaped_below HSH.out hx.2.2.2.2))
    rw [wpIn_wide]
    go_region_held3 (fun w' => w'.cell? ⟨n, 0, none⟩ = some (.slice A ls.length c) ∧ w'.cell? ⟨n + 1, 0, none⟩ = some (.int .i64 (m : Int)) ∧ w'.cell? ⟨n + 1 + 1, 0, none⟩ = some (.int .i64 (q : Int)) ∧ w'.heap[D]? = some (.deferred (some [])) ∧ Below w.heap.size w w')
      (first
        | exact HF0.out
        | exact FinP.later (by assumption) hb5
        | exact FinP.store (by assumption) _ hz1)
      ((go_at_call 16; (with_reducible refine (HCF.out _ ?hh).mono ?_); (case hh => assumption); rintro e w5 ⟨rfl, hb5⟩; have r1 := bx_below HRD.out hb5; have k1 := Boxed.cell r1; have k2 := Boxed.frozen r1))
    all_goals gi_wp2
    all_goals
      have hS5 : FinP w D n m q A c ls.length (w5.setCell ⟨w.heap.size, 0, none⟩ (.bool true)) := by assumption
      exact retBoxL (r1.set _) hS5.2.2.2.1 ⟨rfl, hS5.2.2.2.2.trans (belowK_b (w := w) (Nat.le_refl _) _ D _ _ (by omega) hS5.2.2.2.1 rfl rfl)⟩ rfl

set_option maxRecDepth 100000 in
theorem ArticleLines_lifted (os : Os) (started : os.Started) (H : Type) (enc : TypeId × Value → H) :
    ReturnsInHanded {} Try.checked os 4 .any (Rows.articleLinesSpec.pre6 enc Try.prog Try.f4 Rows.articleLinesRow.domain false) (Rows.articleLinesSpec.post enc Try.prog Try.f4 false true false false) := by
  refine returnsInHanded_of_change_shaped (C := Try.checked) own started (by kernel_rfl) Try.func4
    (ChangeSpec.witness6 (enc := enc) (C := Try.checked) false ⟨#[], #[.string ByteArray.empty, .int .u8 0], []⟩ 8 (by kernel_rfl) (by kernel_rfl) (by kernel_rfl) (by kernel_rfl)) ?_
  intro W base args ds gs before hval0 hW hcnd _ hsh _
  have hval : ∀ (j : Nat) t v, Try.f4.params[j]? = some t → args[j]? = some v → Value.okWide Try.prog W .any base t v := hval0
  have hW' := hW
  obtain ⟨p, q, hA0, hV, rfl, hfz, hnd⟩ := hW
  have hplt : ∀ x ∈ p, x.block < W.heap.size := fun x hx => hW'.lt x (by simp [hx])
  have hA : DataW.TrodAll enc Try.prog W 0 (fun _ => true) true Try.f4.params.toList args.toList ds p := hA0
  rw [Try.params4] at hA hval
  obtain ⟨v0, vs0, d0, ds0, p0, q0, hargs, rfl, rfl, h0, r0⟩ := trodAll_cons hA
  obtain ⟨v1, vs1, d1, ds1, p1, q1, rfl, rfl, rfl, h1, r1⟩ := trodAll_cons r0
  obtain ⟨rfl, rfl, rfl⟩ := trodAll_nil r1
  obtain rfl : args = #[v0, v1] := by cases args; simp_all
  obtain ⟨rfl, rfl⟩ := trodVars_none hV
  obtain ⟨a0, rfl, rfl, rfl, w0⟩ := open_string Try.underlying9 (hval 0 9 v0 rfl rfl) h0
  obtain ⟨a1, rfl, rfl, rfl, w1⟩ := open_int Try.underlying5 (hval 1 5 v1 rfl rfl) h1
  refine (ArticleLines_walk a0 w0 a1 w1 W hsh).mono fun e W' ⟨he, hg⟩ => ?_
  subst he
  exact ⟨_, rfl, law_post hW' rfl rfl rfl (by decide +kernel) hg⟩

theorem ArticleLines_over : Rows.articleLinesRow.holds Try.pinned (OpenSpec.ofChange Rows.articleLinesSpec) :=
  OpenClaim.holds_of_wide 4 Try.f4 rfl rfl rfl rfl rfl rfl rfl ⟨rfl, rfl, rfl, rfl, rfl⟩ rfl rfl rfl rfl rfl (by kernel_rfl) Try.func4 (by kernel_rfl)
    (of_decide_eq_true (by kernel_rfl)) (by unfold Func.isWrapper; first | (rw [if_pos (by decide +kernel)]; kernel_rfl) | (rw [if_neg (by decide +kernel)]; exact ⟨rfl, rfl⟩))
    (fun os started H enc _ => ArticleLines_lifted os started H enc)

theorem ArticleLines_proved : Rows.ArticleLinesSaid := ArticleLines_over
end Go.Proofs.Ytcohgjdijhogbaa
