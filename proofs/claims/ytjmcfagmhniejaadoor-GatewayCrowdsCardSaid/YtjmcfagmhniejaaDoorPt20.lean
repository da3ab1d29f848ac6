/- Lemmas and walks, part 20. -/
import Derived.Test.YtjmcfagmhniejaaDoorPt14
import Derived.Test.YtjmcfagmhniejaaDoorPt15
import Derived.Test.YtjmcfagmhniejaaDoorPt19
import Derived.Test.YtjmcfagmhniejaaDoorPt12
import Derived.Test.YtjmcfagmhniejaaDoorPt4
import Derived.Deep.RegionLaw
import Derived.Deep.RegionHeld3
import Derived.Deep.AppendLies
namespace Go.Proofs.YtjmcfagmhniejaaDoor
set_option linter.unusedSimpArgs false
set_option linter.unusedVariables false
open Go.RowKit

/-- The cells of lines. -/
def lnsV (l : List Ln) : List Value := l.flatMap fun x => [.int .i64 (x.min : Int), .string (ofL x.nick), .string (ofL x.text)]
theorem lnsV_length (l : List Ln) : (lnsV l).length = l.length * 3 := by
  induction l with
  | nil => rfl
  | cons x r ih => simp only [lnsV, List.flatMap_cons, List.length_append, List.length_cons, List.length_nil] at ih ⊢; omega
theorem lnsV_snoc (l : List Ln) (x : Ln) : lnsV (l ++ [x]) = lnsV l ++ [.int .i64 (x.min : Int), .string (ofL x.nick), .string (ofL x.text)] := by simp [lnsV]
theorem lnsV_one (l : List Ln) : ∀ u ∈ lnsV l, u.oneCell' = true := by
  intro u hu
  simp only [lnsV, List.mem_flatMap] at hu
  obtain ⟨f, _, hf⟩ := hu
  simp at hf
  rcases hf with rfl | rfl | rfl <;> rfl
theorem info_Line : (Tryd.prog.info? 44).map (fun i => (i.zero, i.size, i.bytes)) = some (some (.agg #[.int .i64 0, .string ⟨#[]⟩, .string ⟨#[]⟩]), 3, 40) := by kernel_rfl
theorem el_Line : Elem Tryd.prog 37 44 3 40 := Elem.of Tryd.underlying37 info_Line rfl (by omega)
/-- A gateway in a box of its own, and the lines that wait. -/
structure GwAt (w : World) (b : Nat) (R G N : ByteArray) (v : Value) (ls : List Ln) (last : Int) (m1 m2 : Nat) : Prop where
  box : w.heap[b]? = some (.cells #[.string R, .string G, .string N, v, .int .i64 last, .map (some m1), .map (some m2)] 54 (0, 0))
  own : w.ownsRow (b + 1) 44 3 v ls.length (lnsV ls)
theorem GwAt.below {w w' : World} {b : Nat} {R G N : ByteArray} {v : Value} {ls : List Ln} {last : Int} {m1 m2 : Nat} (h : GwAt w b R G N v ls last m1 m2) (hb : Below w.heap.size w w') : GwAt w' b R G N v ls last m1 m2 :=
  ⟨(hb.block _ (heap_lt h.box)).trans h.box, own_below h.own hb⟩
set_option maxHeartbeats 4000000 in
set_option maxRecDepth 100000 in
theorem sl_cloneL (A : Option Addr) (l : List Ln) (c : Nat) (w : World) (hr : Row w A (lnsV l)) (hl : l.length ≤ 1000000) :
    Calls Tryd.prog 32 #[.slice A l.length c] w fun e w' => ∃ v, e = .returned v ∧ w'.ownsRow w.heap.size 44 3 v l.length (lnsV l) ∧ Below w.heap.size w w' := by
  have q47 : ∀ (w : World) (a : Option Addr) (n c n' c' : Nat), (binOp .eql 37 (.slice a n c) (.slice none n' c')).run Tryd.prog w = .ok (.bool a.isNone) w := fun w a n c n' c' => Lib.run_eql_slice_nil w _ _ a n c n' c' Tryd.underlying37
  rcases A with _ | ad
  · obtain rfl : l = [] := by
      rcases hr with h | ⟨b, off, e, _⟩
      · have := lnsV_length l; rw [h] at this; simp at this; exact List.eq_nil_of_length_eq_zero (by omega)
      · cases e
    go_enter Tryd.func32, Tryd.ntmps32
    go_wp2_with fail
    go_ret
    exact ⟨_, rfl, World.ownsRow_nil _ _ _ _, Below.refl _ _⟩
  · have hown : (w.alloc (.cells #[] 44)).ownsRow w.heap.size 44 3 (.slice (some ⟨w.heap.size, 0, none⟩) 0 0) 0 [] :=
      ⟨rfl, .inr ⟨w.heap.size, 0, #[], rfl, Nat.le_refl _, heap_alloc_new _ _, Nat.le_refl _, by unfold maxLen; omega, rfl, rfl⟩⟩
    have HB := Lib.hid (show Below w.heap.size w (w.alloc (.cells #[] 44)) from (Below.refl _ _).alloc (Nat.le_refl _) _)
    have hr2 : Row (w.alloc (.cells #[] 44)) (some ad) (lnsV l) := hr.below HB.out
    go_enter Tryd.func32, Tryd.ntmps32
    go_wp2_with ((at_builtin; refine wpList_pour el_Line rfl _ _ rfl hown rfl (A := some ad) (m := l.length) (c := c) (news := lnsV l) rfl hr2 (lnsV_length l) (lnsV_one l) ?q1 ?q2 ?q3 ?q4 ?_))
    case q1 => intro h; cases h
    case q2 => omega
    case q3 => unfold maxLen; omega
    case q4 => simp
    intro v' w2 hown2 hg2 _
    have hg3 := HB.out.grown hg2 (by simp) (by intro k hk; simp [Value.ownBlock] at hk; omega)
    go_wp2_with fail
    go_ret
    exact ⟨_, rfl, by simpa using hown2, hg3⟩
theorem gw_waiting_nil (w : World) : Calls Tryd.prog 15 #[.pointer none] w fun e w' => e = .returned (.slice none 0 0) ∧ w = w' := by
  go_enter Tryd.func15, Tryd.ntmps15
  go_wp2_with fail
  go_ret
  exact ⟨rfl, rfl⟩
set_option maxHeartbeats 1000000 in
theorem gw_waiting {w : World} {b : Nat} {R G N : ByteArray} {v : Value} {ls : List Ln} {last : Int} {m1 m2 : Nat} (h : GwAt w b R G N v ls last m1 m2) (hl : ls.length ≤ 1000000) :
    Calls Tryd.prog 15 #[.pointer (some ⟨b, 0, none⟩)] w fun e w' => ∃ A c, e = .returned (.slice A ls.length c) ∧ w'.ownsRow w.heap.size 44 3 (.slice A ls.length c) ls.length (lnsV ls) ∧ Below w.heap.size w w' := by
  obtain ⟨A, c, rfl, hr⟩ := own_row h.own
  have k0 : w.cell? ⟨b, 3, none⟩ = some (.slice A ls.length c) := by rw [Lib.cell_of_heap h.box]; rfl
  have HC := Lib.hid (sl_cloneL A ls c w hr hl)
  clear h hr
  go_enter Tryd.func15, Tryd.ntmps15
  go_wp2_with ((go_at_call 32; (with_reducible refine HC.out.mono ?_); rintro e w1 ⟨v1, rfl, ho, hb1⟩))
  obtain ⟨A2, c2, rfl, _⟩ := own_row ho
  go_ret
  exact ⟨A2, c2, rfl, ho, hb1⟩
theorem run_mk (T : TypeId) (w : World) : (Instr.makeMap T none).run Tryd.prog w = .ok (.map (some w.heap.size)) (w.alloc (.map #[] 0)) := by
  simp [Instr.makeMap, newObj, Sem.run_bind]
  rfl
/-- What New leaves. -/
def NewPost (R G N : ByteArray) (w : World) (e : Ending) (w' : World) : Prop :=
  (newE (toL R) (toL G) (toL N) = 0 ∧ ∃ b m1 m2, e = .returned (.tuple #[.pointer (some ⟨b, 0, none⟩), .int .i64 0]) ∧ GwAt w' b R G N (.slice none 0 0) [] 0 m1 m2 ∧ w.heap.size ≤ b ∧ Below w.heap.size w w') ∨
  (newE (toL R) (toL G) (toL N) ≠ 0 ∧ e = .returned (.tuple #[.pointer none, .int .i64 (newE (toL R) (toL G) (toL N))]) ∧ Below w.heap.size w w')
set_option maxHeartbeats 2000000 in
set_option maxRecDepth 100000 in
theorem gw_new (R G N : ByteArray) (w : World) (hsh : w.ShapedOpen Tryd.prog) (hR : R.size ≤ maxLen) (hG : G.size ≤ maxLen) (hN : N.size ≤ maxLen) : Calls Tryd.prog 13 #[.string R, .string G, .string N] w (NewPost R G N w) := by
  have HV := Lib.hid (show newE (toL R) (toL G) (toL N) = if roomB (toL R) = false then 3 else if grpE (toL G) ≠ 0 then grpE (toL G) else if nickB (toL N) = false then 12 else 0 from rfl)
  have HR := Lib.hid (fun wx => gw_isRoom R wx hR)
  have HG := Lib.hid (gn_check G w hsh hG)
  have HN := Lib.hid (fun wx => gw_isNick N wx hN)
  rcases h1 : roomB (toL R) with _ | _
  · rw [h1] at HR HV
    have HW := Lib.hid (show newE (toL R) (toL G) (toL N) = 3 from by rw [HV.out, if_pos rfl])
    clear h1
    go_enter Tryd.func13, Tryd.ntmps13
    go_wp2_with ((go_at_call 27; (with_reducible refine (HR.out _).mono ?_); rintro e w' ⟨rfl, rfl⟩))
    go_ret2
    exact .inr ⟨by rw [HW.out]; omega, by rw [HW.out]; rfl, Below.refl _ _⟩
  · rw [h1] at HR HV
    clear h1
    by_cases h2 : grpE (toL G) = 0
    · rw [h2] at HG HV
      clear h2
      rcases h3 : nickB (toL N) with _ | _
      · rw [h3] at HN HV
        have HW := Lib.hid (show newE (toL R) (toL G) (toL N) = 12 from by rw [HV.out]; rfl)
        clear h3
        go_enter Tryd.func13, Tryd.ntmps13
        go_wp2_with (first | (go_at_call 27; (with_reducible refine (HR.out _).mono ?_); rintro e w' ⟨rfl, rfl⟩) | (go_at_call 28; (with_reducible refine HG.out.mono ?_); rintro e w1 ⟨rfl, hb1⟩) | (go_at_call 29; (with_reducible refine (HN.out _).mono ?_); rintro e w' ⟨rfl, rfl⟩))
        go_ret2
        exact .inr ⟨by rw [HW.out]; omega, by rw [HW.out]; rfl, hb1⟩
      · rw [h3] at HN HV
        have HW := Lib.hid (show newE (toL R) (toL G) (toL N) = 0 from by rw [HV.out]; rfl)
        have hmk := run_mk 52
        clear h3
        go_enter Tryd.func13, Tryd.ntmps13
        go_wp2_with (first | (go_at_call 27; (with_reducible refine (HR.out _).mono ?_); rintro e w' ⟨rfl, rfl⟩) | (go_at_call 28; (with_reducible refine HG.out.mono ?_); rintro e w1 ⟨rfl, hb1⟩) | (go_at_call 29; (with_reducible refine (HN.out _).mono ?_); rintro e w' ⟨rfl, rfl⟩))
        go_ret2
        have hz := hb1.size
        exact .inl ⟨HW.out, w1.heap.size + 1 + 1, _, _, rfl, ⟨alloc_at _ _ _ (by simp), World.ownsRow_nil _ _ _ _⟩, by omega, ((hb1.alloc (by omega) _).alloc (by simp; omega) _).alloc (by simp; omega) _⟩
    · have HW := Lib.hid (show newE (toL R) (toL G) (toL N) = grpE (toL G) from by rw [HV.out, if_neg (by simp), if_pos h2])
      have HNZ := Lib.hid h2
      have e1 : (grpE (toL G) != 0) = true := by simp [bne, h2]
      clear h2
      generalize grpE (toL G) = er at *
      go_enter Tryd.func13, Tryd.ntmps13
      go_wp2_with (first | (go_at_call 27; (with_reducible refine (HR.out _).mono ?_); rintro e w' ⟨rfl, rfl⟩) | (go_at_call 28; (with_reducible refine HG.out.mono ?_); rintro e w1 ⟨rfl, hb1⟩))
      go_ret2
      exact .inr ⟨by rw [HW.out]; exact HNZ.out, by rw [HW.out]; rfl, hb1⟩
end Go.Proofs.YtjmcfagmhniejaaDoor

namespace Go.Proofs.YtjmcfagmhniejaaDoor
set_option linter.unusedSimpArgs false
set_option linter.unusedVariables false
open Go.RowKit

def hearE (m : Int) (n t : Bs) (last : Int) : Int := if lineE m n t ≠ 0 then lineE m n t else if m < last then 30 else 0
def hearL (ls : List Ln) (m : Int) (n t N : Bs) : List Ln := if foldEq n N then ls else ls ++ [⟨m.toNat, n, t⟩]
structure HearPost (R G N : ByteArray) (m : Int) (n t : ByteArray) (ls : List Ln) (last : Int) (m1 m2 b : Nat) (w : World) (e : Ending) (w' : World) : Prop where
  ret : e = .returned (.int .i64 (hearE m (toL n) (toL t) last))
  at_ : ∃ v', GwAt w' b R G N v' (if hearE m (toL n) (toL t) last = 0 then hearL ls m (toL n) (toL t) (toL N) else ls) (if hearE m (toL n) (toL t) last = 0 then m else last) m1 m2
  bel : Below b w w'
theorem HearPost.err {R G N : ByteArray} {m : Int} {n t : ByteArray} {ls : List Ln} {last : Int} {m1 m2 b : Nat} {w w' : World} {e : Ending} {v : Value} {k : Int} (h : GwAt w b R G N v ls last m1 m2) (hk : hearE m (toL n) (toL t) last = k) (h0 : k ≠ 0) (he : e = .returned (.int .i64 k)) (hb : Below w.heap.size w w') :
    HearPost R G N m n t ls last m1 m2 b w e w' := by
  subst hk
  exact ⟨he, ⟨v, by rw [if_neg h0, if_neg h0]; exact h.below hb⟩, hb.mono (Nat.le_of_lt (heap_lt h.box))⟩
theorem alloc_bel (w : World) (o : Obj) : Below w.heap.size w (w.alloc o) := (Below.refl _ _).alloc (Nat.le_refl _) _
theorem heap_ne {w w' : World} {p q : Nat} {o : Obj} (h : w.heap[q]? = some o) (hg : ∀ g : Nat, g ≠ p → g < w.heap.size → w'.heap[g]? = w.heap[g]?) (hq : q ≠ p) : w'.heap[q]? = some o := (hg q hq (heap_lt h)).trans h
theorem own_ne {w w' : World} {p : Nat} {e : TypeId} {size n : Nat} {v : Value} {xs : List Value} (h : w.ownsRow (p + 1) e size v n xs) (hg : ∀ g : Nat, g ≠ p → g < w.heap.size → w'.heap[g]? = w.heap[g]?) : w'.ownsRow (p + 1) e size v n xs := by
  refine ⟨h.1, ?_⟩
  rcases h.2 with h2 | ⟨g, cap, cur, hv, hg', hh, r⟩
  · exact .inl h2
  · exact .inr ⟨g, cap, cur, hv, hg', heap_ne hh hg (by omega), r⟩
theorem heap_set_ne {w : World} {p q i : Nat} (u : Value) (h : q ≠ p) : (w.setCell ⟨p, i, none⟩ u).heap[q]? = w.heap[q]? := Below.heap_setCell _ _ _ _ h
theorem minB_nat {m : Int} {n t : Bs} (h : lineE m n t = 0) : ((m.toNat : Nat) : Int) = m := by
  unfold lineE at h
  split at h
  · cases h
  · rename_i h1
    have : 0 ≤ m := by
      unfold minB at h1; simp at h1; omega
    omega

theorem HearPost.kept {R G N : ByteArray} {m : Int} {n t : ByteArray} {ls : List Ln} {last : Int} {m1 m2 b : Nat} {w w' : World} {e : Ending} {v : Value} (hk : hearE m (toL n) (toL t) last = 0) (hf : foldEq (toL n) (toL N) = true)
    (hbx : w'.heap[b]? = some (.cells #[.string R, .string G, .string N, v, .int .i64 m, .map (some m1), .map (some m2)] 54 (0, 0))) (ho : w'.ownsRow (b + 1) 44 3 v ls.length (lnsV ls)) (he : e = .returned (.int .i64 0)) (hb : Below b w w') :
    HearPost R G N m n t ls last m1 m2 b w e w' :=
  ⟨by rw [he, hk], ⟨v, by rw [if_pos hk, if_pos hk]; unfold hearL; rw [if_pos hf]; exact ⟨hbx, ho⟩⟩, hb⟩
theorem HearPost.more {R G N : ByteArray} {m : Int} {n t : ByteArray} {ls : List Ln} {last : Int} {m1 m2 b : Nat} {w w3 w4 : World} {e : Ending} {v : Value} {o : Obj} {g cap : Nat} (hk : hearE m (toL n) (toL t) last = 0) (hf : foldEq (toL n) (toL N) = false) (hm : ((m.toNat : Nat) : Int) = m)
    (hbx : w4.heap[b]? = some (.cells #[.string R, .string G, .string N, v, .int .i64 m, .map (some m1), .map (some m2)] 54 (0, 0))) (ho : w3.ownsRow (b + 1) 44 3 v ls.length (lnsV ls)) (he : e = .returned (.int .i64 0)) (hb : Below b w w3) (hlt : b < w3.heap.size)
    (ho4 : w4.ownsRow (b + 1) 44 3 (.slice (some ⟨g, 0, none⟩) (ls.length + 1) cap) (ls.length + 1) (lnsV ls ++ [.int .i64 m, .string n, .string t])) (hgr : (w3.alloc o).drew.grownBy w4 v.ownBlock) :
    HearPost R G N m n t ls last m1 m2 b w e (w4.setCell ⟨b, 3, none⟩ (.slice (some ⟨g, 0, none⟩) (ls.length + 1) cap)) := by
  refine ⟨by rw [he, hk], ⟨.slice (some ⟨g, 0, none⟩) (ls.length + 1) cap, ?_⟩, ((((hb.alloc (Nat.le_of_lt hlt) _).drew).grown hgr (by simp; omega) (fun k hk => by have := (ho.lt k hk).1; omega)).setCell (p := ⟨b, 3, none⟩) (Nat.le_refl _) _)⟩
  rw [if_pos hk, if_pos hk]
  unfold hearL
  rw [if_neg (by rw [hf]; decide)]
  refine ⟨heap_set hbx _, ?_⟩
  rw [lnsV_snoc, List.length_append]
  simp only [hm, ofL_toL]
  exact own_ne ho4 (fun g hg _ => heap_set_ne _ hg)
set_option maxHeartbeats 8000000 in
set_option maxRecDepth 100000 in
theorem gw_hear {w : World} {b : Nat} {R G N : ByteArray} {v : Value} {ls : List Ln} {last : Int} {m1 m2 : Nat} (h : GwAt w b R G N v ls last m1 m2) (m : Int) (n t : ByteArray) (hN : N.size ≤ maxLen) (hn : n.size ≤ maxLen) (ht : t.size ≤ 900000) (hl : ls.length ≤ 1000000) :
    Calls Tryd.prog 22 #[.pointer (some ⟨b, 0, none⟩), .agg #[.int .i64 m, .string n, .string t]] w (HearPost R G N m n t ls last m1 m2 b w) := by
  have HG := Lib.hid h; clear h
  have hbw := heap_lt HG.out.box
  have HC := Lib.hid (fun wx => gw_check m n t wx hn ht)
  have HQ := Lib.hid (show hearE m (toL n) (toL t) last = if lineE m (toL n) (toL t) ≠ 0 then lineE m (toL n) (toL t) else if m < last then 30 else 0 from rfl)
  by_cases he : lineE m (toL n) (toL t) = 0
  · rw [he] at HC
    have HMN := Lib.hid (minB_nat he)
    rw [he] at HQ
    clear he
    go_enter Tryd.func22, Tryd.ntmps22
    go_upto_region 6 with ((go_at_call 37; (with_reducible refine (HC.out _).mono ?_); rintro e w1 ⟨rfl, hb1⟩))
    have HBL := Lib.hid (show Below w.heap.size w w1 from (alloc_bel _ _).trans (hb1.mono (by simp)))
    have HLB := Lib.hid (show w1.heap[w.heap.size]? = some (.cells #[.int .i64 m, .string n, .string t] 44 (0, 0)) from (hb1.block _ (by simp)).trans (heap_alloc_new w _))
    have HG1 := Lib.hid (HG.out.below HBL.out)
    clear hb1
    have l0 : w1.cell? ⟨w.heap.size, 0, none⟩ = some (.int .i64 m) := by rw [Lib.cell_of_heap HLB.out]; rfl
    have l1 : w1.cell? ⟨w.heap.size, 1, none⟩ = some (.string n) := by rw [Lib.cell_of_heap HLB.out]; rfl
    have l2 : w1.cell? ⟨w.heap.size, 2, none⟩ = some (.string t) := by rw [Lib.cell_of_heap HLB.out]; rfl
    have g4 : w1.cell? ⟨b, 4, none⟩ = some (.int .i64 last) := by rw [Lib.cell_of_heap HG1.out.box]; rfl
    have f4 := Lib.frozen_of_heap HG1.out.box 4
    have z0 := heap_lt HLB.out
    have z1 := heap_lt HG1.out.box
    by_cases hlt : m < last
    · have HV := Lib.hid (show hearE m (toL n) (toL t) last = 30 from by rw [HQ.out, if_neg (by simp), if_pos hlt])
      go_wp2_with fail
      go_region
      all_goals
        go_wp2_with fail
        go_ret
        exact HearPost.err HG.out HV.out (by decide) rfl HBL.out.drew
    · have HV := Lib.hid (show hearE m (toL n) (toL t) last = 0 from by rw [HQ.out, if_neg (by simp), if_neg hlt])
      have hlt2 : last ≤ m := by omega
      go_wp2_with fail
      go_region
      have HG2 := Lib.hid (show ((w1.setCell ⟨b, 4, none⟩ (.int .i64 m)).drew).heap[b]? = some (.cells #[.string R, .string G, .string N, v, .int .i64 m, .map (some m1), .map (some m2)] 54 (0, 0)) from heap_set (w := w1) HG1.out.box _)
      have HL2 := Lib.hid (show ((w1.setCell ⟨b, 4, none⟩ (.int .i64 m)).drew).heap[w.heap.size]? = some (.cells #[.int .i64 m, .string n, .string t] 44 (0, 0)) from (heap_set_ne _ (by omega)).trans HLB.out)
      have HO2 := Lib.hid (show ((w1.setCell ⟨b, 4, none⟩ (.int .i64 m)).drew).ownsRow (b + 1) 44 3 v ls.length (lnsV ls) from own_ne HG1.out.own (fun g hg _ => heap_set_ne _ hg))
      have HB2 := Lib.hid (show Below b w ((w1.setCell ⟨b, 4, none⟩ (.int .i64 m)).drew) from ((HBL.out.mono (Nat.le_of_lt hbw)).setCell (p := ⟨b, 4, none⟩) (Nat.le_refl _) _).drew)
      go_upto_region 9 with fail
      generalize (w1.setCell ⟨b, 4, none⟩ (.int .i64 m)).drew = w2 at *
      have HB3 := Lib.hid (show Below b w w2 from HB2.out)
      clear l0 l1 l2 g4 f4 z0 z1 HG1 HLB HBL HB2
      have l1 : w2.cell? ⟨w.heap.size, 1, none⟩ = some (.string n) := by rw [Lib.cell_of_heap HL2.out]; rfl
      have g2 : w2.cell? ⟨b, 2, none⟩ = some (.string N) := by rw [Lib.cell_of_heap HG2.out]; rfl
      have z0 := heap_lt HL2.out
      have z1 := heap_lt HG2.out
      rcases hf : foldEq (toL n) (toL N) with _ | _
      · have HF := Lib.hid hf
        clear hf
        go_region_with ((go_at_call 50; (with_reducible refine (asc_equalFold _ _ _ hn hN).mono ?_); rintro e w3 ⟨rfl, hb3⟩; rw [HF.out]))
        all_goals
          go_upto_region 10 with fail
          have HB4 := Lib.hid (show Below w2.heap.size w2 w3 from by first | exact hb3 | exact below_undrew hb3 | exact below_undrewN hb3)
          have HG3 := Lib.hid ((HB4.out.block b z1).trans HG2.out)
          have HL3 := Lib.hid ((HB4.out.block w.heap.size z0).trans HL2.out)
          have HO3 := Lib.hid (own_below HO2.out HB4.out)
          have HB5 := Lib.hid (HB3.out.trans (HB4.out.mono (Nat.le_of_lt z1)))
          clear l1 g2 z0 z1 HG2 HL2 HO2 HB3 hb3 HB4
          obtain ⟨A, c, rfl, _⟩ := own_row HO3.out
          obtain ⟨i0, hi0, hz0, hz1, hz2⟩ := info_parts info_Line
          have l0 : w3.cell? ⟨w.heap.size, 0, none⟩ = some (.int .i64 m) := by rw [Lib.cell_of_heap HL3.out]; rfl
          have l1 : w3.cell? ⟨w.heap.size, 1, none⟩ = some (.string n) := by rw [Lib.cell_of_heap HL3.out]; rfl
          have l2 : w3.cell? ⟨w.heap.size, 2, none⟩ = some (.string t) := by rw [Lib.cell_of_heap HL3.out]; rfl
          have g3 : w3.cell? ⟨b, 3, none⟩ = some (.slice A ls.length c) := by rw [Lib.cell_of_heap HG3.out]; rfl
          have gf3 := Lib.frozen_of_heap HG3.out 3
          have z0 := heap_lt HL3.out
          have z1 := heap_lt HG3.out
          have aw : (Value.slice A ls.length c).ownBlock ≠ some b := fun e => by have := (HO3.out.lt _ e).1; omega
          have hown := HO3.out
          go_region_law
            ((refine step_append_lies _ (by rfl) _ _ _ (by rfl) (b + 1) 44 i0 _ 3 40 Tryd.underlying37 hi0 hz0 hz1 hz2 rfl (by omega) (.slice A ls.length c) _ (lnsV ls) (by rfl) ((hown.alloc _).drew)
                ⟨w3.heap.size, 0, none⟩ 1 1 [.int .i64 m, .string n, .string t] (by rfl) (by rfl) (World.news_of_block (cs := #[.int .i64 m, .string n, .string t]) (t := 44) (fr := (0, 0)) (heap_alloc_new w3 _)) (by simp [Value.oneCell'])
                (by omega) (by unfold maxLen; omega) (by omega) (by simp; omega) (w3.heap.size + 1) (by simp) ?_
              intro gg cap w4 hown3 hgrow hat hlt1
              have HB := Lib.hid ((hgrow.block b (by simp; omega) (Ne.symm aw)).trans ((Lib.alloc_old w3 _ b (by omega)).trans HG3.out))
              have hcz : w4.cell? ⟨b, 3, none⟩ = some (.slice A ls.length c) := by rw [Lib.cell_of_heap HB.out]; rfl
              have hfz : w4.frozen? ⟨b, 3, none⟩ = false := Lib.frozen_of_heap HB.out 3))
          all_goals
            have HP := Lib.hid (HearPost.more (last := last) (e := .returned (.int .i64 0)) HV.out HF.out HMN.out HB.out HO3.out rfl HB5.out z1 hown3 hgrow)
            go_wp2_with fail
            go_ret
            exact HP.out
      · have HF := Lib.hid hf
        clear hf
        go_region_with ((go_at_call 50; (with_reducible refine (asc_equalFold _ _ _ hn hN).mono ?_); rintro e w3 ⟨rfl, hb3⟩; rw [HF.out]))
        all_goals
          have HB4 := Lib.hid (show Below w2.heap.size w2 w3 from by first | exact hb3 | exact below_undrew hb3 | exact below_undrewN hb3)
          go_wp2_with fail
          go_ret
          exact HearPost.kept HV.out HF.out ((HB4.out.block b z1).trans HG2.out) (own_below HO2.out HB4.out) rfl (HB3.out.trans (HB4.out.mono (Nat.le_of_lt z1)))
  · have HV := Lib.hid (show hearE m (toL n) (toL t) last = lineE m (toL n) (toL t) from by rw [HQ.out, if_pos he])
    have HE := Lib.hid he
    have e1 : (lineE m (toL n) (toL t) != 0) = true := by simp [bne, he]
    clear he
    generalize lineE m (toL n) (toL t) = er at *
    go_enter Tryd.func22, Tryd.ntmps22
    go_wp2_with ((go_at_call 37; (with_reducible refine (HC.out _).mono ?_); rintro e w1 ⟨rfl, hb1⟩))
    go_ret
    exact HearPost.err HG.out HV.out HE.out rfl ((alloc_bel _ _).trans (hb1.mono (by simp)))
end Go.Proofs.YtjmcfagmhniejaaDoor

namespace Go.Proofs.YtjmcfagmhniejaaDoor
set_option linter.unusedSimpArgs false
set_option linter.unusedVariables false
open Go.RowKit

theorem lw_short (a : ByteArray) (ha : a.size ≤ maxLen) (n : Nat) (k : Int) (hk : k = (n : Int)) (w : World) (hn : n ≤ 1000000) : Calls Tryd.prog 6 #[.string a, .int .i64 k] w fun e w' => e = .returned (.string (a.extract 0 (min a.size n))) ∧ w = w' := by
  subst hk
  unfold maxLen at ha
  have hm : min (a.size : Int) (n : Int) = ((min a.size n : Nat) : Int) := by omega
  have h0 : (0 : Int) ≤ ((min a.size n : Nat) : Int) := by omega
  have h1 : ((min a.size n : Nat) : Int) ≤ (a.size : Int) := by omega
  have HT := Lib.hid (show (((min a.size n : Nat) : Int)).toNat = min a.size n from by omega)
  generalize min a.size n = m at *
  go_enter Tryd.func6, Tryd.ntmps6
  go_wp2_with fail
  go_ret
  exact ⟨rfl, rfl⟩
theorem short_size (a : ByteArray) (n : Nat) : (a.extract 0 (min a.size n)).size ≤ n := by rw [extract_size _ _ _ (by omega)]; omega
/-- A line as a value. -/
def lineV (m : Int) (n t : ByteArray) : Value := .agg #[.int .i64 m, .string n, .string t]
def cut1 (n : ByteArray) (k : Nat) : ByteArray := n.extract 0 (min n.size k)
end Go.Proofs.YtjmcfagmhniejaaDoor

namespace Go.Proofs.YtjmcfagmhniejaaDoor
set_option linter.unusedSimpArgs false
set_option linter.unusedVariables false
open Go.RowKit

/-- The offset of a byte from an offset on; -1: there is none. -/
def idxV (c : UInt8) (L : Bs) (a : Nat) : Int := if posF c (L.drop a) < (L.drop a).length then ((a + posF c (L.drop a) : Nat) : Int) else -1
theorem idx_end {c : UInt8} {L : Bs} {a : Nat} (h : L.length ≤ a) : idxV c L a = -1 := by
  unfold idxV; rw [List.drop_eq_nil_of_le h]; simp
theorem posF_cons (c x : UInt8) (r : Bs) : posF c (x :: r) = if x = c then 0 else posF c r + 1 := by
  unfold posF; rw [List.takeWhile_cons]
  by_cases h : x = c
  · simp [h]
  · simp [h]
theorem idx_hit {c : UInt8} {L : Bs} {a : Nat} (h : a < L.length) (e : L[a] = c) : idxV c L a = (a : Int) := by
  unfold idxV; rw [List.drop_eq_getElem_cons h, posF_cons, if_pos e, if_pos (by rw [List.length_cons]; omega)]; simp
theorem idx_step {c : UInt8} {L : Bs} {a : Nat} (h : a < L.length) (e : L[a] ≠ c) : idxV c L a = idxV c L (a + 1) := by
  unfold idxV; rw [List.drop_eq_getElem_cons h, posF_cons, if_neg e]
  simp only [List.length_cons]
  by_cases g : posF c (L.drop (a + 1)) < (L.drop (a + 1)).length
  · rw [if_pos (by omega), if_pos g]; omega
  · rw [if_neg (by omega), if_neg g]
theorem num_eq (a b : UInt8) : (num a == num b) = decide (a = b) := by
  by_cases h : a = b
  · subst h; simp
  · simp only [h, decide_false, beq_eq_false_iff_ne, ne_eq, num]
    intro e; exact h (UInt8.toNat_inj.1 (by omega))
/-- What number returns. -/
def numM (L : Bs) : Int := if badNum L then -1 else ((min (valD L) 1099511627776 : Nat) : Int)
theorem numM_bad {L : Bs} (h : badNum L = true) : numM L = -1 := by unfold numM; rw [if_pos h]
theorem numM_ok {L : Bs} (h : badNum L = false) : numM L = ((min (valD L) 1099511627776 : Nat) : Int) := by unfold numM; rw [if_neg (by rw [h]; simp)]
end Go.Proofs.YtjmcfagmhniejaaDoor

namespace Go.Proofs.YtjmcfagmhniejaaDoor
set_option linter.unusedSimpArgs false
set_option linter.unusedVariables false
open Go.RowKit

theorem one_cutG (s : ByteArray) (k : Nat) (h : k < s.size) : s.extract k (k + 1) = ofL [s[k]'h] := by
  apply toL_inj
  rw [toL_ofL, extract_toL, cutL]
  have hk : k < (toL s).length := by rw [toL_length]; exact h
  rw [List.drop_eq_getElem_cons hk, toL_getElem s k h]
  simp
/-- What a component may hold. -/
def PreC (s : ByteArray) (k : Nat) : Prop := ∀ j (h : j < s.size), 1 ≤ j → j < k → notG (num s[j]) = false
theorem PreC.one (s : ByteArray) : PreC s 1 := fun _ _ h1 h2 => by omega
theorem PreC.step {s : ByteArray} {k : Nat} (h : PreC s k) (hk : k < s.size) (h1 : notG (num s[k]) = false) : PreC s (k + 1) := by
  intro j hj h2 h3
  by_cases e : j = k
  · subst e; exact h1
  · exact h j hj h2 (by omega)
theorem lower_notG {c : Int} (h : isLower c = true) : notG c = false := by unfold notG; simp [h]
theorem PreC.all {s : ByteArray} {k : Nat} (h : PreC s k) (h0 : 0 < s.size) (h4 : isLower (num s[0]) = true) : PreG s k := by
  intro j hj h3
  by_cases e : j = 0
  · subst e; exact lower_notG h4
  · exact h j hj (by omega) h3
set_option maxHeartbeats 4000000 in
set_option maxRecDepth 100000 in
theorem r12_component (s : ByteArray) (w : World) (hs : s.size ≤ maxLen) : Calls Tryd.prog 57 #[.string s] w fun e w' => e = .returned (.bool (compG (toL s))) ∧ w = w' := by
  unfold maxLen at hs
  by_cases h0 : s.size = 0
  · have H := Lib.hid (compG_nil h0)
    have h1 : (s.size : Int) < 1 := by omega
    clear h0
    go_enter Tryd.func57, Tryd.ntmps57
    go_wp2_with fail
    go_ret
    exact ⟨ret_bool H.out.symm, rfl⟩
  · have h2 : 0 < s.size := by omega
    have h1 : (1 : Int) ≤ (s.size : Int) := by omega
    clear h0
    by_cases h3 : s.size ≤ 20
    · have h5 : (s.size : Int) ≤ 20 := by omega
      by_cases h4 : isLower (num s[0]) = true
      · have HG := Lib.hid (fun k => compG_good (k := k) h2 h3 h4)
        have HB := Lib.hid (fun k (hk : k < s.size) => compG_bad (s := s) hk)
        have HPA := Lib.hid (fun k (hp : PreC s k) => hp.all h2 h4)
        have l1 : (97 : Int) ≤ num s[0] := by simp [isLower] at h4; omega
        have l2 : num s[0] ≤ (122 : Int) := by simp [isLower] at h4; omega
        have m0 : decide ((s.size : Int) < 1) = false := by simp; omega
        have m1 : decide ((20 : Int) < (s.size : Int)) = false := by simp; omega
        have m2 : decide (num s[0] < (97 : Int)) = false := by simp only [decide_eq_false_iff_not]; omega
        have m3 : decide ((122 : Int) < num s[0]) = false := by simp only [decide_eq_false_iff_not]; omega
        clear h4
        go_enter Tryd.func57, Tryd.ntmps57
        go_wp2_with fail
        go_loop [3] (fun v => ∃ k : Nat, 1 ≤ k ∧ k ≤ s.size ∧ v = .int .i64 (k : Int) ∧ PreC s k) (fun v => s.size - (intOf v).toNat)
        case atStart => exact ⟨1, by omega, by omega, rfl, PreC.one s⟩
        case round =>
          obtain ⟨k, hk1, hk, rfl, hp⟩ := hrel
          have HP := Lib.hid hp; clear hp
          have k0 : (0 : Int) ≤ (k : Int) := by omega
          by_cases hlt : k < s.size
          · have k1 : (k : Int) < (s.size : Int) := by omega
            have HN := Lib.hid (fun (h : notG (num (s[k]'hlt)) = false) => HP.out.step hlt h)
            have HR := Lib.hid (HB.out k hlt)
            have HNG := Lib.hid (show ∀ c : Int, notG c = !(decide (97 ≤ c) && decide (c ≤ 122) || decide (48 ≤ c) && decide (c ≤ 57) || c == 45 || c == 43 || c == 95) from fun c => by
              unfold notG isLower isDigit
              simp only [Bool.not_or, bne])
            have key : ∀ c : Int, (notG c = true ∧ (decide (97 ≤ c) = false ∨ (decide (97 ≤ c) = true ∧ decide (c ≤ 122) = false)) ∧ (decide (48 ≤ c) = false ∨ (decide (48 ≤ c) = true ∧ decide (c ≤ 57) = false)) ∧ (c == 45) = false ∧ (c == 43) = false ∧ (c == 95) = false) ∨ (notG c = false ∧ ((decide (97 ≤ c) = true ∧ decide (c ≤ 122) = true) ∨ ((decide (97 ≤ c) = false ∨ (decide (97 ≤ c) = true ∧ decide (c ≤ 122) = false)) ∧ ((decide (48 ≤ c) = true ∧ decide (c ≤ 57) = true) ∨ ((decide (48 ≤ c) = false ∨ (decide (48 ≤ c) = true ∧ decide (c ≤ 57) = false)) ∧ ((c == 45) = true ∨ ((c == 45) = false ∧ ((c == 43) = true ∨ ((c == 43) = false ∧ (c == 95) = true))))))))) := fun c => by
              rw [HNG.out c]
              cases a1 : decide (97 ≤ c) <;> cases a2 : decide (c ≤ 122) <;> cases a3 : decide (48 ≤ c) <;> cases a4 : decide (c ≤ 57) <;> cases a5 : (c == 45) <;> cases a6 : (c == 43) <;> cases a7 : (c == 95) <;> simp
            replace key := key (num (s[k]'hlt))
            clear HNG
            rcases key with ⟨hn, h97 | ⟨g97, h97⟩, h48 | ⟨g48, h48⟩, e1, e2, e3⟩ | ⟨hn, ⟨a1, a2⟩ | ⟨h97 | ⟨g97, h97⟩, ⟨a3, a4⟩ | ⟨h48 | ⟨g48, h48⟩, e1 | ⟨e1, e2 | ⟨e2, e3⟩⟩⟩⟩⟩
            iterate 4
              · have HV := Lib.hid (HR.out hn)
                clear hn
                go_wp2_with fail
                go_ret
                exact ⟨ret_bool HV.out.symm, rfl⟩
            all_goals
              have HV := Lib.hid (HN.out hn)
              clear hn
              go_wp2_with fail
              go_round
              case rel => exact ⟨k + 1, by omega, by omega, by go_num, HV.out⟩
              case measure => simp [intOf] <;> omega
          · have k1 : (s.size : Int) ≤ (k : Int) := by omega
            have HR := Lib.hid (HG.out k (by omega) (HPA.out k HP.out))
            go_wp2_with fail
            go_ret
            exact ⟨ret_bool HR.out.symm, rfl⟩
      · have h4' : isLower (num s[0]) = false := by simpa using h4
        have H := Lib.hid (compG_first h2 h4')
        have hc : num s[0] < (97 : Int) ∨ (122 : Int) < num s[0] := by simp [isLower] at h4'; omega
        clear h4 h4'
        have m0 : decide ((s.size : Int) < 1) = false := by simp; omega
        have m1 : decide ((20 : Int) < (s.size : Int)) = false := by simp; omega
        rcases hc with hc | hc
        · have m2 : decide (num s[0] < (97 : Int)) = true := by simp only [decide_eq_true_eq]; omega
          go_enter Tryd.func57, Tryd.ntmps57
          go_wp2_with fail
          go_ret
          exact ⟨ret_bool H.out.symm, rfl⟩
        · have m2 : decide (num s[0] < (97 : Int)) = false := by simp only [decide_eq_false_iff_not]; omega
          have m3 : decide ((122 : Int) < num s[0]) = true := by simp only [decide_eq_true_eq]; omega
          go_enter Tryd.func57, Tryd.ntmps57
          go_wp2_with fail
          go_ret
          exact ⟨ret_bool H.out.symm, rfl⟩
    · have h5 : (20 : Int) < (s.size : Int) := by omega
      have H := Lib.hid (compG_long (s := s) (by omega))
      clear h3
      go_enter Tryd.func57, Tryd.ntmps57
      go_wp2_with fail
      go_ret
      exact ⟨ret_bool H.out.symm, rfl⟩
set_option maxHeartbeats 4000000 in
set_option maxRecDepth 100000 in
theorem r12_parts (s : ByteArray) (w : World) (hs : s.size ≤ 1000) : Calls Tryd.prog 56 #[.string s, .int .u8 46] w fun e w' => ∃ v, e = .returned v ∧ StrsOwn w w' v (splitM (toL s)) := by
  have HL := Lib.hid (toL_length s)
  generalize hM : splitM (toL s) = M at *
  go_enter Tryd.func56, Tryd.ntmps56
  go_wp2_with fail
  go_loopw [5, 6, 7] (fun v u i wr => ∃ (k : Nat) (out : List Bs) (cur : Bs), k ≤ s.size ∧ i = .int .i64 (k : Int) ∧ u = .string (ofL cur) ∧ StrsOwn w wr v out ∧ M = out ++ splitAux ((toL s).drop k) cur ∧ out.length ≤ k ∧ cur.length ≤ k) (fun _ _ i _ => s.size - (intOf i).toNat)
  case atStart => exact ⟨0, [], [], by omega, rfl, rfl, ⟨World.ownsRow_nil _ _ _ _, Below.refl _ _⟩, by rw [← hM]; rfl, by simp, by simp⟩
  case round =>
    obtain ⟨k, out, cur, hk, rfl, rfl, hso, hm, ho, hcu⟩ := hrel
    have HM := Lib.hid hm; have HSO := Lib.hid hso; clear hm hM
    have k0 : (0 : Int) ≤ (k : Int) := by omega
    have hown := hso.own
    have hbs := hso.bel.size
    have hcs : (ofL cur).size ≤ 1000 := by rw [ofL_size]; omega
    clear hso
    by_cases hlt : k < s.size
    · have k1 : (k : Int) < (s.size : Int) := by omega
      have hlt' : k < (toL s).length := by rw [HL.out]; exact hlt
      have HD := Lib.hid (show (toL s).drop k = s[k]'hlt :: (toL s).drop (k + 1) from by rw [List.drop_eq_getElem_cons hlt', toL_getElem s k hlt])
      have HQ := Lib.hid (show (num (s[k]'hlt) == 46) = decide (s[k]'hlt = 46) from numq _ 46 (by omega))
      have HOC := Lib.hid (one_cutG s k hlt)
      by_cases hc : s[k]'hlt = 46
      · have q := HQ.out.trans (decide_eq_true hc)
        have HN := Lib.hid (show M = (out ++ [cur]) ++ splitAux ((toL s).drop (k + 1)) [] from by rw [HM.out, HD.out, splitAux, if_pos (by simp [isMark, hc])]; simp)
        clear hc
        go_wp2_with ((at_builtin; refine wpList_push el_string rfl _ _ rfl hown #[.string (ofL cur)] rfl rfl rfl (by simp [Value.oneCell']) (by omega) (by unfold maxLen; omega) hbs ?_; intro g cap w3 hown3 hg3 hat3))
        go_roundw
        case rel =>
          have := HSO.out.push1 hown3 hg3
          rw [toL_ofL] at this
          exact ⟨k + 1, _, [], by omega, by go_num, rfl, this, HN.out, by simp; omega, by simp⟩
        case measure => simp [intOf] <;> omega
      · have q := HQ.out.trans (decide_eq_false hc)
        have HN := Lib.hid (show M = out ++ splitAux ((toL s).drop (k + 1)) (cur ++ [s[k]'hlt]) from by rw [HM.out, HD.out, splitAux, if_neg (by simp [isMark, hc])])
        clear hc
        go_wp2_with fail
        go_roundw
        case rel => exact ⟨k + 1, out, cur ++ [s[k]'hlt], by omega, by go_num, by rw [HOC.out, ofL_append], HSO.out, HN.out, by omega, by simp; omega⟩
        case measure => simp [intOf] <;> omega
    · have k1 : (s.size : Int) ≤ (k : Int) := by omega
      have HN := Lib.hid (show M = out ++ [cur] from by rw [HM.out, List.drop_eq_nil_of_le (by rw [HL.out]; omega)]; rfl)
      go_wp2_with ((at_builtin; refine wpList_push el_string rfl _ _ rfl hown #[.string (ofL cur)] rfl rfl rfl (by simp [Value.oneCell']) (by omega) (by unfold maxLen; omega) hbs ?_; intro g cap w3 hown3 hg3 hat3))
      go_ret
      have := HSO.out.push1 hown3 hg3
      rw [toL_ofL] at this
      exact ⟨_, rfl, by rw [HN.out]; exact this⟩
theorem any_dropG (P : List Bs) (k : Nat) (h : k < P.length) : (P.drop k).any (fun x => !compG x) = (!compG P[k] || (P.drop (k + 1)).any fun x => !compG x) := by
  rw [List.drop_eq_getElem_cons h, List.any_cons]
set_option maxHeartbeats 4000000 in
set_option maxRecDepth 100000 in
theorem r12_check (s : ByteArray) (w : World) (hs : s.size ≤ 1000) : Calls Tryd.prog 31 #[.string s] w fun e w' => e = .returned (.int .i64 (grpE (toL s))) ∧ Below w.heap.size w w' := by
  have HL := Lib.hid (toL_length s)
  have HV := Lib.hid (show grpE (toL s) = if 80 < (toL s).length then 5 else if (splitM (toL s)).any (fun x => !compG x) then 12 else if 10 < (splitM (toL s)).length then 9 else 0 from rfl)
  rw [HL.out] at HV
  by_cases h : 80 < s.size
  · have h' : (80 : Int) < (s.size : Int) := by omega
    rw [if_pos h] at HV
    clear h
    go_enter Tryd.func31, Tryd.ntmps31
    go_wp2_with fail
    go_ret
    exact ⟨ret_int HV.out.symm, Below.refl _ _⟩
  · have h' : (s.size : Int) ≤ 80 := by omega
    rw [if_neg h] at HV
    have hb := splitAux_sum (toL s) []
    rw [HL.out] at hb
    have HSP := Lib.hid (r12_parts s w hs)
    have hlen : (splitM (toL s)).length ≤ 81 := by show (splitAux (toL s) []).length ≤ 81; omega
    have HMEM := Lib.hid (show ∀ x ∈ splitM (toL s), x.length ≤ maxLen from fun x hx => by have := hb.2 x hx; simp at this; unfold maxLen; omega)
    clear h hb
    generalize splitM (toL s) = P at *
    generalize grpE (toL s) = G at *
    go_enter Tryd.func31, Tryd.ntmps31
    go_wp2_with ((go_at_call 56; (with_reducible refine HSP.out.mono ?_); rintro e w1 ⟨v, rfl, hso⟩; obtain ⟨A, c, rfl, hR⟩ := own_row hso.own))
    have HR := Lib.hid hR; have HB1 := Lib.hid hso.bel
    clear hR hso
    go_loop [4] (fun v => ∃ k : Nat, k ≤ P.length ∧ v = .int .i64 (k : Int) ∧ P.any (fun x => !compG x) = (P.drop k).any (fun x => !compG x)) (fun v => P.length - (intOf v).toNat)
    case atStart => exact ⟨0, by omega, rfl, rfl⟩
    case round =>
      obtain ⟨k, hk, rfl, hp⟩ := hrel
      have HP := Lib.hid hp; clear hp
      have k0 : (0 : Int) ≤ (k : Int) := by omega
      by_cases hlt : k < P.length
      · have k1 : (k : Int) < (P.length : Int) := by omega
        obtain ⟨bb, off, rfl, hcell⟩ := HR.out.cell (k := k) (by simpa using hlt)
        rw [List.getElem_map] at hcell
        have HM := Lib.hid (HMEM.out P[k] (List.getElem_mem hlt))
        have HST := Lib.hid (any_dropG P k hlt)
        generalize P[k] = y at *
        have HC := Lib.hid (fun wx => r12_component (ofL y) wx (by rw [ofL_size]; exact HM.out))
        rw [toL_ofL] at HC
        rcases hc : compG y with _ | _
        · rw [hc] at HC HST
          have HW := Lib.hid (show G = 12 from by rw [HV.out, if_pos (by rw [HP.out, HST.out]; rfl)])
          clear hc
          go_wp2_with ((go_at_call 57; (with_reducible refine (HC.out _).mono ?_); rintro e w' ⟨rfl, rfl⟩))
          go_ret
          exact ⟨ret_int HW.out.symm, HB1.out⟩
        · rw [hc] at HC HST
          have HN := Lib.hid (show P.any (fun x => !compG x) = (P.drop (k + 1)).any (fun x => !compG x) from by rw [HP.out, HST.out]; rfl)
          clear hc
          go_wp2_with ((go_at_call 57; (with_reducible refine (HC.out _).mono ?_); rintro e w' ⟨rfl, rfl⟩))
          go_round
          case rel => exact ⟨k + 1, by omega, by go_num, HN.out⟩
          case measure => simp [intOf] <;> omega
      · have k1 : (P.length : Int) ≤ (k : Int) := by omega
        have HN := Lib.hid (show P.any (fun x => !compG x) = false from by rw [HP.out, List.drop_eq_nil_of_le (by omega)]; rfl)
        rw [HN.out] at HV
        have hl2 : (P.length : Int) ≤ 10 ∨ (10 : Int) < (P.length : Int) := by omega
        rcases hl2 with g | g
        all_goals
          have HW := Lib.hid (show G = _ from by rw [HV.out, if_neg (by simp)])
          first | rw [if_neg (by omega)] at HW | rw [if_pos (by omega)] at HW
          go_wp2_with fail
          go_ret
          exact ⟨ret_int HW.out.symm, HB1.out⟩
end Go.Proofs.YtjmcfagmhniejaaDoor

namespace Go.Proofs.YtjmcfagmhniejaaDoor
set_option linter.unusedSimpArgs false
set_option linter.unusedVariables false
open Go.RowKit

set_option maxHeartbeats 4000000 in
set_option maxRecDepth 100000 in
theorem lw_room (s : ByteArray) (w : World) (hs : s.size ≤ maxLen) : Calls Tryd.prog 30 #[.string s] w fun e w' => e = .returned (.bool (roomB (toL s))) ∧ w = w' := by
  unfold maxLen at hs
  by_cases h0 : s.size < 2
  · have H := Lib.hid (room_short h0)
    have m0 : decide ((s.size : Int) < 2) = true := by simp; omega
    by_cases hz : s.size = 0
    · have m1 : (s.size : Int) < 2 := by omega
      go_enter Tryd.func30, Tryd.ntmps30
      go_wp2_with fail
      go_ret
      exact ⟨ret_bool H.out.symm, rfl⟩
    · have m1 : (s.size : Int) < 2 := by omega
      clear h0
      go_enter Tryd.func30, Tryd.ntmps30
      go_wp2_with fail
      go_ret
      exact ⟨ret_bool H.out.symm, rfl⟩
  · have m0 : decide ((s.size : Int) < 2) = false := by simp; omega
    have m0' : (2 : Int) ≤ (s.size : Int) := by omega
    have h2 : 0 < s.size := by omega
    by_cases h3 : s.size ≤ 31
    · have m1 : decide ((31 : Int) < (s.size : Int)) = false := by simp; omega
      have m1' : (s.size : Int) ≤ 31 := by omega
      rcases h4 : (num s[0] == 35) with _ | _
      · have H := Lib.hid (room_first h2 h4)
        have m2 : (num s[0] != 35) = true := by rw [bne, h4]; rfl
        clear h4 h0 h3
        go_enter Tryd.func30, Tryd.ntmps30
        go_wp2_with fail
        go_ret
        exact ⟨ret_bool H.out.symm, rfl⟩
      · have m2 : (num s[0] != 35) = false := by rw [bne, h4]; rfl
        have HG := Lib.hid (fun k => room_good (k := k) (by omega) h3 h4)
        have HB := Lib.hid (fun k (h1 : 1 ≤ k) (hk : k < s.size) => room_bad (s := s) h1 hk)
        clear h4 h0 h3
        go_enter Tryd.func30, Tryd.ntmps30
        go_wp2_with fail
        go_loop [3] (fun v => ∃ k : Nat, 1 ≤ k ∧ k ≤ s.size ∧ v = .int .i64 (k : Int) ∧ PreR s k) (fun v => s.size - (intOf v).toNat)
        case atStart => exact ⟨1, by omega, by omega, rfl, PreR.one s⟩
        case round =>
          obtain ⟨k, hk1, hk, rfl, hp⟩ := hrel
          have HP := Lib.hid hp; clear hp
          have k0 : (0 : Int) ≤ (k : Int) := by omega
          by_cases hlt : k < s.size
          · have k1 : (k : Int) < (s.size : Int) := by omega
            have HN := Lib.hid (fun (h : notR (num (s[k]'hlt)) = false) => HP.out.step hlt h)
            have HR := Lib.hid (HB.out k hk1 hlt)
            have key : ∀ c : Int, (notR c = true ∧ (decide (97 ≤ c) = false ∨ (decide (97 ≤ c) = true ∧ decide (c ≤ 122) = false)) ∧ (decide (48 ≤ c) = false ∨ (decide (48 ≤ c) = true ∧ decide (c ≤ 57) = false)) ∧ (c == 45) = false) ∨ (notR c = false ∧ ((decide (97 ≤ c) = true ∧ decide (c ≤ 122) = true) ∨ ((decide (97 ≤ c) = false ∨ (decide (97 ≤ c) = true ∧ decide (c ≤ 122) = false)) ∧ ((decide (48 ≤ c) = true ∧ decide (c ≤ 57) = true) ∨ ((decide (48 ≤ c) = false ∨ (decide (48 ≤ c) = true ∧ decide (c ≤ 57) = false)) ∧ (c == 45) = true))))) := fun c => by
              rw [show notR c = !(decide (97 ≤ c) && decide (c ≤ 122) || decide (48 ≤ c) && decide (c ≤ 57) || c == 45) from by
                unfold notR isLower isDigit; simp only [Bool.not_or, bne]]
              cases a1 : decide (97 ≤ c) <;> cases a2 : decide (c ≤ 122) <;> cases a3 : decide (48 ≤ c) <;> cases a4 : decide (c ≤ 57) <;> cases a5 : (c == 45) <;> simp
            replace key := key (num (s[k]'hlt))
            rcases key with ⟨hn, h97 | ⟨g97, h97⟩, h48 | ⟨g48, h48⟩, e1⟩ | ⟨hn, ⟨a1, a2⟩ | ⟨h97 | ⟨g97, h97⟩, ⟨a3, a4⟩ | ⟨h48 | ⟨g48, h48⟩, e1⟩⟩⟩
            iterate 4
              · have HV := Lib.hid (HR.out hn)
                clear hn
                go_wp2_with fail
                go_ret
                exact ⟨ret_bool HV.out.symm, rfl⟩
            all_goals
              have HV := Lib.hid (HN.out hn)
              clear hn
              go_wp2_with fail
              go_round
              case rel => exact ⟨k + 1, by omega, by omega, by go_num, HV.out⟩
              case measure => simp [intOf] <;> omega
          · have k1 : (s.size : Int) ≤ (k : Int) := by omega
            have HR := Lib.hid (HG.out k (by omega) HP.out)
            go_wp2_with fail
            go_ret
            exact ⟨ret_bool HR.out.symm, rfl⟩
    · have m1 : decide ((31 : Int) < (s.size : Int)) = true := by simp; omega
      have m1' : (31 : Int) < (s.size : Int) := by omega
      have H := Lib.hid (room_long (s := s) (by omega))
      clear h3 h0
      go_enter Tryd.func30, Tryd.ntmps30
      go_wp2_with fail
      go_ret
      exact ⟨ret_bool H.out.symm, rfl⟩
set_option maxHeartbeats 2000000 in
set_option maxRecDepth 100000 in
theorem lw_create (R G N : ByteArray) (w : World) (hR : R.size ≤ maxLen) (hG : G.size ≤ 1000) (hN : N.size ≤ maxLen) : Calls Tryd.prog 14 #[.string R, .string G, .string N] w fun e w' => e = .returned (.int .i64 (newE (toL R) (toL G) (toL N))) ∧ Below w.heap.size w w' := by
  have HV := Lib.hid (show newE (toL R) (toL G) (toL N) = if roomB (toL R) = false then 3 else if grpE (toL G) ≠ 0 then grpE (toL G) else if nickB (toL N) = false then 12 else 0 from rfl)
  have HR := Lib.hid (fun wx => lw_room R wx hR)
  have HG := Lib.hid (r12_check G w hG)
  have HN := Lib.hid (fun wx => lw_nick N wx hN)
  generalize newE (toL R) (toL G) (toL N) = E at *
  rcases h1 : roomB (toL R) with _ | _
  · rw [h1] at HR HV
    have HW := Lib.hid (show E = 3 from by rw [HV.out, if_pos rfl])
    clear h1
    go_enter Tryd.func14, Tryd.ntmps14
    go_wp2_with ((go_at_call 30; (with_reducible refine (HR.out _).mono ?_); rintro e w' ⟨rfl, rfl⟩))
    go_ret
    exact ⟨ret_int HW.out.symm, Below.refl _ _⟩
  · rw [h1] at HR HV
    clear h1
    by_cases h2 : grpE (toL G) = 0
    · rw [h2] at HG HV
      clear h2
      rcases h3 : nickB (toL N) with _ | _
      all_goals
        rw [h3] at HN HV
        clear h3
        go_enter Tryd.func14, Tryd.ntmps14
        go_wp2_with (first | (go_at_call 30; (with_reducible refine (HR.out _).mono ?_); rintro e w' ⟨rfl, rfl⟩) | (go_at_call 31; (with_reducible refine HG.out.mono ?_); rintro e w1 ⟨rfl, hb1⟩) | (go_at_call 10; (with_reducible refine (HN.out _).mono ?_); rintro e w' ⟨rfl, rfl⟩))
        go_ret
        exact ⟨ret_int (by rw [HV.out]; rfl), hb1⟩
    · have HW := Lib.hid (show E = grpE (toL G) from by rw [HV.out, if_neg (by simp), if_pos h2])
      have e1 : (grpE (toL G) != 0) = true := by simp [bne, h2]
      clear h2 HV
      generalize grpE (toL G) = er at *
      go_enter Tryd.func14, Tryd.ntmps14
      go_wp2_with (first | (go_at_call 30; (with_reducible refine (HR.out _).mono ?_); rintro e w' ⟨rfl, rfl⟩) | (go_at_call 31; (with_reducible refine HG.out.mono ?_); rintro e w1 ⟨rfl, hb1⟩))
      go_ret
      exact ⟨ret_int HW.out.symm, hb1⟩
end Go.Proofs.YtjmcfagmhniejaaDoor
