/- Lemmas and walks, part 30. -/
import Derived.Test.YtghjgbkhhoaebaaGreatDoorPo25
import Derived.Test.YtghjgbkhhoaebaaGreatDoorPo26
import Derived.Test.YtghjgbkhhoaebaaGreatDoorPo29
import Derived.Test.YtghjgbkhhoaebaaGreatDoorPo12
import Derived.Test.YtghjgbkhhoaebaaGreatDoorPo4
import Derived.Deep.RegionLaw
import Derived.Deep.RegionHeld3
import Derived.Deep.AppendLies
import Derived.Test.YtghjgbkhhoaebaaGreatDoorPo11
import Derived.Test.YtghjgbkhhoaebaaGreatDoorPo14
namespace Go.Proofs.YtghjgbkhhoaebaaGreatDoor
set_option linter.unusedSimpArgs false
set_option linter.unusedVariables false
open Go.RowKit

/-- The cells of lines. -/
def lnsV (l : List Ln) : List Value := l.flatMap fun x => [.int .i64 (x.min : Int), .string (ofL x.nick), .string (ofL x.text)]
theorem lnsV_length (l : List Ln) : (lnsV l).length = l.length * 3 := by
  induction l with
  | nil => rfl
  | cons x r ih => simp only [lnsV, List.flatMap_cons, List.length_append, List.length_cons, List.length_nil] at ih ⊢; omega
theorem lnsV_snoc (l : List Ln) (x : Ln) : lnsV (l ++ [x]) = lnsV l ++ [.int .i64 (x.min : Int), .string (ofL x.nick), .string (ofL x.text)] := by simp [lnsV]
theorem lnsV_one (l : List Ln) : ∀ u ∈ lnsV l, u.oneCell' = true := by
  intro u hu
  simp only [lnsV, List.mem_flatMap] at hu
  obtain ⟨f, _, hf⟩ := hu
  simp at hf
  rcases hf with rfl | rfl | rfl <;> rfl
theorem info_Line : (Tryz.prog.info? 39).map (fun i => (i.zero, i.size, i.bytes)) = some (some (.agg #[.int .i64 0, .string ⟨#[]⟩, .string ⟨#[]⟩]), 3, 40) := by kernel_rfl
theorem el_Line : Elem Tryz.prog 32 39 3 40 := Elem.of Tryz.underlying32 info_Line rfl (by omega)
/-- A gateway in a box of its own, and the lines that wait. -/
structure GwAt (w : World) (b : Nat) (R G N : ByteArray) (v : Value) (ls : List Ln) (last : Int) (m1 m2 : Nat) : Prop where
  box : w.heap[b]? = some (.cells #[.string R, .string G, .string N, v, .int .i64 last, .map (some m1), .map (some m2)] 71 (0, 0))
  own : w.ownsRow (b + 1) 39 3 v ls.length (lnsV ls)
theorem GwAt.below {w w' : World} {b : Nat} {R G N : ByteArray} {v : Value} {ls : List Ln} {last : Int} {m1 m2 : Nat} (h : GwAt w b R G N v ls last m1 m2) (hb : Below w.heap.size w w') : GwAt w' b R G N v ls last m1 m2 :=
  ⟨(hb.block _ (heap_lt h.box)).trans h.box, own_below h.own hb⟩
set_option maxHeartbeats 4000000 in
set_option maxRecDepth 100000 in
theorem sl_cloneL (A : Option Addr) (l : List Ln) (c : Nat) (w : World) (hr : Row w A (lnsV l)) (hl : l.length ≤ 1000000) :
    Calls Tryz.prog 43 #[.slice A l.length c] w fun e w' => ∃ v, e = .returned v ∧ w'.ownsRow w.heap.size 39 3 v l.length (lnsV l) ∧ Below w.heap.size w w' := by
  have q47 : ∀ (w : World) (a : Option Addr) (n c n' c' : Nat), (binOp .eql 32 (.slice a n c) (.slice none n' c')).run Tryz.prog w = .ok (.bool a.isNone) w := fun w a n c n' c' => Lib.run_eql_slice_nil w _ _ a n c n' c' Tryz.underlying32
  rcases A with _ | ad
  · obtain rfl : l = [] := by
      rcases hr with h | ⟨b, off, e, _⟩
      · have := lnsV_length l; rw [h] at this; simp at this; exact List.eq_nil_of_length_eq_zero (by omega)
      · cases e
    go_enter Tryz.func43, Tryz.ntmps43
    go_wp2_with fail
    go_ret
    exact ⟨_, rfl, World.ownsRow_nil _ _ _ _, Below.refl _ _⟩
  · have hown : (w.alloc (.cells #[] 39)).ownsRow w.heap.size 39 3 (.slice (some ⟨w.heap.size, 0, none⟩) 0 0) 0 [] :=
      ⟨rfl, .inr ⟨w.heap.size, 0, #[], rfl, Nat.le_refl _, heap_alloc_new _ _, Nat.le_refl _, by unfold maxLen; omega, rfl, rfl⟩⟩
    have HB := Lib.hid (show Below w.heap.size w (w.alloc (.cells #[] 39)) from (Below.refl _ _).alloc (Nat.le_refl _) _)
    have hr2 : Row (w.alloc (.cells #[] 39)) (some ad) (lnsV l) := hr.below HB.out
    go_enter Tryz.func43, Tryz.ntmps43
    go_wp2_with ((at_builtin; refine wpList_pour el_Line rfl _ _ rfl hown rfl (A := some ad) (m := l.length) (c := c) (news := lnsV l) rfl hr2 (lnsV_length l) (lnsV_one l) ?q1 ?q2 ?q3 ?q4 ?_))
    case q1 => intro h; cases h
    case q2 => omega
    case q3 => unfold maxLen; omega
    case q4 => simp
    intro v' w2 hown2 hg2 _
    have hg3 := HB.out.grown hg2 (by simp) (by intro k hk; simp [Value.ownBlock] at hk; omega)
    go_wp2_with fail
    go_ret
    exact ⟨_, rfl, by simpa using hown2, hg3⟩
theorem gw_waiting_nil (w : World) : Calls Tryz.prog 19 #[.pointer none] w fun e w' => e = .returned (.slice none 0 0) ∧ w = w' := by
  go_enter Tryz.func19, Tryz.ntmps19
  go_wp2_with fail
  go_ret
  exact ⟨rfl, rfl⟩
set_option maxHeartbeats 1000000 in
theorem gw_waiting {w : World} {b : Nat} {R G N : ByteArray} {v : Value} {ls : List Ln} {last : Int} {m1 m2 : Nat} (h : GwAt w b R G N v ls last m1 m2) (hl : ls.length ≤ 1000000) :
    Calls Tryz.prog 19 #[.pointer (some ⟨b, 0, none⟩)] w fun e w' => ∃ A c, e = .returned (.slice A ls.length c) ∧ w'.ownsRow w.heap.size 39 3 (.slice A ls.length c) ls.length (lnsV ls) ∧ Below w.heap.size w w' := by
  obtain ⟨A, c, rfl, hr⟩ := own_row h.own
  have k0 : w.cell? ⟨b, 3, none⟩ = some (.slice A ls.length c) := by rw [Lib.cell_of_heap h.box]; rfl
  have HC := Lib.hid (sl_cloneL A ls c w hr hl)
  clear h hr
  go_enter Tryz.func19, Tryz.ntmps19
  go_wp2_with ((go_at_call 43; (with_reducible refine HC.out.mono ?_); rintro e w1 ⟨v1, rfl, ho, hb1⟩))
  obtain ⟨A2, c2, rfl, _⟩ := own_row ho
  go_ret
  exact ⟨A2, c2, rfl, ho, hb1⟩
theorem run_mk (T : TypeId) (w : World) : (Instr.makeMap T none).run Tryz.prog w = .ok (.map (some w.heap.size)) (w.alloc (.map #[] 0)) := by
  simp [Instr.makeMap, newObj, Sem.run_bind]
  rfl
/-- What New leaves. -/
def NewPost (R G N : ByteArray) (w : World) (e : Ending) (w' : World) : Prop :=
  (newE (toL R) (toL G) (toL N) = 0 ∧ ∃ b m1 m2, e = .returned (.tuple #[.pointer (some ⟨b, 0, none⟩), .int .i64 0]) ∧ GwAt w' b R G N (.slice none 0 0) [] 0 m1 m2 ∧ w.heap.size ≤ b ∧ Below w.heap.size w w') ∨
  (newE (toL R) (toL G) (toL N) ≠ 0 ∧ e = .returned (.tuple #[.pointer none, .int .i64 (newE (toL R) (toL G) (toL N))]) ∧ Below w.heap.size w w')
set_option maxHeartbeats 2000000 in
set_option maxRecDepth 100000 in
theorem gw_new (R G N : ByteArray) (w : World) (hsh : w.ShapedOpen Tryz.prog) (hR : R.size ≤ maxLen) (hG : G.size ≤ maxLen) (hN : N.size ≤ maxLen) : Calls Tryz.prog 10 #[.string R, .string G, .string N] w (NewPost R G N w) := by
  have HV := Lib.hid (show newE (toL R) (toL G) (toL N) = if roomB (toL R) = false then 3 else if grpE (toL G) ≠ 0 then grpE (toL G) else if nickB (toL N) = false then 12 else 0 from rfl)
  have HR := Lib.hid (fun wx => gw_isRoom R wx hR)
  have HG := Lib.hid (gn_check G w hsh hG)
  have HN := Lib.hid (fun wx => gw_isNick N wx hN)
  rcases h1 : roomB (toL R) with _ | _
  · rw [h1] at HR HV
    have HW := Lib.hid (show newE (toL R) (toL G) (toL N) = 3 from by rw [HV.out, if_pos rfl])
    clear h1
    go_enter Tryz.func10, Tryz.ntmps10
    go_wp2_with ((go_at_call 28; (with_reducible refine (HR.out _).mono ?_); rintro e w' ⟨rfl, rfl⟩))
    go_ret2
    exact .inr ⟨by rw [HW.out]; omega, by rw [HW.out]; rfl, Below.refl _ _⟩
  · rw [h1] at HR HV
    clear h1
    by_cases h2 : grpE (toL G) = 0
    · rw [h2] at HG HV
      clear h2
      rcases h3 : nickB (toL N) with _ | _
      · rw [h3] at HN HV
        have HW := Lib.hid (show newE (toL R) (toL G) (toL N) = 12 from by rw [HV.out]; rfl)
        clear h3
        go_enter Tryz.func10, Tryz.ntmps10
        go_wp2_with (first | (go_at_call 28; (with_reducible refine (HR.out _).mono ?_); rintro e w' ⟨rfl, rfl⟩) | (go_at_call 29; (with_reducible refine HG.out.mono ?_); rintro e w1 ⟨rfl, hb1⟩) | (go_at_call 30; (with_reducible refine (HN.out _).mono ?_); rintro e w' ⟨rfl, rfl⟩))
        go_ret2
        exact .inr ⟨by rw [HW.out]; omega, by rw [HW.out]; rfl, hb1⟩
      · rw [h3] at HN HV
        have HW := Lib.hid (show newE (toL R) (toL G) (toL N) = 0 from by rw [HV.out]; rfl)
        have hmk := run_mk 69
        clear h3
        go_enter Tryz.func10, Tryz.ntmps10
        go_wp2_with (first | (go_at_call 28; (with_reducible refine (HR.out _).mono ?_); rintro e w' ⟨rfl, rfl⟩) | (go_at_call 29; (with_reducible refine HG.out.mono ?_); rintro e w1 ⟨rfl, hb1⟩) | (go_at_call 30; (with_reducible refine (HN.out _).mono ?_); rintro e w' ⟨rfl, rfl⟩))
        go_ret2
        have hz := hb1.size
        exact .inl ⟨HW.out, w1.heap.size + 1 + 1, _, _, rfl, ⟨alloc_at _ _ _ (by simp), World.ownsRow_nil _ _ _ _⟩, by omega, ((hb1.alloc (by omega) _).alloc (by simp; omega) _).alloc (by simp; omega) _⟩
    · have HW := Lib.hid (show newE (toL R) (toL G) (toL N) = grpE (toL G) from by rw [HV.out, if_neg (by simp), if_pos h2])
      have HNZ := Lib.hid h2
      have e1 : (grpE (toL G) != 0) = true := by simp [bne, h2]
      clear h2
      generalize grpE (toL G) = er at *
      go_enter Tryz.func10, Tryz.ntmps10
      go_wp2_with (first | (go_at_call 28; (with_reducible refine (HR.out _).mono ?_); rintro e w' ⟨rfl, rfl⟩) | (go_at_call 29; (with_reducible refine HG.out.mono ?_); rintro e w1 ⟨rfl, hb1⟩))
      go_ret2
      exact .inr ⟨by rw [HW.out]; exact HNZ.out, by rw [HW.out]; rfl, hb1⟩
end Go.Proofs.YtghjgbkhhoaebaaGreatDoor

namespace Go.Proofs.YtghjgbkhhoaebaaGreatDoor
set_option linter.unusedSimpArgs false
set_option linter.unusedVariables false
open Go.RowKit

def hearE (m : Int) (n t : Bs) (last : Int) : Int := if lineE m n t ≠ 0 then lineE m n t else if m < last then 30 else 0
def hearL (ls : List Ln) (m : Int) (n t N : Bs) : List Ln := if foldEq n N then ls else ls ++ [⟨m.toNat, n, t⟩]
structure HearPost (R G N : ByteArray) (m : Int) (n t : ByteArray) (v : Value) (ls : List Ln) (last : Int) (m1 m2 b : Nat) (w : World) (e : Ending) (w' : World) : Prop where
  ret : e = .returned (.int .i64 (hearE m (toL n) (toL t) last))
  at_ : ∃ v', GwAt w' b R G N v' (if hearE m (toL n) (toL t) last = 0 then hearL ls m (toL n) (toL t) (toL N) else ls) (if hearE m (toL n) (toL t) last = 0 then m else last) m1 m2 ∧ ∀ k, v'.ownBlock = some k → v.ownBlock = some k ∨ w.heap.size ≤ k
  bel : Below b w w'
  oth : ∀ k, k < w.heap.size → k ≠ b → v.ownBlock ≠ some k → w'.heap[k]? = w.heap[k]?
theorem HearPost.err {R G N : ByteArray} {m : Int} {n t : ByteArray} {ls : List Ln} {last : Int} {m1 m2 b : Nat} {w w' : World} {e : Ending} {v : Value} {k : Int} (h : GwAt w b R G N v ls last m1 m2) (hk : hearE m (toL n) (toL t) last = k) (h0 : k ≠ 0) (he : e = .returned (.int .i64 k)) (hb : Below w.heap.size w w') :
    HearPost R G N m n t v ls last m1 m2 b w e w' := by
  subst hk
  exact ⟨he, ⟨v, by rw [if_neg h0, if_neg h0]; exact h.below hb, fun _ h => .inl h⟩, hb.mono (Nat.le_of_lt (heap_lt h.box)), fun k hk _ _ => hb.block k hk⟩
theorem alloc_bel (w : World) (o : Obj) : Below w.heap.size w (w.alloc o) := (Below.refl _ _).alloc (Nat.le_refl _) _
theorem heap_ne {w w' : World} {p q : Nat} {o : Obj} (h : w.heap[q]? = some o) (hg : ∀ g : Nat, g ≠ p → g < w.heap.size → w'.heap[g]? = w.heap[g]?) (hq : q ≠ p) : w'.heap[q]? = some o := (hg q hq (heap_lt h)).trans h
theorem own_ne {w w' : World} {p : Nat} {e : TypeId} {size n : Nat} {v : Value} {xs : List Value} (h : w.ownsRow (p + 1) e size v n xs) (hg : ∀ g : Nat, g ≠ p → g < w.heap.size → w'.heap[g]? = w.heap[g]?) : w'.ownsRow (p + 1) e size v n xs := by
  refine ⟨h.1, ?_⟩
  rcases h.2 with h2 | ⟨g, cap, cur, hv, hg', hh, r⟩
  · exact .inl h2
  · exact .inr ⟨g, cap, cur, hv, hg', heap_ne hh hg (by omega), r⟩
theorem heap_set_ne {w : World} {p q i : Nat} (u : Value) (h : q ≠ p) : (w.setCell ⟨p, i, none⟩ u).heap[q]? = w.heap[q]? := Below.heap_setCell _ _ _ _ h
theorem minB_nat {m : Int} {n t : Bs} (h : lineE m n t = 0) : ((m.toNat : Nat) : Int) = m := by
  unfold lineE at h
  split at h
  · cases h
  · rename_i h1
    have : 0 ≤ m := by
      unfold minB at h1; simp at h1; omega
    omega

theorem HearPost.kept {R G N : ByteArray} {m : Int} {n t : ByteArray} {ls : List Ln} {last : Int} {m1 m2 b : Nat} {w w' : World} {e : Ending} {v : Value} (hk : hearE m (toL n) (toL t) last = 0) (hf : foldEq (toL n) (toL N) = true)
    (hbx : w'.heap[b]? = some (.cells #[.string R, .string G, .string N, v, .int .i64 m, .map (some m1), .map (some m2)] 71 (0, 0))) (ho : w'.ownsRow (b + 1) 39 3 v ls.length (lnsV ls)) (he : e = .returned (.int .i64 0)) (hb : Below b w w') (hot : ∀ k, k < w.heap.size → k ≠ b → w'.heap[k]? = w.heap[k]?) :
    HearPost R G N m n t v ls last m1 m2 b w e w' :=
  ⟨by rw [he, hk], ⟨v, by rw [if_pos hk, if_pos hk]; unfold hearL; rw [if_pos hf]; exact ⟨hbx, ho⟩, fun _ h => .inl h⟩, hb, fun k hk h1 _ => hot k hk h1⟩
theorem HearPost.more {R G N : ByteArray} {m : Int} {n t : ByteArray} {ls : List Ln} {last : Int} {m1 m2 b : Nat} {w w3 w4 : World} {e : Ending} {v : Value} {o : Obj} {g cap : Nat} (hk : hearE m (toL n) (toL t) last = 0) (hf : foldEq (toL n) (toL N) = false) (hm : ((m.toNat : Nat) : Int) = m)
    (hbx : w4.heap[b]? = some (.cells #[.string R, .string G, .string N, v, .int .i64 m, .map (some m1), .map (some m2)] 71 (0, 0))) (ho : w3.ownsRow (b + 1) 39 3 v ls.length (lnsV ls)) (he : e = .returned (.int .i64 0)) (hb : Below b w w3) (hlt : b < w3.heap.size)
    (ho4 : w4.ownsRow (b + 1) 39 3 (.slice (some ⟨g, 0, none⟩) (ls.length + 1) cap) (ls.length + 1) (lnsV ls ++ [.int .i64 m, .string n, .string t])) (hgr : (w3.alloc o).drew.grownBy w4 v.ownBlock) (hot : ∀ k, k < w.heap.size → k ≠ b → w3.heap[k]? = w.heap[k]?) (hwz : w.heap.size ≤ w3.heap.size) (hat : v.ownBlock = some g ∨ g = w3.heap.size + 1) :
    HearPost R G N m n t v ls last m1 m2 b w e (w4.setCell ⟨b, 3, none⟩ (.slice (some ⟨g, 0, none⟩) (ls.length + 1) cap)) := by
  refine ⟨by rw [he, hk], ⟨.slice (some ⟨g, 0, none⟩) (ls.length + 1) cap, ?_, fun k hk => by simp [Value.ownBlock] at hk; subst hk; exact hat.imp id (fun e => by omega)⟩, ((((hb.alloc (Nat.le_of_lt hlt) _).drew).grown hgr (by simp; omega) (fun k hk => by have := (ho.lt k hk).1; omega)).setCell (p := ⟨b, 3, none⟩) (Nat.le_refl _) _), fun k hk h1 h2 => by
    rw [heap_set_ne _ h1, hgr.block k (by simp; omega) (fun e => h2 e.symm)]
    exact (Lib.alloc_old w3 _ k (by omega)).trans (hot k hk h1)⟩
  rw [if_pos hk, if_pos hk]
  unfold hearL
  rw [if_neg (by rw [hf]; decide)]
  refine ⟨heap_set hbx _, ?_⟩
  rw [lnsV_snoc, List.length_append]
  simp only [hm, ofL_toL]
  exact own_ne ho4 (fun g hg _ => heap_set_ne _ hg)
set_option maxHeartbeats 8000000 in
set_option maxRecDepth 100000 in
theorem gw_hear {w : World} {b : Nat} {R G N : ByteArray} {v : Value} {ls : List Ln} {last : Int} {m1 m2 : Nat} (h : GwAt w b R G N v ls last m1 m2) (m : Int) (n t : ByteArray) (hN : N.size ≤ maxLen) (hn : n.size ≤ maxLen) (ht : t.size ≤ 900000) (hl : ls.length ≤ 1000000) :
    Calls Tryz.prog 20 #[.pointer (some ⟨b, 0, none⟩), .agg #[.int .i64 m, .string n, .string t]] w (HearPost R G N m n t v ls last m1 m2 b w) := by
  have HG := Lib.hid h; clear h
  have hbw := heap_lt HG.out.box
  have HC := Lib.hid (fun wx => gw_check m n t wx hn ht)
  have HQ := Lib.hid (show hearE m (toL n) (toL t) last = if lineE m (toL n) (toL t) ≠ 0 then lineE m (toL n) (toL t) else if m < last then 30 else 0 from rfl)
  by_cases he : lineE m (toL n) (toL t) = 0
  · rw [he] at HC
    have HMN := Lib.hid (minB_nat he)
    rw [he] at HQ
    clear he
    go_enter Tryz.func20, Tryz.ntmps20
    go_upto_region 6 with ((go_at_call 16; (with_reducible refine (HC.out _).mono ?_); rintro e w1 ⟨rfl, hb1⟩))
    have HBL := Lib.hid (show Below w.heap.size w w1 from (alloc_bel _ _).trans (hb1.mono (by simp)))
    have HLB := Lib.hid (show w1.heap[w.heap.size]? = some (.cells #[.int .i64 m, .string n, .string t] 39 (0, 0)) from (hb1.block _ (by simp)).trans (heap_alloc_new w _))
    have HG1 := Lib.hid (HG.out.below HBL.out)
    clear hb1
    have l0 : w1.cell? ⟨w.heap.size, 0, none⟩ = some (.int .i64 m) := by rw [Lib.cell_of_heap HLB.out]; rfl
    have l1 : w1.cell? ⟨w.heap.size, 1, none⟩ = some (.string n) := by rw [Lib.cell_of_heap HLB.out]; rfl
    have l2 : w1.cell? ⟨w.heap.size, 2, none⟩ = some (.string t) := by rw [Lib.cell_of_heap HLB.out]; rfl
    have g4 : w1.cell? ⟨b, 4, none⟩ = some (.int .i64 last) := by rw [Lib.cell_of_heap HG1.out.box]; rfl
    have f4 := Lib.frozen_of_heap HG1.out.box 4
    have z0 := heap_lt HLB.out
    have z1 := heap_lt HG1.out.box
    by_cases hlt : m < last
    · have HV := Lib.hid (show hearE m (toL n) (toL t) last = 30 from by rw [HQ.out, if_neg (by simp), if_pos hlt])
      go_wp2_with fail
      go_region
      all_goals
        go_wp2_with fail
        go_ret
        exact HearPost.err HG.out HV.out (by decide) rfl HBL.out.drew
    · have HV := Lib.hid (show hearE m (toL n) (toL t) last = 0 from by rw [HQ.out, if_neg (by simp), if_neg hlt])
      have hlt2 : last ≤ m := by omega
      go_wp2_with fail
      go_region
      have HG2 := Lib.hid (show ((w1.setCell ⟨b, 4, none⟩ (.int .i64 m)).drew).heap[b]? = some (.cells #[.string R, .string G, .string N, v, .int .i64 m, .map (some m1), .map (some m2)] 71 (0, 0)) from heap_set (w := w1) HG1.out.box _)
      have HL2 := Lib.hid (show ((w1.setCell ⟨b, 4, none⟩ (.int .i64 m)).drew).heap[w.heap.size]? = some (.cells #[.int .i64 m, .string n, .string t] 39 (0, 0)) from (heap_set_ne _ (by omega)).trans HLB.out)
      have HO2 := Lib.hid (show ((w1.setCell ⟨b, 4, none⟩ (.int .i64 m)).drew).ownsRow (b + 1) 39 3 v ls.length (lnsV ls) from own_ne HG1.out.own (fun g hg _ => heap_set_ne _ hg))
      have HB2 := Lib.hid (show Below b w ((w1.setCell ⟨b, 4, none⟩ (.int .i64 m)).drew) from ((HBL.out.mono (Nat.le_of_lt hbw)).setCell (p := ⟨b, 4, none⟩) (Nat.le_refl _) _).drew)
      have HO := Lib.hid (show ∀ k, k < w.heap.size → k ≠ b → ((w1.setCell ⟨b, 4, none⟩ (.int .i64 m)).drew).heap[k]? = w.heap[k]? from fun k hk hkb => (heap_set_ne _ hkb).trans (HBL.out.block k hk))
      have HOZ := Lib.hid (show w.heap.size ≤ ((w1.setCell ⟨b, 4, none⟩ (.int .i64 m)).drew).heap.size from by (show w.heap.size ≤ (w1.setCell ⟨b, 4, none⟩ (.int .i64 m)).heap.size); rw [World.size_setCell]; exact HBL.out.size)
      go_upto_region 9 with fail
      generalize (w1.setCell ⟨b, 4, none⟩ (.int .i64 m)).drew = w2 at *
      have HB3 := Lib.hid (show Below b w w2 from HB2.out)
      clear l0 l1 l2 g4 f4 z0 z1 HG1 HLB HBL HB2
      have l1 : w2.cell? ⟨w.heap.size, 1, none⟩ = some (.string n) := by rw [Lib.cell_of_heap HL2.out]; rfl
      have g2 : w2.cell? ⟨b, 2, none⟩ = some (.string N) := by rw [Lib.cell_of_heap HG2.out]; rfl
      have z0 := heap_lt HL2.out
      have z1 := heap_lt HG2.out
      rcases hf : foldEq (toL n) (toL N) with _ | _
      · have HF := Lib.hid hf
        clear hf
        go_region_with ((go_at_call 44; (with_reducible refine (asc_equalFold _ _ _ hn hN).mono ?_); rintro e w3 ⟨rfl, hb3⟩; rw [HF.out]))
        all_goals
          go_upto_region 10 with fail
          have HB4 := Lib.hid (show Below w2.heap.size w2 w3 from by first | exact hb3 | exact below_undrew hb3 | exact below_undrewN hb3)
          have HG3 := Lib.hid ((HB4.out.block b z1).trans HG2.out)
          have HL3 := Lib.hid ((HB4.out.block w.heap.size z0).trans HL2.out)
          have HO3 := Lib.hid (own_below HO2.out HB4.out)
          have HB5 := Lib.hid (HB3.out.trans (HB4.out.mono (Nat.le_of_lt z1)))
          have HO3x := Lib.hid (show ∀ k, k < w.heap.size → k ≠ b → w3.heap[k]? = w.heap[k]? from fun k hk hkb => (HB4.out.block k (Nat.lt_of_lt_of_le hk HOZ.out)).trans (HO.out k hk hkb))
          have HOZ3 := Lib.hid (Nat.le_trans HOZ.out HB4.out.size)
          clear l1 g2 z0 z1 HG2 HL2 HO2 HB3 hb3 HB4
          obtain ⟨A, c, rfl, _⟩ := own_row HO3.out
          obtain ⟨i0, hi0, hz0, hz1, hz2⟩ := info_parts info_Line
          have l0 : w3.cell? ⟨w.heap.size, 0, none⟩ = some (.int .i64 m) := by rw [Lib.cell_of_heap HL3.out]; rfl
          have l1 : w3.cell? ⟨w.heap.size, 1, none⟩ = some (.string n) := by rw [Lib.cell_of_heap HL3.out]; rfl
          have l2 : w3.cell? ⟨w.heap.size, 2, none⟩ = some (.string t) := by rw [Lib.cell_of_heap HL3.out]; rfl
          have g3 : w3.cell? ⟨b, 3, none⟩ = some (.slice A ls.length c) := by rw [Lib.cell_of_heap HG3.out]; rfl
          have gf3 := Lib.frozen_of_heap HG3.out 3
          have z0 := heap_lt HL3.out
          have z1 := heap_lt HG3.out
          have aw : (Value.slice A ls.length c).ownBlock ≠ some b := fun e => by have := (HO3.out.lt _ e).1; omega
          have hown := HO3.out
          go_region_law
            ((refine step_append_lies _ (by rfl) _ _ _ (by rfl) (b + 1) 39 i0 _ 3 40 Tryz.underlying32 hi0 hz0 hz1 hz2 rfl (by omega) (.slice A ls.length c) _ (lnsV ls) (by rfl) ((hown.alloc _).drew)
                ⟨w3.heap.size, 0, none⟩ 1 1 [.int .i64 m, .string n, .string t] (by rfl) (by rfl) (World.news_of_block (cs := #[.int .i64 m, .string n, .string t]) (t := 39) (fr := (0, 0)) (heap_alloc_new w3 _)) (by simp [Value.oneCell'])
                (by omega) (by unfold maxLen; omega) (by omega) (by simp; omega) (w3.heap.size + 1) (by simp) ?_
              intro gg cap w4 hown3 hgrow hat hlt1
              have HB := Lib.hid ((hgrow.block b (by simp; omega) (Ne.symm aw)).trans ((Lib.alloc_old w3 _ b (by omega)).trans HG3.out))
              have hcz : w4.cell? ⟨b, 3, none⟩ = some (.slice A ls.length c) := by rw [Lib.cell_of_heap HB.out]; rfl
              have hfz : w4.frozen? ⟨b, 3, none⟩ = false := Lib.frozen_of_heap HB.out 3))
          all_goals
            have HP := Lib.hid (HearPost.more (last := last) (e := .returned (.int .i64 0)) HV.out HF.out HMN.out HB.out HO3.out rfl HB5.out z1 hown3 hgrow HO3x.out HOZ3.out hat)
            go_wp2_with fail
            go_ret
            exact HP.out
      · have HF := Lib.hid hf
        clear hf
        go_region_with ((go_at_call 44; (with_reducible refine (asc_equalFold _ _ _ hn hN).mono ?_); rintro e w3 ⟨rfl, hb3⟩; rw [HF.out]))
        all_goals
          have HB4 := Lib.hid (show Below w2.heap.size w2 w3 from by first | exact hb3 | exact below_undrew hb3 | exact below_undrewN hb3)
          go_wp2_with fail
          go_ret
          exact HearPost.kept HV.out HF.out ((HB4.out.block b z1).trans HG2.out) (own_below HO2.out HB4.out) rfl (HB3.out.trans (HB4.out.mono (Nat.le_of_lt z1))) (fun k hk hkb => (HB4.out.block k (Nat.lt_of_lt_of_le hk HOZ.out)).trans (HO.out k hk hkb))
  · have HV := Lib.hid (show hearE m (toL n) (toL t) last = lineE m (toL n) (toL t) from by rw [HQ.out, if_pos he])
    have HE := Lib.hid he
    have e1 : (lineE m (toL n) (toL t) != 0) = true := by simp [bne, he]
    clear he
    generalize lineE m (toL n) (toL t) = er at *
    go_enter Tryz.func20, Tryz.ntmps20
    go_wp2_with ((go_at_call 16; (with_reducible refine (HC.out _).mono ?_); rintro e w1 ⟨rfl, hb1⟩))
    go_ret
    exact HearPost.err HG.out HV.out HE.out rfl ((alloc_bel _ _).trans (hb1.mono (by simp)))
end Go.Proofs.YtghjgbkhhoaebaaGreatDoor

namespace Go.Proofs.YtghjgbkhhoaebaaGreatDoor
set_option linter.unusedSimpArgs false
set_option linter.unusedVariables false
open Go.RowKit

theorem lw_short (a : ByteArray) (ha : a.size ≤ maxLen) (n : Nat) (k : Int) (hk : k = (n : Int)) (w : World) (hn : n ≤ 1000000) : Calls Tryz.prog 9 #[.string a, .int .i64 k] w fun e w' => e = .returned (.string (a.extract 0 (min a.size n))) ∧ w = w' := by
  subst hk
  unfold maxLen at ha
  have hm : min (a.size : Int) (n : Int) = ((min a.size n : Nat) : Int) := by omega
  have h0 : (0 : Int) ≤ ((min a.size n : Nat) : Int) := by omega
  have h1 : ((min a.size n : Nat) : Int) ≤ (a.size : Int) := by omega
  have HT := Lib.hid (show (((min a.size n : Nat) : Int)).toNat = min a.size n from by omega)
  generalize min a.size n = m at *
  go_enter Tryz.func9, Tryz.ntmps9
  go_wp2_with fail
  go_ret
  exact ⟨rfl, rfl⟩
theorem short_size (a : ByteArray) (n : Nat) : (a.extract 0 (min a.size n)).size ≤ n := by rw [extract_size _ _ _ (by omega)]; omega
theorem cut_ret {Q : Ending → World → Prop} {W : World} {r : Nat} {a b c : Value} {T : Array Value} (hb : W.heap[r]? = some (.cells #[a, b, c] 39 (0, 0)))
    (hT2 : T[2]? = some (.pointer (some ⟨r, 0, none⟩))) (hQ : Q (.returned (.agg #[a, b, c])) W) :
    bodyPost Tryz.prog Tryz.f23 Q .ret { tmps := T, defers := [] } W := by
  have c0 : W.cell? ⟨r, 0, none⟩ = some a := by rw [Lib.cell_of_heap hb]; rfl
  have c1 : W.cell? ⟨r, 1, none⟩ = some b := by rw [Lib.cell_of_heap hb]; rfl
  have c2 : W.cell? ⟨r, 2, none⟩ = some c := by rw [Lib.cell_of_heap hb]; rfl
  refine bodyPost_ret (v := .agg #[a, b, c]) ?_ rfl hQ
  simp [results, Tryz.f23, go_sem, hT2, c0, c1, c2]
/-- A line as a value. -/
def lineV (m : Int) (n t : ByteArray) : Value := .agg #[.int .i64 m, .string n, .string t]
def cut1 (n : ByteArray) (k : Nat) : ByteArray := n.extract 0 (min n.size k)
set_option maxHeartbeats 4000000 in
set_option maxRecDepth 100000 in
theorem lw_cut (m : Int) (n t : ByteArray) (hn : n.size ≤ maxLen) (ht : t.size ≤ maxLen) (w : World) : Calls Tryz.prog 23 #[.agg #[.int .i64 m, .string n, .string t]] w fun e w' => e = .returned (.agg #[.int .i64 m, .string (cut1 n 40), .string (cut1 t 450)]) ∧ Below w.heap.size w w' := by
  have H1 := Lib.hid (fun wx => lw_short n hn 40 40 rfl wx (by omega))
  have H2 := Lib.hid (fun wx => lw_short t ht 450 450 rfl wx (by omega))
  have e1 : n.extract 0 (min n.size 40) = cut1 n 40 := rfl
  have e2 : t.extract 0 (min t.size 450) = cut1 t 450 := rfl
  rw [e1] at H1; rw [e2] at H2
  clear e1 e2
  generalize cut1 n 40 = n' at *
  generalize cut1 t 450 = t' at *
  go_enter Tryz.func23, Tryz.ntmps23
  go_upto_region 1 with fail
  go_region_with (first | (go_at_call 9; (with_reducible refine (H1.out _).mono ?_); rintro e w' ⟨rfl, rfl⟩) | (go_at_call 9; (with_reducible refine (H2.out _).mono ?_); rintro e w' ⟨rfl, rfl⟩))
  all_goals
    go_wp2_with fail
    exact cut_ret (alloc_at _ _ _ (by simp)) rfl ⟨rfl, (((Below.refl _ _).alloc (Nat.le_refl _) _).alloc (by simp) _).drew⟩
end Go.Proofs.YtghjgbkhhoaebaaGreatDoor

namespace Go.Proofs.YtghjgbkhhoaebaaGreatDoor
set_option linter.unusedSimpArgs false
set_option linter.unusedVariables false
open Go.RowKit

/-- The offset of a byte from an offset on; -1: there is none. -/
def idxV (c : UInt8) (L : Bs) (a : Nat) : Int := if posF c (L.drop a) < (L.drop a).length then ((a + posF c (L.drop a) : Nat) : Int) else -1
theorem idx_end {c : UInt8} {L : Bs} {a : Nat} (h : L.length ≤ a) : idxV c L a = -1 := by
  unfold idxV; rw [List.drop_eq_nil_of_le h]; simp
theorem posF_cons (c x : UInt8) (r : Bs) : posF c (x :: r) = if x = c then 0 else posF c r + 1 := by
  unfold posF; rw [List.takeWhile_cons]
  by_cases h : x = c
  · simp [h]
  · simp [h]
theorem idx_hit {c : UInt8} {L : Bs} {a : Nat} (h : a < L.length) (e : L[a] = c) : idxV c L a = (a : Int) := by
  unfold idxV; rw [List.drop_eq_getElem_cons h, posF_cons, if_pos e, if_pos (by rw [List.length_cons]; omega)]; simp
theorem idx_step {c : UInt8} {L : Bs} {a : Nat} (h : a < L.length) (e : L[a] ≠ c) : idxV c L a = idxV c L (a + 1) := by
  unfold idxV; rw [List.drop_eq_getElem_cons h, posF_cons, if_neg e]
  simp only [List.length_cons]
  by_cases g : posF c (L.drop (a + 1)) < (L.drop (a + 1)).length
  · rw [if_pos (by omega), if_pos g]; omega
  · rw [if_neg (by omega), if_neg g]
theorem num_eq (a b : UInt8) : (num a == num b) = decide (a = b) := by
  by_cases h : a = b
  · subst h; simp
  · simp only [h, decide_false, beq_eq_false_iff_ne, ne_eq, num]
    intro e; exact h (UInt8.toNat_inj.1 (by omega))
/-- What number returns. -/
def numM (L : Bs) : Int := if badNum L then -1 else ((min (valD L) 1099511627776 : Nat) : Int)
theorem numM_bad {L : Bs} (h : badNum L = true) : numM L = -1 := by unfold numM; rw [if_pos h]
theorem numM_ok {L : Bs} (h : badNum L = false) : numM L = ((min (valD L) 1099511627776 : Nat) : Int) := by unfold numM; rw [if_neg (by rw [h]; simp)]
end Go.Proofs.YtghjgbkhhoaebaaGreatDoor

namespace Go.Proofs.YtghjgbkhhoaebaaGreatDoor
set_option linter.unusedSimpArgs false
set_option linter.unusedVariables false
open Go.RowKit

theorem ext_mid (s : ByteArray) (i n : Nat) : toL (s.extract i (i + n)) = ((toL s).drop i).take n := by
  rw [extract_toL, cutL]; simp
theorem numE_big {L : Bs} (h : badNum L = false) (h2 : 105190559 < valD L) : numE L = (0, 2) := by unfold numE; rw [if_neg (by rw [h]; simp), if_pos h2]
theorem numE_ok {L : Bs} (h : badNum L = false) (h2 : ¬ 105190559 < valD L) : numE L = (valD L, 0) := by unfold numE; rw [if_neg (by rw [h]; simp), if_neg h2]
theorem numE_bad {L : Bs} (h : badNum L = true) : numE L = (0, 3) := by unfold numE; rw [if_pos h]
theorem take_one {L : Bs} {c : UInt8} {a : Nat} (h : a < L.length) : (L.drop a).take 1 = [c] ↔ L[a] = c := by
  constructor
  · intro e; rw [List.drop_eq_getElem_cons h] at e; injection e
  · intro e; rw [List.drop_eq_getElem_cons h, e]; rfl
theorem lp_box {w W : World} {r : Nat} (h : W.heap[r]? = some (.cells #[.int .i64 0, .string ⟨#[]⟩, .string ⟨#[]⟩] 39 (0, 0))) :
    (W.cell? ⟨r, 0, none⟩ = some (.int .i64 0) ∧ W.cell? ⟨r, 1, none⟩ = some (.string ⟨#[]⟩) ∧ W.cell? ⟨r, 2, none⟩ = some (.string ⟨#[]⟩)) ∧ (W.frozen? ⟨r, 0, none⟩ = false ∧ W.frozen? ⟨r, 1, none⟩ = false ∧ W.frozen? ⟨r, 2, none⟩ = false) ∧ r < W.heap.size :=
  ⟨⟨by rw [Lib.cell_of_heap h]; rfl, by rw [Lib.cell_of_heap h]; rfl, by rw [Lib.cell_of_heap h]; rfl⟩, ⟨Lib.frozen_of_heap h 0, Lib.frozen_of_heap h 1, Lib.frozen_of_heap h 2⟩, heap_lt h⟩
theorem idx_no {c : UInt8} {L : Bs} {a : Nat} (h : ¬ posF c (L.drop a) < (L.drop a).length) : idxV c L a = -1 := by unfold idxV; rw [if_neg h]
theorem idx_yes {c : UInt8} {L : Bs} {a : Nat} (h : posF c (L.drop a) < (L.drop a).length) : idxV c L a = ((a + posF c (L.drop a) : Nat) : Int) := by unfold idxV; rw [if_pos h]
theorem PlF.one {L : Bs} (h : L.take 1 = [91]) : PlF L 1 1 0 ⟨#[]⟩ ⟨#[]⟩ := ⟨fun _ => h, fun h => by omega, fun h => by omega, fun h => by omega, fun h => by omega, fun h => by omega, rfl⟩
theorem PlF.two {L : Bs} (g : PlF L 1 1 0 ⟨#[]⟩ ⟨#[]⟩) (h : kOf L < (L.drop 1).length) (h2 : (numE ((L.drop 1).take (kOf L))).2 = 0) : PlF L 2 (kOf L + 2) ((numE ((L.drop 1).take (kOf L))).1 : Nat) ⟨#[]⟩ ⟨#[]⟩ :=
  ⟨fun _ => g.f1 (by omega), fun _ => ⟨h, h2, rfl⟩, fun h => by omega, fun h => by omega, fun h => by omega, fun h => by omega, rfl⟩
theorem PlF.three {L : Bs} {m : Int} {a : Nat} (g : PlF L 2 a m ⟨#[]⟩ ⟨#[]⟩) (h : (L.drop (kOf L + 2)).take 2 = [32, 60]) : PlF L 3 (kOf L + 4) m ⟨#[]⟩ ⟨#[]⟩ :=
  ⟨fun _ => g.f1 (by omega), fun _ => g.f2 (by omega), fun _ => h, fun h => by omega, fun h => by omega, fun h => by omega, rfl⟩
theorem PlF.four {L : Bs} {m : Int} {a : Nat} (g : PlF L 3 a m ⟨#[]⟩ ⟨#[]⟩) (h : jOf L < (L.drop (kOf L + 4)).length) (h2 : nickB ((L.drop (kOf L + 4)).take (jOf L)) = true) : PlF L 4 (kOf L + jOf L + 5) m (ofL ((L.drop (kOf L + 4)).take (jOf L))) ⟨#[]⟩ :=
  ⟨fun _ => g.f1 (by omega), fun _ => g.f2 (by omega), fun _ => g.f3 (by omega), fun _ => ⟨h, h2, rfl⟩, fun h => by omega, fun h => by omega, rfl⟩
theorem PlF.five {L : Bs} {m : Int} {a : Nat} {nk : ByteArray} (g : PlF L 4 a m nk ⟨#[]⟩) (h : (L.drop (kOf L + jOf L + 5)).take 1 = [32]) : PlF L 5 (kOf L + jOf L + 6) m nk ⟨#[]⟩ :=
  ⟨fun _ => g.f1 (by omega), fun _ => g.f2 (by omega), fun _ => g.f3 (by omega), fun _ => g.f4 (by omega), fun _ => h, fun h => by omega, rfl⟩
theorem PlF.six {L : Bs} {m : Int} {a : Nat} {nk : ByteArray} (g : PlF L 5 a m nk ⟨#[]⟩) (h : textE (L.drop (kOf L + jOf L + 6)) = 0) : PlF L 6 (kOf L + jOf L + 6) m nk (ofL (L.drop (kOf L + jOf L + 6))) :=
  ⟨fun _ => g.f1 (by omega), fun _ => g.f2 (by omega), fun _ => g.f3 (by omega), fun _ => g.f4 (by omega), fun _ => g.f5 (by omega), fun _ => ⟨h, rfl⟩, rfl⟩
end Go.Proofs.YtghjgbkhhoaebaaGreatDoor

namespace Go.Proofs.YtghjgbkhhoaebaaGreatDoor
set_option linter.unusedSimpArgs false
set_option linter.unusedVariables false
open Go.RowKit

theorem par_le (L : Bs) : (parL L).2.1 ≤ L.length := by
  unfold parL; dsimp only
  split
  · simp
  · rename_i h1
    have a1 := take_le (L := L) (a := 0) (n := 1) (T := [91]) (by simpa using h1) rfl (by omega)
    split
    · show 1 ≤ _; omega
    · rename_i h2
      simp only [Decidable.not_not] at h2
      rw [List.length_drop] at h2
      split
      · show 1 ≤ _; omega
      · split
        · show _ + 2 ≤ _; omega
        · rename_i h4
          have a4 := take_le (L := L) (T := [32, 60]) (n := 2) (by have := h4; simp only [ne_eq, Decidable.not_not] at this; exact this) rfl (by omega)
          split
          · show _ + 4 ≤ _; omega
          · rename_i h5
            simp only [Decidable.not_not] at h5
            rw [List.length_drop] at h5
            split
            · show _ + 4 ≤ _; omega
            · split
              · show _ + _ + 5 ≤ _; omega
              · rename_i h7
                have a7 := take_le (L := L) (T := [32]) (n := 1) (by have := h7; simp only [ne_eq, Decidable.not_not] at this; exact this) rfl (by omega)
                split
                · show _ + _ + 6 ≤ _; omega
                · simp
structure LnsOwn (w wr : World) (v : Value) (l : List Ln) : Prop where
  own : wr.ownsRow w.heap.size 39 3 v l.length (lnsV l)
  bel : Below w.heap.size w wr
theorem LnsOwn.push {w wr w1 : World} {v v' : Value} {l : List Ln} {x : Ln} (h : LnsOwn w wr v l) (hown : w1.ownsRow w.heap.size 39 3 v' (l.length + 1) (lnsV l ++ [.int .i64 (x.min : Int), .string (ofL x.nick), .string (ofL x.text)])) (hg : wr.grownBy w1 v.ownBlock) : LnsOwn w w1 v' (l ++ [x]) := by
  refine ⟨?_, h.bel.grown hg h.bel.size (fun k hk => (h.own.lt k hk).1)⟩
  rw [lnsV_snoc, List.length_append]
  exact hown
theorem LnsOwn.later {w wr w1 : World} {v : Value} {l : List Ln} (h : LnsOwn w wr v l) (hb : Below wr.heap.size wr w1) : LnsOwn w w1 v l :=
  ⟨own_below h.own hb, h.bel.trans (hb.mono h.bel.size)⟩
theorem LnsOwn.nil (w : World) : LnsOwn w w (.slice none 0 0) [] := ⟨World.ownsRow_nil _ _ _ _, Below.refl _ _⟩
def LinPost (s : ByteArray) (w : World) (e : Ending) (w' : World) : Prop := ∃ v, e = .returned (.tuple #[v, .int .i64 ((linF (toL s)).2.1 : Nat), .int .i64 (linF (toL s)).2.2]) ∧ LnsOwn w w' v (linF (toL s)).1
theorem LinPost.err {s : ByteArray} {w w' : World} {a : Nat} {e : Int} (h : linF (toL s) = ([], a, e)) (hb : Below w.heap.size w w') : LinPost s w (.returned (.tuple #[.slice none 0 0, .int .i64 (a : Int), .int .i64 e])) w' :=
  ⟨_, by rw [h], by rw [h]; exact ⟨World.ownsRow_nil _ _ _ _, hb⟩⟩
theorem box3c {w : World} {r : Nat} {a b c : Value} {t : TypeId} (h : w.heap[r]? = some (.cells #[a, b, c] t (0, 0))) : w.cell? ⟨r, 0, none⟩ = some a ∧ w.cell? ⟨r, 1, none⟩ = some b ∧ w.cell? ⟨r, 2, none⟩ = some c ∧ r < w.heap.size :=
  ⟨by rw [Lib.cell_of_heap h]; rfl, by rw [Lib.cell_of_heap h]; rfl, by rw [Lib.cell_of_heap h]; rfl, heap_lt h⟩
theorem nl_bytes : (⟨#[10]⟩ : ByteArray).size = 1 := rfl
set_option maxHeartbeats 8000000 in
set_option maxRecDepth 100000 in
theorem gw_lines (s : ByteArray) (w : World) (hsh : w.ShapedOpen Tryz.prog) (hs : s.size ≤ 800000) : Calls Tryz.prog 24 #[.string s] w (LinPost s w) := by
  have HSH := Lib.hid (fun wx (hb : Below w.heap.size w wx) => shaped_below hsh hb); clear hsh
  have HL := Lib.hid (toL_length s)
  go_enter Tryz.func24, Tryz.ntmps24
  go_wp2_with fail
  go_loopw [5, 6, 7, 8, 9, 10, 11, 12] (fun v5 v6 _ _ _ _ _ _ wr => ∃ (a : Nat) (out : List Ln), a ≤ s.size ∧ out.length ≤ a ∧ v6 = .int .i64 (a : Int) ∧ LinAt (toL s) a out ∧ LnsOwn w wr v5 out) (fun _ v6 _ _ _ _ _ _ _ => s.size - (intOf v6).toNat)
  case atStart => exact ⟨0, [], by omega, by simp, rfl, LinAt.zero _, LnsOwn.nil _⟩
  case round =>
    obtain ⟨a, out, ha, hout, rfl, hat, hown⟩ := hrel
    have HAT := Lib.hid hat; have HOWN := Lib.hid hown
    have k0 : (0 : Int) ≤ (a : Int) := by omega
    by_cases hlt : a < s.size
    · have k1 : (a : Int) < (s.size : Int) := by omega
      have k2 : (a : Int) ≤ (s.size : Int) := by omega
      obtain ⟨X, hX⟩ : ∃ X, s.extract a s.size = X := ⟨_, rfl⟩
      have HXL := Lib.hid (show toL X = (toL s).drop a from by rw [← hX]; exact ext_drop s a)
      have hXs : X.size = s.size - a := by rw [← hX]; exact extract_size _ _ _ (Nat.le_refl _)
      have HCUT := Lib.hid (cut_calls 10 X wr (HSH.out wr hown.bel) (by omega))
      rw [HXL.out] at HCUT
      have hlen : ((toL s).drop a).length = s.size - a := by rw [List.length_drop, HL.out]
      by_cases hk : lnK (toL s) a < ((toL s).drop a).length
      · have HC := Lib.hid (HCUT.out.1 (by rw [hXs, ← hlen]; exact hk))
        have htl : (lnT (toL s) a).length = lnK (toL s) a := by rw [List.length_take]; omega
        rw [hlen] at hk
        have hpo := par_le (lnT (toL s) a)
        have HBAD := Lib.hid (fun he => hat.bad (by rw [HL.out]; exact hlt) (by rw [hlen]; exact hk) he)
        have HNX := Lib.hid (fun he => hat.next (by rw [HL.out]; exact hlt) (by rw [hlen]; exact hk) he)
        obtain ⟨TX, hTX⟩ : ∃ TX, ofL (lnT (toL s) a) = TX := ⟨_, rfl⟩
        rw [show ((toL s).drop a).take (posF 10 ((toL s).drop a)) = lnT (toL s) a from rfl, hTX] at HC
        have hts : TX.size = lnK (toL s) a := by rw [← hTX, ofL_size, htl]
        have HPL := Lib.hid (fun wx (hb : Below w.heap.size w wx) => gw_parseLine TX wx (HSH.out wx hb) (by omega))
        unfold ParPost at HPL
        rw [show toL TX = lnT (toL s) a from by rw [← hTX, toL_ofL]] at HPL
        rw [htl] at hpo
        clear HCUT hat htl hTX hlen
        rcases hp : parL (lnT (toL s) a) with ⟨x, o, er⟩
        rw [hp] at HPL HBAD HNX hpo
        simp only [lnV] at HPL
        simp only at HBAD HNX hpo
        generalize lnK (toL s) a = K at *
        clear hp
        have hbelS := hown.bel.size
        by_cases he : er = 0
        · have HN := Lib.hid (HNX.out he)
          subst he
          have x1 : IntKind.i64.wrap ((TX.size : Int) + 1) = (TX.size : Int) + 1 := IntWalk.i64_in _ (by omega)
          have x2 : IntKind.i64.wrap ((a : Int) + ((TX.size : Int) + 1)) = (a : Int) + ((TX.size : Int) + 1) := IntWalk.i64_in _ (by omega)
          clear HBAD HNX
          have hown0 := hown.own
          clear hown
          go_upto_region 8 with (first
            | (go_at_call 50; (with_reducible refine HC.out.mono ?_); rintro e w1 ⟨y, n, rfl, rfl⟩)
            | (go_at_call 32; (with_reducible refine (HPL.out _ (below_drewN HOWN.out.bel _)).mono ?_); rintro e w2 ⟨rfl, hb2⟩; have HB2 := Lib.hid (show Below wr.heap.size wr w2 from (below_drewN (Below.refl _ _) n).trans (hb2.mono (Nat.le_refl _)))))
          have HB3 := Lib.hid (HB2.out.trans ((alloc_bel w2 (.cells #[.int .i64 (x.min : Int), .string (ofL x.nick), .string (ofL x.text)] 39)).mono HB2.out.size))
          have HBX := Lib.hid (heap_alloc_new w2 (.cells #[.int .i64 (x.min : Int), .string (ofL x.nick), .string (ofL x.text)] 39))
          clear hb2 HB2
          generalize w2.alloc (.cells #[.int .i64 (x.min : Int), .string (ofL x.nick), .string (ofL x.text)] 39) = W3 at *
          generalize w2.heap.size = q at *
          obtain ⟨c0, c1, c2, cz⟩ := box3c HBX.out
          have hown2 := own_below hown0 HB3.out
          have hbs := Nat.le_trans hbelS HB3.out.size
          go_wp2_with ((at_builtin; refine wpList_push el_Line rfl _ _ rfl hown2 #[.int .i64 (x.min : Int), .string (ofL x.nick), .string (ofL x.text)] rfl rfl rfl (by simp [Value.oneCell']) (by omega) (by unfold maxLen; omega) hbs ?_; intro g cap w3 hown3 hg3 hat3))
          go_roundw
          case rel =>
            refine ⟨a + K + 1, out ++ [x], by omega, by simp; omega, by refine congrArg (Value.int .i64) ?_; omega, HN.out, ?_⟩
            exact (HOWN.out.later HB3.out).push hown3 hg3
          case measure => simp [intOf] <;> omega
        · have HV := Lib.hid (HBAD.out he)
          have e1 : (er != 0) = true := by simp only [bne_iff_ne]; exact he
          have x1 : IntKind.i64.wrap ((a : Int) + (o : Int)) = (a : Int) + (o : Int) := IntWalk.i64_in _ (by omega)
          clear HBAD HNX he hown
          go_wp2_with (first
            | (go_at_call 50; (with_reducible refine HC.out.mono ?_); rintro e w1 ⟨y, n, rfl, rfl⟩)
            | (go_at_call 32; (with_reducible refine (HPL.out _ (below_drewN HOWN.out.bel _)).mono ?_); rintro e w2 ⟨rfl, hb2⟩; have HB2 := Lib.hid (show Below wr.heap.size wr w2 from (below_drewN (Below.refl _ _) n).trans (hb2.mono (Nat.le_refl _)))))
          go_ret3
          exact LinPost.err HV.out (HOWN.out.bel.trans ((HB2.out.trans ((alloc_bel w2 _).mono HB2.out.size)).mono hbelS))
      · have HC := Lib.hid (HCUT.out.2 (by rw [hXs, ← hlen]; exact hk))
        have HV := Lib.hid (hat.open_ (by rw [HL.out]; exact hlt) hk)
        rw [HL.out] at HV
        clear HCUT hat hown hk
        go_wp2_with ((go_at_call 50; (with_reducible refine HC.out.mono ?_); rintro e w1 ⟨y, z, n, rfl, rfl⟩))
        go_ret3
        exact LinPost.err HV.out (below_drewN HOWN.out.bel _)
    · have k1 : (s.size : Int) ≤ (a : Int) := by omega
      have HV := Lib.hid (hat.done (by rw [HL.out]; omega))
      clear hat hown
      go_wp2_with fail
      go_ret3
      exact ⟨_, by rw [HV.out]; rfl, by rw [HV.out]; exact HOWN.out⟩
end Go.Proofs.YtghjgbkhhoaebaaGreatDoor

namespace Go.Proofs.YtghjgbkhhoaebaaGreatDoor
set_option linter.unusedSimpArgs false
set_option linter.unusedVariables false
open Go.RowKit

theorem lnsV_get : ∀ (l : List Ln) (k : Nat) (h : k < l.length), (lnsV l)[k * 3]? = some (.int .i64 (l[k].min : Int)) ∧ (lnsV l)[k * 3 + 1]? = some (.string (ofL l[k].nick)) ∧ (lnsV l)[k * 3 + 2]? = some (.string (ofL l[k].text))
  | [], k, h => by simp at h
  | x :: r, 0, h => by simp [lnsV]
  | x :: r, k + 1, h => by
    have ih := lnsV_get r k (by simpa using h)
    have e : lnsV (x :: r) = .int .i64 (x.min : Int) :: .string (ofL x.nick) :: .string (ofL x.text) :: lnsV r := by simp [lnsV]
    rw [e, show (k + 1) * 3 = k * 3 + 1 + 1 + 1 from by omega]
    simp only [List.getElem?_cons_succ, List.getElem_cons_succ]
    exact ih
theorem lns_cells {w : World} {A : Option Addr} {l : List Ln} (h : Row w A (lnsV l)) {k : Nat} (hk : k < l.length) : ∃ b off, A = some ⟨b, off, none⟩ ∧ b < w.heap.size ∧ w.cell? ⟨b, off + k * 3, none⟩ = some (.int .i64 (l[k].min : Int)) ∧ w.cell? ⟨b, off + k * 3 + 1, none⟩ = some (.string (ofL l[k].nick)) ∧ w.cell? ⟨b, off + k * 3 + 2, none⟩ = some (.string (ofL l[k].text)) := by
  obtain ⟨b, off, rfl, hb, hc⟩ := h.at (k := k * 3) (by rw [lnsV_length]; omega)
  obtain ⟨h0, h1, h2⟩ := lnsV_get l k hk
  exact ⟨b, off, rfl, hb, hc _ _ h0, hc _ _ h1, hc _ _ h2⟩
set_option maxHeartbeats 4000000 in
set_option maxRecDepth 100000 in
theorem lw_same (A B : Option Addr) (l : List Ln) (c d : Nat) (w : World) (hr : Row w A (lnsV l)) (hq : Row w B (lnsV l)) (hl : l.length ≤ 1000000) :
    Calls Tryz.prog 14 #[.slice A l.length c, .slice B l.length d] w fun e w' => e = .returned (.bool true) ∧ Below w.heap.size w w' := by
  have HR := Lib.hid hr; have HQ := Lib.hid hq; clear hr hq
  have hlm' : ((l.length : Int) != (l.length : Int)) = false := by simp
  go_enter Tryz.func14, Tryz.ntmps14
  go_wp2_with fail
  go_loopw [5] (fun ix wr => ∃ k : Nat, k ≤ l.length ∧ ix = .int .i64 (k : Int) ∧ Below w.heap.size w wr) (fun ix _ => l.length - (intOf ix).toNat)
  case atStart => exact ⟨0, by omega, rfl, Below.refl _ _⟩
  case round =>
    obtain ⟨k, hk, rfl, hB⟩ := hrel
    have k0 : (0 : Int) ≤ (k : Int) := by omega
    by_cases hlt : k < l.length
    · have k1 : (k : Int) < (l.length : Int) := by omega
      obtain ⟨bb, off, rfl, hb1, c0, c1, c2⟩ := lns_cells (HR.out.below hB) hlt
      obtain ⟨bc, off2, rfl, hb2, d0, d1, d2⟩ := lns_cells (HQ.out.below hB) hlt
      generalize l[k] = x at *
      obtain ⟨m, n, t⟩ := x
      simp only at c0 c1 c2 d0 d1 d2
      generalize ofL n = n' at *
      generalize ofL t = t' at *
      go_wp2_with fail
      go_quiet (fail)
      go_wp2_with fail
      go_roundw
      case rel => exact ⟨k + 1, by omega, by go_num, below_drewN hB _⟩
      case measure => simp [intOf] <;> omega
    · have k1 : (l.length : Int) ≤ (k : Int) := by omega
      go_wp2_with fail
      go_ret
      exact ⟨rfl, hB⟩
end Go.Proofs.YtghjgbkhhoaebaaGreatDoor
