/- Common with nil, and the walk over known, the chapter's examples, and cut. -/
import Derived.Test.YtcknomaaikeebaaDoorWmD
import Derived.Test.YtcknomaaikeebaaDoorWmF
namespace Go.Proofs.YtcknomaaikeebaaDoor
set_option linter.unusedSimpArgs false
set_option linter.unusedVariables false
open Go.RowKit

set_option maxHeartbeats 1000000 in
theorem wm_common_nil1 (v : Value) (w : World) : Calls Tryd.prog 8 #[.pointer none, v] w fun e w' => e = .returned (.tuple #[.string ⟨#[]⟩, .bool false]) ∧ w = w' := by
  go_enter Tryd.func8, Tryd.ntmps8
  go_wp2_with fail
  go_ret2
  exact ⟨rfl, rfl⟩
set_option maxHeartbeats 1000000 in
theorem wm_common_nil2 (p : Option Addr) (w : World) : Calls Tryd.prog 8 #[.pointer p, .pointer none] w fun e w' => e = .returned (.tuple #[.string ⟨#[]⟩, .bool false]) ∧ w = w' := by
  cases p with
  | none => exact wm_common_nil1 _ w
  | some a =>
    go_enter Tryd.func8, Tryd.ntmps8
    go_wp2_with fail
    go_ret2
    exact ⟨rfl, rfl⟩

theorem CompPost.yes {s : ByteArray} {w w' : World} {e : Ending} (h : CompPost s w e w') {E : List Em} (hE : compF (toL s) = (E, 0, 0)) : ∃ b, e = .returned (.tuple #[.pointer (some ⟨b, 0, none⟩), .int .i64 0, .int .i64 0]) ∧ PatT w' b s E ∧ Below w.heap.size w w' := by
  obtain ⟨v, rfl, hv, hb⟩ := h
  rw [hE] at hv ⊢
  rcases hv with ⟨_, b, rfl, hp⟩ | ⟨h0, _⟩
  · exact ⟨b, rfl, hp, hb⟩
  · exact absurd rfl h0
theorem CompPost.no {s : ByteArray} {w w' : World} {e : Ending} (h : CompPost s w e w') {E : List Em} {n : Nat} {k : Int} (hE : compF (toL s) = (E, n, k)) (hk : k ≠ 0) : e = .returned (.tuple #[.pointer none, .int .i64 n, .int .i64 k]) ∧ Below w.heap.size w w' := by
  obtain ⟨v, rfl, hv, hb⟩ := h
  rw [hE] at hv ⊢
  rcases hv with ⟨h0, _⟩ | ⟨_, rfl⟩
  · exact absurd h0 hk
  · exact ⟨rfl, hb⟩
theorem ListPost.yes {s : ByteArray} {w w' : World} {e : Ending} (h : ListPost s w e w') {E : List Ent} (hE : listF (toL s) = (E, 0, 0)) : ∃ b, e = .returned (.tuple #[.pointer (some ⟨b, 0, none⟩), .int .i64 0, .int .i64 0]) ∧ ListAt w' b s E ∧ Below w.heap.size w w' := by
  obtain ⟨v, rfl, hv, hb⟩ := h
  rw [hE] at hv ⊢
  rcases hv with ⟨_, b, rfl, hp⟩ | ⟨h0, _⟩
  · exact ⟨b, rfl, hp, hb⟩
  · exact absurd rfl h0
theorem ListPost.no {s : ByteArray} {w w' : World} {e : Ending} (h : ListPost s w e w') {E : List Ent} {n : Nat} {k : Int} (hE : listF (toL s) = (E, n, k)) (hk : k ≠ 0) : e = .returned (.tuple #[.pointer none, .int .i64 n, .int .i64 k]) ∧ Below w.heap.size w w' := by
  obtain ⟨v, rfl, hv, hb⟩ := h
  rw [hE] at hv ⊢
  rcases hv with ⟨h0, _⟩ | ⟨_, rfl⟩
  · exact absurd h0 hk
  · exact ⟨rfl, hb⟩
theorem row_lit (w : World) (l : List Bs) (t : TypeId) : Row (w.alloc (.cells (strsL l).toArray t)) (some ⟨w.heap.size, 0, none⟩) (strsL l) := by
  refine Row.mk _ _ _ _ (by simp) fun j v hv => ?_
  rw [Nat.zero_add, Lib.cell_of_heap (heap_alloc_new w _)]
  simpa using hv
/-- The first bytes of a text. -/
def cutB (s : ByteArray) (n : Nat) : ByteArray := s.extract 0 (min (s.size : Int) (n : Int)).toNat
theorem cutB_size (s : ByteArray) (n : Nat) : (cutB s n).size ≤ n := by
  unfold cutB; rw [extract_size _ _ _ (by omega)]; omega
set_option maxHeartbeats 1000000 in
theorem law_cut (s : ByteArray) (n : Nat) (w : World) (hs : s.size ≤ maxLen) (hn : n ≤ 1000000) :
    Calls Tryd.prog 4 #[.string s, .int .i64 n] w fun e w' => e = .returned (.string (cutB s n)) ∧ w = w' := by
  unfold maxLen at hs
  have m1 : (0 : Int) ≤ min (s.size : Int) (n : Int) := by omega
  have m2 : min (s.size : Int) (n : Int) ≤ (s.size : Int) := by omega
  go_enter Tryd.func4, Tryd.ntmps4
  go_wp2_with fail
  go_ret
  exact ⟨rfl, rfl⟩

def kp1 : List Em := [.lit 99, .lit 111, .lit 109, .lit 112, .lit 46, .star]
theorem kc1 : compF (toL ⟨#[99, 111, 109, 112, 46, 42]⟩) = (kp1, 0, 0) := by decide +kernel
theorem ko1 : ∀ e ∈ kp1, e.Ok := by have := compF_ok (toL ⟨#[99, 111, 109, 112, 46, 42]⟩); rw [kc1] at this; exact this
def kp2 : List Em := [.star, .lit 46, .lit 111, .lit 115]
theorem kc2 : compF (toL ⟨#[42, 46, 111, 115]⟩) = (kp2, 0, 0) := by decide +kernel
theorem ko2 : ∀ e ∈ kp2, e.Ok := by have := compF_ok (toL ⟨#[42, 46, 111, 115]⟩); rw [kc2] at this; exact this
def kp4 : List Em := [.cls []]
theorem kc4 : compF (toL ⟨#[91, 94, 45, 97, 45, 122, 48, 45, 57, 43, 95, 46, 93]⟩) = (kp4, 0, 0) := by decide +kernel
theorem ko4 : ∀ e ∈ kp4, e.Ok := by have := compF_ok (toL ⟨#[91, 94, 45, 97, 45, 122, 48, 45, 57, 43, 95, 46, 93]⟩); rw [kc4] at this; exact this
theorem kc3 : compF (toL ⟨#[97, 91, 98]⟩) = ([], 1, 3) := by decide +kernel
theorem kcom : comF kp1 kp2 = some [99, 111, 109, 112, 46, 111, 115] := by decide +kernel
theorem kpost {w w' : World} {e : Ending} (h : RestPost w (some [99, 111, 109, 112, 46, 111, 115]) e w') : e = .returned (.tuple #[.string ⟨#[99, 111, 109, 112, 46, 111, 115]⟩, .bool true]) ∧ Below w.heap.size w w' := ⟨h.1.trans rfl, h.2⟩
def kl : List Ent := [([.star], 1), ([.lit 97, .lit 108, .lit 116, .lit 46, .star], 2), ([.lit 97, .lit 108, .lit 116, .lit 46, .lit 97, .lit 110, .lit 115, .lit 119, .lit 101, .lit 114, .lit 115], 1), ([.star, .lit 46, .lit 98, .lit 105, .lit 110], 3)]
theorem kls : listF (toL ⟨#[42, 44, 33, 97, 108, 116, 46, 42, 44, 97, 108, 116, 46, 97, 110, 115, 119, 101, 114, 115, 44, 64, 42, 46, 98, 105, 110]⟩) = (kl, 0, 0) := by decide +kernel
theorem klo : ∀ e ∈ kl, EntOk e := by have := (listF_ok (toL ⟨#[42, 44, 33, 97, 108, 116, 46, 42, 44, 97, 108, 116, 46, 97, 110, 115, 119, 101, 114, 115, 44, 64, 42, 46, 98, 105, 110]⟩)).1; rw [kls] at this; exact this
theorem km0 : matchF kp1 (toL ⟨#[99, 111, 109, 112, 46, 111, 115]⟩) = true := by decide +kernel
theorem km1 : matchF kp1 (toL ⟨#[99, 111, 109, 112, 46]⟩) = true := by decide +kernel
theorem km2 : matchF kp1 (toL ⟨#[99, 111, 109, 112]⟩) = false := by decide +kernel
theorem kem : emptyF kp4 = true := by decide +kernel
theorem kv0 : verdictF kl (toL ⟨#[99, 111, 109, 112, 46, 111, 115]⟩) = 1 := by decide +kernel
theorem kv1 : verdictF kl (toL ⟨#[97, 108, 116, 46, 120]⟩) = 2 := by decide +kernel
theorem kv2 : verdictF kl (toL ⟨#[97, 108, 116, 46, 97, 110, 115, 119, 101, 114, 115]⟩) = 1 := by decide +kernel
theorem kv3 : verdictF kl (toL ⟨#[97, 108, 116, 46, 98, 105, 110]⟩) = 3 := by decide +kernel
theorem ks0 : selGo kl [[97, 108, 116, 46, 120], [99, 111, 109, 112, 46, 111, 115]] false = true := by decide +kernel
theorem ks1 : selGo kl [[99, 111, 109, 112, 46, 111, 115], [97, 108, 116, 46, 98, 105, 110]] false = false := by decide +kernel

set_option maxHeartbeats 4000000 in
set_option maxRecDepth 100000 in
theorem law_known (w : World) (hsh : w.ShapedOpen Tryd.prog) : Calls Tryd.prog 6 #[] w fun e w' => e = .returned (.bool true) ∧ Below w.heap.size w w' := by
  have HSH := Lib.hid hsh; clear hsh
  go_enter Tryd.func6, Tryd.ntmps6
  go_wp2_with fail
  (with_reducible refine (wm_compile _ w (by decide)).mono ?_)
  intro e w1 h1
  obtain ⟨b1, rfl, hp1, hb1⟩ := h1.yes kc1
  clear h1
  have HP1 := Lib.hid hp1; clear hp1
  go_wp2_with fail
  (with_reducible refine (wm_compile _ w1 (by decide)).mono ?_)
  intro e w2 h1
  obtain ⟨b2, rfl, hp2, hb2⟩ := h1.yes kc2
  clear h1
  have hw2 := hb1.trans (hb2.mono hb1.size)
  have HP12 := Lib.hid (HP1.out.below hb2)
  have HP2 := Lib.hid hp2
  clear HP1 hp2 hb1 hb2
  go_wp2_with fail
  (with_reducible refine (wm_compile _ w2 (by decide)).mono ?_)
  intro e w3 h1
  obtain ⟨rfl, hb3⟩ := h1.no kc3 (by decide)
  clear h1
  have hw3 := hw2.trans (hb3.mono hw2.size)
  have HP13 := Lib.hid (HP12.out.below hb3)
  have HP23 := Lib.hid (HP2.out.below hb3)
  clear HP12 HP2 hw2 hb3
  go_wp2_with fail
  (with_reducible refine (wm_compile _ w3 (by decide)).mono ?_)
  intro e w4 h1
  obtain ⟨b4, rfl, hp4, hb4⟩ := h1.yes kc4
  clear h1
  have hw4 := hw3.trans (hb4.mono hw3.size)
  have HP14 := Lib.hid (HP13.out.below hb4)
  have HP24 := Lib.hid (HP23.out.below hb4)
  have HP4 := Lib.hid hp4
  clear HP13 HP23 hw3 hb4 hp4
  go_wp2_with fail
  (with_reducible refine (wm_common b1 b2 _ _ kp1 kp2 w4 HP14.out.at HP24.out.at ko1 (by decide) (by decide)).mono ?_)
  intro e w5 h1
  rw [kcom] at h1
  obtain ⟨rfl, hb5⟩ := kpost h1
  clear h1
  have hw5 := hw4.trans (hb5.mono hw4.size)
  have HP15 := Lib.hid (HP14.out.below hb5)
  have HP45 := Lib.hid (HP4.out.below hb5)
  clear HP14 HP24 HP4 hw4 hb5
  have HSH5 := Lib.hid (shaped_below HSH.out hw5)
  go_wp2_with fail
  (with_reducible refine (wm_parseList _ w5 HSH5.out (by decide)).mono ?_)
  intro e w6 h1
  obtain ⟨b6, rfl, hl6, hb6⟩ := h1.yes kls
  clear h1
  have hw6 := hw5.trans (hb6.mono hw5.size)
  have HP16 := Lib.hid (HP15.out.below hb6)
  have HP46 := Lib.hid (HP45.out.below hb6)
  have HL6 := Lib.hid hl6
  clear HP15 HP45 HSH5 hw5 hb6 hl6
  go_wp2_with fail
  (with_reducible refine (pat_match b1 _ kp1 _ w6 HP16.out.at (by decide) ko1 (by decide)).mono ?_)
  rintro e w7 ⟨rfl, hb7⟩
  rw [km0]
  have hw7 := hw6.trans (hb7.mono hw6.size)
  have HP17 := Lib.hid (HP16.out.below hb7)
  have HP47 := Lib.hid (HP46.out.below hb7)
  have HL7 := Lib.hid (HL6.out.below hb7)
  clear HP16 HP46 HL6 hw6 hb7
  go_wp2_with fail
  (with_reducible refine (pat_match b1 _ kp1 _ w7 HP17.out.at (by decide) ko1 (by decide)).mono ?_)
  rintro e w8 ⟨rfl, hb8⟩
  rw [km1]
  have hw8 := hw7.trans (hb8.mono hw7.size)
  have HP18 := Lib.hid (HP17.out.below hb8)
  have HP48 := Lib.hid (HP47.out.below hb8)
  have HL8 := Lib.hid (HL7.out.below hb8)
  clear HP17 HP47 HL7 hw7 hb8
  go_wp2_with fail
  (with_reducible refine (pat_match b1 _ kp1 _ w8 HP18.out.at (by decide) ko1 (by decide)).mono ?_)
  rintro e w9 ⟨rfl, hb9⟩
  rw [km2]
  have hw9 := hw8.trans (hb9.mono hw8.size)
  have HP19 := Lib.hid (HP18.out.below hb9)
  have HP49 := Lib.hid (HP48.out.below hb9)
  have HL9 := Lib.hid (HL8.out.below hb9)
  clear HP18 HP48 HL8 hw8 hb9
  go_wp2_with fail
  (with_reducible refine (pat_empty b4 _ kp4 w9 HP49.out.at (by decide)).mono ?_)
  rintro e w10 ⟨rfl, hb10⟩
  rw [kem]
  have hw10 := hw9.trans (hb10.mono hw9.size)
  have HL10 := Lib.hid (HL9.out.below hb10)
  clear HL9 hw9 hb10
  go_wp2_with fail
  (with_reducible refine (lst_verdict b6 _ kl _ w10 HL10.out klo (by decide) (by decide)).mono ?_)
  rintro e w11 ⟨rfl, hb11⟩
  rw [kv0]
  have hw11 := hw10.trans (hb11.mono hw10.size)
  have HL11 := Lib.hid (HL10.out.below hb11)
  clear HL10 hw10 hb11
  go_wp2_with fail
  (with_reducible refine (lst_verdict b6 _ kl _ w11 HL11.out klo (by decide) (by decide)).mono ?_)
  rintro e w12 ⟨rfl, hb12⟩
  rw [kv1]
  have hw12 := hw11.trans (hb12.mono hw11.size)
  have HL12 := Lib.hid (HL11.out.below hb12)
  clear HL11 hw11 hb12
  go_wp2_with fail
  (with_reducible refine (lst_verdict b6 _ kl _ w12 HL12.out klo (by decide) (by decide)).mono ?_)
  rintro e w13 ⟨rfl, hb13⟩
  rw [kv2]
  have hw13 := hw12.trans (hb13.mono hw12.size)
  have HL13 := Lib.hid (HL12.out.below hb13)
  clear HL12 hw12 hb13
  go_wp2_with fail
  (with_reducible refine (lst_verdict b6 _ kl _ w13 HL13.out klo (by decide) (by decide)).mono ?_)
  rintro e w14 ⟨rfl, hb14⟩
  rw [kv3]
  have hw14 := hw13.trans (hb14.mono hw13.size)
  have HL14 := Lib.hid (HL13.out.below hb14)
  clear HL13 hw13 hb14
  have HS14 := Lib.hid (show Calls Tryd.prog 16 #[.pointer (some ⟨b6, 0, none⟩), .slice (some ⟨w14.heap.size, 0, none⟩) 2 2] (w14.alloc (.cells #[.string ⟨#[97, 108, 116, 46, 120]⟩, .string ⟨#[99, 111, 109, 112, 46, 111, 115]⟩] 9)) fun e w' => e = .returned (.bool (selGo kl [[97, 108, 116, 46, 120], [99, 111, 109, 112, 46, 111, 115]] false)) ∧ Below (w14.alloc (.cells #[.string ⟨#[97, 108, 116, 46, 120]⟩, .string ⟨#[99, 111, 109, 112, 46, 111, 115]⟩] 9)).heap.size (w14.alloc (.cells #[.string ⟨#[97, 108, 116, 46, 120]⟩, .string ⟨#[99, 111, 109, 112, 46, 111, 115]⟩] 9)) w' from
    lst_selects _ kl _ [[97, 108, 116, 46, 120], [99, 111, 109, 112, 46, 111, 115]] 2 _ (.inr ⟨b6, _, rfl, HL14.out.below ((Below.refl _ _).alloc (Nat.le_refl _) _)⟩) klo (by decide) (row_lit w14 [[97, 108, 116, 46, 120], [99, 111, 109, 112, 46, 111, 115]] 9) (by decide) (by decide))
  rw [ks0] at HS14
  go_wp2_with fail
  (with_reducible refine HS14.out.mono ?_)
  rintro e w15 ⟨rfl, hb15'⟩
  have hb15 : Below w14.heap.size w14 w15 := ((Below.refl _ _).alloc (Nat.le_refl _) _).trans (hb15'.mono (by simp))
  clear hb15' HS14
  have hw15 := hw14.trans (hb15.mono hw14.size)
  have HL15 := Lib.hid (HL14.out.below hb15)
  clear HL14 hw14 hb15
  have HS15 := Lib.hid (show Calls Tryd.prog 16 #[.pointer (some ⟨b6, 0, none⟩), .slice (some ⟨w15.heap.size, 0, none⟩) 2 2] (w15.alloc (.cells #[.string ⟨#[99, 111, 109, 112, 46, 111, 115]⟩, .string ⟨#[97, 108, 116, 46, 98, 105, 110]⟩] 9)) fun e w' => e = .returned (.bool (selGo kl [[99, 111, 109, 112, 46, 111, 115], [97, 108, 116, 46, 98, 105, 110]] false)) ∧ Below (w15.alloc (.cells #[.string ⟨#[99, 111, 109, 112, 46, 111, 115]⟩, .string ⟨#[97, 108, 116, 46, 98, 105, 110]⟩] 9)).heap.size (w15.alloc (.cells #[.string ⟨#[99, 111, 109, 112, 46, 111, 115]⟩, .string ⟨#[97, 108, 116, 46, 98, 105, 110]⟩] 9)) w' from
    lst_selects _ kl _ [[99, 111, 109, 112, 46, 111, 115], [97, 108, 116, 46, 98, 105, 110]] 2 _ (.inr ⟨b6, _, rfl, HL15.out.below ((Below.refl _ _).alloc (Nat.le_refl _) _)⟩) klo (by decide) (row_lit w15 [[99, 111, 109, 112, 46, 111, 115], [97, 108, 116, 46, 98, 105, 110]] 9) (by decide) (by decide))
  rw [ks1] at HS15
  go_wp2_with fail
  (with_reducible refine HS15.out.mono ?_)
  rintro e w16 ⟨rfl, hb16'⟩
  have hb16 : Below w15.heap.size w15 w16 := ((Below.refl _ _).alloc (Nat.le_refl _) _).trans (hb16'.mono (by simp))
  clear hb16' HS15
  have hw16 := hw15.trans (hb16.mono hw15.size)
  go_wp2_with fail
  go_ret
  exact ⟨rfl, hw16⟩
end Go.Proofs.YtcknomaaikeebaaDoor
