/- Walks over field.choose, named, Without, Unknown, Get. -/
import Derived.Test.YtaigbplfbfaghaaConv2
import Derived.Test.YtaigbplfbfaghaaLower
import Derived.Laws.EntriesVeiled
namespace Go.Proofs.Ytaigbplfbfaghaa
set_option linter.unusedSimpArgs false
set_option linter.unusedVariables false
open Go.RowKit

/-- A function value that answers p of a field; it may make memory, but turns nothing that was there. -/
structure FldPred (f : Nat) (caps : Array Value) (p : Fd → Bool) (I : World → Prop) : Prop where
  enters : ∀ args w, (callFunc f args).run Try.prog w = .ok (.enter f args) w
  calls : ∀ (n b : ByteArray) (w : World), I w → n.size ≤ 1000000 → b.size ≤ 1000000 → Calls Try.prog f (#[.agg #[.string n, .string b]] ++ caps) w fun e w' => e = .returned (.bool (p (toL n, toL b))) ∧ Below w.heap.size w w'
  keeps : ∀ w w', I w → Below w.heap.size w w' → I w'

theorem el_Fld : Elem Try.prog 39 28 2 32 := Elem.of Try.underlying39 info_Fld rfl (by omega)

theorem FldsOwn.push1 {w wr w1 : World} {e : TypeId} {v v' : Value} {l : List Fd} {n b : ByteArray} (h : FldsOwn w wr e v l) (hown : w1.ownsRow w.heap.size e 2 v' (l.length + 1) (fldsV l ++ [.string n, .string b])) (hg : wr.grownBy w1 v.ownBlock) : FldsOwn w w1 e v' (l ++ [(toL n, toL b)]) := by
  refine ⟨by rw [← fldsV_snoc]; simpa using hown, ?_⟩
  have hs := h.bel.size
  exact h.bel.grown hg hs (fun k hk => (h.own.lt k hk).1)
theorem FldsOwn.later {w wr w1 : World} {e : TypeId} {v : Value} {l : List Fd} (h : FldsOwn w wr e v l) (hb : Below wr.heap.size wr w1) : FldsOwn w w1 e v l :=
  ⟨own_below h.own hb, h.bel.trans (hb.mono h.bel.size)⟩

theorem filter_snoc (p : Fd → Bool) (l : List Fd) (k : Nat) (h : k < l.length) : (l.take (k + 1)).filter p = (l.take k).filter p ++ (if p l[k] = true then [l[k]] else []) := by
  rw [List.take_succ_eq_append_getElem h, List.filter_append]
  split <;> simp [*]

set_option maxHeartbeats 4000000 in
set_option maxRecDepth 100000 in
theorem fld_choose (f : Nat) (caps : Array Value) (p : Fd → Bool) (I : World → Prop) (hf : FldPred f caps p I) (A : Option Addr) (l : List Fd) (c : Nat) (w : World) (hr : Row w A (fldsV l)) (hl : Mild l) (hI : I w) :
    Calls Try.prog 62 #[.slice A l.length c, .func (.func f) #[] caps] w fun e w' => ∃ v, e = .returned v ∧ FldsOwn w w' 28 v (l.filter p) := by
  have he := hf.enters
  have HR := Lib.hid hr; clear hr
  have HI := Lib.hid hI; clear hI
  obtain ⟨hl1, hl2⟩ := hl
  have HL2 := Lib.hid hl2; clear hl2
  go_enter Try.func62, Try.ntmps62
  go_wp2_with fail
  go_loopg [5, 10] l.length (fun g v ix wr => ∃ k : Nat, g = l.length - k ∧ k ≤ l.length ∧ ix = .int .i64 k ∧ FldsOwn w wr 28 v ((l.take k).filter p))
  case atStart => exact ⟨0, by omega, by omega, rfl, ⟨World.ownsRow_nil _ _ _ _, Below.refl _ _⟩⟩
  case round =>
    obtain ⟨k, rfl, hk, rfl, hF⟩ := hrel
    by_cases hlt : k < l.length
    · have hk1 : (0 : Int) ≤ (k : Int) := by omega
      have hk2 : (k : Int) < (l.length : Int) := by omega
      obtain ⟨bb, off, rfl, hbb, _⟩ := HR.out.at (k := 0) (by rw [fldsV_length]; omega)
      obtain ⟨n, hn⟩ : ∃ n, ofL l[k].1 = n := ⟨_, rfl⟩
      obtain ⟨b, hb⟩ : ∃ b, ofL l[k].2 = b := ⟨_, rfl⟩
      have hnL : l[k].1 = toL n := by rw [← hn, toL_ofL]
      have hbL : l[k].2 = toL b := by rw [← hb, toL_ofL]
      have hm : l[k].1.length ≤ 1000000 ∧ l[k].2.length ≤ 1000000 := HL2.out l[k] (List.getElem_mem hlt)
      obtain ⟨hc1, hc2⟩ := (HR.out.below hF.bel).field' hlt hn hb
      have HNB := Lib.hid (show l[k] = (toL n, toL b) from Prod.ext hnL hbL)
      rw [hnL, hbL, toL_length, toL_length] at hm
      obtain ⟨hm1, hm2⟩ := hm
      clear hn hb hnL hbL
      have HFS := Lib.hid (filter_snoc p l k hlt)
      rw [HNB.out] at HFS
      have hlen : ((l.take k).filter p).length ≤ k := by have := List.length_filter_le p (l.take k); simp at this; omega
      have hsz := hF.bel.size
      go_wp2_with fail
      have hbA : Below wr.heap.size wr (wr.alloc (.cells #[.string n, .string b] 28)) := (Below.refl _ _).alloc (Nat.le_refl _) _
      have hIA := hf.keeps _ _ HI.out ((hF.later hbA).bel)
      (with_reducible refine (hf.calls n b _ hIA hm1 hm2).mono ?_)
      rintro e w2 ⟨rfl, hb2⟩
      have hF2 := (hF.later hbA).later hb2
      have hk0 : w2.heap[wr.heap.size]? = some (.cells #[.string n, .string b] 28 (0, 0)) := by
        rw [hb2.block _ (by simp)]; exact heap_alloc_new wr _
      have hd0 : w2.cell? ⟨wr.heap.size, 0, none⟩ = some (.string n) := by rw [Lib.cell_of_heap hk0]; rfl
      have hd1 : w2.cell? ⟨wr.heap.size, 1, none⟩ = some (.string b) := by rw [Lib.cell_of_heap hk0]; rfl
      clear hk0 hIA hbA hc1 hc2
      rcases hp : p (toL n, toL b) with _ | _
      · go_wp2_with fail
        go_roundg (l.length - (k + 1))
        case measure => omega
        case rel =>
          refine ⟨k + 1, rfl, by omega, by go_num, ?_⟩
          rw [HFS.out, if_neg (by simp [hp]), List.append_nil]; exact hF2
      · have hsz2 := hF2.bel.size
        have hown2 := hF2.own
        go_wp2_with ((at_builtin; refine wpList_push el_Fld rfl _ _ rfl hown2 #[.string n, .string b] rfl rfl rfl (by simp [Value.oneCell']) (by omega) (by unfold maxLen; omega) hsz2 ?_; intro g cap w3 hown3 hg3 hat3))
        go_roundg (l.length - (k + 1))
        case measure => omega
        case rel =>
          refine ⟨k + 1, rfl, by omega, by go_num, ?_⟩
          rw [HFS.out, if_pos hp]
          have := hF2.push1 hown3 hg3
          exact this
    · have HE := Lib.hid (show l.take k = l by rw [List.take_of_length_le (by omega)])
      go_wp2_with fail
      go_ret
      rw [HE.out] at hF
      exact ⟨_, rfl, hF⟩

/-- The box that a predicate on names captured holds the name. -/
def BoxStr (pb : Nat) (s : ByteArray) (w : World) : Prop := w.heap[pb]? = some (.cells #[.string s] 9 (0, 0))
theorem BoxStr.keeps {pb : Nat} {s : ByteArray} (w w' : World) (h : BoxStr pb s w) (hb : Below w.heap.size w w') : BoxStr pb s w' := (hb.block _ (heap_lt h)).trans h

set_option maxHeartbeats 1000000 in
set_option maxRecDepth 100000 in
theorem fld_named1 (pb : Nat) (s n b : ByteArray) (w : World) (h : BoxStr pb s w) (hs : s.size ≤ 1000000) (hn : n.size ≤ 1000000) :
    Calls Try.prog 86 #[.agg #[.string n, .string b], .pointer (some ⟨pb, 0, none⟩)] w fun e w' => e = .returned (.bool (foldEq (toL n) (toL s))) ∧ Below w.heap.size w w' := by
  have hlt := heap_lt h
  have c1 : w.cell? ⟨pb, 0, none⟩ = some (.string s) := by rw [Lib.cell_of_heap h]; rfl
  have H := Lib.hid h; clear h
  go_enter Try.func86, Try.ntmps86
  go_wp2_with fail
  (with_reducible refine (asc_equalFold n s _ (le_maxLen hn) (le_maxLen hs)).mono ?_)
  rintro e w2 ⟨rfl, hb2⟩
  go_wp2_with fail
  go_ret
  exact ⟨rfl, ((Below.refl _ _).alloc (Nat.le_refl _) _).trans (hb2.mono (by simp))⟩

set_option maxHeartbeats 1000000 in
theorem fld_named (s : ByteArray) (w : World) :
    Calls Try.prog 61 #[.string s] w fun e w' => e = .returned (.func (.func 86) #[] #[.pointer (some ⟨w.heap.size, 0, none⟩)]) ∧ BoxStr w.heap.size s w' ∧ Below w.heap.size w w' := by
  go_enter Try.func61, Try.ntmps61
  go_wp2_with fail
  go_ret
  exact ⟨rfl, heap_alloc_new w _, (Below.refl _ _).alloc (Nat.le_refl _) _⟩

theorem pred_named (pb : Nat) (s : ByteArray) (hs : s.size ≤ 1000000) : FldPred 86 #[.pointer (some ⟨pb, 0, none⟩)] (fun f => foldEq f.1 (toL s)) (BoxStr pb s) :=
  ⟨Try.call86, fun n b w hI hn hb => fld_named1 pb s n b w hI hs hn, BoxStr.keeps⟩

/-- The box of the function value, and the name's box. -/
def BoxNot (pf pb : Nat) (s : ByteArray) (w : World) : Prop := w.heap[pf]? = some (.cells #[.func (.func 86) #[] #[.pointer (some ⟨pb, 0, none⟩)]] 83 (0, 0)) ∧ BoxStr pb s w
theorem BoxNot.str {pf pb : Nat} {s : ByteArray} {w : World} (h : BoxNot pf pb s w) : BoxStr pb s w := h.2
theorem BoxNot.keeps {pf pb : Nat} {s : ByteArray} (w w' : World) (h : BoxNot pf pb s w) (hb : Below w.heap.size w w') : BoxNot pf pb s w' := ⟨(hb.block _ (heap_lt h.1)).trans h.1, h.2.keeps _ _ hb⟩

set_option maxHeartbeats 1000000 in
set_option maxRecDepth 100000 in
theorem fld_without1 (pf pb : Nat) (s n b : ByteArray) (w : World) (h : BoxNot pf pb s w) (hs : s.size ≤ 1000000) (hn : n.size ≤ 1000000) :
    Calls Try.prog 63 #[.agg #[.string n, .string b], .pointer (some ⟨pf, 0, none⟩)] w fun e w' => e = .returned (.bool (!foldEq (toL n) (toL s))) ∧ Below w.heap.size w w' := by
  have hlt := heap_lt h.1
  have c1 : w.cell? ⟨pf, 0, none⟩ = some (.func (.func 86) #[] #[.pointer (some ⟨pb, 0, none⟩)]) := by rw [Lib.cell_of_heap h.1]; rfl
  have H := Lib.hid h; clear h
  go_enter Try.func63, Try.ntmps63
  go_wp2_with fail
  have hA : Below w.heap.size w (w.alloc (.cells #[.string n, .string b] 28)) := (Below.refl _ _).alloc (Nat.le_refl _) _
  (with_reducible refine (fld_named1 pb s n b _ (H.out.str.keeps _ _ hA) hs hn).mono ?_)
  rintro e w2 ⟨rfl, hb2⟩
  go_wp2_with fail
  go_ret
  exact ⟨rfl, hA.trans (hb2.mono hA.size)⟩

theorem pred_without (pf pb : Nat) (s : ByteArray) (hs : s.size ≤ 1000000) : FldPred 63 #[.pointer (some ⟨pf, 0, none⟩)] (fun f => !foldEq f.1 (toL s)) (BoxNot pf pb s) :=
  ⟨Try.call63, fun n b w hI hn hb => fld_without1 pf pb s n b w hI hs hn, BoxNot.keeps⟩

set_option maxHeartbeats 1000000 in
set_option maxRecDepth 100000 in
theorem fld_without (A : Option Addr) (l : List Fd) (c : Nat) (s : ByteArray) (w : World) (hr : Row w A (fldsV l)) (hl : Mild l) (hs : s.size ≤ 1000000) :
    Calls Try.prog 28 #[.slice A l.length c, .string s] w fun e w' => ∃ v, e = .returned v ∧ FldsOwn w w' 28 v (l.filter fun f => !foldEq f.1 (toL s)) := by
  have HR := Lib.hid hr; clear hr
  have HM := Lib.hid hl; clear hl
  go_enter Try.func28, Try.ntmps28
  go_wp2_with fail
  (with_reducible refine (fld_named s w).mono ?_)
  rintro e w1 ⟨rfl, hB1, hb1⟩
  have HB1 := Lib.hid hB1; clear hB1
  go_wp2_with fail
  have hA : Below w1.heap.size w1 (w1.alloc (.cells #[.func (.func 86) #[] #[.pointer (some ⟨w.heap.size, 0, none⟩)]] 83)) := (Below.refl _ _).alloc (Nat.le_refl _) _
  have hbn : BoxNot w1.heap.size w.heap.size s (w1.alloc (.cells #[.func (.func 86) #[] #[.pointer (some ⟨w.heap.size, 0, none⟩)]] 83)) := ⟨heap_alloc_new w1 _, HB1.out.keeps _ _ hA⟩
  (with_reducible refine (fld_choose _ _ _ _ (pred_without w1.heap.size w.heap.size s hs) A l c _ ((HR.out.below hb1).below hA) HM.out hbn).mono ?_)
  rintro e w2 ⟨v, rfl, hF⟩
  go_wp2_with fail
  go_ret
  have hAw := hb1.trans (hA.mono hb1.size)
  exact ⟨v, rfl, ⟨own_mono hF.own hAw.size, hAw.trans (hF.bel.mono hAw.size)⟩⟩

end Go.Proofs.Ytaigbplfbfaghaa
