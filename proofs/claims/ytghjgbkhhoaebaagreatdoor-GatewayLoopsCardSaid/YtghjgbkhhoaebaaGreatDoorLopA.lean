/- What GatewayLoops leans on: what a gateway says is not heard by itself. -/
import Derived.Test.YtghjgbkhhoaebaaGreatDoorPo50
import Derived.Test.YtghjgbkhhoaebaaGreatDoorPo22
import Derived.Deep.MidRow
import Derived.Deep.Upon
import Derived.Laws.IdiomCopy
namespace Go.Proofs.YtghjgbkhhoaebaaGreatDoor
set_option linter.unusedSimpArgs false
set_option linter.unusedVariables false
open Go.RowKit

theorem nick_own : nickB (toL kN) = true := by decide +kernel
theorem min_ok {last : Int} (h0 : 0 ≤ last) (h1 : last ≤ 105190559) : minB last = true := by unfold minB; simp; omega
theorem said_ok {last : Int} {id : List Int} {made read : List (List Int)} {Nm S B : Bs} (h0 : 0 ≤ last) (h1 : last ≤ 105190559) (hB : B.length < 10 ^ 10) :
    ∀ x ∈ rdL last (toL kN) id made read Nm S B, (x.min : Int) = last ∧ x.nick = toL kN ∧ hearE last (toL kN) x.text last = 0 ∧ x.text.length ≤ 400 := by
  intro x hx
  unfold rdL at hx
  split at hx
  · obtain ⟨t, ht, rfl⟩ := List.mem_map.1 hx
    have ht0 := txt_ok Nm S B hB t ht
    have hl : lineE last (toL kN) t = 0 := by
      unfold lineE
      rw [if_neg (by rw [min_ok h0 h1]; decide), if_neg (by rw [nick_own]; decide)]; exact ht0
    have hm : ((last.toNat : Nat) : Int) = last := by omega
    refine ⟨hm, rfl, ?_, ?_⟩
    · unfold hearE
      rw [if_neg (by rw [hl]; decide), if_neg (by omega)]
    · have := (line_ok (m := last.toNat) (n := toL kN) (t := t) (by rw [hm]; exact hl)).2.2
      exact this
  · cases hx
theorem hear_own {ls : List Ln} {last : Int} {t : Bs} : hearLs ls last (toL kN) t (toL kN) last = ls ∧ hearT last (toL kN) t last = last := by
  constructor
  · unfold hearLs
    split
    · unfold hearL; rw [if_pos (by unfold foldEq; simp)]
    · rfl
  · unfold hearT
    split <;> rfl
theorem poM_mem (p : List Int) (made : List (List Int)) : p ∈ poM p made := by
  unfold poM
  split
  · assumption
  · simp
theorem rdL_made {d : Int} {own : Bs} {id : List Int} {made read : List (List Int)} {Nm S B : Bs} (h : id ∈ made) : rdL d own id made read Nm S B = [] := by
  unfold rdL; rw [if_neg (fun e => e.2 h)]
theorem Row.move {w w' : World} {A : Option Addr} {xs : List Value} (h : Row w A xs) (hk : ∀ b o, A = some ⟨b, o, none⟩ → b < w.heap.size → w'.heap[b]? = w.heap[b]?) (hz : w.heap.size ≤ w'.heap.size) : Row w' A xs := by
  rcases h with h | ⟨b, o, e, hb, hc⟩
  · exact .inl h
  · refine .inr ⟨b, o, e, Nat.lt_of_lt_of_le hb hz, fun j v hv => ?_⟩
    rw [World.cell?_of_block (hk b o e hb)]; exact hc j v hv
theorem setCells_sz (b : Nat) : ∀ (vs : List Value) (o : Nat) (w : World), (w.setCells b o vs).heap.size = w.heap.size
  | [], _, _ => rfl
  | v :: vs, o, w => by
    have h := setCells_sz b vs (o + 1) (w.setCell ⟨b, o, none⟩ v)
    rw [World.size_setCell] at h
    exact h
theorem below_setCells {n b : Nat} {a : World} (hb : n ≤ b) : ∀ (vs : List Value) (o : Nat) (w : World), Below n a w → Below n a (w.setCells b o vs)
  | [], _, _, h => h
  | v :: vs, o, w, h => below_setCells hb vs (o + 1) (w.setCell ⟨b, o, none⟩ v) (h.setCell (p := ⟨b, o, none⟩) hb v)
theorem post_there {W : World} {px : Nat} {f : Nat → Int} {N S B : ByteArray} {d : Int} {T : TypeId} (h : W.heap[px]? = some (.cells (postC f N S B d) T (0, 0))) : W.there px 0 32 := fun j hj => by
  refine ⟨?_, Lib.frozen_of_heap h _⟩
  rw [Lib.cell_of_heap h, Nat.zero_add]
  have : j < (postC f N S B d).size := by show j < 36; omega
  rw [Array.getElem?_eq_getElem this]; rfl
theorem post_newid {W : World} {px : Nat} {f f2 : Nat → Int} {N S B : ByteArray} {d : Int} {T : TypeId} (h : W.heap[px]? = some (.cells (postC f N S B d) T (0, 0))) :
    (Instr.loadAt 25 (.pointer (some ⟨px, 0, none⟩))).run Tryz.prog (W.setCells px 0 (idKL f2)) = .ok (postV f2 N S B d) (W.setCells px 0 (idKL f2)) := by
  refine range_load (cs := (postC f2 N S B d).toList) (fun j v hv => ?_) Tryz.underlying25 rfl size_Post
  have hl : (idKL f2).length = 32 := rfl
  have hj : j < 36 := (List.getElem?_eq_some_iff.1 hv).1
  rw [Nat.zero_add]
  by_cases h32 : j < 32
  · have hin := World.cell?_setCells_in px (idKL f2) 0 W (fun i hi => (post_there h i (by rw [hl] at hi; exact hi)).1) j (by rw [hl]; exact h32)
    rw [Nat.zero_add] at hin
    rw [hin, ← hv]
    have hs : ∀ j < 32, (postC f2 N S B d).toList[j]? = (idKL f2)[j]? := by
      intro j hj
      iterate 32 (rcases j with _ | j; · rfl)
      omega
    rw [hs j h32, List.getElem?_eq_getElem (by rw [hl]; exact h32)]
  · rw [World.cell?_setCells_out px (idKL f2) 0 W ⟨px, j, none⟩ (fun _ _ => .inr (by rw [hl]; show 0 + 32 ≤ j; omega)), Lib.cell_of_heap h, ← hv]
    obtain rfl | rfl | rfl | rfl : j = 32 ∨ j = 33 ∨ j = 34 ∨ j = 35 := by omega
    all_goals rfl
end Go.Proofs.YtghjgbkhhoaebaaGreatDoor
