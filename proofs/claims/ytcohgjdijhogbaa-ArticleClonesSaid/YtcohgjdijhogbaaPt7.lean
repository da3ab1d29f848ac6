/- Lemmas and walks, part 7. -/
import Derived.Test.YtcohgjdijhogbaaPt4
import Derived.Test.YtcohgjdijhogbaaPt6
import Derived.Test.YtcohgjdijhogbaaPt1
import Derived.Deep.RegionHeld3
import Derived.Deep.RegionLaw
import Derived.Deep.AppendLies
import Derived.Lib.Builder
namespace Go.Proofs.Ytcohgjdijhogbaa
set_option linter.unusedSimpArgs false
set_option linter.unusedVariables false
open Go.RowKit

set_option maxHeartbeats 1000000 in
set_option maxRecDepth 100000 in
theorem asc_collect (bw bs base : Nat) (v : Value) (ws : List (List UInt8)) (s : ByteArray) (i k : Nat) (w : World)
    (h1 : w.heap[bw]? = some (.cells #[v] 30 (0, 0))) (h2 : w.heap[bs]? = some (.cells #[.string s] 9 (0, 0)))
    (hown : w.ownsRow base 9 1 v ws.length (strsL ws)) (hbw : bw < base) (hbs : bs < base) (hbase : base ≤ w.heap.size)
    (hik : i < k) (hk : k ≤ s.size) (hs : s.size ≤ maxLen) (hn : ws.length + 1 ≤ 1000000000) :
    Calls Try.prog 97 #[.int .i64 i, .int .i64 k, .pointer (some ⟨bw, 0, none⟩), .pointer (some ⟨bs, 0, none⟩)] w fun e w' => ∃ v', e = .returned (.tuple #[]) ∧
      w'.heap[bw]? = some (.cells #[v'] 30 (0, 0)) ∧ w'.heap[bs]? = some (.cells #[.string s] 9 (0, 0)) ∧
      w'.ownsRow base 9 1 v' (ws.length + 1) (strsL (ws ++ [cutL (toL s) i k])) ∧ (∀ N, N ≤ bw → N ≤ base → Below N w w') := by
  unfold maxLen at hs
  obtain ⟨i0, hi0, hz0, hz1, hz2⟩ := info_parts info_string
  have c1 : w.cell? ⟨bw, 0, none⟩ = some v := by rw [Lib.cell_of_heap h1]; rfl
  have c2 : w.cell? ⟨bs, 0, none⟩ = some (.string s) := by rw [Lib.cell_of_heap h2]; rfl
  have lw := World.block_lt_of_cell? w _ c1
  have ls := World.block_lt_of_cell? w _ c2
  have aw : v.ownBlock ≠ some bw := fun e => by have := (hown.lt _ e).1; omega
  have as_ : v.ownBlock ≠ some bs := fun e => by have := (hown.lt _ e).1; omega
  have hne : bw ≠ bs := fun e => by rw [e, h2] at h1; simp at h1
  have H1 := Lib.hid h1; have H2 := Lib.hid h2; clear h1 h2
  have lk : (i : Int) < (k : Int) := by omega
  have lks : (k : Int) ≤ (s.size : Int) := by omega
  have lik : i ≤ k := by omega
  go_enter Try.func97, Try.ntmps97
  go_wp2_with fail
  go_region_law
    ((refine step_append_lies _ (by rfl) _ _ _ (by rfl) base 9 i0 _ 1 16 Try.underlying30 hi0 hz0 hz1 hz2 rfl (by omega) v _ (strsL ws) (by rfl) ((hown.alloc _).drew)
        ⟨w.heap.size, 0, none⟩ 1 1 [.string (s.extract i k)] (by rfl) (by rfl) (World.news_of_block (cs := #[.string (s.extract i k)]) (t := 9) (fr := (0, 0)) (heap_alloc_new w _)) (by simp [Value.oneCell'])
        (by omega) (by unfold maxLen; omega) (by omega) (by simp; omega) (w.heap.size + 1) (by simp) ?_; intro gg cap w1 hown1 hgrow hat hlt
      have HB := Lib.hid ((hgrow.block bw (by simp; omega) (Ne.symm aw)).trans ((Lib.alloc_old w _ bw lw).trans H1.out))
      have hcz : w1.cell? ⟨bw, 0, none⟩ = some v := by rw [Lib.cell_of_heap HB.out]; rfl
      have hfz : w1.frozen? ⟨bw, 0, none⟩ = false := Lib.frozen_of_heap HB.out 0))
  all_goals
    go_end0
    obtain ⟨q1, q2, q3, q4⟩ := box_append H1.out H2.out hne (fun g hg => (hown.lt g hg).1) hown1 hgrow hbw hbs hbase
    exact ⟨_, rfl, q1, q2, by simpa [strsL, extract_ofL] using q3, q4⟩



set_option maxHeartbeats 400000 in
theorem asc_notBlank (c : Int) (w : World) :
    Calls Try.prog 99 #[.int .u8 c] w fun e w' => e = .returned (.bool (!isBlank c)) ∧ w = w' := by
  go_enter Try.func99, Try.ntmps99
  go_wp2_with (go_at_call 89; refine (asc_isBlank _ _).mono ?_; rintro e w' ⟨rfl, rfl⟩)
  go_ret
  exact ⟨rfl, rfl⟩
theorem class_blank : ClassIs 89 isBlank := ⟨Try.call89, asc_isBlank⟩
theorem class_notBlank : ClassIs 99 (fun c => !isBlank c) := ⟨Try.call99, asc_notBlank⟩

set_option maxHeartbeats 400000 in
theorem asc_collect_none (i k : Nat) (p q : Value) (w : World) (hik : k ≤ i) :
    Calls Try.prog 97 #[.int .i64 i, .int .i64 k, p, q] w fun e w' => e = .returned (.tuple #[]) ∧ w = w' := by
  have h : decide ((i : Int) < (k : Int)) = false := by simp; omega
  go_enter Try.func97, Try.ntmps97
  go_wp2_with fail
  go_end0
  exact ⟨rfl, rfl⟩

/-- What holds at the head of each round of Words: what has been collected. -/
structure WordsAt (N k : Nat) (s : ByteArray) (w wr : World) : Prop where
  ex : ∃ (v : Value) (ws : List (List UInt8)), wr.heap[N]? = some (.cells #[.string s] 9 (0, 0)) ∧ wr.heap[N + 1]? = some (.cells #[v] 30 (0, 0)) ∧
    wr.ownsRow (N + 2) 9 1 v ws.length (strsL ws) ∧ words (toL s) = ws ++ words ((toL s).drop k) ∧ ws.length ≤ k ∧ N + 2 ≤ wr.heap.size ∧ Below N w wr

def WordsPost (s : ByteArray) (w : World) (e : Ending) (w' : World) : Prop :=
  ∃ v, e = .returned v ∧ w'.ownsRow w.heap.size 9 1 v (words (toL s)).length (strsL (words (toL s))) ∧ Below w.heap.size w w'

set_option maxHeartbeats 1000000 in
set_option maxRecDepth 100000 in
theorem asc_words (s : ByteArray) (w : World) (hs : s.size ≤ 1100000) :
    Calls Try.prog 75 #[.string s] w (WordsPost s w) := by
  go_enter Try.func75, Try.ntmps75
  go_wp2_with fail
  go_loopw [5, 6] (fun v _ wr => ∃ k : Nat, k ≤ s.size ∧ v = .int .i64 k ∧ WordsAt w.heap.size k s w wr) (fun v _ _ => s.size - (intOf v).toNat)
  case atStart =>
    refine ⟨0, by omega, rfl, ⟨.slice none 0 0, [], ?_, ?_, World.ownsRow_nil _ _ _ _, by simp, by simp, by simp, ?_⟩⟩
    · exact (Lib.alloc_old _ _ _ (by simp)).trans (heap_alloc_new w _)
    · have := heap_alloc_new (w.alloc (.cells #[.string s] 9 (0, 0))) (.cells #[.slice none 0 0] 30 (0, 0))
      simpa using this
    · exact ((Below.refl _ _).alloc (Nat.le_refl _) _).alloc (by simp) _
  case round =>
    obtain ⟨k, hk, rfl, ⟨v, ws, h1, h2, hown, hsp, hle, hsz, hbel⟩⟩ := hrel
    have c1 : wr.cell? ⟨w.heap.size, 0, none⟩ = some (.string s) := by rw [Lib.cell_of_heap h1]; rfl
    have c2 : wr.cell? ⟨w.heap.size + 1, 0, none⟩ = some v := by rw [Lib.cell_of_heap h2]; rfl
    have H1 := Lib.hid h1; have H2 := Lib.hid h2; have HSP := Lib.hid hsp
    clear h1 h2 hsp
    by_cases hlt : k < s.size
    · go_wp2_with fail
      refine (asc_skip 89 isBlank class_blank s k wr (by unfold maxLen; omega) hk).mono ?_
      rintro e w' ⟨rfl, rfl⟩
      have hf1 := skipFrom_ge isBlank (toL s) k
      have hf2 := skipFrom_le isBlank (toL s) k (by rw [toL_length]; exact hk)
      rw [toL_length] at hf2
      generalize hf : skipFrom isBlank (toL s) k = f at hf1 hf2 ⊢
      have HF := Lib.hid hf; clear hf
      go_wp2_with fail
      refine (asc_skip 99 (fun c => !isBlank c) class_notBlank s f wr (by unfold maxLen; omega) hf2).mono ?_
      rintro e w' ⟨rfl, rfl⟩
      have ht1 := skipFrom_ge (fun c => !isBlank c) (toL s) f
      have ht2 := skipFrom_le (fun c => !isBlank c) (toL s) f (by rw [toL_length]; exact hf2)
      rw [toL_length] at ht2
      generalize ht : skipFrom (fun c => !isBlank c) (toL s) f = t at ht1 ht2 ⊢
      have HT := Lib.hid ht; clear ht
      have HR := Lib.hid (words_round (toL s) k f t HF.out.symm HT.out.symm)
      have HKT : k < t := by
        have := words_progress (toL s) k f t HF.out.symm HT.out.symm (by rw [toL_length]; exact hlt)
        exact this
      by_cases hft : f < t
      · go_wp2_with fail
        refine (asc_collect (w.heap.size + 1) w.heap.size (w.heap.size + 2) v ws s f t wr H2.out H1.out hown (by omega) (by omega) hsz hft ht2 (by unfold maxLen; omega) (by omega)).mono ?_
        rintro e w' ⟨v', rfl, q1, q2, q3, q4⟩
        have Q1 := Lib.hid q1; have Q2 := Lib.hid q2; clear q1 q2
        go_wp2_with fail
        go_roundw
        case rel =>
          refine ⟨t, ht2, rfl, ⟨v', ws ++ [cutL (toL s) f t], Q2.out, Q1.out, ?_, ?_, by simp; omega, ?_, hbel.trans (q4 _ (by omega) (by omega))⟩⟩
          · simpa using q3
          · rw [HSP.out, HR.out, if_pos hft]; simp
          · have := (q4 w.heap.size (by omega) (by omega)).size; omega
        case measure => simp [intOf] <;> omega
      · go_wp2_with fail
        refine (asc_collect_none f t _ _ wr (by omega)).mono ?_
        rintro e w' ⟨rfl, rfl⟩
        go_wp2_with fail
        go_roundw
        case rel =>
          refine ⟨t, ht2, rfl, ⟨v, ws, H1.out, H2.out, hown, ?_, by omega, hsz, hbel⟩⟩
          rw [HSP.out, HR.out, if_neg hft]; simp
        case measure => simp [intOf] <;> omega
    · go_wp2_with fail
      go_ret
      have hw : words (toL s) = ws := by
        rw [HSP.out, List.drop_eq_nil_of_le (by rw [toL_length]; omega), words_nil, List.append_nil]
      refine ⟨v, rfl, ?_, hbel⟩
      rw [hw]
      exact own_mono hown (by omega)


/-- Where the reference's Words stands: from, and what it has read of the current word. -/
def FromAt (l : List UInt8) (k : Nat) (cur : List UInt8) (v : Value) : Prop :=
  (v = .int .i64 (-1) ∧ cur = []) ∨ ∃ f : Nat, v = .int .i64 f ∧ f < k ∧ k ≤ l.length ∧ cur = cutL l f k

structure RWordsAt (k : Nat) (s : ByteArray) (w wr : World) (v u : Value) : Prop where
  ex : ∃ (ws : List (List UInt8)) (cur : List UInt8), wr.ownsRow w.heap.size 9 1 v ws.length (strsL ws) ∧ FromAt (toL s) k cur u ∧
    words (toL s) = ws ++ wordsAux ((toL s).drop k) cur ∧ ws.length ≤ k ∧ Below w.heap.size w wr

theorem wordsAux_blank (l : List UInt8) (k : Nat) (cur : List UInt8) (h : l.length ≤ k ∨ ∃ hk : k < l.length, isBlank (num l[k]) = true) :
    wordsAux (l.drop k) cur = (if cur = [] then [] else [cur]) ++ wordsAux (l.drop (k + 1)) [] := by
  rcases h with h | ⟨hk, hb⟩
  · rw [List.drop_eq_nil_of_le h, List.drop_eq_nil_of_le (by omega)]; simp [wordsAux]
  · rw [drop_cons l k hk, wordsAux, if_pos hb]; split <;> simp
theorem wordsAux_char (l : List UInt8) (k : Nat) (cur : List UInt8) (hk : k < l.length) (hb : isBlank (num l[k]) = false) :
    wordsAux (l.drop k) cur = wordsAux (l.drop (k + 1)) (cur ++ [l[k]]) := by
  rw [drop_cons l k hk, wordsAux, if_neg (by simp [hb])]

end Go.Proofs.Ytcohgjdijhogbaa
