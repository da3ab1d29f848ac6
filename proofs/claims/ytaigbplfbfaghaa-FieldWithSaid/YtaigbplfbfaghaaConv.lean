/- Walks over the law's own helpers: cut, To, Of, and the reference's Same. -/
import Derived.Test.YtaigbplfbfaghaaLaw
import Derived.Test.YtaigbplfbfaghaaPrint
import Derived.Deep.RegionHeld3
import Derived.Deep.AppendLies
namespace Go.Proofs.Ytaigbplfbfaghaa
set_option linter.unusedSimpArgs false
set_option linter.unusedVariables false
open Go.RowKit

theorem info_F : (Try.prog.info? 25).map (fun i => (i.zero, i.size, i.bytes)) = some (some (.agg #[.string ⟨#[]⟩, .string ⟨#[]⟩]), 2, 32) := by kernel_rfl

def cutF (f : Fd) : Fd := (f.1.take 60, f.2.take 9000)
def cutList (l : List Fd) : List Fd := (l.take 70).map cutF
def Sized (l : List Fd) : Prop := l.length ≤ maxLen ∧ ∀ f ∈ l, f.1.length ≤ maxLen ∧ f.2.length ≤ maxLen

/-- Behind 'append(v, F{..})' of one field. -/
structure FldsOwn (w wr : World) (e : TypeId) (v : Value) (l : List Fd) : Prop where
  own : wr.ownsRow w.heap.size e 2 v l.length (fldsV l)
  bel : Below w.heap.size w wr

theorem fldsV_snoc (l : List Fd) (n b : ByteArray) : fldsV l ++ [.string n, .string b] = fldsV (l ++ [(toL n, toL b)]) := by simp [fldsV, ofL_toL]

theorem FldsOwn.push {w wr w1 : World} {e : TypeId} {v v' : Value} {l : List Fd} {n b : ByteArray} (h : FldsOwn w wr e v l) {o : Obj} (hown : w1.ownsRow w.heap.size e 2 v' (l.length + 1) (fldsV l ++ [.string n, .string b])) (hg : (wr.alloc o).drew.grownBy w1 v.ownBlock) : FldsOwn w w1 e v' (l ++ [(toL n, toL b)]) := by
  refine ⟨by rw [← fldsV_snoc]; simpa using hown, ?_⟩
  have hs := h.bel.size
  exact ((h.bel.alloc hs o).drew).grown hg (by simp; omega) (fun k hk => (h.own.lt k hk).1)

set_option maxHeartbeats 4000000 in
set_option maxRecDepth 100000 in
theorem law_cut (A : Option Addr) (l : List Fd) (c : Nat) (w : World) (hr : Row w A (fldsV l)) (hl : Sized l) :
    Calls Try.prog 14 #[.slice A l.length c] w fun e w' => ∃ v, e = .returned v ∧ FldsOwn w w' 25 v (cutList l) := by
  obtain ⟨hl1, hl2⟩ := hl
  have HL2 := Lib.hid hl2; have HR := Lib.hid hr; clear hl2 hr
  unfold maxLen at hl1
  obtain ⟨i0, hi0, hz0, hz1, hz2⟩ := info_parts info_F
  go_enter Try.func14, Try.ntmps14
  go_wp2_with fail
  go_loopg [3, 4] l.length (fun g v ix wr => ∃ k : Nat, g = l.length - k ∧ k ≤ l.length ∧ k ≤ 70 ∧ ix = .int .i64 k ∧ FldsOwn w wr 25 v ((l.take k).map cutF))
  case atStart => exact ⟨0, by omega, by omega, by omega, rfl, ⟨World.ownsRow_nil _ _ _ _, Below.refl _ _⟩⟩
  case round =>
    obtain ⟨k, rfl, hk, hk7, rfl, hF⟩ := hrel
    by_cases hlt : k < l.length
    · by_cases h7 : k < 70
      · have h7' : decide ((k : Int) < 70) = true := by simp; omega
        have hk1 : (0 : Int) ≤ (k : Int) := by omega
        have hk2 : (k : Int) < (l.length : Int) := by omega
        obtain ⟨bb, off, rfl, hbb, _⟩ := HR.out.at (k := 0) (by rw [fldsV_length]; omega)
        have hm := HL2.out _ (List.getElem_mem hlt)
        obtain ⟨n, hn⟩ : ∃ n, ofL l[k].1 = n := ⟨_, rfl⟩
        obtain ⟨b, hb⟩ : ∃ b, ofL l[k].2 = b := ⟨_, rfl⟩
        have hnL : l[k].1 = toL n := by rw [← hn, toL_ofL]
        have hbL : l[k].2 = toL b := by rw [← hb, toL_ofL]
        obtain ⟨hc1, hc2⟩ := (HR.out.below hF.bel).field' hlt hn hb
        rw [hnL, hbL, toL_length, toL_length] at hm
        have HNB := Lib.hid (show cutF l[k] = (toL (n.extract 0 (min (n.size : Int) 60).toNat), toL (b.extract 0 (min (b.size : Int) 9000).toNat)) by
          unfold cutF; rw [hnL, hbL]; exact Prod.ext (take_min n 60).symm (take_min b 9000).symm)
        clear hn hb hnL hbL
        obtain ⟨hm1, hm2⟩ := hm
        unfold maxLen at hm1 hm2
        have hlen : ((l.take k).map cutF).length = k := by simp; omega
        have hown := hF.own
        have hsz := hF.bel.size
        have lg := World.block_lt_of_cell? wr _ hc1
        have ag : ∀ g, _ = some g → w.heap.size ≤ g := fun g hg => (hF.own.lt g hg).1
        have AG := Lib.hid ag; clear ag
        have m1 : (0 : Int) ≤ min (n.size : Int) 60 := by omega
        have m2 : min (n.size : Int) 60 ≤ (n.size : Int) := by omega
        have m3 : (0 : Int) ≤ min (b.size : Int) 9000 := by omega
        have m4 : min (b.size : Int) 9000 ≤ (b.size : Int) := by omega
        go_wp2_with fail
        go_region_held3 (fun w' => w'.cell? ⟨bb, off + k * 2, none⟩ = some (.string n) ∧ w'.cell? ⟨bb, off + k * 2 + 1, none⟩ = some (.string b))
          (first
            | go_keep
            | (go_split_ands
               refine ⟨?_, ?_⟩
               · (rw [hgrow.cell_far _ (by simp; omega) (fun e => by have := AG.out bb e.symm; omega)]; assumption)
               · (rw [hgrow.cell_far _ (by simp; omega) (fun e => by have := AG.out bb e.symm; omega)]; assumption)))
          ((refine step_append_lies _ (by rfl) _ _ _ (by rfl) w.heap.size 25 i0 _ 2 32 Try.underlying26 hi0 hz0 hz1 hz2 rfl (by omega) _ _ _ (by rfl) ((hown.alloc _).drew)
              ⟨wr.heap.size, 0, none⟩ 1 1 [.string (n.extract 0 (min (n.size : Int) 60).toNat), .string (b.extract 0 (min (b.size : Int) 9000).toNat)] (by rfl) (by rfl) (World.news_of_block (cs := #[.string (n.extract 0 (min (n.size : Int) 60).toNat), .string (b.extract 0 (min (b.size : Int) 9000).toNat)]) (t := 25) (fr := (0, 0)) (heap_alloc_new wr _)) (by simp [Value.oneCell'])
              (by omega) (by rw [hlen]; unfold maxLen; omega) (by rw [hlen]; omega) (by simp; omega) (wr.heap.size + 1) (by simp) ?_; intro gg cap w1 hown1 hgrow hat hlt1))
        all_goals
          have hF1 : FldsOwn w w1 25 (.slice (some ⟨gg, 0, none⟩) (k + 1) cap) ((l.take (k + 1)).map cutF) := by
            have := hF.push hown1 hgrow
            rw [hlen] at this
            rw [List.take_succ_eq_append_getElem hlt, List.map_append, List.map_cons, List.map_nil, HNB.out]
            exact this
          clear hown1 hgrow hat hlt1 hc1 hc2
          go_wp2_with fail
          go_roundg (l.length - (k + 1))
          case measure => omega
          case rel => exact ⟨k + 1, rfl, by omega, by omega, by go_num, hF1⟩
      · have h7' : decide ((k : Int) < 70) = false := by simp; omega
        have HE := Lib.hid (show (l.take k).map cutF = cutList l by rw [cutList, show k = 70 from by omega])
        go_wp2_with fail
        go_ret
        rw [HE.out] at hF
        exact ⟨_, rfl, hF⟩
    · have HE := Lib.hid (show (l.take k).map cutF = cutList l by rw [cutList, List.take_of_length_le (by omega), List.take_of_length_le (by omega)])
      go_wp2_with fail
      go_ret
      rw [HE.out] at hF
      exact ⟨_, rfl, hF⟩

theorem cutList_length (l : List Fd) : (cutList l).length = min 70 l.length := by simp [cutList]
theorem cutList_mild (l : List Fd) : Mild (cutList l) := by
  refine ⟨by rw [cutList_length]; omega, fun f hf => ?_⟩
  simp only [cutList, List.mem_map] at hf
  obtain ⟨g, _, rfl⟩ := hf
  simp only [cutF, List.length_take]
  omega

end Go.Proofs.Ytaigbplfbfaghaa
