/- The walk over field.Parse. -/
import Derived.Test.YtaigbplfbfaghaaParse4
namespace Go.Proofs.Ytaigbplfbfaghaa
set_option linter.unusedSimpArgs false
set_option linter.unusedVariables false
open Go.RowKit

def parseF (l : List UInt8) : List Fd × Int × Int := parseV validName l

def ParsePost (s : ByteArray) (w : World) (e : Ending) (w' : World) : Prop :=
  ∃ v, e = .returned (.tuple #[v, .int .i64 (parseF (toL s)).2.1, .int .i64 (parseF (toL s)).2.2]) ∧ w'.ownsRow w.heap.size 28 2 v (parseF (toL s)).1.length (fldsV (parseF (toL s)).1) ∧ Below w.heap.size w w'

/-- What holds at the head of each round. -/
def PInv (l : List UInt8) (st : PSt) : Prop := st.to ≤ l.length ∧ (st.e = 0 → st.fields.length ≤ 64 ∧ (lastBody st.fields).length ≤ 8192)

theorem prs_body (p : Nat) (s : ByteArray) (st : PSt) (w : World) (h : PAt w p s st) (hs : s.size ≤ 1000000) (hpre : st.e = 0 → st.at_ ≤ st.to ∧ st.to ≤ s.size ∧ st.fields ≠ [] ∧ st.fields.length ≤ 64 ∧ (lastBody st.fields).length ≤ 900000) :
    Calls Try.prog 57 #[.pointer (some ⟨p, 0, none⟩)] w fun e w' => e = .returned (.tuple #[]) ∧ PLeft w w' p s (pBody (toL s) st) := by
  by_cases he : st.e = 0
  · obtain ⟨h1, h2, h3, h4, h5⟩ := hpre he
    exact prs_body_ok p s st w h he hs h1 h2 h3 h4 h5
  · rw [pBody_bad _ _ he]
    exact prs_body_bad p s st w h he

/-- One round's state after line and name. -/
theorem round_pre (l : List UInt8) (st : PSt) (frm : Nat) (hf : frm ≤ l.length) (hi : PInv l st) :
    ((pLine l st frm).e = 0 → (pLine l st frm).frm ≤ (pLine l st frm).to ∧ (pLine l st frm).to ≤ l.length ∧ (pLine l st frm).fields.length ≤ 64) ∧
    ((pName validName l (pLine l st frm)).e = 0 → (pName validName l (pLine l st frm)).at_ ≤ (pName validName l (pLine l st frm)).to ∧ (pName validName l (pLine l st frm)).to ≤ l.length ∧ (pName validName l (pLine l st frm)).fields ≠ [] ∧ (pName validName l (pLine l st frm)).fields.length ≤ 64 ∧ (lastBody (pName validName l (pLine l st frm)).fields).length ≤ 8192) ∧
    PInv l (pStep validName l st frm) ∧ ((pStep validName l st frm).e = 0 → frm ≤ (pStep validName l st frm).to) := by
  obtain ⟨ht, he⟩ := hi
  have hlt := pLine_to l st frm hf ht
  have hA : (pLine l st frm).e = 0 → (pLine l st frm).frm ≤ (pLine l st frm).to ∧ (pLine l st frm).to ≤ l.length ∧ (pLine l st frm).fields.length ≤ 64 ∧ (pLine l st frm).at_ ≤ (pLine l st frm).to ∧ (lastBody (pLine l st frm).fields).length ≤ 8192 := fun h0 => by
    obtain ⟨h1, h2, h3, h4⟩ := pLine_ok l st frm hf h0
    have := he h1
    rw [h4]
    simp only
    omega
  have hB : (pName validName l (pLine l st frm)).e = 0 → (pName validName l (pLine l st frm)).at_ ≤ (pName validName l (pLine l st frm)).to ∧ (pName validName l (pLine l st frm)).to ≤ l.length ∧ (pName validName l (pLine l st frm)).fields ≠ [] ∧ (pName validName l (pLine l st frm)).fields.length ≤ 64 ∧ (lastBody (pName validName l (pLine l st frm)).fields).length ≤ 8192 := fun h0 => by
    have hl0 : (pLine l st frm).e = 0 := by
      by_cases h : (pLine l st frm).e = 0
      · exact h
      · unfold pName at h0; rw [if_pos h] at h0; exact absurd h0 h
    obtain ⟨a1, a2, a3, a4, a5⟩ := hA hl0
    obtain ⟨b1, b2, b3, b4, b5⟩ := pName_ok validName l (pLine l st frm) a1 a2 a4 a3 a5 h0
    have := pName_to validName l (pLine l st frm)
    exact ⟨by omega, by omega, b3, b4, b5⟩
  refine ⟨fun h => ⟨(hA h).1, (hA h).2.1, (hA h).2.2.1⟩, hB, ?_⟩
  unfold pStep
  by_cases h0 : (pName validName l (pLine l st frm)).e = 0
  · obtain ⟨c1, c2, c3, c4, c5⟩ := hB h0
    obtain ⟨d1, d2, d3, d4⟩ := pBody_keep l _ c1 c2 c3
    refine ⟨⟨by omega, fun e => ⟨by omega, d4 e⟩⟩, fun _ => ?_⟩
    have hl0 : (pLine l st frm).e = 0 := by
      by_cases h : (pLine l st frm).e = 0
      · exact h
      · unfold pName at h0; rw [if_pos h] at h0; exact absurd h0 h
    rw [d1, pName_to, (pLine_ok l st frm hf hl0).2.2.2]
    simp only
    omega
  · rw [pBody_bad _ _ h0]
    exact ⟨⟨by rw [pName_to]; exact hlt.1, fun e => absurd e h0⟩, fun e => absurd e h0⟩

set_option maxHeartbeats 4000000 in
set_option maxRecDepth 100000 in
theorem fld_parse (s : ByteArray) (w : World) (hs : s.size ≤ 1000000) : Calls Try.prog 23 #[.string s] w (ParsePost s w) := by
  have HL := Lib.hid (toL_length s)
  by_cases h6 : 65536 < s.size
  · have h6' : decide ((65536 : Int) < (s.size : Int)) = true := by simp; omega
    have H := Lib.hid (show parseF (toL s) = ([], 65536, 5) by unfold parseF parseV; rw [HL.out, if_pos h6])
    go_enter Try.func23, Try.ntmps23
    go_wp2_with fail
    go_ret3
    refine ⟨.slice none 0 0, ?_, ?_, Below.refl _ _⟩
    · rw [H.out]; rfl
    · rw [H.out]; exact World.ownsRow_nil _ _ _ _
  · have h6' : decide ((65536 : Int) < (s.size : Int)) = false := by simp; omega
    have H := Lib.hid (show parseF (toL s) = _ from (by unfold parseF parseV; rw [if_neg (by rw [HL.out]; exact h6), HL.out]))
    have h0 : PAt (w.alloc (.cells #[.string s, .int .i64 0, .int .i64 0, .int .i64 0, .slice none 0 0, .int .i64 0] 79)) w.heap.size s pInit := ⟨_, heap_alloc_new w _, World.ownsRow_nil _ _ _ _⟩
    go_enter Try.func23, Try.ntmps23
    go_wp2_with fail
    go_loopg [6] (s.size + 1) (fun g v wr => ∃ (frm : Nat) (st : PSt), v = .int .i64 frm ∧ frm ≤ s.size + 1 ∧ pLoop validName (s.size + 1) (toL s) pInit 0 = pLoop validName g (toL s) st frm ∧ PInv (toL s) st ∧ (st.e = 0 → s.size < g + frm) ∧ PAt wr w.heap.size s st ∧ Below w.heap.size w wr)
    case atStart => exact ⟨0, pInit, rfl, by omega, rfl, ⟨by simp [pInit], fun _ => ⟨by simp [pInit], by simp [pInit, lastBody]⟩⟩, fun _ => by omega, h0, (Below.refl _ _).alloc (Nat.le_refl _) _⟩
    case round =>
      obtain ⟨frm, st, rfl, hfr, hlp, hinv, hg, hP, hB⟩ := hrel
      obtain ⟨hc0, hc1, hc2, hc3, hc5⟩ := hP.cells
      have HI := Lib.hid hinv; clear hinv
      have HLP := Lib.hid hlp; clear hlp
      by_cases hlt : frm < s.size
      · by_cases he : st.e = 0
        · have he' : (st.e == 0) = true := by simpa using he
          obtain ⟨m, rfl⟩ : ∃ m, gk = m + 1 := ⟨gk - 1, by have := hg he; omega⟩
          have HLP2 := Lib.hid (HLP.out.trans (if_pos ⟨by rw [HL.out]; exact hlt, he⟩))
          have HR := Lib.hid (round_pre (toL s) st frm (by rw [HL.out]; omega) HI.out)
          have hgg : s.size < m + 1 + frm := hg he
          clear he HLP hg
          go_wp2_with fail
          (with_reducible refine (prs_line _ s st frm wr hP hs (by omega)).mono ?_)
          rintro e w1 ⟨rfl, hl1⟩
          go_wp2_with fail
          (with_reducible refine (prs_name _ s _ w1 hl1.at_ hs (by have := HR.out.1; rw [HL.out] at this; exact this)).mono ?_)
          rintro e w2 ⟨rfl, hl2⟩
          go_wp2_with fail
          (with_reducible refine (prs_body _ s _ w2 hl2.at_ hs ?hpre).mono ?_)
          case hpre =>
            have := HR.out.2.1
            rw [HL.out] at this
            intro h0
            have := this h0
            exact ⟨this.1, this.2.1, this.2.2.1, this.2.2.2.1, by omega⟩
          rintro e w3 ⟨rfl, hl3⟩
          have hB3 := hB.trans (hl1.below.trans (hl2.below.trans hl3.below))
          have hP3 : PAt w3 w.heap.size s (pStep validName (toL s) st frm) := hl3.at_
          have HR2 := Lib.hid HR.out.2.2
          clear hl1 hl2 hl3 hP hB hc0 hc1 hc2 hc3 hc5 HR HI
          generalize pStep validName (toL s) st frm = st2 at *
          have ht2 : st2.to ≤ s.size := by have := HR2.out.1.1; rw [HL.out] at this; exact this
          obtain ⟨hc0, hc1, hc2, hc3, hc5⟩ := hP3.cells
          go_wp2_with fail
          go_roundg m
          case measure => omega
          case rel => exact ⟨st2.to + 1, st2, by go_num, by omega, HLP2.out, HR2.out.1, fun h => by have := HR2.out.2 h; omega, hP3, hB3⟩
        · have he' : (st.e == 0) = false := by simpa using he
          have he2 : (st.e != 0) = true := by simpa using he
          have HST := Lib.hid (show pLoop validName (s.size + 1) (toL s) pInit 0 = st from HLP.out.trans (by cases gk with | zero => rfl | succ n => exact if_neg (fun h => he h.2)))
          have H2 := Lib.hid (show parseF (toL s) = ([], (st.at_ : Int), st.e) by rw [H.out, HST.out, if_pos he])
          clear he HLP hg
          go_wp2_with fail
          go_quiet (fail)
          go_wp2_with fail
          go_ret3
          refine ⟨.slice none 0 0, ?_, ?_, below_drewN hB _⟩
          · rw [H2.out]; rfl
          · rw [H2.out]; exact World.ownsRow_nil _ _ _ _
      · have HST := Lib.hid (show pLoop validName (s.size + 1) (toL s) pInit 0 = st from HLP.out.trans (by cases gk with | zero => rfl | succ n => exact if_neg (fun h => hlt (by have := h.1; rw [HL.out] at this; exact this))))
        by_cases he : st.e = 0
        · have he2 : (st.e != 0) = false := by simpa using he
          have H2 := Lib.hid (show parseF (toL s) = (st.fields, 0, 0) by rw [H.out, HST.out, if_neg (by simp [he])])
          obtain ⟨v, hh, hown⟩ := hP
          have hc4 : wr.cell? ⟨w.heap.size, 4, none⟩ = some v := by rw [Lib.cell_of_heap hh]; rfl
          clear he HLP hg hh
          go_wp2_with fail
          go_ret3
          refine ⟨v, ?_, ?_, hB⟩
          · rw [H2.out]; rfl
          · rw [H2.out]; exact own_mono hown (by omega)
        · have he2 : (st.e != 0) = true := by simpa using he
          have H2 := Lib.hid (show parseF (toL s) = ([], (st.at_ : Int), st.e) by rw [H.out, HST.out, if_pos he])
          clear he HLP hg
          go_wp2_with fail
          go_quiet (fail)
          go_wp2_with fail
          go_ret3
          refine ⟨.slice none 0 0, ?_, ?_, below_drewN hB _⟩
          · rw [H2.out]; rfl
          · rw [H2.out]; exact World.ownsRow_nil _ _ _ _

end Go.Proofs.Ytaigbplfbfaghaa
