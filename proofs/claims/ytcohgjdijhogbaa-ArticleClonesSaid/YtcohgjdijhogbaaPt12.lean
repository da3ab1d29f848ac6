/- Lemmas and walks, part 12. -/
import Derived.Test.YtcohgjdijhogbaaPt1
namespace Go.Proofs.Ytcohgjdijhogbaa
set_option linter.unusedSimpArgs false
set_option linter.unusedVariables false

def leadN (c : UInt8) : Nat := if c.toNat < 128 then 1 else if 192 ≤ c.toNat ∧ c.toNat < 224 then 2 else if 224 ≤ c.toNat ∧ c.toNat < 240 then 3 else if 240 ≤ c.toNat ∧ c.toNat < 248 then 4 else 0
def leadV (c : UInt8) : Nat := if c.toNat < 128 then c.toNat else if 192 ≤ c.toNat ∧ c.toNat < 224 then c.toNat - 192 else if 224 ≤ c.toNat ∧ c.toNat < 240 then c.toNat - 224 else if 240 ≤ c.toNat ∧ c.toNat < 248 then c.toNat - 240 else 0
def leastU (n : Nat) : Nat := if n = 2 then 128 else if n = 3 then 2048 else if n = 4 then 65536 else 0
def mostU (n : Nat) : Nat := if n = 1 then 127 else if n = 2 then 2047 else if n = 3 then 65535 else if n = 4 then 1114111 else 0
/-- The value of the bytes behind the first; none: a byte that does not continue. -/
def contR (v : Nat) : List UInt8 → Option Nat
  | [] => some v
  | c :: r => if c.toNat < 128 ∨ 191 < c.toNat then none else contR (64 * v + (c.toNat - 128)) r
def lowR : Nat → Nat → Nat
  | 0, v => v
  | k + 1, v => lowR k (64 * v)
def highR : Nat → Nat → Nat
  | 0, v => v
  | k + 1, v => highR k (64 * v + 63)
def okR (n m v : Nat) : Bool :=
  !((decide (55296 ≤ max (lowR (n - m) v) (leastU n)) && decide (min (highR (n - m) v) (mostU n) ≤ 57343)) || decide (min (highR (n - m) v) (mostU n) < max (lowR (n - m) v) (leastU n)))
def begR : List UInt8 → Option (Nat × Nat)
  | [] => none
  | f :: r => if leadN f = 0 ∨ leadN f < r.length + 1 then none else match contR (leadV f) r with
    | none => none
    | some v => if okR (leadN f) (r.length + 1) v then some (leadN f, v) else none
def firstR (l : List UInt8) : Nat × Nat × Int := match begR (l.take 1) with
  | none => (0, 0, 6)
  | some x => if x.1 ≤ l.length then match begR (l.take x.1) with
      | some y => (y.2, x.1, 0)
      | none => (0, 0, 3)
    else match begR l with
      | some _ => (0, 0, 23)
      | none => (0, 0, 3)
/-- The four classes of a first byte. -/
theorem first_cases (a : UInt8) : (lenU a = 0 ∧ (128 ≤ a.toNat ∧ a.toNat < 194 ∨ 245 ≤ a.toNat)) ∨ (lenU a = 1 ∧ a.toNat < 128) ∨ (lenU a = 2 ∧ 194 ≤ a.toNat ∧ a.toNat < 224) ∨ (lenU a = 3 ∧ 224 ≤ a.toNat ∧ a.toNat < 240) ∨ (lenU a = 4 ∧ 240 ≤ a.toNat ∧ a.toNat < 245) := by
  unfold lenU
  have := a.toNat_lt
  split
  · omega
  · split
    · omega
    · split
      · omega
      · split <;> omega
theorem beg1_no {a : UInt8} (h : 128 ≤ a.toNat ∧ a.toNat < 194 ∨ 245 ≤ a.toNat) : begR [a] = none := by
  have ha := a.toNat_lt
  rw [begR]
  by_cases h0 : leadN a = 0 ∨ leadN a < ([] : List UInt8).length + 1
  · rw [if_pos h0]
  · rw [if_neg h0]
    simp only [contR]
    have h1 : okR (leadN a) (([] : List UInt8).length + 1) (leadV a) = false := by
      have e : (192 ≤ a.toNat ∧ a.toNat < 194) ∨ (245 ≤ a.toNat ∧ a.toNat < 248) := by
        unfold leadN at h0
        simp only [List.length_nil] at h0
        split at h0 <;> (try split at h0) <;> (try split at h0) <;> (try split at h0) <;> omega
      rcases e with e | e
      · have hn : leadN a = 2 := by unfold leadN; rw [if_neg (by omega), if_pos (by omega)]
        have hv : leadV a = a.toNat - 192 := by unfold leadV; rw [if_neg (by omega), if_pos (by omega)]
        rw [hn, hv]; simp [okR, lowR, highR, leastU, mostU]; omega
      · have hn : leadN a = 4 := by unfold leadN; rw [if_neg (by omega), if_neg (by omega), if_neg (by omega), if_pos (by omega)]
        have hv : leadV a = a.toNat - 240 := by unfold leadV; rw [if_neg (by omega), if_neg (by omega), if_neg (by omega), if_pos (by omega)]
        rw [hn, hv]; simp [okR, lowR, highR, leastU, mostU]; omega
    exact if_neg (by rw [h1]; decide)
theorem lead_is {a : UInt8} (h : lenU a ≠ 0) : leadN a = lenU a ∧ leadV a = leadU a := by
  have ha := a.toNat_lt
  rcases first_cases a with ⟨e, _⟩ | ⟨e, h1⟩ | ⟨e, h1, h2⟩ | ⟨e, h1, h2⟩ | ⟨e, h1, h2⟩
  · exact absurd e h
  · rw [e]; unfold leadN leadV leadU
    exact ⟨by rw [if_pos h1], by rw [if_pos h1, if_pos h1]⟩
  · rw [e]; unfold leadN leadV leadU
    exact ⟨by rw [if_neg (by omega), if_pos (by omega)], by rw [if_neg (by omega), if_pos (by omega), if_neg (by omega), if_pos (by omega)]⟩
  · rw [e]; unfold leadN leadV leadU
    exact ⟨by rw [if_neg (by omega), if_neg (by omega), if_pos (by omega)], by rw [if_neg (by omega), if_neg (by omega), if_pos (by omega), if_neg (by omega), if_neg (by omega), if_pos (by omega)]⟩
  · rw [e]; unfold leadN leadV leadU
    exact ⟨by rw [if_neg (by omega), if_neg (by omega), if_neg (by omega), if_pos (by omega)], by rw [if_neg (by omega), if_neg (by omega), if_neg (by omega), if_pos (by omega), if_neg (by omega), if_neg (by omega), if_neg (by omega)]⟩
theorem leadU_of {a : UInt8} : (a.toNat < 128 → leadU a = a.toNat) ∧ (128 ≤ a.toNat → a.toNat < 224 → leadU a = a.toNat - 192) ∧ (224 ≤ a.toNat → a.toNat < 240 → leadU a = a.toNat - 224) ∧ (240 ≤ a.toNat → leadU a = a.toNat - 240) := by
  unfold leadU
  exact ⟨fun h => by rw [if_pos h], fun h g => by rw [if_neg (by omega), if_pos g], fun h g => by rw [if_neg (by omega), if_neg (by omega), if_pos g], fun h => by rw [if_neg (by omega), if_neg (by omega), if_neg (by omega)]⟩
theorem cont_rest {f c : UInt8} {i : Nat} (hi : i ≠ 1) : contU f i c = decide (128 ≤ c.toNat ∧ c.toNat ≤ 191) := by
  unfold contU lowU highU; rw [if_neg hi, if_neg hi, Bool.eq_iff_iff]; simp
theorem begR_eq {f : UInt8} {r : List UInt8} (h : lenU f ≠ 0) : begR (f :: r) = if lenU f < r.length + 1 then none else match contR (leadU f) r with
    | none => none
    | some v => if okR (lenU f) (r.length + 1) v then some (lenU f, v) else none := by
  obtain ⟨h1, h2⟩ := lead_is h
  rw [begR, h1, h2]
  by_cases g : lenU f < r.length + 1
  · rw [if_pos (.inr g), if_pos g]
  · rw [if_neg (by omega), if_neg g]
theorem beg1 {a : UInt8} (h : lenU a ≠ 0) : begR [a] = some (lenU a, leadU a) := by
  rw [begR_eq h, if_neg (by simp; omega)]
  simp only [contR, List.length_nil]
  have hk : okR (lenU a) (0 + 1) (leadU a) = true := by
    obtain ⟨u1, u2, u3, u4⟩ := leadU_of (a := a)
    rcases first_cases a with ⟨e, _⟩ | ⟨e, h1⟩ | ⟨e, h1, h2⟩ | ⟨e, h1, h2⟩ | ⟨e, h1, h2⟩
    · exact absurd e h
    · rw [e, u1 h1]; simp [okR, lowR, highR, leastU, mostU]; omega
    · rw [e, u2 (by omega) h2]; simp [okR, lowR, highR, leastU, mostU]; omega
    · rw [e, u3 h1 h2]; simp [okR, lowR, highR, leastU, mostU]; omega
    · rw [e, u4 h1]; simp [okR, lowR, highR, leastU, mostU]; omega
  exact if_pos hk
theorem ea {a : UInt8} {n : Nat} (hn : n < 256) : (a = UInt8.ofNat n) ↔ a.toNat = n := by
  rw [← UInt8.toNat_inj, UInt8.toNat_ofNat', Nat.mod_eq_of_lt hn]
theorem cont1_iff (a b : UInt8) : contU a 1 b = true ↔ (128 ≤ b.toNat ∧ b.toNat ≤ 191 ∧ (a.toNat = 224 → 160 ≤ b.toNat) ∧ (a.toNat = 237 → b.toNat ≤ 159) ∧ (a.toNat = 240 → 144 ≤ b.toNat) ∧ (a.toNat = 244 → b.toNat ≤ 143)) := by
  have e224 : (a = 224) ↔ a.toNat = 224 := ea (n := 224) (by omega)
  have e237 : (a = 237) ↔ a.toNat = 237 := ea (n := 237) (by omega)
  have e240 : (a = 240) ↔ a.toNat = 240 := ea (n := 240) (by omega)
  have e244 : (a = 244) ↔ a.toNat = 244 := ea (n := 244) (by omega)
  unfold contU lowU highU
  simp only [if_true, e224, e237, e240, e244, Bool.and_eq_true, decide_eq_true_eq]
  by_cases h1 : a.toNat = 224
  · simp [h1]; omega
  by_cases h2 : a.toNat = 237
  · simp [h2]; omega
  by_cases h3 : a.toNat = 240
  · simp [h3]; omega
  by_cases h4 : a.toNat = 244
  · simp [h4]; omega
  simp [h1, h2, h3, h4]
theorem cont1_range {a b : UInt8} (h : contU a 1 b = true) : 128 ≤ b.toNat ∧ b.toNat ≤ 191 ∧ (a.toNat = 224 → 160 ≤ b.toNat) ∧ (a.toNat = 237 → b.toNat ≤ 159) ∧ (a.toNat = 240 → 144 ≤ b.toNat) ∧ (a.toNat = 244 → b.toNat ≤ 143) := (cont1_iff a b).1 h
theorem beg2 {a b : UInt8} (h : 2 ≤ lenU a) : begR [a, b] = if contU a 1 b then some (lenU a, 64 * leadU a + (b.toNat - 128)) else none := by
  have hb := b.toNat_lt
  rw [begR_eq (by omega), if_neg (by simp; omega)]
  simp only [contR, List.length_cons, List.length_nil]
  obtain ⟨u1, u2, u3, u4⟩ := leadU_of (a := a)
  by_cases hc : b.toNat < 128 ∨ 191 < b.toNat
  · rw [if_pos hc, if_neg (by rw [cont1_iff]; omega)]
  · rw [if_neg hc]
    have hk : okR (lenU a) (0 + 1 + 1) (64 * leadU a + (b.toNat - 128)) = contU a 1 b := by
      rw [Bool.eq_iff_iff, cont1_iff]
      rcases first_cases a with ⟨e, _⟩ | ⟨e, h1⟩ | ⟨e, h1, h2⟩ | ⟨e, h1, h2⟩ | ⟨e, h1, h2⟩
      · omega
      · omega
      · rw [e, u2 (by omega) h2]; simp [okR, lowR, highR, leastU, mostU]; omega
      · rw [e, u3 h1 h2]; simp [okR, lowR, highR, leastU, mostU]; omega
      · rw [e, u4 h1]; simp [okR, lowR, highR, leastU, mostU]; omega
    simp only [hk]
theorem beg3 {a b c : UInt8} (h : 3 ≤ lenU a) (hb : contU a 1 b = true) : begR [a, b, c] = if contU a 2 c then some (lenU a, 64 * (64 * leadU a + (b.toNat - 128)) + (c.toNat - 128)) else none := by
  rw [begR_eq (by omega), if_neg (by simp; omega)]
  obtain ⟨b1, b2, b3, b4, b5, b6⟩ := cont1_range hb
  simp only [contR, List.length_cons, List.length_nil]
  rw [if_neg (by omega), cont_rest (by omega)]
  obtain ⟨u1, u2, u3, u4⟩ := leadU_of (a := a)
  by_cases hc : c.toNat < 128 ∨ 191 < c.toNat
  · rw [if_pos hc, if_neg (by simp; omega)]
  · rw [if_neg hc, if_pos (by simp; omega)]
    have hk : okR (lenU a) (0 + 1 + 1 + 1) (64 * (64 * leadU a + (b.toNat - 128)) + (c.toNat - 128)) = true := by
      rcases first_cases a with ⟨e, _⟩ | ⟨e, h1⟩ | ⟨e, h1, h2⟩ | ⟨e, h1, h2⟩ | ⟨e, h1, h2⟩
      · omega
      · omega
      · omega
      · rw [e, u3 h1 h2]; simp [okR, lowR, highR, leastU, mostU]; omega
      · rw [e, u4 h1]; simp [okR, lowR, highR, leastU, mostU]; omega
    exact if_pos hk
theorem beg4 {a b c d : UInt8} (h : lenU a = 4) (hb : contU a 1 b = true) (hc : contU a 2 c = true) : begR [a, b, c, d] = if contU a 3 d then some (4, 64 * (64 * (64 * leadU a + (b.toNat - 128)) + (c.toNat - 128)) + (d.toNat - 128)) else none := by
  rw [begR_eq (by omega), if_neg (by simp; omega)]
  obtain ⟨b1, b2, b3, b4, b5, b6⟩ := cont1_range hb
  rw [cont_rest (by omega)] at hc
  simp only [decide_eq_true_eq] at hc
  simp only [contR, List.length_cons, List.length_nil]
  rw [if_neg (by omega), if_neg (by omega), cont_rest (by omega)]
  obtain ⟨u1, u2, u3, u4⟩ := leadU_of (a := a)
  by_cases hd : d.toNat < 128 ∨ 191 < d.toNat
  · rw [if_pos hd, if_neg (by simp; omega)]
  · rw [if_neg hd, if_pos (by simp; omega)]
    have hk : okR (lenU a) (0 + 1 + 1 + 1 + 1) (64 * (64 * (64 * leadU a + (b.toNat - 128)) + (c.toNat - 128)) + (d.toNat - 128)) = true := by
      rcases first_cases a with ⟨e, _⟩ | ⟨e, h1⟩ | ⟨e, h1, h2⟩ | ⟨e, h1, h2⟩ | ⟨e, h1, h2⟩
      · omega
      · omega
      · omega
      · omega
      · rw [e, u4 h1]; simp [okR, lowR, highR, leastU, mostU]; omega
    rw [h] at hk ⊢
    exact if_pos hk
theorem run_stop (f : UInt8) (size i : Nat) (l : List UInt8) (h : size ≤ i) : runU f size i l = 0 := by
  cases l with
  | nil => rfl
  | cons c r => rw [runU, if_neg (by omega)]
theorem first_0 {a : UInt8} {r : List UInt8} (h : lenU a = 0) : firstR (a :: r) = decU (a :: r) := by
  have h1 : begR [a] = none := beg1_no (by
    rcases first_cases a with ⟨_, e⟩ | ⟨e, _⟩ | ⟨e, _⟩ | ⟨e, _⟩ | ⟨e, _⟩ <;> omega)
  simp [firstR, h1, decU, measU, h]
theorem first_1 {a : UInt8} {r : List UInt8} (h : lenU a = 1) : firstR (a :: r) = decU (a :: r) := by
  have h1 : begR [a] = some (1, leadU a) := by rw [beg1 (by omega), h]
  have h2 : measU (a :: r) = 1 := by rw [measU, if_neg (by omega), h, run_stop _ _ _ _ (Nat.le_refl _)]
  simp [firstR, h1, decU, h2, h, valU, foldU]
theorem first_2 {a : UInt8} {r : List UInt8} (h : lenU a = 2) : firstR (a :: r) = decU (a :: r) := by
  have h1 : begR [a] = some (2, leadU a) := by rw [beg1 (by omega), h]
  cases r with
  | nil => simp [firstR, h1, decU, measU, runU, h]
  | cons b s =>
    have h2 := beg2 (a := a) (b := b) (by omega)
    rw [h] at h2
    rcases hb : contU a 1 b with _ | _
    · rw [hb, if_neg (by simp)] at h2
      have h3 : measU (a :: b :: s) = 1 := by rw [measU, if_neg (by omega), h, runU, if_neg (by simp [hb])]
      simp [firstR, h1, h2, decU, h3, h]
    · rw [hb, if_pos rfl] at h2
      have h3 : measU (a :: b :: s) = 2 := by rw [measU, if_neg (by omega), h, runU, if_pos (by simp [hb]), run_stop _ _ _ _ (by omega)]
      simp [firstR, h1, h2, decU, h3, h, valU, foldU]
theorem first_3 {a : UInt8} {r : List UInt8} (h : lenU a = 3) : firstR (a :: r) = decU (a :: r) := by
  have h1 : begR [a] = some (3, leadU a) := by rw [beg1 (by omega), h]
  cases r with
  | nil => simp [firstR, h1, decU, measU, runU, h]
  | cons b s =>
    have h2 := beg2 (a := a) (b := b) (by omega)
    rw [h] at h2
    rcases hb : contU a 1 b with _ | _
    · rw [hb, if_neg (by simp)] at h2
      have h3 : measU (a :: b :: s) = 1 := by rw [measU, if_neg (by omega), h, runU, if_neg (by simp [hb])]
      cases s with
      | nil => simp [firstR, h1, h2, decU, h3, h]
      | cons c u =>
        have h4 : begR [a, b, c] = none := by
          rw [begR_eq (by omega), if_neg (by simp; omega)]
          have hc : contR (leadU a) [b, c] = none ∨ ∃ v, contR (leadU a) [b, c] = some v ∧ okR (lenU a) 3 v = false := by
            have hb' := hb
            rw [Bool.eq_false_iff, ne_eq, cont1_iff] at hb'
            obtain ⟨_, _, u3, _⟩ := leadU_of (a := a)
            have ha : 224 ≤ a.toNat ∧ a.toNat < 240 := by
              rcases first_cases a with ⟨e, _⟩ | ⟨e, _⟩ | ⟨e, _⟩ | ⟨e, g⟩ | ⟨e, _⟩ <;> omega
            simp only [contR]
            by_cases g1 : b.toNat < 128 ∨ 191 < b.toNat
            · left; rw [if_pos g1]
            · rw [if_neg g1]
              by_cases g2 : c.toNat < 128 ∨ 191 < c.toNat
              · left; rw [if_pos g2]
              · rw [if_neg g2]
                right
                refine ⟨_, rfl, ?_⟩
                rw [h, u3 ha.1 ha.2]; simp [okR, lowR, highR, leastU, mostU]; omega
          rcases hc with hc | ⟨v, hc, hk⟩
          · rw [hc]
          · rw [hc]; exact if_neg (by rw [show ([b, c] : List UInt8).length + 1 = 3 from rfl, hk]; decide)
        simp [firstR, h1, h4, decU, h3, h]
    · rw [hb, if_pos rfl] at h2
      cases s with
      | nil =>
        have h3 : measU [a, b] = 2 := by rw [measU, if_neg (by omega), h, runU, if_pos (by simp [hb])]; rfl
        simp [firstR, h1, h2, decU, h3, h]
      | cons c u =>
        have h4 := beg3 (a := a) (b := b) (c := c) (by omega) hb
        rw [h] at h4
        rcases hc : contU a 2 c with _ | _
        · rw [hc, if_neg (by simp)] at h4
          have h3 : measU (a :: b :: c :: u) = 2 := by rw [measU, if_neg (by omega), h, runU, if_pos (by simp [hb]), runU, if_neg (by simp [hc])]
          simp [firstR, h1, h4, decU, h3, h]
        · rw [hc, if_pos rfl] at h4
          have h3 : measU (a :: b :: c :: u) = 3 := by rw [measU, if_neg (by omega), h, runU, if_pos (by simp [hb]), runU, if_pos (by simp [hc]), run_stop _ _ _ _ (by omega)]
          simp [firstR, h1, h4, decU, h3, h, valU, foldU]
theorem no4 {a b c d : UInt8} (h : lenU a = 4) (hn : ¬ (contU a 1 b = true ∧ contU a 2 c = true)) : begR [a, b, c, d] = none ∧ begR [a, b, c] = none := by
  obtain ⟨_, _, _, u4⟩ := leadU_of (a := a)
  have ha : 240 ≤ a.toNat ∧ a.toNat < 245 := by
    rcases first_cases a with ⟨e, _⟩ | ⟨e, _⟩ | ⟨e, _⟩ | ⟨e, _⟩ | ⟨e, g⟩ <;> omega
  rw [cont1_iff, cont_rest (by omega), decide_eq_true_eq] at hn
  have key : ∀ l : List UInt8, l = [b, c, d] ∨ l = [b, c] → begR (a :: l) = none := by
    intro l hl
    rw [begR_eq (by omega), if_neg (by rcases hl with rfl | rfl <;> (simp; omega))]
    have hc : contR (leadU a) l = none ∨ ∃ v, contR (leadU a) l = some v ∧ okR (lenU a) (l.length + 1) v = false := by
      rcases hl with rfl | rfl
      · simp only [contR]
        by_cases g1 : b.toNat < 128 ∨ 191 < b.toNat
        · left; rw [if_pos g1]
        · rw [if_neg g1]
          by_cases g2 : c.toNat < 128 ∨ 191 < c.toNat
          · left; rw [if_pos g2]
          · rw [if_neg g2]
            by_cases g3 : d.toNat < 128 ∨ 191 < d.toNat
            · left; rw [if_pos g3]
            · rw [if_neg g3]
              right
              refine ⟨_, rfl, ?_⟩
              rw [h, u4 ha.1]; simp [okR, lowR, highR, leastU, mostU]; omega
      · simp only [contR]
        by_cases g1 : b.toNat < 128 ∨ 191 < b.toNat
        · left; rw [if_pos g1]
        · rw [if_neg g1]
          by_cases g2 : c.toNat < 128 ∨ 191 < c.toNat
          · left; rw [if_pos g2]
          · rw [if_neg g2]
            right
            refine ⟨_, rfl, ?_⟩
            rw [h, u4 ha.1]; simp [okR, lowR, highR, leastU, mostU]; omega
    rcases hc with hc | ⟨v, hc, hk⟩
    · rw [hc]
    · rw [hc]; exact if_neg (by rw [hk]; decide)
  exact ⟨key _ (.inl rfl), key _ (.inr rfl)⟩
theorem first_4 {a : UInt8} {r : List UInt8} (h : lenU a = 4) : firstR (a :: r) = decU (a :: r) := by
  have h1 : begR [a] = some (4, leadU a) := by rw [beg1 (by omega), h]
  cases r with
  | nil => simp [firstR, h1, decU, measU, runU, h]
  | cons b s =>
    have h2 := beg2 (a := a) (b := b) (by omega)
    rw [h] at h2
    cases s with
    | nil =>
      rcases hb : contU a 1 b with _ | _
      · rw [hb, if_neg (by simp)] at h2
        have h3 : measU [a, b] = 1 := by rw [measU, if_neg (by omega), h, runU, if_neg (by simp [hb])]
        simp [firstR, h1, h2, decU, h3, h]
      · rw [hb, if_pos rfl] at h2
        have h3 : measU [a, b] = 2 := by rw [measU, if_neg (by omega), h, runU, if_pos (by simp [hb])]; rfl
        simp [firstR, h1, h2, decU, h3, h]
    | cons c u =>
      cases u with
      | nil =>
        rcases hb : contU a 1 b with _ | _
        · have h3 : measU [a, b, c] = 1 := by rw [measU, if_neg (by omega), h, runU, if_neg (by simp [hb])]
          have h4 := (no4 (d := c) h (by simp [hb] : ¬ (contU a 1 b = true ∧ contU a 2 c = true))).2
          simp [firstR, h1, h4, decU, h3, h]
        · have h4 := beg3 (a := a) (b := b) (c := c) (by omega) hb
          rw [h] at h4
          rcases hc : contU a 2 c with _ | _
          · rw [hc, if_neg (by simp)] at h4
            have h3 : measU [a, b, c] = 2 := by rw [measU, if_neg (by omega), h, runU, if_pos (by simp [hb]), runU, if_neg (by simp [hc])]
            simp [firstR, h1, h4, decU, h3, h]
          · rw [hc, if_pos rfl] at h4
            have h3 : measU [a, b, c] = 3 := by rw [measU, if_neg (by omega), h, runU, if_pos (by simp [hb]), runU, if_pos (by simp [hc])]; rfl
            simp [firstR, h1, h4, decU, h3, h]
      | cons d x =>
        rcases hb : contU a 1 b with _ | _
        · have h3 : measU (a :: b :: c :: d :: x) = 1 := by rw [measU, if_neg (by omega), h, runU, if_neg (by simp [hb])]
          have h4 := (no4 (d := d) h (by simp [hb] : ¬ (contU a 1 b = true ∧ contU a 2 c = true))).1
          simp [firstR, h1, h4, decU, h3, h]
        · rcases hc : contU a 2 c with _ | _
          · have h3 : measU (a :: b :: c :: d :: x) = 2 := by rw [measU, if_neg (by omega), h, runU, if_pos (by simp [hb]), runU, if_neg (by simp [hc])]
            have h4 := (no4 (d := d) h (by simp [hc] : ¬ (contU a 1 b = true ∧ contU a 2 c = true))).1
            simp [firstR, h1, h4, decU, h3, h]
          · have h4 := beg4 (a := a) (b := b) (c := c) (d := d) h hb hc
            rcases hd : contU a 3 d with _ | _
            · rw [hd, if_neg (by simp)] at h4
              have h3 : measU (a :: b :: c :: d :: x) = 3 := by rw [measU, if_neg (by omega), h, runU, if_pos (by simp [hb]), runU, if_pos (by simp [hc]), runU, if_neg (by simp [hd])]
              simp [firstR, h1, h4, decU, h3, h]
            · rw [hd, if_pos rfl] at h4
              have h3 : measU (a :: b :: c :: d :: x) = 4 := by rw [measU, if_neg (by omega), h, runU, if_pos (by simp [hb]), runU, if_pos (by simp [hc]), runU, if_pos (by simp [hd]), run_stop _ _ _ _ (by omega)]
              simp [firstR, h1, h4, decU, h3, h, valU, foldU]
/-- The reference's first code point is the program's. -/
theorem firstR_eq (a : UInt8) (r : List UInt8) : firstR (a :: r) = decU (a :: r) := by
  rcases first_cases a with ⟨e, _⟩ | ⟨e, _⟩ | ⟨e, _⟩ | ⟨e, _⟩ | ⟨e, _⟩
  · exact first_0 e
  · exact first_1 e
  · exact first_2 e
  · exact first_3 e
  · exact first_4 e
end Go.Proofs.Ytcohgjdijhogbaa
