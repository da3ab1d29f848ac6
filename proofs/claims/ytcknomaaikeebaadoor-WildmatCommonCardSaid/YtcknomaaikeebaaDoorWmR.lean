/- Plain: what the reference's match and common tables hold. No program here. -/
import Derived.Test.YtcknomaaikeebaaDoorWmC
namespace Go.Proofs.YtcknomaaikeebaaDoor
set_option linter.unusedSimpArgs false
set_option linter.unusedVariables false

theorem emAt_take (es : List Em) (k : Nat) (h : k < es.length) : es.take (k + 1) = es.take k ++ [es[k]] := by
  rw [List.take_succ_eq_append_getElem h]
theorem dp_star_zero (es : List Em) (k : Nat) (h : k < es.length) (hs : es[k].isStar = true) : matchF (es.take (k + 1)) [] = matchF (es.take k) [] := by
  rw [emAt_take es k h, match_star_nil _ _ hs]
theorem dp_star_succ (es : List Em) (k : Nat) (h : k < es.length) (hs : es[k].isStar = true) (l : Bs) (i : Nat) (hi : i < l.length) (hc : isChar l[i] = true) : matchF (es.take (k + 1)) (l.take (i + 1)) = (matchF (es.take k) (l.take (i + 1)) || matchF (es.take (k + 1)) (l.take i)) := by
  rw [emAt_take es k h, List.take_succ_eq_append_getElem hi, match_star_snoc _ _ hs, hc, Bool.true_and]
theorem dp_one_zero (es : List Em) (k : Nat) (h : k < es.length) (hs : es[k].isStar = false) : matchF (es.take (k + 1)) [] = false := by
  rw [emAt_take es k h, match_one_nil _ _ hs]
theorem dp_one_succ (es : List Em) (k : Nat) (h : k < es.length) (hs : es[k].isStar = false) (l : Bs) (i : Nat) (hi : i < l.length) : matchF (es.take (k + 1)) (l.take (i + 1)) = (matchF (es.take k) (l.take i) && es[k].chars.contains l[i]) := by
  rw [emAt_take es k h, List.take_succ_eq_append_getElem hi, match_one_snoc _ _ hs]
/-- Row k of the table. -/
def dpF (es : List Em) (l : Bs) (k : Nat) : List Bool := (List.range (l.length + 1)).map fun i => matchF (es.take k) (l.take i)
/-- The first i marks of row k; the rest is blank. -/
def dpG (es : List Em) (l : Bs) (k i : Nat) : List Bool := (List.range (l.length + 1)).map fun j => decide (j < i) && matchF (es.take k) (l.take j)
theorem dpF_len (es : List Em) (l : Bs) (k : Nat) : (dpF es l k).length = l.length + 1 := by simp [dpF]
theorem dpG_len (es : List Em) (l : Bs) (k i : Nat) : (dpG es l k i).length = l.length + 1 := by simp [dpG]
theorem dpF_get (es : List Em) (l : Bs) (k i : Nat) (h : i ≤ l.length) : (dpF es l k).getD i false = matchF (es.take k) (l.take i) := by
  simp [dpF, List.getD_eq_getElem?_getD, List.getElem?_range (show i < l.length + 1 by omega)]
theorem dpG_get (es : List Em) (l : Bs) (k j i : Nat) (h : i ≤ l.length) (hj : i < j) : (dpG es l k j).getD i false = matchF (es.take k) (l.take i) := by
  simp [dpG, List.getD_eq_getElem?_getD, List.getElem?_range (show i < l.length + 1 by omega), hj]
theorem dpG_zero (es : List Em) (l : Bs) (k : Nat) : dpG es l k 0 = List.replicate (l.length + 1) false := by
  apply List.ext_getElem
  · simp [dpG]
  · intro i h1 h2; simp [dpG]
theorem dpG_all (es : List Em) (l : Bs) (k : Nat) : dpG es l k (l.length + 1) = dpF es l k := by
  apply List.ext_getElem
  · simp [dpG, dpF]
  · intro i h1 h2
    have : i < l.length + 1 := by simpa [dpG] using h1
    simp [dpG, dpF, this]
theorem dpG_set (es : List Em) (l : Bs) (k i : Nat) (b : Bool) (hi : i ≤ l.length) (hb : matchF (es.take k) (l.take i) = b) : (dpG es l k i).set i b = dpG es l k (i + 1) := by
  apply List.ext_getElem
  · simp [dpG]
  · intro j h1 h2
    rw [List.getElem_set]
    by_cases e : i = j
    · subst e; simp [dpG, hb]
    · rw [if_neg e]
      have : decide (j < i + 1) = decide (j < i) := by rw [decide_eq_decide]; omega
      simp [dpG, this]
theorem dpG_skip (es : List Em) (l : Bs) (k i : Nat) (hi : i ≤ l.length) (hb : matchF (es.take k) (l.take i) = false) : dpG es l k i = dpG es l k (i + 1) := by
  apply List.ext_getElem
  · simp [dpG]
  · intro j h1 h2
    by_cases e : i = j
    · subst e; simp [dpG, hb]
    · have : decide (j < i + 1) = decide (j < i) := by rw [decide_eq_decide]; omega
      simp [dpG, this]
theorem dpF_start (es : List Em) (l : Bs) : (List.replicate (l.length + 1) false).set 0 true = dpF es l 0 := by
  apply List.ext_getElem
  · simp [dpF]
  · intro j h1 h2
    rw [List.getElem_set]
    have hj : j < l.length + 1 := by simpa using h1
    by_cases e : j = 0
    · subst e; simp [dpF, matchF]
    · rw [if_neg (Ne.symm e)]
      have : l ≠ [] := by intro h; subst h; simp at hj; omega
      simp [dpF, matchF, e, this]
theorem dpF_end (es : List Em) (l : Bs) : (dpF es l es.length).getD l.length false = matchF es l := by
  rw [dpF_get _ _ _ _ (Nat.le_refl _), List.take_length, List.take_length]

/-- The best of the characters below q. -/
def hitE (x y : Em) (c : UInt8) : Bool := isChar c && (x.isStar || x.chars.contains c) && (y.isStar || y.chars.contains c)
def bestTo (x y : Em) (r cur : Option Bs) : Nat → Option Bs
  | 0 => cur
  | q + 1 => if hitE x y (UInt8.ofNat q) then tryF (bestTo x y r cur q) [UInt8.ofNat q] r else bestTo x y r cur q
theorem star_or {x : Em} (hx : x.Ok) {c : UInt8} (hc : isChar c = true) : (x.isStar || x.chars.contains c) = true ↔ c ∈ x.chars := by
  cases hs : x.isStar with
  | false => simp
  | true => simp [(star_chars hs c).2 hc]
theorem hitE_iff {x y : Em} (hx : x.Ok) (hy : y.Ok) (c : UInt8) : hitE x y c = true ↔ c ∈ x.chars ∧ c ∈ y.chars := by
  unfold hitE
  cases hc : isChar c with
  | false =>
    simp only [Bool.false_and, Bool.false_eq_true, false_iff, not_and]
    intro h; have := hx.char h; rw [hc] at this; cases this
  | true => rw [Bool.true_and, Bool.and_eq_true, star_or hx hc, star_or hy hc]
theorem tryF_stay {o : Option Bs} {h c : UInt8} {r : Option Bs} (hc : h.toNat ≤ c.toNat) : tryF (tryF o [h] r) [c] r = tryF o [h] r := by
  cases r with
  | none => rfl
  | some t =>
    have h1 : leS ([h] ++ t) ([c] ++ t) := leS_head hc (leS_refl t)
    cases o with
    | none => unfold leS at h1; simp only [tryF, h1]; simp
    | some b =>
      simp only [tryF]
      by_cases e : slB ([h] ++ t) b = true
      · rw [if_pos e]
        unfold leS at h1; simp only [h1]; simp
      · rw [if_neg e]
        have h2 : leS b ([h] ++ t) := by simpa [leS] using e
        have h3 := leS_trans h2 h1
        unfold leS at h3; simp only [h3]; simp
theorem bestTo_none {x y : Em} (hx : x.Ok) (hy : y.Ok) (r cur : Option Bs) (h : smallF x y = none) : ∀ q, bestTo x y r cur q = cur
  | 0 => rfl
  | q + 1 => by
    have : hitE x y (UInt8.ofNat q) = false := by
      rw [Bool.eq_false_iff]; intro e; exact smallF_none h _ ((hitE_iff hx hy _).1 e)
    rw [bestTo, this]; exact bestTo_none hx hy r cur h q
theorem bestTo_some {x y : Em} (hx : x.Ok) (hy : y.Ok) (r cur : Option Bs) (h : UInt8) (e : smallF x y = some h) : ∀ q, q ≤ 256 → bestTo x y r cur q = if h.toNat < q then tryF cur [h] r else cur
  | 0, _ => by simp [bestTo]
  | q + 1, hq => by
    obtain ⟨hm, hl⟩ := smallF_some hx e
    have ih := bestTo_some hx hy r cur h e q (by omega)
    have hqn : (UInt8.ofNat q).toNat = q := by rw [UInt8.toNat_ofNat', Nat.mod_eq_of_lt (by omega)]
    rw [bestTo]
    by_cases hc : hitE x y (UInt8.ofNat q) = true
    · rw [if_pos hc]
      have h1 := hl _ ((hitE_iff hx hy _).1 hc)
      rw [hqn] at h1
      rw [ih]
      by_cases h2 : h.toNat < q
      · rw [if_pos h2, if_pos (by omega), tryF_stay (by omega)]
      · rw [if_neg h2, if_pos (by omega)]
        have : UInt8.ofNat q = h := UInt8.toNat_inj.1 (by omega)
        rw [this]
    · rw [if_neg hc, ih]
      have h2 : h.toNat ≠ q := by
        intro h2
        apply hc
        have : UInt8.ofNat q = h := UInt8.toNat_inj.1 (by omega)
        rw [this]; exact (hitE_iff hx hy _).2 hm
      by_cases h3 : h.toNat < q
      · rw [if_pos h3, if_pos (by omega)]
      · rw [if_neg h3, if_neg (by omega)]
/-- What the table holds at i, j. -/
def tabF (p q : List Em) (i j : Nat) : Option Bs := comF (p.drop i) (q.drop j)
theorem bestTo_end {x y : Em} (hx : x.Ok) (hy : y.Ok) (r cur : Option Bs) : bestTo x y r cur 128 = match smallF x y with
    | none => cur
    | some h => tryF cur [h] r := by
  cases e : smallF x y with
  | none => exact bestTo_none hx hy r cur e _
  | some h =>
    rw [bestTo_some hx hy r cur h e _ (by omega), if_pos (char_lt _ (hx.char (smallF_some hx e).1.1))]
theorem tab_end (p q : List Em) (i j : Nat) (hi : p.length ≤ i) (hj : q.length ≤ j) : tabF p q i j = some [] := by
  unfold tabF; rw [List.drop_eq_nil_of_le hi, List.drop_eq_nil_of_le hj]; rfl
theorem tab_right (p q : List Em) (i j : Nat) (hi : p.length ≤ i) (hj : j < q.length) : tabF p q i j = if q[j].isStar then tryF none [] (tabF p q i (j + 1)) else none := by
  unfold tabF; rw [List.drop_eq_nil_of_le hi, List.drop_eq_getElem_cons hj]; rfl
theorem tab_left (p q : List Em) (i j : Nat) (hi : i < p.length) (hj : q.length ≤ j) : tabF p q i j = if p[i].isStar then tryF none [] (tabF p q (i + 1) j) else none := by
  unfold tabF; rw [List.drop_eq_nil_of_le hj, List.drop_eq_getElem_cons hi]; rfl
theorem tab_mid (p q : List Em) (i j : Nat) (hi : i < p.length) (hj : j < q.length) : tabF p q i j = restF p[i] q[j] (tabF p q (i + 1) j) (tabF p q i (j + 1)) (tabF p q (i + 1) (j + 1)) := by
  unfold tabF; rw [List.drop_eq_getElem_cons hi, List.drop_eq_getElem_cons hj]; rfl
theorem tab_best (p q : List Em) (i j : Nat) (hi : i < p.length) (hj : j < q.length) (hp : p[i].Ok) (hq : q[j].Ok) (h2 : (p[i].isStar && q[j].isStar) = false) (r1 r2 c : Option Bs) (h1 : r1 = if p[i].isStar then tryF none [] (tabF p q (i + 1) j) else none) (hr : r2 = if q[j].isStar then tryF r1 [] (tabF p q i (j + 1)) else r1)
    (hc : c = if p[i].isStar then tabF p q i (j + 1) else if q[j].isStar then tabF p q (i + 1) j else tabF p q (i + 1) (j + 1)) : tabF p q i j = bestTo p[i] q[j] c r2 128 := by
  rw [tab_mid p q i j hi hj, bestTo_end hp hq, hc, hr, h1]
  unfold restF
  rw [h2]
  rfl
theorem tab_both (p q : List Em) (i j : Nat) (hi : i < p.length) (hj : j < q.length) (h1 : p[i].isStar = true) (h2 : q[j].isStar = true) : tabF p q i j = tryF (tryF none [] (tabF p q (i + 1) j)) [] (tabF p q i (j + 1)) := by
  rw [tab_mid p q i j hi hj]
  unfold restF
  rw [h1, h2]
  rfl
theorem tab_all (p q : List Em) : tabF p q 0 0 = comF p q := rfl
theorem tab_len (p q : List Em) (i j : Nat) (s : Bs) (h : tabF p q i j = some s) : s.length ≤ p.length + q.length := by
  have := comF_len _ _ _ h
  simp only [List.length_drop] at this
  omega
end Go.Proofs.YtcknomaaikeebaaDoor
