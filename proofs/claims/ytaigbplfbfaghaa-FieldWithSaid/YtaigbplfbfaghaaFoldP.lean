/- The text of a field, as a plain function. No program here. -/
import Derived.Test.YtaigbplfbfaghaaText
namespace Go.Proofs.Ytaigbplfbfaghaa
set_option linter.unusedSimpArgs false
set_option linter.unusedVariables false

/-- The lines of a field: the current line, and the words that are still to come. -/
def foldW : List (List UInt8) → Bool → List UInt8 → List UInt8
  | [], _, line => line ++ [10]
  | x :: r, first, line => if first = true ∨ line.length + 1 + x.length ≤ 78 then foldW r false (line ++ ([32] ++ x)) else line ++ [10] ++ foldW r false ([32] ++ x)
def foldF (name body : List UInt8) : List UInt8 := foldW (words body) true (name ++ [58])

def wsum (ws : List (List UInt8)) : Nat := (ws.map fun x => x.length + 2).sum
theorem foldW_le (ws : List (List UInt8)) : ∀ f line, (foldW ws f line).length ≤ line.length + 1 + wsum ws := by
  induction ws with
  | nil => intro f line; simp [foldW, wsum]
  | cons x r ih =>
    intro f line
    simp only [foldW]
    split
    · have := ih false (line ++ ([32] ++ x)); simp [wsum] at this ⊢; omega
    · have := ih false ([32] ++ x); simp [wsum] at this ⊢; omega
theorem foldW_ge (ws : List (List UInt8)) : ∀ f line, line.length + 1 ≤ (foldW ws f line).length := by
  induction ws with
  | nil => intro f line; simp [foldW]
  | cons x r ih =>
    intro f line
    simp only [foldW]
    split
    · have := ih false (line ++ ([32] ++ x)); simp at this ⊢; omega
    · simp
theorem foldW_ge2 (x : List UInt8) (r : List (List UInt8)) (f : Bool) (line : List UInt8) : line.length + x.length + 2 ≤ (foldW (x :: r) f line).length := by
  simp only [foldW]
  split
  · have := foldW_ge r false (line ++ ([32] ++ x)); simp at this ⊢; omega
  · have := foldW_ge r false ([32] ++ x); simp at this ⊢; omega
theorem wsum_joinSp (ws : List (List UInt8)) : wsum ws ≤ (joinSp ws).length + 1 + ws.length := by
  induction ws with
  | nil => simp [wsum]
  | cons x r ih =>
    cases r with
    | nil => simp [wsum, joinSp]
    | cons y r => simp [wsum, joinSp] at ih ⊢; omega
theorem foldF_le (name body : List UInt8) : (foldF name body).length ≤ name.length + 2 * body.length + 5 := by
  have h1 := foldW_le (words body) true (name ++ [58])
  have h2 := wsum_joinSp (words body)
  have h3 := squeeze_le body
  have h4 := wordsAux_sum body []
  unfold squeeze at h3
  rw [← words] at h4
  simp [foldF] at h1 ⊢
  omega

/-- What has been written, and what is still to come. -/
def FoldAt (F : List UInt8) (ws : List (List UInt8)) (k : Nat) (out line : List UInt8) : Prop := F = out ++ foldW (ws.drop k) (decide (k = 0)) line
theorem FoldAt.start (name body : List UInt8) : FoldAt (foldF name body) (words body) 0 [] (name ++ [58]) := by simp [FoldAt, foldF]
theorem FoldAt.len {F : List UInt8} {ws : List (List UInt8)} {k : Nat} {out line : List UInt8} (h : FoldAt F ws k out line) : out.length + line.length + 1 ≤ F.length := by
  rw [h]; have := foldW_ge (ws.drop k) (decide (k = 0)) line; simp; omega
theorem FoldAt.len2 {F : List UInt8} {ws : List (List UInt8)} {k : Nat} {out line : List UInt8} (h : FoldAt F ws k out line) (hk : k < ws.length) : out.length + line.length + ws[k].length + 2 ≤ F.length := by
  have := foldW_ge2 ws[k] (ws.drop (k + 1)) (decide (k = 0)) line
  rw [← List.drop_eq_getElem_cons hk] at this
  rw [h]; simp only [List.length_append]; omega
theorem FoldAt.fits {F : List UInt8} {ws : List (List UInt8)} {k : Nat} {out line : List UInt8} (h : FoldAt F ws k out line) (hk : k < ws.length) (hc : k = 0 ∨ line.length + 1 + ws[k].length ≤ 78) : FoldAt F ws (k + 1) out (line ++ ([32] ++ ws[k])) := by
  unfold FoldAt at *
  rw [h, List.drop_eq_getElem_cons hk, foldW, if_pos (by simpa using hc)]; simp
theorem FoldAt.turns {F : List UInt8} {ws : List (List UInt8)} {k : Nat} {out line : List UInt8} (h : FoldAt F ws k out line) (hk : k < ws.length) (h0 : 0 < k) (hc : ¬ line.length + 1 + ws[k].length ≤ 78) : FoldAt F ws (k + 1) (out ++ (line ++ [10])) ([32] ++ ws[k]) := by
  unfold FoldAt at *
  rw [h, List.drop_eq_getElem_cons hk, foldW, if_neg (by simp; omega)]; simp
theorem FoldAt.done {F : List UInt8} {ws : List (List UInt8)} {k : Nat} {out line : List UInt8} (h : FoldAt F ws k out line) (hk : ws.length ≤ k) : out ++ (line ++ [10]) = F := by
  rw [h, List.drop_eq_nil_of_le hk, foldW]

end Go.Proofs.Ytaigbplfbfaghaa
