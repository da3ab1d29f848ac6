/- Plain: the rating does not change if the case of letters changes. -/
import Derived.Test.YtannhfnpigiggaaGreatDoorPs7
namespace Go.Proofs.YtannhfnpigiggaaGreatDoor
set_option linter.unusedSimpArgs false
set_option linter.unusedVariables false

/-- Two articles that differ in the case of letters only. -/
structure SameCase (x y : InS) : Prop where
  name : lowerL x.name = lowerL y.name
  subject : lowerL x.subject = lowerL y.subject
  body : lowerL x.body = lowerL y.body
  author : x.author = y.author
  groups : x.groups = y.groups
  age : x.age = y.age
  bytes : x.bytes = y.bytes
  lines : x.lines = y.lines
  depth : x.depth = y.depth
  answers : x.answers = y.answers
theorem txtS_case {a b : Bs} (h : lowerL a = lowerL b) (m t : Bs) : txtS m a t = txtS m b t := by
  have hl : a.length = b.length := by rw [← lowerL_length a, h, lowerL_length]
  have ht : lowerL (a.take t.length) = lowerL (b.take t.length) := by
    unfold lowerL at h ⊢; rw [List.map_take, List.map_take, h]
  unfold txtS foldEq
  rw [h, hl, ht]
theorem txtOf_case {x y : InS} (h : SameCase x y) (f : Bs) : lowerL (txtOf f x) = lowerL (txtOf f y) := by
  unfold txtOf
  split
  · exact h.name
  · split
    · exact h.subject
    · exact h.body
theorem numOf_case {x y : InS} (h : SameCase x y) (f : Bs) : numOf f x = numOf f y := by
  unfold numOf
  rw [h.age, h.bytes, h.lines, h.depth, h.answers]
mutual
theorem holds_case {x y : InS} (h : SameCase x y) : ∀ c : Cond, holdsF x c = holdsF y c
  | .either l => by rw [holdsF, holdsF]; exact any_case h l
  | .both l => by rw [holdsF, holdsF]; exact all_case h l
  | .neg c => by rw [holdsF, holdsF, holds_case h c]
  | .cmp f op n => by rw [holdsF, holdsF, numOf_case h]
  | .txt f m t => by rw [holdsF, holdsF, txtS_case (txtOf_case h f)]
  | .auth t => by rw [holdsF, holdsF, h.author]
  | .grp t => by rw [holdsF, holdsF, h.groups]
theorem any_case {x y : InS} (h : SameCase x y) : ∀ l : List Cond, holdsAny x l = holdsAny y l
  | [] => by rw [holdsAny, holdsAny]
  | c :: r => by rw [holdsAny, holdsAny, holds_case h c, any_case h r]
theorem all_case {x y : InS} (h : SameCase x y) : ∀ l : List Cond, holdsAll x l = holdsAll y l
  | [] => by rw [holdsAll, holdsAll]
  | c :: r => by rw [holdsAll, holdsAll, holds_case h c, all_case h r]
end
theorem appS_case {x y : InS} (h : SameCase x y) (r : RuleS) : appS r x = appS r y := by
  unfold appS
  split
  · rfl
  · exact holds_case h _
theorem rateG_case {x y : InS} (h : SameCase x y) : ∀ (l : List RuleS) (o : OutS), rateG x l o = rateG y l o
  | [], o => rfl
  | r :: l, o => by
    unfold rateG
    rw [appS_case h]
    simp only [rateG_case h l]
theorem rateF_case {x y : InS} (h : SameCase x y) (l : List RuleS) : rateF l x = rateF l y := rateG_case h l _
end Go.Proofs.YtannhfnpigiggaaGreatDoor
