/- Plain: the shortest common text of two patterns. No program here. -/
import Derived.Test.YtcknomaaikeebaaDoorWmM
namespace Go.Proofs.YtcknomaaikeebaaDoor
set_option linter.unusedSimpArgs false
set_option linter.unusedVariables false

/-- Go's order of strings. -/
def lexB : Bs → Bs → Bool
  | [], [] => false
  | [], _ :: _ => true
  | _ :: _, [] => false
  | a :: x, b :: y => decide (a.toNat < b.toNat) || (a == b && lexB x y)
theorem lexB_irrefl (a : Bs) : lexB a a = false := by
  induction a with
  | nil => rfl
  | cons c r ih => simp [lexB, ih]
theorem lexB_trans : ∀ a b c : Bs, lexB a b = true → lexB b c = true → lexB a c = true
  | [], [], _, h, _ => by simp [lexB] at h
  | [], _ :: _, [], _, h => by simp [lexB] at h
  | [], _ :: _, _ :: _, _, _ => rfl
  | _ :: _, [], _, h, _ => by simp [lexB] at h
  | _ :: _, _ :: _, [], _, h => by simp [lexB] at h
  | a :: x, b :: y, c :: z, h, h' => by
    simp only [lexB, Bool.or_eq_true, decide_eq_true_eq, Bool.and_eq_true, beq_iff_eq] at h h' ⊢
    rcases h with h | ⟨rfl, h⟩
    · rcases h' with h' | ⟨rfl, h'⟩
      · exact .inl (by omega)
      · exact .inl h
    · rcases h' with h' | ⟨rfl, h'⟩
      · exact .inl h'
      · exact .inr ⟨rfl, lexB_trans x y z h h'⟩
theorem lexB_total : ∀ a b : Bs, a = b ∨ lexB a b = true ∨ lexB b a = true
  | [], [] => .inl rfl
  | [], _ :: _ => .inr (.inl rfl)
  | _ :: _, [] => .inr (.inr rfl)
  | a :: x, b :: y => by
    simp only [lexB, Bool.or_eq_true, decide_eq_true_eq, Bool.and_eq_true, beq_iff_eq]
    rcases Nat.lt_trichotomy a.toNat b.toNat with h | h | h
    · exact .inr (.inl (.inl h))
    · have : a = b := UInt8.toNat_inj.1 h
      subst this
      rcases lexB_total x y with rfl | h | h
      · exact .inl rfl
      · exact .inr (.inl (.inr ⟨rfl, h⟩))
      · exact .inr (.inr (.inr ⟨rfl, h⟩))
    · exact .inr (.inr (.inl h))
/-- Shorter, or as long and smaller. -/
def slB (a b : Bs) : Bool := decide (a.length < b.length) || (decide (a.length = b.length) && lexB a b)
theorem slB_irrefl (a : Bs) : slB a a = false := by simp [slB, lexB_irrefl]
theorem slB_trans {a b c : Bs} (h : slB a b = true) (h' : slB b c = true) : slB a c = true := by
  simp only [slB, Bool.or_eq_true, decide_eq_true_eq, Bool.and_eq_true] at h h' ⊢
  rcases h with h | ⟨e, h⟩
  · rcases h' with h' | ⟨e', h'⟩
    · exact .inl (by omega)
    · exact .inl (by omega)
  · rcases h' with h' | ⟨e', h'⟩
    · exact .inl (by omega)
    · exact .inr ⟨by omega, lexB_trans _ _ _ h h'⟩
theorem slB_total (a b : Bs) : a = b ∨ slB a b = true ∨ slB b a = true := by
  simp only [slB, Bool.or_eq_true, decide_eq_true_eq, Bool.and_eq_true]
  rcases Nat.lt_trichotomy a.length b.length with h | h | h
  · exact .inr (.inl (.inl h))
  · rcases lexB_total a b with rfl | g | g
    · exact .inl rfl
    · exact .inr (.inl (.inr ⟨h, g⟩))
    · exact .inr (.inr (.inr ⟨h.symm, g⟩))
  · exact .inr (.inr (.inl h))
def leS (a b : Bs) : Prop := slB b a = false
theorem leS_refl (a : Bs) : leS a a := slB_irrefl a
theorem leS_of_lt {a b : Bs} (h : slB a b = true) : leS a b := by
  unfold leS
  rcases h' : slB b a with _ | _
  · rfl
  · have := slB_trans h h'; rw [slB_irrefl] at this; cases this
theorem leS_trans {a b c : Bs} (h : leS a b) (h' : leS b c) : leS a c := by
  unfold leS at *
  rcases h2 : slB c a with _ | _
  · rfl
  · rcases slB_total a b with rfl | g | g
    · rw [h'] at h2; cases h2
    · have := slB_trans h2 g; rw [h'] at this; cases this
    · rw [h] at g; cases g
theorem leS_anti {a b : Bs} (h : leS a b) (h' : leS b a) : a = b := by
  unfold leS at *
  rcases slB_total a b with e | g | g
  · exact e
  · rw [h'] at g; cases g
  · rw [h] at g; cases g
theorem leS_len {a b : Bs} (h : a.length < b.length) : leS a b := leS_of_lt (by simp [slB, h])
theorem leS_cons (c : UInt8) {a b : Bs} (h : leS a b) : leS (c :: a) (c :: b) := by
  unfold leS slB at *; simp [lexB] at *; exact h
theorem leS_head {c d : UInt8} (h : c.toNat ≤ d.toNat) {a b : Bs} (hab : leS a b) : leS (c :: a) (d :: b) := by
  rcases Nat.lt_or_ge c.toNat d.toNat with h1 | h1
  · rcases slB_total a b with rfl | g | g
    · exact leS_of_lt (by simp [slB, lexB, h1])
    · simp only [slB, Bool.or_eq_true, decide_eq_true_eq, Bool.and_eq_true] at g
      rcases g with g | ⟨g, _⟩
      · exact leS_len (by simp; omega)
      · exact leS_of_lt (by simp [slB, lexB, h1, g])
    · unfold leS at hab; rw [hab] at g; cases g
  · have : c = d := UInt8.toNat_inj.1 (by omega)
    subst this; exact leS_cons c hab

/-- o is the least text of S, if there is one. -/
def Best (S : Bs → Prop) : Option Bs → Prop
  | none => ∀ t, ¬ S t
  | some s => S s ∧ ∀ t, S t → leS s t
theorem Best.unique {S : Bs → Prop} {a b : Option Bs} (ha : Best S a) (hb : Best S b) : a = b := by
  cases a with
  | none => cases b with
    | none => rfl
    | some b => exact absurd hb.1 (ha b)
  | some a => cases b with
    | none => exact absurd ha.1 (hb a)
    | some b => exact congrArg some (leS_anti (ha.2 b hb.1) (hb.2 a ha.1))
theorem Best.congr {S T : Bs → Prop} {a : Option Bs} (h : Best S a) (e : ∀ t, S t ↔ T t) : Best T a := by
  have : S = T := funext fun t => propext (e t)
  rw [← this]; exact h
/-- One trial: a text that begins so, if the rest is known. -/
def tryF (cur : Option Bs) (head : Bs) (r : Option Bs) : Option Bs :=
  match r with
  | none => cur
  | some t => match cur with
    | none => some (head ++ t)
    | some b => if slB (head ++ t) b then some (head ++ t) else some b
theorem best_or {A B : Bs → Prop} {a b : Option Bs} (ha : Best A a) (hb : Best B b) : Best (fun t => A t ∨ B t) (tryF a [] b) := by
  cases b with
  | none => cases a with
    | none => exact fun t ht => ht.elim (ha t) (hb t)
    | some a => exact ⟨.inl ha.1, fun t ht => ht.elim (ha.2 t) (fun h => absurd h (hb t))⟩
  | some b => cases a with
    | none => exact ⟨.inr hb.1, fun t ht => ht.elim (fun h => absurd h (ha t)) (hb.2 t)⟩
    | some a =>
      unfold tryF
      simp only [List.nil_append]
      by_cases h : slB b a = true
      · rw [if_pos h]
        exact ⟨.inr hb.1, fun t ht => ht.elim (fun h' => leS_trans (leS_of_lt h) (ha.2 t h')) (hb.2 t)⟩
      · rw [if_neg h]
        have h' : leS a b := by simpa [leS] using h
        exact ⟨.inl ha.1, fun t ht => ht.elim (ha.2 t) (fun h2 => leS_trans h' (hb.2 t h2))⟩
theorem tryF_head (cur : Option Bs) (h : UInt8) (r : Option Bs) : tryF cur [h] r = tryF cur [] (r.map (h :: ·)) := by
  cases r <;> cases cur <;> rfl
theorem tryF_none (r : Option Bs) : tryF none [] r = r := by cases r <;> rfl
theorem best_heads {B : Bs → Prop} {r : Option Bs} (hr : Best B r) (h : UInt8) (cs : UInt8 → Prop) (hh : cs h) (hmin : ∀ c, cs c → h.toNat ≤ c.toNat) : Best (fun t => ∃ c u, t = c :: u ∧ cs c ∧ B u) (r.map (h :: ·)) := by
  cases r with
  | none => rintro t ⟨c, u, rfl, _, hu⟩; exact hr u hu
  | some s =>
    refine ⟨⟨h, s, rfl, hh, hr.1⟩, ?_⟩
    rintro t ⟨c, u, rfl, hc, hu⟩
    exact leS_head (hmin c hc) (hr.2 u hu)
def smallF (x y : Em) : Option UInt8 := x.chars.find? fun c => y.chars.contains c
theorem smallF_some {x y : Em} (hx : x.Ok) {h : UInt8} (e : smallF x y = some h) : (h ∈ x.chars ∧ h ∈ y.chars) ∧ ∀ c, c ∈ x.chars ∧ c ∈ y.chars → h.toNat ≤ c.toNat := by
  unfold smallF at e
  obtain ⟨h1, as, bs, h2, h3⟩ := List.find?_eq_some_iff_append.1 e
  refine ⟨⟨by rw [h2]; simp, List.contains_iff_mem.1 h1⟩, ?_⟩
  rintro c ⟨hc, hcy⟩
  have hs := hx.sorted
  rw [h2] at hs hc
  rcases List.mem_append.1 hc with hc | hc
  · have := h3 c hc
    simp at this
    exact absurd hcy this
  · rcases List.mem_cons.1 hc with rfl | hc
    · exact Nat.le_refl _
    · have := (List.pairwise_append.1 hs).2.1
      have := (List.pairwise_cons.1 this).1 c hc
      omega
theorem smallF_none {x y : Em} (e : smallF x y = none) : ∀ c, ¬ (c ∈ x.chars ∧ c ∈ y.chars) := by
  unfold smallF at e
  rw [List.find?_eq_none] at e
  rintro c ⟨h1, h2⟩
  exact e c h1 (List.contains_iff_mem.2 h2)
/-- The best rest, out of those behind: a: past the first's element; b: past the second's; c: past both. -/
def restF (x y : Em) (a b c : Option Bs) : Option Bs :=
  let r1 := if x.isStar then tryF none [] a else none
  let r2 := if y.isStar then tryF r1 [] b else r1
  if x.isStar && y.isStar then r2 else match smallF x y with
    | none => r2
    | some h => tryF r2 [h] (if x.isStar then b else if y.isStar then a else c)
def comNil : List Em → Option Bs
  | [] => some []
  | y :: q => if y.isStar then tryF none [] (comNil q) else none
def comRow (x : Em) (f : List Em → Option Bs) : List Em → Option Bs
  | [] => if x.isStar then tryF none [] (f []) else none
  | y :: q => restF x y (f (y :: q)) (comRow x f q) (f q)
def comF : List Em → List Em → Option Bs
  | [] => comNil
  | x :: p => comRow x (comF p)
def Both (p q : List Em) (t : Bs) : Prop := matchF p t = true ∧ matchF q t = true

theorem match_star_cons (x : Em) (p : List Em) (h : x.isStar = true) (t : Bs) : matchF (x :: p) t = true ↔ matchF p t = true ∨ ∃ c r, t = c :: r ∧ isChar c = true ∧ matchF (x :: p) r = true := by
  simp only [matchF, h, if_true]
  cases t with
  | nil => simp [starM]
  | cons c r =>
    simp only [starM, Bool.or_eq_true, Bool.and_eq_true]
    constructor
    · rintro (h | ⟨h1, h2⟩)
      · exact .inl h
      · exact .inr ⟨c, r, rfl, h1, h2⟩
    · rintro (h | ⟨c', r', e, h1, h2⟩)
      · exact .inl h
      · simp at e; obtain ⟨rfl, rfl⟩ := e; exact .inr ⟨h1, h2⟩
theorem match_one_cons (x : Em) (p : List Em) (h : x.isStar = false) (t : Bs) : matchF (x :: p) t = true ↔ ∃ c r, t = c :: r ∧ c ∈ x.chars ∧ matchF p r = true := by
  simp only [matchF, h, Bool.false_eq_true, if_false, oneM_iff]
theorem star_chars {x : Em} (h : x.isStar = true) (c : UInt8) : c ∈ x.chars ↔ isChar c = true := by
  cases x <;> simp [Em.isStar] at h
  exact mem_nameC c
theorem comNil_best : ∀ q : List Em, Best (Both [] q) (comNil q) := by
  intro q
  induction q with
  | nil =>
    refine ⟨⟨rfl, rfl⟩, ?_⟩
    rintro t ⟨ht, _⟩
    have : t = [] := by simpa [matchF] using ht
    subst this; exact leS_refl _
  | cons y q ih =>
    rw [comNil]
    rcases h : y.isStar with _ | _
    · rw [if_neg (by simp)]
      rintro t ⟨ht, ht2⟩
      have : t = [] := by simpa [matchF] using ht
      subst this
      obtain ⟨c, r, e, _⟩ := (match_one_cons y q h _).1 ht2
      cases e
    · rw [if_pos rfl, tryF_none]
      refine ih.congr fun t => ?_
      constructor
      · rintro ⟨h1, h2⟩; exact ⟨h1, (match_star_cons y q h t).2 (.inl h2)⟩
      · rintro ⟨h1, h2⟩
        have : t = [] := by simpa [matchF] using h1
        subst this
        rcases (match_star_cons y q h _).1 h2 with h3 | ⟨c, r, e, _⟩
        · exact ⟨h1, h3⟩
        · cases e
theorem comRow_best (x : Em) (p : List Em) (f : List Em → Option Bs) (hx : x.Ok) (hf : ∀ q, (∀ e ∈ q, e.Ok) → Best (Both p q) (f q)) : ∀ q : List Em, (∀ e ∈ q, e.Ok) → Best (Both (x :: p) q) (comRow x f q) := by
  intro q
  induction q with
  | nil =>
    intro _
    rw [comRow]
    rcases h : x.isStar with _ | _
    · rw [if_neg (by simp)]
      rintro t ⟨ht, ht2⟩
      have : t = [] := by simpa [matchF] using ht2
      subst this
      obtain ⟨c, r, e, _⟩ := (match_one_cons x p h _).1 ht
      cases e
    · rw [if_pos rfl, tryF_none]
      refine (hf [] (by simp)).congr fun t => ?_
      constructor
      · rintro ⟨h1, h2⟩; exact ⟨(match_star_cons x p h t).2 (.inl h1), h2⟩
      · rintro ⟨h1, h2⟩
        have : t = [] := by simpa [matchF] using h2
        subst this
        rcases (match_star_cons x p h _).1 h1 with h3 | ⟨c, r, e, _⟩
        · exact ⟨h3, h2⟩
        · cases e
  | cons y q ih =>
    intro hq
    have hy := hq y (by simp)
    have hq' : ∀ e ∈ q, e.Ok := fun e he => hq e (by simp [he])
    have ih' := ih hq'
    have ha := hf (y :: q) hq
    have hc := hf q hq'
    rw [comRow]
    unfold restF
    rcases hxs : x.isStar with _ | _ <;> rcases hys : y.isStar with _ | _
    · -- neither
      simp only [Bool.false_eq_true, if_false, Bool.and_false]
      cases hs : smallF x y with
      | none =>
        rintro t ⟨h1, h2⟩
        obtain ⟨c, r, rfl, hc1, _⟩ := (match_one_cons x p hxs _).1 h1
        obtain ⟨c', r', e, hc2, _⟩ := (match_one_cons y q hys _).1 h2
        simp at e; obtain ⟨rfl, rfl⟩ := e
        exact smallF_none hs c ⟨hc1, hc2⟩
      | some h =>
        obtain ⟨g1, g2⟩ := smallF_some hx hs
        simp only [tryF_head, tryF_none]
        refine (best_heads hc h _ g1 g2).congr fun t => ?_
        constructor
        · rintro ⟨c, u, rfl, ⟨hc1, hc2⟩, hu1, hu2⟩
          exact ⟨(match_one_cons x p hxs _).2 ⟨c, u, rfl, hc1, hu1⟩, (match_one_cons y q hys _).2 ⟨c, u, rfl, hc2, hu2⟩⟩
        · rintro ⟨h1, h2⟩
          obtain ⟨c, r, rfl, hc1, hr1⟩ := (match_one_cons x p hxs _).1 h1
          obtain ⟨c', r', e, hc2, hr2⟩ := (match_one_cons y q hys _).1 h2
          simp at e; obtain ⟨rfl, rfl⟩ := e
          exact ⟨c, r, rfl, ⟨hc1, hc2⟩, hr1, hr2⟩
    · -- the second is a star
      simp only [Bool.false_eq_true, if_false, Bool.false_and, if_true, tryF_none]
      have key : ∀ t, Both (x :: p) (y :: q) t ↔ (Both (x :: p) q t ∨ ∃ c u, t = c :: u ∧ (c ∈ x.chars ∧ c ∈ y.chars) ∧ Both p (y :: q) u) := by
        intro t
        constructor
        · rintro ⟨h1, h2⟩
          rcases (match_star_cons y q hys t).1 h2 with h3 | ⟨c, r, rfl, h3, h4⟩
          · exact .inl ⟨h1, h3⟩
          · obtain ⟨c', r', e, hc1, hr1⟩ := (match_one_cons x p hxs _).1 h1
            simp at e; obtain ⟨rfl, rfl⟩ := e
            exact .inr ⟨c, r, rfl, ⟨hc1, (star_chars hys c).2 h3⟩, hr1, h4⟩
        · rintro (⟨h1, h2⟩ | ⟨c, u, rfl, ⟨hc1, hc2⟩, hu1, hu2⟩)
          · exact ⟨h1, (match_star_cons y q hys t).2 (.inl h2)⟩
          · exact ⟨(match_one_cons x p hxs _).2 ⟨c, u, rfl, hc1, hu1⟩, (match_star_cons y q hys _).2 (.inr ⟨c, u, rfl, (star_chars hys c).1 hc2, hu2⟩)⟩
      cases hs : smallF x y with
      | none =>
        refine ih'.congr fun t => ?_
        rw [key]
        constructor
        · exact .inl
        · rintro (h | ⟨c, u, rfl, hc1, _⟩)
          · exact h
          · exact absurd hc1 (smallF_none hs c)
      | some h =>
        obtain ⟨g1, g2⟩ := smallF_some hx hs
        simp only [tryF_head]
        exact (best_or ih' (best_heads ha h _ g1 g2)).congr fun t => (key t).symm
    · -- the first is a star
      simp only [Bool.false_eq_true, if_false, Bool.and_false, if_true, tryF_none]
      have key : ∀ t, Both (x :: p) (y :: q) t ↔ (Both p (y :: q) t ∨ ∃ c u, t = c :: u ∧ (c ∈ x.chars ∧ c ∈ y.chars) ∧ Both (x :: p) q u) := by
        intro t
        constructor
        · rintro ⟨h1, h2⟩
          rcases (match_star_cons x p hxs t).1 h1 with h3 | ⟨c, r, rfl, h3, h4⟩
          · exact .inl ⟨h3, h2⟩
          · obtain ⟨c', r', e, hc1, hr1⟩ := (match_one_cons y q hys _).1 h2
            simp at e; obtain ⟨rfl, rfl⟩ := e
            exact .inr ⟨c, r, rfl, ⟨(star_chars hxs c).2 h3, hc1⟩, h4, hr1⟩
        · rintro (⟨h1, h2⟩ | ⟨c, u, rfl, ⟨hc1, hc2⟩, hu1, hu2⟩)
          · exact ⟨(match_star_cons x p hxs t).2 (.inl h1), h2⟩
          · exact ⟨(match_star_cons x p hxs _).2 (.inr ⟨c, u, rfl, (star_chars hxs c).1 hc1, hu1⟩), (match_one_cons y q hys _).2 ⟨c, u, rfl, hc2, hu2⟩⟩
      cases hs : smallF x y with
      | none =>
        refine ha.congr fun t => ?_
        rw [key]
        constructor
        · exact .inl
        · rintro (h | ⟨c, u, rfl, hc1, _⟩)
          · exact h
          · exact absurd hc1 (smallF_none hs c)
      | some h =>
        obtain ⟨g1, g2⟩ := smallF_some hx hs
        simp only [tryF_head]
        exact (best_or ha (best_heads ih' h _ g1 g2)).congr fun t => (key t).symm
    · -- both
      simp only [Bool.and_true, if_true, tryF_none]
      have hor := best_or ha ih'
      have up : ∀ t, (Both p (y :: q) t ∨ Both (x :: p) q t) → Both (x :: p) (y :: q) t := by
        rintro t (⟨h1, h2⟩ | ⟨h1, h2⟩)
        · exact ⟨(match_star_cons x p hxs t).2 (.inl h1), h2⟩
        · exact ⟨h1, (match_star_cons y q hys t).2 (.inl h2)⟩
      have down : ∀ t, Both (x :: p) (y :: q) t → ∃ u, (Both p (y :: q) u ∨ Both (x :: p) q u) ∧ leS u t := by
        intro t
        induction t with
        | nil =>
          rintro ⟨h1, h2⟩
          rcases (match_star_cons x p hxs _).1 h1 with h3 | ⟨c, r, e, _⟩
          · exact ⟨[], .inl ⟨h3, h2⟩, leS_refl _⟩
          · cases e
        | cons c r iht =>
          rintro ⟨h1, h2⟩
          rcases (match_star_cons x p hxs _).1 h1 with h3 | ⟨c', r', e, h3, h4⟩
          · exact ⟨_, .inl ⟨h3, h2⟩, leS_refl _⟩
          · simp at e; obtain ⟨rfl, rfl⟩ := e
            rcases (match_star_cons y q hys _).1 h2 with h5 | ⟨c', r', e, h5, h6⟩
            · exact ⟨_, .inr ⟨h1, h5⟩, leS_refl _⟩
            · simp at e; obtain ⟨rfl, rfl⟩ := e
              obtain ⟨u, hu, hl⟩ := iht ⟨h4, h6⟩
              exact ⟨u, hu, leS_trans hl (leS_len (by simp))⟩
      cases hres : tryF (f (y :: q)) [] (comRow x f q) with
      | none =>
        rw [hres] at hor
        intro t ht
        obtain ⟨u, hu, _⟩ := down t ht
        exact hor u hu
      | some s =>
        rw [hres] at hor
        refine ⟨up s hor.1, fun t ht => ?_⟩
        obtain ⟨u, hu, hl⟩ := down t ht
        exact leS_trans (hor.2 u hu) hl
/-- The program's answer is the best common text. -/
theorem comF_best (p : List Em) : (∀ e ∈ p, e.Ok) → ∀ q, (∀ e ∈ q, e.Ok) → Best (Both p q) (comF p q) := by
  induction p with
  | nil => intro _ q _; exact comNil_best q
  | cons x p ih =>
    intro hp q hq
    exact comRow_best x p (comF p) (hp x (by simp)) (ih (fun e he => hp e (by simp [he]))) q hq
theorem comF_comm (p q : List Em) (hp : ∀ e ∈ p, e.Ok) (hq : ∀ e ∈ q, e.Ok) : comF p q = comF q p :=
  (comF_best p hp q hq).unique ((comF_best q hq p hp).congr fun t => ⟨fun h => ⟨h.2, h.1⟩, fun h => ⟨h.2, h.1⟩⟩)
/-- How long a common text is. -/
theorem tryF_len (cur : Option Bs) (h : Bs) (r : Option Bs) (n : Nat) (hc : ∀ s, cur = some s → s.length ≤ n) (hr : ∀ s, r = some s → h.length + s.length ≤ n) : ∀ s, tryF cur h r = some s → s.length ≤ n := by
  intro s hs
  cases r with
  | none => exact hc s hs
  | some t =>
    have := hr t rfl
    cases cur with
    | none => simp [tryF] at hs; subst hs; simp; omega
    | some b =>
      have hb := hc b rfl
      simp only [tryF] at hs
      split at hs
      · simp at hs; subst hs; simp; omega
      · simp at hs; subst hs; exact hb
theorem comNil_len (q : List Em) : ∀ s, comNil q = some s → s.length ≤ q.length := by
  induction q with
  | nil => intro s h; simp [comNil] at h; subst h; simp
  | cons y q ih =>
    intro s h
    rw [comNil] at h
    split at h
    · rw [tryF_none] at h; have := ih s h; simp; omega
    · cases h
theorem comRow_len (x : Em) (f : List Em → Option Bs) (n : Nat) (hf : ∀ q s, f q = some s → s.length ≤ n + q.length) : ∀ q s, comRow x f q = some s → s.length ≤ n + 1 + q.length := by
  intro q
  induction q with
  | nil =>
    intro s h
    rw [comRow] at h
    split at h
    · rw [tryF_none] at h; have := hf _ s h; simp at this ⊢; omega
    · cases h
  | cons y q ih =>
    have ha := hf (y :: q)
    have hc := hf q
    rw [comRow]
    unfold restF
    simp only [List.length_cons] at ha ⊢
    have h1 : ∀ s, (if x.isStar = true then tryF none [] (f (y :: q)) else none) = some s → s.length ≤ n + 1 + (q.length + 1) := fun s hs => by
      split at hs
      · rw [tryF_none] at hs; have := ha s hs; omega
      · cases hs
    have h2 : ∀ s, (if y.isStar = true then tryF (if x.isStar = true then tryF none [] (f (y :: q)) else none) [] (comRow x f q) else (if x.isStar = true then tryF none [] (f (y :: q)) else none)) = some s → s.length ≤ n + 1 + (q.length + 1) := fun s hs => by
      split at hs
      · exact tryF_len _ _ _ _ h1 (fun t ht => by have := ih t ht; simp; omega) s hs
      · exact h1 s hs
    intro s hs
    split at hs
    · exact h2 s hs
    · cases hsm : smallF x y with
      | none => rw [hsm] at hs; exact h2 s hs
      | some h =>
        rw [hsm] at hs
        refine tryF_len _ _ _ _ h2 (fun t ht => ?_) s hs
        split at ht
        · have := ih t ht; simp; omega
        · split at ht
          · have := ha t ht; simp; omega
          · have := hc t ht; simp; omega
theorem comF_len (p : List Em) : ∀ q s, comF p q = some s → s.length ≤ p.length + q.length := by
  induction p with
  | nil => intro q s h; have := comNil_len q s h; simpa using this
  | cons x p ih => intro q s h; have := comRow_len x (comF p) p.length ih q s h; simpa using this
end Go.Proofs.YtcknomaaikeebaaDoor
