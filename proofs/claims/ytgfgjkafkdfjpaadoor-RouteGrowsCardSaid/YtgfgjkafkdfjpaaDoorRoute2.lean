/- Walks over route.Parse and its reference. -/
import Derived.Test.YtgfgjkafkdfjpaaDoorRoute1
import Derived.Test.YtgfgjkafkdfjpaaDoorSplitP
namespace Go.Proofs.YtgfgjkafkdfjpaaDoor
set_option linter.unusedSimpArgs false
set_option linter.unusedVariables false
open Go.RowKit

theorem rt_split (s : ByteArray) (w : World) (hsh : w.ShapedOpen Tryd.prog) (hs : s.size ≤ 100000) :
    Calls Tryd.prog 30 #[.string s, .string ⟨#[33]⟩] w fun e w' => ∃ A c, e = .returned (.slice A (splitM (toL s)).length c) ∧ Row w' A (strsL (splitM (toL s))) ∧ Below w.heap.size w w' := by
  refine (Tryd.strings_Split_shaped s markS w hsh (by omega) (by decide)).mono ?_
  rintro e w' ⟨rfl, rfl⟩
  refine ⟨_, Lib.countB s markS + 1, by rw [← split_len], ?_, (Below.refl _ _).alloc (Nat.le_refl _) _⟩
  rw [split_cells]
  refine Row.mk _ _ _ _ (by simp) fun j v hv => ?_
  rw [Nat.zero_add, Lib.cell_of_heap (heap_alloc_new w _)]
  simpa using hv

structure ParsePost (s : ByteArray) (w : World) (e : Ending) (w' : World) : Prop where
  ex : ∃ v, e = .returned (.tuple #[v, .int .i64 (parseR (toL s)).2.1, .int .i64 (parseR (toL s)).2.2]) ∧ StrsOwn w w' v (parseR (toL s)).1
theorem parse_post {s : ByteArray} {w w' : World} {v : Value} {l : List Bs} {a : Nat} {b : Int} (h : parseR (toL s) = (l, a, b)) (ho : StrsOwn w w' v l) : ParsePost s w (.returned (.tuple #[v, .int .i64 a, .int .i64 b])) w' := ⟨v, by rw [h], by rw [h]; exact ho⟩
theorem own_none {w w' : World} (hb : Below w.heap.size w w') : StrsOwn w w' (.slice none 0 0) [] := ⟨World.ownsRow_nil _ _ _ _, hb⟩

/-- Where the loop over the names stands. -/
structure ParseAt (l : Bs) (names : List Bs) (k at_ : Nat) (acc : List Bs) : Prop where
  eq : parseR l = parseGo (names.drop k) k at_ acc
  len : acc.length = k
  top : k ≤ 50
  off : at_ ≤ k * 100001

theorem ParseAt.start (l : Bs) (h : l.length ≠ 0) : ParseAt l (splitM l) 0 0 [] := ⟨by simp [parseR, h], rfl, by omega, by omega⟩
theorem ParseAt.limit {l : Bs} {names : List Bs} {k at_ : Nat} {acc : List Bs} (h : ParseAt l names k at_ acc) (hk : k < names.length) (h5 : k = 50) : parseR l = ([], at_, 9) := by
  rw [h.eq, List.drop_eq_getElem_cons hk, parseGo, if_pos h5]
theorem ParseAt.bad {l : Bs} {names : List Bs} {k at_ : Nat} {acc : List Bs} (h : ParseAt l names k at_ acc) (hk : k < names.length) (h5 : k ≠ 50) (x : Bs) (hx : names[k] = x) (he : (siteF x).2 ≠ 0) : parseR l = ([], at_ + (siteF x).1, (siteF x).2) := by
  rw [h.eq, List.drop_eq_getElem_cons hk, parseGo, if_neg h5, hx, if_pos he]
theorem ParseAt.next {l : Bs} {names : List Bs} {k at_ : Nat} {acc : List Bs} (h : ParseAt l names k at_ acc) (hk : k < names.length) (h5 : k ≠ 50) (x : Bs) (hx : names[k] = x) (he : (siteF x).2 = 0) (hl : x.length ≤ 100000) : ParseAt l names (k + 1) (at_ + x.length + 1) (acc ++ [x]) := by
  refine ⟨?_, by have := h.len; simp; omega, by have := h.top; omega, by have := h.off; omega⟩
  rw [h.eq, List.drop_eq_getElem_cons hk, parseGo, if_neg h5, hx, if_neg (by simp [he])]
theorem ParseAt.done {l : Bs} {names : List Bs} {k at_ : Nat} {acc : List Bs} (h : ParseAt l names k at_ acc) (hk : names.length ≤ k) : parseR l = (acc, 0, 0) := by
  rw [h.eq, List.drop_eq_nil_of_le hk, parseGo]
theorem siteF_le (l : Bs) (h : l.length ≤ 100000) : (siteF l).1 ≤ 100000 := by
  unfold siteF
  have h1 := seekN_le (fun i => !permitted (byteAt l i)) l.length 0 (by omega)
  have h2 := seekN_le (misplaced l) l.length 0 (by omega)
  repeat' split
  all_goals (simp only; omega)

set_option maxHeartbeats 4000000 in
set_option maxRecDepth 100000 in
theorem rt_parse (s : ByteArray) (w : World) (hsh : w.ShapedOpen Tryd.prog) (hs : s.size ≤ 100000) :
    Calls Tryd.prog 11 #[.string s] w (ParsePost s w) := by
  by_cases h0 : s.size = 0
  · have H := Lib.hid (show parseR (toL s) = ([], 0, 0) by simp [parseR, toL_length, h0])
    have h1 := toList_nil h0
    clear h0 hsh
    go_enter Tryd.func11, Tryd.ntmps11
    go_wp2_with fail
    go_ret3
    exact parse_post H.out (own_none (Below.refl _ _))
  · have h1 : s.toList.isEmpty = false := toList_cons h0
    have HST := Lib.hid (ParseAt.start (toL s) (by rw [toL_length]; exact h0))
    have HSP := Lib.hid (rt_split s w hsh hs)
    have HSUM := Lib.hid (splitAux_sum (toL s) [])
    rw [← splitM, toL_length] at HSUM
    clear h0 hsh
    go_enter Tryd.func11, Tryd.ntmps11
    go_wp2_with fail
    (with_reducible refine HSP.out.mono ?_)
    rintro e w1 ⟨A, c, rfl, hrow, hb1⟩
    have HROW := Lib.hid hrow; clear hrow HSP
    have hn1 := HSUM.out.1
    have HNL := Lib.hid (show ∀ x ∈ splitM (toL s), x.length ≤ 100000 from fun x hx => by have := HSUM.out.2 x hx; simp at this; omega)
    clear HSUM
    generalize splitM (toL s) = names at *
    go_wp2_with fail
    go_loopg [5, 6, 16] names.length (fun g v at_ ix wr => ∃ (k n : Nat) (acc : List Bs), g = names.length - k ∧ k ≤ names.length ∧ ix = .int .i64 k ∧ at_ = .int .i64 n ∧ ParseAt (toL s) names k n acc ∧ StrsOwn w1 wr v acc)
    case atStart => exact ⟨0, 0, [], by omega, by omega, rfl, rfl, HST.out, own_none (Below.refl _ _)⟩
    case round =>
      obtain ⟨k, n, acc, rfl, hk, rfl, rfl, hat, hF⟩ := hrel
      have hB := hF.bel
      have htop := hat.top
      have hoff := hat.off
      have hlen := hat.len
      by_cases hlt : k < names.length
      · have hk1 : (0 : Int) ≤ (k : Int) := by omega
        have hk2 : (k : Int) < (names.length : Int) := by omega
        obtain ⟨x, hx⟩ : ∃ x, ofL names[k] = x := ⟨_, rfl⟩
        have hxL : names[k] = toL x := by rw [← hx, toL_ofL]
        obtain ⟨b, off, rfl, hcell⟩ := (HROW.out.below hB).str hlt hx
        have hxs : x.size ≤ 100000 := by rw [← toL_length, ← hxL]; exact HNL.out _ (List.getElem_mem hlt)
        by_cases h5 : k = 50
        · have HX := Lib.hid (hat.limit hlt h5)
          have h5' : ((k : Int) == 50) = true := by simp; omega
          clear h5 hat hx hxL
          have HLN := Lib.hid hlen; clear hlen
          go_wp2_with fail
          go_ret3
          exact parse_post HX.out (own_none (hb1.trans (hB.mono hb1.size)))
        · have h5' : ((k : Int) == 50) = false := beq_eq_false_iff_ne.2 (by omega)
          have HSL := Lib.hid (siteF_le (toL x) (by rw [toL_length]; exact hxs))
          by_cases he : (siteF (toL x)).2 = 0
          · have HX := Lib.hid (hat.next hlt h5 _ hxL he (by rw [toL_length]; exact hxs))
            have he' : ((siteF (toL x)).2 != 0) = false := by simp [he]
            rw [toL_length] at HX
            have HLN := Lib.hid hlen
            have hsz := hF.bel.size
            have hown := hF.own
            clear he h5 hat hx hxL hlen
            have hacc : acc.length ≤ 50 := by have := HLN.out; omega
            have hb9 : n + x.size + 1 ≤ 10000000 := by omega
            go_wp2_with (first | (go_at_call 31; (with_reducible refine (mid_site _ _ (le_maxLen (by omega))).mono ?_); rintro e w' ⟨rfl, rfl⟩) | (at_builtin; refine wpList_push el_Route rfl _ _ rfl hown #[.string x] rfl rfl rfl (by simp [Value.oneCell']) (by omega) (by unfold maxLen; omega) hsz ?_; intro g cap w3 hown3 hg3 hat3))
            have hF3 := hF.push1 hown3 hg3
            go_roundg (names.length - (k + 1))
            case measure => omega
            case rel => exact ⟨k + 1, n + x.size + 1, acc ++ [toL x], rfl, by omega, by go_num, by go_num, HX.out, hF3⟩
          · have HX := Lib.hid (hat.bad hlt h5 _ hxL he)
            have he' : ((siteF (toL x)).2 != 0) = true := by simpa using he
            clear he h5 hat hx hxL
            have HLN := Lib.hid hlen; clear hlen
            have hs9 : (siteF (toL x)).1 ≤ 100000 := HSL.out
            go_wp2_with ((go_at_call 31; (with_reducible refine (mid_site _ _ (le_maxLen (by omega))).mono ?_); rintro e w' ⟨rfl, rfl⟩))
            go_ret3
            have hfin := parse_post (w := w) (w' := wr) HX.out (own_none (hb1.trans (hB.mono hb1.size)))
            rw [Int.natCast_add] at hfin
            exact hfin
      · have HX := Lib.hid (hat.done (by omega))
        go_wp2_with fail
        go_ret3
        exact parse_post HX.out ⟨own_mono hF.own hb1.size, hb1.trans (hB.mono hb1.size)⟩

/-- Where the reference's loop over the bytes stands. -/
structure RParseAt (l : Bs) (i frm : Nat) (acc : List Bs) : Prop where
  eq : parseR l = parseGo (splitAux (l.drop i) (cutL l frm i)) acc.length frm acc
  le : frm ≤ i
  top : acc.length ≤ 50
theorem RParseAt.start (l : Bs) (h : l.length ≠ 0) : RParseAt l 0 0 [] := ⟨by simp [parseR, h, splitM, cutL], by omega, by simp⟩
theorem RParseAt.skip {l : Bs} {i frm : Nat} {acc : List Bs} (h : RParseAt l i frm acc) (hi : i < l.length) (hm : isMark l[i] = false) : RParseAt l (i + 1) frm acc := by
  refine ⟨?_, by have := h.le; omega, h.top⟩
  rw [h.eq, drop_cons l i hi, splitAux, if_neg (by simp [hm]), cutL_step l frm i h.le hi]
theorem RParseAt.cut {l : Bs} {i frm : Nat} {acc : List Bs} (h : RParseAt l i frm acc) (hi : i ≤ l.length) (hm : ∀ hlt : i < l.length, isMark (l[i]'hlt) = true) :
    parseR l = parseGo (cutL l frm i :: (if i < l.length then splitAux (l.drop (i + 1)) [] else [])) acc.length frm acc := by
  rw [h.eq]
  by_cases hlt : i < l.length
  · rw [drop_cons l i hlt, splitAux, if_pos (hm hlt), if_pos hlt]
  · rw [List.drop_eq_nil_of_le (by omega), splitAux, if_neg hlt]
theorem RParseAt.limit {l : Bs} {i frm : Nat} {acc : List Bs} (h : RParseAt l i frm acc) (hi : i ≤ l.length) (hm : ∀ hlt : i < l.length, isMark (l[i]'hlt) = true) (h5 : acc.length = 50) : parseR l = ([], frm, 9) := by
  rw [h.cut hi hm, parseGo, if_pos h5]
theorem RParseAt.bad {l : Bs} {i frm : Nat} {acc : List Bs} (h : RParseAt l i frm acc) (hi : i ≤ l.length) (hm : ∀ hlt : i < l.length, isMark (l[i]'hlt) = true) (h5 : acc.length ≠ 50) (he : (siteF (cutL l frm i)).2 ≠ 0) : parseR l = ([], frm + (siteF (cutL l frm i)).1, (siteF (cutL l frm i)).2) := by
  rw [h.cut hi hm, parseGo, if_neg h5, if_pos he]
theorem RParseAt.next {l : Bs} {i frm : Nat} {acc : List Bs} (h : RParseAt l i frm acc) (hi : i < l.length) (hm : isMark l[i] = true) (h5 : acc.length ≠ 50) (he : (siteF (cutL l frm i)).2 = 0) : RParseAt l (i + 1) (i + 1) (acc ++ [cutL l frm i]) := by
  have hl : (cutL l frm i).length = i - frm := cutL_length l frm i (by omega)
  refine ⟨?_, by omega, by have := h.top; simp; omega⟩
  have hle := h.le
  rw [h.cut (by omega) (fun _ => hm), parseGo, if_neg h5, if_neg (by simp [he]), if_pos hi, hl, show frm + (i - frm) + 1 = i + 1 from by omega]
  simp [cutL]
theorem RParseAt.last {l : Bs} {frm : Nat} {acc : List Bs} (h : RParseAt l l.length frm acc) (h5 : acc.length ≠ 50) (he : (siteF (cutL l frm l.length)).2 = 0) : parseR l = (acc ++ [cutL l frm l.length], 0, 0) := by
  rw [h.cut (by omega) (fun hlt => by omega), parseGo, if_neg h5, if_neg (by simp [he]), if_neg (by omega), parseGo]

theorem isMark_num (c : UInt8) : isMark c = (num c == 33) := by
  unfold isMark num
  rw [Bool.eq_iff_iff, beq_iff_eq, beq_iff_eq]
  refine ⟨fun h => by subst h; rfl, fun h => UInt8.toNat_inj.1 ?_⟩
  have : c.toNat = 33 := by omega
  rw [this]; rfl

set_option maxHeartbeats 4000000 in
set_option maxRecDepth 100000 in
theorem refr_parse (s : ByteArray) (w : World) (hs : s.size ≤ 100000) :
    Calls Tryd.prog 12 #[.string s] w (ParsePost s w) := by
  by_cases h0 : s.size = 0
  · have H := Lib.hid (show parseR (toL s) = ([], 0, 0) by simp [parseR, toL_length, h0])
    have h1 := toList_nil h0
    clear h0
    go_enter Tryd.func12, Tryd.ntmps12
    go_wp2_with fail
    go_ret3
    exact parse_post H.out (own_none (Below.refl _ _))
  · have h1 : s.toList.isEmpty = false := toList_cons h0
    have HST := Lib.hid (RParseAt.start (toL s) (by rw [toL_length]; exact h0))
    have HL := Lib.hid (toL_length s)
    clear h0
    go_enter Tryd.func12, Tryd.ntmps12
    go_wp2_with fail
    go_loopg [5, 6, 7] (s.size + 1) (fun g v fr ix wr => ∃ (i frm : Nat) (acc : List Bs), g = s.size + 1 - i ∧ fr = .int .i64 frm ∧ ix = .int .i64 i ∧ StrsOwn w wr v acc ∧ ((i ≤ s.size ∧ RParseAt (toL s) i frm acc) ∨ (i = s.size + 1 ∧ parseR (toL s) = (acc, 0, 0))))
    case atStart => exact ⟨0, 0, [], by omega, rfl, rfl, own_none (Below.refl _ _), .inl ⟨by omega, HST.out⟩⟩
    case round =>
      obtain ⟨i, frm, acc, rfl, rfl, rfl, hF, hat⟩ := hrel
      rcases hat with ⟨hi, hat⟩ | ⟨hi, hd⟩
      · have hle := hat.le
        have htop := hat.top
        have t0 : decide ((i : Int) ≤ (s.size : Int)) = true := by simp; omega
        have t1 : (frm : Int) ≤ (i : Int) := by omega
        have t2 : (i : Int) ≤ (s.size : Int) := by omega
        have HXE := Lib.hid (extract_toL s frm i)
        have HXS := Lib.hid (extract_size s frm i hi)
        by_cases hskip : ∃ hlt : i < s.size, isMark (s[i]'hlt) = false
        · obtain ⟨hlt, hm⟩ := hskip
          have t3 : decide ((i : Int) < (s.size : Int)) = true := by simp; omega
          have HN := Lib.hid (hat.skip (by rw [HL.out]; exact hlt) (by rw [toL_getElem s i hlt]; exact hm))
          have hm' : ((num (s[i]'hlt)) != 33) = true := by rw [isMark_num] at hm; simpa using hm
          clear hm hat
          go_wp2_with fail
          go_roundg (s.size + 1 - (i + 1))
          case measure => omega
          case rel => exact ⟨i + 1, frm, acc, rfl, rfl, by go_num, hF, .inl ⟨by omega, HN.out⟩⟩
        · have hmk : ∀ hlt : i < (toL s).length, isMark ((toL s)[i]'hlt) = true := fun hlt => by
            have hlt' : i < s.size := by rw [HL.out] at hlt; exact hlt
            rw [toL_getElem s i hlt']
            cases hq : isMark (s[i]'hlt') with
            | true => rfl
            | false => exact absurd ⟨hlt', hq⟩ hskip
          have HMK := Lib.hid hmk
          have hil : i ≤ (toL s).length := by rw [HL.out]; exact hi
          have HSL := Lib.hid (siteF_le (cutL (toL s) frm i) (by rw [cutL_length _ _ _ hil]; omega))
          have hsz := hF.bel.size
          have hown := hF.own
          by_cases hlt : i < s.size
          · have t3 : decide ((i : Int) < (s.size : Int)) = true := by simp; omega
            have hm' : ((num (s[i]'hlt)) != 33) = false := by
              have := HMK.out (by rw [HL.out]; exact hlt)
              rw [toL_getElem s i hlt, isMark_num] at this; simpa using this
            obtain ⟨A1, c1, rfl, _⟩ := own_row hF.own
            by_cases h5 : acc.length = 50
            · have HX := Lib.hid (hat.limit hil HMK.out h5)
              rw [h5]
              clear hmk hskip hat h5 hown htop
              go_wp2_with fail
              go_ret3
              exact parse_post HX.out (own_none hF.bel)
            · have h5' : ((acc.length : Int) == 50) = false := beq_eq_false_iff_ne.2 (by omega)
              by_cases he : (siteF (cutL (toL s) frm i)).2 = 0
              · have HX := Lib.hid (hat.next (by rw [HL.out]; exact hlt) (HMK.out (by rw [HL.out]; exact hlt)) h5 he)
                have he' : ((siteF (cutL (toL s) frm i)).2 != 0) = false := by simp [he]
                clear hmk hskip hat h5 he
                go_wp2_with fail
                obtain ⟨X, hX⟩ : ∃ X, s.extract frm i = X := ⟨_, rfl⟩
                rw [hX] at HXE HXS ⊢
                have HX0 := Lib.hid hX; clear hX
                rw [← HXE.out] at he' HX HSL
                have hXs : X.size ≤ 100000 := by have := HXS.out; omega
                (with_reducible refine (ref_site X _ (le_maxLen (by omega))).mono ?_)
                rintro e w' ⟨rfl, rfl⟩
                go_wp2_with ((at_builtin; refine wpList_push el_string rfl _ _ rfl hown #[.string (s.extract frm i)] rfl rfl rfl (by simp [Value.oneCell']) (by omega) (by unfold maxLen; omega) hsz ?_; intro g cap w3 hown3 hg3 hat3))
                rw [HX0.out] at hown3
                have hF3 := hF.push1 hown3 hg3
                go_roundg (s.size + 1 - (i + 1))
                case measure => omega
                case rel => exact ⟨i + 1, i + 1, acc ++ [toL X], rfl, by go_num, by go_num, hF3, .inl ⟨by omega, HX.out⟩⟩
              · have HX := Lib.hid (hat.bad hil HMK.out h5 he)
                have he' : ((siteF (cutL (toL s) frm i)).2 != 0) = true := by simpa using he
                clear hmk hskip hat h5 he
                go_wp2_with fail
                obtain ⟨X, hX⟩ : ∃ X, s.extract frm i = X := ⟨_, rfl⟩
                rw [hX] at HXE HXS ⊢
                have HX0 := Lib.hid hX; clear hX
                rw [← HXE.out] at he' HX HSL
                have hXs : X.size ≤ 100000 := by have := HXS.out; omega
                have hs9 : (siteF (toL X)).1 ≤ 100000 := HSL.out
                (with_reducible refine (ref_site X _ (le_maxLen (by omega))).mono ?_)
                rintro e w' ⟨rfl, rfl⟩
                go_wp2_with fail
                go_ret3
                have hfin := parse_post (w := w) (w' := wr) HX.out (own_none hF.bel)
                rw [Int.natCast_add] at hfin
                exact hfin
          · have t3 : decide ((i : Int) < (s.size : Int)) = false := by simp; omega
            obtain ⟨A1, c1, rfl, _⟩ := own_row hF.own
            by_cases h5 : acc.length = 50
            · have HX := Lib.hid (hat.limit hil HMK.out h5)
              rw [h5]
              clear hmk hskip hat h5 hown htop
              go_wp2_with fail
              go_ret3
              exact parse_post HX.out (own_none hF.bel)
            · have h5' : ((acc.length : Int) == 50) = false := beq_eq_false_iff_ne.2 (by omega)
              by_cases he : (siteF (cutL (toL s) frm i)).2 = 0
              · have HX := Lib.hid (show parseR (toL s) = (acc ++ [cutL (toL s) frm i], 0, 0) by
                  have h9 : i = (toL s).length := by rw [HL.out]; omega
                  rw [h9] at hat he ⊢
                  exact hat.last h5 he)
                have he' : ((siteF (cutL (toL s) frm i)).2 != 0) = false := by simp [he]
                clear hmk hskip hat h5 he
                go_wp2_with fail
                obtain ⟨X, hX⟩ : ∃ X, s.extract frm i = X := ⟨_, rfl⟩
                rw [hX] at HXE HXS ⊢
                have HX0 := Lib.hid hX; clear hX
                rw [← HXE.out] at he' HX HSL
                have hXs : X.size ≤ 100000 := by have := HXS.out; omega
                (with_reducible refine (ref_site X _ (le_maxLen (by omega))).mono ?_)
                rintro e w' ⟨rfl, rfl⟩
                go_wp2_with ((at_builtin; refine wpList_push el_string rfl _ _ rfl hown #[.string (s.extract frm i)] rfl rfl rfl (by simp [Value.oneCell']) (by omega) (by unfold maxLen; omega) hsz ?_; intro g cap w3 hown3 hg3 hat3))
                rw [HX0.out] at hown3
                have hF3 := hF.push1 hown3 hg3
                go_roundg (s.size + 1 - (i + 1))
                case measure => omega
                case rel => exact ⟨i + 1, i + 1, acc ++ [toL X], rfl, by go_num, by go_num, hF3, .inr ⟨by omega, HX.out⟩⟩
              · have HX := Lib.hid (hat.bad hil HMK.out h5 he)
                have he' : ((siteF (cutL (toL s) frm i)).2 != 0) = true := by simpa using he
                clear hmk hskip hat h5 he
                go_wp2_with fail
                obtain ⟨X, hX⟩ : ∃ X, s.extract frm i = X := ⟨_, rfl⟩
                rw [hX] at HXE HXS ⊢
                have HX0 := Lib.hid hX; clear hX
                rw [← HXE.out] at he' HX HSL
                have hXs : X.size ≤ 100000 := by have := HXS.out; omega
                have hs9 : (siteF (toL X)).1 ≤ 100000 := HSL.out
                (with_reducible refine (ref_site X _ (le_maxLen (by omega))).mono ?_)
                rintro e w' ⟨rfl, rfl⟩
                go_wp2_with fail
                go_ret3
                have hfin := parse_post (w := w) (w' := wr) HX.out (own_none hF.bel)
                rw [Int.natCast_add] at hfin
                exact hfin
      · have t0 : decide ((i : Int) ≤ (s.size : Int)) = false := by simp; omega
        have HD := Lib.hid hd; clear hd
        go_wp2_with fail
        go_ret3
        exact parse_post HD.out hF

end Go.Proofs.YtgfgjkafkdfjpaaDoor
