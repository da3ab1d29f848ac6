import Derived.Test.YtannhfnpigiggaaGreatDoorPl18
import Derived.Lib.SlBytesConst
namespace Go.Proofs.YtannhfnpigiggaaGreatDoor
set_option linter.unusedSimpArgs false
set_option linter.unusedVariables false
open Go.RowKit
def classV(x : Option (Bs × Nat)) : Value := match x with|none=>.tuple #[.string ⟨#[]⟩, .int .i64 0]|some y=>.tuple #[.string (ofL y.1), .int .i64 (y.2 : Nat)]
def ClassPost(L : Bs)(w : World)(e : Ending)(w' : World) : Prop := e=.returned (classV (classF L))/\Below w.heap.size w w'
theorem el_bytes : Elem Tryz.prog 50 5 1 1 := Elem.of Tryz.underlying50 (z := .int .u8 0) (by kernel_rfl) rfl (by omega)
theorem pre_class(s : ByteArray)(h : (toL s)[0]?=some 91) : Lib.hasPrefix (toL s) [91, 94]=((toL s)[1]?==some 94) := by
  generalize toL s=l at *
  cases l with
  | nil=>simp at h
  | cons a r =>
    simp at h; subst h
    cases r with
    | nil=>rfl
    | cons b r =>
      simp only[Lib.hasPrefix, List.isPrefixOf, List.getElem?_cons_succ, List.getElem?_cons_zero]
      by_cases h : b=94
      · subst h; rfl
      · have h' : ¬ (94 : UInt8)=b := fun e=>h e.symm
        have e1 : ((94 : UInt8)==b)=false := beq_eq_false_iff_ne.2 h'
        have e2 : (some b==some (94 : UInt8))=false := beq_eq_false_iff_ne.2 (fun e=>h (Option.some.inj e))
        rw[e1, e2]; simp
theorem conv_own(T : TypeId)(hT : Tryz.prog.underlying T=some .string){w : World}{base : Nat}{v : Value}{l : Bs}(h : w.ownsRow base 5 1 v l.length (bytesV l)) : (convert 50 T v).run Tryz.prog w=.ok (.string (ofL l)) w := by
  rcases own_form h with⟨rfl, h0⟩|⟨g, cap, rfl, _, _, _, hc⟩
  · have : l=[] := List.eq_nil_of_length_eq_zero h0
    subst this
    rw[run_convert_bytes_string w _ _ 5 none 0 0 Tryz.underlying50 Tryz.underlying5 hT]
    rfl
  · refine run_convert_bytes_back (P := Tryz.prog) w 50 T 5 ⟨g, 0, none⟩ cap l Tryz.underlying50 Tryz.underlying5 hT (fun j hj=>?_)
    have : (⟨g, 0, none⟩ : Addr).add j=⟨g, j, none⟩ := by
      unfold Addr.add; split
      · rename_i h; subst h; rfl
      · simp
    rw[this]
    exact hc j _ (by simp[hj])
theorem nameC_cells : (bytesV nameC).toArray=#[.int .u8 43, .int .u8 45, .int .u8 46, .int .u8 48, .int .u8 49, .int .u8 50, .int .u8 51, .int .u8 52, .int .u8 53, .int .u8 54, .int .u8 55, .int .u8 56, .int .u8 57, .int .u8 95, .int .u8 97, .int .u8 98, .int .u8 99, .int .u8 100, .int .u8 101, .int .u8 102, .int .u8 103, .int .u8 104, .int .u8 105, .int .u8 106, .int .u8 107, .int .u8 108, .int .u8 109, .int .u8 110, .int .u8 111, .int .u8 112, .int .u8 113, .int .u8 114, .int .u8 115, .int .u8 116, .int .u8 117, .int .u8 118, .int .u8 119, .int .u8 120, .int .u8 121, .int .u8 122] := by kernel_rfl
theorem row_nameC(w W : World)(h : w.alloc (.cells #[.int .u8 43, .int .u8 45, .int .u8 46, .int .u8 48, .int .u8 49, .int .u8 50, .int .u8 51, .int .u8 52, .int .u8 53, .int .u8 54, .int .u8 55, .int .u8 56, .int .u8 57, .int .u8 95, .int .u8 97, .int .u8 98, .int .u8 99, .int .u8 100, .int .u8 101, .int .u8 102, .int .u8 103, .int .u8 104, .int .u8 105, .int .u8 106, .int .u8 107, .int .u8 108, .int .u8 109, .int .u8 110, .int .u8 111, .int .u8 112, .int .u8 113, .int .u8 114, .int .u8 115, .int .u8 116, .int .u8 117, .int .u8 118, .int .u8 119, .int .u8 120, .int .u8 121, .int .u8 122] 5 (40, 41))=W) : Row W (some ⟨w.heap.size, 0, none⟩) (bytesV nameC)/\Below w.heap.size w W := by
  rw[<-nameC_cells]at h
  subst h
  refine⟨Row.mk _ _ _ _ (by simp) fun j v hv=>?_, (Below.refl _ _).alloc (Nat.le_refl _) _⟩
  have hb := heap_alloc_new w (.cells (bytesV nameC).toArray 5 (40, 41))
  rw[Lib.cell_of_heap hb]
  simpa using hv
structure BytesOwn(w wr : World)(v : Value)(l : Bs) : Prop where
  own : wr.ownsRow w.heap.size 5 1 v l.length (bytesV l)
  bel : Below w.heap.size w wr
theorem BytesOwn.push{w wr w1 : World}{v v' : Value}{l : Bs}{c : UInt8}(h : BytesOwn w wr v l)(hown : w1.ownsRow w.heap.size 5 1 v' (l.length+1) (bytesV l ++ [u8 c]))(hg : wr.grownBy w1 v.ownBlock) : BytesOwn w w1 v' (l ++ [c]) := by
  refine⟨by simpa using hown, ?_⟩
  have hs := h.bel.size
  exact h.bel.grown hg hs (fun k hk=>(h.own.lt k hk).1)
def hitP(X : Bs)(neg : Bool)(c : UInt8) : Bool := X.contains c != neg
theorem filter_take(p : UInt8->Bool)(l : Bs)(k : Nat)(c : UInt8)(h : l[k]?=some c) : (l.take (k+1)).filter p=(l.take k).filter p++(if p c=true then [c] else []) := by
  obtain⟨hk, rfl⟩ := List.getElem?_eq_some_iff.1 h
  rw[List.take_succ_eq_append_getElem hk, List.filter_append]
  split<;>simp[*]
theorem classF_no(L : Bs)(neg : Bool)(fr : Nat)(h0 : (L[1]?==some 94)=neg)(hf : fr=if neg then 2 else 1)(h : (itemsF 0 true (L.drop fr)).2=0\/L[fr+(itemsF 0 true (L.drop fr)).2]?≠some 93) : classF L=none := by
  unfold classF
  simp only[h0, ← hf]
  rw[if_pos h]
theorem classF_yes(L : Bs)(neg : Bool)(fr : Nat)(h0 : (L[1]?==some 94)=neg)(hf : fr=if neg then 2 else 1)(h : (itemsF 0 true (L.drop fr)).2≠0)(h2 : L[fr+(itemsF 0 true (L.drop fr)).2]?=some 93) : classF L=some (nameC.filter (hitP (itemsF 0 true (L.drop fr)).1 neg), fr+(itemsF 0 true (L.drop fr)).2+1) := by
  unfold classF
  simp only[h0, ← hf]
  rw[if_neg (by simp[h, h2])]; rfl
theorem drop_toL(s : ByteArray)(k : Nat) : toL (s.extract k s.size)=(toL s).drop k := by
  rw[extract_toL, cutL, List.take_of_length_le]; simp[toL_length]
theorem class_post_no{L : Bs}{w w' : World}(h : classF L=none)(hb : Below w.heap.size w w') : ClassPost L w (.returned (.tuple #[.string ⟨#[]⟩, .int .i64 0])) w' := ⟨by rw[h]; rfl, hb⟩
theorem class_post_yes{L x : Bs}{n : Nat}{w w' : World}(h : classF L=some (x, n))(hb : Below w.heap.size w w') : ClassPost L w (.returned (.tuple #[.string (ofL x), .int .i64 n])) w' := ⟨by rw[h]; rfl, hb⟩
set_option maxHeartbeats 4000000 in
set_option maxRecDepth 100000 in
theorem wm_parseClass (s : ByteArray) (w : World) (hs : s.size ≤ 1000) (h91 : (toL s)[0]? = some 91) :
    Calls Tryz.prog 175 #[.string s] w (ClassPost (toL s) w) := by
  have HL := Lib.hid (toL_length s)
  have HP := Lib.hid (pre_class s h91)
  have hs1 : 1 ≤ s.size := by
    have := (List.getElem?_eq_some_iff.1 h91).1; rw [toL_length] at this; omega
  have HPF : Hid (Calls Tryz.prog 107 #[.string s, .string ⟨#[91, 94]⟩] w fun e w' => e = .returned (.bool ((toL s)[1]? == some 94)) ∧ w = w') := by
    refine Lib.hid ((Tryz.strings_HasPrefix s ⟨#[91, 94]⟩ w).mono ?_)
    rintro e w' ⟨rfl, rfl⟩
    exact ⟨ret_bool HP.out, rfl⟩
  clear h91
  rcases hneg : ((toL s)[1]? == some 94) with _ | _
  · -- the class is plain
    have HNO := Lib.hid (classF_no (toL s) false 1 hneg rfl)
    have HYES := Lib.hid (classF_yes (toL s) false 1 hneg rfl)
    rw [hneg] at HPF
    have HN := Lib.hid hneg; clear hneg
    have hx : (s.extract 1 s.size).size ≤ 1000 := by rw [extract_size _ _ _ (Nat.le_refl _)]; omega
    have HDR := Lib.hid (drop_toL s 1)
    have HIC := Lib.hid (itemsF_chars _ ((toL s).drop 1) (Nat.le_refl _) true)
    go_enter Tryz.func175, Tryz.ntmps175
    go_wp2_with fail
    (with_reducible refine HPF.out.mono ?_)
    rintro e w' ⟨rfl, rfl⟩
    go_wp2_with fail
    (with_reducible refine (wm_items (s.extract 1 s.size) w hx).mono ?_)
    rintro e w1 ⟨rfl, hb1⟩
    rw [HDR.out]
    have hn1 : (itemsF 0 true ((toL s).drop 1)).2 + 1 ≤ s.size := by
      have := HIC.out.2.2.1; rw [List.length_drop, HL.out] at this; omega
    clear HIC HDR hx HPF
    obtain ⟨X, hX⟩ : ∃ X, ofL (itemsF 0 true ((toL s).drop 1)).1 = X := ⟨_, rfl⟩
    have hXL : (itemsF 0 true ((toL s).drop 1)).1 = toL X := by rw [← hX, toL_ofL]
    rw [hXL] at HYES
    rw [hX]
    generalize (itemsF 0 true ((toL s).drop 1)).2 = n at *
    clear hX hXL
    have c0 : IntKind.i64.wrap (1 + (n : Int)) = 1 + (n : Int) := IntWalk.i64_in _ (by omega)
    by_cases hn0 : n = 0
    · have HX := Lib.hid (HNO.out (.inl hn0))
      subst hn0
      go_wp2_with fail
      go_ret2
      exact class_post_no HX.out hb1
    · have hn0' : ((n : Int) == 0) = false := beq_eq_false_iff_ne.2 (by omega)
      by_cases hne : 1 + n = s.size
      · have HX := Lib.hid (HNO.out (.inr (by rw [List.getElem?_eq_none (by rw [HL.out]; omega)]; simp)))
        have hne' : ((1 : Int) + (n : Int) == (s.size : Int)) = true := by rw [beq_iff_eq]; omega
        go_wp2_with fail
        go_ret2
        exact class_post_no HX.out hb1
      · have hne' : ((1 : Int) + (n : Int) == (s.size : Int)) = false := beq_eq_false_iff_ne.2 (by omega)
        have hlt : 1 + n < s.size := by omega
        have hi1 : (0 : Int) ≤ (1 : Int) + (n : Int) := by omega
        have hi2 : (1 : Int) + (n : Int) < (s.size : Int) := by omega
        have HB := Lib.hid (byte_at s (1 + n) hlt)
        rcases e93 : (num (s[1 + n]'hlt) == 93) with _ | _
        · have HX := Lib.hid (HNO.out (.inr (by rw [HB.out]; intro h; injection h with h; rw [h] at e93; exact absurd e93 (by decide))))
          have e93' : (num (s[1 + n]'hlt) != 93) = true := by simp [bne, e93]
          go_wp2_with fail
          go_ret2
          exact class_post_no HX.out hb1
        · have HX := Lib.hid (HYES.out hn0 (by rw [HB.out]; congr 1; have := eq_num (s[1 + n]'hlt) 93; rw [show num 93 = 93 from rfl, e93] at this; simpa using this.symm))
          have e93' : (num (s[1 + n]'hlt) != 93) = false := by simp [bne, e93]
          have kc := fun (wx : World) (C : Array Value) => Lib.run_convert_bytes_const (P := Tryz.prog) wx 50 5 C 40 40 Tryz.underlying50 Tryz.underlying5
          go_wp2_with fail
          generalize hW : w1.alloc _ = W
          obtain ⟨hrow, hB0⟩ := row_nameC w1 W hW
          have HRW := Lib.hid hrow
          have hB1 := hb1.trans (hB0.mono hb1.size)
          clear hW hrow hB0 kc c0 hne hne' hn0 hn0' e93 e93' HB HYES HNO hb1
          go_loopw [9, 42] (fun v ix wr => ∃ k : Nat, k ≤ 40 ∧ ix = .int .i64 k ∧ BytesOwn W wr v ((nameC.take k).filter (hitP (toL X) false))) (fun _ ix _ => 40 - (intOf ix).toNat)
          case atStart => exact ⟨0, by omega, rfl, ⟨World.ownsRow_nil _ _ _ _, Below.refl _ _⟩⟩
          case round =>
            obtain ⟨k, hk, rfl, hF⟩ := hrel
            by_cases hlt : k < 40
            · have hk1 : (0 : Int) ≤ (k : Int) := by omega
              have hk2 : (k : Int) < 40 := by omega
              have hkn : k < nameC.length := hlt
              obtain ⟨bb, off, hA, hcell⟩ := (HRW.out.below hF.bel).cell (k := k) (by simpa using hkn)
              rw [List.getElem_map] at hcell
              simp only [Option.some.injEq, Addr.mk.injEq] at hA
              obtain ⟨rfl, rfl, _⟩ := hA
              rw [Nat.zero_add] at hcell
              have HFS := Lib.hid (filter_take (hitP (toL X) false) nameC k nameC[k] (List.getElem?_eq_getElem hkn))
              have hlen : ((nameC.take k).filter (hitP (toL X) false)).length ≤ 40 := Nat.le_trans (List.length_filter_le _ _) (by simp; omega)
              have hsz := hF.bel.size
              have hown := hF.own
              have HF := Lib.hid hF; clear hF
              generalize nameC[k] = c at *
              have HHP := Lib.hid (show hitP (toL X) false c = ((toL X).contains c != false) from rfl)
              have hix := index_has (toL X) c
              rcases hq : (toL X).contains c with _ | _
              all_goals
                rw [hq] at hix HHP; rw [HHP.out] at HFS
                clear HHP
                go_wp2_with (first | (go_at_call 176; (with_reducible refine (idx_byte X c _).mono ?_); rintro e w' ⟨rfl, rfl⟩) | (at_builtin; refine wpList_push el_bytes rfl _ _ rfl hown #[u8 c] rfl rfl rfl (by simp [Value.oneCell']) (by omega) (by unfold maxLen; omega) hsz ?_; intro g cap w3 hown3 hg3 hat3))
                first
                  | (go_roundw
                     case rel => exact ⟨k + 1, by omega, by go_num, by rw [HFS.out, if_neg (by decide), List.append_nil]; exact HF.out⟩
                     case measure => simp [intOf] <;> omega)
                  | (have HP := Lib.hid (HF.out.push hown3 hg3)
                     go_roundw
                     case rel => exact ⟨k + 1, by omega, by go_num, by rw [HFS.out, if_pos (by decide)]; exact HP.out⟩
                     case measure => simp [intOf] <;> omega)
            · obtain rfl : k = 40 := by omega
              have HTK := Lib.hid (show nameC.take 40 = nameC from rfl)
              rw [HTK.out] at hF
              have hcv := conv_own 254 Tryz.underlying254 hF.own
              go_wp2_with fail
              go_ret2
              exact class_post_yes (by rw [HX.out]) (hB1.trans (hF.bel.mono hB1.size))
  · -- the class is negative
    have HNO := Lib.hid (classF_no (toL s) true 2 hneg rfl)
    have HYES := Lib.hid (classF_yes (toL s) true 2 hneg rfl)
    rw [hneg] at HPF
    have hs2 : 2 ≤ s.size := by
      have h := hneg
      rcases e : (toL s)[1]? with _ | c
      · rw [e] at h; simp at h
      · have := (List.getElem?_eq_some_iff.1 e).1; rw [toL_length] at this; omega
    have HN := Lib.hid hneg; clear hneg
    have hx : (s.extract 2 s.size).size ≤ 1000 := by rw [extract_size _ _ _ (Nat.le_refl _)]; omega
    have HDR := Lib.hid (drop_toL s 2)
    have HIC := Lib.hid (itemsF_chars _ ((toL s).drop 2) (Nat.le_refl _) true)
    go_enter Tryz.func175, Tryz.ntmps175
    go_wp2_with fail
    (with_reducible refine HPF.out.mono ?_)
    rintro e w' ⟨rfl, rfl⟩
    go_wp2_with fail
    (with_reducible refine (wm_items (s.extract 2 s.size) w hx).mono ?_)
    rintro e w1 ⟨rfl, hb1⟩
    rw [HDR.out]
    have hn1 : (itemsF 0 true ((toL s).drop 2)).2 + 2 ≤ s.size := by
      have := HIC.out.2.2.1; rw [List.length_drop, HL.out] at this; omega
    clear HIC HDR hx HPF
    obtain ⟨X, hX⟩ : ∃ X, ofL (itemsF 0 true ((toL s).drop 2)).1 = X := ⟨_, rfl⟩
    have hXL : (itemsF 0 true ((toL s).drop 2)).1 = toL X := by rw [← hX, toL_ofL]
    rw [hXL] at HYES
    rw [hX]
    generalize (itemsF 0 true ((toL s).drop 2)).2 = n at *
    clear hX hXL
    have c0 : IntKind.i64.wrap (2 + (n : Int)) = 2 + (n : Int) := IntWalk.i64_in _ (by omega)
    by_cases hn0 : n = 0
    · have HX := Lib.hid (HNO.out (.inl hn0))
      subst hn0
      go_wp2_with fail
      go_ret2
      exact class_post_no HX.out hb1
    · have hn0' : ((n : Int) == 0) = false := beq_eq_false_iff_ne.2 (by omega)
      by_cases hne : 2 + n = s.size
      · have HX := Lib.hid (HNO.out (.inr (by rw [List.getElem?_eq_none (by rw [HL.out]; omega)]; simp)))
        have hne' : ((2 : Int) + (n : Int) == (s.size : Int)) = true := by rw [beq_iff_eq]; omega
        go_wp2_with fail
        go_ret2
        exact class_post_no HX.out hb1
      · have hne' : ((2 : Int) + (n : Int) == (s.size : Int)) = false := beq_eq_false_iff_ne.2 (by omega)
        have hlt : 2 + n < s.size := by omega
        have hi1 : (0 : Int) ≤ (2 : Int) + (n : Int) := by omega
        have hi2 : (2 : Int) + (n : Int) < (s.size : Int) := by omega
        have HB := Lib.hid (byte_at s (2 + n) hlt)
        rcases e93 : (num (s[2 + n]'hlt) == 93) with _ | _
        · have HX := Lib.hid (HNO.out (.inr (by rw [HB.out]; intro h; injection h with h; rw [h] at e93; exact absurd e93 (by decide))))
          have e93' : (num (s[2 + n]'hlt) != 93) = true := by simp [bne, e93]
          go_wp2_with fail
          go_ret2
          exact class_post_no HX.out hb1
        · have HX := Lib.hid (HYES.out hn0 (by rw [HB.out]; congr 1; have := eq_num (s[2 + n]'hlt) 93; rw [show num 93 = 93 from rfl, e93] at this; simpa using this.symm))
          have e93' : (num (s[2 + n]'hlt) != 93) = false := by simp [bne, e93]
          have kc := fun (wx : World) (C : Array Value) => Lib.run_convert_bytes_const (P := Tryz.prog) wx 50 5 C 40 40 Tryz.underlying50 Tryz.underlying5
          go_wp2_with fail
          generalize hW : w1.alloc _ = W
          obtain ⟨hrow, hB0⟩ := row_nameC w1 W hW
          have HRW := Lib.hid hrow
          have hB1 := hb1.trans (hB0.mono hb1.size)
          clear hW hrow hB0 kc c0 hne hne' hn0 hn0' e93 e93' HB HYES HNO hb1
          go_loopw [9, 42] (fun v ix wr => ∃ k : Nat, k ≤ 40 ∧ ix = .int .i64 k ∧ BytesOwn W wr v ((nameC.take k).filter (hitP (toL X) true))) (fun _ ix _ => 40 - (intOf ix).toNat)
          case atStart => exact ⟨0, by omega, rfl, ⟨World.ownsRow_nil _ _ _ _, Below.refl _ _⟩⟩
          case round =>
            obtain ⟨k, hk, rfl, hF⟩ := hrel
            by_cases hlt : k < 40
            · have hk1 : (0 : Int) ≤ (k : Int) := by omega
              have hk2 : (k : Int) < 40 := by omega
              have hkn : k < nameC.length := hlt
              obtain ⟨bb, off, hA, hcell⟩ := (HRW.out.below hF.bel).cell (k := k) (by simpa using hkn)
              rw [List.getElem_map] at hcell
              simp only [Option.some.injEq, Addr.mk.injEq] at hA
              obtain ⟨rfl, rfl, _⟩ := hA
              rw [Nat.zero_add] at hcell
              have HFS := Lib.hid (filter_take (hitP (toL X) true) nameC k nameC[k] (List.getElem?_eq_getElem hkn))
              have hlen : ((nameC.take k).filter (hitP (toL X) true)).length ≤ 40 := Nat.le_trans (List.length_filter_le _ _) (by simp; omega)
              have hsz := hF.bel.size
              have hown := hF.own
              have HF := Lib.hid hF; clear hF
              generalize nameC[k] = c at *
              have HHP := Lib.hid (show hitP (toL X) true c = ((toL X).contains c != true) from rfl)
              have hix := index_has (toL X) c
              rcases hq : (toL X).contains c with _ | _
              all_goals
                rw [hq] at hix HHP; rw [HHP.out] at HFS
                clear HHP
                go_wp2_with (first | (go_at_call 176; (with_reducible refine (idx_byte X c _).mono ?_); rintro e w' ⟨rfl, rfl⟩) | (at_builtin; refine wpList_push el_bytes rfl _ _ rfl hown #[u8 c] rfl rfl rfl (by simp [Value.oneCell']) (by omega) (by unfold maxLen; omega) hsz ?_; intro g cap w3 hown3 hg3 hat3))
                first
                  | (go_roundw
                     case rel => exact ⟨k + 1, by omega, by go_num, by rw [HFS.out, if_neg (by decide), List.append_nil]; exact HF.out⟩
                     case measure => simp [intOf] <;> omega)
                  | (have HP := Lib.hid (HF.out.push hown3 hg3)
                     go_roundw
                     case rel => exact ⟨k + 1, by omega, by go_num, by rw [HFS.out, if_pos (by decide)]; exact HP.out⟩
                     case measure => simp [intOf] <;> omega)
            · obtain rfl : k = 40 := by omega
              have HTK := Lib.hid (show nameC.take 40 = nameC from rfl)
              rw [HTK.out] at hF
              have hcv := conv_own 254 Tryz.underlying254 hF.own
              go_wp2_with fail
              go_ret2
              exact class_post_yes (by rw [HX.out]) (hB1.trans (hF.bel.mono hB1.size))
end Go.Proofs.YtannhfnpigiggaaGreatDoor
