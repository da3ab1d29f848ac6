/- The walk over GatewayTransports. -/
import Derived.Test.YtghjgbkhhoaebaaGreatDoorTrnS
import Derived.Test.YtghjgbkhhoaebaaGreatDoorPo38
import Derived.Test.YtghjgbkhhoaebaaGreatDoorPo44
import Derived.Test.YtghjgbkhhoaebaaGreatDoorPo4
import Derived.Deep.DeepCutAuto
namespace Go.Proofs.YtghjgbkhhoaebaaGreatDoor
set_option linter.unusedSimpArgs false
set_option linter.unusedVariables false
open Go.RowKit

def okLs (ls : List Ln) : Prop := ∀ x ∈ ls, lineE (x.min : Int) x.nick x.text = 0
/-- Between two operations. -/
structure TnI (w0 : World) (b : Nat) (i : Nat) (vh vg : Value) (last : Int) (w : World) : Prop where
  ex : ∃ A ls made read H G, TrS w0.heap.size A w b ls last made read vh vg H G ∧ H = G ++ ls ∧ okLs ls ∧ H.length ≤ i * 60
  lo : 0 ≤ last
  hi : last ≤ 105190559
  bel : Below w0.heap.size w0 w
theorem hear_ok {m last : Int} {n t : Bs} (h : hearE m n t last = 0) (ls : List Ln) (N : Bs) : hearLs ls m n t N last = (if foldEq n N then ls else ls ++ [⟨m.toNat, n, t⟩]) ∧ hearT m n t last = m := by
  unfold hearLs hearT hearL
  rw [if_pos h, if_pos h]; exact ⟨rfl, rfl⟩
theorem hear_no {m last : Int} {n t : Bs} (h : hearE m n t last ≠ 0) (ls : List Ln) (N : Bs) : hearLs ls m n t N last = ls ∧ hearT m n t last = last := by
  unfold hearLs hearT
  rw [if_neg h, if_neg h]; exact ⟨rfl, rfl⟩
theorem take_none {ls : List Ln} {last now : Int} (R : Bs) (h : takB ls last now = false) : takS R ls last now = [] ∧ takT ls last now = [] ∧ takL ls last now = ls := ⟨by unfold takS; rw [h]; rfl, by unfold takT; rw [h]; rfl, by unfold takL; rw [h]; rfl⟩
theorem take_some {ls : List Ln} {last now : Int} (h : takB ls last now = true) : takT ls last now = bodyT (ls.take 50) ∧ takL ls last now = ls.drop 50 ∧ 0 < ls.length := ⟨by unfold takT; rw [h]; rfl, by unfold takL; rw [h]; rfl, by
  unfold takB at h
  cases ls with
  | nil => simp at h
  | cons a r => simp⟩
/-- Lines gives back what Take has taken. -/
theorem lines_back (ls : List Ln) (hok : okLs ls) (hl : ls.length ≤ 50) (w : World) (hsh : w.ShapedOpen Tryz.prog) : Calls Tryz.prog 24 #[.string (ofL (bodyT ls))] w fun e w' => ∃ A c, e = .returned (.tuple #[.slice A ls.length c, .int .i64 0, .int .i64 0]) ∧ Row w' A (lnsV ls) ∧ Below w.heap.size w w' := by
  have hb := body_len hok
  refine (gw_lines (ofL (bodyT ls)) w hsh (by rw [ofL_size]; omega)).mono fun e w' h => ?_
  obtain ⟨v, rfl, ho, hbel⟩ := h
  rw [toL_ofL, lin_body ls hok] at ho ⊢
  obtain ⟨A, c, rfl, hr⟩ := own_row ho
  exact ⟨A, c, rfl, hr, hbel⟩
theorem okLs_take {ls : List Ln} (h : okLs ls) (n : Nat) : okLs (ls.take n) := fun x hx => h x (List.mem_of_mem_take hx)
theorem okLs_drop {ls : List Ln} (h : okLs ls) (n : Nat) : okLs (ls.drop n) := fun x hx => h x (List.mem_of_mem_drop hx)
theorem own_at' {v v' : Value} {n : Nat} (h : v'.ownBlock = v.ownBlock ∨ v'.ownBlock = some n) : ∀ k, v'.ownBlock = some k → v.ownBlock = some k ∨ n ≤ k := fun k e => by
  rcases h with h | h
  · rw [h] at e; exact .inl e
  · rw [h] at e; injection e with e; exact .inr (by omega)
theorem lnsV_app (a b : List Ln) : lnsV (a ++ b) = lnsV a ++ lnsV b := by simp [lnsV]

attribute [local go_sem ↓] wp_load_post
set_option maxHeartbeats 16000000 in
set_option maxRecDepth 100000 in
theorem GatewayTransports_walk {w : World} (A : Option Addr) (l : List OpR) (cp : Nat) (hr : Row w A (l.flatMap opC)) (hl : l.length ≤ maxLen) (hok : ∀ o ∈ l, OpOk o) (hsz : ∀ o ∈ l, o.N.size ≤ 1100000 ∧ o.S.size ≤ 1100000 ∧ o.B.size ≤ 1100000) (hba : Base w.heap.size w) :
    Calls Tryz.prog 7 #[.slice A l.length cp] w fun e w' => e = .returned (.bool true) ∧ Below w.heap.size w w' := by
  have HR := Lib.hid hr
  have HOK := Lib.hid hok
  have HSZ := Lib.hid hsz
  have HBA := Lib.hid hba
  have HNW := Lib.hid (gw_newS kR kG kN w hba.shaped (by decide) (by decide) (by decide) (by decide +kernel) (by decide +kernel) (by decide +kernel))
  have hl2 : l.length ≤ 9223372036854775807 := by unfold maxLen at hl; omega
  clear hr hok hba hl hsz
  go_enter Tryz.func7, Tryz.ntmps7
  go_upto_region 2 with ((go_at_call 10; (with_reducible refine HNW.out.mono ?_); rintro e w1 ⟨b, rfl, hgx, hb1⟩; have HGX := Lib.hid hgx; have HB1 := Lib.hid hb1; clear hgx hb1))
  have HKN := Lib.hid (gw_known w1 (HBA.out.step HB1.out).shaped (HBA.out.step HB1.out).tabN)
  go_wp2_with ((go_at_call 11; (with_reducible refine HKN.out.mono ?_); rintro e w2 ⟨rfl, hb2⟩; have HB2 := Lib.hid (HB1.out.trans (hb2.mono HB1.out.size)); have HG2 := Lib.hid (HGX.out.below hb2); clear hb2))
  have HI0 := Lib.hid (show TnI w b 0 (.slice none 0 0) (.slice none 0 0) 0 w2 from ⟨⟨_, [], [], [], [], [], ⟨HG2.out, World.ownsRow_nil _ _ _ _, World.ownsRow_nil _ _ _ _, (by intro k h; cases h), (by intro k h; cases h), (by intro k h; cases h)⟩, rfl, (by intro x h; cases h), by simp⟩, by omega, by omega, HB2.out⟩)
  clear HGX HB1 HG2 HB2 HNW HKN
  go_loopw [5, 6, 7, 8, 9, 10, 11, 12, 13, 14, 15, 16] (fun v5 v6 nw ix _ _ _ _ _ _ _ _ wr => ∃ (vh vg : Value) (i : Nat) (last : Int), vh = v5 ∧ vg = v6 ∧ i ≤ l.length ∧ i ≤ 20 ∧ ix = .int .i64 (i : Int) ∧ nw = .int .i64 last ∧ TnI w b i vh vg last wr) (fun _ _ _ ix _ _ _ _ _ _ _ _ _ => 20 - (intOf ix).toNat)
  case atStart => exact ⟨_, _, 0, 0, rfl, rfl, by omega, by omega, rfl, rfl, HI0.out⟩
  case round =>
    obtain ⟨vh, vg, i, last, rfl, rfl, hi, hi20, rfl, rfl, hI⟩ := hrel
    have HI := Lib.hid hI
    have hz := hI.bel.size
    have hlo := hI.lo
    have hhi := hI.hi
    clear hI HI0
    have i0 : (0 : Int) ≤ (i : Int) := by omega
    by_cases hlt : i < l.length
    · have i1 : (i : Int) < (l.length : Int) := by omega
      by_cases hltN : i < 20
      · have i2 : (i : Int) < 20 := by omega
        obtain ⟨bb, off, rfl, hbb, hop⟩ := op_at HR.out hlt
        have ho := HOK.out l[i] (List.getElem_mem hlt)
        obtain ⟨s1, s2, s3⟩ := HSZ.out l[i] (List.getElem_mem hlt)
        generalize l[i] = o at *
        obtain ⟨k, m, nk, t, f, Nm, S, B, d, r⟩ := o
        obtain ⟨hk, hm, hnk, ht, _, _, _, hd, hr⟩ := ho
        simp only at hop hk hm hnk ht hd hr s1 s2 s3
        have HOP := Lib.hid hop
        have hbr := HI.out.bel.block bb hbb
        obtain ⟨c0, c1, c2, c3, c40, _⟩ := hop wr hbr
        have HC := Lib.hid (fun wx => lw_cut m nk t hnk ht wx)
        have hc1 := short_size nk 40
        have hc2 := short_size t 450
        have hrw : wrap64 r = r := by
          have h := u8_pos hr
          simp only [wrap64]
          omega
        obtain ⟨M, hM, hM0, hM60⟩ : ∃ M : Nat, max (1 : Int) (r.tmod 60) = (M : Int) ∧ 1 ≤ M ∧ M ≤ 60 := by
          have h0 : 0 ≤ r := (u8_pos hr).1
          rw [Int.tmod_eq_emod_of_nonneg h0]
          exact ⟨(max 1 (r % 60)).toNat, by omega, by omega, by omega⟩
        clear hop hnk ht hr hk hm hd
        go_upto_region 10 with ((go_at_call 23; (with_reducible refine (HC.out _).mono ?_); rintro e w1 ⟨rfl, hb1⟩; have HB1 := Lib.hid hb1; clear hb1))
        have HLB := Lib.hid (show (w1.alloc (.cells #[.int .i64 m, .string (cut1 nk 40), .string (cut1 t 450)] 39)).heap[w1.heap.size]? = some (.cells #[.int .i64 m, .string (cut1 nk 40), .string (cut1 t 450)] 39 (0, 0)) from heap_alloc_new _ _)
        have HB2 := Lib.hid (show Below wr.heap.size wr (w1.alloc (.cells #[.int .i64 m, .string (cut1 nk 40), .string (cut1 t 450)] 39)) from HB1.out.alloc HB1.out.size _)
        obtain ⟨px, hpx⟩ : ∃ px, w1.heap.size = px := ⟨_, rfl⟩
        have hpr : wr.heap.size ≤ px := by rw [← hpx]; exact HB1.out.size
        rw [hpx] at HLB
        simp only [hpx]
        clear c0 c1 c2 c3 c40 HB1 HC hpx
        change (cut1 nk 40).size ≤ 40 at hc1
        change (cut1 t 450).size ≤ 450 at hc2
        generalize cut1 nk 40 = nk2 at *
        generalize cut1 t 450 = t2 at *
        generalize w1.alloc (.cells #[.int .i64 m, .string nk2, .string t2] 39) = W1 at *
        obtain ⟨⟨A1, ls, made, read, H, G, hT, hHG, hls, hHl⟩, _, _, hBw⟩ := HI.out
        have HT1 := Lib.hid (hT.below HB2.out)
        have HPA := Lib.hid (show (∀ g, A1 g → g ≠ px) ∧ (∀ g, vh.ownBlock = some g → g ≠ px) ∧ ∀ g, vg.ownBlock = some g → g ≠ px from
          ⟨fun g hg => by have := hT.g.lt.2 g hg; omega, fun g hg => by have := (hT.h.lt g hg).2; omega, fun g hg => by have := (hT.o.lt g hg).2; omega⟩)
        have HBW := Lib.hid (hBw.trans (HB2.out.mono hz))
        have HHG := Lib.hid hHG
        have HLS := Lib.hid hls
        have hlsl : ls.length ≤ i * 60 := by rw [hHG, List.length_append] at hHl; omega
        have hGl : G.length ≤ i * 60 := by rw [hHG, List.length_append] at hHl; omega
        have hn1 : w.heap.size ≤ W1.heap.size := HBW.out.size
        have hbb1 := HBW.out.block bb hbb
        obtain ⟨c0, _, _, _, _, cP⟩ := HOP.out W1 hbb1
        obtain ⟨l0, l1, l2⟩ : W1.cell? ⟨px, 0, none⟩ = some (.int .i64 m) ∧ W1.cell? ⟨px, 1, none⟩ = some (.string nk2) ∧ W1.cell? ⟨px, 2, none⟩ = some (.string t2) := LnC.of HLB.out
        clear hT hHG hls hBw
        by_cases h5 : k.tmod 8 = 5
        · have e5 : (k.tmod 8 == 5) = true := by simp [h5]
          clear h5 cP
          have HTK := Lib.hid (gw_take HT1.out.g hn1 (HBA.out.step HBW.out) m (by decide) (by omega) HLS.out hlo hhi)
          rcases hTB : takB ls last m with _ | _
          · have HN := Lib.hid (take_none (toL kR) hTB)
            rw [hTB, HN.out.1, HN.out.2.1, HN.out.2.2] at HTK
            clear hTB
            go_wp2_with ((go_at_call 22; (with_reducible refine HTK.out.mono ?_); rintro e w3 ⟨rfl, hg3, hf3⟩; have HG3 := Lib.hid hg3; have HF3 := Lib.hid hf3; clear hg3 hf3))
            go_roundw
            case rel => exact ⟨_, _, i + 1, last, rfl, rfl, by omega, by omega, by go_num, rfl, ⟨⟨Ext A1 W1 w3, ls, made, read, H, G, HT1.out.move HG3.out HF3.out, HHG.out, HLS.out, by omega⟩, hlo, hhi, HBW.out.trans HF3.out.bel⟩⟩
            case measure => simp [intOf] <;> omega
          · obtain ⟨ht1, ht2, ht3⟩ := take_some hTB
            rw [hTB, ht1, ht2] at HTK
            have HOK5 := Lib.hid (okLs_take HLS.out 50)
            have HOKD := Lib.hid (okLs_drop HLS.out 50)
            have HTD := Lib.hid (List.take_append_drop 50 ls)
            have hTl : (ls.take 50).length ≤ 50 := by rw [List.length_take]; omega
            clear hTB ht1 ht2
            generalize ls.take 50 = T5 at *
            generalize ls.drop 50 = D5 at *
            have HLN := Lib.hid (fun wx hx => lines_back T5 HOK5.out hTl wx hx)
            have hTL := lnsV_length T5
            have hT1' := lnsV_one T5
            obtain ⟨NT, hNT⟩ : ∃ NT, T5.length = NT := ⟨_, rfl⟩
            obtain ⟨NG, hNG⟩ : ∃ NG, G.length = NG := ⟨_, rfl⟩
            obtain ⟨LT, hLT⟩ : ∃ LT, lnsV T5 = LT := ⟨_, rfl⟩
            rw [hNT] at HLN hTl hTL
            rw [hLT] at HLN hTL hT1'
            rw [hNG] at hGl
            have HNT := Lib.hid hNT; have HNG := Lib.hid hNG; have HLT := Lib.hid hLT; have HTL := Lib.hid hTL; have HT1' := Lib.hid hT1'
            clear hNT hNG hLT hTL hT1'
            go_wp2_with (first
              | (go_at_call 22; (with_reducible refine HTK.out.mono ?_); rintro e w3 ⟨rfl, hg3, hf3⟩; have HG3 := Lib.hid hg3; have HF3 := Lib.hid hf3; clear hg3 hf3)
              | (go_at_call 24; (with_reducible refine (HLN.out w3 (HBA.out.step (HBW.out.trans HF3.out.bel)).shaped).mono ?_); rintro e w4 ⟨A6, c6, rfl, hr6, hb4⟩; have HR6 := Lib.hid hr6; have HB4 := Lib.hid hb4; have HT4 := Lib.hid ((HT1.out.move HG3.out HF3.out).below hb4); have hown4 := HT4.out.o; rw [HNG.out] at hown4; have hbs4 := Nat.le_trans hn1 (Nat.le_trans HF3.out.size hb4.size); clear hb4 hr6)
              | (at_builtin; refine wpList_pour el_Line rfl _ _ rfl hown4 rfl (A := A6) (m := NT) (c := c6) (news := LT) rfl HR6.out HTL.out HT1'.out ?q1 ?q2 ?q3 hbs4 ?_))
            case q1 => exact HR6.out.none_len HTL.out (by omega)
            case q2 => omega
            case q3 => unfold maxLen; omega
            intro vg5 w5 hown5 hg5 hat5
            have HT5 := Lib.hid (HT4.out.pushG (G' := G ++ T5) hbs4 (by rw [List.length_append, lnsV_app, HNT.out, HNG.out, HLT.out]; exact hown5) hg5 (own_at' hat5))
            have HB5 := Lib.hid (show Below w.heap.size w w5 from (HBW.out.trans (HF3.out.bel.trans (HB4.out.mono (Nat.le_trans hn1 HF3.out.size)))).grown hg5 (Nat.le_trans HBW.out.size (Nat.le_trans HF3.out.size HB4.out.size)) (fun g e => (HT4.out.o.lt g e).1))
            clear hown5 hg5 hat5 hown4
            go_wp2_with fail
            go_roundw
            case rel => exact ⟨_, _, i + 1, last, rfl, rfl, by omega, by omega, by go_num, rfl, ⟨⟨Ext A1 W1 w3, D5, made, read, H, G ++ T5, HT5.out, by rw [HHG.out, List.append_assoc, HTD.out], HOKD.out, by omega⟩, hlo, hhi, HB5.out⟩⟩
            case measure => simp [intOf] <;> omega
        · have e5 : (k.tmod 8 == 5) = false := by simp [h5]
          by_cases h67 : k.tmod 8 = 6 ∨ k.tmod 8 = 7
          · obtain ⟨o1, e1⟩ := post_of cP
            clear h5 cP
            have HRG := Lib.hid (gw_read HT1.out.g hn1 ((HBA.out.step HBW.out)) f Nm S B d s1 s2 s3)
            have hcs : ((k.tmod 8 == 6) = true) ∨ ((k.tmod 8 == 6) = false ∧ (k.tmod 8 == 7) = true) := by
              rcases h67 with h | h
              · exact .inl (by simp [h])
              · exact .inr ⟨by simp [h], by simp [h]⟩
            clear h67
            rcases hcs with e6 | ⟨e6, e7⟩
            all_goals
              go_wp2_with ((go_at_call 12; (with_reducible refine HRG.out.mono ?_); rintro e w5 hp; obtain ⟨v5, rfl, _⟩ := hp.ret; have HST := Lib.hid hp.st; have HFR := Lib.hid hp.fr; clear hp))
              go_roundw
              case rel => exact ⟨_, _, i + 1, last, rfl, rfl, by omega, by omega, by go_num, rfl, ⟨⟨A1, ls, made, _, H, G, HT1.out.moveA HST.out HFR.out, HHG.out, HLS.out, by omega⟩, hlo, hhi, HBW.out.trans HFR.out.bel⟩⟩
              case measure => simp [intOf] <;> omega
          · have e6 : (k.tmod 8 == 6) = false := by simp; omega
            have e7 : (k.tmod 8 == 7) = false := by simp; omega
            clear h5 h67 cP
            go_wp2_with fail
            obtain ⟨wo, hwo⟩ : ∃ wo : World, wo = wr := ⟨_, rfl⟩
            subst hwo
            go_loopw [5, 7, 16] (fun v5 nw kx wr => ∃ (vh2 : Value) (j : Nat) (last2 : Int) (A2 : Nat → Prop) (ls2 H2 : List Ln), vh2 = v5 ∧ j ≤ M ∧ kx = .int .i64 (j : Int) ∧ nw = .int .i64 last2 ∧ TrS w.heap.size A2 wr b ls2 last2 made read vh2 vg H2 G ∧ H2 = G ++ ls2 ∧ okLs ls2 ∧ H2.length ≤ i * 60 + j ∧ (0 ≤ last2 ∧ last2 ≤ 105190559) ∧ Below w.heap.size W1 wr ∧ wr.heap[px]? = W1.heap[px]? ∧ (∀ g, A2 g → g ≠ px) ∧ (∀ g, vh2.ownBlock = some g → g ≠ px)) (fun _ _ kx _ => M - (intOf kx).toNat)
            case atStart => exact ⟨_, 0, last, A1, ls, H, rfl, by omega, rfl, rfl, HT1.out, HHG.out, HLS.out, by omega, ⟨hlo, hhi⟩, Below.refl _ _, rfl, HPA.out.1, HPA.out.2.1⟩
            case round =>
              obtain ⟨vh2, j, last2, A2, ls2, H2, rfl, hj, rfl, rfl, hT, hHG2, hls2, hHl2, ⟨hlo2, hhi2⟩, hbr2, hpx2, hA2, hV2⟩ := hrel
              have HT2 := Lib.hid hT; have HHG2 := Lib.hid hHG2; have HLS2 := Lib.hid hls2; have HBR2 := Lib.hid hbr2; have HPX2 := Lib.hid (hpx2.trans HLB.out); have HA2 := Lib.hid hA2; have HV2 := Lib.hid hV2
              have hl2l : ls2.length ≤ i * 60 + j := by rw [hHG2, List.length_append] at hHl2; omega
              have hz2 := hbr2.size
              clear hT hHG2 hls2 hbr2 hpx2 hA2 hV2
              have j0 : (0 : Int) ≤ (j : Int) := by omega
              obtain ⟨_, _, _, _, c40, _⟩ := HOP.out wr ((HBW.out.trans HBR2.out).block bb hbb)
              by_cases hjM : j < M
              · have j1 : (j : Int) < (M : Int) := by omega
                obtain ⟨l0, l1, l2⟩ : wr.cell? ⟨px, 0, none⟩ = some (.int .i64 m) ∧ wr.cell? ⟨px, 1, none⟩ = some (.string nk2) ∧ wr.cell? ⟨px, 2, none⟩ = some (.string t2) := LnC.of HPX2.out
                have hpz := heap_lt HPX2.out
                have hn2 : w.heap.size ≤ wr.heap.size := by omega
                have HHG := Lib.hid (gw_hearX HT2.out.g hn2 m nk2 t2 (by decide) (by unfold maxLen; omega) (by omega) (by omega))
                by_cases hE : hearE m (toL nk2) (toL t2) last2 = 0
                · have HN := Lib.hid (hear_ok hE ls2 (toL kN))
                  have HLN := Lib.hid (show lineE (((m.toNat : Nat)) : Int) (toL nk2) (toL t2) = 0 from by rw [minB_nat (hear_line hE)]; exact hear_line hE)
                  have hmb := lineE_min (hear_line hE)
                  have hmn := minB_nat (hear_line hE)
                  have HLW := Lib.hid (fun wx => ref_lower nk2 wx (by unfold maxLen; omega))
                  have HFE := Lib.hid (show ((ofL (lowerL (toL nk2))).toList == ([114, 101, 108, 97, 121] : List UInt8)) = foldEq (toL nk2) (toL kN) from by
                    rw [ByteArray.toList_eq]
                    unfold foldEq
                    rw [show lowerL (toL kN) = [114, 101, 108, 97, 121] from by decide +kernel]
                    show (lowerL (toL nk2) == [114, 101, 108, 97, 121]) = _
                    rw [Bool.eq_iff_iff]; simp)
                  rw [hE, HN.out.1, HN.out.2] at HHG
                  clear hE HN
                  generalize ofL (lowerL (toL nk2)) = LW at *
                  rcases hq : foldEq (toL nk2) (toL kN) with _ | _
                  · rw [hq] at HFE HHG
                    have HHG := Lib.hid (show Calls Tryz.prog 20 _ wr fun e w' => e = .returned (.int .i64 0) ∧ GwX w.heap.size (Ext A2 wr w') w' b kR kG kN (ls2 ++ [⟨m.toNat, toL nk2, toL t2⟩]) m made read ∧ Fr w.heap.size A2 wr w' from HHG.out)
                    have q9 := HFE.out
                    clear hq
                    go_upto_region 17 with (first
                      | (go_at_call 20; (with_reducible refine HHG.out.mono ?_); rintro e w3 ⟨rfl, hg3, hf3⟩; have HG3 := Lib.hid hg3; have HF3 := Lib.hid hf3; have HX3 := Lib.hid ((hf3.oth px hpz (fun h => HA2.out px h rfl)).trans HPX2.out); obtain ⟨m0, m1, m2⟩ : w3.cell? ⟨px, 0, none⟩ = some (.int .i64 m) ∧ w3.cell? ⟨px, 1, none⟩ = some (.string nk2) ∧ w3.cell? ⟨px, 2, none⟩ = some (.string t2) := LnC.of HX3.out; clear hg3 hf3)
                      | (go_at_call 25; (with_reducible refine (HLW.out _).mono ?_); rintro e w4 ⟨rfl, hb4⟩; have HB4 := Lib.hid hb4; have HX4 := Lib.hid ((hb4.block px (heap_lt HX3.out)).trans HX3.out); clear hb4))
                    have HT4 := Lib.hid ((HT2.out.move HG3.out HF3.out).below HB4.out)
                    have hn4 : w.heap.size ≤ w4.heap.size := Nat.le_trans hn2 (Nat.le_trans HF3.out.size HB4.out.size)
                    obtain ⟨m0, m1, m2⟩ : w4.cell? ⟨px, 0, none⟩ = some (.int .i64 m) ∧ w4.cell? ⟨px, 1, none⟩ = some (.string nk2) ∧ w4.cell? ⟨px, 2, none⟩ = some (.string t2) := LnC.of HX4.out
                    have hown4 := HT4.out.h
                    obtain ⟨NH, hNH⟩ : ∃ NH, H2.length = NH := ⟨_, rfl⟩
                    obtain ⟨LH, hLH⟩ : ∃ LH, lnsV H2 = LH := ⟨_, rfl⟩
                    rw [hNH, hLH] at hown4
                    rw [hNH] at hHl2
                    have HNH := Lib.hid hNH; have HLH := Lib.hid hLH
                    clear hNH hLH
                    have hpz4 := heap_lt HX4.out
                    have HA4 := Lib.hid (show ∀ g, Ext A2 wr w3 g → g ≠ px from fun g hg => by
                      rcases hg with hg | hg
                      · exact HA2.out g hg
                      · omega)
                    go_wp2_with ((at_builtin; refine wpList_push el_Line rfl _ _ rfl hown4 #[.int .i64 m, .string nk2, .string t2] rfl rfl rfl (by simp [Value.oneCell']) (by omega) (by unfold maxLen; omega) hn4 ?_; intro g cap w5 hown5 hg5 hat5))
                    have HG5 := Lib.hid hg5
                    have hbv : ∀ k, vh2.ownBlock = some k → w.heap.size ≤ k := fun k e => (HT4.out.h.lt k e).1
                    have HT5 := Lib.hid (HT4.out.pushH (H' := H2 ++ [⟨m.toNat, toL nk2, toL t2⟩]) hn4 (by
                      rw [List.length_append, lnsV_snoc, HNH.out, HLH.out]
                      show w5.ownsRow _ _ _ _ _ (LH ++ [.int .i64 ((m.toNat : Nat) : Int), .string (ofL (toL nk2)), .string (ofL (toL t2))])
                      rw [hmn, ofL_toL, ofL_toL]; exact hown5) hg5 (fun k e => by
                      have e2 : g = k := by simpa [Value.ownBlock] using e
                      subst e2
                      rcases hat5 with h | h
                      · exact .inl h
                      · exact .inr (by omega)))
                    have HB5 := Lib.hid (show Below w.heap.size wr w5 from (HF3.out.bel.trans (HB4.out.mono (Nat.le_trans hn2 HF3.out.size))).grown hg5 (Nat.le_trans hn2 (Nat.le_trans HF3.out.size HB4.out.size)) hbv)
                    have HX5 := Lib.hid ((hg5.block px hpz4 (fun e => HV2.out px e.symm rfl)).trans (HX4.out.trans HLB.out.symm))
                    have HV5 := Lib.hid (show ∀ k, (Value.slice (some ⟨g, 0, none⟩) (NH + 1) cap).ownBlock = some k → k ≠ px from fun k e => by
                      have e2 : g = k := by simpa [Value.ownBlock] using e
                      subst e2
                      rcases hat5 with h | h
                      · exact HV2.out g h
                      · omega)
                    clear hown5 hg5 hat5 hown4
                    go_wp2_with fail
                    go_roundw
                    case rel =>
                      exact ⟨_, j + 1, m, Ext A2 wr w3, ls2 ++ [⟨m.toNat, toL nk2, toL t2⟩], H2 ++ [⟨m.toNat, toL nk2, toL t2⟩], rfl, by omega, by go_num, rfl, HT5.out, by rw [HHG2.out, List.append_assoc], fun x hx => (List.mem_append.1 hx).elim (HLS2.out x) (fun h => by rw [List.mem_singleton] at h; subst h; exact HLN.out), by rw [List.length_append, HNH.out]; simp; omega, hmb, HBR2.out.trans HB5.out, HX5.out, HA4.out, HV5.out⟩
                    case measure => simp [intOf] <;> omega
                  · rw [hq] at HFE HHG
                    have HHG := Lib.hid (show Calls Tryz.prog 20 _ wr fun e w' => e = .returned (.int .i64 0) ∧ GwX w.heap.size (Ext A2 wr w') w' b kR kG kN ls2 m made read ∧ Fr w.heap.size A2 wr w' from HHG.out)
                    have q9 := HFE.out
                    clear hq
                    go_wp2_with (first
                      | (go_at_call 20; (with_reducible refine HHG.out.mono ?_); rintro e w3 ⟨rfl, hg3, hf3⟩; have HG3 := Lib.hid hg3; have HF3 := Lib.hid hf3; have HX3 := Lib.hid ((hf3.oth px hpz (fun h => HA2.out px h rfl)).trans HPX2.out); obtain ⟨m0, m1, m2⟩ : w3.cell? ⟨px, 0, none⟩ = some (.int .i64 m) ∧ w3.cell? ⟨px, 1, none⟩ = some (.string nk2) ∧ w3.cell? ⟨px, 2, none⟩ = some (.string t2) := LnC.of HX3.out; clear hg3 hf3)
                      | (go_at_call 25; (with_reducible refine (HLW.out _).mono ?_); rintro e w4 ⟨rfl, hb4⟩; have HB4 := Lib.hid hb4; have HX4 := Lib.hid ((hb4.block px (heap_lt HX3.out)).trans HX3.out); clear hb4))
                    go_roundw
                    case rel =>
                      refine ⟨_, j + 1, m, Ext A2 wr w3, ls2, H2, rfl, by omega, by go_num, rfl, (HT2.out.move HG3.out HF3.out).below HB4.out, HHG2.out, HLS2.out, by omega, hmb, HBR2.out.trans (HF3.out.bel.trans (HB4.out.mono (Nat.le_trans hn2 HF3.out.size))), HX4.out.trans HLB.out.symm, fun g hg => ?_, HV2.out⟩
                      rcases hg with hg | hg
                      · exact HA2.out g hg
                      · omega
                    case measure => simp [intOf] <;> omega
                · have HN := Lib.hid (hear_no hE ls2 (toL kN))
                  have e9 : (hearE m (toL nk2) (toL t2) last2 == 0) = false := by simp [hE]
                  rw [HN.out.1, HN.out.2] at HHG
                  generalize hearE m (toL nk2) (toL t2) last2 = E at *
                  clear hE HN
                  go_wp2_with ((go_at_call 20; (with_reducible refine HHG.out.mono ?_); rintro e w3 ⟨rfl, hg3, hf3⟩; have HG3 := Lib.hid hg3; have HF3 := Lib.hid hf3; clear hg3 hf3))
                  go_roundw
                  case rel =>
                    refine ⟨_, j + 1, last2, Ext A2 wr w3, ls2, H2, rfl, by omega, by go_num, rfl, HT2.out.move HG3.out HF3.out, HHG2.out, HLS2.out, by omega, ⟨hlo2, hhi2⟩, HBR2.out.trans HF3.out.bel, (HF3.out.oth px hpz (fun h => HA2.out px h rfl)).trans (HPX2.out.trans HLB.out.symm), fun g hg => ?_, HV2.out⟩
                    rcases hg with hg | hg
                    · exact HA2.out g hg
                    · omega
                  case measure => simp [intOf] <;> omega
              · have j1 : (M : Int) ≤ (j : Int) := by omega
                go_wp2_with fail
                go_roundw
                case rel => exact ⟨_, _, i + 1, last2, rfl, rfl, by omega, by omega, by go_num, rfl, ⟨⟨A2, ls2, made, read, H2, G, HT2.out, HHG2.out, HLS2.out, by omega⟩, hlo2, hhi2, HBW.out.trans HBR2.out⟩⟩
                case measure => simp [intOf] <;> omega
      · have i2 : (20 : Int) ≤ (i : Int) := by omega
        have HI9 := Lib.hid HI.out
        obtain ⟨A1, ls, made, read, H, G, hT, hHG, hls, hHl⟩ := HI.out.ex
        have HT0 := Lib.hid hT; have HHG := Lib.hid hHG; have HLS := Lib.hid hls
        have hll : ls.length ≤ 1200 := by rw [hHG, List.length_append] at hHl; omega
        have hHl2 : H.length ≤ 1200 := by omega
        have HBW := Lib.hid HI.out.bel
        have x10 : IntKind.i64.wrap (last + 10) = last + 10 := IntWalk.i64_in _ (by omega)
        clear hT hHG hls
        go_wp2_with fail
        obtain ⟨wo, hwo⟩ : ∃ wo : World, wo = wr := ⟨_, rfl⟩
        subst hwo
        go_loopw [6, 17, 18, 19, 20, 21, 22, 23] (fun v6 ix _ _ _ _ _ _ wr => ∃ (vg2 : Value) (j : Nat) (A2 : Nat → Prop) (ls2 G2 : List Ln), vg2 = v6 ∧ j ≤ 40 ∧ ix = .int .i64 (j : Int) ∧ TrS w.heap.size A2 wr b ls2 last made read vh vg2 H G2 ∧ H = G2 ++ ls2 ∧ okLs ls2 ∧ ls2.length ≤ 1200 - 50 * j ∧ Below w.heap.size w wr) (fun _ ix _ _ _ _ _ _ _ => 40 - (intOf ix).toNat)
        case atStart => exact ⟨_, 0, A1, ls, G, rfl, by omega, rfl, HT0.out, HHG.out, HLS.out, by omega, HBW.out⟩
        case round =>
          obtain ⟨vg2, j, A2, ls2, G2, rfl, hj, rfl, hT, hHG2, hls2, hl2, hb2⟩ := hrel
          have HT2 := Lib.hid hT; have HHG2 := Lib.hid hHG2; have HLS2 := Lib.hid hls2; have HB2 := Lib.hid hb2
          have hn2 := hb2.size
          have hG2l : G2.length ≤ 1200 := by rw [hHG2, List.length_append] at hHl2; omega
          clear hT hHG2 hls2 hb2
          have j0 : (0 : Int) ≤ (j : Int) := by omega
          by_cases hj40 : j < 40
          · have j1 : (j : Int) < 40 := by omega
            have HTK := Lib.hid (gw_take HT2.out.g hn2 (HBA.out.step HB2.out) (last + 10) (by decide) (by omega) HLS2.out hlo hhi)
            rcases hTB : takB ls2 last (last + 10) with _ | _
            · have HN := Lib.hid (take_none (toL kR) hTB)
              rw [hTB, HN.out.1, HN.out.2.1, HN.out.2.2] at HTK
              have HE0 := Lib.hid (show ls2 = [] from by
                unfold takB at hTB
                cases ls2 with
                | nil => rfl
                | cons a r => simp at hTB)
              clear hTB
              go_upto_region 37 with (go_at_call 22; (with_reducible refine HTK.out.mono ?_); rintro e w3 ⟨rfl, hg3, hf3⟩; have HT3 := Lib.hid (HT2.out.move hg3 hf3); have HB3 := Lib.hid (HB2.out.trans hf3.bel); clear hg3 hf3)
              obtain rfl := HE0.out
              have hG := HHG2.out
              rw [List.append_nil] at hG
              subst hG
              obtain ⟨Ah, ch, hvh, hrh⟩ := own_row HT3.out.h
              obtain ⟨Ag, cg, hvg, hrg⟩ := own_row HT3.out.o
              obtain ⟨v7, m7, m8, hg7⟩ := HT3.out.g
              have HSM := Lib.hid (lw_same Ah Ag H ch cg w3 hrh hrg (by omega))
              have HG7 := Lib.hid hg7
              clear hrh hrg hg7 HT3 HT2 HT0 HHG HHG2 HI9 HI
              subst hvh
              subst hvg
              go_wp2_with (first
                | (go_at_call 14; (with_reducible refine HSM.out.mono ?_); rintro e w8 ⟨rfl, hb8⟩; have HB8 := Lib.hid hb8; have HW8 := Lib.hid (gw_waiting (HG7.out.at_.below hb8) (by simp)); clear hb8)
                | (go_at_call 19; (with_reducible refine HW8.out.mono ?_); rintro e w9 ⟨A9, c9, rfl, _, hb9⟩; have HB9 := Lib.hid (HB8.out.trans (hb9.mono HB8.out.size)); clear hb9))
              go_ret
              exact ⟨rfl, HB3.out.trans (HB9.out.mono HB3.out.size)⟩
            · obtain ⟨ht1, ht2, ht3⟩ := take_some hTB
              rw [hTB, ht1, ht2] at HTK
              have HOK5 := Lib.hid (okLs_take HLS2.out 50)
              have HOKD := Lib.hid (okLs_drop HLS2.out 50)
              have HTD := Lib.hid (List.take_append_drop 50 ls2)
              have hTl : (ls2.take 50).length ≤ 50 := by rw [List.length_take]; omega
              have hTp : 0 < (ls2.take 50).length := by rw [List.length_take]; omega
              have hDl : (ls2.drop 50).length ≤ 1200 - 50 * (j + 1) := by rw [List.length_drop]; omega
              clear hTB ht1 ht2
              generalize ls2.take 50 = T5 at *
              generalize ls2.drop 50 = D5 at *
              have HLN := Lib.hid (fun wx hx => lines_back T5 HOK5.out hTl wx hx)
              have hTL := lnsV_length T5
              have hT1' := lnsV_one T5
              obtain ⟨NT, hNT⟩ : ∃ NT, T5.length = NT := ⟨_, rfl⟩
              obtain ⟨NG, hNG⟩ : ∃ NG, G2.length = NG := ⟨_, rfl⟩
              obtain ⟨LT, hLT⟩ : ∃ LT, lnsV T5 = LT := ⟨_, rfl⟩
              rw [hNT] at HLN hTl hTL hTp
              rw [hLT] at HLN hTL hT1'
              rw [hNG] at hG2l
              have HNT := Lib.hid hNT; have HNG := Lib.hid hNG; have HLT := Lib.hid hLT; have HTL := Lib.hid hTL; have HT1' := Lib.hid hT1'
              clear hNT hNG hLT hTL hT1'
              have n0 : ((NT : Int) == 0) = false := by simp; omega
              have n1 : (NT : Int) ≤ 50 := by omega
              go_wp2_with (first
                | (go_at_call 22; (with_reducible refine HTK.out.mono ?_); rintro e w3 ⟨rfl, hg3, hf3⟩; have HG3 := Lib.hid hg3; have HF3 := Lib.hid hf3; clear hg3 hf3)
                | (go_at_call 24; (with_reducible refine (HLN.out w3 (HBA.out.step (HB2.out.trans HF3.out.bel)).shaped).mono ?_); rintro e w4 ⟨A6, c6, rfl, hr6, hb4⟩; have HR6 := Lib.hid hr6; have HB4 := Lib.hid hb4; have HT4 := Lib.hid ((HT2.out.move HG3.out HF3.out).below hb4); have hown4 := HT4.out.o; rw [HNG.out] at hown4; have hbs4 := Nat.le_trans hn2 (Nat.le_trans HF3.out.size hb4.size); clear hb4 hr6)
                | (at_builtin; refine wpList_pour el_Line rfl _ _ rfl hown4 rfl (A := A6) (m := NT) (c := c6) (news := LT) rfl HR6.out HTL.out HT1'.out ?q1 ?q2 ?q3 hbs4 ?_))
              case q1 => exact HR6.out.none_len HTL.out (by omega)
              case q2 => omega
              case q3 => unfold maxLen; omega
              intro vg5 w5 hown5 hg5 hat5
              have HT5 := Lib.hid (HT4.out.pushG (G' := G2 ++ T5) hbs4 (by rw [List.length_append, lnsV_app, HNT.out, HNG.out, HLT.out]; exact hown5) hg5 (own_at' hat5))
              have HB5 := Lib.hid (show Below w.heap.size w w5 from (HB2.out.trans (HF3.out.bel.trans (HB4.out.mono (Nat.le_trans hn2 HF3.out.size)))).grown hg5 (Nat.le_trans HB2.out.size (Nat.le_trans HF3.out.size HB4.out.size)) (fun g e => (HT4.out.o.lt g e).1))
              clear hown5 hg5 hat5 hown4
              go_wp2_with fail
              go_roundw
              case rel => exact ⟨_, j + 1, Ext A2 wr w3, D5, G2 ++ T5, rfl, by omega, by go_num, HT5.out, by rw [HHG2.out, List.append_assoc, HTD.out], HOKD.out, hDl, HB5.out⟩
              case measure => simp [intOf] <;> omega
          · have j1 : (40 : Int) ≤ (j : Int) := by omega
            have HE0 := Lib.hid (show ls2 = [] from List.eq_nil_of_length_eq_zero (by omega))
            have HT3 := HT2; have HB3 := HB2
            go_upto_region 37 with fail
            obtain rfl := HE0.out
            have hG := HHG2.out
            rw [List.append_nil] at hG
            subst hG
            obtain ⟨Ah, ch, hvh, hrh⟩ := own_row HT3.out.h
            obtain ⟨Ag, cg, hvg, hrg⟩ := own_row HT3.out.o
            obtain ⟨v7, m7, m8, hg7⟩ := HT3.out.g
            have HSM := Lib.hid (lw_same Ah Ag H ch cg wr hrh hrg (by omega))
            have HG7 := Lib.hid hg7
            clear hrh hrg hg7 HT3 HT2 HT0 HHG HHG2 HI9 HI
            subst hvh
            subst hvg
            go_wp2_with (first
              | (go_at_call 14; (with_reducible refine HSM.out.mono ?_); rintro e w8 ⟨rfl, hb8⟩; have HB8 := Lib.hid hb8; have HW8 := Lib.hid (gw_waiting (HG7.out.at_.below hb8) (by simp)); clear hb8)
              | (go_at_call 19; (with_reducible refine HW8.out.mono ?_); rintro e w9 ⟨A9, c9, rfl, _, hb9⟩; have HB9 := Lib.hid (HB8.out.trans (hb9.mono HB8.out.size)); clear hb9))
            go_ret
            exact ⟨rfl, HB3.out.trans (HB9.out.mono HB3.out.size)⟩
    · have i1 : (l.length : Int) ≤ (i : Int) := by omega
      have HI9 := Lib.hid HI.out
      obtain ⟨A1, ls, made, read, H, G, hT, hHG, hls, hHl⟩ := HI.out.ex
      have HT0 := Lib.hid hT; have HHG := Lib.hid hHG; have HLS := Lib.hid hls
      have hll : ls.length ≤ 1200 := by rw [hHG, List.length_append] at hHl; omega
      have hHl2 : H.length ≤ 1200 := by omega
      have HBW := Lib.hid HI.out.bel
      have x10 : IntKind.i64.wrap (last + 10) = last + 10 := IntWalk.i64_in _ (by omega)
      clear hT hHG hls
      go_wp2_with fail
      obtain ⟨wo, hwo⟩ : ∃ wo : World, wo = wr := ⟨_, rfl⟩
      subst hwo
      go_loopw [6, 17, 18, 19, 20, 21, 22, 23] (fun v6 ix _ _ _ _ _ _ wr => ∃ (vg2 : Value) (j : Nat) (A2 : Nat → Prop) (ls2 G2 : List Ln), vg2 = v6 ∧ j ≤ 40 ∧ ix = .int .i64 (j : Int) ∧ TrS w.heap.size A2 wr b ls2 last made read vh vg2 H G2 ∧ H = G2 ++ ls2 ∧ okLs ls2 ∧ ls2.length ≤ 1200 - 50 * j ∧ Below w.heap.size w wr) (fun _ ix _ _ _ _ _ _ _ => 40 - (intOf ix).toNat)
      case atStart => exact ⟨_, 0, A1, ls, G, rfl, by omega, rfl, HT0.out, HHG.out, HLS.out, by omega, HBW.out⟩
      case round =>
        obtain ⟨vg2, j, A2, ls2, G2, rfl, hj, rfl, hT, hHG2, hls2, hl2, hb2⟩ := hrel
        have HT2 := Lib.hid hT; have HHG2 := Lib.hid hHG2; have HLS2 := Lib.hid hls2; have HB2 := Lib.hid hb2
        have hn2 := hb2.size
        have hG2l : G2.length ≤ 1200 := by rw [hHG2, List.length_append] at hHl2; omega
        clear hT hHG2 hls2 hb2
        have j0 : (0 : Int) ≤ (j : Int) := by omega
        by_cases hj40 : j < 40
        · have j1 : (j : Int) < 40 := by omega
          have HTK := Lib.hid (gw_take HT2.out.g hn2 (HBA.out.step HB2.out) (last + 10) (by decide) (by omega) HLS2.out hlo hhi)
          rcases hTB : takB ls2 last (last + 10) with _ | _
          · have HN := Lib.hid (take_none (toL kR) hTB)
            rw [hTB, HN.out.1, HN.out.2.1, HN.out.2.2] at HTK
            have HE0 := Lib.hid (show ls2 = [] from by
              unfold takB at hTB
              cases ls2 with
              | nil => rfl
              | cons a r => simp at hTB)
            clear hTB
            go_upto_region 37 with (go_at_call 22; (with_reducible refine HTK.out.mono ?_); rintro e w3 ⟨rfl, hg3, hf3⟩; have HT3 := Lib.hid (HT2.out.move hg3 hf3); have HB3 := Lib.hid (HB2.out.trans hf3.bel); clear hg3 hf3)
            obtain rfl := HE0.out
            have hG := HHG2.out
            rw [List.append_nil] at hG
            subst hG
            obtain ⟨Ah, ch, hvh, hrh⟩ := own_row HT3.out.h
            obtain ⟨Ag, cg, hvg, hrg⟩ := own_row HT3.out.o
            obtain ⟨v7, m7, m8, hg7⟩ := HT3.out.g
            have HSM := Lib.hid (lw_same Ah Ag H ch cg w3 hrh hrg (by omega))
            have HG7 := Lib.hid hg7
            clear hrh hrg hg7 HT3 HT2 HT0 HHG HHG2 HI9 HI
            subst hvh
            subst hvg
            go_wp2_with (first
              | (go_at_call 14; (with_reducible refine HSM.out.mono ?_); rintro e w8 ⟨rfl, hb8⟩; have HB8 := Lib.hid hb8; have HW8 := Lib.hid (gw_waiting (HG7.out.at_.below hb8) (by simp)); clear hb8)
              | (go_at_call 19; (with_reducible refine HW8.out.mono ?_); rintro e w9 ⟨A9, c9, rfl, _, hb9⟩; have HB9 := Lib.hid (HB8.out.trans (hb9.mono HB8.out.size)); clear hb9))
            go_ret
            exact ⟨rfl, HB3.out.trans (HB9.out.mono HB3.out.size)⟩
          · obtain ⟨ht1, ht2, ht3⟩ := take_some hTB
            rw [hTB, ht1, ht2] at HTK
            have HOK5 := Lib.hid (okLs_take HLS2.out 50)
            have HOKD := Lib.hid (okLs_drop HLS2.out 50)
            have HTD := Lib.hid (List.take_append_drop 50 ls2)
            have hTl : (ls2.take 50).length ≤ 50 := by rw [List.length_take]; omega
            have hTp : 0 < (ls2.take 50).length := by rw [List.length_take]; omega
            have hDl : (ls2.drop 50).length ≤ 1200 - 50 * (j + 1) := by rw [List.length_drop]; omega
            clear hTB ht1 ht2
            generalize ls2.take 50 = T5 at *
            generalize ls2.drop 50 = D5 at *
            have HLN := Lib.hid (fun wx hx => lines_back T5 HOK5.out hTl wx hx)
            have hTL := lnsV_length T5
            have hT1' := lnsV_one T5
            obtain ⟨NT, hNT⟩ : ∃ NT, T5.length = NT := ⟨_, rfl⟩
            obtain ⟨NG, hNG⟩ : ∃ NG, G2.length = NG := ⟨_, rfl⟩
            obtain ⟨LT, hLT⟩ : ∃ LT, lnsV T5 = LT := ⟨_, rfl⟩
            rw [hNT] at HLN hTl hTL hTp
            rw [hLT] at HLN hTL hT1'
            rw [hNG] at hG2l
            have HNT := Lib.hid hNT; have HNG := Lib.hid hNG; have HLT := Lib.hid hLT; have HTL := Lib.hid hTL; have HT1' := Lib.hid hT1'
            clear hNT hNG hLT hTL hT1'
            have n0 : ((NT : Int) == 0) = false := by simp; omega
            have n1 : (NT : Int) ≤ 50 := by omega
            go_wp2_with (first
              | (go_at_call 22; (with_reducible refine HTK.out.mono ?_); rintro e w3 ⟨rfl, hg3, hf3⟩; have HG3 := Lib.hid hg3; have HF3 := Lib.hid hf3; clear hg3 hf3)
              | (go_at_call 24; (with_reducible refine (HLN.out w3 (HBA.out.step (HB2.out.trans HF3.out.bel)).shaped).mono ?_); rintro e w4 ⟨A6, c6, rfl, hr6, hb4⟩; have HR6 := Lib.hid hr6; have HB4 := Lib.hid hb4; have HT4 := Lib.hid ((HT2.out.move HG3.out HF3.out).below hb4); have hown4 := HT4.out.o; rw [HNG.out] at hown4; have hbs4 := Nat.le_trans hn2 (Nat.le_trans HF3.out.size hb4.size); clear hb4 hr6)
              | (at_builtin; refine wpList_pour el_Line rfl _ _ rfl hown4 rfl (A := A6) (m := NT) (c := c6) (news := LT) rfl HR6.out HTL.out HT1'.out ?q1 ?q2 ?q3 hbs4 ?_))
            case q1 => exact HR6.out.none_len HTL.out (by omega)
            case q2 => omega
            case q3 => unfold maxLen; omega
            intro vg5 w5 hown5 hg5 hat5
            have HT5 := Lib.hid (HT4.out.pushG (G' := G2 ++ T5) hbs4 (by rw [List.length_append, lnsV_app, HNT.out, HNG.out, HLT.out]; exact hown5) hg5 (own_at' hat5))
            have HB5 := Lib.hid (show Below w.heap.size w w5 from (HB2.out.trans (HF3.out.bel.trans (HB4.out.mono (Nat.le_trans hn2 HF3.out.size)))).grown hg5 (Nat.le_trans HB2.out.size (Nat.le_trans HF3.out.size HB4.out.size)) (fun g e => (HT4.out.o.lt g e).1))
            clear hown5 hg5 hat5 hown4
            go_wp2_with fail
            go_roundw
            case rel => exact ⟨_, j + 1, Ext A2 wr w3, D5, G2 ++ T5, rfl, by omega, by go_num, HT5.out, by rw [HHG2.out, List.append_assoc, HTD.out], HOKD.out, hDl, HB5.out⟩
            case measure => simp [intOf] <;> omega
        · have j1 : (40 : Int) ≤ (j : Int) := by omega
          have HE0 := Lib.hid (show ls2 = [] from List.eq_nil_of_length_eq_zero (by omega))
          have HT3 := HT2; have HB3 := HB2
          go_upto_region 37 with fail
          obtain rfl := HE0.out
          have hG := HHG2.out
          rw [List.append_nil] at hG
          subst hG
          obtain ⟨Ah, ch, hvh, hrh⟩ := own_row HT3.out.h
          obtain ⟨Ag, cg, hvg, hrg⟩ := own_row HT3.out.o
          obtain ⟨v7, m7, m8, hg7⟩ := HT3.out.g
          have HSM := Lib.hid (lw_same Ah Ag H ch cg wr hrh hrg (by omega))
          have HG7 := Lib.hid hg7
          clear hrh hrg hg7 HT3 HT2 HT0 HHG HHG2 HI9 HI
          subst hvh
          subst hvg
          go_wp2_with (first
            | (go_at_call 14; (with_reducible refine HSM.out.mono ?_); rintro e w8 ⟨rfl, hb8⟩; have HB8 := Lib.hid hb8; have HW8 := Lib.hid (gw_waiting (HG7.out.at_.below hb8) (by simp)); clear hb8)
            | (go_at_call 19; (with_reducible refine HW8.out.mono ?_); rintro e w9 ⟨A9, c9, rfl, _, hb9⟩; have HB9 := Lib.hid (HB8.out.trans (hb9.mono HB8.out.size)); clear hb9))
          go_ret
          exact ⟨rfl, HB3.out.trans (HB9.out.mono HB3.out.size)⟩
end Go.Proofs.YtghjgbkhhoaebaaGreatDoor
