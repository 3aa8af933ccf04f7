/- Walks: Crash, of the document. -/
import Derived.Test.YtlhbjmoncdljoaaD20
namespace Go.Proofs.Ytlhbjmoncdljoaa
open Go.RowKit Go.Over Go.Dev Go.Seg Go.Grow
/-- A crash under way, of the document. -/
structure JS (w : World) (A : List Value) (B gd : Nat) (dp nx : Int) (VB VC VQ : Value) (bl : List (List Int)) (ca : List Ca) (qu : List Rq) (W : World) : Prop where
  t : Two w A zD W
  rows : Rows3 W B VB VC VQ bl ca qu
  d : Blk W gd 26 [.int .i64 dp, .int .i64 nx, VB, VC, VQ]
  l3 : w.heap.size + 1 < B
  l4 : B ≤ gd
section
variable {w : World} {A : List Value} {B gd : Nat} {dp nx : Int} {VB VC VQ : Value} {bl : List (List Int)} {ca : List Ca} {qu : List Rq} {W W' : World}
theorem JS.below (h : JS w A B gd dp nx VB VC VQ bl ca qu W) (hb : Below W.heap.size W W') : JS w A B gd dp nx VB VC VQ bl ca qu W' :=
  ⟨h.t.below hb, h.rows.below hb, h.d.later hb, h.l3, h.l4⟩
theorem JS.block (h : JS w A B gd dp nx VB VC VQ bl ca qu W) {i : Nat} (hi : i < bl.length) {v : Value} {x : List Int} (hv : SlV W v x) :
    ∃ g c cur, VB = .slice (some ⟨g, 0, none⟩) bl.length c ∧ Blk W g 31 cur ∧ i < cur.length ∧ JS w A B gd dp nx VB VC VQ (bl.set i x) ca qu (W.setCell ⟨g, i, none⟩ v) := by
  obtain ⟨g, c, cur, hV, hg, hB, hl, hr⟩ := h.rows.b.store1 EB (by decide) hi (u := v) (s := x) ⟨v, rfl, hv⟩
  have l3 := h.l3
  exact ⟨g, c, cur, hV, hB, hl, h.t.far (by omega) _ _, ⟨hr, h.rows.c.far EC hB (by decide) (by decide) _ _, h.rows.q.far EQ hB (by decide) (by decide) _ _⟩, h.d.far (h.d.ne_type hB (by decide)) _, h.l3, h.l4⟩
theorem JS.emptied (h : JS w A B gd dp nx VB VC VQ bl ca qu W) : JS w A B gd dp nx VB (.slice none 0 0) (.slice none 0 0) bl [] [] ((W.setCell ⟨gd, 3, none⟩ (.slice none 0 0)).setCell ⟨gd, 4, none⟩ (.slice none 0 0)) := by
  have l3 := h.l3; have l4 := h.l4
  have hd := h.d.set 3 (.slice none 0 0)
  exact ⟨(h.t.far (by omega) _ _).far (by omega) _ _, ⟨(h.rows.b.far EB h.d (by decide) (by decide) _ _).far EB hd (by decide) (by decide) _ _, Row.nil _ _, Row.nil _ _⟩, hd.set 4 _, h.l3, h.l4⟩
end
set_option maxRecDepth 100000 in set_option maxHeartbeats 3200000 in
theorem pick_52 (pa : Option Addr) (pn pc : Nat) (picks : List Bool) (n : Nat) (W : World) (HP : Pk W pa picks) (hpn : picks.length = pn) :
    Calls Try.prog 52 #[.slice pa pn pc, .int .i64 n] W fun e W' => e = .returned (.bool (picks.getD n false)) ∧ W = W' := by
  obtain ⟨bit, hbit⟩ : ∃ b, picks.getD n false = b := ⟨_, rfl⟩
  rw [hbit]
  by_cases hlt : n < pn
  · obtain ⟨b, off, rfl, hc⟩ := HP (by omega)
    have c0 := hc n (by omega)
    rw [hbit] at c0
    clear hc hbit
    go_enter Try.func52, Try.ntmps52
    go_wp2
    go_ret
    exact ⟨rfl, rfl⟩
  · have hge : pn ≤ n := by omega
    have t1 : decide ((n : Int) < (pn : Int)) = false := by simp; omega
    rw [List.getD_eq_getElem?_getD, List.getElem?_eq_none (by omega)] at hbit
    obtain rfl : false = bit := hbit
    clear hlt
    go_enter Try.func52, Try.ntmps52
    go_wp2
    go_ret
    exact ⟨rfl, rfl⟩
set_option maxRecDepth 100000 in set_option maxHeartbeats 3200000 in
theorem crash_31 (dp nx : Int) (aB aC aQ : Option Addr) (bl : List (List Int)) (ca : List Ca) (qu : List Rq) (nB cB nC cC nQ cQ : Nat) (pa : Option Addr) (pn pc : Nat) (picks : List Bool) (w : World) (HB : Bls w aB bl) (HC : Cas w aC ca) (HQ : Rqs w aQ qu) (hB : bl.length = nB) (hC : ca.length = nC) (hQ : qu.length = nQ)
    (mB : nB ≤ 1000000) (mC : nC ≤ 1000000) (mQ : nQ ≤ 1000000) (HPK : Pk w pa picks) (hpn : picks.length = pn) :
    Calls Try.prog 31 #[.agg #[.int .i64 dp, .int .i64 nx, .slice aB nB cB, .slice aC nC cC, .slice aQ nQ cQ], .slice pa pn pc] w (DevAns (crD ⟨dp, nx, bl, ca, qu⟩ picks) w) := by
  have NB := Lib.hid hB; have NC := Lib.hid hC; have NQ := Lib.hid hQ; have NP := Lib.hid hpn
  obtain ⟨P, hP⟩ : ∃ P, crD ⟨dp, nx, bl, ca, qu⟩ picks = P := ⟨_, rfl⟩
  rw [hP]
  have HP := Lib.hid hP
  have hT0 := two_start w [.int .i64 dp, .int .i64 nx, .slice aB nB cB, .slice aC nC cC, .slice aQ nQ cQ] #[.int .i64 dp, .int .i64 nx, .slice aB nB cB, .slice aC nC cC, .slice aQ nQ cQ] rfl
  obtain ⟨w1, hw1⟩ : ∃ W, W = (w.alloc (.cells #[.int .i64 dp, .int .i64 nx, .slice aB nB cB, .slice aC nC cC, .slice aQ nQ cQ] 26)).alloc (.cells #[.int .i64 0, .int .i64 0, .slice none 0 0, .slice none 0 0, .slice none 0 0] 26) := ⟨_, rfl⟩
  have HW := Lib.hid hw1
  rw [← hw1] at hT0
  clear hB hC hQ hpn hP hw1
  obtain ⟨R, hR⟩ : ∃ R, chk ⟨dp, nx, bl, ca, qu⟩ = R := ⟨_, rfl⟩
  have HR := Lib.hid hR
  clear hR
  go_enter Try.func31, Try.ntmps31
  go_wp2_with fail
  rw [← HW.out]
  clear HW
  refine (check_14 dp nx aB aC aQ bl ca qu nB cB nC cC nQ cQ w1 (HB.below hT0.b) (HC.below hT0.b) (HQ.below hT0.b) NB.out NC.out NQ.out mB mC mQ).mono ?_
  rintro e w3 ⟨rfl, b3⟩
  rw [HR.out]
  have hT3 := hT0.below b3
  clear hT0 b3
  by_cases h0 : R = 0
  · subst h0
    have OK := chk_ok.1 HR.out
    obtain rfl := HP.out.symm.trans (crD_ok HR.out)
    have hn16 : nQ ≤ 16 := by have := ok_qu OK; simp only [NQ.out] at this; exact this
    have hnB : nB ≤ 256 := by have := OK.b2; simp only [NB.out] at this; exact this
    have hnB1 : 1 ≤ nB := by have := OK.b1; simp only [NB.out] at this; exact this
    have hnC : nC ≤ 256 := by have := ok_ca OK; simp only [NC.out] at this; exact this
    have hbl : ∀ c ∈ ca, 0 ≤ c.1 ∧ c.1 < nB := fun c hc => by
      have := OK.cb c hc; simp only [NB.out] at this
      have := ascC_lt OK.asc c hc
      omega
    have hql : ∀ q ∈ qu, q.2.1 = 2 → 0 ≤ q.2.2.1 ∧ q.2.2.1 < nB := fun q hq hk => by
      have hrq := (OK.qu _ hq).2
      simp only [NB.out] at hrq
      unfold rqE at hrq
      repeat' split at hrq
      all_goals omega
    have LL := Lib.hid (And.intro (ok_bl OK) (And.intro (ok_cl OK) (ok_ql OK)))
    have HBL := Lib.hid hbl; have HQL := Lib.hid hql
    have x0 := hT3.a.cell 0
    have x1 := hT3.a.cell 1
    have x2 := hT3.a.cell 2
    have x3 := hT3.a.cell 3
    have x4 := hT3.a.cell 4
    simp only [List.getElem?_cons_zero, List.getElem?_cons_succ] at x0 x1 x2 x3 x4
    clear OK hbl hql
    go_wp2_with fail
    refine (copy_46 dp nx aB aC aQ bl ca qu nB cB nC cC nQ cQ w3 (HB.below hT3.b) (HC.below hT3.b) (HQ.below hT3.b) NB.out NC.out NQ.out (by omega) (by omega) (by omega) LL.out.1 LL.out.2.1 LL.out.2.2).mono ?_
    rintro e w5 ⟨v, rfl, hO, b5⟩
    obtain ⟨VB, VC, VQ, a1, k1, a3, k3, a4, k4, rfl, rfl, rfl, rfl, r1, r2, r3⟩ := hO.cells
    simp only [NB.out, NC.out, NQ.out]
    have hTR : Rows3 w5 w3.heap.size (.slice a1 bl.length k1) (.slice a3 ca.length k3) (.slice a4 qu.length k4) bl ca qu := ⟨r1, r2, r3⟩
    rw [NB.out, NC.out, NQ.out] at hTR
    obtain ⟨w6, hw6⟩ : ∃ W, W = w5.alloc (.cells #[.int .i64 dp, .int .i64 nx, .slice a1 nB k1, .slice a3 nC k3, .slice a4 nQ k4] 26) := ⟨_, rfl⟩
    have hb6 : Below w5.heap.size w5 w6 := by rw [hw6]; exact below_box _ _
    have hD6 : Blk w6 w5.heap.size 26 [.int .i64 dp, .int .i64 nx, .slice a1 nB k1, .slice a3 nC k3, .slice a4 nQ k4] := by rw [hw6]; exact Blk.new w5 26 _ _ rfl
    have K7 : JS w [.int .i64 dp, .int .i64 nx, .slice aB nB cB, .slice aC nC cC, .slice aQ nQ cQ] w3.heap.size w5.heap.size dp nx (.slice a1 nB k1) (.slice a3 nC k3) (.slice a4 nQ k4) bl ca qu w6 :=
      ⟨(hT3.below b5).below hb6, hTR.below hb6, hD6, hT3.r.lt, b5.size⟩
    have HW6 := Lib.hid hw6
    obtain ⟨gd, hgd⟩ : ∃ gd, w5.heap.size = gd := ⟨_, rfl⟩
    clear r1 r2 r3 hO hTR hT3 b5 hb6 hD6 hw6
    clear x0 x1 x2 x3 x4
    go_upto_region 5 with fail
    rw [← HW6.out]
    clear HW6
    rw [hgd] at K7
    clear hgd
    go_wp2
    go_loopg [8, 9] nC (fun gg v8 v9 wr => ∃ (i : Nat) (bl' : List (List Int)), i + gg = nC ∧ v8 = .int .i64 i ∧ v9 = .int .i64 i ∧ bl'.length = nB ∧ keepC picks 0 bl ca = keepC picks i bl' (ca.drop i) ∧ JS w [.int .i64 dp, .int .i64 nx, .slice aB nB cB, .slice aC nC cC, .slice aQ nQ cQ] w3.heap.size gd dp nx (.slice a1 nB k1) (.slice a3 nC k3) (.slice a4 nQ k4) bl' ca qu wr)
    case atStart => exact ⟨0, bl, by omega, rfl, rfl, NB.out, rfl, K7⟩
    case round =>
      clear K7
      obtain ⟨i, bl2, hg, rfl, rfl, hlb, hkc, K1⟩ := hrel
      have x3 := K1.t.a.cell 3
      simp only [List.getElem?_cons_zero, List.getElem?_cons_succ] at x3
      cases gk with
      | zero =>
        obtain rfl : nC = i := by omega
        obtain ⟨bl', hbl'⟩ : ∃ x, bl2 = x := ⟨_, rfl⟩
        rw [hbl'] at hkc hlb K1
        clear hbl'
        have HKC := Lib.hid (show keepC picks 0 bl ca = bl' by rw [hkc, List.drop_eq_nil_of_le (by rw [NC.out]; exact Nat.le_refl _)]; rfl)
        have HLB := Lib.hid hlb
        clear hg hkc hlb
        go_wp2
        clear x3
        go_loopg [8, 10] nQ (fun gg v8 v10 wr => ∃ (i n : Nat) (bl2 : List (List Int)), i + gg = nQ ∧ v8 = .int .i64 n ∧ v10 = .int .i64 i ∧ n ≤ nC + i ∧ bl2.length = nB ∧ keepQ picks nC bl' qu = keepQ picks n bl2 (qu.drop i) ∧ JS w [.int .i64 dp, .int .i64 nx, .slice aB nB cB, .slice aC nC cC, .slice aQ nQ cQ] w3.heap.size gd dp nx (.slice a1 nB k1) (.slice a3 nC k3) (.slice a4 nQ k4) bl2 ca qu wr)
        case atStart => exact ⟨0, nC, bl', by omega, rfl, rfl, by omega, HLB.out, rfl, K1⟩
        case round =>
          clear K1
          obtain ⟨i, n, bl2, hg, rfl, rfl, hni, hlb, hkq, K1⟩ := hrel
          have x4 := K1.t.a.cell 4
          simp only [List.getElem?_cons_zero, List.getElem?_cons_succ] at x4
          cases gk with
          | zero =>
            obtain rfl : nQ = i := by omega
            have HKQ := Lib.hid (show keepQ picks nC bl' qu = bl2 by rw [hkq, List.drop_eq_nil_of_le (by rw [NQ.out]; exact Nat.le_refl _)]; rfl)
            have d3 := K1.d.cell 3
            have d4 := K1.d.cell 4
            have df3 := K1.d.frozen 3
            have df4 := K1.d.frozen 4
            simp only [List.getElem?_cons_zero, List.getElem?_cons_succ] at d3 d4
            have K2 := K1.emptied
            clear hg hni hlb hkq K1
            go_upto_region 21 with fail
            obtain ⟨W, hW⟩ : ∃ W, W = (wr.setCell ⟨gd, 3, none⟩ (.slice none 0 0)).setCell ⟨gd, 4, none⟩ (.slice none 0 0) := ⟨_, rfl⟩
            rw [← hW] at K2 ⊢
            clear hW d3 d4 df3 df4 x4
            have d0 := K2.d.cell 0
            have d1 := K2.d.cell 1
            have d2 := K2.d.cell 2
            have d3 := K2.d.cell 3
            have d4 := K2.d.cell 4
            simp only [List.getElem?_cons_zero, List.getElem?_cons_succ] at d0 d1 d2 d3 d4
            have y0 := K2.t.r.cell 0
            have y1 := K2.t.r.cell 1
            have y2 := K2.t.r.cell 2
            have y3 := K2.t.r.cell 3
            have y4 := K2.t.r.cell 4
            have f0 := K2.t.r.frozen 0
            have f1 := K2.t.r.frozen 1
            have f2 := K2.t.r.frozen 2
            have f3 := K2.t.r.frozen 3
            have f4 := K2.t.r.frozen 4
            simp only [zD, List.getElem?_cons_zero, List.getElem?_cons_succ] at y0 y1 y2 y3 y4
            go_wp2
            have l4 := K2.l3
            refine bodyPost_ret (results_cell_one rfl _ _ (w.heap.size + 1) _ _ _ _ _ _ rfl (set5 K2.t.r _ _ _ _ _) rfl) rfl ⟨_, rfl, ?_, below5 K2.t.b (by omega) _ _ _ _ _⟩
            simp only [NC.out, HKC.out, HKQ.out]
            exact ((K2.rows.dev5 K2.t.r _ _ _ _ _).weaken (by omega)).own _ _
          | succ gg =>
            have hin : i < nQ := by omega
            obtain ⟨⟨q1, q2, q3, s⟩, hs⟩ := get_some NQ.out hin
            have hsl := LL.out.2.2 _ (List.mem_of_getElem? hs)
            have hbk := HQL.out _ (List.mem_of_getElem? hs)
            rw [keepQ_step hs] at hkq
            obtain ⟨b, off, rfl, hc⟩ := (HQ.below K1.t.b) (by rw [NQ.out]; omega)
            obtain ⟨s1, s2, s3, a', c', s0, hc1, hc2, hc3, hbt⟩ := hc i _ hs
            obtain ⟨m, hm⟩ : ∃ m, s.length = m := ⟨_, rfl⟩
            simp only [hm] at s0 s1 s2 s3 hc1 hsl
            have HM := Lib.hid hm; have HG := Lib.hid hg; have HLB := Lib.hid hlb
            clear hc hs hm hg hlb
            by_cases hk : q2 = 2
            · subst hk
              rw [if_pos rfl] at hkq
              obtain ⟨hf0, hf1⟩ := hbk rfl
              simp only at hf0 hf1
              obtain ⟨f, rfl⟩ : ∃ f : Nat, q3 = f := ⟨q3.toNat, by omega⟩
              have hfn : f < nB := by omega
              clear hf0 hf1 hbk
              obtain ⟨g1, c1x, hV1, _, hgb1, _⟩ := K1.rows.b.get EB (by rw [HLB.out]; omega)
              rw [HLB.out] at hV1
              cases hV1
              obtain ⟨bit, hbit⟩ : ∃ bit, picks.getD n false = bit := ⟨_, rfl⟩
              have HBIT := Lib.hid hbit
              have HPW := Lib.hid (HPK.below K1.t.b)
              go_wp2_with fail
              refine (pick_52 pa pn pc picks n wr HPW.out NP.out).mono ?_
              rintro e w4 ⟨rfl, rfl⟩
              rw [hbit]
              clear hbit
              cases bit with
              | false =>
                have HKQ := Lib.hid hkq
                clear hkq
                go_wp2
                go_roundg gg
                case rel => exact ⟨i + 1, n + 1, _, by have := HG.out; omega, by go_num, by go_num, by omega, by rw [kp_len]; exact HLB.out, HKQ.out, by rw [kp_not HBIT.out]; exact K1⟩
                case measure => omega
              | true =>
                have HKQ := Lib.hid hkq
                clear hkq
                go_wp2_with fail
                clear x4
                have hg1z : g1 < wr.heap.size := hgb1
                refine wp_region_in (fun W => Blk W w.heap.size 26 [.int .i64 dp, .int .i64 nx, .slice aB nB cB, .slice aC nC cC, .slice (some ⟨b, off, none⟩) nQ cQ] ∧ Blk W gd 26 [.int .i64 dp, .int .i64 nx, .slice (some ⟨g1, 0, none⟩) nB k1, .slice a3 nC k3, .slice a4 nQ k4] ∧ W.cell? ⟨b, off + i * 4 + 2, none⟩ = some (.int .i64 (f : Int)) ∧ W.cell? ⟨b, off + i * 4 + 3, none⟩ = some (.slice a' m c')) [(true, 14), (false, 1), (true, 1), (false, 1)] [0, 1, 2, 3, 4, 5, 6, 7, 8, 9, 10, 11, 12, 13, 14, 15, 16] 16 (by kernel_rfl) (by kernel_rfl) ⟨K1.t.a.later (Below.refl _ _).drew, K1.d.later (Below.refl _ _).drew, s3, s0⟩ ?_
                intro W hW hWe
                have K2 : JS w [.int .i64 dp, .int .i64 nx, .slice aB nB cB, .slice aC nC cC, .slice (some ⟨b, off, none⟩) nQ cQ] w3.heap.size gd dp nx (.slice (some ⟨g1, 0, none⟩) nB k1) (.slice a3 nC k3) (.slice a4 nQ k4) bl2 ca qu W := by rw [hWe]; exact K1.below (Below.refl _ _).drew
                have hbW : Bt W a' s := by rw [hWe]; exact hbt.below (Below.refl _ _).drew
                clear hWe K1 hbt
                simp only [wpSegsL, inOrder, List.filterMap_cons, List.filterMap_nil, List.getElem?_cons_zero, List.getElem?_cons_succ, List.take_succ_cons, List.take_zero, List.drop_succ_cons, List.drop_zero]
                have q1 := fun z => (hold_ok (S0 := fun W => Blk W w.heap.size 26 [.int .i64 dp, .int .i64 nx, .slice aB nB cB, .slice aC nC cC, .slice (some ⟨b, off, none⟩) nQ cQ] ∧ Blk W gd 26 [.int .i64 dp, .int .i64 nx, .slice (some ⟨g1, 0, none⟩) nB k1, .slice a3 nC k3, .slice a4 nQ k4] ∧ W.cell? ⟨b, off + i * 4 + 2, none⟩ = some (.int .i64 (f : Int)) ∧ W.cell? ⟨b, off + i * 4 + 3, none⟩ = some (.slice a' m c')) hW z).1.cell 4
                have q2 := fun z => (hold_ok (S0 := fun W => Blk W w.heap.size 26 [.int .i64 dp, .int .i64 nx, .slice aB nB cB, .slice aC nC cC, .slice (some ⟨b, off, none⟩) nQ cQ] ∧ Blk W gd 26 [.int .i64 dp, .int .i64 nx, .slice (some ⟨g1, 0, none⟩) nB k1, .slice a3 nC k3, .slice a4 nQ k4] ∧ W.cell? ⟨b, off + i * 4 + 2, none⟩ = some (.int .i64 (f : Int)) ∧ W.cell? ⟨b, off + i * 4 + 3, none⟩ = some (.slice a' m c')) hW z).2.1.cell 2
                have q4 := fun z => (hold_ok (S0 := fun W => Blk W w.heap.size 26 [.int .i64 dp, .int .i64 nx, .slice aB nB cB, .slice aC nC cC, .slice (some ⟨b, off, none⟩) nQ cQ] ∧ Blk W gd 26 [.int .i64 dp, .int .i64 nx, .slice (some ⟨g1, 0, none⟩) nB k1, .slice a3 nC k3, .slice a4 nQ k4] ∧ W.cell? ⟨b, off + i * 4 + 2, none⟩ = some (.int .i64 (f : Int)) ∧ W.cell? ⟨b, off + i * 4 + 3, none⟩ = some (.slice a' m c')) hW z).2.2.1
                have q5 := fun z => (hold_ok (S0 := fun W => Blk W w.heap.size 26 [.int .i64 dp, .int .i64 nx, .slice aB nB cB, .slice aC nC cC, .slice (some ⟨b, off, none⟩) nQ cQ] ∧ Blk W gd 26 [.int .i64 dp, .int .i64 nx, .slice (some ⟨g1, 0, none⟩) nB k1, .slice a3 nC k3, .slice a4 nQ k4] ∧ W.cell? ⟨b, off + i * 4 + 2, none⟩ = some (.int .i64 (f : Int)) ∧ W.cell? ⟨b, off + i * 4 + 3, none⟩ = some (.slice a' m c')) hW z).2.2.2
                simp only [List.getElem?_cons_zero, List.getElem?_cons_succ] at q1 q2 q4 q5
                repeat (go_big_quiet_step (fail))
                refine wpQuiet_nil ?_
                clear q1 q2 q4 q5
                go_wp2_with fail
                refine (bytes_43 a' s m c' W hbW HM.out hc3 hc1 (by omega)).mono ?_
                rintro e w2 ⟨v, rfl, hv2, b2⟩
                obtain ⟨a2, c2, rfl, _, _, _, _⟩ := hv2.form HM.out
                have K3 := K2.below b2
                have z0 := cell_later b2 hW.2.2.1
                have z1 := cell_later b2 hW.2.2.2
                go_wp2
                refine ⟨hold_of (S0 := fun W => Blk W w.heap.size 26 [.int .i64 dp, .int .i64 nx, .slice aB nB cB, .slice aC nC cC, .slice (some ⟨b, off, none⟩) nQ cQ] ∧ Blk W gd 26 [.int .i64 dp, .int .i64 nx, .slice (some ⟨g1, 0, none⟩) nB k1, .slice a3 nC k3, .slice a4 nQ k4] ∧ W.cell? ⟨b, off + i * 4 + 2, none⟩ = some (.int .i64 (f : Int)) ∧ W.cell? ⟨b, off + i * 4 + 3, none⟩ = some (.slice a' m c')) ⟨K3.t.a, K3.d, z0, z1⟩, ?_⟩
                dsimp only
                show wpQuiet _ _ _ _ [_] _
                repeat (go_big_quiet_step (fail))
                refine wpQuiet_nil ?_
                obtain ⟨g1', c1', cur, hV1, hB1, hl1, K4⟩ := K3.block (i := f) (by rw [HLB.out]; exact hfn) hv2
                rw [HLB.out] at hV1
                cases hV1
                obtain ⟨u0, hu0⟩ : ∃ u, cur[f]? = some u := ⟨cur[f]'hl1, List.getElem?_eq_getElem hl1⟩
                have kc := hB1.cell f
                rw [hu0] at kc
                have kf := hB1.frozen f
                rw [← kp_set (picks := picks) (n := n) HBIT.out] at K4
                clear K2 K3 hv2 b2 hu0 hB1 hbW hW z0 z1
                go_wp2
                refine ⟨trivial, NoPanic.normal ?_⟩
                go_wp2
                go_roundg gg
                case rel => exact ⟨i + 1, n + 1, _, by have := HG.out; omega, by go_num, by go_num, by omega, by rw [kp_len]; exact HLB.out, HKQ.out, K4⟩
                case measure => omega
            · have t1 : (q2 == 2) = false := by simpa using hk
              rw [if_neg hk] at hkq
              have HKQ := Lib.hid hkq
              clear hkq hk hbk
              go_wp2
              go_roundg gg
              case rel => exact ⟨i + 1, n, bl2, by have := HG.out; omega, rfl, by go_num, by omega, HLB.out, HKQ.out, K1⟩
              case measure => omega
      | succ gg =>
        have hin : i < nC := by omega
        obtain ⟨⟨f, s⟩, hs⟩ := get_some NC.out hin
        have hsl := LL.out.2.1 _ (List.mem_of_getElem? hs)
        obtain ⟨hf0, hf1⟩ := HBL.out _ (List.mem_of_getElem? hs)
        simp only at hf0 hf1
        obtain ⟨f, rfl⟩ : ∃ f' : Nat, f = f' := ⟨f.toNat, by omega⟩
        have hfn : f < nB := by omega
        rw [keepC_step hs] at hkc
        obtain ⟨b, off, rfl, hc⟩ := (HC.below K1.t.b) (by rw [NC.out]; omega)
        obtain ⟨s1, a', c', s0, hc1, hc2, hc3, hbt⟩ := hc i _ hs
        obtain ⟨m, hm⟩ : ∃ m, s.length = m := ⟨_, rfl⟩
        simp only [hm] at s0 s1 hc1 hsl
        have HM := Lib.hid hm; have HG := Lib.hid hg; have HLB := Lib.hid hlb; have HKC := Lib.hid hkc
        clear hc hs hm hg hlb hkc hf0 hf1
        obtain ⟨g1, c1x, hV1, _, hgb1, _⟩ := K1.rows.b.get EB (by rw [HLB.out]; omega)
        rw [HLB.out] at hV1
        cases hV1
        obtain ⟨bit, hbit⟩ : ∃ bit, picks.getD i false = bit := ⟨_, rfl⟩
        have HBIT := Lib.hid hbit
        have HPW := Lib.hid (HPK.below K1.t.b)
        go_wp2_with fail
        refine (pick_52 pa pn pc picks i wr HPW.out NP.out).mono ?_
        rintro e w4 ⟨rfl, rfl⟩
        rw [hbit]
        clear hbit
        cases bit with
        | false =>
          go_wp2
          go_roundg gg
          case rel => exact ⟨i + 1, _, by have := HG.out; omega, by go_num, by go_num, by rw [kp_len]; exact HLB.out, HKC.out, by rw [kp_not HBIT.out]; exact K1⟩
          case measure => omega
        | true =>
          go_wp2_with fail
          clear x3
          have hg1z : g1 < wr.heap.size := hgb1
          refine wp_region_in (fun W => Blk W w.heap.size 26 [.int .i64 dp, .int .i64 nx, .slice aB nB cB, .slice (some ⟨b, off, none⟩) nC cC, .slice aQ nQ cQ] ∧ Blk W gd 26 [.int .i64 dp, .int .i64 nx, .slice (some ⟨g1, 0, none⟩) nB k1, .slice a3 nC k3, .slice a4 nQ k4] ∧ W.cell? ⟨b, off + i * 2, none⟩ = some (.int .i64 (f : Int)) ∧ W.cell? ⟨b, off + i * 2 + 1, none⟩ = some (.slice a' m c')) [(true, 14), (false, 1), (true, 1), (false, 1)] [0, 1, 2, 3, 4, 5, 6, 7, 8, 9, 10, 11, 12, 13, 14, 15, 16] 16 (by kernel_rfl) (by kernel_rfl) ⟨K1.t.a.later (Below.refl _ _).drew, K1.d.later (Below.refl _ _).drew, s1, s0⟩ ?_
          intro W hW hWe
          have K2 : JS w [.int .i64 dp, .int .i64 nx, .slice aB nB cB, .slice (some ⟨b, off, none⟩) nC cC, .slice aQ nQ cQ] w3.heap.size gd dp nx (.slice (some ⟨g1, 0, none⟩) nB k1) (.slice a3 nC k3) (.slice a4 nQ k4) bl2 ca qu W := by rw [hWe]; exact K1.below (Below.refl _ _).drew
          have hbW : Bt W a' s := by rw [hWe]; exact hbt.below (Below.refl _ _).drew
          clear hWe K1 hbt
          simp only [wpSegsL, inOrder, List.filterMap_cons, List.filterMap_nil, List.getElem?_cons_zero, List.getElem?_cons_succ, List.take_succ_cons, List.take_zero, List.drop_succ_cons, List.drop_zero]
          have q1 := fun z => (hold_ok (S0 := fun W => Blk W w.heap.size 26 [.int .i64 dp, .int .i64 nx, .slice aB nB cB, .slice (some ⟨b, off, none⟩) nC cC, .slice aQ nQ cQ] ∧ Blk W gd 26 [.int .i64 dp, .int .i64 nx, .slice (some ⟨g1, 0, none⟩) nB k1, .slice a3 nC k3, .slice a4 nQ k4] ∧ W.cell? ⟨b, off + i * 2, none⟩ = some (.int .i64 (f : Int)) ∧ W.cell? ⟨b, off + i * 2 + 1, none⟩ = some (.slice a' m c')) hW z).1.cell 3
          have q2 := fun z => (hold_ok (S0 := fun W => Blk W w.heap.size 26 [.int .i64 dp, .int .i64 nx, .slice aB nB cB, .slice (some ⟨b, off, none⟩) nC cC, .slice aQ nQ cQ] ∧ Blk W gd 26 [.int .i64 dp, .int .i64 nx, .slice (some ⟨g1, 0, none⟩) nB k1, .slice a3 nC k3, .slice a4 nQ k4] ∧ W.cell? ⟨b, off + i * 2, none⟩ = some (.int .i64 (f : Int)) ∧ W.cell? ⟨b, off + i * 2 + 1, none⟩ = some (.slice a' m c')) hW z).2.1.cell 2
          have q4 := fun z => (hold_ok (S0 := fun W => Blk W w.heap.size 26 [.int .i64 dp, .int .i64 nx, .slice aB nB cB, .slice (some ⟨b, off, none⟩) nC cC, .slice aQ nQ cQ] ∧ Blk W gd 26 [.int .i64 dp, .int .i64 nx, .slice (some ⟨g1, 0, none⟩) nB k1, .slice a3 nC k3, .slice a4 nQ k4] ∧ W.cell? ⟨b, off + i * 2, none⟩ = some (.int .i64 (f : Int)) ∧ W.cell? ⟨b, off + i * 2 + 1, none⟩ = some (.slice a' m c')) hW z).2.2.1
          have q5 := fun z => (hold_ok (S0 := fun W => Blk W w.heap.size 26 [.int .i64 dp, .int .i64 nx, .slice aB nB cB, .slice (some ⟨b, off, none⟩) nC cC, .slice aQ nQ cQ] ∧ Blk W gd 26 [.int .i64 dp, .int .i64 nx, .slice (some ⟨g1, 0, none⟩) nB k1, .slice a3 nC k3, .slice a4 nQ k4] ∧ W.cell? ⟨b, off + i * 2, none⟩ = some (.int .i64 (f : Int)) ∧ W.cell? ⟨b, off + i * 2 + 1, none⟩ = some (.slice a' m c')) hW z).2.2.2
          simp only [List.getElem?_cons_zero, List.getElem?_cons_succ] at q1 q2 q4 q5
          repeat (go_big_quiet_step (fail))
          refine wpQuiet_nil ?_
          clear q1 q2 q4 q5
          go_wp2_with fail
          refine (bytes_43 a' s m c' W hbW HM.out hc3 hc1 (by omega)).mono ?_
          rintro e w2 ⟨v, rfl, hv2, b2⟩
          obtain ⟨a2, c2, rfl, _, _, _, _⟩ := hv2.form HM.out
          have K3 := K2.below b2
          have z0 := cell_later b2 hW.2.2.1
          have z1 := cell_later b2 hW.2.2.2
          go_wp2
          refine ⟨hold_of (S0 := fun W => Blk W w.heap.size 26 [.int .i64 dp, .int .i64 nx, .slice aB nB cB, .slice (some ⟨b, off, none⟩) nC cC, .slice aQ nQ cQ] ∧ Blk W gd 26 [.int .i64 dp, .int .i64 nx, .slice (some ⟨g1, 0, none⟩) nB k1, .slice a3 nC k3, .slice a4 nQ k4] ∧ W.cell? ⟨b, off + i * 2, none⟩ = some (.int .i64 (f : Int)) ∧ W.cell? ⟨b, off + i * 2 + 1, none⟩ = some (.slice a' m c')) ⟨K3.t.a, K3.d, z0, z1⟩, ?_⟩
          dsimp only
          show wpQuiet _ _ _ _ [_] _
          repeat (go_big_quiet_step (fail))
          refine wpQuiet_nil ?_
          obtain ⟨g1', c1', cur, hV1, hB1, hl1, K4⟩ := K3.block (i := f) (by rw [HLB.out]; exact hfn) hv2
          rw [HLB.out] at hV1
          cases hV1
          obtain ⟨u0, hu0⟩ : ∃ u, cur[f]? = some u := ⟨cur[f]'hl1, List.getElem?_eq_getElem hl1⟩
          have kc := hB1.cell f
          rw [hu0] at kc
          have kf := hB1.frozen f
          rw [← kp_set (picks := picks) (n := i) HBIT.out] at K4
          clear K2 K3 hv2 b2 hu0 hB1 hbW hW z0 z1
          go_wp2
          refine ⟨trivial, NoPanic.normal ?_⟩
          go_wp2
          go_roundg gg
          case rel => exact ⟨i + 1, _, by have := HG.out; omega, by go_num, by go_num, by rw [kp_len]; exact HLB.out, HKC.out, K4⟩
          case measure => omega
  · have t1 : (R != 0) = true := by simpa using h0
    obtain rfl := HP.out.symm.trans (crD_chk HR.out h0)
    have y0 := hT3.r.cell 0
    have y1 := hT3.r.cell 1
    have y2 := hT3.r.cell 2
    have y3 := hT3.r.cell 3
    have y4 := hT3.r.cell 4
    have f0 := hT3.r.frozen 0
    have f1 := hT3.r.frozen 1
    have f2 := hT3.r.frozen 2
    have f3 := hT3.r.frozen 3
    have f4 := hT3.r.frozen 4
    simp only [zD, List.getElem?_cons_zero, List.getElem?_cons_succ] at y0 y1 y2 y3 y4
    go_wp2
    refine bodyPost_ret (results_cell_one rfl _ _ (w.heap.size + 1) _ _ _ _ _ _ rfl (set5 hT3.r _ _ _ _ _) rfl) rfl ⟨_, rfl, OwnD.zero _ _, below5 hT3.b (by omega) _ _ _ _ _⟩
end Go.Proofs.Ytlhbjmoncdljoaa
