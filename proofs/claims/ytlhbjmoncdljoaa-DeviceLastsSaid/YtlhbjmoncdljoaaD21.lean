/- Walks: Crash, of the program. -/
import Derived.Test.YtlhbjmoncdljoaaD20
import Derived.Laws.EntriesVeiled
namespace Go.Proofs.Ytlhbjmoncdljoaa
open Go.RowKit Go.Over Go.Dev Go.Seg Go.Grow
set_option maxRecDepth 100000 in set_option maxHeartbeats 3200000 in
theorem crash_30 (dp nx : Int) (aB aC aQ : Option Addr) (bl : List (List Int)) (ca : List Ca) (qu : List Rq) (nB cB nC cC nQ cQ : Nat) (pa : Option Addr) (pn pc : Nat) (picks : List Bool) (w : World) (HB : Bls w aB bl) (HC : Cas w aC ca) (HQ : Rqs w aQ qu) (hB : bl.length = nB) (hC : ca.length = nC) (hQ : qu.length = nQ)
    (mB : nB ≤ 1000000) (mC : nC ≤ 1000000) (mQ : nQ ≤ 1000000) (HPK : Pk w pa picks) (hpn : picks.length = pn) :
    Calls Try.prog 30 #[.agg #[.int .i64 dp, .int .i64 nx, .slice aB nB cB, .slice aC nC cC, .slice aQ nQ cQ], .slice pa pn pc] w (DevAns (crD ⟨dp, nx, bl, ca, qu⟩ picks) w) := by
  have NB := Lib.hid hB; have NC := Lib.hid hC; have NQ := Lib.hid hQ; have NP := Lib.hid hpn
  obtain ⟨P, hP⟩ : ∃ P, crD ⟨dp, nx, bl, ca, qu⟩ picks = P := ⟨_, rfl⟩
  rw [hP]
  have HP := Lib.hid hP
  obtain ⟨w0, hw0⟩ : ∃ W, W = (w.alloc (.cells #[.int .i64 dp, .int .i64 nx, .slice aB nB cB, .slice aC nC cC, .slice aQ nQ cQ] 26)).alloc (.cells #[.slice pa pn pc] 47) := ⟨_, rfl⟩
  obtain ⟨w1, hw1⟩ : ∃ W, W = w0.alloc (.cells #[.int .i64 0, .int .i64 0, .slice none 0 0, .slice none 0 0, .slice none 0 0] 26) := ⟨_, rfl⟩
  have hs0 : w0.heap.size = w.heap.size + 1 + 1 := by rw [hw0]; simp
  have hA0 : Blk w0 w.heap.size 26 [.int .i64 dp, .int .i64 nx, .slice aB nB cB, .slice aC nC cC, .slice aQ nQ cQ] := by rw [hw0]; exact (Blk.new w 26 _ _ rfl).alloc _
  have hP0 : Blk w0 (w.heap.size + 1) 47 [.slice pa pn pc] := by
    rw [hw0]
    have := Blk.new (w.alloc (.cells #[.int .i64 dp, .int .i64 nx, .slice aB nB cB, .slice aC nC cC, .slice aQ nQ cQ] 26)) 47 #[.slice pa pn pc] [.slice pa pn pc] rfl
    simpa using this
  have hb0 : Below w.heap.size w w0 := by rw [hw0]; exact below_alloc (below_box _ _) _
  have hA1 : Blk w1 w.heap.size 26 [.int .i64 dp, .int .i64 nx, .slice aB nB cB, .slice aC nC cC, .slice aQ nQ cQ] := by rw [hw1]; exact hA0.alloc _
  have hP1 : Blk w1 (w.heap.size + 1) 47 [.slice pa pn pc] := by rw [hw1]; exact hP0.alloc _
  have hR1 : Blk w1 (w.heap.size + 1 + 1) 26 zD := by rw [hw1, ← hs0]; exact Blk.new w0 26 _ _ rfl
  have hb1 : Below w.heap.size w w1 := by rw [hw1]; exact below_alloc hb0 _
  have hz1 : w.heap.size + 1 + 1 < w1.heap.size := by rw [hw1]; simp [hs0]
  have HW := Lib.hid (show w1 = ((w.alloc (.cells #[.int .i64 dp, .int .i64 nx, .slice aB nB cB, .slice aC nC cC, .slice aQ nQ cQ] 26)).alloc (.cells #[.slice pa pn pc] 47)).alloc (.cells #[.int .i64 0, .int .i64 0, .slice none 0 0, .slice none 0 0, .slice none 0 0] 26) by rw [hw1, hw0])
  clear hB hC hQ hpn hP hw1 hw0 hs0 hA0 hP0 hb0
  obtain ⟨R, hR⟩ : ∃ R, chk ⟨dp, nx, bl, ca, qu⟩ = R := ⟨_, rfl⟩
  have HR := Lib.hid hR
  clear hR
  go_enter Try.func30, Try.ntmps30
  go_wp2_with fail
  rw [← HW.out]
  clear HW
  refine (check_13 dp nx aB aC aQ bl ca qu nB cB nC cC nQ cQ w1 (HB.below hb1) (HC.below hb1) (HQ.below hb1) NB.out NC.out NQ.out mB mC mQ).mono ?_
  rintro e w3 ⟨rfl, b3⟩
  rw [HR.out]
  have hA3 := hA1.later b3
  have hP3 := hP1.later b3
  have hR3 := hR1.later b3
  have hz3 := Nat.lt_of_lt_of_le hz1 b3.size
  have hb3 := below_then hb1 b3
  clear hA1 hP1 hR1 hb1 hz1 b3
  by_cases h0 : R = 0
  · subst h0
    have OK := chk_ok.1 HR.out
    obtain rfl := HP.out.symm.trans (crD_ok HR.out)
    have hn16 : nQ ≤ 16 := by have := ok_qu OK; simp only [NQ.out] at this; exact this
    have hnB : nB ≤ 256 := by have := OK.b2; simp only [NB.out] at this; exact this
    have hnC : nC ≤ 256 := by have := ok_ca OK; simp only [NC.out] at this; exact this
    have hbl : ∀ c ∈ ca, 0 ≤ c.1 ∧ c.1 < nB := fun c hc => by
      have := OK.cb c hc; simp only [NB.out] at this
      have := ascC_lt OK.asc c hc
      omega
    have hql : ∀ q ∈ qu, q.2.1 = 2 → 0 ≤ q.2.2.1 ∧ q.2.2.1 < nB := fun q hq hk => by
      have hrq := (OK.qu _ hq).2
      simp only [NB.out] at hrq
      unfold rqE at hrq
      repeat' split at hrq
      all_goals omega
    have LL := Lib.hid (And.intro (ok_bl OK) (And.intro (ok_cl OK) (ok_ql OK)))
    have HBL := Lib.hid hbl; have HQL := Lib.hid hql
    have x0 := hA3.cell 0
    have x1 := hA3.cell 1
    have x2 := hA3.cell 2
    have x3 := hA3.cell 3
    have x4 := hA3.cell 4
    simp only [List.getElem?_cons_zero, List.getElem?_cons_succ] at x0 x1 x2 x3 x4
    clear OK hbl hql
    go_wp2_with fail
    refine (clone_45 dp nx aB aC aQ bl ca qu nB cB nC cC nQ cQ w3 (HB.below hb3) (HC.below hb3) (HQ.below hb3) NB.out NC.out NQ.out (by omega) (by omega) (by omega) LL.out.1 LL.out.2.1 LL.out.2.2).mono ?_
    rintro e w5 ⟨v, rfl, hO, b5⟩
    obtain ⟨VB, VC, VQ, a1, k1, a3, k3, a4, k4, rfl, rfl, rfl, rfl, r1, r2, r3⟩ := hO.cells
    simp only [NB.out, NC.out, NQ.out]
    have hTR : Rows3 w5 w3.heap.size (.slice a1 bl.length k1) (.slice a3 ca.length k3) (.slice a4 qu.length k4) bl ca qu := ⟨r1, r2, r3⟩
    rw [NB.out, NC.out, NQ.out] at hTR
    obtain ⟨w6, hw6⟩ : ∃ W, W = w5.alloc (.cells #[.int .i64 dp, .int .i64 nx, .slice a1 nB k1, .slice a3 nC k3, .slice a4 nQ k4] 26) := ⟨_, rfl⟩
    have hb6 : Below w5.heap.size w5 w6 := by rw [hw6]; exact below_box _ _
    have hD6 : Blk w6 w5.heap.size 26 [.int .i64 dp, .int .i64 nx, .slice a1 nB k1, .slice a3 nC k3, .slice a4 nQ k4] := by rw [hw6]; exact Blk.new w5 26 _ _ rfl
    have hb7 := below_box w6 (.cells #[.int .i64 0] 3)
    have hN7 := Blk.new w6 3 #[.int .i64 0] [.int .i64 0] rfl
    have hlt6 : w5.heap.size < w6.heap.size := hD6.lt
    have K7 : KS w [.int .i64 dp, .int .i64 nx, .slice aB nB cB, .slice aC nC cC, .slice aQ nQ cQ] (.slice pa pn pc) (w.heap.size + 1) (w.heap.size + 1 + 1) w3.heap.size w5.heap.size w6.heap.size dp nx (.slice a1 nB k1) (.slice a3 nC k3) (.slice a4 nQ k4) 0 bl ca qu (w6.alloc (.cells #[.int .i64 0] 3)) :=
      ⟨below_then (below_then (below_then hb3 b5) hb6) hb7, ((hA3.later b5).later hb6).later hb7, ((hP3.later b5).later hb6).later hb7, ((hR3.later b5).later hb6).later hb7, (hTR.below hb6).below hb7, hD6.later hb7, hN7, by omega, by omega, hz3, b5.size, hlt6⟩
    have HW6 := Lib.hid hw6
    obtain ⟨gd, hgd⟩ : ∃ gd, w5.heap.size = gd := ⟨_, rfl⟩
    clear r1 r2 r3 hO hTR hA3 hP3 hR3 b5 hb6 hD6 hb7 hN7 hw6 hlt6
    clear x0 x1 x2 x3 x4
    go_upto_region 5 with fail
    rw [← HW6.out]
    clear HW6
    rw [hgd] at K7
    clear hgd
    go_upto_region 6 with fail
    obtain ⟨w7, hw7⟩ : ∃ W, W = w6.alloc (.cells #[.int .i64 0] 3) := ⟨_, rfl⟩
    rw [← hw7] at K7 ⊢
    obtain ⟨gn, hgn⟩ : ∃ gn, w6.heap.size = gn := ⟨_, rfl⟩
    rw [hgn] at K7 ⊢
    clear hw7 hgn
    have x3 := K7.a.cell 3
    simp only [List.getElem?_cons_zero, List.getElem?_cons_succ] at x3
    go_wp2
    clear x3
    go_loopg [26] nC (fun gg v26 wr => ∃ (i : Nat) (bl' : List (List Int)), i + gg = nC ∧ v26 = .int .i64 i ∧ bl'.length = nB ∧ keepC picks 0 bl ca = keepC picks i bl' (ca.drop i) ∧ KS w [.int .i64 dp, .int .i64 nx, .slice aB nB cB, .slice aC nC cC, .slice aQ nQ cQ] (.slice pa pn pc) (w.heap.size + 1) (w.heap.size + 1 + 1) w3.heap.size gd gn dp nx (.slice a1 nB k1) (.slice a3 nC k3) (.slice a4 nQ k4) i bl' ca qu wr)
    case atStart => exact ⟨0, bl, by omega, rfl, NB.out, rfl, K7⟩
    case round =>
      clear K7
      obtain ⟨i, bl', hg, rfl, hlb, hkc, K1⟩ := hrel
      cases gk with
      | zero =>
        obtain rfl : nC = i := by omega
        have HKC := Lib.hid (show keepC picks 0 bl ca = bl' by rw [hkc, List.drop_eq_nil_of_le (by rw [NC.out]; exact Nat.le_refl _)]; rfl)
        have x4 := K1.a.cell 4
        simp only [List.getElem?_cons_zero, List.getElem?_cons_succ] at x4
        have HLB := Lib.hid hlb
        clear hg hkc hlb
        go_wp2
        clear x4
        go_loopg [40] nQ (fun gg v40 wr => ∃ (i n : Nat) (bl2 : List (List Int)), i + gg = nQ ∧ v40 = .int .i64 i ∧ n ≤ nC + i ∧ bl2.length = nB ∧ keepQ picks nC bl' qu = keepQ picks n bl2 (qu.drop i) ∧ KS w [.int .i64 dp, .int .i64 nx, .slice aB nB cB, .slice aC nC cC, .slice aQ nQ cQ] (.slice pa pn pc) (w.heap.size + 1) (w.heap.size + 1 + 1) w3.heap.size gd gn dp nx (.slice a1 nB k1) (.slice a3 nC k3) (.slice a4 nQ k4) n bl2 ca qu wr)
        case atStart => exact ⟨0, nC, bl', by omega, rfl, by omega, HLB.out, rfl, K1⟩
        case round =>
          clear K1
          obtain ⟨i, n, bl2, hg, rfl, hni, hlb, hkq, K1⟩ := hrel
          cases gk with
          | zero =>
            obtain rfl : nQ = i := by omega
            have HKQ := Lib.hid (show keepQ picks nC bl' qu = bl2 by rw [hkq, List.drop_eq_nil_of_le (by rw [NQ.out]; exact Nat.le_refl _)]; rfl)
            have d3 := K1.d.cell 3
            have d4 := K1.d.cell 4
            have df3 := K1.d.frozen 3
            have df4 := K1.d.frozen 4
            simp only [List.getElem?_cons_zero, List.getElem?_cons_succ] at d3 d4
            have K2 := K1.emptied
            clear hg hni hlb hkq K1
            go_upto_region 19 with fail
            obtain ⟨W, hW⟩ : ∃ W, W = (wr.setCell ⟨gd, 3, none⟩ (.slice none 0 0)).setCell ⟨gd, 4, none⟩ (.slice none 0 0) := ⟨_, rfl⟩
            rw [← hW] at K2 ⊢
            clear hW d3 d4 df3 df4
            have d0 := K2.d.cell 0
            have d1 := K2.d.cell 1
            have d2 := K2.d.cell 2
            have d3 := K2.d.cell 3
            have d4 := K2.d.cell 4
            simp only [List.getElem?_cons_zero, List.getElem?_cons_succ] at d0 d1 d2 d3 d4
            have y0 := K2.r.cell 0
            have y1 := K2.r.cell 1
            have y2 := K2.r.cell 2
            have y3 := K2.r.cell 3
            have y4 := K2.r.cell 4
            have f0 := K2.r.frozen 0
            have f1 := K2.r.frozen 1
            have f2 := K2.r.frozen 2
            have f3 := K2.r.frozen 3
            have f4 := K2.r.frozen 4
            simp only [zD, List.getElem?_cons_zero, List.getElem?_cons_succ] at y0 y1 y2 y3 y4
            go_wp2
            have l4 := K2.l4
            refine bodyPost_ret (results_cell_one rfl _ _ (w.heap.size + 1 + 1) _ _ _ _ _ _ rfl (set5 K2.r _ _ _ _ _) rfl) rfl ⟨_, rfl, ?_, below5 K2.b (by omega) _ _ _ _ _⟩
            simp only [NC.out, HKC.out, HKQ.out]
            exact ((K2.rows.dev5 K2.r _ _ _ _ _).weaken (by omega)).own _ _
          | succ gg =>
            have hin : i < nQ := by omega
            obtain ⟨⟨q1, q2, q3, s⟩, hs⟩ := get_some NQ.out hin
            have hsl := LL.out.2.2 _ (List.mem_of_getElem? hs)
            have hbk := HQL.out _ (List.mem_of_getElem? hs)
            rw [keepQ_step hs] at hkq
            obtain ⟨b, off, rfl, hc⟩ := (HQ.below K1.b) (by rw [NQ.out]; omega)
            obtain ⟨s1, s2, s3, a', c', s0, hc1, hc2, hc3, hbt⟩ := hc i _ hs
            obtain ⟨m, hm⟩ : ∃ m, s.length = m := ⟨_, rfl⟩
            simp only [hm] at s0 s1 s2 s3 hc1 hsl
            have HM := Lib.hid hm; have HG := Lib.hid hg; have HLB := Lib.hid hlb
            have hbx := below_box wr (.cells #[.int .i64 q1, .int .i64 q2, .int .i64 q3, .slice a' m c'] 39)
            have K2 := K1.below hbx
            have hbtx := hbt.below hbx
            have hwz : w.heap.size ≤ wr.heap.size := K1.b.size
            clear hc hs hm hg hlb K1 hbt hbx
            by_cases hk : q2 = 2
            · subst hk
              rw [if_pos rfl] at hkq
              obtain ⟨hf0, hf1⟩ := hbk rfl
              simp only at hf0 hf1
              obtain ⟨f, rfl⟩ : ∃ f : Nat, q3 = f := ⟨q3.toNat, by omega⟩
              have HKQ := Lib.hid hkq
              have hfn : f < nB := by omega
              clear hkq hf0 hf1 hbk
              go_wp2_with fail
              refine (keep_51 w _ pa pn pc picks (w.heap.size + 1) (w.heap.size + 1 + 1) w3.heap.size gd gn dp nx _ _ _ n nB bl2 ca qu _ K2 HPK NP.out HLB.out f hfn a' s m c' hbtx HM.out hc3 hc1 hsl (by omega)).mono ?_
              rintro e w4 ⟨v, rfl, K3⟩
              clear K2 hbtx s0 s1 s2 s3
              go_wp2
              go_roundg gg
              case rel => exact ⟨i + 1, n + 1, _, by have := HG.out; omega, by go_num, by omega, by rw [kp_len]; exact HLB.out, HKQ.out, K3⟩
              case measure => omega
            · have t1 : (q2 == 2) = false := by simpa using hk
              rw [if_neg hk] at hkq
              have HKQ := Lib.hid hkq
              clear hkq hk hbk
              go_wp2
              go_roundg gg
              case rel => exact ⟨i + 1, n, bl2, by have := HG.out; omega, by go_num, by omega, HLB.out, HKQ.out, K2⟩
              case measure => omega
      | succ gg =>
        have hin : i < nC := by omega
        obtain ⟨⟨f, s⟩, hs⟩ := get_some NC.out hin
        have hsl := LL.out.2.1 _ (List.mem_of_getElem? hs)
        obtain ⟨hf0, hf1⟩ := HBL.out _ (List.mem_of_getElem? hs)
        simp only at hf0 hf1
        obtain ⟨f, rfl⟩ : ∃ f' : Nat, f = f' := ⟨f.toNat, by omega⟩
        have hfn : f < nB := by omega
        rw [keepC_step hs] at hkc
        obtain ⟨b, off, rfl, hc⟩ := (HC.below K1.b) (by rw [NC.out]; omega)
        obtain ⟨s1, a', c', s0, hc1, hc2, hc3, hbt⟩ := hc i _ hs
        obtain ⟨m, hm⟩ : ∃ m, s.length = m := ⟨_, rfl⟩
        simp only [hm] at s0 s1 hc1 hsl
        have HM := Lib.hid hm; have HG := Lib.hid hg; have HLB := Lib.hid hlb; have HKC := Lib.hid hkc
        have hbx := below_box wr (.cells #[.int .i64 (f : Int), .slice a' m c'] 64)
        have K2 := K1.below hbx
        have hbtx := hbt.below hbx
        have hwz : w.heap.size ≤ wr.heap.size := K1.b.size
        clear hc hs hm hg hlb K1 hbt hbx hkc hf0 hf1
        go_wp2_with fail
        refine (keep_51 w _ pa pn pc picks (w.heap.size + 1) (w.heap.size + 1 + 1) w3.heap.size gd gn dp nx _ _ _ i nB bl' ca qu _ K2 HPK NP.out HLB.out f hfn a' s m c' hbtx HM.out hc3 hc1 hsl (by omega)).mono ?_
        rintro e w4 ⟨v, rfl, K3⟩
        clear K2 hbtx s0 s1
        go_wp2
        go_roundg gg
        case rel => exact ⟨i + 1, _, by have := HG.out; omega, by go_num, by rw [kp_len]; exact HLB.out, HKC.out, K3⟩
        case measure => omega
  · have t1 : (R != 0) = true := by simpa using h0
    obtain rfl := HP.out.symm.trans (crD_chk HR.out h0)
    have y0 := hR3.cell 0
    have y1 := hR3.cell 1
    have y2 := hR3.cell 2
    have y3 := hR3.cell 3
    have y4 := hR3.cell 4
    have f0 := hR3.frozen 0
    have f1 := hR3.frozen 1
    have f2 := hR3.frozen 2
    have f3 := hR3.frozen 3
    have f4 := hR3.frozen 4
    simp only [zD, List.getElem?_cons_zero, List.getElem?_cons_succ] at y0 y1 y2 y3 y4
    go_wp2
    refine bodyPost_ret (results_cell_one rfl _ _ (w.heap.size + 1 + 1) _ _ _ _ _ _ rfl (set5 hR3 _ _ _ _ _) rfl) rfl ⟨_, rfl, OwnD.zero _ _, below5 hb3 (by omega) _ _ _ _ _⟩
end Go.Proofs.Ytlhbjmoncdljoaa
