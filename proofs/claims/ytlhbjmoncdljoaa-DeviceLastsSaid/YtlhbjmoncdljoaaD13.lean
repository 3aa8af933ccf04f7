/- Walks: equal devices. (Printed by a program of mine.) -/
import Derived.Test.YtlhbjmoncdljoaaD12
namespace Go.Proofs.Ytlhbjmoncdljoaa
open Go.RowKit Go.Over Go.Dev Go.Seg Go.Grow
set_option maxRecDepth 100000 in set_option maxHeartbeats 3200000 in
theorem same_24 (dp nx : Int) (aB aC aQ : Option Addr) (bl : List (List Int)) (ca : List Ca) (qu : List Rq) (nB cB nC cC nQ cQ : Nat) (dp' nx' : Int) (aB' aC' aQ' : Option Addr) (bl' : List (List Int)) (ca' : List Ca) (qu' : List Rq) (nB' cB' nC' cC' nQ' cQ' : Nat) (w : World)
    (HB : Bls w aB bl) (HC : Cas w aC ca) (HQ : Rqs w aQ qu) (hB : bl.length = nB) (hC : ca.length = nC) (hQ : qu.length = nQ) (mB : nB ≤ 1000000) (mC : nC ≤ 1000000) (mQ : nQ ≤ 1000000)
    (lB : ∀ b ∈ bl, b.length ≤ 1000) (lC : ∀ c ∈ ca, c.2.length ≤ 1000) (lQ : ∀ q ∈ qu, q.2.2.2.length ≤ 1000)
    (HB' : Bls w aB' bl') (HC' : Cas w aC' ca') (HQ' : Rqs w aQ' qu') (hB' : bl'.length = nB') (hC' : ca'.length = nC') (hQ' : qu'.length = nQ')
    (lB' : ∀ b ∈ bl', b.length ≤ 1000) (lC' : ∀ c ∈ ca', c.2.length ≤ 1000) (lQ' : ∀ q ∈ qu', q.2.2.2.length ≤ 1000) :
    Calls Try.prog 24 #[.agg #[.int .i64 dp, .int .i64 nx, .slice aB nB cB, .slice aC nC cC, .slice aQ nQ cQ], .agg #[.int .i64 dp', .int .i64 nx', .slice aB' nB' cB', .slice aC' nC' cC', .slice aQ' nQ' cQ']] w fun e w' => e = .returned (.bool (sameD ⟨dp, nx, bl, ca, qu⟩ ⟨dp', nx', bl', ca', qu'⟩)) ∧ Below w.heap.size w w' := by
  have hB1 := below_alloc (below_box w (.cells #[.int .i64 dp, .int .i64 nx, .slice aB nB cB, .slice aC nC cC, .slice aQ nQ cQ] 26)) (.cells #[.int .i64 dp', .int .i64 nx', .slice aB' nB' cB', .slice aC' nC' cC', .slice aQ' nQ' cQ'] 26)
  have hA := (Blk.new w 26 #[.int .i64 dp, .int .i64 nx, .slice aB nB cB, .slice aC nC cC, .slice aQ nQ cQ] [.int .i64 dp, .int .i64 nx, .slice aB nB cB, .slice aC nC cC, .slice aQ nQ cQ] rfl).alloc (.cells #[.int .i64 dp', .int .i64 nx', .slice aB' nB' cB', .slice aC' nC' cC', .slice aQ' nQ' cQ'] 26)
  have hX := Blk.new (w.alloc (.cells #[.int .i64 dp, .int .i64 nx, .slice aB nB cB, .slice aC nC cC, .slice aQ nQ cQ] 26)) 26 #[.int .i64 dp', .int .i64 nx', .slice aB' nB' cB', .slice aC' nC' cC', .slice aQ' nQ' cQ'] [.int .i64 dp', .int .i64 nx', .slice aB' nB' cB', .slice aC' nC' cC', .slice aQ' nQ' cQ'] rfl
  rw [show (w.alloc (.cells #[.int .i64 dp, .int .i64 nx, .slice aB nB cB, .slice aC nC cC, .slice aQ nQ cQ] 26)).heap.size = w.heap.size + 1 by simp] at hX
  obtain ⟨w1, hw1⟩ : ∃ W, W = (w.alloc (.cells #[.int .i64 dp, .int .i64 nx, .slice aB nB cB, .slice aC nC cC, .slice aQ nQ cQ] 26)).alloc (.cells #[.int .i64 dp', .int .i64 nx', .slice aB' nB' cB', .slice aC' nC' cC', .slice aQ' nQ' cQ'] 26) := ⟨_, rfl⟩
  rw [← hw1] at hB1 hA hX
  have GB := HB.below hB1; have GC := HC.below hB1; have GQ := HQ.below hB1
  have GB' := HB'.below hB1; have GC' := HC'.below hB1; have GQ' := HQ'.below hB1
  have HW := Lib.hid hw1
  obtain ⟨R, hR⟩ : ∃ R, sameD ⟨dp, nx, bl, ca, qu⟩ ⟨dp', nx', bl', ca', qu'⟩ = R := ⟨_, rfl⟩
  rw [hR]
  have HR := Lib.hid hR
  have NB := Lib.hid hB; have NC := Lib.hid hC; have NQ := Lib.hid hQ
  have NB' := Lib.hid hB'; have NC' := Lib.hid hC'; have NQ' := Lib.hid hQ'
  have LB := Lib.hid lB; have LC := Lib.hid lC; have LQ := Lib.hid lQ
  have LB' := Lib.hid lB'; have LC' := Lib.hid lC'; have LQ' := Lib.hid lQ'
  clear hw1 hR hB hC hQ hB' hC' hQ' lB lC lQ lB' lC' lQ' HB HC HQ HB' HC' HQ'
  by_cases hall : dp = dp' ∧ nx = nx' ∧ nB = nB' ∧ nC = nC' ∧ nQ = nQ'
  · obtain ⟨rfl, rfl, rfl, rfl, rfl⟩ := hall
    have t1 : (dp != dp) = false := by simp
    have t2 : (nx != nx) = false := by simp
    go_enter Try.func24, Try.ntmps24
    go_wp2
    rw [← HW.out]
    clear HW
    go_loopg [5] nB (fun g i0 wr => ∃ (i : Nat), i + g = nB ∧ i0 = .int .i64 i ∧ (∀ j, j < i → bl[j]? = bl'[j]?) ∧ Below w1.heap.size w1 wr)
    case atStart => exact ⟨0, by omega, rfl, fun j hj => absurd hj (by omega), Below.refl _ _⟩
    case round =>
      obtain ⟨i, hg, rfl, hE, hb⟩ := hrel
      have y0 := (hA.later hb).cell 2
      have y1 := (hX.later hb).cell 2
      simp only [List.getElem?_cons_zero, List.getElem?_cons_succ] at y0 y1
      cases gk with
      | zero =>
        obtain rfl : i = nB := by omega
        have HEB := Lib.hid (ext_upto NB.out NB'.out hE)
        clear hg hE
        go_wp2
        clear y0 y1
        go_loopg [6] nC (fun g i0 wr => ∃ (i : Nat), i + g = nC ∧ i0 = .int .i64 i ∧ (∀ j, j < i → ca[j]? = ca'[j]?) ∧ Below w1.heap.size w1 wr)
        case atStart => exact ⟨0, by omega, rfl, fun j hj => absurd hj (by omega), hb⟩
        case round =>
          clear hb
          obtain ⟨i, hg, rfl, hE, hb⟩ := hrel
          have y0 := (hA.later hb).cell 3
          have y1 := (hX.later hb).cell 3
          simp only [List.getElem?_cons_zero, List.getElem?_cons_succ] at y0 y1
          cases gk with
          | zero =>
            obtain rfl : i = nC := by omega
            have HEC := Lib.hid (ext_upto NC.out NC'.out hE)
            clear hg hE
            go_wp2
            clear y0 y1
            go_loopg [7] nQ (fun g i0 wr => ∃ (i : Nat), i + g = nQ ∧ i0 = .int .i64 i ∧ (∀ j, j < i → qu[j]? = qu'[j]?) ∧ Below w1.heap.size w1 wr)
            case atStart => exact ⟨0, by omega, rfl, fun j hj => absurd hj (by omega), hb⟩
            case round =>
              clear hb
              obtain ⟨i, hg, rfl, hE, hb⟩ := hrel
              have y0 := (hA.later hb).cell 4
              have y1 := (hX.later hb).cell 4
              simp only [List.getElem?_cons_zero, List.getElem?_cons_succ] at y0 y1
              cases gk with
              | zero =>
                obtain rfl : i = nQ := by omega
                have HEQ := Lib.hid (ext_upto NQ.out NQ'.out hE)
                clear hg hE
                go_wp2
                clear y0 y1
                go_ret
                exact ⟨by rw [show R = true by rw [← HR.out, HEB.out, HEC.out, HEQ.out]; exact sameD_refl _]; rfl, below_then hB1 hb⟩
              | succ g =>
                have hin : i < nQ := by omega
                obtain ⟨P1, hs⟩ := get_some NQ.out hin
                obtain ⟨P2, ht⟩ := get_some NQ'.out hin
                obtain ⟨b, off, rfl, hc⟩ := GQ (by rw [NQ.out]; omega)
                obtain ⟨b', off', rfl, hc'⟩ := GQ' (by rw [NQ'.out]; omega)
                have HG := Lib.hid hg; have HEE := Lib.hid hE; have HS := Lib.hid hs; have HT := Lib.hid ht
                obtain ⟨p1, p2, p3, s⟩ := P1
                obtain ⟨r1, r2, r3, t⟩ := P2
                obtain ⟨s1, s2, s3, a', c', s0, hc1, hc2, hc3, hbt⟩ := hc i _ hs
                obtain ⟨t1, t2, t3, a2, c2, t0, hd1, hd2, hd3, hbt'⟩ := hc' i _ ht
                have hsl := LQ.out _ (List.mem_of_getElem? hs)
                have htl := LQ'.out _ (List.mem_of_getElem? ht)
                simp only at hsl htl s0 s1 s2 s3 t0 t1 t2 t3
                have S0 := Lib.hid (cell_later hb s0); have T0 := Lib.hid (cell_later hb t0)
                have S1 := Lib.hid (cell_later hb s1); have T1 := Lib.hid (cell_later hb t1)
                have S2 := Lib.hid (cell_later hb s2); have T2 := Lib.hid (cell_later hb t2)
                have S3 := Lib.hid (cell_later hb s3); have T3 := Lib.hid (cell_later hb t3)
                have hnd := fun u => sameq_29 p1 p2 p3 r1 r2 r3 a' a2 s t s.length t.length c' c2 (over wr u) (hbt.below (below_then hb (below_over wr u))) (hbt'.below (below_then hb (below_over wr u))) rfl rfl (by omega) (by omega)
                clear hc hc' hs ht hg hE s0 t0 s1 s2 s3 t1 t2 t3
                by_cases hss : (p1, p2, p3, s) = (r1, r2, r3, t)
                · simp only [Prod.mk.injEq] at hss
                  obtain ⟨rfl, rfl, rfl, rfl⟩ := hss
                  rw [decide_eq_true rfl] at hnd
                  go_wp2
                  refine wp_region_over (by kernel_rfl) (by kernel_rfl) ?_
                  have q0 := fun u => over_cell y0 u
                  have q1 := fun u => over_cell y1 u
                  have q2 := fun u => over_cell S0.out u
                  have q3 := fun u => over_cell T0.out u
                  have q4 := fun u => over_cell S1.out u
                  have q5 := fun u => over_cell T1.out u
                  have q6 := fun u => over_cell S2.out u
                  have q7 := fun u => over_cell T2.out u
                  have q8 := fun u => over_cell S3.out u
                  have q9 := fun u => over_cell T3.out u
                  repeat (go_big_quiet_step ((go_at_call 29; exact calls_over (hnd _))))
                  refine wpQuiet_nil ?_
                  rintro _ ⟨u, rfl⟩
                  have hb2 := below_then hb (below_over wr u)
                  clear q0 q1 q2 q3 q4 q5 q6 q7 q8 q9
                  go_wp2
                  go_roundg g
                  case rel =>
                    refine ⟨i + 1, by have := HG.out; omega, by go_num, fun j hj => ?_, hb2⟩
                    rcases Nat.lt_or_ge j i with h | h
                    · exact HEE.out j h
                    · obtain rfl : j = i := by omega
                      rw [HS.out, HT.out]
                  case measure => omega
                · have HF := Lib.hid (show R = false by
                    rw [← HR.out]
                    unfold sameD
                    rw [decide_eq_false_iff_not]
                    rintro ⟨_, _, _, _, h⟩
                    simp only at h
                    have h1 := HS.out
                    rw [h, HT.out] at h1
                    exact hss (Option.some.inj h1).symm)
                  rw [decide_eq_false hss] at hnd
                  go_wp2
                  refine wp_region_over (by kernel_rfl) (by kernel_rfl) ?_
                  have q0 := fun u => over_cell y0 u
                  have q1 := fun u => over_cell y1 u
                  have q2 := fun u => over_cell S0.out u
                  have q3 := fun u => over_cell T0.out u
                  have q4 := fun u => over_cell S1.out u
                  have q5 := fun u => over_cell T1.out u
                  have q6 := fun u => over_cell S2.out u
                  have q7 := fun u => over_cell T2.out u
                  have q8 := fun u => over_cell S3.out u
                  have q9 := fun u => over_cell T3.out u
                  repeat (go_big_quiet_step ((go_at_call 29; exact calls_over (hnd _))))
                  refine wpQuiet_nil ?_
                  rintro _ ⟨u, rfl⟩
                  have hb2 := below_then hb (below_over wr u)
                  clear q0 q1 q2 q3 q4 q5 q6 q7 q8 q9
                  go_wp2
                  go_ret
                  exact ⟨by rw [HF.out]; rfl, below_then hB1 hb2⟩
          | succ g =>
            have hin : i < nC := by omega
            obtain ⟨P1, hs⟩ := get_some NC.out hin
            obtain ⟨P2, ht⟩ := get_some NC'.out hin
            obtain ⟨b, off, rfl, hc⟩ := GC (by rw [NC.out]; omega)
            obtain ⟨b', off', rfl, hc'⟩ := GC' (by rw [NC'.out]; omega)
            have HG := Lib.hid hg; have HEE := Lib.hid hE; have HS := Lib.hid hs; have HT := Lib.hid ht
            obtain ⟨x, s⟩ := P1
            obtain ⟨y, t⟩ := P2
            obtain ⟨s1, a', c', s0, hc1, hc2, hc3, hbt⟩ := hc i _ hs
            obtain ⟨t1, a2, c2, t0, hd1, hd2, hd3, hbt'⟩ := hc' i _ ht
            have hsl := LC.out _ (List.mem_of_getElem? hs)
            have htl := LC'.out _ (List.mem_of_getElem? ht)
            simp only at hsl htl s0 s1 t0 t1
            have S0 := Lib.hid (cell_later hb s0); have T0 := Lib.hid (cell_later hb t0)
            have S1 := Lib.hid (cell_later hb s1); have T1 := Lib.hid (cell_later hb t1)
            have hnd := fun u => same_15 a' a2 s t s.length t.length c' c2 (over wr u) (hbt.below (below_then hb (below_over wr u))) (hbt'.below (below_then hb (below_over wr u))) rfl rfl (by omega) (by omega)
            clear hc hc' hs ht hg hE s0 t0 s1 t1
            by_cases hxy : x = y
            · subst hxy
              have k1 : (x != x) = false := by simp
              by_cases hss : s = t
              · subst hss
                rw [decide_eq_true rfl] at hnd
                go_wp2
                refine wp_region_over (by kernel_rfl) (by kernel_rfl) ?_
                have q0 := fun u => over_cell y0 u
                have q1 := fun u => over_cell y1 u
                have q2 := fun u => over_cell S0.out u
                have q3 := fun u => over_cell T0.out u
                have q4 := fun u => over_cell S1.out u
                have q5 := fun u => over_cell T1.out u
                repeat (go_big_quiet_step ((go_at_call 15; exact calls_over (hnd _))))
                refine wpQuiet_nil ?_
                rintro _ ⟨u, rfl⟩
                have hb2 := below_then hb (below_over wr u)
                clear q0 q1 q2 q3 q4 q5
                go_wp2
                go_roundg g
                case rel =>
                  refine ⟨i + 1, by have := HG.out; omega, by go_num, fun j hj => ?_, hb2⟩
                  rcases Nat.lt_or_ge j i with h | h
                  · exact HEE.out j h
                  · obtain rfl : j = i := by omega
                    rw [HS.out, HT.out]
                case measure => omega
              · rw [decide_eq_false hss] at hnd
                have HF := Lib.hid (show R = false by
                  rw [← HR.out]
                  unfold sameD
                  rw [decide_eq_false_iff_not]
                  rintro ⟨_, _, _, h, _⟩
                  simp only at h
                  have h1 := HS.out
                  rw [h, HT.out] at h1
                  have h2 := Option.some.inj h1
                  simp only [Prod.mk.injEq] at h2
                  exact hss h2.2.symm)
                go_wp2
                refine wp_region_over (by kernel_rfl) (by kernel_rfl) ?_
                have q0 := fun u => over_cell y0 u
                have q1 := fun u => over_cell y1 u
                have q2 := fun u => over_cell S0.out u
                have q3 := fun u => over_cell T0.out u
                have q4 := fun u => over_cell S1.out u
                have q5 := fun u => over_cell T1.out u
                repeat (go_big_quiet_step ((go_at_call 15; exact calls_over (hnd _))))
                refine wpQuiet_nil ?_
                rintro _ ⟨u, rfl⟩
                have hb2 := below_then hb (below_over wr u)
                clear q0 q1 q2 q3 q4 q5
                go_wp2
                go_ret
                exact ⟨by rw [HF.out]; rfl, below_then hB1 hb2⟩
            · have k1 : (x != y) = true := by simpa using hxy
              have HF := Lib.hid (show R = false by
                rw [← HR.out]
                unfold sameD
                rw [decide_eq_false_iff_not]
                rintro ⟨_, _, _, h, _⟩
                simp only at h
                have h1 := HS.out
                rw [h, HT.out] at h1
                have h2 := Option.some.inj h1
                simp only [Prod.mk.injEq] at h2
                exact hxy h2.1.symm)
              go_wp2
              refine wp_region_over (by kernel_rfl) (by kernel_rfl) ?_
              have q0 := fun u => over_cell y0 u
              have q1 := fun u => over_cell y1 u
              have q2 := fun u => over_cell S0.out u
              have q3 := fun u => over_cell T0.out u
              have q4 := fun u => over_cell S1.out u
              have q5 := fun u => over_cell T1.out u
              repeat (go_big_quiet_step ((go_at_call 15; exact calls_over (hnd _))))
              refine wpQuiet_nil ?_
              rintro _ ⟨u, rfl⟩
              have hb2 := below_then hb (below_over wr u)
              clear q0 q1 q2 q3 q4 q5
              go_wp2
              go_ret
              exact ⟨by rw [HF.out]; rfl, below_then hB1 hb2⟩
      | succ g =>
        have hin : i < nB := by omega
        obtain ⟨P1, hs⟩ := get_some NB.out hin
        obtain ⟨P2, ht⟩ := get_some NB'.out hin
        obtain ⟨b, off, rfl, hc⟩ := GB (by rw [NB.out]; omega)
        obtain ⟨b', off', rfl, hc'⟩ := GB' (by rw [NB'.out]; omega)
        have HG := Lib.hid hg; have HEE := Lib.hid hE; have HS := Lib.hid hs; have HT := Lib.hid ht
        obtain ⟨a', c', s0, hc1, hc2, hc3, hbt⟩ := hc i _ hs
        obtain ⟨a2, c2, t0, hd1, hd2, hd3, hbt'⟩ := hc' i _ ht
        have hsl := LB.out _ (List.mem_of_getElem? hs)
        have htl := LB'.out _ (List.mem_of_getElem? ht)
        have S0 := Lib.hid (cell_later hb s0); have T0 := Lib.hid (cell_later hb t0)
        have hnd := fun u => same_15 a' a2 P1 P2 P1.length P2.length c' c2 (over wr u) (hbt.below (below_then hb (below_over wr u))) (hbt'.below (below_then hb (below_over wr u))) rfl rfl (by omega) (by omega)
        clear hc hc' hs ht hg hE s0 t0
        by_cases hss : P1 = P2
        · subst hss
          rw [decide_eq_true rfl] at hnd
          go_wp2
          refine wp_region_over (by kernel_rfl) (by kernel_rfl) ?_
          have q0 := fun u => over_cell y0 u
          have q1 := fun u => over_cell y1 u
          have q2 := fun u => over_cell S0.out u
          have q3 := fun u => over_cell T0.out u
          repeat (go_big_quiet_step ((go_at_call 15; exact calls_over (hnd _))))
          refine wpQuiet_nil ?_
          rintro _ ⟨u, rfl⟩
          have hb2 := below_then hb (below_over wr u)
          clear q0 q1 q2 q3
          go_wp2
          go_roundg g
          case rel =>
            refine ⟨i + 1, by have := HG.out; omega, by go_num, fun j hj => ?_, hb2⟩
            rcases Nat.lt_or_ge j i with h | h
            · exact HEE.out j h
            · obtain rfl : j = i := by omega
              rw [HS.out, HT.out]
          case measure => omega
        · have HF := Lib.hid (show R = false by
            rw [← HR.out]
            unfold sameD
            rw [decide_eq_false_iff_not]
            rintro ⟨_, _, h, _, _⟩
            simp only at h
            have h1 := HS.out
            rw [h, HT.out] at h1
            exact hss (Option.some.inj h1).symm)
          rw [decide_eq_false hss] at hnd
          go_wp2
          refine wp_region_over (by kernel_rfl) (by kernel_rfl) ?_
          have q0 := fun u => over_cell y0 u
          have q1 := fun u => over_cell y1 u
          have q2 := fun u => over_cell S0.out u
          have q3 := fun u => over_cell T0.out u
          repeat (go_big_quiet_step ((go_at_call 15; exact calls_over (hnd _))))
          refine wpQuiet_nil ?_
          rintro _ ⟨u, rfl⟩
          have hb2 := below_then hb (below_over wr u)
          clear q0 q1 q2 q3
          go_wp2
          go_ret
          exact ⟨by rw [HF.out]; rfl, below_then hB1 hb2⟩
  · have HF := Lib.hid (show R = false by
      rw [← HR.out]
      unfold sameD
      rw [decide_eq_false_iff_not]
      rintro ⟨h1, h2, h3, h4, h5⟩
      simp only at h1 h2 h3 h4 h5
      refine hall ⟨h1, h2, ?_, ?_, ?_⟩
      · rw [← NB.out, ← NB'.out, h3]
      · rw [← NC.out, ← NC'.out, h4]
      · rw [← NQ.out, ← NQ'.out, h5])
    have hcase : dp ≠ dp' ∨ (dp = dp' ∧ nx ≠ nx') ∨ (dp = dp' ∧ nx = nx' ∧ nB ≠ nB') ∨ (dp = dp' ∧ nx = nx' ∧ nB = nB' ∧ nC ≠ nC') ∨ (dp = dp' ∧ nx = nx' ∧ nB = nB' ∧ nC = nC' ∧ nQ ≠ nQ') := by omega
    clear hall
    have e0 := hA.cell 0
    have e1 := hA.cell 1
    have e2 := hA.cell 2
    have e3 := hA.cell 3
    have e4 := hA.cell 4
    have f0 := hX.cell 0
    have f1 := hX.cell 1
    have f2 := hX.cell 2
    have f3 := hX.cell 3
    have f4 := hX.cell 4
    simp only [List.getElem?_cons_zero, List.getElem?_cons_succ] at e0 e1 e2 e3 e4 f0 f1 f2 f3 f4
    rcases hcase with h | ⟨rfl, h⟩ | ⟨rfl, rfl, h⟩ | ⟨rfl, rfl, rfl, h⟩ | ⟨rfl, rfl, rfl, rfl, h⟩
    · have t1 : (dp != dp') = true := by simp; omega
      go_enter Try.func24, Try.ntmps24
      go_wp2
      rw [← HW.out]
      clear HW
      go_ret
      exact ⟨by rw [HF.out]; rfl, hB1⟩
    · have t2 : (nx != nx') = true := by simp; omega
      go_enter Try.func24, Try.ntmps24
      go_wp2
      rw [← HW.out]
      clear HW
      go_ret
      exact ⟨by rw [HF.out]; rfl, hB1⟩
    · have t3 : ((nB : Int) != (nB' : Int)) = true := by simp; omega
      go_enter Try.func24, Try.ntmps24
      go_wp2
      rw [← HW.out]
      clear HW
      go_ret
      exact ⟨by rw [HF.out]; rfl, hB1⟩
    · have t4 : ((nC : Int) != (nC' : Int)) = true := by simp; omega
      go_enter Try.func24, Try.ntmps24
      go_wp2
      rw [← HW.out]
      clear HW
      go_ret
      exact ⟨by rw [HF.out]; rfl, hB1⟩
    · have t5 : ((nQ : Int) != (nQ' : Int)) = true := by simp; omega
      go_enter Try.func24, Try.ntmps24
      go_wp2
      rw [← HW.out]
      clear HW
      go_ret
      exact ⟨by rw [HF.out]; rfl, hB1⟩
end Go.Proofs.Ytlhbjmoncdljoaa
