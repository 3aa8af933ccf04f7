/- Walks: the check of a device, of the reference. -/
import Derived.Test.YtlhbjmoncdljoaaD3
namespace Go.Proofs.Ytlhbjmoncdljoaa
open Go.RowKit Go.Over Go.Dev Go.Seg Go.Grow
set_option maxRecDepth 100000 in set_option maxHeartbeats 3200000 in
theorem check_14 (dp nx : Int) (aB aC aQ : Option Addr) (bl : List (List Int)) (ca : List Ca) (qu : List Rq) (nB cB nC cC nQ cQ : Nat) (w : World) (HB : Bls w aB bl) (HC : Cas w aC ca) (HQ : Rqs w aQ qu) (hB : bl.length = nB) (hC : ca.length = nC) (hQ : qu.length = nQ) (mB : nB ≤ 1000000) (mC : nC ≤ 1000000) (mQ : nQ ≤ 1000000) :
    Calls Try.prog 14 #[.agg #[.int .i64 dp, .int .i64 nx, .slice aB nB cB, .slice aC nC cC, .slice aQ nQ cQ]] w fun e w' => e = .returned (.int .i64 (chk ⟨dp, nx, bl, ca, qu⟩)) ∧ Below w.heap.size w w' := by
  have B1 := below_box w (.cells #[.int .i64 dp, .int .i64 nx, .slice aB nB cB, .slice aC nC cC, .slice aQ nQ cQ] 26)
  have z0 : (w.alloc (.cells #[.int .i64 dp, .int .i64 nx, .slice aB nB cB, .slice aC nC cC, .slice aQ nQ cQ] 26)).cell? ⟨w.heap.size, 0, none⟩ = some (.int .i64 dp) := zcell w _ _ 0
  have z1 : (w.alloc (.cells #[.int .i64 dp, .int .i64 nx, .slice aB nB cB, .slice aC nC cC, .slice aQ nQ cQ] 26)).cell? ⟨w.heap.size, 1, none⟩ = some (.int .i64 nx) := zcell w _ _ 1
  have z2 : (w.alloc (.cells #[.int .i64 dp, .int .i64 nx, .slice aB nB cB, .slice aC nC cC, .slice aQ nQ cQ] 26)).cell? ⟨w.heap.size, 2, none⟩ = some (.slice aB nB cB) := zcell w _ _ 2
  have z3 : (w.alloc (.cells #[.int .i64 dp, .int .i64 nx, .slice aB nB cB, .slice aC nC cC, .slice aQ nQ cQ] 26)).cell? ⟨w.heap.size, 3, none⟩ = some (.slice aC nC cC) := zcell w _ _ 3
  have z4 : (w.alloc (.cells #[.int .i64 dp, .int .i64 nx, .slice aB nB cB, .slice aC nC cC, .slice aQ nQ cQ] 26)).cell? ⟨w.heap.size, 4, none⟩ = some (.slice aQ nQ cQ) := zcell w _ _ 4
  obtain ⟨w1, hw1⟩ : ∃ W, W = w.alloc (.cells #[.int .i64 dp, .int .i64 nx, .slice aB nB cB, .slice aC nC cC, .slice aQ nQ cQ] 26) := ⟨_, rfl⟩
  have hsz1 : w.heap.size < w1.heap.size := by rw [hw1]; simp
  rw [← hw1] at B1 z0 z1 z2 z3 z4
  have Z0 := Lib.hid z0
  have Z1 := Lib.hid z1
  have Z2 := Lib.hid z2
  have Z3 := Lib.hid z3
  have Z4 := Lib.hid z4
  have GB := HB.below B1
  have GC := HC.below B1
  have GQ := HQ.below B1
  have NB := Lib.hid hB; have NC := Lib.hid hC; have NQ := Lib.hid hQ; have HW := Lib.hid hw1
  clear hw1
  obtain ⟨R, hR⟩ : ∃ R, chk ⟨dp, nx, bl, ca, qu⟩ = R := ⟨_, rfl⟩
  rw [hR]
  have HR := Lib.hid hR
  clear hR
  cases hrg : rng ⟨dp, nx, bl, ca, qu⟩ with
  | false =>
    have hc := rng_false hrg
    simp only [hB] at hc
    have H2 := Lib.hid (show R = 2 by rw [← HR.out]; exact chk_rng hrg)
    clear z0 z1 z2 z3 z4 hrg hB hC hQ
    rcases hc with h | ⟨h1, h2⟩ | ⟨h1, h2, h3⟩ | ⟨h1, h2, h3, h4⟩ | ⟨h1, h2, h3, h4, h5⟩ | ⟨h1, h2, h3, h4, h5, h6⟩
    all_goals
      go_enter Try.func14, Try.ntmps14
      go_wp2
      go_ret
      exact ⟨ret_int H2.out.symm, (by repeat (first | with_reducible exact Below.refl _ _ | with_reducible assumption | with_reducible refine below_alloc ?_ _ | with_reducible refine Below.drew ?_ | with_reducible refine below_drewN ?_ _ | with_reducible refine below_then ?_ (by with_reducible assumption)))⟩
  | true =>
    have hc := rng_true hrg
    simp only [hB] at hc
    obtain ⟨g1, g2, g3, g4, g5, g6⟩ := hc
    have HRG := Lib.hid hrg
    obtain ⟨E1, hE1⟩ : ∃ E, blE bl = E := ⟨_, rfl⟩
    obtain ⟨E2, hE2⟩ : ∃ E, caE (nB : Int) (-1) ca = E := ⟨_, rfl⟩
    obtain ⟨E3, hE3⟩ : ∃ E, cdE ca = E := ⟨_, rfl⟩
    obtain ⟨E4, hE4⟩ : ∃ E, quE (nB : Int) nx (-1) qu = E := ⟨_, rfl⟩
    have K1 := Lib.hid (show E1 ≠ 0 → R = E1 from fun h => by rw [← HR.out, chk_bl hrg (by show blE bl ≠ 0; rw [hE1]; exact h)]; exact hE1)
    have K2 := Lib.hid (show E1 = 0 → E2 ≠ 0 → R = E2 from fun h h2 => by rw [← HR.out, chk_ca hrg (by show blE bl = 0; rw [hE1]; exact h) (by show caE bl.length (-1) ca ≠ 0; rw [hB, hE2]; exact h2)]; show caE bl.length (-1) ca = _; rw [hB]; exact hE2)
    have K3 := Lib.hid (show E1 = 0 → E2 = 0 → E3 ≠ 0 → R = E3 from fun h h2 h3 => by rw [← HR.out, chk_cd hrg (by show blE bl = 0; rw [hE1]; exact h) (by show caE bl.length (-1) ca = 0; rw [hB, hE2]; exact h2) (by show cdE ca ≠ 0; rw [hE3]; exact h3)]; exact hE3)
    have K4 := Lib.hid (show E1 = 0 → E2 = 0 → E3 = 0 → dp < nQ → R = 8 from fun h h2 h3 h4 => by rw [← HR.out, chk_full hrg (by show blE bl = 0; rw [hE1]; exact h) (by show caE bl.length (-1) ca = 0; rw [hB, hE2]; exact h2) (by show cdE ca = 0; rw [hE3]; exact h3) (by show dp < qu.length; rw [hQ]; exact h4)])
    have K5 := Lib.hid (show E1 = 0 → E2 = 0 → E3 = 0 → ¬ dp < nQ → R = E4 from fun h h2 h3 h4 => by rw [← HR.out, chk_qu hrg (by show blE bl = 0; rw [hE1]; exact h) (by show caE bl.length (-1) ca = 0; rw [hB, hE2]; exact h2) (by show cdE ca = 0; rw [hE3]; exact h3) (by show ¬ dp < qu.length; rw [hQ]; exact h4)]; show quE bl.length nx (-1) qu = _; rw [hB]; exact hE4)
    have J1 := Lib.hid hE1; have J2 := Lib.hid hE2; have J3 := Lib.hid hE3; have J4 := Lib.hid hE4
    clear hE1 hE2 hE3 hE4 hrg hB hC hQ HR z0 z1 z2 z3 z4
    go_enter Try.func14, Try.ntmps14
    have hbl := Lib.hid (blE_38 aB bl nB cB w1 GB NB.out mB)
    rw [J1.out] at hbl
    have HBL := Lib.hid hbl.out
    clear hbl
    go_wp2_with fail
    rw [← HW.out]
    clear HW
    refine (HBL.out).mono ?_
    rintro e w2 ⟨rfl, rfl⟩
    have z0 := Z0.out; have z1 := Z1.out; have z2 := Z2.out; have z3 := Z3.out; have z4 := Z4.out
    clear HBL
    by_cases h1 : E1 = 0
    · have hca := Lib.hid (caE_39 aC ca nC cC (nB : Int) w1 GC NC.out mC)
      rw [J2.out, J3.out] at hca
      obtain ⟨S, hS⟩ : ∃ S, (if E2 ≠ 0 then E2 else E3) = S := ⟨_, rfl⟩
      rw [hS] at hca
      have HCA := Lib.hid hca.out; have HS0 := Lib.hid hS
      have H1 := Lib.hid h1
      clear hca hS
      have t1 : (E1 != 0) = false := by simpa using h1
      clear h1
      go_wp2_with fail
      refine (HCA.out).mono ?_
      rintro e w2 ⟨rfl, hb⟩
      clear z0 z1 z2 z3 z4 HCA
      have z0 := cell_later hb Z0.out
      have z1 := cell_later hb Z1.out
      have z2 := cell_later hb Z2.out
      have z3 := cell_later hb Z3.out
      have z4 := cell_later hb Z4.out
      by_cases hs0 : S = 0
      · have h23 := Lib.hid (show E2 = 0 ∧ E3 = 0 by have h := HS0.out; rw [hs0] at h; split at h; exact absurd h (by assumption); rename_i h2; exact ⟨by simpa using h2, h⟩)
        have t2 : (S != 0) = false := by simpa using hs0
        by_cases hful : dp < (nQ : Int)
        · go_wp2
          go_ret
          exact ⟨ret_int (by rw [(K4.out) H1.out h23.out.1 h23.out.2 (by omega)]), below_then B1 hb⟩
        · have H05 := Lib.hid ((K5.out) H1.out h23.out.1 h23.out.2 (by omega))
          go_wp2
          clear z0 z1 z2 z3 z4
          go_loopg [5] nQ (fun g i0 wr => ∃ (t : Nat) (p : Int), t + g = nQ ∧ i0 = .int .i64 t ∧ E4 = quE (nB : Int) nx p (qu.drop t) ∧ (t = 0 → p = -1) ∧ (0 < t → 0 ≤ p ∧ ∃ y, qu[t - 1]? = some (p, y)) ∧ Below w1.heap.size w1 wr)
          case atStart => exact ⟨0, -1, by omega, rfl, J4.out.symm, fun _ => rfl, fun h => absurd h (by omega), hb⟩
          case round =>
            clear hb
            obtain ⟨t, p, hg, rfl, hEi, hp0, hp1, hb⟩ := hrel
            have z0 := cell_later hb Z0.out
            have z1 := cell_later hb Z1.out
            have z2 := cell_later hb Z2.out
            have z3 := cell_later hb Z3.out
            have z4 := cell_later hb Z4.out
            cases gk with
            | zero =>
              obtain rfl : t = nQ := by omega
              have H04 := Lib.hid (show E4 = 0 by rw [hEi, List.drop_eq_nil_of_le (by rw [NQ.out]; exact Nat.le_refl _)]; rfl)
              clear hg hEi hp0 hp1
              go_wp2
              go_ret
              exact ⟨ret_int (by rw [H05.out, H04.out]), below_then B1 hb⟩
            | succ g =>
              have hin : t < nQ := by omega
              obtain ⟨⟨id, kd, bk, x⟩, hs⟩ := get_some NQ.out hin
              have HST := Lib.hid (hEi.trans (quE_step hs))
              have HS := Lib.hid hs
              obtain ⟨b, off, rfl, hc⟩ := (GQ.below hb) (by rw [NQ.out]; omega)
              obtain ⟨c0, c1, c2, a', c', c3, _⟩ := hc t _ hs
              obtain ⟨m, hm⟩ : ∃ m, x.length = m := ⟨_, rfl⟩
              simp only [hm] at c0 c1 c2 c3
              have HM := Lib.hid hm; have HG := Lib.hid hg
              have hsz := Nat.lt_of_lt_of_le hsz1 hb.size
              obtain ⟨e, he⟩ : ∃ e, rqE (nB : Int) kd bk m = e := ⟨_, rfl⟩
              have hrq := fun W => reqE_40 (nB : Int) kd bk m W (by omega)
              rw [he] at hrq
              have HRQ := Lib.hid hrq; have HE := Lib.hid he
              have X5 := Blk.new wr 39 #[.int .i64 id, .int .i64 kd, .int .i64 bk, .slice a' m c'] [.int .i64 id, .int .i64 kd, .int .i64 bk, .slice a' m c'] rfl
              have b5 := below_box wr (.cells #[.int .i64 id, .int .i64 kd, .int .i64 bk, .slice a' m c'] 39)
              have hb6 := below_then hb b5
              have HCC := Lib.hid hc; have HP0 := Lib.hid hp0; have HP1 := Lib.hid hp1
              clear hs hEi hg hm hrq he hc hp0 hp1
              go_wp2_with fail
              refine (HRQ.out _).mono ?_
              rintro e' w5 ⟨rfl, rfl⟩
              clear HRQ
              have x0 : (wr.alloc (.cells #[.int .i64 id, .int .i64 kd, .int .i64 bk, .slice a' m c'] 39)).cell? ⟨wr.heap.size, 0, none⟩ = some (.int .i64 id) := X5.cell 0
              have y1 := cell_later hb6 Z1.out
              have y4 := cell_later hb6 Z4.out
              obtain ⟨wX, hwX⟩ : ∃ W, W = wr.alloc (.cells #[.int .i64 id, .int .i64 kd, .int .i64 bk, .slice a' m c'] 39) := ⟨_, rfl⟩
              rw [← hwX] at x0 y1 y4 hb6 b5 ⊢
              clear hwX z0 z1 z2 z3 z4 c0 c1 c2 c3 X5 hb
              by_cases he0 : e = 0
              · subst he0
                have hst := HST.out
                simp only [HM.out, HE.out] at hst
                rw [if_neg (by simp)] at hst
                have HBD := Lib.hid (show id ≤ p ∨ nx ≤ id → E4 = 10 from fun h => by rw [hst, if_pos h])
                have HGD := Lib.hid (show ¬ (id ≤ p ∨ nx ≤ id) → E4 = quE (nB : Int) nx id (qu.drop (t + 1)) from fun h => by rw [hst, if_neg h])
                clear hst
                by_cases ht0 : t = 0
                · subst ht0
                  obtain rfl : p = -1 := (HP0.out) rfl
                  rcases (show id < 0 ∨ (0 ≤ id ∧ nx ≤ id) ∨ (0 ≤ id ∧ id < nx) by omega) with k1 | ⟨k1, k2⟩ | ⟨k1, k2⟩
                  · have t3 : decide (id < 0) = true := by simpa using k1
                    go_wp2
                    refine wp_region_over (by kernel_rfl) (by kernel_rfl) ?_
                    have q0 := fun u => over_cell x0 u
                    have q1 := fun u => over_cell y1 u
                    have q4 := fun u => over_cell y4 u
                    repeat (go_big_quiet_step (fail))
                    refine wpQuiet_nil ?_
                    rintro _ ⟨u, rfl⟩
                    have hb7 := below_then hb6 (below_over wX u)
                    go_wp2
                    go_ret
                    exact ⟨ret_int (by rw [H05.out, (HBD.out) (by omega)]), below_then B1 hb7⟩
                  · have t3 : decide (id < 0) = false := by simpa using k1
                    have t4 : decide (nx ≤ id) = true := by simpa using k2
                    go_wp2
                    refine wp_region_over (by kernel_rfl) (by kernel_rfl) ?_
                    have q0 := fun u => over_cell x0 u
                    have q1 := fun u => over_cell y1 u
                    have q4 := fun u => over_cell y4 u
                    repeat (go_big_quiet_step (fail))
                    refine wpQuiet_nil ?_
                    rintro _ ⟨u, rfl⟩
                    have hb7 := below_then hb6 (below_over wX u)
                    go_wp2
                    go_ret
                    exact ⟨ret_int (by rw [H05.out, (HBD.out) (by omega)]), below_then B1 hb7⟩
                  · have t3 : decide (id < 0) = false := by simpa using k1
                    have t4 : decide (nx ≤ id) = false := by simpa using k2
                    go_wp2
                    refine wp_region_over (by kernel_rfl) (by kernel_rfl) ?_
                    have q0 := fun u => over_cell x0 u
                    have q1 := fun u => over_cell y1 u
                    have q4 := fun u => over_cell y4 u
                    repeat (go_big_quiet_step (fail))
                    refine wpQuiet_nil ?_
                    rintro _ ⟨u, rfl⟩
                    have hb7 := below_then hb6 (below_over wX u)
                    go_wp2
                    go_roundg g
                    case rel => exact ⟨0 + 1, id, by have := HG.out; omega, by go_num, (HGD.out) (by omega), fun h => absurd h (by omega), fun _ => ⟨by omega, _, HS.out⟩, hb7⟩
                    case measure => omega
                · obtain ⟨t', rfl⟩ : ∃ t', t = t' + 1 := ⟨t - 1, by omega⟩
                  obtain ⟨hpp, y, hy⟩ := (HP1.out) (by omega)
                  rw [Nat.add_sub_cancel] at hy
                  have d0 := (HCC.out t' _ hy).1
                  simp only at d0
                  have ej : ((t' + 1 : Nat) : Int) - 1 = (t' : Int) := by omega
                  have tj : decide ((0 : Int) < ((t' + 1 : Nat) : Int)) = true := by rw [decide_eq_true_eq]; omega
                  clear hy
                  rcases (show id < 0 ∨ (0 ≤ id ∧ nx ≤ id) ∨ (0 ≤ id ∧ id < nx ∧ id ≤ p) ∨ (0 ≤ id ∧ id < nx ∧ p < id) by omega) with k1 | ⟨k1, k2⟩ | ⟨k1, k2, k3⟩ | ⟨k1, k2, k3⟩
                  · have t3 : decide (id < 0) = true := by simpa using k1
                    go_wp2
                    refine wp_region_over (by kernel_rfl) (by kernel_rfl) ?_
                    have q0 := fun u => over_cell x0 u
                    have q1 := fun u => over_cell y1 u
                    have q4 := fun u => over_cell y4 u
                    have q5 := fun u => over_cell (cell_later b5 d0) u
                    repeat (go_big_quiet_step (fail))
                    refine wpQuiet_nil ?_
                    rintro _ ⟨u, rfl⟩
                    have hb7 := below_then hb6 (below_over wX u)
                    go_wp2
                    go_ret
                    exact ⟨ret_int (by rw [H05.out, (HBD.out) (by omega)]), below_then B1 hb7⟩
                  · have t3 : decide (id < 0) = false := by simpa using k1
                    have t4 : decide (nx ≤ id) = true := by simpa using k2
                    go_wp2
                    refine wp_region_over (by kernel_rfl) (by kernel_rfl) ?_
                    have q0 := fun u => over_cell x0 u
                    have q1 := fun u => over_cell y1 u
                    have q4 := fun u => over_cell y4 u
                    have q5 := fun u => over_cell (cell_later b5 d0) u
                    repeat (go_big_quiet_step (fail))
                    refine wpQuiet_nil ?_
                    rintro _ ⟨u, rfl⟩
                    have hb7 := below_then hb6 (below_over wX u)
                    go_wp2
                    go_ret
                    exact ⟨ret_int (by rw [H05.out, (HBD.out) (by omega)]), below_then B1 hb7⟩
                  · have t3 : decide (id < 0) = false := by simpa using k1
                    have t4 : decide (nx ≤ id) = false := by simpa using k2
                    have t5 : decide (id ≤ p) = true := by simpa using k3
                    go_wp2
                    refine wp_region_over (by kernel_rfl) (by kernel_rfl) ?_
                    have q0 := fun u => over_cell x0 u
                    have q1 := fun u => over_cell y1 u
                    have q4 := fun u => over_cell y4 u
                    have q5 := fun u => over_cell (cell_later b5 d0) u
                    repeat (go_big_quiet_step (fail))
                    refine wpQuiet_nil ?_
                    rintro _ ⟨u, rfl⟩
                    have hb7 := below_then hb6 (below_over wX u)
                    go_wp2
                    go_ret
                    exact ⟨ret_int (by rw [H05.out, (HBD.out) (by omega)]), below_then B1 hb7⟩
                  · have t3 : decide (id < 0) = false := by simpa using k1
                    have t4 : decide (nx ≤ id) = false := by simpa using k2
                    have t5 : decide (id ≤ p) = false := by simpa using k3
                    go_wp2
                    refine wp_region_over (by kernel_rfl) (by kernel_rfl) ?_
                    have q0 := fun u => over_cell x0 u
                    have q1 := fun u => over_cell y1 u
                    have q4 := fun u => over_cell y4 u
                    have q5 := fun u => over_cell (cell_later b5 d0) u
                    repeat (go_big_quiet_step (fail))
                    refine wpQuiet_nil ?_
                    rintro _ ⟨u, rfl⟩
                    have hb7 := below_then hb6 (below_over wX u)
                    go_wp2
                    go_roundg g
                    case rel => exact ⟨t' + 1 + 1, id, by have := HG.out; omega, by go_num, (HGD.out) (by omega), fun h => absurd h (by omega), fun _ => ⟨by omega, _, HS.out⟩, hb7⟩
                    case measure => omega
              · have t0 : (e != 0) = true := by simpa using he0
                go_wp2
                go_ret
                have h := HST.out
                simp only [HM.out, HE.out] at h
                rw [if_pos he0] at h
                exact ⟨ret_int (by rw [H05.out, h]), below_then B1 hb6⟩
      · have t2 : (S != 0) = true := by simpa using hs0
        have HSS := Lib.hid (show R = S by
          have h := HS0.out
          split at h
          · rename_i h2; rw [(K2.out) H1.out h2]; exact h
          · rename_i h2
            have h2 : E2 = 0 := by simpa using h2
            rw [(K3.out) H1.out h2 (by rw [h]; exact hs0)]; exact h)
        go_wp2
        go_ret
        exact ⟨ret_int HSS.out.symm, below_then B1 hb⟩
    · have t1 : (E1 != 0) = true := by simpa using h1
      have HK := Lib.hid ((K1.out) h1)
      go_wp2
      go_ret
      exact ⟨ret_int HK.out.symm, B1⟩
end Go.Proofs.Ytlhbjmoncdljoaa
