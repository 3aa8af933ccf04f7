/- Walks: the check of a device, of the program. -/
import Derived.Test.YtlhbjmoncdljoaaD2
import Derived.Test.YtlhbjmoncdljoaaBlk
namespace Go.Proofs.Ytlhbjmoncdljoaa
open Go.RowKit Go.Over Go.Dev Go.Seg Go.Grow
theorem zcell (w : World) (cs : Array Value) (t : TypeId) (i : Nat) : (w.alloc (.cells cs t)).cell? ⟨w.heap.size, i, none⟩ = cs[i]? := World.cell?_alloc_at _ _ _ _ rfl
theorem rng_false {d : D} (h : rng d = false) : d.dp < 1 ∨ (1 ≤ d.dp ∧ 16 < d.dp) ∨ (1 ≤ d.dp ∧ d.dp ≤ 16 ∧ d.nx < 0) ∨ (1 ≤ d.dp ∧ d.dp ≤ 16 ∧ 0 ≤ d.nx ∧ 1099511627776 < d.nx) ∨ (1 ≤ d.dp ∧ d.dp ≤ 16 ∧ 0 ≤ d.nx ∧ d.nx ≤ 1099511627776 ∧ d.bl.length < 1) ∨ (1 ≤ d.dp ∧ d.dp ≤ 16 ∧ 0 ≤ d.nx ∧ d.nx ≤ 1099511627776 ∧ 1 ≤ d.bl.length ∧ 256 < d.bl.length) := by
  unfold rng at h
  rw [decide_eq_false_iff_not] at h
  omega
theorem rng_true {d : D} (h : rng d = true) : 1 ≤ d.dp ∧ d.dp ≤ 16 ∧ 0 ≤ d.nx ∧ d.nx ≤ 1099511627776 ∧ 1 ≤ d.bl.length ∧ d.bl.length ≤ 256 := by
  unfold rng at h
  rwa [decide_eq_true_eq] at h

set_option maxRecDepth 100000 in set_option maxHeartbeats 3200000 in
theorem check_13 (dp nx : Int) (aB aC aQ : Option Addr) (bl : List (List Int)) (ca : List Ca) (qu : List Rq) (nB cB nC cC nQ cQ : Nat) (w : World) (HB : Bls w aB bl) (HC : Cas w aC ca) (HQ : Rqs w aQ qu) (hB : bl.length = nB) (hC : ca.length = nC) (hQ : qu.length = nQ) (mB : nB ≤ 1000000) (mC : nC ≤ 1000000) (mQ : nQ ≤ 1000000) :
    Calls Try.prog 13 #[.agg #[.int .i64 dp, .int .i64 nx, .slice aB nB cB, .slice aC nC cC, .slice aQ nQ cQ]] w fun e w' => e = .returned (.int .i64 (chk ⟨dp, nx, bl, ca, qu⟩)) ∧ Below w.heap.size w w' := by
  have B1 := below_box w (.cells #[.int .i64 dp, .int .i64 nx, .slice aB nB cB, .slice aC nC cC, .slice aQ nQ cQ] 26)
  have z0 : (w.alloc (.cells #[.int .i64 dp, .int .i64 nx, .slice aB nB cB, .slice aC nC cC, .slice aQ nQ cQ] 26)).cell? ⟨w.heap.size, 0, none⟩ = some (.int .i64 dp) := zcell w _ _ 0
  have z1 : (w.alloc (.cells #[.int .i64 dp, .int .i64 nx, .slice aB nB cB, .slice aC nC cC, .slice aQ nQ cQ] 26)).cell? ⟨w.heap.size, 1, none⟩ = some (.int .i64 nx) := zcell w _ _ 1
  have z2 : (w.alloc (.cells #[.int .i64 dp, .int .i64 nx, .slice aB nB cB, .slice aC nC cC, .slice aQ nQ cQ] 26)).cell? ⟨w.heap.size, 2, none⟩ = some (.slice aB nB cB) := zcell w _ _ 2
  have z3 : (w.alloc (.cells #[.int .i64 dp, .int .i64 nx, .slice aB nB cB, .slice aC nC cC, .slice aQ nQ cQ] 26)).cell? ⟨w.heap.size, 3, none⟩ = some (.slice aC nC cC) := zcell w _ _ 3
  have z4 : (w.alloc (.cells #[.int .i64 dp, .int .i64 nx, .slice aB nB cB, .slice aC nC cC, .slice aQ nQ cQ] 26)).cell? ⟨w.heap.size, 4, none⟩ = some (.slice aQ nQ cQ) := zcell w _ _ 4
  obtain ⟨w1, hw1⟩ : ∃ W, W = w.alloc (.cells #[.int .i64 dp, .int .i64 nx, .slice aB nB cB, .slice aC nC cC, .slice aQ nQ cQ] 26) := ⟨_, rfl⟩
  have hsz1 : w.heap.size < w1.heap.size := by rw [hw1]; simp
  rw [← hw1] at B1 z0 z1 z2 z3 z4
  have Z0 := Lib.hid z0
  have Z1 := Lib.hid z1
  have Z2 := Lib.hid z2
  have Z3 := Lib.hid z3
  have Z4 := Lib.hid z4
  have GB := HB.below B1
  have GC := HC.below B1
  have GQ := HQ.below B1
  have NB := Lib.hid hB; have NC := Lib.hid hC; have NQ := Lib.hid hQ; have HW := Lib.hid hw1
  clear hw1
  obtain ⟨R, hR⟩ : ∃ R, chk ⟨dp, nx, bl, ca, qu⟩ = R := ⟨_, rfl⟩
  rw [hR]
  have HR := Lib.hid hR
  clear hR
  cases hrg : rng ⟨dp, nx, bl, ca, qu⟩ with
  | false =>
    have hc := rng_false hrg
    simp only [hB] at hc
    have H2 := Lib.hid (show R = 2 by rw [← HR.out]; exact chk_rng hrg)
    clear z0 z1 z2 z3 z4 hrg hB hC hQ
    rcases hc with h | ⟨h1, h2⟩ | ⟨h1, h2, h3⟩ | ⟨h1, h2, h3, h4⟩ | ⟨h1, h2, h3, h4, h5⟩ | ⟨h1, h2, h3, h4, h5, h6⟩
    all_goals
      go_enter Try.func13, Try.ntmps13
      go_wp2
      go_ret
      exact ⟨ret_int H2.out.symm, (by repeat (first | with_reducible exact Below.refl _ _ | with_reducible assumption | with_reducible refine below_alloc ?_ _ | with_reducible refine Below.drew ?_ | with_reducible refine below_drewN ?_ _ | with_reducible refine below_then ?_ (by with_reducible assumption)))⟩
  | true =>
    have hc := rng_true hrg
    simp only [hB] at hc
    obtain ⟨g1, g2, g3, g4, g5, g6⟩ := hc
    have HRG := Lib.hid hrg
    obtain ⟨E1, hE1⟩ : ∃ E, blE bl = E := ⟨_, rfl⟩
    obtain ⟨E2, hE2⟩ : ∃ E, caE (nB : Int) (-1) ca = E := ⟨_, rfl⟩
    obtain ⟨E3, hE3⟩ : ∃ E, cdE ca = E := ⟨_, rfl⟩
    obtain ⟨E4, hE4⟩ : ∃ E, quE (nB : Int) nx (-1) qu = E := ⟨_, rfl⟩
    have K1 := Lib.hid (show E1 ≠ 0 → R = E1 from fun h => by rw [← HR.out, chk_bl hrg (by show blE bl ≠ 0; rw [hE1]; exact h)]; exact hE1)
    have K2 := Lib.hid (show E1 = 0 → E2 ≠ 0 → R = E2 from fun h h2 => by rw [← HR.out, chk_ca hrg (by show blE bl = 0; rw [hE1]; exact h) (by show caE bl.length (-1) ca ≠ 0; rw [hB, hE2]; exact h2)]; show caE bl.length (-1) ca = _; rw [hB]; exact hE2)
    have K3 := Lib.hid (show E1 = 0 → E2 = 0 → E3 ≠ 0 → R = E3 from fun h h2 h3 => by rw [← HR.out, chk_cd hrg (by show blE bl = 0; rw [hE1]; exact h) (by show caE bl.length (-1) ca = 0; rw [hB, hE2]; exact h2) (by show cdE ca ≠ 0; rw [hE3]; exact h3)]; exact hE3)
    have K4 := Lib.hid (show E1 = 0 → E2 = 0 → E3 = 0 → dp < nQ → R = 8 from fun h h2 h3 h4 => by rw [← HR.out, chk_full hrg (by show blE bl = 0; rw [hE1]; exact h) (by show caE bl.length (-1) ca = 0; rw [hB, hE2]; exact h2) (by show cdE ca = 0; rw [hE3]; exact h3) (by show dp < qu.length; rw [hQ]; exact h4)])
    have K5 := Lib.hid (show E1 = 0 → E2 = 0 → E3 = 0 → ¬ dp < nQ → R = E4 from fun h h2 h3 h4 => by rw [← HR.out, chk_qu hrg (by show blE bl = 0; rw [hE1]; exact h) (by show caE bl.length (-1) ca = 0; rw [hB, hE2]; exact h2) (by show cdE ca = 0; rw [hE3]; exact h3) (by show ¬ dp < qu.length; rw [hQ]; exact h4)]; show quE bl.length nx (-1) qu = _; rw [hB]; exact hE4)
    have J1 := Lib.hid hE1; have J2 := Lib.hid hE2; have J3 := Lib.hid hE3; have J4 := Lib.hid hE4
    clear hE1 hE2 hE3 hE4 hrg hB hC hQ HR z0 z1 z2 z3 z4
    go_enter Try.func13, Try.ntmps13
    go_wp2
    rw [← HW.out]
    clear HW
    go_loopg [46] nB (fun g i0 wr => ∃ (i : Nat), i + g = nB ∧ i0 = .int .i64 i ∧ E1 = blE (bl.drop i) ∧ Below w1.heap.size w1 wr)
    case atStart => exact ⟨0, by omega, rfl, J1.out.symm, Below.refl _ _⟩
    case round =>
      obtain ⟨i, hg, rfl, hEi, hb⟩ := hrel
      cases gk with
      | succ g =>
        have hin : i < nB := by omega
        obtain ⟨s, hs⟩ := get_some NB.out hin
        obtain ⟨b, off, rfl, hc⟩ := (GB.below hb) (by rw [NB.out]; omega)
        obtain ⟨a', c', s0, _⟩ := hc i s hs
        obtain ⟨m, hm⟩ : ∃ m, s.length = m := ⟨_, rfl⟩
        rw [hm] at s0
        have HST := Lib.hid (hEi.trans (blE_step hs))
        have HM := Lib.hid hm; have HG := Lib.hid hg
        clear hc hs hm hEi hg
        by_cases h32 : m = 32
        · subst h32
          go_wp2_with (go_at_call 36; refine (page_36 _ _ _ _).mono ?_; rintro e w' ⟨rfl, rfl⟩)
          go_roundg g
          case rel => exact ⟨i + 1, by have := HG.out; omega, by go_num, by have h := HST.out; rw [if_neg (by rw [HM.out]; simp)] at h; exact h, hb⟩
          case measure => omega
        · have t0 : decide (m = 32) = false := by simpa using h32
          go_wp2_with (go_at_call 36; refine (page_36 _ _ _ _).mono ?_; rintro e w' ⟨rfl, rfl⟩)
          go_ret
          have h := HST.out
          rw [if_pos (by rw [HM.out]; exact h32)] at h
          exact ⟨ret_int (by rw [(K1.out) (by rw [h]; decide), h]), below_then B1 hb⟩
      | zero =>
        obtain rfl : i = nB := by omega
        have H0 := Lib.hid (show E1 = 0 by rw [hEi, List.drop_eq_nil_of_le (by rw [NB.out]; exact Nat.le_refl _)]; rfl)
        clear hg hEi
        have z0 := cell_later hb Z0.out
        have z1 := cell_later hb Z1.out
        have z2 := cell_later hb Z2.out
        have z3 := cell_later hb Z3.out
        have z4 := cell_later hb Z4.out
        go_wp2
        clear z0 z1 z2 z3 z4
        go_loopg [5, 57] nC (fun g p0 i0 wr => ∃ (j : Nat) (p : Int), j + g = nC ∧ p0 = .int .i64 p ∧ i0 = .int .i64 j ∧ E2 = caE (i : Int) p (ca.drop j) ∧ Below w1.heap.size w1 wr)
        case atStart => exact ⟨0, -1, by omega, rfl, rfl, J2.out.symm, hb⟩
        case round =>
          clear hb
          obtain ⟨j, p, hg, rfl, rfl, hEi, hb⟩ := hrel
          have z0 := cell_later hb Z0.out
          have z1 := cell_later hb Z1.out
          have z2 := cell_later hb Z2.out
          have z3 := cell_later hb Z3.out
          have z4 := cell_later hb Z4.out
          cases gk with
          | succ g =>
            have hin : j < nC := by omega
            obtain ⟨⟨k, x⟩, hs⟩ := get_some NC.out hin
            have HST := Lib.hid (hEi.trans (caE_step hs))
            obtain ⟨b, off, rfl, hc⟩ := (GC.below hb) (by rw [NC.out]; omega)
            obtain ⟨c0, a', c', c1, _⟩ := hc j _ hs
            simp only at c0 c1
            have HG := Lib.hid hg
            have hsz := Nat.lt_of_lt_of_le hsz1 hb.size
            clear hc hs hEi hg
            by_cases h1 : k ≤ p
            · have t0 : decide (k ≤ p) = true := by simpa using h1
              go_wp2
              go_ret
              have h := HST.out
              rw [if_pos (.inl h1)] at h
              exact ⟨ret_int (by rw [(K2.out) H0.out (by rw [h]; decide), h]), (by repeat (first | with_reducible exact Below.refl _ _ | with_reducible assumption | with_reducible refine below_alloc ?_ _ | with_reducible refine Below.drew ?_ | with_reducible refine below_drewN ?_ _ | with_reducible refine below_then ?_ (by with_reducible assumption)))⟩
            · by_cases h2 : (i : Int) ≤ k
              · have t0 : decide (k ≤ p) = false := by simpa using h1
                have t1 : decide ((i : Int) ≤ k) = true := by simpa using h2
                go_wp2
                go_ret
                have h := HST.out
                rw [if_pos (.inr h2)] at h
                exact ⟨ret_int (by rw [(K2.out) H0.out (by rw [h]; decide), h]), (by repeat (first | with_reducible exact Below.refl _ _ | with_reducible assumption | with_reducible refine below_alloc ?_ _ | with_reducible refine Below.drew ?_ | with_reducible refine below_drewN ?_ _ | with_reducible refine below_then ?_ (by with_reducible assumption)))⟩
              · have t0 : decide (k ≤ p) = false := by simpa using h1
                have t1 : decide ((i : Int) ≤ k) = false := by simpa using h2
                go_wp2
                go_roundg g
                case rel => exact ⟨j + 1, k, by have := HG.out; omega, rfl, by go_num, by have h := HST.out; rw [if_neg (by omega)] at h; exact h, below_then hb (below_box _ _)⟩
                case measure => omega
          | zero =>
            obtain rfl : j = nC := by omega
            have H02 := Lib.hid (show E2 = 0 by rw [hEi, List.drop_eq_nil_of_le (by rw [NC.out]; exact Nat.le_refl _)]; rfl)
            clear hg hEi
            go_wp2
            clear z0 z1 z2 z3 z4
            go_loopg [79] j (fun g i0 wr => ∃ (k : Nat), k + g = j ∧ i0 = .int .i64 k ∧ E3 = cdE (ca.drop k) ∧ Below w1.heap.size w1 wr)
            case atStart => exact ⟨0, by omega, rfl, J3.out.symm, hb⟩
            case round =>
              clear hb
              obtain ⟨k, hg, rfl, hEi, hb⟩ := hrel
              have z0 := cell_later hb Z0.out
              have z1 := cell_later hb Z1.out
              have z2 := cell_later hb Z2.out
              have z3 := cell_later hb Z3.out
              have z4 := cell_later hb Z4.out
              cases gk with
              | succ g =>
                have hin : k < j := by omega
                obtain ⟨⟨kk, x⟩, hs⟩ := get_some NC.out hin
                have HST := Lib.hid (hEi.trans (cdE_step hs))
                obtain ⟨b, off, rfl, hc⟩ := (GC.below hb) (by rw [NC.out]; omega)
                obtain ⟨c0, a', c', c1, _⟩ := hc k _ hs
                obtain ⟨m, hm⟩ : ∃ m, x.length = m := ⟨_, rfl⟩
                simp only [hm] at c0 c1
                have HM := Lib.hid hm; have HG := Lib.hid hg
                clear hc hs hEi hg hm
                by_cases h32 : m = 32
                · subst h32
                  go_wp2_with (go_at_call 36; refine (page_36 _ _ _ _).mono ?_; rintro e w' ⟨rfl, rfl⟩)
                  go_roundg g
                  case rel => exact ⟨k + 1, by have := HG.out; omega, by go_num, by have h := HST.out; rw [if_neg (by show ¬ x.length ≠ 32; rw [HM.out]; simp)] at h; exact h, below_then hb (below_box _ _)⟩
                  case measure => omega
                · have t0 : decide (m = 32) = false := by simpa using h32
                  go_wp2_with (go_at_call 36; refine (page_36 _ _ _ _).mono ?_; rintro e w' ⟨rfl, rfl⟩)
                  go_ret
                  have h := HST.out
                  rw [if_pos (by show x.length ≠ 32; rw [HM.out]; exact h32)] at h
                  exact ⟨ret_int (by rw [(K3.out) H0.out H02.out (by rw [h]; decide), h]), (by repeat (first | with_reducible exact Below.refl _ _ | with_reducible assumption | with_reducible refine below_alloc ?_ _ | with_reducible refine Below.drew ?_ | with_reducible refine below_drewN ?_ _ | with_reducible refine below_then ?_ (by with_reducible assumption)))⟩
              | zero =>
                obtain rfl : k = j := by omega
                have H03 := Lib.hid (show E3 = 0 by rw [hEi, List.drop_eq_nil_of_le (by rw [NC.out]; exact Nat.le_refl _)]; rfl)
                clear hg hEi
                by_cases hful : dp < (nQ : Int)
                · go_wp2
                  go_ret
                  exact ⟨ret_int (by rw [(K4.out) H0.out H02.out H03.out hful]), below_then B1 hb⟩
                · have H05 := Lib.hid ((K5.out) H0.out H02.out H03.out (by omega))
                  go_wp2
                  clear z0 z1 z2 z3 z4
                  go_loopg [5, 97] nQ (fun g p0 i0 wr => ∃ (t : Nat) (p : Int), t + g = nQ ∧ p0 = .int .i64 p ∧ i0 = .int .i64 t ∧ E4 = quE (i : Int) nx p (qu.drop t) ∧ Below w1.heap.size w1 wr)
                  case atStart => exact ⟨0, -1, by omega, rfl, rfl, J4.out.symm, hb⟩
                  case round =>
                    clear hb
                    obtain ⟨t, p, hg, rfl, rfl, hEi, hb⟩ := hrel
                    have z0 := cell_later hb Z0.out
                    have z1 := cell_later hb Z1.out
                    have z2 := cell_later hb Z2.out
                    have z3 := cell_later hb Z3.out
                    have z4 := cell_later hb Z4.out
                    cases gk with
                    | zero =>
                      obtain rfl : t = nQ := by omega
                      have H04 := Lib.hid (show E4 = 0 by rw [hEi, List.drop_eq_nil_of_le (by rw [NQ.out]; exact Nat.le_refl _)]; rfl)
                      clear hg hEi
                      go_wp2
                      go_ret
                      exact ⟨ret_int (by rw [H05.out, H04.out]), below_then B1 hb⟩
                    | succ g =>
                      have hin : t < nQ := by omega
                      obtain ⟨⟨id, kd, bk, x⟩, hs⟩ := get_some NQ.out hin
                      have HST := Lib.hid (hEi.trans (quE_step hs))
                      obtain ⟨b, off, rfl, hc⟩ := (GQ.below hb) (by rw [NQ.out]; omega)
                      obtain ⟨c0, c1, c2, a', c', c3, _⟩ := hc t _ hs
                      obtain ⟨m, hm⟩ : ∃ m, x.length = m := ⟨_, rfl⟩
                      simp only [hm] at c0 c1 c2 c3
                      have HM := Lib.hid hm; have HG := Lib.hid hg
                      have hsz := Nat.lt_of_lt_of_le hsz1 hb.size
                      obtain ⟨e, he⟩ : ∃ e, rqE (i : Int) kd bk m = e := ⟨_, rfl⟩
                      have hrq := fun W => reqE_37 dp nx (.slice aC k cC) (.slice (some ⟨b, off, none⟩) nQ cQ) aB i cB id kd bk a' m c' W
                      rw [he] at hrq
                      have HRQ := Lib.hid hrq; have HE := Lib.hid he
                      have X5 := Blk.new wr 39 #[.int .i64 id, .int .i64 kd, .int .i64 bk, .slice a' m c'] [.int .i64 id, .int .i64 kd, .int .i64 bk, .slice a' m c'] rfl
                      have b5 := below_box wr (.cells #[.int .i64 id, .int .i64 kd, .int .i64 bk, .slice a' m c'] 39)
                      clear hc hs hEi hg hm hrq he
                      go_wp2_with fail
                      refine (HRQ.out _).mono ?_
                      rintro e' w5 ⟨rfl, b6⟩
                      have bb := below_then b5 b6
                      have hb6 := below_then hb bb
                      have X6 := X5.later b6
                      have x0 : w5.cell? ⟨wr.heap.size, 0, none⟩ = some (.int .i64 id) := X6.cell 0
                      have y1 := cell_later hb6 Z1.out
                      clear z0 z1 z2 z3 z4 c0 c1 c2 c3 X5 b5 b6 HRQ hb
                      by_cases he0 : e = 0
                      · subst he0
                        have hst := HST.out
                        simp only [HM.out, HE.out] at hst
                        rw [if_neg (by simp)] at hst
                        have HS2 := Lib.hid hst
                        clear hst
                        by_cases h1 : id ≤ p
                        · have t0 : decide (id ≤ p) = true := by simpa using h1
                          go_wp2
                          go_ret
                          have h := HS2.out
                          rw [if_pos (.inl h1)] at h
                          exact ⟨ret_int (by rw [H05.out, h]), below_then B1 hb6⟩
                        · by_cases h2 : nx ≤ id
                          · have t0 : decide (id ≤ p) = false := by simpa using h1
                            have t1 : decide (nx ≤ id) = true := by simpa using h2
                            go_wp2
                            go_ret
                            have h := HS2.out
                            rw [if_pos (.inr h2)] at h
                            exact ⟨ret_int (by rw [H05.out, h]), below_then B1 hb6⟩
                          · have t0 : decide (id ≤ p) = false := by simpa using h1
                            have t1 : decide (nx ≤ id) = false := by simpa using h2
                            go_wp2
                            go_roundg g
                            case rel => exact ⟨t + 1, id, by have := HG.out; omega, rfl, by go_num, by have h := HS2.out; rw [if_neg (by omega)] at h; exact h, hb6⟩
                            case measure => omega
                      · have t0 : (e != 0) = true := by simpa using he0
                        go_wp2
                        go_ret
                        have h := HST.out
                        simp only [HM.out, HE.out] at h
                        rw [if_pos he0] at h
                        exact ⟨ret_int (by rw [H05.out, h]), below_then B1 hb6⟩
end Go.Proofs.Ytlhbjmoncdljoaa
