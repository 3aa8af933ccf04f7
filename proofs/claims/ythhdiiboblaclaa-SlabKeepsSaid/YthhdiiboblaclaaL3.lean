/- The walk of the law on the account of a cache. -/
import Derived.Test.YthhdiiboblaclaaL2
namespace Go.Proofs.Ythhdiiboblaclaa
open Go.RowKit Go.Over Go.Slb Go.Seg Go.Grow
set_option maxRecDepth 100000 in set_option maxHeartbeats 3200000 in
theorem law_accounts (o : Int) (a : Option Addr) (l : List S) (n c : Nat) (N : Int) (w : World) (H : Slabs w a l) (hn : l.length = n) (hN1 : -9223372036854775808 ≤ N) (hN2 : N ≤ 9223372036854775807) :
    Calls Try.prog 9 #[.agg #[.int .i64 o, .slice a n c], .int .i64 N] w fun e w' => e = .returned (.bool true) ∧ Below w.heap.size w w' := by
  have HN := Lib.hid hn
  have b1 := below_box w (.cells #[.int .i64 o, .slice a n c] 24)
  have X1 := Blk.new w 24 #[.int .i64 o, .slice a n c] [.int .i64 o, .slice a n c] rfl
  obtain ⟨w1, hw1⟩ : ∃ W, W = w.alloc (.cells #[.int .i64 o, .slice a n c] 24) := ⟨_, rfl⟩
  rw [← hw1] at b1 X1
  have hfw := few_12 o a l n c w1 (H.below b1) hn
  obtain ⟨fb, hfb⟩ : ∃ fb, fewB 20 l = fb := ⟨_, rfl⟩
  rw [hfb] at hfw
  have HFW := Lib.hid hfw; have HW := Lib.hid hw1; have HFB := Lib.hid hfb
  clear hn hw1 hfw hfb
  go_enter Try.func9, Try.ntmps9
  go_wp2_with fail
  rw [← HW.out]
  refine (HFW.out).mono ?_
  rintro e w2 ⟨rfl, b2⟩
  have X2 := X1.later b2
  have B2 := below_then b1 b2
  have x0 : w2.cell? ⟨w.heap.size, 0, none⟩ = some (.int .i64 o) := X2.cell 0
  have x1 : w2.cell? ⟨w.heap.size, 1, none⟩ = some (.slice a n c) := X2.cell 1
  clear HW HFW b1 b2 X1
  cases fb with
  | false =>
    go_wp2_with (go_at_call 13; refine (awake_13 _).mono ?_; rintro e w' ⟨rfl, hz⟩)
    go_ret
    exact ⟨rfl, (by repeat (first | with_reducible exact Below.refl _ _ | with_reducible assumption | with_reducible refine below_alloc ?_ _ | with_reducible refine Below.drew ?_ | with_reducible refine below_drewN ?_ _ | with_reducible refine below_then ?_ (by with_reducible assumption)))⟩
  | true =>
    have hfs := few_spec HFB.out
    have hn20 : n ≤ 20 := by have := hfs.1; have := HN.out; omega
    have hl40 := hfs.2
    clear hfs HFB
    go_wp2_with fail
    refine (check_17 o a l n c w2 (H.below B2) HN.out (by omega)).mono ?_
    rintro e w3 ⟨rfl, b3⟩
    have X3 := X2.later b3
    have B3 := below_then B2 b3
    clear x0 x1 X2 B2 b3
    have x0 : w3.cell? ⟨w.heap.size, 0, none⟩ = some (.int .i64 o) := X3.cell 0
    have x1 : w3.cell? ⟨w.heap.size, 1, none⟩ = some (.slice a n c) := X3.cell 1
    obtain ⟨R, hR⟩ : ∃ R, check o l = R := ⟨_, rfl⟩
    rw [hR]
    by_cases hR0 : R = 0
    · subst hR0
      have hok := check_ok.1 hR
      have hac := acc_ok hR HN.out
      have ho1 := hok.o1
      have ho2 := hok.o2
      have hfb := free_bound hok
      have hmu := mul_small2 (x := (n : Int)) (o := o) (by omega) (by omega) (by omega) ho2
      have hfr : free o l = (n : Int) * o - used l := by unfold free; rw [HN.out]
      have hlo := objs_len o l
      have hub := used_le hok.len
      rw [HN.out] at hub
      obtain ⟨U, hU⟩ : ∃ U, used l = U := ⟨_, rfl⟩
      obtain ⟨F, hF⟩ : ∃ F, free o l = F := ⟨_, rfl⟩
      rw [hU] at hac hfr hlo hub
      by_cases hN : N < 1
      · clear hfr
        go_wp2_with (go_at_call 13; refine (awake_13 _).mono ?_; rintro e w' ⟨rfl, hz⟩)
        go_ret
        exact ⟨rfl, (by repeat (first | with_reducible exact Below.refl _ _ | with_reducible assumption | with_reducible refine below_alloc ?_ _ | with_reducible refine Below.drew ?_ | with_reducible refine below_drewN ?_ _ | with_reducible refine below_then ?_ (by with_reducible assumption)))⟩
      · by_cases hN' : 200 < N
        · clear hfr
          go_wp2_with (go_at_call 13; refine (awake_13 _).mono ?_; rintro e w' ⟨rfl, hz⟩)
          go_ret
          exact ⟨rfl, (by repeat (first | with_reducible exact Below.refl _ _ | with_reducible assumption | with_reducible refine below_alloc ?_ _ | with_reducible refine Below.drew ?_ | with_reducible refine below_drewN ?_ _ | with_reducible refine below_then ?_ (by with_reducible assumption)))⟩
        · have hnb := need_bounds hok (show 1 ≤ N by omega)
          obtain ⟨M, hM⟩ : ∃ M, needL o l N = M := ⟨_, rfl⟩
          rw [hF] at hfb hfr
          rw [hM, hF] at hnb
          obtain ⟨A, hA⟩ : ∃ A, M * o = A := ⟨_, rfl⟩
          obtain ⟨B, hB⟩ : ∃ B, (M - 1) * o = B := ⟨_, rfl⟩
          obtain ⟨P, hP⟩ : ∃ P, (n : Int) * o = P := ⟨_, rfl⟩
          have hAB : A = B + o := by rw [← hA, ← hB, Int.sub_mul]; omega
          have hM200 : M ≤ 200 := by
            by_cases h0 : 0 < M
            · have h1 := hnb.2.2 h0
              have h2 := Int.mul_le_mul_of_nonneg_left (show 1 ≤ o by omega) (show 0 ≤ M - 1 by omega)
              rw [hB] at h1 h2
              omega
            · omega
          have hAb := mul_small2 (x := M) (o := o) hnb.1 (by omega) (by omega) ho2
          rw [hA] at hnb hAb
          rw [hB] at hnb
          rw [hP] at hac hfr hmu hub
          rw [show P - (U : Int) = F from hfr.symm] at hac
          obtain ⟨hnb0, hnb1, hnb2⟩ := hnb
          have HAC := Lib.hid hac; have HM := Lib.hid hM; have HLO := Lib.hid hlo
          have hPU : P = (U : Int) + F := by omega
          have HFR := Lib.hid hPU
          have t1 : (P != (U : Int) + F) = false := by rw [hPU]; simp
          have t2 : ((n : Int) != (n : Int)) = false := by simp
          have t3 : ((U : Int) != (U : Int)) = false := by simp
          clear hac hM hlo hfr hU hF hPU hR
          go_wp2_with fail
          refine (account_27 o a l n c w3 (H.below B3) HN.out (by omega)).mono ?_
          rintro e w4 ⟨rfl, b4⟩
          rw [HAC.out]
          have X4 := X3.later b4
          have B4 := below_then B3 b4
          clear x0 x1 X3 B3 b4
          have x0 : w4.cell? ⟨w.heap.size, 0, none⟩ = some (.int .i64 o) := X4.cell 0
          have x1 : w4.cell? ⟨w.heap.size, 1, none⟩ = some (.slice a n c) := X4.cell 1
          go_wp2_with fail
          refine (need_29 o a l n c N w4 (H.below B4) HN.out (by omega) hN1 hN2).mono ?_
          rintro e w5 ⟨rfl, b5⟩
          rw [HM.out]
          have X5 := X4.later b5
          have B5 := below_then B4 b5
          clear x0 x1 X4 B4 b5
          have x0 : w5.cell? ⟨w.heap.size, 0, none⟩ = some (.int .i64 o) := X5.cell 0
          have x1 : w5.cell? ⟨w.heap.size, 1, none⟩ = some (.slice a n c) := X5.cell 1
          have hUF1 : (U : Int) + F ≤ 32000 := by have := HFR.out; omega
          have hUF0 : 0 ≤ (U : Int) + F := by omega
          go_wp2_with fail
          refine (objects_30 o a l n c w5 (H.below B5) HN.out (by omega)).mono ?_
          rintro e w6 ⟨v, rfl, hI, b6⟩
          rw [if_pos (check_ok.2 hok)] at hI
          obtain ⟨ai, ci, rfl, _, _, _, _⟩ := hI.ints HLO.out
          have X6 := X5.later b6
          have B6 := below_then B5 b6
          clear x0 x1 X5 B5 b6 hI
          have x0 : w6.cell? ⟨w.heap.size, 0, none⟩ = some (.int .i64 o) := X6.cell 0
          have x1 : w6.cell? ⟨w.heap.size, 1, none⟩ = some (.slice a n c) := X6.cell 1
          have hAB' := Lib.hid hAB
          have hBb0 : -32 ≤ B := by omega
          have hBb1 : B ≤ 32000 := by omega
          clear hAB
          by_cases h0 : 0 < M
          · have h1 := hnb2 h0
            go_wp2_with (go_at_call 13; refine (awake_13 _).mono ?_; rintro e w' ⟨rfl, hz⟩)
            go_ret
            exact ⟨rfl, (by repeat (first | with_reducible exact Below.refl _ _ | with_reducible assumption | with_reducible refine below_alloc ?_ _ | with_reducible refine Below.drew ?_ | with_reducible refine below_drewN ?_ _ | with_reducible refine below_then ?_ (by with_reducible assumption)))⟩
          · go_wp2_with (go_at_call 13; refine (awake_13 _).mono ?_; rintro e w' ⟨rfl, hz⟩)
            go_ret
            exact ⟨rfl, (by repeat (first | with_reducible exact Below.refl _ _ | with_reducible assumption | with_reducible refine below_alloc ?_ _ | with_reducible refine Below.drew ?_ | with_reducible refine below_drewN ?_ _ | with_reducible refine below_then ?_ (by with_reducible assumption)))⟩
    · go_wp2_with (go_at_call 13; refine (awake_13 _).mono ?_; rintro e w' ⟨rfl, hz⟩)
      go_ret
      exact ⟨rfl, (by repeat (first | with_reducible exact Below.refl _ _ | with_reducible assumption | with_reducible refine below_alloc ?_ _ | with_reducible refine Below.drew ?_ | with_reducible refine below_drewN ?_ _ | with_reducible refine below_then ?_ (by with_reducible assumption)))⟩
end Go.Proofs.Ythhdiiboblaclaa
