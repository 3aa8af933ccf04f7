/- Walks: the need, of the program. -/
import Derived.Test.YthhdiiboblaclaaW8
namespace Go.Proofs.Ythhdiiboblaclaa
open Go.RowKit Go.Over Go.Slb Go.Seg Go.Grow
theorem need_ceil {o : Int} {l : List S} {N F : Int} (ho : 1 ≤ o) (hF : free o l = F) (hc : check o l = 0) (h1 : ¬ N < 1) (h2 : ¬ N ≤ F) : needL o l N = (N - F) / o + if 0 < (N - F) % o then 1 else 0 := by
  rw [need_yes (by rw [hF]; omega), hF, ceil_eq ho]
set_option maxRecDepth 100000 in set_option maxHeartbeats 1600000 in
theorem need_29 (o : Int) (a : Option Addr) (l : List S) (n c : Nat) (N : Int) (w : World) (H : Slabs w a l) (hn : l.length = n) (hm : n ≤ 1000000) (hN1 : -9223372036854775808 ≤ N) (hN2 : N ≤ 9223372036854775807) :
    Calls Try.prog 29 #[.agg #[.int .i64 o, .slice a n c], .int .i64 N] w fun e w' => e = .returned (.int .i64 (needL o l N)) ∧ Below w.heap.size w w' := by
  have HN := Lib.hid hn
  obtain ⟨w1, hw1⟩ : ∃ w1, w1 = w.alloc (.cells #[.int .i64 o, .slice a n c] 24) := ⟨_, rfl⟩
  obtain ⟨k0, k1⟩ := box_cells w (.int .i64 o) (.slice a n c) 24
  have B1 := below_box w (.cells #[.int .i64 o, .slice a n c] 24)
  rw [← hw1] at k0 k1 B1
  have H1 := H.below B1
  have hz1 : w.heap.size < w1.heap.size := by rw [hw1]; simp
  have HW := Lib.hid hw1; clear hw1
  have K0 := Lib.hid k0; have K1 := Lib.hid k1
  obtain ⟨R, hR⟩ : ∃ R, check o l = R := ⟨_, rfl⟩
  obtain ⟨V, hV⟩ : ∃ V, needL o l N = V := ⟨_, rfl⟩
  obtain ⟨A, hA⟩ : ∃ A, acc o l = A := ⟨_, rfl⟩
  rw [hV]
  have HA := Lib.hid hA
  clear hn
  by_cases h0 : R = 0
  · subst h0
    have hok := check_ok.1 hR
    have hfb := free_bound hok
    have hac := acc_free hR
    have ho1 := hok.o1
    have ho2 := hok.o2
    obtain ⟨F, hF⟩ : ∃ F, free o l = F := ⟨_, rfl⟩
    obtain ⟨U, hU⟩ : ∃ U, used l = U := ⟨_, rfl⟩
    rw [hF] at hfb
    rw [hF, hU, HN.out, hA] at hac
    subst hac
    have HR := Lib.hid hR; have HF := Lib.hid hF; have HV := Lib.hid hV
    clear hF hU hok hA hV
    go_enter Try.func29, Try.ntmps29
    go_wp2_with fail
    rw [← HW.out]
    clear HW k0 k1 hR
    refine (account_27 o a l n c _ H1 HN.out hm).mono ?_
    rintro e w2 ⟨rfl, hb2⟩
    rw [HA.out]
    have c0 := cell_later hb2 K0.out
    have c1 := cell_later hb2 K1.out
    by_cases h1 : N < 1
    · have HE := Lib.hid (show (0 : Int) = V by rw [← HV.out, need_no (.inl h1)])
      go_wp2
      go_ret
      exact ⟨ret_int HE.out, below_then B1 hb2⟩
    · go_wp2_with fail
      refine (check_16 o a l n c _ (H1.below hb2) HN.out hm).mono ?_
      rintro e w3 ⟨rfl, hb3⟩
      rw [HR.out]
      have hb := below_then B1 (below_then hb2 hb3)
      have c3 := cell_later (below_then hb2 hb3) K0.out
      clear hb2 hb3 c0 c1
      by_cases h2 : N ≤ F
      · have HE := Lib.hid (show (0 : Int) = V by rw [← HV.out, need_no (.inr (.inr (by rw [HF.out]; exact h2)))])
        go_wp2
        go_ret
        exact ⟨ret_int HE.out, hb⟩
      · have HE := Lib.hid (show (N - F) / o + (if 0 < (N - F) % o then 1 else 0) = V by rw [← HV.out, need_ceil ho1 HF.out HR.out (by omega) (by omega)])
        obtain ⟨q, hq⟩ : ∃ q, (N - F) / o = q := ⟨_, rfl⟩
        obtain ⟨r, hr⟩ : ∃ r, (N - F) % o = r := ⟨_, rfl⟩
        have hq0 : 0 ≤ q := by rw [← hq]; exact Int.ediv_nonneg (by omega) (by omega)
        have hq1 : q ≤ N - F := by rw [← hq]; exact Int.ediv_le_self _ (by omega)
        have hq3 : 0 < r → q < N - F := by
          intro hr0
          have h3 := Int.emod_add_mul_ediv (N - F) o
          rw [hq, hr] at h3
          have h4 : q ≤ o * q := by
            have := Int.mul_le_mul_of_nonneg_right ho1 hq0
            omega
          omega
        have hq2 : (N - F).tdiv o = q := by rw [Int.tdiv_eq_ediv_of_nonneg (by omega)]; exact hq
        have hr2 : (N - F).tmod o = r := by rw [Int.tmod_eq_emod_of_nonneg (by omega)]; exact hr
        have hr0 : 0 ≤ r := by rw [← hr]; exact Int.emod_nonneg _ (by omega)
        rw [hq, hr] at HE
        have hoz : (o == 0) = false := by simp; omega
        by_cases hrp : 0 < r
        · have HE2 := Lib.hid (show q + 1 = V by rw [← HE.out, if_pos hrp])
          have hq4 := hq3 hrp
          clear hq3
          go_wp2
          go_ret
          exact ⟨ret_int HE2.out, hb⟩
        · have HE2 := Lib.hid (show q = V by rw [← HE.out, if_neg hrp]; omega)
          clear hq3
          go_wp2
          go_ret
          exact ⟨ret_int HE2.out, hb⟩
  · rw [need_no (.inr (.inl (by rw [hR]; exact h0)))] at hV
    have hac := acc_no (show ¬ check o l = 0 by rw [hR]; exact h0)
    rw [hA] at hac
    subst hac
    have hne : (R != 0) = true := by simpa using h0
    have HR := Lib.hid hR; have HV := Lib.hid hV
    clear hR hV h0 hA
    go_enter Try.func29, Try.ntmps29
    go_wp2_with fail
    rw [← HW.out]
    clear HW k0 k1
    refine (account_27 o a l n c _ H1 HN.out hm).mono ?_
    rintro e w2 ⟨rfl, hb2⟩
    rw [HA.out]
    have c0 := cell_later hb2 K0.out
    have c1 := cell_later hb2 K1.out
    by_cases h1 : N < 1
    · go_wp2
      go_ret
      exact ⟨ret_int HV.out, below_then B1 hb2⟩
    · go_wp2_with fail
      refine (check_16 o a l n c _ (H1.below hb2) HN.out hm).mono ?_
      rintro e w3 ⟨rfl, hb3⟩
      rw [HR.out]
      have hb := below_then B1 (below_then hb2 hb3)
      clear hb2 hb3 c0 c1
      go_wp2
      go_ret
      exact ⟨ret_int HV.out, hb⟩
end Go.Proofs.Ythhdiiboblaclaa
