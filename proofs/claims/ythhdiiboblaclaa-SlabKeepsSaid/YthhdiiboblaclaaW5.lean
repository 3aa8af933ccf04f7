/- Walks: the numbers of objects and the need, of the reference; the need of the program. -/
import Derived.Test.YthhdiiboblaclaaW4
namespace Go.Proofs.Ythhdiiboblaclaa
open Go.RowKit Go.Over Go.Slb Go.Seg
set_option maxRecDepth 100000 in set_option maxHeartbeats 1600000 in
theorem account_28 (o : Int) (a : Option Addr) (l : List S) (n c : Nat) (w : World) (H : Slabs w a l) (hn : l.length = n) (hm : n ≤ 1000000) :
    Calls Try.prog 28 #[.agg #[.int .i64 o, .slice a n c]] w fun e w' => e = .returned (acc o l) ∧ Below w.heap.size w w' := by
  have HN := Lib.hid hn
  obtain ⟨w1, hw1⟩ : ∃ w1, w1 = w.alloc (.cells #[.int .i64 o, .slice a n c] 24) := ⟨_, rfl⟩
  obtain ⟨k0, k1⟩ := box_cells w (.int .i64 o) (.slice a n c) 24
  have B1 := below_box w (.cells #[.int .i64 o, .slice a n c] 24)
  rw [← hw1] at k0 k1 B1
  have H1 := H.below B1
  have hz1 : w.heap.size < w1.heap.size := by rw [hw1]; simp
  have HW := Lib.hid hw1; clear hw1
  have K0 := Lib.hid k0; have K1 := Lib.hid k1; have hn' := hn
  clear hn
  obtain ⟨V, hV⟩ : ∃ V, acc o l = V := ⟨_, rfl⟩
  rw [hV]
  obtain ⟨R, hR⟩ : ∃ R, check o l = R := ⟨_, rfl⟩
  by_cases h0 : R = 0
  · have hok := check_ok.1 (hR.trans h0)
    have hcount := ok_count hok
    rw [hn'] at hcount
    have ho1 := hok.o1
    have ho2 := hok.o2
    have hule := used_le hok.len
    rw [hn'] at hule
    rw [acc_ok (hR.trans h0) hn'] at hV
    have HL := Lib.hid hok.len
    subst h0
    have HR := Lib.hid hR; have HV := Lib.hid hV
    obtain ⟨p, hp⟩ : ∃ p : Int, (n : Int) * o = p := ⟨_, rfl⟩
    have hp1 : 0 ≤ p := by rw [← hp]; exact Int.mul_nonneg (by omega) (by omega)
    have hp2 : p ≤ 8192 := by
      rw [← hp]
      have h1 := Int.mul_le_mul_of_nonneg_right (show (n : Int) ≤ 256 by omega) (show (0 : Int) ≤ o by omega)
      omega
    rw [hp] at hule
    have HP := Lib.hid hp
    clear hR hV hn' hok hp
    go_enter Try.func28, Try.ntmps28
    go_wp2_with fail
    rw [← HW.out]
    clear k0 k1
    refine (check_17 o a l n c _ H1 HN.out hm).mono ?_
    rintro e w2 ⟨rfl, hb2⟩
    rw [HR.out]
    have k1 := cell_later hb2 K1.out
    clear HW
    go_wp2
    go_loopg [5, 6] n (fun g k0 i0 wr => ∃ (i k : Nat), i + g = n ∧ k0 = .int .i64 k ∧ i0 = .int .i64 i ∧ k ≤ i * 32 ∧ used l = k + used (l.drop i) ∧ Below w1.heap.size w1 wr)
    case atStart => exact ⟨0, 0, by omega, rfl, rfl, by omega, by simp, hb2⟩
    case round =>
      clear k1 hb2
      obtain ⟨i, k, hg, rfl, rfl, hki, hF, hb⟩ := hrel
      have c0 := cell_later hb K0.out
      have c1 := cell_later hb K1.out
      cases gk with
      | zero =>
        obtain rfl : i = n := by omega
        have hk : used l = k := by
          rw [hF, List.drop_eq_nil_of_le (by rw [HN.out]; exact Nat.le_refl _)]; rfl
        rw [hk] at hule
        have HK := Lib.hid hk
        have hp := HP.out
        have e1 : IntKind.i64.wrap (p - (k : Int)) = p - (k : Int) := IntWalk.i64_in _ (by omega)
        have e2 : IntKind.i64.wrap p = p := IntWalk.i64_in _ (by omega)
        clear hg hF hk
        go_wp2
        go_quiet (fail)
        go_wp2
        go_ret3
        exact ⟨by rw [← HV.out, HK.out, HP.out]; rfl, below_drewN (below_then B1 hb) _⟩
      | succ g =>
        have hin : i < n := by omega
        obtain ⟨⟨f, u⟩, hs⟩ := get_some HN.out hin
        have hum := HL.out _ (List.mem_of_getElem? hs)
        rw [used_drop hs] at hF
        obtain ⟨b, off, rfl, hc⟩ := (H1.below hb) (by rw [HN.out]; omega)
        obtain ⟨s0, a', c', s1, hc1, hc2, hc3, hf⟩ := hc i _ hs
        obtain ⟨m, hm'⟩ : ∃ m, u.length = m := ⟨_, rfl⟩
        simp only [hm'] at s0 s1 hc1 hum
        have hm32 : m ≤ 32 := by omega
        have HM := Lib.hid hm'; have HG := Lib.hid hg; have HF := Lib.hid hF
        have hi256 : i < 256 := by omega
        clear hm' hg hs hc hF hum
        have hf1 := hf
        go_wp2_with fail
        refine (used_34 f a' u m c' _ hf HM.out (by omega)).mono ?_
        rintro e wi ⟨rfl, hbi⟩
        have hcm : cnt u ≤ m := by rw [← HM.out]; exact List.count_le_length
        obtain ⟨kk, hkk⟩ : ∃ kk, cnt u = kk := ⟨_, rfl⟩
        rw [hkk] at hcm ⊢
        have HC := Lib.hid hkk; clear hkk
        go_wp2
        go_roundg g
        case rel => exact ⟨i + 1, k + kk, by have := HG.out; omega, by go_num, by go_num, by omega, by have := HF.out; have := HC.out; omega, below_then hb hbi⟩
        case measure => omega
  · rw [acc_no (by rw [hR]; exact h0)] at hV
    have hne : (R != 0) = true := by simpa using h0
    have HR := Lib.hid hR; have HV := Lib.hid hV
    clear hR hV hn' h0
    go_enter Try.func28, Try.ntmps28
    go_wp2_with fail
    rw [← HW.out]
    clear k0 k1
    refine (check_17 o a l n c _ H1 HN.out hm).mono ?_
    rintro e w2 ⟨rfl, hb2⟩
    rw [HR.out]
    clear HW
    go_wp2
    go_ret3
    exact ⟨by rw [← HV.out]; rfl, below_then B1 hb2⟩
theorem need_no {o : Int} {l : List S} {n : Int} (h : n < 1 ∨ check o l ≠ 0 ∨ n ≤ free o l) : needL o l n = 0 := by unfold needL; rw [if_pos h]
theorem need_yes {o : Int} {l : List S} {n : Int} (h : ¬ (n < 1 ∨ check o l ≠ 0 ∨ n ≤ free o l)) : needL o l n = (n - free o l - 1) / o + 1 := by unfold needL; rw [if_neg h]
theorem acc_free {o : Int} {l : List S} (h : check o l = 0) : acc o l = .tuple #[.int .i64 l.length, .int .i64 (used l), .int .i64 (free o l)] := by unfold acc; rw [if_pos h]
theorem free_bound {o : Int} {l : List S} (h : Ok o l) : 0 ≤ free o l ∧ free o l ≤ 8192 := by
  have h1 := used_le h.len
  have h2 := ok_count h
  have h3 : (l.length : Int) * o ≤ 256 * 32 := by
    have a1 := Int.mul_le_mul_of_nonneg_right (show (l.length : Int) ≤ 256 by omega) (show (0 : Int) ≤ o by have := h.o1; omega)
    have := h.o2
    omega
  unfold free
  omega
set_option maxRecDepth 100000 in set_option maxHeartbeats 1600000 in
theorem need_25 (o : Int) (a : Option Addr) (l : List S) (n c : Nat) (N : Int) (w : World) (H : Slabs w a l) (hn : l.length = n) (hm : n ≤ 1000000) (hN1 : -9223372036854775808 ≤ N) (hN2 : N ≤ 9223372036854775807) :
    Calls Try.prog 25 #[.agg #[.int .i64 o, .slice a n c], .int .i64 N] w fun e w' => e = .returned (.int .i64 (needL o l N)) ∧ Below w.heap.size w w' := by
  have HN := Lib.hid hn
  obtain ⟨w1, hw1⟩ : ∃ w1, w1 = w.alloc (.cells #[.int .i64 o, .slice a n c] 24) := ⟨_, rfl⟩
  obtain ⟨k0, k1⟩ := box_cells w (.int .i64 o) (.slice a n c) 24
  have B1 := below_box w (.cells #[.int .i64 o, .slice a n c] 24)
  rw [← hw1] at k0 k1 B1
  have H1 := H.below B1
  have hz1 : w.heap.size < w1.heap.size := by rw [hw1]; simp
  have HW := Lib.hid hw1; clear hw1
  have K0 := Lib.hid k0; have K1 := Lib.hid k1
  obtain ⟨R, hR⟩ : ∃ R, check o l = R := ⟨_, rfl⟩
  obtain ⟨V, hV⟩ : ∃ V, needL o l N = V := ⟨_, rfl⟩
  rw [hV]
  clear hn
  by_cases h1 : N < 1
  · rw [need_no (.inl h1)] at hV
    have HV := Lib.hid hV; clear hV hR k0 k1
    go_enter Try.func25, Try.ntmps25
    go_wp2
    go_ret
    exact ⟨ret_int HV.out, (by repeat (first | with_reducible exact Below.refl _ _ | with_reducible assumption | with_reducible refine below_alloc ?_ _ | with_reducible refine Below.drew ?_ | with_reducible refine below_drewN ?_ _ | with_reducible refine below_then ?_ (by with_reducible assumption)))⟩
  · by_cases h0 : R = 0
    · subst h0
      have hok := check_ok.1 hR
      have hfb := free_bound hok
      have hac := acc_free hR
      have ho1 := hok.o1
      have ho2 := hok.o2
      obtain ⟨F, hF⟩ : ∃ F, free o l = F := ⟨_, rfl⟩
      obtain ⟨U, hU⟩ : ∃ U, used l = U := ⟨_, rfl⟩
      rw [hF] at hfb
      rw [hF, hU, HN.out] at hac
      have HR := Lib.hid hR; have HA := Lib.hid hac; have HF := Lib.hid hF
      clear hac hF hU hok
      go_enter Try.func25, Try.ntmps25
      go_wp2_with fail
      rw [← HW.out]
      clear HW k0 k1
      refine (check_17 o a l n c _ H1 HN.out hm).mono ?_
      rintro e w2 ⟨rfl, hb2⟩
      rw [HR.out]
      have c0 := cell_later hb2 K0.out
      have c1 := cell_later hb2 K1.out
      go_wp2_with fail
      refine (account_28 o a l n c _ (H1.below hb2) HN.out hm).mono ?_
      rintro e w3 ⟨rfl, hb3⟩
      rw [HA.out]
      have hb := below_then B1 (below_then hb2 hb3)
      have c3 := cell_later (below_then hb2 hb3) K0.out
      clear hb2 hb3 c0 c1 hR
      by_cases h2 : N ≤ F
      · have HE := Lib.hid (show (0 : Int) = V by rw [← hV, need_no (.inr (.inr (by rw [HF.out]; exact h2)))])
        clear hV
        go_wp2
        go_ret
        exact ⟨ret_int HE.out, hb⟩
      · have HE := Lib.hid (show (N - F - 1) / o + 1 = V by rw [← hV, need_yes (by rw [HR.out, HF.out]; omega), HF.out])
        clear hV
        obtain ⟨q, hq⟩ : ∃ q, (N - F - 1) / o = q := ⟨_, rfl⟩
        have hq0 : 0 ≤ q := by rw [← hq]; exact Int.ediv_nonneg (by omega) (by omega)
        have hq1 : q ≤ N - F - 1 := by rw [← hq]; exact Int.ediv_le_self _ (by omega)
        have hq2 : (N - F - 1).tdiv o = q := by rw [Int.tdiv_eq_ediv_of_nonneg (by omega)]; exact hq
        rw [hq] at HE
        have hoz : (o == 0) = false := by simp; omega
        go_wp2
        go_ret
        exact ⟨ret_int HE.out, hb⟩
    · rw [need_no (.inr (.inl (by rw [hR]; exact h0)))] at hV
      have hne : (R != 0) = true := by simpa using h0
      have HR := Lib.hid hR; have HV := Lib.hid hV
      clear hR hV h0
      go_enter Try.func25, Try.ntmps25
      go_wp2_with fail
      rw [← HW.out]
      clear k0 k1
      refine (check_17 o a l n c _ H1 HN.out hm).mono ?_
      rintro e w2 ⟨rfl, hb2⟩
      rw [HR.out]
      clear HW
      go_wp2
      go_ret
      exact ⟨ret_int HV.out, below_then B1 hb2⟩
end Go.Proofs.Ythhdiiboblaclaa
