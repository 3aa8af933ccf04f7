/- The walks of the laws on an allocation and a release. -/
import Derived.Test.YthhdiiboblaclaaL1
namespace Go.Proofs.Ythhdiiboblaclaa
open Go.RowKit Go.Over Go.Slb Go.Seg Go.Grow
theorem alloc_20' (o : Int) (a : Option Addr) (l : List S) (n c : Nat) (N : Int) (fa : Option Addr) (F : List Int) (fm fc : Nat) (w : World) (H : Slabs w a l) (hn : l.length = n) (hm : n ≤ 1000000) (hN1 : -9223372036854775808 ≤ N) (hN2 : N ≤ 9223372036854775807) (HF : Ints w fa F) (hfm : F.length = fm) (hf1 : fm ≤ 1000) :
    Calls Try.prog 20 #[.agg #[.int .i64 o, .slice a n c], .int .i64 N, .slice fa fm fc] w (AllocAns w.heap.size o (allocP o l N F) w) := by
  rw [alloc_eq]; exact alloc_20 o a l n c N fa F fm fc w H hn hm hN1 hN2 HF hfm hf1
/-- What an allocation gives, of any length, few slabs and few objects. -/
theorem alloc_few {o : Int} {l : List S} {N : Int} {F : List Int} (hf : F.length ≤ 1000) : (allocP o l N F).2.1.length ≤ 1000000 ∧ (∀ s ∈ (allocP o l N F).2.1, s.2.length ≤ 1000000) ∧ (allocP o l N F).2.2.length ≤ 1000000 := by
  by_cases h : check o l = 0
  · by_cases h1 : N < 1 ∨ (F.length : Int) ≠ needL o l N
    · rw [alloc_arg h h1]; simp
    · by_cases h2 : (addF o F l).1 = 0
      · have hD : Done o l N F := ⟨check_ok.1 h, by omega, by omega, h2⟩
        rw [hD.alloc]
        have hk := hD.after_ok
        have h3 := ok_count hk
        have h4 := hD.took_len
        have h5 := need_bounds hD.ok (show 1 ≤ N by omega)
        have h6 := free_bound hD.ok
        have h7 := mul_small2 (x := (F.length : Int)) (o := o) (by omega) (by omega) (by have := hD.ok.o1; omega) hD.ok.o2
        have h8 : needL o l N = (F.length : Int) := by omega
        rw [h8] at h5
        refine ⟨by simp only; omega, fun s hs => ?_, by simp only; omega⟩
        have := hk.len s hs
        have := hk.o2
        omega
      · rw [alloc_add h h1 h2 (addF_fst h2)]; simp
  · rw [alloc_bad h]; simp
set_option maxRecDepth 100000 in set_option maxHeartbeats 3200000 in
theorem law_allocs (o : Int) (a : Option Addr) (l : List S) (n c : Nat) (N : Int) (fa : Option Addr) (F : List Int) (fm fc : Nat) (w : World) (H : Slabs w a l) (hn : l.length = n) (hN1 : -9223372036854775808 ≤ N) (hN2 : N ≤ 9223372036854775807) (HF : Ints w fa F) (hfm : F.length = fm) :
    Calls Try.prog 4 #[.agg #[.int .i64 o, .slice a n c], .int .i64 N, .slice fa fm fc] w fun e w' => e = .returned (.bool true) ∧ Below w.heap.size w w' := by
  have HFM := Lib.hid hfm
  clear hfm
  have HN := Lib.hid hn
  have b1 := below_box w (.cells #[.int .i64 o, .slice a n c] 24)
  have X1 := Blk.new w 24 #[.int .i64 o, .slice a n c] [.int .i64 o, .slice a n c] rfl
  obtain ⟨w1, hw1⟩ : ∃ W, W = w.alloc (.cells #[.int .i64 o, .slice a n c] 24) := ⟨_, rfl⟩
  rw [← hw1] at b1 X1
  have hfw := few_12 o a l n c w1 (H.below b1) hn
  obtain ⟨fb, hfb⟩ : ∃ fb, fewB 20 l = fb := ⟨_, rfl⟩
  rw [hfb] at hfw
  have HFW := Lib.hid hfw; have HW := Lib.hid hw1; have HFB := Lib.hid hfb
  clear hn hw1 hfw hfb
  go_enter Try.func4, Try.ntmps4
  go_wp2_with fail
  rw [← HW.out]
  refine (HFW.out).mono ?_
  rintro e w2 ⟨rfl, b2⟩
  have X2 := X1.later b2
  have B2 := below_then b1 b2
  have x0 : w2.cell? ⟨w.heap.size, 0, none⟩ = some (.int .i64 o) := X2.cell 0
  have x1 : w2.cell? ⟨w.heap.size, 1, none⟩ = some (.slice a n c) := X2.cell 1
  clear HW HFW b1 b2 X1
  cases fb with
  | false =>
    go_wp2_with (go_at_call 13; refine (awake_13 _).mono ?_; rintro e w' ⟨rfl, hz⟩)
    go_ret
    exact ⟨rfl, (by repeat (first | with_reducible exact Below.refl _ _ | with_reducible assumption | with_reducible refine below_alloc ?_ _ | with_reducible refine Below.drew ?_ | with_reducible refine below_drewN ?_ _ | with_reducible refine below_then ?_ (by with_reducible assumption)))⟩
  | true =>
    have hfs := few_spec HFB.out
    have hn20 : n ≤ 20 := by have := hfs.1; have := HN.out; omega
    have hl40 := hfs.2
    clear hfs HFB
    rcases Nat.lt_or_ge 40 fm with h40 | h40
    · go_wp2_with (go_at_call 13; refine (awake_13 _).mono ?_; rintro e w' ⟨rfl, hz⟩)
      go_ret
      exact ⟨rfl, (by repeat (first | with_reducible exact Below.refl _ _ | with_reducible assumption | with_reducible refine below_alloc ?_ _ | with_reducible refine Below.drew ?_ | with_reducible refine below_drewN ?_ _ | with_reducible refine below_then ?_ (by with_reducible assumption)))⟩
    · obtain ⟨P, hP⟩ : ∃ P, allocP o l N F = P := ⟨_, rfl⟩
      have hfew := alloc_few (o := o) (l := l) (N := N) (F := F) (by rw [HFM.out]; omega)
      rw [hP] at hfew
      obtain ⟨pr, pL, px⟩ := P
      simp only at hfew
      obtain ⟨hf1, hf2, hf3⟩ := hfew
      obtain ⟨o2, ho2⟩ : ∃ o2, (if pr = 0 then o else 0) = o2 := ⟨_, rfl⟩
      have HP := Lib.hid hP; have HO2 := Lib.hid ho2
      clear hP ho2
      go_wp2_with fail
      refine (alloc_19 o a l n c N fa F fm fc w2 (H.below B2) HN.out (by omega) hN1 hN2 (HF.below B2) HFM.out (by omega)).mono ?_
      rintro e w3 ⟨V, rs, v, rfl, hO, hrs, hI, b3⟩
      rw [HP.out] at hrs hI ⊢
      simp only at hrs hI
      rw [show (if ((pr, pL, px) : Int × List S × List Int).1 = 0 then o else 0) = o2 from HO2.out]
      obtain ⟨m, hm⟩ : ∃ m, pL.length = m := ⟨_, rfl⟩
      obtain ⟨k, hk⟩ : ∃ k, px.length = k := ⟨_, rfl⟩
      obtain ⟨a3, c3, rfl, _, _, _, S3⟩ := hO.slabs (n := m) (by have := congrArg List.length hrs; rw [List.length_map] at this; rw [this]; exact hm)
      obtain ⟨ai, ci, rfl, _, _, _, I3⟩ := hI.ints hk
      rw [hrs] at S3
      have X3 := X2.later b3
      have B3 := below_then B2 b3
      have HM := Lib.hid hm; have HK := Lib.hid hk
      clear x0 x1 X2 B2 b3 hO hrs hI hm hk
      have X4 := X3.alloc (.cells #[.int .i64 o2, .slice a3 m c3] 24)
      have Y4 := Blk.new w3 24 #[.int .i64 o2, .slice a3 m c3] [.int .i64 o2, .slice a3 m c3] rfl
      have B4 := below_then B3 (below_box w3 (.cells #[.int .i64 o2, .slice a3 m c3] 24))
      have S4 := S3.below (below_box w3 (.cells #[.int .i64 o2, .slice a3 m c3] 24))
      have I4 := I3.below (below_box w3 (.cells #[.int .i64 o2, .slice a3 m c3] 24))
      obtain ⟨w4, hw4⟩ : ∃ W, W = w3.alloc (.cells #[.int .i64 o2, .slice a3 m c3] 24) := ⟨_, rfl⟩
      rw [← hw4] at X4 Y4 B4 S4 I4
      have x0 : (w3.alloc (.cells #[.int .i64 o2, .slice a3 m c3] 24)).cell? ⟨w.heap.size, 0, none⟩ = some (.int .i64 o) := by rw [← hw4]; exact X4.cell 0
      have x1 : (w3.alloc (.cells #[.int .i64 o2, .slice a3 m c3] 24)).cell? ⟨w.heap.size, 1, none⟩ = some (.slice a n c) := by rw [← hw4]; exact X4.cell 1
      have HW4 := Lib.hid hw4
      clear hw4 X3 B3 S3 I3
      go_wp2_with fail
      rw [← HW4.out]
      refine (alloc_20' o a l n c N fa F fm fc w4 (H.below B4) HN.out (by omega) hN1 hN2 (HF.below B4) HFM.out (by omega)).mono ?_
      rintro e w5 ⟨V, rs, v, rfl, hO, hrs, hI, b5⟩
      rw [HP.out] at hrs hI ⊢
      simp only at hrs hI
      rw [show (if ((pr, pL, px) : Int × List S × List Int).1 = 0 then o else 0) = o2 from HO2.out]
      obtain ⟨a5, c5, rfl, _, _, _, S5⟩ := hO.slabs (n := m) (by have := congrArg List.length hrs; rw [List.length_map] at this; rw [this]; exact HM.out)
      obtain ⟨aj, cj, rfl, _, _, _, I5⟩ := hI.ints HK.out
      rw [hrs] at S5
      have Y5 := Y4.later b5
      have B5 := below_then B4 b5
      have S4 := S4.below b5
      have I4 := I4.below b5
      clear x0 x1 X4 Y4 B4 b5 hO hrs hI HW4
      have Y6 := Y5.alloc (.cells #[.int .i64 o2, .slice a5 m c5] 24)
      have Z6 := Blk.new w5 24 #[.int .i64 o2, .slice a5 m c5] [.int .i64 o2, .slice a5 m c5] rfl
      have b6 := below_box w5 (.cells #[.int .i64 o2, .slice a5 m c5] 24)
      have B6 := below_then B5 b6
      have S4 := S4.below b6
      have I4 := I4.below b6
      have S5 := S5.below b6
      have I5 := I5.below b6
      obtain ⟨w6, hw6⟩ : ∃ W, W = w5.alloc (.cells #[.int .i64 o2, .slice a5 m c5] 24) := ⟨_, rfl⟩
      rw [← hw6] at Y6 Z6 B6 S4 I4 S5 I5
      have y0 : (w5.alloc (.cells #[.int .i64 o2, .slice a5 m c5] 24)).cell? ⟨w3.heap.size, 0, none⟩ = some (.int .i64 o2) := by rw [← hw6]; exact Y6.cell 0
      have y1 : (w5.alloc (.cells #[.int .i64 o2, .slice a5 m c5] 24)).cell? ⟨w3.heap.size, 1, none⟩ = some (.slice a3 m c3) := by rw [← hw6]; exact Y6.cell 1
      have HW6 := Lib.hid hw6
      have t1 : (pr == pr) = true := by simp
      clear hw6 Y5 B5 b6
      go_wp2_with fail
      rw [← HW6.out]
      refine (same_18 o2 a3 a5 pL m c3 c5 w6 S4 S5 HM.out (by rw [← HM.out]; exact hf1) hf2).mono ?_
      rintro e w7 ⟨rfl, b7⟩
      have B7 := below_then B6 b7
      have I4 := I4.below b7
      have I5 := I5.below b7
      clear B6 b7 y0 y1
      go_wp2_with fail
      refine (equal_21 ai aj px k ci cj w7 I4 I5 HK.out (by rw [← HK.out]; exact hf3)).mono ?_
      rintro e w8 ⟨rfl, b8⟩
      have B8 := below_then B7 b8
      clear B7 b8
      go_wp2_with (go_at_call 13; refine (awake_13 _).mono ?_; rintro e w' ⟨rfl, hz⟩)
      go_ret
      exact ⟨rfl, (by repeat (first | with_reducible exact Below.refl _ _ | with_reducible assumption | with_reducible refine below_alloc ?_ _ | with_reducible refine Below.drew ?_ | with_reducible refine below_drewN ?_ _ | with_reducible refine below_then ?_ (by with_reducible assumption)))⟩
/-- What a release gives, few slabs. -/
theorem free_few {o : Int} {l : List S} {x : Int} : (freeP o l x).2.1.length ≤ 1000000 ∧ ∀ s ∈ (freeP o l x).2.1, s.2.length ≤ 1000000 := by
  by_cases h : check o l = 0
  · by_cases h1 : x ∈ objs o true l
    · rw [freeP_ok h h1]
      have hk := (check_ok.1 h).free_ok (x := x)
      have h3 := ok_count hk
      refine ⟨by simp only; omega, fun s hs => ?_⟩
      have := hk.len s hs
      have := hk.o2
      omega
    · rw [freeP_none h h1]; simp
  · rw [freeP_bad h]; simp
set_option maxRecDepth 100000 in set_option maxHeartbeats 3200000 in
theorem law_frees (o : Int) (a : Option Addr) (l : List S) (n c : Nat) (x : Int) (w : World) (H : Slabs w a l) (hn : l.length = n) (hx1 : -9223372036854775808 ≤ x) (hx2 : x ≤ 9223372036854775807) :
    Calls Try.prog 5 #[.agg #[.int .i64 o, .slice a n c], .int .i64 x] w fun e w' => e = .returned (.bool true) ∧ Below w.heap.size w w' := by
  have HN := Lib.hid hn
  have b1 := below_box w (.cells #[.int .i64 o, .slice a n c] 24)
  have X1 := Blk.new w 24 #[.int .i64 o, .slice a n c] [.int .i64 o, .slice a n c] rfl
  obtain ⟨w1, hw1⟩ : ∃ W, W = w.alloc (.cells #[.int .i64 o, .slice a n c] 24) := ⟨_, rfl⟩
  rw [← hw1] at b1 X1
  have hfw := few_12 o a l n c w1 (H.below b1) hn
  obtain ⟨fb, hfb⟩ : ∃ fb, fewB 20 l = fb := ⟨_, rfl⟩
  rw [hfb] at hfw
  have HFW := Lib.hid hfw; have HW := Lib.hid hw1; have HFB := Lib.hid hfb
  clear hn hw1 hfw hfb
  go_enter Try.func5, Try.ntmps5
  go_wp2_with fail
  rw [← HW.out]
  refine (HFW.out).mono ?_
  rintro e w2 ⟨rfl, b2⟩
  have X2 := X1.later b2
  have B2 := below_then b1 b2
  have x0 : w2.cell? ⟨w.heap.size, 0, none⟩ = some (.int .i64 o) := X2.cell 0
  have x1 : w2.cell? ⟨w.heap.size, 1, none⟩ = some (.slice a n c) := X2.cell 1
  clear HW HFW b1 b2 X1
  cases fb with
  | false =>
    go_wp2_with (go_at_call 13; refine (awake_13 _).mono ?_; rintro e w' ⟨rfl, hz⟩)
    go_ret
    exact ⟨rfl, (by repeat (first | with_reducible exact Below.refl _ _ | with_reducible assumption | with_reducible refine below_alloc ?_ _ | with_reducible refine Below.drew ?_ | with_reducible refine below_drewN ?_ _ | with_reducible refine below_then ?_ (by with_reducible assumption)))⟩
  | true =>
    have hfs := few_spec HFB.out
    have hn20 : n ≤ 20 := by have := hfs.1; have := HN.out; omega
    have hl40 := hfs.2
    clear hfs HFB
    obtain ⟨P, hP⟩ : ∃ P, freeP o l x = P := ⟨_, rfl⟩
    have hfew := free_few (o := o) (l := l) (x := x)
    rw [hP] at hfew
    obtain ⟨pr, pL, px⟩ := P
    simp only at hfew
    obtain ⟨hf1, hf2⟩ := hfew
    obtain ⟨o2, ho2⟩ : ∃ o2, (if pr = 0 then o else 0) = o2 := ⟨_, rfl⟩
    have HP := Lib.hid hP; have HO2 := Lib.hid ho2
    clear hP ho2
    go_wp2_with fail
    refine (free_22 o a l n c x w2 (H.below B2) HN.out (by omega) hx1 hx2).mono ?_
    rintro e w3 ⟨V, rs, rfl, hO, hrs, b3⟩
    rw [HP.out] at hrs ⊢
    simp only at hrs
    rw [show (if ((pr, pL, px) : Int × List S × Int).1 = 0 then o else 0) = o2 from HO2.out]
    obtain ⟨m, hm⟩ : ∃ m, pL.length = m := ⟨_, rfl⟩
    obtain ⟨a3, c3, rfl, _, _, _, S3⟩ := hO.slabs (n := m) (by have := congrArg List.length hrs; rw [List.length_map] at this; rw [this]; exact hm)
    rw [hrs] at S3
    have X3 := X2.later b3
    have B3 := below_then B2 b3
    have HM := Lib.hid hm
    clear x0 x1 X2 B2 b3 hO hrs hm
    have X4 := X3.alloc (.cells #[.int .i64 o2, .slice a3 m c3] 24)
    have Y4 := Blk.new w3 24 #[.int .i64 o2, .slice a3 m c3] [.int .i64 o2, .slice a3 m c3] rfl
    have B4 := below_then B3 (below_box w3 (.cells #[.int .i64 o2, .slice a3 m c3] 24))
    have S4 := S3.below (below_box w3 (.cells #[.int .i64 o2, .slice a3 m c3] 24))
    obtain ⟨w4, hw4⟩ : ∃ W, W = w3.alloc (.cells #[.int .i64 o2, .slice a3 m c3] 24) := ⟨_, rfl⟩
    rw [← hw4] at X4 Y4 B4 S4
    have x0 : (w3.alloc (.cells #[.int .i64 o2, .slice a3 m c3] 24)).cell? ⟨w.heap.size, 0, none⟩ = some (.int .i64 o) := by rw [← hw4]; exact X4.cell 0
    have x1 : (w3.alloc (.cells #[.int .i64 o2, .slice a3 m c3] 24)).cell? ⟨w.heap.size, 1, none⟩ = some (.slice a n c) := by rw [← hw4]; exact X4.cell 1
    have HW4 := Lib.hid hw4
    clear hw4 X3 B3 S3
    go_wp2_with fail
    rw [← HW4.out]
    refine (free_23 o a l n c x w4 (H.below B4) HN.out (by omega)).mono ?_
    rintro e w5 ⟨V, rs, rfl, hO, hrs, b5⟩
    rw [HP.out] at hrs ⊢
    simp only at hrs
    rw [show (if ((pr, pL, px) : Int × List S × Int).1 = 0 then o else 0) = o2 from HO2.out]
    obtain ⟨a5, c5, rfl, _, _, _, S5⟩ := hO.slabs (n := m) (by have := congrArg List.length hrs; rw [List.length_map] at this; rw [this]; exact HM.out)
    rw [hrs] at S5
    have Y5 := Y4.later b5
    have B5 := below_then B4 b5
    have S4 := S4.below b5
    clear x0 x1 X4 Y4 B4 b5 hO hrs HW4
    have Y6 := Y5.alloc (.cells #[.int .i64 o2, .slice a5 m c5] 24)
    have b6 := below_box w5 (.cells #[.int .i64 o2, .slice a5 m c5] 24)
    have B6 := below_then B5 b6
    have S4 := S4.below b6
    have S5 := S5.below b6
    obtain ⟨w6, hw6⟩ : ∃ W, W = w5.alloc (.cells #[.int .i64 o2, .slice a5 m c5] 24) := ⟨_, rfl⟩
    rw [← hw6] at Y6 B6 S4 S5
    have y0 : (w5.alloc (.cells #[.int .i64 o2, .slice a5 m c5] 24)).cell? ⟨w3.heap.size, 0, none⟩ = some (.int .i64 o2) := by rw [← hw6]; exact Y6.cell 0
    have y1 : (w5.alloc (.cells #[.int .i64 o2, .slice a5 m c5] 24)).cell? ⟨w3.heap.size, 1, none⟩ = some (.slice a3 m c3) := by rw [← hw6]; exact Y6.cell 1
    have HW6 := Lib.hid hw6
    have t1 : (pr == pr) = true := by simp
    have t2 : (px == px) = true := by simp
    clear hw6 Y5 B5 b6
    go_wp2_with fail
    rw [← HW6.out]
    refine (same_18 o2 a3 a5 pL m c3 c5 w6 S4 S5 HM.out (by rw [← HM.out]; exact hf1) hf2).mono ?_
    rintro e w7 ⟨rfl, b7⟩
    have B7 := below_then B6 b7
    clear B6 b7 y0 y1
    go_wp2_with (go_at_call 13; refine (awake_13 _).mono ?_; rintro e w' ⟨rfl, hz⟩)
    go_ret
    exact ⟨rfl, (by repeat (first | with_reducible exact Below.refl _ _ | with_reducible assumption | with_reducible refine below_alloc ?_ _ | with_reducible refine Below.drew ?_ | with_reducible refine below_drewN ?_ _ | with_reducible refine below_then ?_ (by with_reducible assumption)))⟩
end Go.Proofs.Ythhdiiboblaclaa
