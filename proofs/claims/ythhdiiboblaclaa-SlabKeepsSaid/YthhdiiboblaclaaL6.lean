/- The walk of the law on a sequence of allocations and releases. -/
import Derived.Test.YthhdiiboblaclaaL5
namespace Go.Proofs.Ythhdiiboblaclaa
open Go.RowKit Go.Over Go.Slb Go.Seg Go.Grow
/-- Operations that came in. -/
def OpsAt (w : World) (a : Option Addr) (l : List (Int × Int)) : Prop :=
  0 < l.length → ∃ b off, a = some ⟨b, off, none⟩ ∧ ∀ i p, l[i]? = some p → w.cell? ⟨b, off + i * 2, none⟩ = some (.int .i64 p.1) ∧ w.cell? ⟨b, off + i * 2 + 1, none⟩ = some (.int .i64 p.2)
theorem need_few {o : Int} {l : List S} {N : Int} (hk : Ok o l) (h1 : 1 ≤ N) (h2 : N ≤ 40) : 0 ≤ needL o l N ∧ needL o l N ≤ 40 := by
  have hb := need_bounds hk h1
  have hf := free_bound hk
  refine ⟨hb.1, ?_⟩
  by_cases h0 : 0 < needL o l N
  · have h3 := hb.2.2 h0
    have h4 := Int.mul_le_mul_of_nonneg_left hk.o1 (show 0 ≤ needL o l N - 1 by omega)
    omega
  · omega
theorem ok_nil {o : Int} (h1 : 1 ≤ o) (h2 : o ≤ 32) : Ok o [] := ⟨h1, h2, trivial, by simp, by simp, by simp⟩
/-- What the exchange of the two caches keeps. -/
theorem only_far {gs : List Nat} {w W : World} {g i : Nat} {u : Value} (h : Only gs w W) (hg : g ∈ gs) : Only gs w (W.setCell ⟨g, i, none⟩ u) := h.grown (grown_set W g i u) (fun k hk => by cases hk; exact .inr hg)
set_option maxRecDepth 100000 in set_option maxHeartbeats 3200000 in
theorem law_plays (x : Int) (hx0 : 0 ≤ x) (hx1 : x ≤ 255) (a : Option Addr) (l : List (Int × Int)) (n c : Nat) (w : World) (H : OpsAt w a l) (hn : l.length = n) (hr : ∀ p ∈ l, (-9223372036854775808 ≤ p.1 ∧ p.1 ≤ 9223372036854775807) ∧ (-9223372036854775808 ≤ p.2 ∧ p.2 ≤ 9223372036854775807)) :
    Calls Try.prog 6 #[.int .u8 x, .slice a n c] w fun e w' => e = .returned (.bool true) ∧ Below w.heap.size w w' := by
  have HN := Lib.hid hn; have HRG := Lib.hid hr
  clear hn hr
  rcases Nat.lt_or_ge 30 n with h30 | h30
  · go_enter Try.func6, Try.ntmps6
    go_wp2_with (go_at_call 13; refine (awake_13 _).mono ?_; rintro e w' ⟨rfl, hz⟩)
    go_ret
    exact ⟨rfl, (by repeat (first | with_reducible exact Below.refl _ _ | with_reducible assumption | with_reducible refine below_alloc ?_ _ | with_reducible refine Below.drew ?_ | with_reducible refine below_drewN ?_ _ | with_reducible refine below_then ?_ (by with_reducible assumption)))⟩
  · obtain ⟨r, hr⟩ : ∃ r, x.tmod 32 = r := ⟨_, rfl⟩
    have hr0 : 0 ≤ r := by rw [← hr, Int.tmod_eq_emod_of_nonneg hx0]; omega
    have hr1 : r < 32 := by rw [← hr, Int.tmod_eq_emod_of_nonneg hx0]; omega
    obtain ⟨o, ho⟩ : ∃ o, 1 + r = o := ⟨_, rfl⟩
    have ho1 : 1 ≤ o := by omega
    have ho2 : o ≤ 32 := by omega
    go_enter Try.func6, Try.ntmps6
    go_wp2_with fail
    refine (new_14 o w).mono ?_
    rintro e w1 ⟨rfl, b1⟩
    rw [if_neg (by omega), if_neg (by omega)]
    go_wp2_with fail
    have C2 := Blk.new w1 24 #[.int .i64 o, .slice none 0 0] [.int .i64 o, .slice none 0 0] rfl
    have B2 := below_then b1 (below_box w1 (.cells #[.int .i64 o, .slice none 0 0] 24))
    obtain ⟨cB, hcB⟩ : ∃ z, z = w1.heap.size := ⟨_, rfl⟩
    have hcb : w.heap.size ≤ cB := by rw [hcB]; exact b1.size
    obtain ⟨w2, hw2⟩ : ∃ W, W = w1.alloc (.cells #[.int .i64 o, .slice none 0 0] 24) := ⟨_, rfl⟩
    rw [← hw2, ← hcB] at C2
    rw [← hw2] at B2 ⊢
    rw [← hcB]
    clear hw2 hcB b1
    refine (new_15 o w2).mono ?_
    rintro e w3 ⟨rfl, b3⟩
    rw [if_neg (by omega), if_neg (by omega)]
    have B3 := below_then B2 b3
    have C3 := C2.later b3
    clear B2 C2 b3
    have C4 := C3.alloc (.cells #[.int .i64 o, .slice none 0 0] 24)
    have D4 := Blk.new w3 24 #[.int .i64 o, .slice none 0 0] [.int .i64 o, .slice none 0 0] rfl
    have B4 := below_then B3 (below_box w3 (.cells #[.int .i64 o, .slice none 0 0] 24))
    have hcd : cB < w3.heap.size := C3.lt
    obtain ⟨w4, hw4⟩ : ∃ W, W = w3.alloc (.cells #[.int .i64 o, .slice none 0 0] 24) := ⟨_, rfl⟩
    obtain ⟨dB, hdB⟩ : ∃ z, z = w3.heap.size := ⟨_, rfl⟩
    rw [← hw4, ← hdB] at D4
    rw [← hw4] at C4 B4
    rw [← hdB] at hcd
    have HW4 := Lib.hid hw4; have HDB := Lib.hid hdB
    clear hw4 hdB B3 C3
    go_wp2
    rw [← HW4.out, ← HDB.out]
    clear HW4 HDB
    have hdb : w.heap.size ≤ dB := by omega
    go_loopg [10, 11] n (fun g f0 i0 wr => ∃ (i : Nat) (fr : Int) (L : List S) (Vc Vd : Value) (rs qs : List R), i + g = n ∧ f0 = .int .i64 fr ∧ i0 = .int .i64 i ∧ 0 ≤ fr ∧ fr ≤ 40 * i ∧ Ok o L ∧ rs.map sl = L ∧ qs.map sl = L ∧ OwnC wr w.heap.size Vc rs ∧ OwnC wr w.heap.size Vd qs ∧ Only [cB, dB] w4 wr ∧ Blk wr cB 24 [.int .i64 o, Vc] ∧ Blk wr dB 24 [.int .i64 o, Vd])
    case atStart => exact ⟨0, 0, [], _, _, [], [], by omega, rfl, rfl, by omega, by omega, ok_nil ho1 ho2, rfl, rfl, OwnC.nil _ _, OwnC.nil _ _, Only.refl _ _, C4, D4⟩
    case round =>
      obtain ⟨i, fr, L, Vc, Vd, rs, qs, hg, rfl, rfl, hf0, hf1, hok, hrs, hqs, hOc, hOd, hon, hC, hD⟩ := hrel
      have hbw : Below w.heap.size w wr := B4.trans (hon.below (by simp; omega) B4.size)
      cases gk with
      | zero =>
        obtain rfl : i = n := by omega
        clear hg
        go_wp2_with (go_at_call 13; refine (awake_13 _).mono ?_; rintro e w' ⟨rfl, hz⟩)
        go_ret
        exact ⟨rfl, (by repeat (first | with_reducible exact Below.refl _ _ | with_reducible assumption | with_reducible refine below_alloc ?_ _ | with_reducible refine Below.drew ?_ | with_reducible refine below_drewN ?_ _ | with_reducible refine below_then ?_ (by with_reducible assumption)))⟩
      | succ g =>
        have hin : i < n := by omega
        obtain ⟨⟨ON, OO⟩, hs⟩ := get_some HN.out hin
        have hrg := HRG.out _ (List.mem_of_getElem? hs)
        obtain ⟨b, off, rfl, hc⟩ := H (by rw [HN.out]; omega)
        have hci := hc i _ hs
        simp only at hci hrg
        have s0 := cell_later hbw hci.1
        have s1 := cell_later hbw hci.2
        obtain ⟨m, hm⟩ : ∃ z, L.length = z := ⟨_, rfl⟩
        obtain ⟨aC, cC, rfl, _, _, _, hSc⟩ := hOc.slabs (n := m) (by have := congrArg List.length hrs; rw [List.length_map] at this; rw [this]; exact hm)
        obtain ⟨aD, cD, rfl, _, _, _, hSd⟩ := hOd.slabs (n := m) (by have := congrArg List.length hqs; rw [List.length_map] at this; rw [this]; exact hm)
        rw [hrs] at hSc
        rw [hqs] at hSd
        have hm256 : m ≤ 256 := by have := ok_count hok; omega
        have HM := Lib.hid hm; have HG := Lib.hid hg; have HRS := Lib.hid hrs; have HQS := Lib.hid hqs
        clear hm hg hrs hqs hc hci hs
        have E5 := Blk.new wr 40 #[.int .i64 ON, .int .i64 OO] [.int .i64 ON, .int .i64 OO] rfl
        have b5 := below_box wr (.cells #[.int .i64 ON, .int .i64 OO] 40)
        obtain ⟨eB, heB⟩ : ∃ z, z = wr.heap.size := ⟨_, rfl⟩
        obtain ⟨w5, hw5⟩ : ∃ W, W = wr.alloc (.cells #[.int .i64 ON, .int .i64 OO] 40) := ⟨_, rfl⟩
        rw [← hw5, ← heB] at E5
        rw [← hw5] at b5
        have HW5 := Lib.hid hw5; have HEB := Lib.hid heB
        clear hw5 heB
        by_cases hN : 0 < ON
        · obtain ⟨k, hk⟩ : ∃ k : Int, (if ON ≤ 40 then ON else 40) = k := ⟨_, rfl⟩
          have hk1 : 1 ≤ k := by rw [← hk]; split <;> omega
          have hk2 : k ≤ 40 := by rw [← hk]; split <;> omega
          have hnf := need_few hok hk1 hk2
          obtain ⟨M, hM⟩ : ∃ M : Nat, needL o L k = (M : Int) := ⟨(needL o L k).toNat, by omega⟩
          rw [hM] at hnf
          have HMM := Lib.hid hM
          clear hM
          have y0 : (wr.alloc (.cells #[.int .i64 ON, .int .i64 OO] 40)).cell? ⟨dB, 0, none⟩ = some (.int .i64 o) := by rw [← HW5.out]; exact (hD.later b5).cell 0
          have y1 : (wr.alloc (.cells #[.int .i64 ON, .int .i64 OO] 40)).cell? ⟨dB, 1, none⟩ = some (.slice aD m cD) := by rw [← HW5.out]; exact (hD.later b5).cell 1
          by_cases h40 : ON ≤ 40
          · rw [if_pos h40] at hk
            subst hk
            go_wp2_with fail
            rw [← HW5.out, ← HEB.out]
            refine (need_25 o aD L m cD ON w5 (hSd.below b5) HM.out (by omega) (by omega) (by omega)).mono ?_
            rintro e w6 ⟨rfl, b6⟩
            rw [HMM.out]
            have bb := below_then b5 b6
            clear y0 y1
            go_wp2_with fail
            refine (next_24 fr M w6 hf0 (by omega) (by omega)).mono ?_
            rintro e w7 ⟨v, rfl, hI7, b7⟩
            obtain ⟨aF, cF, rfl, _, _, _, F7⟩ := hI7.ints (nextL_len fr M)
            have bb := below_then bb b7
            have hC7 := hC.later bb
            have hD7 := hD.later bb
            have hE7 := E5.later (below_then b6 b7)
            have c0 : w7.cell? ⟨cB, 0, none⟩ = some (.int .i64 o) := hC7.cell 0
            have c1 : w7.cell? ⟨cB, 1, none⟩ = some (.slice aC m cC) := hC7.cell 1
            obtain ⟨P, hP⟩ : ∃ P, allocP o L ON (nextL fr M) = P := ⟨_, rfl⟩
            have hfew := alloc_few (o := o) (l := L) (N := ON) (F := nextL fr M) (by rw [nextL_len]; omega)
            have hdo := alloc_done (o := o) (l := L) (N := ON) (F := nextL fr M)
            have haf : (allocP o L ON (nextL fr M)).1 = 0 → Ok o (allocP o L ON (nextL fr M)).2.1 := fun h => by
              have hD := hdo h
              rw [hD.alloc]; exact hD.after_ok
            rw [hP] at hfew haf
            obtain ⟨pr, pL, px⟩ := P
            simp only at hfew haf
            obtain ⟨hf2, hf3, hf4⟩ := hfew
            obtain ⟨o2, ho2'⟩ : ∃ o2, (if pr = 0 then o else 0) = o2 := ⟨_, rfl⟩
            have HP := Lib.hid hP; have HO2 := Lib.hid ho2'
            clear hP ho2' hdo hI7 b6 b7
            go_wp2_with fail
            refine (alloc_19 o aC L m cC ON aF (nextL fr M) M cF w7 (hSc.below bb) HM.out (by omega) (by omega) (by omega) F7 (nextL_len fr M) (by omega)).mono ?_
            rintro e w8 ⟨V, rs8, v, rfl, hO8, hrs8, hI8, b8⟩
            rw [HP.out] at hrs8 hI8 ⊢
            simp only at hrs8 hI8
            rw [show (if ((pr, pL, px) : Int × List S × List Int).1 = 0 then o else 0) = o2 from HO2.out]
            obtain ⟨m8, hm8⟩ : ∃ m, pL.length = m := ⟨_, rfl⟩
            obtain ⟨k8, hk8⟩ : ∃ k, px.length = k := ⟨_, rfl⟩
            have hO8 := hO8.weaken (show w.heap.size ≤ w7.heap.size by have := bb.size; have := hbw.size; omega)
            obtain ⟨a8, c8, rfl, _, _, _, S8⟩ := hO8.slabs (n := m8) (by have := congrArg List.length hrs8; rw [List.length_map] at this; rw [this]; exact hm8)
            obtain ⟨ai, ci, rfl, _, _, _, I8⟩ := hI8.ints hk8
            rw [hrs8] at S8
            have HM8 := Lib.hid hm8; have HK8 := Lib.hid hk8; have HR8 := Lib.hid hrs8
            have bb := below_then bb b8
            clear c0 c1 hC7 hD7 hm8 hk8 hrs8 hI8
            have G9 := Blk.new w8 24 #[.int .i64 o2, .slice a8 m8 c8] [.int .i64 o2, .slice a8 m8 c8] rfl
            have b9 := below_box w8 (.cells #[.int .i64 o2, .slice a8 m8 c8] 24)
            have hO9 := hO8.later b9
            have S9 := S8.below b9
            have I9 := I8.below b9
            have F9 := (F7.below b8).below b9
            have hE9 := (hE7.later b8).later b9
            have bb := below_then bb b9
            obtain ⟨gB, hgB⟩ : ∃ z, z = w8.heap.size := ⟨_, rfl⟩
            have hgb : dB < gB := by rw [hgB]; have := hD.lt; have := bb.size; have := b8.size; have h1 : wr.heap.size ≤ w8.heap.size := (below_then (show Below wr.heap.size wr w7 from by assumption) b8).size; omega
            obtain ⟨w9, hw9⟩ : ∃ W, W = w8.alloc (.cells #[.int .i64 o2, .slice a8 m8 c8] 24) := ⟨_, rfl⟩
            rw [← hw9, ← hgB] at G9
            rw [← hw9] at hO9 S9 I9 F9 hE9 bb
            have y0 : (w8.alloc (.cells #[.int .i64 o2, .slice a8 m8 c8] 24)).cell? ⟨dB, 0, none⟩ = some (.int .i64 o) := by rw [← hw9]; exact (hD.later bb).cell 0
            have y1 : (w8.alloc (.cells #[.int .i64 o2, .slice a8 m8 c8] 24)).cell? ⟨dB, 1, none⟩ = some (.slice aD m cD) := by rw [← hw9]; exact (hD.later bb).cell 1
            have HW9 := Lib.hid hw9; have HGB := Lib.hid hgB
            clear hw9 hgB hO8 S8 I8 F7 hE7 b8 b9
            go_wp2_with fail
            rw [← HW9.out, ← HGB.out]
            refine (alloc_20' o aD L m cD ON aF (nextL fr M) M cF w9 (hSd.below bb) HM.out (by omega) (by omega) (by omega) F9 (nextL_len fr M) (by omega)).mono ?_
            rintro e w10 ⟨V, rs10, v, rfl, hO10, hrs10, hI10, b10⟩
            rw [HP.out] at hrs10 hI10 ⊢
            simp only at hrs10 hI10
            rw [show (if ((pr, pL, px) : Int × List S × List Int).1 = 0 then o else 0) = o2 from HO2.out]
            have hO10 := hO10.weaken (show w.heap.size ≤ w9.heap.size by have := bb.size; have := hbw.size; omega)
            obtain ⟨a10, c10, rfl, _, _, _, S10⟩ := hO10.slabs (n := m8) (by have := congrArg List.length hrs10; rw [List.length_map] at this; rw [this]; exact HM8.out)
            obtain ⟨aj, cj, rfl, _, _, _, I10⟩ := hI10.ints HK8.out
            rw [hrs10] at S10
            have HR10 := Lib.hid hrs10
            have bb := below_then bb b10
            clear y0 y1 hrs10 hI10 HW9
            have K11 := Blk.new w10 24 #[.int .i64 o2, .slice a10 m8 c10] [.int .i64 o2, .slice a10 m8 c10] rfl
            have b11 := below_box w10 (.cells #[.int .i64 o2, .slice a10 m8 c10] 24)
            have hO11 := (hO9.later b10).later b11
            have S11 := (S9.below b10).below b11
            have I11 := (I9.below b10).below b11
            have G11 := (G9.later b10).later b11
            have hE11 := (hE9.later b10).later b11
            have hQ11 := hO10.later b11
            have T11 := S10.below b11
            have J11 := I10.below b11
            have bb := below_then bb b11
            obtain ⟨kB, hkB⟩ : ∃ z, z = w10.heap.size := ⟨_, rfl⟩
            have hkb : dB < kB := by rw [hkB]; have := b10.size; have := G9.lt; omega
            obtain ⟨w11, hw11⟩ : ∃ W, W = w10.alloc (.cells #[.int .i64 o2, .slice a10 m8 c10] 24) := ⟨_, rfl⟩
            rw [← hw11, ← hkB] at K11
            rw [← hw11] at hO11 S11 I11 G11 hE11 hQ11 T11 J11 bb
            have HW11 := Lib.hid hw11; have HKB := Lib.hid hkB
            have t1 : (pr != pr) = false := by simp
            clear hw11 hkB hO9 S9 I9 F9 G9 hE9 hO10 S10 I10 b10 b11
            go_wp2_with fail
            rw [← HW11.out, ← HKB.out]
            refine (equal_21 ai aj px k8 ci cj w11 I11 J11 HK8.out (by rw [← HK8.out]; exact hf4)).mono ?_
            rintro e w12 ⟨rfl, b12⟩
            have bb := below_then bb b12
            have g0 : w12.cell? ⟨gB, 0, none⟩ = some (.int .i64 o2) := (G11.later b12).cell 0
            have g1 : w12.cell? ⟨gB, 1, none⟩ = some (.slice a8 m8 c8) := (G11.later b12).cell 1
            have h0 : w12.cell? ⟨kB, 0, none⟩ = some (.int .i64 o2) := (K11.later b12).cell 0
            have h1 : w12.cell? ⟨kB, 1, none⟩ = some (.slice a10 m8 c10) := (K11.later b12).cell 1
            clear HW11 HGB HKB I11 J11
            go_wp2_with fail
            refine (same_18 o2 a8 a10 pL m8 c8 c10 w12 (S11.below b12) (T11.below b12) HM8.out (by rw [← HM8.out]; exact hf2) hf3).mono ?_
            rintro e w13 ⟨rfl, b13⟩
            have bb := below_then bb b13
            have b13 := below_then b12 b13
            have G13 := G11.later b13
            have K13 := K11.later b13
            have hO13 := hO11.later b13
            have hQ13 := hQ11.later b13
            have hC13 := hC.later bb
            have hD13 := hD.later bb
            clear g0 g1 h0 h1 b12 b13 G11 K11 hO11 hQ11 S11 T11 hE11
            by_cases hp0 : pr = 0
            · subst hp0
              have hok2 := haf rfl
              obtain rfl : o2 = o := by rw [← HO2.out]; simp
              clear haf
              have HOK2 := Lib.hid hok2
              clear hok2
              go_wp2
              refine wp_region_in (fun W => Only [cB, dB] w13 W) [(true, 2), (false, 1), (false, 1)] [0, 1, 2, 3] 3 (by kernel_rfl) (by kernel_rfl) ((Only.refl _ _).then (Below.refl _ _).drew) ?_
              intro W hW hWe
              have hCW : Blk W cB 24 [.int .i64 o2, .slice aC m cC] := by rw [hWe]; exact hC13.later (Below.refl _ _).drew
              have hDW : Blk W dB 24 [.int .i64 o2, .slice aD m cD] := by rw [hWe]; exact hD13.later (Below.refl _ _).drew
              have hOW : OwnC W w.heap.size (.slice a8 m8 c8) rs8 := by rw [hWe]; exact hO13.later (Below.refl _ _).drew
              have hQW : OwnC W w.heap.size (.slice a10 m8 c10) rs10 := by rw [hWe]; exact hQ13.later (Below.refl _ _).drew
              clear hWe hO13 hQ13
              simp only [wpSegsL, inOrder, List.filterMap_cons, List.filterMap_nil, List.getElem?_cons_zero, List.getElem?_cons_succ, List.take_succ_cons, List.take_zero, List.drop_succ_cons, List.drop_zero]
              have q0 := fun z => (blk_only G13 (hold_ok (S0 := fun W => Only [cB, dB] w13 W) hW z) (by simp; omega)).cell 0
              have q1 := fun z => (blk_only G13 (hold_ok (S0 := fun W => Only [cB, dB] w13 W) hW z) (by simp; omega)).cell 1
              have q2 := fun z => (blk_only K13 (hold_ok (S0 := fun W => Only [cB, dB] w13 W) hW z) (by simp; omega)).cell 0
              have q3 := fun z => (blk_only K13 (hold_ok (S0 := fun W => Only [cB, dB] w13 W) hW z) (by simp; omega)).cell 1
              simp only [List.getElem?_cons_zero, List.getElem?_cons_succ] at q0 q1 q2 q3
              repeat (go_big_quiet_step (fail))
              refine wpQuiet_nil ?_
              clear q0 q1 q2 q3
              have d0 : W.cell? ⟨cB, 0, none⟩ = some (.int .i64 o2) := hCW.cell 0
              have d1 : W.cell? ⟨cB, 1, none⟩ = some (.slice aC m cC) := hCW.cell 1
              have d2 := hCW.frozen 0
              have d3 := hCW.frozen 1
              go_wp2
              have hne : dB ≠ cB := by omega
              have hne' : cB ≠ dB := by omega
              have hW2 := only_far (i := 1) (u := .slice a8 m8 c8) (only_far (i := 0) (u := .int .i64 o2) hW (show cB ∈ [cB, dB] by simp)) (show cB ∈ [cB, dB] by simp)
              refine ⟨hold_of hW2, ?_⟩
              have hCX := (hCW.set 0 (.int .i64 o2)).set 1 (.slice a8 m8 c8)
              have hDX := (hDW.far (p := ⟨cB, 0, none⟩) hne (.int .i64 o2)).far (p := ⟨cB, 1, none⟩) hne (.slice a8 m8 c8)
              have hOX := (hOW.far hCW (by decide) (by decide) 0 (.int .i64 o2)).far (hCW.set 0 (.int .i64 o2)) (by decide) (by decide) 1 (.slice a8 m8 c8)
              have hQX := (hQW.far hCW (by decide) (by decide) 0 (.int .i64 o2)).far (hCW.set 0 (.int .i64 o2)) (by decide) (by decide) 1 (.slice a8 m8 c8)
              obtain ⟨WX, hWX⟩ : ∃ z, z = (W.setCell ⟨cB, 0, none⟩ (.int .i64 o2)).setCell ⟨cB, 1, none⟩ (.slice a8 m8 c8) := ⟨_, rfl⟩
              rw [← hWX] at hCX hDX hOX hQX hW2 ⊢
              clear hWX hCW hDW hOW hQW hW d0 d1 d2 d3
              replace hCX : Blk WX cB 24 [.int .i64 o2, .slice a8 m8 c8] := hCX
              have d0 : WX.cell? ⟨dB, 0, none⟩ = some (.int .i64 o2) := hDX.cell 0
              have d1 : WX.cell? ⟨dB, 1, none⟩ = some (.slice aD m cD) := hDX.cell 1
              have d2 := hDX.frozen 0
              have d3 := hDX.frozen 1
              go_wp2
              refine ⟨trivial, NoPanic.normal ?_⟩
              have hoF := only_far (i := 1) (u := .slice a10 m8 c10) (only_far (i := 0) (u := .int .i64 o2) hW2 (show dB ∈ [cB, dB] by simp)) (show dB ∈ [cB, dB] by simp)
              have hoF := (show Only [cB, dB] wr w13 from (Only.refl _ _).then bb).trans hoF
              have hDF := (hDX.set 0 (.int .i64 o2)).set 1 (.slice a10 m8 c10)
              have hCF := (hCX.far (p := ⟨dB, 0, none⟩) hne' (.int .i64 o2)).far (p := ⟨dB, 1, none⟩) hne' (.slice a10 m8 c10)
              have hOF := (hOX.far hDX (by decide) (by decide) 0 (.int .i64 o2)).far (hDX.set 0 (.int .i64 o2)) (by decide) (by decide) 1 (.slice a10 m8 c10)
              have hQF := (hQX.far hDX (by decide) (by decide) 0 (.int .i64 o2)).far (hDX.set 0 (.int .i64 o2)) (by decide) (by decide) 1 (.slice a10 m8 c10)
              clear hW2 d0 d1 d2 d3 G13 K13
              go_wp2
              go_roundg g
              case rel =>
                exact ⟨i + 1, fr + (M : Int), pL, _, _, rs8, rs10, by have := HG.out; omega, by go_num, by go_num, by omega, by omega, HOK2.out, HR8.out, HR10.out, hOF, hQF, hon.trans hoF, hCF, hDF⟩
              case measure => omega
            · have t2 : (pr == 0) = false := by simpa using hp0
              clear haf
              go_wp2
              go_roundg g
              case rel =>
                exact ⟨i + 1, fr, L, _, _, rs, qs, by have := HG.out; omega, rfl, by go_num, hf0, by omega, hok, HRS.out, HQS.out, hOc.later bb, hOd.later bb, hon.then bb, hC13, hD13⟩
              case measure => omega
          · rw [if_neg h40] at hk
            subst hk
            go_wp2_with fail
            rw [← HW5.out, ← HEB.out]
            refine (need_25 o aD L m cD 40 w5 (hSd.below b5) HM.out (by omega) (by omega) (by omega)).mono ?_
            rintro e w6 ⟨rfl, b6⟩
            rw [HMM.out]
            have bb := below_then b5 b6
            clear y0 y1
            go_wp2_with fail
            refine (next_24 fr M w6 hf0 (by omega) (by omega)).mono ?_
            rintro e w7 ⟨v, rfl, hI7, b7⟩
            obtain ⟨aF, cF, rfl, _, _, _, F7⟩ := hI7.ints (nextL_len fr M)
            have bb := below_then bb b7
            have hC7 := hC.later bb
            have hD7 := hD.later bb
            have hE7 := E5.later (below_then b6 b7)
            have c0 : w7.cell? ⟨cB, 0, none⟩ = some (.int .i64 o) := hC7.cell 0
            have c1 : w7.cell? ⟨cB, 1, none⟩ = some (.slice aC m cC) := hC7.cell 1
            obtain ⟨P, hP⟩ : ∃ P, allocP o L 40 (nextL fr M) = P := ⟨_, rfl⟩
            have hfew := alloc_few (o := o) (l := L) (N := 40) (F := nextL fr M) (by rw [nextL_len]; omega)
            have hdo := alloc_done (o := o) (l := L) (N := 40) (F := nextL fr M)
            have haf : (allocP o L 40 (nextL fr M)).1 = 0 → Ok o (allocP o L 40 (nextL fr M)).2.1 := fun h => by
              have hD := hdo h
              rw [hD.alloc]; exact hD.after_ok
            rw [hP] at hfew haf
            obtain ⟨pr, pL, px⟩ := P
            simp only at hfew haf
            obtain ⟨hf2, hf3, hf4⟩ := hfew
            obtain ⟨o2, ho2'⟩ : ∃ o2, (if pr = 0 then o else 0) = o2 := ⟨_, rfl⟩
            have HP := Lib.hid hP; have HO2 := Lib.hid ho2'
            clear hP ho2' hdo hI7 b6 b7
            go_wp2_with fail
            refine (alloc_19 o aC L m cC 40 aF (nextL fr M) M cF w7 (hSc.below bb) HM.out (by omega) (by omega) (by omega) F7 (nextL_len fr M) (by omega)).mono ?_
            rintro e w8 ⟨V, rs8, v, rfl, hO8, hrs8, hI8, b8⟩
            rw [HP.out] at hrs8 hI8 ⊢
            simp only at hrs8 hI8
            rw [show (if ((pr, pL, px) : Int × List S × List Int).1 = 0 then o else 0) = o2 from HO2.out]
            obtain ⟨m8, hm8⟩ : ∃ m, pL.length = m := ⟨_, rfl⟩
            obtain ⟨k8, hk8⟩ : ∃ k, px.length = k := ⟨_, rfl⟩
            have hO8 := hO8.weaken (show w.heap.size ≤ w7.heap.size by have := bb.size; have := hbw.size; omega)
            obtain ⟨a8, c8, rfl, _, _, _, S8⟩ := hO8.slabs (n := m8) (by have := congrArg List.length hrs8; rw [List.length_map] at this; rw [this]; exact hm8)
            obtain ⟨ai, ci, rfl, _, _, _, I8⟩ := hI8.ints hk8
            rw [hrs8] at S8
            have HM8 := Lib.hid hm8; have HK8 := Lib.hid hk8; have HR8 := Lib.hid hrs8
            have bb := below_then bb b8
            clear c0 c1 hC7 hD7 hm8 hk8 hrs8 hI8
            have G9 := Blk.new w8 24 #[.int .i64 o2, .slice a8 m8 c8] [.int .i64 o2, .slice a8 m8 c8] rfl
            have b9 := below_box w8 (.cells #[.int .i64 o2, .slice a8 m8 c8] 24)
            have hO9 := hO8.later b9
            have S9 := S8.below b9
            have I9 := I8.below b9
            have F9 := (F7.below b8).below b9
            have hE9 := (hE7.later b8).later b9
            have bb := below_then bb b9
            obtain ⟨gB, hgB⟩ : ∃ z, z = w8.heap.size := ⟨_, rfl⟩
            have hgb : dB < gB := by rw [hgB]; have := hD.lt; have := bb.size; have := b8.size; have h1 : wr.heap.size ≤ w8.heap.size := (below_then (show Below wr.heap.size wr w7 from by assumption) b8).size; omega
            obtain ⟨w9, hw9⟩ : ∃ W, W = w8.alloc (.cells #[.int .i64 o2, .slice a8 m8 c8] 24) := ⟨_, rfl⟩
            rw [← hw9, ← hgB] at G9
            rw [← hw9] at hO9 S9 I9 F9 hE9 bb
            have y0 : (w8.alloc (.cells #[.int .i64 o2, .slice a8 m8 c8] 24)).cell? ⟨dB, 0, none⟩ = some (.int .i64 o) := by rw [← hw9]; exact (hD.later bb).cell 0
            have y1 : (w8.alloc (.cells #[.int .i64 o2, .slice a8 m8 c8] 24)).cell? ⟨dB, 1, none⟩ = some (.slice aD m cD) := by rw [← hw9]; exact (hD.later bb).cell 1
            have HW9 := Lib.hid hw9; have HGB := Lib.hid hgB
            clear hw9 hgB hO8 S8 I8 F7 hE7 b8 b9
            go_wp2_with fail
            rw [← HW9.out, ← HGB.out]
            refine (alloc_20' o aD L m cD 40 aF (nextL fr M) M cF w9 (hSd.below bb) HM.out (by omega) (by omega) (by omega) F9 (nextL_len fr M) (by omega)).mono ?_
            rintro e w10 ⟨V, rs10, v, rfl, hO10, hrs10, hI10, b10⟩
            rw [HP.out] at hrs10 hI10 ⊢
            simp only at hrs10 hI10
            rw [show (if ((pr, pL, px) : Int × List S × List Int).1 = 0 then o else 0) = o2 from HO2.out]
            have hO10 := hO10.weaken (show w.heap.size ≤ w9.heap.size by have := bb.size; have := hbw.size; omega)
            obtain ⟨a10, c10, rfl, _, _, _, S10⟩ := hO10.slabs (n := m8) (by have := congrArg List.length hrs10; rw [List.length_map] at this; rw [this]; exact HM8.out)
            obtain ⟨aj, cj, rfl, _, _, _, I10⟩ := hI10.ints HK8.out
            rw [hrs10] at S10
            have HR10 := Lib.hid hrs10
            have bb := below_then bb b10
            clear y0 y1 hrs10 hI10 HW9
            have K11 := Blk.new w10 24 #[.int .i64 o2, .slice a10 m8 c10] [.int .i64 o2, .slice a10 m8 c10] rfl
            have b11 := below_box w10 (.cells #[.int .i64 o2, .slice a10 m8 c10] 24)
            have hO11 := (hO9.later b10).later b11
            have S11 := (S9.below b10).below b11
            have I11 := (I9.below b10).below b11
            have G11 := (G9.later b10).later b11
            have hE11 := (hE9.later b10).later b11
            have hQ11 := hO10.later b11
            have T11 := S10.below b11
            have J11 := I10.below b11
            have bb := below_then bb b11
            obtain ⟨kB, hkB⟩ : ∃ z, z = w10.heap.size := ⟨_, rfl⟩
            have hkb : dB < kB := by rw [hkB]; have := b10.size; have := G9.lt; omega
            obtain ⟨w11, hw11⟩ : ∃ W, W = w10.alloc (.cells #[.int .i64 o2, .slice a10 m8 c10] 24) := ⟨_, rfl⟩
            rw [← hw11, ← hkB] at K11
            rw [← hw11] at hO11 S11 I11 G11 hE11 hQ11 T11 J11 bb
            have HW11 := Lib.hid hw11; have HKB := Lib.hid hkB
            have t1 : (pr != pr) = false := by simp
            clear hw11 hkB hO9 S9 I9 F9 G9 hE9 hO10 S10 I10 b10 b11
            go_wp2_with fail
            rw [← HW11.out, ← HKB.out]
            refine (equal_21 ai aj px k8 ci cj w11 I11 J11 HK8.out (by rw [← HK8.out]; exact hf4)).mono ?_
            rintro e w12 ⟨rfl, b12⟩
            have bb := below_then bb b12
            have g0 : w12.cell? ⟨gB, 0, none⟩ = some (.int .i64 o2) := (G11.later b12).cell 0
            have g1 : w12.cell? ⟨gB, 1, none⟩ = some (.slice a8 m8 c8) := (G11.later b12).cell 1
            have h0 : w12.cell? ⟨kB, 0, none⟩ = some (.int .i64 o2) := (K11.later b12).cell 0
            have h1 : w12.cell? ⟨kB, 1, none⟩ = some (.slice a10 m8 c10) := (K11.later b12).cell 1
            clear HW11 HGB HKB I11 J11
            go_wp2_with fail
            refine (same_18 o2 a8 a10 pL m8 c8 c10 w12 (S11.below b12) (T11.below b12) HM8.out (by rw [← HM8.out]; exact hf2) hf3).mono ?_
            rintro e w13 ⟨rfl, b13⟩
            have bb := below_then bb b13
            have b13 := below_then b12 b13
            have G13 := G11.later b13
            have K13 := K11.later b13
            have hO13 := hO11.later b13
            have hQ13 := hQ11.later b13
            have hC13 := hC.later bb
            have hD13 := hD.later bb
            clear g0 g1 h0 h1 b12 b13 G11 K11 hO11 hQ11 S11 T11 hE11
            by_cases hp0 : pr = 0
            · subst hp0
              have hok2 := haf rfl
              obtain rfl : o2 = o := by rw [← HO2.out]; simp
              clear haf
              have HOK2 := Lib.hid hok2
              clear hok2
              go_wp2
              refine wp_region_in (fun W => Only [cB, dB] w13 W) [(true, 2), (false, 1), (false, 1)] [0, 1, 2, 3] 3 (by kernel_rfl) (by kernel_rfl) ((Only.refl _ _).then (Below.refl _ _).drew) ?_
              intro W hW hWe
              have hCW : Blk W cB 24 [.int .i64 o2, .slice aC m cC] := by rw [hWe]; exact hC13.later (Below.refl _ _).drew
              have hDW : Blk W dB 24 [.int .i64 o2, .slice aD m cD] := by rw [hWe]; exact hD13.later (Below.refl _ _).drew
              have hOW : OwnC W w.heap.size (.slice a8 m8 c8) rs8 := by rw [hWe]; exact hO13.later (Below.refl _ _).drew
              have hQW : OwnC W w.heap.size (.slice a10 m8 c10) rs10 := by rw [hWe]; exact hQ13.later (Below.refl _ _).drew
              clear hWe hO13 hQ13
              simp only [wpSegsL, inOrder, List.filterMap_cons, List.filterMap_nil, List.getElem?_cons_zero, List.getElem?_cons_succ, List.take_succ_cons, List.take_zero, List.drop_succ_cons, List.drop_zero]
              have q0 := fun z => (blk_only G13 (hold_ok (S0 := fun W => Only [cB, dB] w13 W) hW z) (by simp; omega)).cell 0
              have q1 := fun z => (blk_only G13 (hold_ok (S0 := fun W => Only [cB, dB] w13 W) hW z) (by simp; omega)).cell 1
              have q2 := fun z => (blk_only K13 (hold_ok (S0 := fun W => Only [cB, dB] w13 W) hW z) (by simp; omega)).cell 0
              have q3 := fun z => (blk_only K13 (hold_ok (S0 := fun W => Only [cB, dB] w13 W) hW z) (by simp; omega)).cell 1
              simp only [List.getElem?_cons_zero, List.getElem?_cons_succ] at q0 q1 q2 q3
              repeat (go_big_quiet_step (fail))
              refine wpQuiet_nil ?_
              clear q0 q1 q2 q3
              have d0 : W.cell? ⟨cB, 0, none⟩ = some (.int .i64 o2) := hCW.cell 0
              have d1 : W.cell? ⟨cB, 1, none⟩ = some (.slice aC m cC) := hCW.cell 1
              have d2 := hCW.frozen 0
              have d3 := hCW.frozen 1
              go_wp2
              have hne : dB ≠ cB := by omega
              have hne' : cB ≠ dB := by omega
              have hW2 := only_far (i := 1) (u := .slice a8 m8 c8) (only_far (i := 0) (u := .int .i64 o2) hW (show cB ∈ [cB, dB] by simp)) (show cB ∈ [cB, dB] by simp)
              refine ⟨hold_of hW2, ?_⟩
              have hCX := (hCW.set 0 (.int .i64 o2)).set 1 (.slice a8 m8 c8)
              have hDX := (hDW.far (p := ⟨cB, 0, none⟩) hne (.int .i64 o2)).far (p := ⟨cB, 1, none⟩) hne (.slice a8 m8 c8)
              have hOX := (hOW.far hCW (by decide) (by decide) 0 (.int .i64 o2)).far (hCW.set 0 (.int .i64 o2)) (by decide) (by decide) 1 (.slice a8 m8 c8)
              have hQX := (hQW.far hCW (by decide) (by decide) 0 (.int .i64 o2)).far (hCW.set 0 (.int .i64 o2)) (by decide) (by decide) 1 (.slice a8 m8 c8)
              obtain ⟨WX, hWX⟩ : ∃ z, z = (W.setCell ⟨cB, 0, none⟩ (.int .i64 o2)).setCell ⟨cB, 1, none⟩ (.slice a8 m8 c8) := ⟨_, rfl⟩
              rw [← hWX] at hCX hDX hOX hQX hW2 ⊢
              clear hWX hCW hDW hOW hQW hW d0 d1 d2 d3
              replace hCX : Blk WX cB 24 [.int .i64 o2, .slice a8 m8 c8] := hCX
              have d0 : WX.cell? ⟨dB, 0, none⟩ = some (.int .i64 o2) := hDX.cell 0
              have d1 : WX.cell? ⟨dB, 1, none⟩ = some (.slice aD m cD) := hDX.cell 1
              have d2 := hDX.frozen 0
              have d3 := hDX.frozen 1
              go_wp2
              refine ⟨trivial, NoPanic.normal ?_⟩
              have hoF := only_far (i := 1) (u := .slice a10 m8 c10) (only_far (i := 0) (u := .int .i64 o2) hW2 (show dB ∈ [cB, dB] by simp)) (show dB ∈ [cB, dB] by simp)
              have hoF := (show Only [cB, dB] wr w13 from (Only.refl _ _).then bb).trans hoF
              have hDF := (hDX.set 0 (.int .i64 o2)).set 1 (.slice a10 m8 c10)
              have hCF := (hCX.far (p := ⟨dB, 0, none⟩) hne' (.int .i64 o2)).far (p := ⟨dB, 1, none⟩) hne' (.slice a10 m8 c10)
              have hOF := (hOX.far hDX (by decide) (by decide) 0 (.int .i64 o2)).far (hDX.set 0 (.int .i64 o2)) (by decide) (by decide) 1 (.slice a10 m8 c10)
              have hQF := (hQX.far hDX (by decide) (by decide) 0 (.int .i64 o2)).far (hDX.set 0 (.int .i64 o2)) (by decide) (by decide) 1 (.slice a10 m8 c10)
              clear hW2 d0 d1 d2 d3 G13 K13
              go_wp2
              go_roundg g
              case rel =>
                exact ⟨i + 1, fr + (M : Int), pL, _, _, rs8, rs10, by have := HG.out; omega, by go_num, by go_num, by omega, by omega, HOK2.out, HR8.out, HR10.out, hOF, hQF, hon.trans hoF, hCF, hDF⟩
              case measure => omega
            · have t2 : (pr == 0) = false := by simpa using hp0
              clear haf
              go_wp2
              go_roundg g
              case rel =>
                exact ⟨i + 1, fr, L, _, _, rs, qs, by have := HG.out; omega, rfl, by go_num, hf0, by omega, hok, HRS.out, HQS.out, hOc.later bb, hOd.later bb, hon.then bb, hC13, hD13⟩
              case measure => omega
        · have y0 : (wr.alloc (.cells #[.int .i64 ON, .int .i64 OO] 40)).cell? ⟨cB, 0, none⟩ = some (.int .i64 o) := by rw [← HW5.out]; exact (hC.later b5).cell 0
          have y1 : (wr.alloc (.cells #[.int .i64 ON, .int .i64 OO] 40)).cell? ⟨cB, 1, none⟩ = some (.slice aC m cC) := by rw [← HW5.out]; exact (hC.later b5).cell 1
          go_wp2_with fail
          rw [← HW5.out, ← HEB.out]
          have bb := b5
          obtain ⟨P, hP⟩ : ∃ P, freeP o L OO = P := ⟨_, rfl⟩
          have hfew := free_few (o := o) (l := L) (x := OO)
          have haf : (freeP o L OO).1 = 0 → Ok o (freeP o L OO).2.1 := fun h => by
            by_cases hm : OO ∈ objs o true L
            · rw [freeP_ok (check_ok.2 hok) hm]; exact hok.free_ok
            · rw [freeP_none (check_ok.2 hok) hm] at h; simp at h
          rw [hP] at hfew haf
          obtain ⟨pr, pL, px⟩ := P
          simp only at hfew haf
          obtain ⟨hf2, hf3⟩ := hfew
          obtain ⟨o2, ho2'⟩ : ∃ o2, (if pr = 0 then o else 0) = o2 := ⟨_, rfl⟩
          have HP := Lib.hid hP; have HO2 := Lib.hid ho2'
          clear hP ho2' y0 y1
          refine (free_22 o aC L m cC OO w5 (hSc.below bb) HM.out (by omega) (by omega) (by omega)).mono ?_
          rintro e w8 ⟨V, rs8, rfl, hO8, hrs8, b8⟩
          rw [HP.out] at hrs8 ⊢
          simp only at hrs8
          rw [show (if ((pr, pL, px) : Int × List S × Int).1 = 0 then o else 0) = o2 from HO2.out]
          obtain ⟨m8, hm8⟩ : ∃ m, pL.length = m := ⟨_, rfl⟩
          have hO8 := hO8.weaken (show w.heap.size ≤ w5.heap.size by have := bb.size; have := hbw.size; omega)
          obtain ⟨a8, c8, rfl, _, _, _, S8⟩ := hO8.slabs (n := m8) (by have := congrArg List.length hrs8; rw [List.length_map] at this; rw [this]; exact hm8)
          rw [hrs8] at S8
          have HM8 := Lib.hid hm8; have HR8 := Lib.hid hrs8
          have bb := below_then bb b8
          clear hm8 hrs8
          have G9 := Blk.new w8 24 #[.int .i64 o2, .slice a8 m8 c8] [.int .i64 o2, .slice a8 m8 c8] rfl
          have b9 := below_box w8 (.cells #[.int .i64 o2, .slice a8 m8 c8] 24)
          have hO9 := hO8.later b9
          have S9 := S8.below b9
          have hE9 := (E5.later b8).later b9
          have bb9 := below_then bb b9
          obtain ⟨gB, hgB⟩ : ∃ z, z = w8.heap.size := ⟨_, rfl⟩
          have hgb : dB < gB := by rw [hgB]; have := hD.lt; have := bb.size; omega
          obtain ⟨w9, hw9⟩ : ∃ W, W = w8.alloc (.cells #[.int .i64 o2, .slice a8 m8 c8] 24) := ⟨_, rfl⟩
          rw [← hw9, ← hgB] at G9
          rw [← hw9] at hO9 S9 hE9 bb9
          have y0 : (w8.alloc (.cells #[.int .i64 o2, .slice a8 m8 c8] 24)).cell? ⟨dB, 0, none⟩ = some (.int .i64 o) := by rw [← hw9]; exact (hD.later bb9).cell 0
          have y1 : (w8.alloc (.cells #[.int .i64 o2, .slice a8 m8 c8] 24)).cell? ⟨dB, 1, none⟩ = some (.slice aD m cD) := by rw [← hw9]; exact (hD.later bb9).cell 1
          have y2 : (w8.alloc (.cells #[.int .i64 o2, .slice a8 m8 c8] 24)).cell? ⟨eB, 0, none⟩ = some (.int .i64 ON) := by rw [← hw9]; exact hE9.cell 0
          have y3 : (w8.alloc (.cells #[.int .i64 o2, .slice a8 m8 c8] 24)).cell? ⟨eB, 1, none⟩ = some (.int .i64 OO) := by rw [← hw9]; exact hE9.cell 1
          have HW9 := Lib.hid hw9; have HGB := Lib.hid hgB
          clear hw9 hgB hO8 S8 b8 b9 bb
          have bb := bb9
          clear bb9
          go_wp2_with fail
          rw [← HW9.out, ← HGB.out]
          refine (free_23 o aD L m cD OO w9 (hSd.below bb) HM.out (by omega)).mono ?_
          rintro e w10 ⟨V, rs10, rfl, hO10, hrs10, b10⟩
          rw [HP.out] at hrs10 ⊢
          simp only at hrs10
          rw [show (if ((pr, pL, px) : Int × List S × Int).1 = 0 then o else 0) = o2 from HO2.out]
          have hO10 := hO10.weaken (show w.heap.size ≤ w9.heap.size by have := bb.size; have := hbw.size; omega)
          obtain ⟨a10, c10, rfl, _, _, _, S10⟩ := hO10.slabs (n := m8) (by have := congrArg List.length hrs10; rw [List.length_map] at this; rw [this]; exact HM8.out)
          rw [hrs10] at S10
          have HR10 := Lib.hid hrs10
          have bb := below_then bb b10
          clear y0 y1 y2 y3 hrs10 HW9
          have K11 := Blk.new w10 24 #[.int .i64 o2, .slice a10 m8 c10] [.int .i64 o2, .slice a10 m8 c10] rfl
          have b11 := below_box w10 (.cells #[.int .i64 o2, .slice a10 m8 c10] 24)
          have hO11 := (hO9.later b10).later b11
          have S11 := (S9.below b10).below b11
          have G11 := (G9.later b10).later b11
          have hQ11 := hO10.later b11
          have T11 := S10.below b11
          have bb := below_then bb b11
          obtain ⟨kB, hkB⟩ : ∃ z, z = w10.heap.size := ⟨_, rfl⟩
          have hkb : dB < kB := by rw [hkB]; have := b10.size; have := G9.lt; omega
          obtain ⟨w12, hw12⟩ : ∃ W, W = w10.alloc (.cells #[.int .i64 o2, .slice a10 m8 c10] 24) := ⟨_, rfl⟩
          rw [← hw12, ← hkB] at K11
          rw [← hw12] at hO11 S11 G11 hQ11 T11 bb
          have HW12 := Lib.hid hw12; have HKB := Lib.hid hkB
          have t1 : (pr != pr) = false := by simp
          have t3 : (px != px) = false := by simp
          have g0 : (w10.alloc (.cells #[.int .i64 o2, .slice a10 m8 c10] 24)).cell? ⟨gB, 0, none⟩ = some (.int .i64 o2) := by rw [← hw12]; exact G11.cell 0
          have g1 : (w10.alloc (.cells #[.int .i64 o2, .slice a10 m8 c10] 24)).cell? ⟨gB, 1, none⟩ = some (.slice a8 m8 c8) := by rw [← hw12]; exact G11.cell 1
          clear hw12 hkB hO9 S9 G9 hE9 hO10 S10 b10 b11
          go_wp2_with fail
          rw [← HW12.out, ← HKB.out]
          clear HW12 HGB HKB g0 g1
          refine (same_18 o2 a8 a10 pL m8 c8 c10 w12 S11 T11 HM8.out (by rw [← HM8.out]; exact hf2) hf3).mono ?_
          rintro e w13 ⟨rfl, b13⟩
          have bb := below_then bb b13
          have G13 := G11.later b13
          have K13 := K11.later b13
          have hO13 := hO11.later b13
          have hQ13 := hQ11.later b13
          have hC13 := hC.later bb
          have hD13 := hD.later bb
          clear b13 G11 K11 hO11 hQ11 S11 T11
          by_cases hp0 : pr = 0
          · subst hp0
            have hok2 := haf rfl
            obtain rfl : o2 = o := by rw [← HO2.out]; simp
            clear haf
            have HOK2 := Lib.hid hok2
            clear hok2
            go_wp2
            refine wp_region_in (fun W => Only [cB, dB] w13 W) [(true, 2), (false, 1), (false, 1)] [0, 1, 2, 3] 3 (by kernel_rfl) (by kernel_rfl) ((Only.refl _ _).then (Below.refl _ _).drew) ?_
            intro W hW hWe
            have hCW : Blk W cB 24 [.int .i64 o2, .slice aC m cC] := by rw [hWe]; exact hC13.later (Below.refl _ _).drew
            have hDW : Blk W dB 24 [.int .i64 o2, .slice aD m cD] := by rw [hWe]; exact hD13.later (Below.refl _ _).drew
            have hOW : OwnC W w.heap.size (.slice a8 m8 c8) rs8 := by rw [hWe]; exact hO13.later (Below.refl _ _).drew
            have hQW : OwnC W w.heap.size (.slice a10 m8 c10) rs10 := by rw [hWe]; exact hQ13.later (Below.refl _ _).drew
            clear hWe hO13 hQ13
            simp only [wpSegsL, inOrder, List.filterMap_cons, List.filterMap_nil, List.getElem?_cons_zero, List.getElem?_cons_succ, List.take_succ_cons, List.take_zero, List.drop_succ_cons, List.drop_zero]
            have q0 := fun z => (blk_only G13 (hold_ok (S0 := fun W => Only [cB, dB] w13 W) hW z) (by simp; omega)).cell 0
            have q1 := fun z => (blk_only G13 (hold_ok (S0 := fun W => Only [cB, dB] w13 W) hW z) (by simp; omega)).cell 1
            have q2 := fun z => (blk_only K13 (hold_ok (S0 := fun W => Only [cB, dB] w13 W) hW z) (by simp; omega)).cell 0
            have q3 := fun z => (blk_only K13 (hold_ok (S0 := fun W => Only [cB, dB] w13 W) hW z) (by simp; omega)).cell 1
            simp only [List.getElem?_cons_zero, List.getElem?_cons_succ] at q0 q1 q2 q3
            repeat (go_big_quiet_step (fail))
            refine wpQuiet_nil ?_
            clear q0 q1 q2 q3
            have d0 : W.cell? ⟨cB, 0, none⟩ = some (.int .i64 o2) := hCW.cell 0
            have d1 : W.cell? ⟨cB, 1, none⟩ = some (.slice aC m cC) := hCW.cell 1
            have d2 := hCW.frozen 0
            have d3 := hCW.frozen 1
            go_wp2
            have hne : dB ≠ cB := by omega
            have hne' : cB ≠ dB := by omega
            have hW2 := only_far (i := 1) (u := .slice a8 m8 c8) (only_far (i := 0) (u := .int .i64 o2) hW (show cB ∈ [cB, dB] by simp)) (show cB ∈ [cB, dB] by simp)
            refine ⟨hold_of hW2, ?_⟩
            have hCX := (hCW.set 0 (.int .i64 o2)).set 1 (.slice a8 m8 c8)
            have hDX := (hDW.far (p := ⟨cB, 0, none⟩) hne (.int .i64 o2)).far (p := ⟨cB, 1, none⟩) hne (.slice a8 m8 c8)
            have hOX := (hOW.far hCW (by decide) (by decide) 0 (.int .i64 o2)).far (hCW.set 0 (.int .i64 o2)) (by decide) (by decide) 1 (.slice a8 m8 c8)
            have hQX := (hQW.far hCW (by decide) (by decide) 0 (.int .i64 o2)).far (hCW.set 0 (.int .i64 o2)) (by decide) (by decide) 1 (.slice a8 m8 c8)
            obtain ⟨WX, hWX⟩ : ∃ z, z = (W.setCell ⟨cB, 0, none⟩ (.int .i64 o2)).setCell ⟨cB, 1, none⟩ (.slice a8 m8 c8) := ⟨_, rfl⟩
            rw [← hWX] at hCX hDX hOX hQX hW2 ⊢
            clear hWX hCW hDW hOW hQW hW d0 d1 d2 d3
            replace hCX : Blk WX cB 24 [.int .i64 o2, .slice a8 m8 c8] := hCX
            have d0 : WX.cell? ⟨dB, 0, none⟩ = some (.int .i64 o2) := hDX.cell 0
            have d1 : WX.cell? ⟨dB, 1, none⟩ = some (.slice aD m cD) := hDX.cell 1
            have d2 := hDX.frozen 0
            have d3 := hDX.frozen 1
            go_wp2
            refine ⟨trivial, NoPanic.normal ?_⟩
            have hoF := only_far (i := 1) (u := .slice a10 m8 c10) (only_far (i := 0) (u := .int .i64 o2) hW2 (show dB ∈ [cB, dB] by simp)) (show dB ∈ [cB, dB] by simp)
            have hoF := (show Only [cB, dB] wr w13 from (Only.refl _ _).then bb).trans hoF
            have hDF := (hDX.set 0 (.int .i64 o2)).set 1 (.slice a10 m8 c10)
            have hCF := (hCX.far (p := ⟨dB, 0, none⟩) hne' (.int .i64 o2)).far (p := ⟨dB, 1, none⟩) hne' (.slice a10 m8 c10)
            have hOF := (hOX.far hDX (by decide) (by decide) 0 (.int .i64 o2)).far (hDX.set 0 (.int .i64 o2)) (by decide) (by decide) 1 (.slice a10 m8 c10)
            have hQF := (hQX.far hDX (by decide) (by decide) 0 (.int .i64 o2)).far (hDX.set 0 (.int .i64 o2)) (by decide) (by decide) 1 (.slice a10 m8 c10)
            clear hW2 d0 d1 d2 d3 G13 K13
            go_wp2
            go_roundg g
            case rel =>
              exact ⟨i + 1, fr, pL, _, _, rs8, rs10, by have := HG.out; omega, rfl, by go_num, hf0, by omega, HOK2.out, HR8.out, HR10.out, hOF, hQF, hon.trans hoF, hCF, hDF⟩
            case measure => omega
          · have t2 : (pr == 0) = false := by simpa using hp0
            clear haf
            go_wp2
            go_roundg g
            case rel =>
              exact ⟨i + 1, fr, L, _, _, rs, qs, by have := HG.out; omega, rfl, by go_num, hf0, by omega, hok, HRS.out, HQS.out, hOc.later bb, hOd.later bb, hon.then bb, hC13, hD13⟩
            case measure => omega
end Go.Proofs.Ythhdiiboblaclaa
