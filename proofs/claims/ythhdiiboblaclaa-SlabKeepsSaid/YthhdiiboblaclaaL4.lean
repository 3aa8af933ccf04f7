/- The walk of the law on what an allocation changes. -/
import Derived.Test.YthhdiiboblaclaaL3
namespace Go.Proofs.Ythhdiiboblaclaa
open Go.RowKit Go.Over Go.Slb Go.Seg Go.Grow
theorem alloc_done {o : Int} {l : List S} {N : Int} {F : List Int} (h : (allocP o l N F).1 = 0) : Done o l N F := by
  by_cases h0 : check o l = 0
  · by_cases h1 : N < 1 ∨ (F.length : Int) ≠ needL o l N
    · rw [alloc_arg h0 h1] at h; simp at h
    · by_cases h2 : (addF o F l).1 = 0
      · exact ⟨check_ok.1 h0, by omega, by omega, h2⟩
      · rw [alloc_add h0 h1 h2 (addF_fst h2)] at h; exact absurd h h2
  · rw [alloc_bad h0] at h; exact absurd h h0
theorem alloc_none {o : Int} {l : List S} {N : Int} {F : List Int} (h : (allocP o l N F).1 ≠ 0) : (allocP o l N F).2.2 = [] := by
  by_cases h0 : check o l = 0
  · by_cases h1 : N < 1 ∨ (F.length : Int) ≠ needL o l N
    · rw [alloc_arg h0 h1]
    · by_cases h2 : (addF o F l).1 = 0
      · have hD : Done o l N F := ⟨check_ok.1 h0, by omega, by omega, h2⟩
        rw [hD.alloc] at h
        exact absurd rfl h
      · rw [alloc_add h0 h1 h2 (addF_fst h2)]
  · rw [alloc_bad h0]
theorem Ints.take {w : World} {a : Option Addr} {l : List Int} (h : Ints w a l) (i : Nat) : Ints w a (l.take i) := by
  intro h0
  rw [List.length_take] at h0
  obtain ⟨b, off, rfl, hc⟩ := h (by omega)
  refine ⟨b, off, rfl, fun j hj => ?_⟩
  rw [List.length_take] at hj
  rw [hc j (by omega), List.getD_eq_getElem?_getD, List.getD_eq_getElem?_getD, List.getElem?_take_of_lt (by omega)]
/-- What the law asks of an allocation. -/
structure Uni (N : Int) (Z1 Z2 T : List Int) : Prop where
  len : (T.length : Int) = N
  sum : Z2.length = Z1.length + T.length
  new : ∀ x ∈ T, Z1.contains x = false
  now : ∀ x ∈ T, Z2.contains x = true
  dif : ∀ i x, T[i]? = some x → (T.take i).contains x = false
  old : ∀ x ∈ Z1, Z2.contains x = true
  few : Z2.length ≤ 10000
theorem done_uni {o : Int} {l : List S} {n : Int} {F : List Int} (h : Done o l n F) : Uni n (objs o true l) (objs o true (after o l n F)) (took o l n.toNat F) := by
  have hp := h.pos
  have hl := h.took_len
  have hk := h.after_ok
  refine ⟨by omega, by rw [objs_len, objs_len, h.used_eq, hl], fun x hx => ?_, fun x hx => ?_, fun i x hx => ?_, fun x hx => ?_, ?_⟩
  · simpa using h.took_new x hx
  · simpa using (h.after_mem x).2 (.inr hx)
  · have hn := h.took_nodup
    have hlt : i < (took o l n.toNat F).length := by rw [List.getElem?_eq_some_iff] at hx; exact hx.1
    have hd := List.take_append_drop i (took o l n.toNat F)
    rw [drop_get hx] at hd
    rw [← hd] at hn
    have := (List.nodup_append.1 hn).2.2
    simp only [List.contains_eq_mem, decide_eq_false_iff_not]
    intro hm
    exact this x hm x (by simp) rfl
  · simpa using (h.after_mem x).2 (.inl hx)
  · rw [objs_len]
    have h1 := used_le hk.len
    have h2 := ok_count hk
    have h5 := mul_small2 (x := ((after o l n F).length : Int)) (o := o) (by omega) (by omega) (by have := hk.o1; omega) hk.o2
    have h6 : ((after o l n F).length : Int) * o ≤ 256 * 32 := by
      have a1 := Int.mul_le_mul_of_nonneg_right (show ((after o l n F).length : Int) ≤ 256 by omega) (show 0 ≤ o by have := hk.o1; omega)
      have := hk.o2
      omega
    omega
set_option maxRecDepth 100000 in set_option maxHeartbeats 3200000 in
theorem law_unique (o : Int) (a : Option Addr) (l : List S) (n c : Nat) (N : Int) (fa : Option Addr) (F : List Int) (fm fc : Nat) (w : World) (H : Slabs w a l) (hn : l.length = n) (hN1 : -9223372036854775808 ≤ N) (hN2 : N ≤ 9223372036854775807) (HF : Ints w fa F) (hfm : F.length = fm) :
    Calls Try.prog 10 #[.agg #[.int .i64 o, .slice a n c], .int .i64 N, .slice fa fm fc] w fun e w' => e = .returned (.bool true) ∧ Below w.heap.size w w' := by
  have HFM := Lib.hid hfm
  clear hfm
  have HN := Lib.hid hn
  have b1 := below_box w (.cells #[.int .i64 o, .slice a n c] 24)
  have X1 := Blk.new w 24 #[.int .i64 o, .slice a n c] [.int .i64 o, .slice a n c] rfl
  obtain ⟨w1, hw1⟩ : ∃ W, W = w.alloc (.cells #[.int .i64 o, .slice a n c] 24) := ⟨_, rfl⟩
  rw [← hw1] at b1 X1
  have hfw := few_12 o a l n c w1 (H.below b1) hn
  obtain ⟨fb, hfb⟩ : ∃ fb, fewB 20 l = fb := ⟨_, rfl⟩
  rw [hfb] at hfw
  have HFW := Lib.hid hfw; have HW := Lib.hid hw1; have HFB := Lib.hid hfb
  clear hn hw1 hfw hfb
  go_enter Try.func10, Try.ntmps10
  go_wp2_with fail
  rw [← HW.out]
  refine (HFW.out).mono ?_
  rintro e w2 ⟨rfl, b2⟩
  have X2 := X1.later b2
  have B2 := below_then b1 b2
  have x0 : w2.cell? ⟨w.heap.size, 0, none⟩ = some (.int .i64 o) := X2.cell 0
  have x1 : w2.cell? ⟨w.heap.size, 1, none⟩ = some (.slice a n c) := X2.cell 1
  clear HW HFW b1 b2 X1
  cases fb with
  | false =>
    go_wp2_with (go_at_call 13; refine (awake_13 _).mono ?_; rintro e w' ⟨rfl, hz⟩)
    go_ret
    exact ⟨rfl, (by repeat (first | with_reducible exact Below.refl _ _ | with_reducible assumption | with_reducible refine below_alloc ?_ _ | with_reducible refine Below.drew ?_ | with_reducible refine below_drewN ?_ _ | with_reducible refine below_then ?_ (by with_reducible assumption)))⟩
  | true =>
    have hfs := few_spec HFB.out
    have hn20 : n ≤ 20 := by have := hfs.1; have := HN.out; omega
    have hl40 := hfs.2
    clear hfs HFB
    rcases Nat.lt_or_ge 40 fm with h40 | h40
    · go_wp2_with (go_at_call 13; refine (awake_13 _).mono ?_; rintro e w' ⟨rfl, hz⟩)
      go_ret
      exact ⟨rfl, (by repeat (first | with_reducible exact Below.refl _ _ | with_reducible assumption | with_reducible refine below_alloc ?_ _ | with_reducible refine Below.drew ?_ | with_reducible refine below_drewN ?_ _ | with_reducible refine below_then ?_ (by with_reducible assumption)))⟩
    · have hno := alloc_none (o := o) (l := l) (N := N) (F := F)
      have hdo := alloc_done (o := o) (l := l) (N := N) (F := F)
      obtain ⟨P, hP⟩ : ∃ P, allocP o l N F = P := ⟨_, rfl⟩
      rw [hP] at hno hdo
      obtain ⟨pr, pL, px⟩ := P
      simp only at hno hdo
      have HP := Lib.hid hP
      clear hP
      go_wp2_with fail
      refine (alloc_19 o a l n c N fa F fm fc w2 (H.below B2) HN.out (by omega) hN1 hN2 (HF.below B2) HFM.out (by omega)).mono ?_
      rintro e w3 ⟨V, rs, v, rfl, hO, hrs, hI, b3⟩
      rw [HP.out] at hrs hI ⊢
      simp only at hrs hI
      have X3 := X2.later b3
      have B3 := below_then B2 b3
      obtain ⟨m, hm⟩ : ∃ m, pL.length = m := ⟨_, rfl⟩
      obtain ⟨k, hk⟩ : ∃ k, px.length = k := ⟨_, rfl⟩
      obtain ⟨a3, c3, rfl, _, _, _, S3⟩ := hO.slabs (n := m) (by have := congrArg List.length hrs; rw [List.length_map] at this; rw [this]; exact hm)
      obtain ⟨ai, ci, rfl, hki, _, _, I3⟩ := hI.ints hk
      rw [hrs] at S3
      have HM := Lib.hid hm; have HK := Lib.hid hk
      clear x0 x1 X2 B2 b3 hO hrs hI hm hk
      by_cases hp0 : pr = 0
      · subst hp0
        have hD := hdo rfl
        have hal := hD.alloc
        rw [HP.out] at hal
        simp only [Prod.mk.injEq, true_and] at hal
        have hU := done_uni hD
        have hka := hD.after_ok
        rw [← hal.1, ← hal.2] at hU
        rw [← hal.1] at hka
        have hm256 : m ≤ 256 := by have := ok_count hka; have := HM.out; omega
        rw [show (if ((0, pL, px) : Int × List S × List Int).1 = 0 then o else 0) = o from if_pos rfl]
        clear hno hdo hal
        have X4 := X3.alloc (.cells #[.int .i64 o, .slice a3 m c3] 24)
        have Y4 := Blk.new w3 24 #[.int .i64 o, .slice a3 m c3] [.int .i64 o, .slice a3 m c3] rfl
        have b4 := below_box w3 (.cells #[.int .i64 o, .slice a3 m c3] 24)
        have B4 := below_then B3 b4
        have S4 := S3.below b4
        have I4 := I3.below b4
        obtain ⟨w4, hw4⟩ : ∃ W, W = w3.alloc (.cells #[.int .i64 o, .slice a3 m c3] 24) := ⟨_, rfl⟩
        rw [← hw4] at X4 Y4 B4 S4 I4
        have HW4 := Lib.hid hw4
        clear hw4 X3 B3 S3 I3 b4
        go_wp2_with fail
        rw [← HW4.out]
        refine wp_region_in (fun W => Below w4.heap.size w4 W) [(true, 2), (false, 1), (false, 1), (true, 2)] [0, 2, 1, 3, 4, 5] 99 (by kernel_rfl) (by kernel_rfl) (Below.refl _ _).drew ?_
        intro W hW hWe
        clear hWe
        simp only [wpSegsL, inOrder, List.filterMap_cons, List.filterMap_nil, List.getElem?_cons_zero, List.getElem?_cons_succ, List.take_succ_cons, List.take_zero, List.drop_succ_cons, List.drop_zero]
        have q0 := fun z => cell_later (hold_ok (S0 := fun W => Below w4.heap.size w4 W) hW z) (X4.cell 0)
        have q1 := fun z => cell_later (hold_ok (S0 := fun W => Below w4.heap.size w4 W) hW z) (X4.cell 1)
        have q2 := fun z => cell_later (hold_ok (S0 := fun W => Below w4.heap.size w4 W) hW z) (Y4.cell 0)
        have q3 := fun z => cell_later (hold_ok (S0 := fun W => Below w4.heap.size w4 W) hW z) (Y4.cell 1)
        repeat (go_big_quiet_step (fail))
        refine wpQuiet_nil ?_
        obtain ⟨Z1, hZ1⟩ : ∃ Z, objs o true l = Z := ⟨_, rfl⟩
        obtain ⟨Z2, hZ2⟩ : ∃ Z, objs o true pL = Z := ⟨_, rfl⟩
        rw [hZ1, hZ2] at hU
        have hz12 := hU.sum
        have hzf := hU.few
        have hkN := hU.len
        obtain ⟨z1, hz1⟩ : ∃ k, Z1.length = k := ⟨_, rfl⟩
        obtain ⟨z2, hz2⟩ : ∃ k, Z2.length = k := ⟨_, rfl⟩
        rw [hz1, hz2, HK.out] at hz12
        rw [hz2] at hzf
        rw [HK.out] at hkN
        have HZ1 := Lib.hid hZ1; have HZ2 := Lib.hid hZ2; have HL1 := Lib.hid hz1; have HL2 := Lib.hid hz2; have HUN := Lib.hid hU
        have hz12' : ((z2 : Nat) : Int) = (z1 : Int) + N := by omega
        clear hZ1 hZ2 hz1 hz2 hU hz12
        go_wp2_with fail
        refine (objects_30 o a l n c W (H.below (below_then B4 hW)) HN.out (by omega)).mono ?_
        rintro e w5 ⟨v5, rfl, hI5, b5⟩
        rw [if_pos (check_ok.2 hD.ok), HZ1.out] at hI5
        obtain ⟨a5, c5, rfl, _, _, _, J5⟩ := hI5.ints HL1.out
        have hW5 : Below w4.heap.size w4 w5 := below_then hW b5
        clear hI5
        go_wp2
        refine ⟨hold_of hW5, ?_⟩
        go_wp2_with fail
        refine (objects_30 o a3 pL m c3 w5 (S4.below hW5) HM.out (by omega)).mono ?_
        rintro e w6 ⟨v6, rfl, hI6, b6⟩
        rw [if_pos (check_ok.2 hka), HZ2.out] at hI6
        obtain ⟨a6, c6, rfl, _, _, _, J6⟩ := hI6.ints HL2.out
        have J5 := J5.below b6
        have hW6 : Below w4.heap.size w4 w6 := below_then hW5 b6
        clear hI6
        go_wp2
        refine ⟨hold_of hW6, ?_⟩
        dsimp only
        repeat (go_big_quiet_step (fail))
        refine wpQuiet_nil ?_
        refine NoPanic.normal ?_
        clear q0 q1 q2 q3 HW4
        have B6 := below_then B4 hW6
        have I6 := I4.below hW6
        have S6 := S4.below hW6
        have Y6 := Y4.later hW6
        have y0 : w6.cell? ⟨w3.heap.size, 0, none⟩ = some (.int .i64 o) := Y6.cell 0
        have y1 : w6.cell? ⟨w3.heap.size, 1, none⟩ = some (.slice a3 m c3) := Y6.cell 1
        clear hW hW5 hW6 b5 b6 B4 S4 I4 X4 Y4
        obtain rfl : N = (k : Int) := by omega
        have hwr1 : (z1 : Int) + (k : Int) = (z2 : Int) := by omega
        have t1 : ((k : Int) != (k : Int)) = false := by simp
        have t2 : ((z2 : Int) != (z1 : Int) + (k : Int)) = false := by rw [hwr1]; simp
        have hwa : z2 ≤ z1 + k := by omega
        have hwb : z1 + k ≤ z2 := by omega
        clear hwr1 hz12' hkN
        go_wp2_with fail
        refine (check_16 o a3 pL m c3 w6 S6 HM.out (by omega)).mono ?_
        rintro e w7 ⟨rfl, b7⟩
        rw [check_ok.2 hka]
        have B7 := below_then B6 b7
        have I7 := I6.below b7
        have J5 := J5.below b7
        have J6 := J6.below b7
        clear B6 I6 S6 Y6 y0 y1 b7
        go_wp2
        go_loopg [12] k (fun g i0 wr => ∃ (i : Nat), i + g = k ∧ i0 = .int .i64 i ∧ Below w7.heap.size w7 wr)
        case atStart => exact ⟨0, by omega, rfl, Below.refl _ _⟩
        case round =>
          obtain ⟨i, hg, rfl, hb⟩ := hrel
          cases gk with
          | succ g =>
            have hik : i < k := by omega
            obtain ⟨y, hy⟩ := get_some HK.out hik
            have hym := List.mem_of_getElem? hy
            have e1 := HUN.out.new y hym
            have e2 := HUN.out.now y hym
            have e3 := HUN.out.dif i y hy
            have hI := I7.below hb
            obtain ⟨b, off, rfl, hc⟩ := hI (by rw [HK.out]; omega)
            have c0 := hc i (by rw [HK.out]; exact hik)
            rw [List.getD_eq_getElem?_getD, hy] at c0
            simp only [Option.getD_some] at c0
            have d1 := fun u => has_26 a5 Z1 z1 c5 y (over wr u) ((J5.below hb).below (below_over wr u)) HL1.out (by omega)
            have d2 := fun u => has_26 a6 Z2 z2 c6 y (over wr u) ((J6.below hb).below (below_over wr u)) HL2.out (by omega)
            have d3 := fun u => has_26 (some ⟨b, off, none⟩) (px.take i) i ci y (over wr u) ((hI.take i).below (below_over wr u)) (by rw [List.length_take, HK.out]; omega) (by omega)
            rw [e1] at d1
            rw [e2] at d2
            rw [e3] at d3
            have HGG := Lib.hid hg
            clear hc hy hg e1 e2 e3
            go_wp2
            refine wp_region_over (by kernel_rfl) (by kernel_rfl) ?_
            have q0 := fun u => over_cell c0 u
            repeat (go_big_quiet_step ((go_at_call 26; first | with_reducible exact calls_over_same (d1 _) | with_reducible exact calls_over_same (d2 _) | with_reducible exact calls_over_same (d3 _))))
            refine wpQuiet_nil ?_
            rintro _ ⟨u0, rfl⟩
            have hb2 := below_then hb (below_over wr u0)
            clear q0 d1 d2 d3
            go_wp2
            go_roundg g
            case rel => exact ⟨i + 1, by have := HGG.out; omega, by go_num, hb2⟩
            case measure => omega
          | zero =>
            obtain rfl : i = k := by omega
            have B8 := below_then B7 hb
            have J5 := J5.below hb
            have J6 := J6.below hb
            clear B7 hb hg I7
            obtain ⟨w8, hw8⟩ : ∃ W, W = wr := ⟨_, rfl⟩
            rw [← hw8] at B8 J5 J6 ⊢
            clear hw8
            go_wp2
            go_loopg [13] z1 (fun g i0 wr => ∃ (j : Nat), j + g = z1 ∧ i0 = .int .i64 j ∧ Below w8.heap.size w8 wr)
            case atStart => exact ⟨0, by omega, rfl, Below.refl _ _⟩
            case round =>
              obtain ⟨j, hg, rfl, hb⟩ := hrel
              cases gk with
              | succ g =>
                have hik : j < z1 := by omega
                obtain ⟨y, hy⟩ := get_some HL1.out hik
                have e2 := HUN.out.old y (List.mem_of_getElem? hy)
                obtain ⟨b, off, rfl, hc⟩ := (J5.below hb) (by rw [HL1.out]; omega)
                have c0 := hc j (by rw [HL1.out]; exact hik)
                rw [List.getD_eq_getElem?_getD, hy] at c0
                simp only [Option.getD_some] at c0
                have d2 := has_26 a6 Z2 z2 c6 y wr (J6.below hb) HL2.out (by omega)
                rw [e2] at d2
                have HD2 := Lib.hid d2
                have HGG := Lib.hid hg
                clear hc hy hg e2 d2
                go_wp2_with fail
                refine (HD2.out).mono ?_
                rintro e w9 ⟨rfl, rfl⟩
                go_wp2
                go_roundg g
                case rel => exact ⟨j + 1, by have := HGG.out; omega, by go_num, hb⟩
                case measure => omega
              | zero =>
                obtain rfl : j = z1 := by omega
                have B9 := below_then B8 hb
                clear B8 hb hg J5 J6
                go_wp2_with (go_at_call 13; refine (awake_13 _).mono ?_; rintro e w' ⟨rfl, hz⟩)
                go_ret
                exact ⟨rfl, (by repeat (first | with_reducible exact Below.refl _ _ | with_reducible assumption | with_reducible refine below_alloc ?_ _ | with_reducible refine Below.drew ?_ | with_reducible refine below_drewN ?_ _ | with_reducible refine below_then ?_ (by with_reducible assumption)))⟩
      · have hk0 := hno hp0
        obtain rfl : k = 0 := by rw [← HK.out, hk0]; rfl
        have t1 : (pr == 0) = false := by simpa using hp0
        clear hno hdo hk0
        go_wp2_with (go_at_call 13; refine (awake_13 _).mono ?_; rintro e w' ⟨rfl, hz⟩)
        go_ret
        exact ⟨rfl, (by repeat (first | with_reducible exact Below.refl _ _ | with_reducible assumption | with_reducible refine below_alloc ?_ _ | with_reducible refine Below.drew ?_ | with_reducible refine below_drewN ?_ _ | with_reducible refine below_then ?_ (by with_reducible assumption)))⟩
end Go.Proofs.Ythhdiiboblaclaa
