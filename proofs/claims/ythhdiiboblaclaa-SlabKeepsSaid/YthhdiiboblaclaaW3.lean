/- Walks: the first error of a cache, of the reference. -/
import Derived.Test.YthhdiiboblaclaaW2
namespace Go.Proofs.Ythhdiiboblaclaa
open Go.RowKit Go.Over Go.Slb Go.Seg
theorem cnt_zero (u : List Bool) : cnt u = 0 ↔ u.contains true = false := by
  unfold cnt
  rw [List.count_eq_zero]
  simp
set_option maxRecDepth 100000 in set_option maxHeartbeats 1600000 in
theorem check_17 (o : Int) (a : Option Addr) (l : List S) (n c : Nat) (w : World) (H : Slabs w a l) (hn : l.length = n) (hm : n ≤ 1000000) :
    Calls Try.prog 17 #[.agg #[.int .i64 o, .slice a n c]] w fun e w' => e = .returned (.int .i64 (check o l)) ∧ Below w.heap.size w w' := by
  have HN := Lib.hid hn; clear hn
  obtain ⟨R, hR⟩ : ∃ R, check o l = R := ⟨_, rfl⟩
  rw [hR]
  by_cases ho : o < 1 ∨ 32 < o
  · obtain rfl : R = 1 := by rw [← hR, check_bad ho]
    clear hR
    rcases ho with ho | ho
    · go_enter Try.func17, Try.ntmps17
      go_wp2
      go_ret
      exact ⟨rfl, (by repeat (first | with_reducible exact Below.refl _ _ | with_reducible assumption | with_reducible refine below_alloc ?_ _ | with_reducible refine Below.drew ?_ | with_reducible refine below_drewN ?_ _ | with_reducible refine below_then ?_ (by with_reducible assumption)))⟩
    · have ho1 : ¬ o < 1 := by omega
      go_enter Try.func17, Try.ntmps17
      go_wp2
      go_ret
      exact ⟨rfl, (by repeat (first | with_reducible exact Below.refl _ _ | with_reducible assumption | with_reducible refine below_alloc ?_ _ | with_reducible refine Below.drew ?_ | with_reducible refine below_drewN ?_ _ | with_reducible refine below_then ?_ (by with_reducible assumption)))⟩
  · rw [check_good ho] at hR
    have HR := Lib.hid hR; clear hR
    have ho1 : ¬ o < 1 := by omega
    have ho2 : ¬ 32 < o := by omega
    clear ho
    obtain ⟨w1, hw1⟩ : ∃ w1, w1 = w.alloc (.cells #[.int .i64 o, .slice a n c] 24) := ⟨_, rfl⟩
    obtain ⟨k0, k1⟩ := box_cells w (.int .i64 o) (.slice a n c) 24
    have B1 := below_box w (.cells #[.int .i64 o, .slice a n c] 24)
    rw [← hw1] at k0 k1 B1
    have H1 := H.below B1
    have hz1 : w.heap.size < w1.heap.size := by rw [hw1]; simp
    have HW := Lib.hid hw1; clear hw1
    have K0 := Lib.hid k0; have K1 := Lib.hid k1
    go_enter Try.func17, Try.ntmps17
    go_wp2
    rw [← HW.out]
    clear HW
    go_loopg [3] n (fun g i0 wr => ∃ (i : Nat), i + g = n ∧ i0 = .int .i64 i ∧ chkL o (prev l i) (l.drop i) = R ∧ Below w1.heap.size w1 wr)
    case atStart => exact ⟨0, by omega, rfl, HR.out, Below.refl _ _⟩
    case round =>
      obtain ⟨i, hg, rfl, hF, hb⟩ := hrel
      clear k0 k1
      have c0 := cell_later hb K0.out
      have c1 := cell_later hb K1.out
      cases gk with
      | zero =>
        obtain rfl : i = n := by omega
        have HF := Lib.hid hF; clear hF hg
        go_wp2
        go_ret
        exact ⟨by rw [← HF.out, List.drop_eq_nil_of_le (by rw [HN.out]; exact Nat.le_refl _)]; rfl, below_then B1 hb⟩
      | succ g =>
        have hin : i < n := by omega
        obtain ⟨⟨f, u⟩, hs⟩ := get_some HN.out hin
        rw [chk_step hs] at hF
        have HF := Lib.hid hF; clear hF
        obtain ⟨b, off, rfl, hc⟩ := (H1.below hb) (by rw [HN.out]; omega)
        obtain ⟨s0, a', c', s1, hc1, hc2, hc3, hf⟩ := hc i _ hs
        obtain ⟨m, hm'⟩ : ∃ m, u.length = m := ⟨_, rfl⟩
        simp only [hm'] at s0 s1 hc1
        have hzw : w.heap.size < wr.heap.size := by have := hb.size; omega
        have hbz : b < wr.heap.size := World.block_lt_of_cell? wr _ s0
        have hprev : i = 0 ∨ (0 < i ∧ ∃ q, prev l i = q ∧ wr.cell? ⟨b, off + (i - 1) * 2, none⟩ = some (.int .i64 q)) := by
          cases i with
          | zero => exact .inl rfl
          | succ j =>
            obtain ⟨t, ht⟩ := get_some HN.out (show j < n by omega)
            exact .inr ⟨by omega, _, prev_get ht, (hc j t ht).1⟩
        have HM := Lib.hid hm'; have HG := Lib.hid hg
        clear hm' hg hs hc
        have hbr := below_then B1 hb
        by_cases hr : f < 0 ∨ 256 ≤ f
        · have HE := Lib.hid (show R = 2 by rw [← HF.out, if_pos hr])
          rcases hr with hr | hr
          · go_wp2
            go_ret
            exact ⟨ret_int HE.out.symm, (by repeat (first | with_reducible exact Below.refl _ _ | with_reducible assumption | with_reducible refine below_alloc ?_ _ | with_reducible refine Below.drew ?_ | with_reducible refine below_drewN ?_ _ | with_reducible refine below_then ?_ (by with_reducible assumption)))⟩
          · have hr1 : ¬ f < 0 := by omega
            go_wp2
            go_ret
            exact ⟨ret_int HE.out.symm, (by repeat (first | with_reducible exact Below.refl _ _ | with_reducible assumption | with_reducible refine below_alloc ?_ _ | with_reducible refine Below.drew ?_ | with_reducible refine below_drewN ?_ _ | with_reducible refine below_then ?_ (by with_reducible assumption)))⟩
        · have r1 : ¬ f < 0 := by omega
          have r2 : ¬ 256 ≤ f := by omega
          have HF2 := Lib.hid ((if_neg hr).symm.trans HF.out)
          clear hr HF
          have hQ : (prev l i = -1 ∧ i = 0) ∨ (0 < i ∧ ∃ q, prev l i = q ∧ wr.cell? ⟨b, off + (i - 1) * 2, none⟩ = some (.int .i64 q)) := by
            rcases hprev with rfl | h
            · exact .inl ⟨rfl, rfl⟩
            · exact .inr h
          clear hprev
          rcases hQ with ⟨hp, rfl⟩ | ⟨hi0, q, hq, cq⟩
          · have HF3 := Lib.hid (show (if ¬ ((m : Int) = o) then 3 else if u.contains true = false then 6 else chkL o (prev l 1) (l.drop 1)) = R by
              rw [← HF2.out, if_neg (show ¬ f ≤ prev l 0 by rw [hp]; omega), ← HM.out])
            clear hp
            simp only [Nat.zero_mul, Nat.add_zero] at s0 s1
            go_wp2
            go_quiet (fail)
            have hfw := hf.below (w' := wr.alloc (Obj.cells #[.int .i64 f, .slice a' m c'] 52)) (below_box _ _)
            by_cases hmo : (m : Int) = o
            · have HF4 := Lib.hid (show (if u.contains true = false then 6 else chkL o (prev l (0 + 1)) (l.drop (0 + 1))) = R by rw [← HF3.out, if_neg (show ¬ ¬ (m : Int) = o from fun h => h hmo)])
              have t1 : ((m : Int) != o) = false := by simp [hmo]
              clear hmo
              have HC0 := Lib.hid (cnt_zero u)
              obtain ⟨k, hk⟩ : ∃ k, cnt u = k := ⟨_, rfl⟩
              have HK := Lib.hid hk; clear hk
              go_wp2_with fail
              refine (used_34 f a' u m c' _ (hfw.below (below_drewN (Below.refl _ _) _)) HM.out (by omega)).mono ?_
              rintro e w' ⟨rfl, hbu⟩
              rw [HK.out]
              have hbu2 : Below wr.heap.size wr w' := below_then (below_drewN (below_alloc (Below.refl _ _) _) _) hbu
              clear hbu
              by_cases hk0 : k = 0
              · have HE := Lib.hid (show R = 6 by rw [← HF4.out, if_pos (HC0.out.1 (by rw [HK.out, hk0]))])
                subst hk0
                go_wp2
                go_ret
                exact ⟨ret_int HE.out.symm, (by repeat (first | with_reducible exact Below.refl _ _ | with_reducible assumption | with_reducible refine below_alloc ?_ _ | with_reducible refine Below.drew ?_ | with_reducible refine below_drewN ?_ _ | with_reducible refine below_then ?_ (by with_reducible assumption)))⟩
              · have HE := Lib.hid (show chkL o (prev l (0 + 1)) (l.drop (0 + 1)) = R by rw [← HF4.out, if_neg (fun h => hk0 (by rw [← HK.out]; exact HC0.out.2 h))])
                have t2 : ((k : Int) == 0) = false := by simp; omega
                clear t1 hk0
                go_wp2
                go_roundg g
                case rel => exact ⟨0 + 1, by have := HG.out; omega, by go_num, HE.out, below_then hb hbu2⟩
                case measure => omega
            · have HE := Lib.hid (show R = 3 by rw [← HF3.out, if_pos hmo])
              have t1 : ((m : Int) != o) = true := by simpa using hmo
              clear hmo
              go_wp2
              go_ret
              exact ⟨ret_int HE.out.symm, (by repeat (first | with_reducible exact Below.refl _ _ | with_reducible assumption | with_reducible refine below_alloc ?_ _ | with_reducible refine Below.drew ?_ | with_reducible refine below_drewN ?_ _ | with_reducible refine below_then ?_ (by with_reducible assumption)))⟩
          · by_cases hfq : f ≤ q
            · have HE := Lib.hid (show R = 10 by rw [← HF2.out, if_pos (by rw [hq]; exact hfq)])
              clear hq
              have e1 : IntKind.i64.wrap ((i : Int) - 1) = ((i - 1 : Nat) : Int) := by rw [IntWalk.i64_in _ (by omega)]; omega
              have e2 : (i : Int) - 1 = ((i - 1 : Nat) : Int) := by omega
              have hi9 : (0 : Int) < (i : Int) := by omega
              go_wp2
              go_quiet (fail)
              go_wp2
              go_ret
              exact ⟨ret_int HE.out.symm, (by repeat (first | with_reducible exact Below.refl _ _ | with_reducible assumption | with_reducible refine below_alloc ?_ _ | with_reducible refine Below.drew ?_ | with_reducible refine below_drewN ?_ _ | with_reducible refine below_then ?_ (by with_reducible assumption)))⟩
            · have HF3 := Lib.hid (show (if ¬ ((m : Int) = o) then 3 else if u.contains true = false then 6 else chkL o (prev l (i + 1)) (l.drop (i + 1))) = R by
                rw [← HF2.out, if_neg (show ¬ f ≤ prev l i by rw [hq]; exact hfq), ← HM.out])
              clear hq
              have e1 : IntKind.i64.wrap ((i : Int) - 1) = ((i - 1 : Nat) : Int) := by rw [IntWalk.i64_in _ (by omega)]; omega
              have e2 : (i : Int) - 1 = ((i - 1 : Nat) : Int) := by omega
              have hi9 : (0 : Int) < (i : Int) := by omega
              go_wp2
              go_quiet (fail)
              clear e1 e2
              have hfw := hf.below (w' := wr.alloc (Obj.cells #[.int .i64 f, .slice a' m c'] 52)) (below_box _ _)
              by_cases hmo : (m : Int) = o
              · have HF4 := Lib.hid (show (if u.contains true = false then 6 else chkL o (prev l (i + 1)) (l.drop (i + 1))) = R by rw [← HF3.out, if_neg (show ¬ ¬ (m : Int) = o from fun h => h hmo)])
                have t1 : ((m : Int) != o) = false := by simp [hmo]
                clear hmo
                have HC0 := Lib.hid (cnt_zero u)
                obtain ⟨k, hk⟩ : ∃ k, cnt u = k := ⟨_, rfl⟩
                have HK := Lib.hid hk; clear hk
                go_wp2_with fail
                refine (used_34 f a' u m c' _ (hfw.below (below_drewN (Below.refl _ _) _)) HM.out (by omega)).mono ?_
                rintro e w' ⟨rfl, hbu⟩
                rw [HK.out]
                have hbu2 : Below wr.heap.size wr w' := below_then (below_drewN (below_alloc (Below.refl _ _) _) _) hbu
                clear hbu
                by_cases hk0 : k = 0
                · have HE := Lib.hid (show R = 6 by rw [← HF4.out, if_pos (HC0.out.1 (by rw [HK.out, hk0]))])
                  subst hk0
                  go_wp2
                  go_ret
                  exact ⟨ret_int HE.out.symm, (by repeat (first | with_reducible exact Below.refl _ _ | with_reducible assumption | with_reducible refine below_alloc ?_ _ | with_reducible refine Below.drew ?_ | with_reducible refine below_drewN ?_ _ | with_reducible refine below_then ?_ (by with_reducible assumption)))⟩
                · have HE := Lib.hid (show chkL o (prev l (i + 1)) (l.drop (i + 1)) = R by rw [← HF4.out, if_neg (fun h => hk0 (by rw [← HK.out]; exact HC0.out.2 h))])
                  have t2 : ((k : Int) == 0) = false := by simp; omega
                  clear t1 hk0
                  go_wp2
                  go_roundg g
                  case rel => exact ⟨i + 1, by have := HG.out; omega, by go_num, HE.out, below_then hb hbu2⟩
                  case measure => omega
              · have HE := Lib.hid (show R = 3 by rw [← HF3.out, if_pos hmo])
                have t1 : ((m : Int) != o) = true := by simpa using hmo
                clear hmo
                go_wp2
                go_ret
                exact ⟨ret_int HE.out.symm, (by repeat (first | with_reducible exact Below.refl _ _ | with_reducible assumption | with_reducible refine below_alloc ?_ _ | with_reducible refine Below.drew ?_ | with_reducible refine below_drewN ?_ _ | with_reducible refine below_then ?_ (by with_reducible assumption)))⟩
end Go.Proofs.Ythhdiiboblaclaa
