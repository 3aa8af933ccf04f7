/- Walks: equal bytes; few; the number of choices. -/
import Derived.Test.YtlhbjmoncdljoaaD4
namespace Go.Dev
def fewD (d : D) : Bool := if 40 < d.bl.length ∨ 40 < d.ca.length ∨ 40 < d.qu.length then false else d.bl.all (fun b => decide (b.length ≤ 100)) && (d.ca.all (fun c => decide (c.2.length ≤ 100)) && d.qu.all (fun q => decide (q.2.2.2.length ≤ 100)))
def wrN (l : List Rq) : Nat := l.countP fun q => decide (q.2.1 = 2)
def chN (d : D) : Int := if chk d = 0 then ((d.ca.length + wrN d.qu : Nat) : Int) else 0
theorem all_step {α : Type} {p : α → Bool} {l : List α} {i : Nat} {s : α} (h : l[i]? = some s) : (l.drop i).all p = (p s && (l.drop (i + 1)).all p) := by rw [drop_get h]; rfl
theorem wrN_step {l : List Rq} {i : Nat} {q : Rq} (h : l[i]? = some q) : wrN (l.drop i) = wrN (l.drop (i + 1)) + if q.2.1 = 2 then 1 else 0 := by
  rw [drop_get h]
  unfold wrN
  rw [List.countP_cons]
  simp
theorem wrN_le (l : List Rq) : wrN l ≤ l.length := List.countP_le_length
theorem few_no {d : D} (h : 40 < d.bl.length ∨ 40 < d.ca.length ∨ 40 < d.qu.length) : fewD d = false := by unfold fewD; rw [if_pos h]
theorem few_yes {d : D} (h : ¬ (40 < d.bl.length ∨ 40 < d.ca.length ∨ 40 < d.qu.length)) : fewD d = (d.bl.all (fun b => decide (b.length ≤ 100)) && (d.ca.all (fun c => decide (c.2.length ≤ 100)) && d.qu.all (fun q => decide (q.2.2.2.length ≤ 100)))) := by unfold fewD; rw [if_neg h]
end Go.Dev
namespace Go.Proofs.Ytlhbjmoncdljoaa
open Go.RowKit Go.Over Go.Dev Go.Seg Go.Grow
set_option maxRecDepth 100000 in set_option maxHeartbeats 3200000 in
theorem same_15 (a a' : Option Addr) (l l' : List Int) (n n' c c' : Nat) (w : World) (H : Bt w a l) (H' : Bt w a' l') (hn : l.length = n) (hn' : l'.length = n') (hm : n ≤ 1000000) (hm' : n' ≤ 1000000) :
    Calls Try.prog 15 #[.slice a n c, .slice a' n' c'] w fun e w' => e = .returned (.bool (decide (l = l'))) ∧ Below w.heap.size w w' := by
  obtain ⟨R, hR⟩ : ∃ R, decide (l = l') = R := ⟨_, rfl⟩
  rw [hR]
  have HR := Lib.hid hR; have HN := Lib.hid hn; have HN' := Lib.hid hn'
  clear hR hn hn'
  by_cases hnn : n = n'
  · subst hnn
    go_enter Try.func15, Try.ntmps15
    go_wp2
    go_loopg [5] n (fun g i0 wr => ∃ (i : Nat), i + g = n ∧ i0 = .int .i64 i ∧ (∀ j, j < i → l.getD j 0 = l'.getD j 0) ∧ Below w.heap.size w wr)
    case atStart => exact ⟨0, by omega, rfl, fun j hj => absurd hj (by omega), Below.refl _ _⟩
    case round =>
      obtain ⟨i, hg, rfl, hE, hb⟩ := hrel
      cases gk with
      | zero =>
        obtain rfl : i = n := by omega
        have H0 := Lib.hid (show R = true by
          rw [← HR.out, decide_eq_true_eq]
          refine List.ext_getElem (by rw [HN.out, HN'.out]) fun j h1 h2 => ?_
          have := hE j (by rw [HN.out] at h1; exact h1)
          rw [List.getD_eq_getElem?_getD, List.getD_eq_getElem?_getD, List.getElem?_eq_getElem h1, List.getElem?_eq_getElem h2] at this
          exact this)
        clear hg hE
        go_wp2
        go_ret
        exact ⟨by rw [H0.out]; rfl, hb⟩
      | succ g =>
        have hin : i < n := by omega
        obtain ⟨b, off, rfl, hc⟩ := (H.below hb) (by rw [HN.out]; omega)
        obtain ⟨b', off', rfl, hc'⟩ := (H'.below hb) (by rw [HN'.out]; omega)
        have c0 := hc i (by rw [HN.out]; exact hin)
        have d0 := hc' i (by rw [HN'.out]; exact hin)
        obtain ⟨x, hx⟩ : ∃ x, l.getD i 0 = x := ⟨_, rfl⟩
        obtain ⟨y, hy⟩ : ∃ y, l'.getD i 0 = y := ⟨_, rfl⟩
        rw [hx] at c0
        rw [hy] at d0
        have HX := Lib.hid hx; have HY := Lib.hid hy; have HG := Lib.hid hg; have HE := Lib.hid hE
        clear hc hc' hx hy hg hE
        by_cases hxy : x = y
        · subst hxy
          have t1 : (x != x) = false := by simp
          go_wp2
          refine wp_region_over (by kernel_rfl) (by kernel_rfl) ?_
          have q0 := fun u => over_cell c0 u
          have q1 := fun u => over_cell d0 u
          repeat (go_big_quiet_step (fail))
          refine wpQuiet_nil ?_
          rintro _ ⟨u, rfl⟩
          have hb2 := below_then hb (below_over wr u)
          clear q0 q1
          go_wp2
          go_roundg g
          case rel =>
            refine ⟨i + 1, by have := HG.out; omega, by go_num, fun j hj => ?_, hb2⟩
            rcases Nat.lt_or_ge j i with h | h
            · exact HE.out j h
            · obtain rfl : j = i := by omega
              rw [HX.out, HY.out]
          case measure => omega
        · have t1 : (x != y) = true := by simpa using hxy
          have H0 := Lib.hid (show R = false by
            rw [← HR.out, decide_eq_false_iff_not]
            rintro rfl
            exact hxy (HX.out.symm.trans HY.out))
          go_wp2
          refine wp_region_over (by kernel_rfl) (by kernel_rfl) ?_
          have q0 := fun u => over_cell c0 u
          have q1 := fun u => over_cell d0 u
          repeat (go_big_quiet_step (fail))
          refine wpQuiet_nil ?_
          rintro _ ⟨u, rfl⟩
          have hb2 := below_then hb (below_over wr u)
          clear q0 q1
          go_wp2
          go_ret
          exact ⟨by rw [H0.out]; rfl, hb2⟩
  · have t0 : ((n : Int) != (n' : Int)) = true := by simp; omega
    have H0 := Lib.hid (show R = false by
      rw [← HR.out, decide_eq_false_iff_not]
      rintro rfl
      exact hnn (HN.out.symm.trans HN'.out))
    go_enter Try.func15, Try.ntmps15
    go_wp2
    go_ret
    exact ⟨by rw [H0.out]; rfl, Below.refl _ _⟩

set_option maxRecDepth 100000 in set_option maxHeartbeats 3200000 in
theorem few_12 (dp nx : Int) (aB aC aQ : Option Addr) (bl : List (List Int)) (ca : List Ca) (qu : List Rq) (nB cB nC cC nQ cQ : Nat) (w : World) (HB : Bls w aB bl) (HC : Cas w aC ca) (HQ : Rqs w aQ qu) (hB : bl.length = nB) (hC : ca.length = nC) (hQ : qu.length = nQ) :
    Calls Try.prog 12 #[.agg #[.int .i64 dp, .int .i64 nx, .slice aB nB cB, .slice aC nC cC, .slice aQ nQ cQ]] w fun e w' => e = .returned (.bool (fewD ⟨dp, nx, bl, ca, qu⟩)) ∧ Below w.heap.size w w' := by
  have B1 := below_box w (.cells #[.int .i64 dp, .int .i64 nx, .slice aB nB cB, .slice aC nC cC, .slice aQ nQ cQ] 26)
  have z0 : (w.alloc (.cells #[.int .i64 dp, .int .i64 nx, .slice aB nB cB, .slice aC nC cC, .slice aQ nQ cQ] 26)).cell? ⟨w.heap.size, 0, none⟩ = some (.int .i64 dp) := zcell w _ _ 0
  have z1 : (w.alloc (.cells #[.int .i64 dp, .int .i64 nx, .slice aB nB cB, .slice aC nC cC, .slice aQ nQ cQ] 26)).cell? ⟨w.heap.size, 1, none⟩ = some (.int .i64 nx) := zcell w _ _ 1
  have z2 : (w.alloc (.cells #[.int .i64 dp, .int .i64 nx, .slice aB nB cB, .slice aC nC cC, .slice aQ nQ cQ] 26)).cell? ⟨w.heap.size, 2, none⟩ = some (.slice aB nB cB) := zcell w _ _ 2
  have z3 : (w.alloc (.cells #[.int .i64 dp, .int .i64 nx, .slice aB nB cB, .slice aC nC cC, .slice aQ nQ cQ] 26)).cell? ⟨w.heap.size, 3, none⟩ = some (.slice aC nC cC) := zcell w _ _ 3
  have z4 : (w.alloc (.cells #[.int .i64 dp, .int .i64 nx, .slice aB nB cB, .slice aC nC cC, .slice aQ nQ cQ] 26)).cell? ⟨w.heap.size, 4, none⟩ = some (.slice aQ nQ cQ) := zcell w _ _ 4
  obtain ⟨w1, hw1⟩ : ∃ W, W = w.alloc (.cells #[.int .i64 dp, .int .i64 nx, .slice aB nB cB, .slice aC nC cC, .slice aQ nQ cQ] 26) := ⟨_, rfl⟩
  have hsz1 : w.heap.size < w1.heap.size := by rw [hw1]; simp
  rw [← hw1] at B1 z0 z1 z2 z3 z4
  have Z0 := Lib.hid z0
  have Z1 := Lib.hid z1
  have Z2 := Lib.hid z2
  have Z3 := Lib.hid z3
  have Z4 := Lib.hid z4
  have GB := HB.below B1
  have GC := HC.below B1
  have GQ := HQ.below B1
  have NB := Lib.hid hB; have NC := Lib.hid hC; have NQ := Lib.hid hQ; have HW := Lib.hid hw1
  clear hw1
  by_cases h40 : 40 < nB ∨ 40 < nC ∨ 40 < nQ
  · rw [few_no (by rw [← hB, ← hC, ← hQ] at h40; exact h40)]
    clear hB hC hQ
    have hcase : 40 < nB ∨ (nB ≤ 40 ∧ 40 < nC) ∨ (nB ≤ 40 ∧ nC ≤ 40 ∧ 40 < nQ) := by omega
    rcases hcase with h | ⟨h1, h2⟩ | ⟨h1, h2, h3⟩
    all_goals
      go_enter Try.func12, Try.ntmps12
      go_wp2
      rw [← HW.out]
      go_wp2
      go_ret
      exact ⟨rfl, B1⟩
  · rw [few_yes (by rw [← hB, ← hC, ← hQ] at h40; exact h40)]
    have q1 : nB ≤ 40 := by omega
    have q2 : nC ≤ 40 := by omega
    have q3 : nQ ≤ 40 := by omega
    clear hB hC hQ h40
    simp only
    obtain ⟨RB, hRB⟩ : ∃ R, bl.all (fun b => decide (b.length ≤ 100)) = R := ⟨_, rfl⟩
    obtain ⟨RC, hRC⟩ : ∃ R, ca.all (fun c => decide (c.2.length ≤ 100)) = R := ⟨_, rfl⟩
    obtain ⟨RQ, hRQ⟩ : ∃ R, qu.all (fun q => decide (q.2.2.2.length ≤ 100)) = R := ⟨_, rfl⟩
    rw [hRB, hRC, hRQ]
    obtain ⟨R, hR⟩ : ∃ R, (RB && (RC && RQ)) = R := ⟨_, rfl⟩
    rw [hR]
    have HRB := Lib.hid hRB; have HRC := Lib.hid hRC; have HRQ := Lib.hid hRQ; have HR := Lib.hid hR
    clear hRB hRC hRQ hR
    go_enter Try.func12, Try.ntmps12
    go_wp2
    rw [← HW.out]
    clear HW
    go_wp2
    go_loopg [3] nB (fun g i0 wr => ∃ (i : Nat), i + g = nB ∧ i0 = .int .i64 i ∧ (bl.drop i).all (fun b => decide (b.length ≤ 100)) = RB ∧ w1 = wr)
    case atStart => exact ⟨0, by omega, rfl, HRB.out, rfl⟩
    case round =>
      obtain ⟨i, hg, rfl, hE, rfl⟩ := hrel
      cases gk with
      | succ g =>
        have hin : i < nB := by omega
        obtain ⟨s, hs⟩ := get_some NB.out hin
        obtain ⟨b, off, rfl, hc⟩ := GB (by rw [NB.out]; omega)
        have hcs := (hc i s hs)
        obtain ⟨a', c', s1, _⟩ := hcs
        rw [all_step hs] at hE
        try simp only at hE
        obtain ⟨m, hm⟩ : ∃ m, (s).length = m := ⟨_, rfl⟩
        rw [hm] at s1 hE
        have HG := Lib.hid hg; have HE := Lib.hid hE
        clear hc hs hm hg hE
        by_cases h100 : m ≤ 100
        · have t1 : ¬ (100 < (m : Int)) := by omega
          go_wp2
          go_roundg g
          case rel => exact ⟨i + 1, by have := HG.out; omega, by go_num, by have h := HE.out; rw [decide_eq_true h100, Bool.true_and] at h; exact ⟨h, rfl⟩⟩
          case measure => omega
        · have t1 : 100 < (m : Int) := by omega
          have H0 := Lib.hid (show RB = false by rw [← HE.out, decide_eq_false h100, Bool.false_and])
          go_wp2
          go_ret
          exact ⟨by rw [← HR.out, H0.out]; simp, B1⟩
      | zero =>
        obtain rfl : i = nB := by omega
        have H0 := Lib.hid (show RB = true by rw [← hE, List.drop_eq_nil_of_le (by rw [NB.out]; exact Nat.le_refl _)]; rfl)
        clear hg hE
        go_wp2
        have HB0 := H0
        clear H0
        go_loopg [4] nC (fun g i0 wr => ∃ (i : Nat), i + g = nC ∧ i0 = .int .i64 i ∧ (ca.drop i).all (fun b => decide (b.2.length ≤ 100)) = RC ∧ w1 = wr)
        case atStart => exact ⟨0, by omega, rfl, HRC.out, rfl⟩
        case round =>
          obtain ⟨i, hg, rfl, hE, rfl⟩ := hrel
          cases gk with
          | succ g =>
            have hin : i < nC := by omega
            obtain ⟨s, hs⟩ := get_some NC.out hin
            obtain ⟨b, off, rfl, hc⟩ := GC (by rw [NC.out]; omega)
            have hcs := (hc i s hs).2
            obtain ⟨a', c', s1, _⟩ := hcs
            rw [all_step hs] at hE
            try simp only at hE
            obtain ⟨m, hm⟩ : ∃ m, (s.2).length = m := ⟨_, rfl⟩
            rw [hm] at s1 hE
            have HG := Lib.hid hg; have HE := Lib.hid hE
            clear hc hs hm hg hE
            by_cases h100 : m ≤ 100
            · have t1 : ¬ (100 < (m : Int)) := by omega
              go_wp2
              go_roundg g
              case rel => exact ⟨i + 1, by have := HG.out; omega, by go_num, by have h := HE.out; rw [decide_eq_true h100, Bool.true_and] at h; exact ⟨h, rfl⟩⟩
              case measure => omega
            · have t1 : 100 < (m : Int) := by omega
              have H0 := Lib.hid (show RC = false by rw [← HE.out, decide_eq_false h100, Bool.false_and])
              go_wp2
              go_ret
              exact ⟨by rw [← HR.out, H0.out]; simp, B1⟩
          | zero =>
            obtain rfl : i = nC := by omega
            have H0 := Lib.hid (show RC = true by rw [← hE, List.drop_eq_nil_of_le (by rw [NC.out]; exact Nat.le_refl _)]; rfl)
            clear hg hE
            go_wp2
            have HC0 := H0
            clear H0
            go_loopg [5] nQ (fun g i0 wr => ∃ (i : Nat), i + g = nQ ∧ i0 = .int .i64 i ∧ (qu.drop i).all (fun b => decide (b.2.2.2.length ≤ 100)) = RQ ∧ w1 = wr)
            case atStart => exact ⟨0, by omega, rfl, HRQ.out, rfl⟩
            case round =>
              obtain ⟨i, hg, rfl, hE, rfl⟩ := hrel
              cases gk with
              | succ g =>
                have hin : i < nQ := by omega
                obtain ⟨s, hs⟩ := get_some NQ.out hin
                obtain ⟨b, off, rfl, hc⟩ := GQ (by rw [NQ.out]; omega)
                have hcs := (hc i s hs).2.2.2
                obtain ⟨a', c', s1, _⟩ := hcs
                rw [all_step hs] at hE
                try simp only at hE
                obtain ⟨m, hm⟩ : ∃ m, (s.2.2.2).length = m := ⟨_, rfl⟩
                rw [hm] at s1 hE
                have HG := Lib.hid hg; have HE := Lib.hid hE
                clear hc hs hm hg hE
                by_cases h100 : m ≤ 100
                · have t1 : ¬ (100 < (m : Int)) := by omega
                  go_wp2
                  go_roundg g
                  case rel => exact ⟨i + 1, by have := HG.out; omega, by go_num, by have h := HE.out; rw [decide_eq_true h100, Bool.true_and] at h; exact ⟨h, rfl⟩⟩
                  case measure => omega
                · have t1 : 100 < (m : Int) := by omega
                  have H0 := Lib.hid (show RQ = false by rw [← HE.out, decide_eq_false h100, Bool.false_and])
                  go_wp2
                  go_ret
                  exact ⟨by rw [← HR.out, H0.out]; simp, B1⟩
              | zero =>
                obtain rfl : i = nQ := by omega
                have H0 := Lib.hid (show RQ = true by rw [← hE, List.drop_eq_nil_of_le (by rw [NQ.out]; exact Nat.le_refl _)]; rfl)
                clear hg hE
                go_wp2
                go_ret
                exact ⟨by rw [← HR.out, HB0.out, HC0.out, H0.out]; rfl, B1⟩
end Go.Proofs.Ytlhbjmoncdljoaa
