/- Walks: the first error of page blocks, of the document. -/
import Derived.Test.YtkiiifmofmbniaaDoorN3
namespace Go.Mob
open Go.Can
theorem manyN_step {p : P} {f : Nat} (h : f < 256) : manyN p (256 - f) f = (decide (1 < cnt p f) || manyN p (256 - (f + 1)) (f + 1)) := by
  rw [show 256 - f = (256 - (f + 1)) + 1 by omega]; rfl
end Go.Mob
namespace Go.Proofs.YtkiiifmofmbniaaDoor
open Go.RowKit Go.Over Go.Mob Go.Can Go.Seg Go.Grow
set_option maxRecDepth 100000 in set_option maxHeartbeats 3200000 in
theorem refCheck_15 (v : Value) (p : P) (w : World) (H : Rpv w v p) (hm : lenB p) : Calls Tryd.prog 15 #[v] w fun e w' => e = .returned (.int .i64 (chk p)) ∧ Below w.heap.size w w' := by
  obtain ⟨E, hE⟩ : ∃ E, chk p = E := ⟨_, rfl⟩
  rw [hE]
  rw [chk_ref] at hE
  have HE := Lib.hid hE
  clear hE
  obtain ⟨cs, rfl, hV⟩ := H
  have X0 := PX.new hV
  have HV0 := Lib.hid hV
  clear hV
  go_enter Tryd.func15, Tryd.ntmps15
  go_upto_region 1 with fail
  obtain ⟨w1, hw1⟩ : ∃ W, W = w.alloc (.cells cs.toArray 26) := ⟨_, rfl⟩
  have X1 : PX w w.heap.size cs p w1 := by rw [hw1]; exact X0
  rw [← hw1]
  obtain ⟨g, hg0⟩ : ∃ g, w.heap.size = g := ⟨_, rfl⟩
  rw [hg0] at X1 ⊢
  clear hw1 X0 hg0
  go_wp2_with ((with_reducible refine ld ?_ X1.x X1.v.len ?_); (focus rfl))
  refine (inrange_36 _ p _ X1.rpv).mono ?_
  rintro e w2 ⟨rfl, b2⟩
  have X2 := X1.below b2
  clear X1 b2
  cases hr : rngB p with
  | false =>
    have HF := Lib.hid (show E = 2 by rw [← HE.out, if_pos hr])
    go_wp2
    go_ret
    exact ⟨ret_int HF.out.symm, X2.b⟩
  | true =>
  have HE2 := Lib.hid (show E = if leA p 0 ≠ 0 then leA p 0 else if manyN p 256 0 = true then 7 else if rsA p 0 = true then 11 else 0 by rw [← HE.out, if_neg (by rw [hr]; decide)])
  have HR := Lib.hid hr
  clear hr HE
  go_wp2_with ((with_reducible refine ld ?_ X2.x X2.v.len ?_); (focus rfl))
  refine (listError_37 _ p _ X2.rpv HR.out hm).mono ?_
  rintro e w3 ⟨rfl, b3⟩
  have X3 := X2.below b3
  clear X2 b3
  obtain ⟨c, hc⟩ : ∃ c, leA p 0 = c := ⟨_, rfl⟩
  rw [hc]
  by_cases hc0 : c = 0
  · subst hc0
    have HL := Lib.hid (lst_of HR.out hc)
    have HE3 := Lib.hid (show E = if manyN p 256 0 = true then 7 else if rsA p 0 = true then 11 else 0 by rw [HE2.out, if_neg (by rw [hc]; simp)])
    clear hc HE2
    go_wp2_with ((with_reducible refine ld ?_ X3.x X3.v.len ?_); (focus rfl))
    refine (set_38 _ p _ X3.rpv HL.out).mono ?_
    rintro e w4 ⟨gs, rfl, hS, hls, b4⟩
    have X4 := X3.below b4
    clear X3 b4 hls
    go_wp2
    go_loopg [5] 256 (fun gg v5 wr => ∃ f : Nat, f + gg = 256 ∧ v5 = .int .i64 f ∧ manyN p 256 0 = manyN p (256 - f) f ∧ w4 = wr)
    case atStart => exact ⟨0, by omega, rfl, rfl, rfl⟩
    case round =>
      obtain ⟨f, hf, rfl, hN, rfl⟩ := hrel
      cases gk with
      | zero =>
        obtain rfl : f = 256 := by omega
        have HE4 := Lib.hid (show E = if rsA p 0 = true then 11 else 0 by rw [HE3.out, hN, if_neg (show ¬ manyN p (256 - 256) 256 = true from fun h => by cases h)])
        clear hf hN HE3 hS
        go_wp2
        go_loopg [6] 3 (fun gg v6 wr => ∃ t : Nat, t + gg = 3 ∧ v6 = .int .i64 t ∧ rsA p 0 = rsA p (5 * t) ∧ PX w g cs p wr)
        case atStart => exact ⟨0, by omega, rfl, rfl, X4⟩
        case round =>
          clear X4
          obtain ⟨t, hg, rfl, hA, X5⟩ := hrel
          have HA := Lib.hid hA
          clear hA
          cases gk with
          | zero =>
            have ht3 : ¬ t < 3 := by omega
            have HF := Lib.hid (show E = 0 by rw [HE4.out, HA.out, show 5 * t = 15 by omega, rsA_end]; rfl)
            clear hg
            go_wp2
            go_ret
            exact ⟨ret_int HF.out.symm, X5.b⟩
          | succ gg =>
            have ht : t < 3 := by omega
            have tt : decide ((t : Int) < 3) = true := by simp; omega
            have HG := Lib.hid hg
            clear hg
            go_wp2
            go_loopg [7] 4 (fun g2 v7 wr => ∃ k : Nat, k + g2 = 4 ∧ v7 = .int .i64 k ∧ rsA p 0 = rsA p (5 * t + k) ∧ PX w g cs p wr)
            case atStart => exact ⟨0, by omega, rfl, HA.out, X5⟩
            case round =>
              clear X5 HA
              obtain ⟨k, hk, rfl, hA, X6⟩ := hrel
              have HA := Lib.hid hA
              clear hA
              cases gk with
              | zero =>
                obtain hk4 : k = 4 := by omega
                have tk : decide ((k : Int) < 4) = false := by simp; omega
                have HN := Lib.hid (show rsA p 0 = rsA p (5 * (t + 1)) by
                  rw [HA.out, rsA_step (by omega), show decide ((5 * t + k) % 5 < 4) = false from decide_eq_false (by omega), show 5 * t + k + 1 = 5 * (t + 1) by omega]
                  simp)
                clear hk hk4
                go_wp2
                go_roundg gg
                case rel => exact ⟨t + 1, by have := HG.out; omega, by go_num, HN.out, X6⟩
                case measure => omega
              | succ g2 =>
                have hk4 : k < 4 := by omega
                have tk : decide ((k : Int) < 4) = true := by simp; omega
                have HK := Lib.hid hk
                obtain ⟨a, n, c, hc, hn, hnc, hcm, _, hI⟩ := X6.v.list X6.x ht (show k < 5 by omega)
                obtain ⟨l, hl⟩ : ∃ l, p.fr (5 * t + k) = l := ⟨_, rfl⟩
                rw [hl] at hn hI
                have hlen := HL.out.len (i := 5 * t + k) (by omega)
                have hall := HL.out.ins (5 * t + k) (by omega)
                rw [hl] at hlen hall
                rw [show (5 * t + k) % 5 = k by omega] at hall
                have hn256 : n ≤ 256 := by omega
                have HALL := Lib.hid hall; have HN := Lib.hid hn
                have HA2 := Lib.hid (show rsA p 0 = (rs1 k (l.drop 0) || rsA p (5 * t + k + 1)) by
                  rw [HA.out, rsA_step (by omega), hl, show (5 * t + k) % 5 = k by omega, decide_eq_true hk4]
                  simp)
                clear hk hl hn hnc hcm hlen hall HA
                go_wp2
                clear hc
                go_loopg [9] n (fun g3 v9 wr => ∃ j : Nat, j + g3 = n ∧ v9 = .int .i64 ((j + 1 : Nat) : Int) ∧ rsA p 0 = (rs1 k (l.drop j) || rsA p (5 * t + k + 1)) ∧ PX w g cs p wr ∧ Ints wr a l)
                case atStart => exact ⟨0, by omega, rfl, HA2.out, X6, hI⟩
                case round =>
                  clear X6 hI HA2
                  obtain ⟨j, hj, rfl, hA, X7, hI7⟩ := hrel
                  have HA := Lib.hid hA
                  clear hA
                  obtain ⟨j1, hj1⟩ : ∃ i, j + 1 = i := ⟨_, rfl⟩
                  rw [hj1]
                  by_cases hjn : j1 < n
                  · obtain ⟨g3, rfl⟩ : ∃ g3, gk = g3 + 1 := ⟨gk - 1, by omega⟩
                    have HJ := Lib.hid hj
                    obtain ⟨x, hx⟩ := get_some HN.out (show j < n by omega)
                    obtain ⟨y, hy⟩ := get_some HN.out hjn
                    obtain ⟨z1, z2, z3⟩ := ins_lt HL.out.rng (show k < 5 by omega) (HALL.out x (List.mem_of_getElem? hx)).1
                    obtain ⟨b, off, rfl, cx⟩ := hI7.at hx
                    obtain ⟨_, _, hbo, cy⟩ := hI7.at hy
                    cases hbo
                    have hy' : l[j + 1]? = some y := by rw [hj1]; exact hy
                    have HST := Lib.hid (rs1_step (k := k) hx hy')
                    have tj : decide ((j1 : Int) < (n : Int)) = true := decide_eq_true (by omega)
                    have ej : (j1 : Int) - 1 = (j : Int) := by omega
                    obtain ⟨xn, rfl⟩ : ∃ n : Nat, x = (n : Int) := ⟨x.toNat, by omega⟩
                    obtain ⟨m, hm⟩ : ∃ m, 2 ^ k = m := ⟨_, rfl⟩
                    have hm1 : xn + m ≤ 256 := by
                      have : (xn : Int) + ((2 ^ k : Nat) : Int) ≤ 256 := z3
                      rw [hm] at this; omega
                    have hm16 : m ≤ 16 := by rw [← hm]; exact pow_le16 (by omega)
                    have hm0 : 0 < m := by rw [← hm]; exact Nat.pow_pos (by decide)
                    obtain ⟨m2, hm2⟩ : ∃ i, 2 * m = i := ⟨_, rfl⟩
                    have hwm : ∀ i : Nat, i = k → wrap64 ((2 : Int) ^ i) = (m : Int) := fun i hi => by subst hi; rw [← hm]; exact wrap_pow (by omega)
                    have hwm2 : ∀ i : Nat, i = k → wrap64 (2 * (2 : Int) ^ i) = (m2 : Int) := fun i hi => by
                      subst hi
                      rcases (show i = 0 ∨ i = 1 ∨ i = 2 ∨ i = 3 by omega) with rfl | rfl | rfl | rfl <;> (rw [← hm2, ← hm]; unfold wrap64; decide)
                    have hp1 : pw k = (m : Int) := by unfold pw; rw [hm]
                    have hp2 : pw (k + 1) = (m2 : Int) := by rw [pw_succ, hp1]; omega
                    rw [hp1, hp2] at HST
                    have HWM := Lib.hid hwm; have HWM2 := Lib.hid hwm2
                    have hm20 : 0 < m2 := by omega
                    have hm232 : m2 ≤ 32 := by omega
                    have hj256 : j ≤ 256 := by omega
                    rw [hj1] at HST
                    have HJ1 := Lib.hid hj1
                    clear hx hy hy' hm hm2 hp1 hp2 z1 z2 z3 hj hj1
                    by_cases hyx : y = (xn : Int) + (m : Int)
                    · subst hyx
                      have te : ((xn : Int) + (m : Int) == (xn : Int) + (m : Int)) = true := by simp
                      by_cases hr0 : (xn : Int) % (m2 : Int) = 0
                      · have HF := Lib.hid (show E = 11 by
                          rw [HE4.out, HA.out, HST.out, decide_eq_true hr0]
                          simp)
                        clear HST
                        go_wp2_with fail
                        refine wp_region_over (by kernel_rfl) (by kernel_rfl) ?_
                        have w0 := fun u => over_cell cx u
                        have w1' := fun u => over_cell cy u
                        repeat (go_big_quiet_step (fail))
                        refine wpQuiet_nil ?_
                        rintro _ ⟨u, rfl⟩
                        have hfin := (X7.below (below_over wr u)).b
                        go_wp2
                        go_ret
                        exact ⟨ret_int HF.out.symm, hfin⟩
                      · have HNX := Lib.hid (show rsA p 0 = (rs1 k (l.drop j1) || rsA p (5 * t + k + 1)) by
                          rw [HA.out, HST.out, decide_eq_false hr0]
                          simp)
                        have tr0 : ((xn : Int) % (m2 : Int) == 0) = false := by simpa using hr0
                        clear HST hr0
                        go_wp2_with fail
                        refine wp_region_over (by kernel_rfl) (by kernel_rfl) ?_
                        have w0 := fun u => over_cell cx u
                        have w1' := fun u => over_cell cy u
                        repeat (go_big_quiet_step (fail))
                        refine wpQuiet_nil ?_
                        rintro _ ⟨u, rfl⟩
                        have X8 := X7.below (below_over wr u)
                        have hI8 := hI7.below (below_over wr u)
                        clear w0 w1'
                        go_wp2
                        go_roundg g3
                        case rel => exact ⟨j1, by have := HJ.out; have := HJ1.out; omega, by go_num, HNX.out, X8, hI8⟩
                        case measure => omega
                    · have HNX := Lib.hid (show rsA p 0 = (rs1 k (l.drop j1) || rsA p (5 * t + k + 1)) by
                        rw [HA.out, HST.out, decide_eq_false hyx]
                        simp)
                      have te : (y == (xn : Int) + (m : Int)) = false := by simpa using hyx
                      clear HST hyx
                      go_wp2_with fail
                      refine wp_region_over (by kernel_rfl) (by kernel_rfl) ?_
                      have w0 := fun u => over_cell cx u
                      have w1' := fun u => over_cell cy u
                      repeat (go_big_quiet_step (fail))
                      refine wpQuiet_nil ?_
                      rintro _ ⟨u, rfl⟩
                      have X8 := X7.below (below_over wr u)
                      have hI8 := hI7.below (below_over wr u)
                      clear w0 w1'
                      go_wp2
                      go_roundg g3
                      case rel => exact ⟨j1, by have := HJ.out; have := HJ1.out; omega, by go_num, HNX.out, X8, hI8⟩
                      case measure => omega
                  · have HNX := Lib.hid (show rsA p 0 = rsA p (5 * t + (k + 1)) by
                      rw [HA.out, rs1_end (by rw [HN.out]; omega)]
                      rfl)
                    clear hj hj1
                    go_wp2
                    go_roundg g2
                    case rel => exact ⟨k + 1, by have := HK.out; omega, by go_num, HNX.out, X7⟩
                    case measure => omega
      | succ gg =>
        have hf256 : f < 256 := by omega
        have tf : decide ((f : Int) < 256) = true := by simp; omega
        have HG := Lib.hid hf
        have c0 := hS.cell f
        rw [nums_get (cnts_get _ hf256)] at c0
        obtain ⟨Z, hZ⟩ : ∃ Z, (covA p 0).count (f : Int) = Z := ⟨_, rfl⟩
        rw [hZ] at c0
        have hst := manyN_step (p := p) hf256
        have hcz : cnt p f = Z := hZ
        rw [hcz] at hst
        rw [hst] at hN
        have HN := Lib.hid hN
        clear hf hst hcz hZ hN
        by_cases hZ1 : 1 < Z
        · have tz : decide ((1 : Int) < (Z : Int)) = true := by simp; omega
          have HF := Lib.hid (show E = 7 by rw [HE3.out, HN.out, decide_eq_true hZ1]; rfl)
          go_wp2
          go_ret
          exact ⟨ret_int HF.out.symm, X4.b⟩
        · have tz : decide ((1 : Int) < (Z : Int)) = false := by simp; omega
          have HN2 := Lib.hid (show manyN p 256 0 = manyN p (256 - (f + 1)) (f + 1) by rw [HN.out, decide_eq_false hZ1]; rfl)
          go_wp2
          go_roundg gg
          case rel => exact ⟨f + 1, by have := HG.out; omega, by go_num, HN2.out, rfl⟩
          case measure => omega
  · have HF := Lib.hid (show E = c by rw [HE2.out, if_pos (by rw [hc]; exact hc0), hc])
    have t0 : (c != 0) = true := by simpa using hc0
    go_wp2
    go_ret
    exact ⟨ret_int HF.out.symm, X3.b⟩
end Go.Proofs.YtkiiifmofmbniaaDoor
