/- Walks: the free frames of a type; of the program. -/
import Derived.Test.YtkiiifmofmbniaaDoorM14
namespace Go.Proofs.YtkiiifmofmbniaaDoor
open Go.RowKit Go.Over Go.Mob Go.Can Go.Seg Go.Grow
theorem cnt_wrap {k n : Nat} {S : Int} (hk : k < 5) (hn : n ≤ 256) (h0 : 0 ≤ S) (h1 : S ≤ 4096 * (k : Int)) : wrap64 (S + wrap64 ((n : Int) * (2 : Int) ^ k)) = S + (n : Int) * pw k ∧ 0 ≤ S + (n : Int) * pw k ∧ S + (n : Int) * pw k ≤ 4096 * ((k + 1 : Nat) : Int) := by
  rcases (show k = 0 ∨ k = 1 ∨ k = 2 ∨ k = 3 ∨ k = 4 by omega) with rfl | rfl | rfl | rfl | rfl
  · rw [show (2 : Int) ^ 0 = 1 from rfl, show pw 0 = 1 from rfl]; unfold wrap64; omega
  · rw [show (2 : Int) ^ 1 = 2 from rfl, show pw 1 = 2 from rfl]; unfold wrap64; omega
  · rw [show (2 : Int) ^ 2 = 4 from rfl, show pw 2 = 4 from rfl]; unfold wrap64; omega
  · rw [show (2 : Int) ^ 3 = 8 from rfl, show pw 3 = 8 from rfl]; unfold wrap64; omega
  · rw [show (2 : Int) ^ 4 = 16 from rfl, show pw 4 = 16 from rfl]; unfold wrap64; omega
set_option maxRecDepth 100000 in set_option maxHeartbeats 3200000 in
theorem count_25 (v : Value) (p : P) (t : Int) (w : World) (H : Rpv w v p) : Calls Tryd.prog 25 #[v, .int .i64 t] w fun e w' => e = .returned (.int .i64 (countP p t)) ∧ Below w.heap.size w w' := by
  obtain ⟨R, hR⟩ : ∃ R, countP p t = R := ⟨_, rfl⟩
  rw [hR]
  have HR := Lib.hid hR
  clear hR
  obtain ⟨cs, rfl, hV⟩ := H
  have X0 := PX.new hV
  clear hV
  go_enter Tryd.func25, Tryd.ntmps25
  go_upto_region 1 with fail
  obtain ⟨w1, hw1⟩ : ∃ W, W = w.alloc (.cells cs.toArray 26) := ⟨_, rfl⟩
  have X1 : PX w w.heap.size cs p w1 := by rw [hw1]; exact X0
  rw [← hw1]
  obtain ⟨g, hg0⟩ : ∃ g, w.heap.size = g := ⟨_, rfl⟩
  rw [hg0] at X1 ⊢
  clear hw1 X0 hg0
  go_wp2_with ((with_reducible refine ld ?_ X1.x X1.v.len ?_); (focus rfl))
  refine (check_14 _ p w1 X1.rpv).mono ?_
  rintro e w2 ⟨rfl, b2⟩
  have X2 := X1.below b2
  clear X1 b2
  obtain ⟨c, hc⟩ : ∃ c, chk p = c := ⟨_, rfl⟩
  rw [hc]
  by_cases hc0 : c = 0
  · subst hc0
    have HV := Lib.hid (vd_of hc)
    cases hkd : kindB t with
    | false =>
      have HF := Lib.hid (show R = 0 by rw [← HR.out]; unfold countP; rw [if_neg (fun g => by rw [hkd] at g; exact absurd g.2 (by decide))])
      have hk43 := kind_43 t w2
      rw [hkd] at hk43
      have HK := Lib.hid hk43
      clear hkd hk43 hc HR
      go_wp2_with fail
      refine HK.out.mono ?_
      rintro e w' ⟨rfl, rfl⟩
      go_wp2
      go_ret
      exact ⟨ret_int HF.out.symm, X2.b⟩
    | true =>
      have HF := Lib.hid (show R = cntN p (base t) 5 0 by rw [← HR.out]; unfold countP; rw [if_pos ⟨hc, hkd⟩])
      have hk43 := kind_43 t w2
      rw [hkd] at hk43
      obtain ⟨t, rfl⟩ : ∃ n : Nat, t = (n : Int) := ⟨t.toNat, by unfold kindB at hkd; have := of_decide_eq_true hkd; omega⟩
      have ht : t < 3 := by unfold kindB at hkd; have := of_decide_eq_true hkd; omega
      have HK := Lib.hid hk43
      clear hkd hk43 hc HR
      have HFF := Lib.hid (show R = cntN p (5 * t) 5 0 by rw [HF.out]; unfold base; rw [Int.toNat_natCast])
      clear HF
      obtain ⟨s0, s1, s2, s3, s4, hcl, hrow⟩ := X2.v.row ht
      obtain ⟨q0, q1, q2, q3, q4⟩ := hcl _ _ X2.x
      have HROW := Lib.hid hrow
      clear hrow hcl
      go_wp2_with fail
      refine HK.out.mono ?_
      rintro e w' ⟨rfl, rfl⟩
      go_wp2
      clear q0 q1 q2 q3 q4
      go_loopg [20, 5] 5 (fun gg v20 v5 wr => ∃ (k : Nat) (S : Int), k + gg = 5 ∧ v20 = .int .i64 k ∧ v5 = .int .i64 S ∧ 0 ≤ S ∧ S ≤ 4096 * (k : Int) ∧ R = S + cntN p (5 * t) gg k ∧ w2 = wr)
      case atStart => exact ⟨0, 0, by omega, rfl, rfl, by omega, by omega, by rw [HFF.out]; omega, rfl⟩
      case round =>
        obtain ⟨k, S, hg, rfl, rfl, hS0, hS1, hRk, rfl⟩ := hrel
        cases gk with
        | zero =>
          have hk5 : ¬ k < 5 := by omega
          have HFIN := Lib.hid (show R = S by rw [hRk]; show S + 0 = S; omega)
          clear hg hRk
          go_wp2
          go_ret
          exact ⟨ret_int HFIN.out.symm, X2.b⟩
        | succ gg =>
          have hk5 : k < 5 := by omega
          have HG := Lib.hid hg
          have HRK := Lib.hid (show R = S + ((((p.fr (5 * t + k)).length : Nat) : Int) * pw k + cntN p (5 * t) gg (k + 1)) from hRk)
          have hlen := HV.out.l.len (i := 5 * t + k) (by omega)
          obtain ⟨a, n, c, hix, hn, hnc, hcm, _, hI⟩ := HROW.out _ X2.v k hk5
          have HNN := Lib.hid hn
          rw [hn] at hlen
          have tk : decide ((k : Int) < 5) = true := by simp; omega
          clear hg hRk hn hnc hcm hI
          obtain ⟨e1, e2, e3⟩ := cnt_wrap hk5 hlen hS0 hS1
          have E1 := Lib.hid e1; have E2 := Lib.hid e2; have E3 := Lib.hid e3
          have HRN := Lib.hid (show R = (S + (n : Int) * pw k) + cntN p (5 * t) gg (k + 1) by rw [HRK.out, HNN.out]; omega)
          clear e1 e2 e3 hS0 hS1 hlen
          go_wp2
          simp only [E1.out]
          go_roundg gg
          case rel => exact ⟨k + 1, S + (n : Int) * pw k, by have := HG.out; omega, by go_num, rfl, E2.out, E3.out, HRN.out, rfl⟩
          case measure => omega
  · have HF := Lib.hid (show R = 0 by rw [← HR.out]; unfold countP; rw [if_neg (fun g => hc0 (by rw [← hc]; exact g.1))])
    have t0 : (c != 0) = true := by simpa using hc0
    go_wp2
    go_ret
    exact ⟨ret_int HF.out.symm, X2.b⟩
end Go.Proofs.YtkiiifmofmbniaaDoor
