/- Walks: the law on checks. -/
import Derived.Test.YtkiiifmofmbniaaDoorN4
namespace Go.Mob
open Go.Can
theorem fewA_all {p : P} : ∀ (n i : Nat), i + n = 15 → fewA p i = true → ∀ j, i ≤ j → j < 15 → (p.fr j).length ≤ 300
  | 0, i, h, _, j, h1, h2 => by omega
  | n + 1, i, h, h0, j, h1, h2 => by
    rw [fewA_step (by omega), Bool.and_eq_true, decide_eq_true_eq] at h0
    by_cases e : j = i
    · subst e; exact h0.1
    · exact fewA_all n (i + 1) (by omega) h0.2 j (by omega) h2
theorem few_all {p : P} (h : fewB p = true) : (∀ i, i < 15 → (p.fr i).length ≤ 300) ∧ p.ty.length ≤ 40 := by
  unfold fewB at h
  rw [Bool.and_eq_true, decide_eq_true_eq] at h
  exact ⟨fun i hi => fewA_all 15 0 rfl h.1 i (Nat.zero_le _) hi, h.2⟩
end Go.Mob
namespace Go.Proofs.YtkiiifmofmbniaaDoor
open Go.RowKit Go.Over Go.Mob Go.Can Go.Seg Go.Grow
theorem few_len {p : P} (h : fewB p = true) : lenB p := by
  obtain ⟨h1, h2⟩ := few_all h
  exact ⟨by omega, fun i hi => by have := h1 i hi; omega⟩
set_option maxRecDepth 100000 in set_option maxHeartbeats 3200000 in
theorem checks_3 (v : Value) (p : P) (w : World) (H : Rpv w v p) (hFB : FB w) : Calls Tryd.prog 3 #[v] w fun e w' => e = .returned (.bool true) ∧ Below w.heap.size w w' := by
  obtain ⟨cs, rfl, hV⟩ := H
  have X0 := PX.new hV
  have HV0 := Lib.hid hV
  clear hV
  go_enter Tryd.func3, Tryd.ntmps3
  go_upto_region 1 with fail
  obtain ⟨w1, hw1⟩ : ∃ W, W = w.alloc (.cells cs.toArray 26) := ⟨_, rfl⟩
  have X1 : PX w w.heap.size cs p w1 := by rw [hw1]; exact X0
  rw [← hw1]
  obtain ⟨g, hg0⟩ : ∃ g, w.heap.size = g := ⟨_, rfl⟩
  rw [hg0] at X1 ⊢
  clear hw1 X0 hg0
  go_wp2_with fail
  refine (awake_12 _ (hFB.below X1.b)).mono ?_
  rintro e w2 ⟨rfl, b2⟩
  have X2 := X1.below b2
  clear X1 b2
  go_wp2_with ((with_reducible refine ldg ?_ ?_ X2.x X2.v.len ?_); (focus rfl); (focus rfl))
  refine (few_13 _ p _ X2.rpv).mono ?_
  rintro e w3 ⟨rfl, b3⟩
  have X3 := X2.below b3
  clear X2 b3
  cases hfew : fewB p with
  | false =>
    go_wp2_with fail
    refine (awake_12 _ (hFB.below X3.b)).mono ?_
    rintro e w4 ⟨rfl, b4⟩
    go_wp2
    go_ret
    exact ⟨rfl, (X3.below b4).b⟩
  | true =>
  have HLB := Lib.hid (few_len hfew)
  have HFEW := Lib.hid (few_all hfew)
  clear hfew
  have K1 := fun u => calls_over (check_14 _ p _ (X3.below (below_over w3 u)).rpv)
  have K2 := fun u => calls_over (refCheck_15 _ p _ (X3.below (below_over w3 u)).rpv HLB.out)
  obtain ⟨c, hc⟩ : ∃ c, chk p = c := ⟨_, rfl⟩
  rw [hc] at K1 K2
  have C1 := Lib.hid K1; have C2 := Lib.hid K2
  have tc : (c == c) = true := by simp
  clear K1 K2 hc
  go_wp2_with fail
  refine wp_region_over (by kernel_rfl) (by kernel_rfl) ?_
  go_big_quiet_want
  rename_i K hK
  refine quiet_run (v := .agg cs.toArray) (fun w' hw' => ?_) ?_
  · obtain ⟨u, rfl⟩ := hw'
    exact run_load_row rfl g rfl 26 cs.toArray (0, 0) _ (X3.x.later (below_over w3 u)) Tryd.underlying26 rfl (by rw [info26]; simp [X3.v.len])
  refine hK _ ?_
  clear hK K
  simp only [Act.put, List.setIfInBounds_toArray, List.set_cons_succ, List.set_cons_zero]
  go_big_quiet_step ((go_at_call 14; exact C1.out _))
  go_big_quiet_want
  rename_i K hK
  refine quiet_run (v := .agg cs.toArray) (fun w' hw' => ?_) ?_
  · obtain ⟨u, rfl⟩ := hw'
    exact run_load_row rfl g rfl 26 cs.toArray (0, 0) _ (X3.x.later (below_over w3 u)) Tryd.underlying26 rfl (by rw [info26]; simp [X3.v.len])
  refine hK _ ?_
  clear hK K
  simp only [Act.put, List.setIfInBounds_toArray, List.set_cons_succ, List.set_cons_zero]
  go_big_quiet_step ((go_at_call 15; exact C2.out _))
  repeat (go_big_quiet_step (fail))
  refine wpQuiet_nil ?_
  rintro _ ⟨u, rfl⟩
  have hfin := (X3.below (below_over w3 u)).b
  go_wp2
  go_ret
  exact ⟨rfl, hfin⟩
end Go.Proofs.YtkiiifmofmbniaaDoor
