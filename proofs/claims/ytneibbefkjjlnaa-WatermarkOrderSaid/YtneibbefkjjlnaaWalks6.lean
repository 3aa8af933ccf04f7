/- The walks of the laws on Allowed. -/
import Derived.Test.YtneibbefkjjlnaaWalks5
namespace Go.Proofs.Ytneibbefkjjlnaa
open Go.RowKit Go.Over
set_option maxHeartbeats 1600000 in
theorem law_allows (a : Option Addr) (n c : Nat) (f : Nat → Int) (ma mb mc x y : Int) (w : World) (H : SliceInts w a n f) :
    Calls Try.prog 5 #[.slice a n c, .agg #[.int .i64 ma, .int .i64 mb, .int .i64 mc], .agg #[.int .i64 x, .int .i64 y]] w fun e w' => e = .returned (.bool true) ∧ Below w.heap.size w w' := by
  rcases Nat.lt_or_ge 20 n with hn | hn
  · have hn' : (20 : Int) < (n : Int) := by omega
    clear hn
    go_enter Try.func5, Try.ntmps5
    go_wp2_with (go_at_call 10; refine (awake_any _).mono ?_; rintro e w1 ⟨rfl, hb⟩; obtain ⟨hc, hf, hz⟩ := bcell2 hb; try simp only [World.size_alloc] at hc hf hz)
    go_ret
    exact ⟨rfl, (by repeat (first | with_reducible exact Below.refl _ _ | with_reducible assumption | with_reducible refine below_alloc ?_ _ | with_reducible refine Below.setCell ?_ (by first | exact Nat.le_refl _ | (simp; done) | (simp; omega)) _ | with_reducible refine Below.drew ?_ | with_reducible refine below_drewN ?_ _ | with_reducible refine below_then ?_ (by with_reducible assumption)))⟩
  · have hn' : (n : Int) ≤ 20 := by omega
    clear hn
    go_enter Try.func5, Try.ntmps5
    go_wp2_with (go_at_call 10; refine (awake_any _).mono ?_; rintro e w1 ⟨rfl, hb⟩; obtain ⟨hc, hf, hz⟩ := bcell2 hb; try simp only [World.size_alloc] at hc hf hz)
    refine wp_forget (fun W => Below w.heap.size w W ∧ W.cell? ⟨w.heap.size, 0, none⟩ = some (.int .i64 ma) ∧ W.cell? ⟨w.heap.size, 1, none⟩ = some (.int .i64 mb) ∧ W.cell? ⟨w.heap.size, 2, none⟩ = some (.int .i64 mc) ∧ W.cell? ⟨w.heap.size + 1, 0, none⟩ = some (.int .i64 x) ∧ W.cell? ⟨w.heap.size + 1, 1, none⟩ = some (.int .i64 y)) ?_ ?_
    · refine ⟨(by repeat (first | with_reducible exact Below.refl _ _ | with_reducible assumption | with_reducible refine below_alloc ?_ _ | with_reducible refine Below.setCell ?_ (by first | exact Nat.le_refl _ | (simp; done) | (simp; omega)) _ | with_reducible refine Below.drew ?_ | with_reducible refine below_drewN ?_ _ | with_reducible refine below_then ?_ (by with_reducible assumption))), ?_, ?_, ?_, ?_, ?_⟩ <;> (first | (simp [go_sem, *]; done) | (simp [go_sem, ↓IntWalk.iteOmega, *]; done))
    intro W ⟨hB, h1, h2, h3, h4, h5⟩
    clear hb hc hf hz
    have HW := H.below hB
    have o1 := over_cell h1
    have o2 := over_cell h2
    have o3 := over_cell h3
    have o4 := over_cell h4
    have o5 := over_cell h5
    refine wp_region_over (by kernel_rfl) (by kernel_rfl) ?_
    repeat (go_big_quiet_step ((first | (go_at_call 19; exact calls_over (allowed_any _ _ _ f _ _ _ _ _ _ (HW.below (below_over _ _)))) | (go_at_call 20; exact calls_over (allowed_ref_any _ _ _ f _ _ _ _ _ _ (HW.below (below_over _ _)))))))
    refine wpQuiet_nil ?_
    rintro _ ⟨u, rfl⟩
    have hO := below_over W u
    go_wp2
    go_ret
    exact ⟨rfl, (by repeat (first | with_reducible exact Below.refl _ _ | with_reducible assumption | with_reducible refine below_alloc ?_ _ | with_reducible refine Below.setCell ?_ (by first | exact Nat.le_refl _ | (simp; done) | (simp; omega)) _ | with_reducible refine Below.drew ?_ | with_reducible refine below_drewN ?_ _ | with_reducible refine below_then ?_ (by with_reducible assumption)))⟩
/-- The total that the law's own Valid reckons: 0 where the list is not valid. -/
def totI (f : Nat → Int) : Int := if validB f = true then aboveI f 0 else 0
theorem tot_no {f : Nat → Int} (h : ¬ ((0 ≤ f 0 ∧ f 0 ≤ 4096) ∧ (0 ≤ f 1 ∧ f 1 ≤ 4096) ∧ (0 ≤ f 2 ∧ f 2 ≤ 4096) ∧ (0 ≤ f 3 ∧ f 3 ≤ 4096) ∧ 0 ≤ f 4 ∧ f 4 ≤ 4096)) :
    Ending.returned (.tuple #[.int .i64 0, .bool false]) = .returned (.tuple #[.int .i64 (totI f), .bool (validB f)]) := by
  have e : ¬ validB f = true := fun hv => h ((validB_iff f).1 hv)
  have e2 : validB f = false := Bool.eq_false_iff.2 e
  unfold totI; rw [if_neg e, e2]
theorem tot_yes {f : Nat → Int} {t : Int} (h : (0 ≤ f 0 ∧ f 0 ≤ 4096) ∧ (0 ≤ f 1 ∧ f 1 ≤ 4096) ∧ (0 ≤ f 2 ∧ f 2 ≤ 4096) ∧ (0 ≤ f 3 ∧ f 3 ≤ 4096) ∧ 0 ≤ f 4 ∧ f 4 ≤ 4096)
    (ht : t = f 0 + f 1 * 2 + f 2 * 4 + f 3 * 8 + f 4 * 16) :
    Ending.returned (.tuple #[.int .i64 t, .bool true]) = .returned (.tuple #[.int .i64 (totI f), .bool (validB f)]) := by
  have e : validB f = true := (validB_iff f).2 h
  unfold totI; rw [if_pos e, e, ht]; simp [aboveI]
set_option maxHeartbeats 1600000 in
theorem valid_law0 (a : Option Addr) (c : Nat) (f : Nat → Int) (w : World) (H : SliceInts w a 0 f) :
    Calls Try.prog 21 #[.slice a 0 c] w fun e w' => e = .returned (.tuple #[.int .i64 (totI f), .bool (validB f)]) ∧ w = w' := by
  obtain ⟨_, _, hz⟩ := H
  have z0 := hz 0 (by omega)
  have z1 := hz 1 (by omega)
  have z2 := hz 2 (by omega)
  have z3 := hz 3 (by omega)
  have z4 := hz 4 (by omega)
  have HZ := Lib.hid (And.intro z0 (And.intro z1 (And.intro z2 (And.intro z3 z4))))
  clear hz z0 z1 z2 z3 z4
  go_enter Try.func21, Try.ntmps21
  go_wp2
  refine wp_loop_rounds 6 ?_
  repeat any_goals (rw [rounds_succ]; go_wp2)
  all_goals
    go_ret2
    obtain ⟨z0, z1, z2, z3, z4⟩ := HZ.out
    first | (refine ⟨tot_no ?_, rfl⟩; omega) | (refine ⟨tot_yes ?_ ?_, rfl⟩ <;> omega)
set_option maxHeartbeats 1600000 in
theorem valid_law1 (a : Option Addr) (c : Nat) (f : Nat → Int) (w : World) (H : SliceInts w a 1 f) :
    Calls Try.prog 21 #[.slice a 1 c] w fun e w' => e = .returned (.tuple #[.int .i64 (totI f), .bool (validB f)]) ∧ w = w' := by
  obtain ⟨hm, hc, hz⟩ := H
  obtain ⟨b, off, rfl, hcc⟩ := hc (by omega)
  have z1 : f 1 = 0 := hz 1 (by decide)
  have z2 : f 2 = 0 := hz 2 (by decide)
  have z3 : f 3 = 0 := hz 3 (by decide)
  have z4 : f 4 = 0 := hz 4 (by decide)
  have HZ := Lib.hid (And.intro z1 (And.intro z2 (And.intro z3 (z4))))
  have c0 : w.cell? ⟨b, off, none⟩ = some (.int .i64 (f 0)) := hcc 0 (by omega)
  clear hz hc hcc hm z1 z2 z3 z4
  go_enter Try.func21, Try.ntmps21
  go_wp2
  refine wp_loop_rounds 6 ?_
  repeat any_goals (rw [rounds_succ]; go_wp2)
  all_goals
    go_ret2
    obtain ⟨z1, z2, z3, z4⟩ := HZ.out
    first | (refine ⟨tot_no ?_, rfl⟩; omega) | (refine ⟨tot_yes ?_ ?_, rfl⟩ <;> omega)
set_option maxHeartbeats 1600000 in
theorem valid_law2 (a : Option Addr) (c : Nat) (f : Nat → Int) (w : World) (H : SliceInts w a 2 f) :
    Calls Try.prog 21 #[.slice a 2 c] w fun e w' => e = .returned (.tuple #[.int .i64 (totI f), .bool (validB f)]) ∧ w = w' := by
  obtain ⟨hm, hc, hz⟩ := H
  obtain ⟨b, off, rfl, hcc⟩ := hc (by omega)
  have z2 : f 2 = 0 := hz 2 (by decide)
  have z3 : f 3 = 0 := hz 3 (by decide)
  have z4 : f 4 = 0 := hz 4 (by decide)
  have HZ := Lib.hid (And.intro z2 (And.intro z3 (z4)))
  have c0 : w.cell? ⟨b, off, none⟩ = some (.int .i64 (f 0)) := hcc 0 (by omega)
  have c1 : w.cell? ⟨b, off + 1, none⟩ = some (.int .i64 (f 1)) := hcc 1 (by omega)
  clear hz hc hcc hm z2 z3 z4
  go_enter Try.func21, Try.ntmps21
  go_wp2
  refine wp_loop_rounds 6 ?_
  repeat any_goals (rw [rounds_succ]; go_wp2)
  all_goals
    go_ret2
    obtain ⟨z2, z3, z4⟩ := HZ.out
    first | (refine ⟨tot_no ?_, rfl⟩; omega) | (refine ⟨tot_yes ?_ ?_, rfl⟩ <;> omega)
set_option maxHeartbeats 1600000 in
theorem valid_law3 (a : Option Addr) (c : Nat) (f : Nat → Int) (w : World) (H : SliceInts w a 3 f) :
    Calls Try.prog 21 #[.slice a 3 c] w fun e w' => e = .returned (.tuple #[.int .i64 (totI f), .bool (validB f)]) ∧ w = w' := by
  obtain ⟨hm, hc, hz⟩ := H
  obtain ⟨b, off, rfl, hcc⟩ := hc (by omega)
  have z3 : f 3 = 0 := hz 3 (by decide)
  have z4 : f 4 = 0 := hz 4 (by decide)
  have HZ := Lib.hid (And.intro z3 (z4))
  have c0 : w.cell? ⟨b, off, none⟩ = some (.int .i64 (f 0)) := hcc 0 (by omega)
  have c1 : w.cell? ⟨b, off + 1, none⟩ = some (.int .i64 (f 1)) := hcc 1 (by omega)
  have c2 : w.cell? ⟨b, off + 2, none⟩ = some (.int .i64 (f 2)) := hcc 2 (by omega)
  clear hz hc hcc hm z3 z4
  go_enter Try.func21, Try.ntmps21
  go_wp2
  refine wp_loop_rounds 6 ?_
  repeat any_goals (rw [rounds_succ]; go_wp2)
  all_goals
    go_ret2
    obtain ⟨z3, z4⟩ := HZ.out
    first | (refine ⟨tot_no ?_, rfl⟩; omega) | (refine ⟨tot_yes ?_ ?_, rfl⟩ <;> omega)
set_option maxHeartbeats 1600000 in
theorem valid_law4 (a : Option Addr) (c : Nat) (f : Nat → Int) (w : World) (H : SliceInts w a 4 f) :
    Calls Try.prog 21 #[.slice a 4 c] w fun e w' => e = .returned (.tuple #[.int .i64 (totI f), .bool (validB f)]) ∧ w = w' := by
  obtain ⟨hm, hc, hz⟩ := H
  obtain ⟨b, off, rfl, hcc⟩ := hc (by omega)
  have z4 : f 4 = 0 := hz 4 (by decide)
  have HZ := Lib.hid (z4)
  have c0 : w.cell? ⟨b, off, none⟩ = some (.int .i64 (f 0)) := hcc 0 (by omega)
  have c1 : w.cell? ⟨b, off + 1, none⟩ = some (.int .i64 (f 1)) := hcc 1 (by omega)
  have c2 : w.cell? ⟨b, off + 2, none⟩ = some (.int .i64 (f 2)) := hcc 2 (by omega)
  have c3 : w.cell? ⟨b, off + 3, none⟩ = some (.int .i64 (f 3)) := hcc 3 (by omega)
  clear hz hc hcc hm z4
  go_enter Try.func21, Try.ntmps21
  go_wp2
  refine wp_loop_rounds 6 ?_
  repeat any_goals (rw [rounds_succ]; go_wp2)
  all_goals
    go_ret2
    have z4 := HZ.out
    first | (refine ⟨tot_no ?_, rfl⟩; omega) | (refine ⟨tot_yes ?_ ?_, rfl⟩ <;> omega)
set_option maxHeartbeats 1600000 in
theorem valid_law5 (a : Option Addr) (n c : Nat) (f : Nat → Int) (w : World) (H : SliceInts w a n f) (hn : 5 ≤ n) :
    Calls Try.prog 21 #[.slice a n c] w fun e w' => e = .returned (.tuple #[.int .i64 (totI f), .bool (validB f)]) ∧ w = w' := by
  obtain ⟨hm, hc, hz⟩ := H
  obtain ⟨b, off, rfl, hcc⟩ := hc (by omega)
  have c0 : w.cell? ⟨b, off, none⟩ = some (.int .i64 (f 0)) := hcc 0 (by omega)
  have c1 : w.cell? ⟨b, off + 1, none⟩ = some (.int .i64 (f 1)) := hcc 1 (by omega)
  have c2 : w.cell? ⟨b, off + 2, none⟩ = some (.int .i64 (f 2)) := hcc 2 (by omega)
  have c3 : w.cell? ⟨b, off + 3, none⟩ = some (.int .i64 (f 3)) := hcc 3 (by omega)
  have c4 : w.cell? ⟨b, off + 4, none⟩ = some (.int .i64 (f 4)) := hcc 4 (by omega)
  have hn' : (5 : Int) ≤ (n : Int) := by omega
  have q0 : (0 : Int) < (n : Int) := by omega
  have q1 : (1 : Int) < (n : Int) := by omega
  have q2 : (2 : Int) < (n : Int) := by omega
  have q3 : (3 : Int) < (n : Int) := by omega
  have q4 : (4 : Int) < (n : Int) := by omega
  clear hz hc hcc hn 
  go_enter Try.func21, Try.ntmps21
  go_wp2
  refine wp_loop_rounds 6 ?_
  repeat any_goals (rw [rounds_succ]; go_wp2)
  all_goals
    go_ret2
    first | (refine ⟨tot_no ?_, rfl⟩; omega) | (refine ⟨tot_yes ?_ ?_, rfl⟩ <;> omega)
theorem valid_law (a : Option Addr) (n c : Nat) (f : Nat → Int) (w : World) (H : SliceInts w a n f) :
    Calls Try.prog 21 #[.slice a n c] w fun e w' => e = .returned (.tuple #[.int .i64 (totI f), .bool (validB f)]) ∧ w = w' := by
  rcases (by omega : n = 0 ∨ n = 1 ∨ n = 2 ∨ n = 3 ∨ n = 4 ∨ 5 ≤ n) with rfl | rfl | rfl | rfl | rfl | h
  · exact valid_law0 a c f w H
  · exact valid_law1 a c f w H
  · exact valid_law2 a c f w H
  · exact valid_law3 a c f w H
  · exact valid_law4 a c f w H
  · exact valid_law5 a n c f w H h
end Go.Proofs.Ytneibbefkjjlnaa
