/- The walks of the laws on Levels, Floor, Wake and Allowed. -/
import Derived.Test.YtneibbefkjjlnaaWalks4
namespace Go.Proofs.Ytneibbefkjjlnaa
open Go.RowKit Go.Over
set_option maxHeartbeats 1600000 in
theorem law_floors (a b c x y : Int) (r : Bool) (w : World) :
    Calls Try.prog 4 #[.agg #[.int .i64 a, .int .i64 b, .int .i64 c], .agg #[.int .i64 x, .int .i64 y], .bool r] w fun e w' => e = .returned (.bool true) ∧ Below w.heap.size w w' := by
  go_enter Try.func4, Try.ntmps4
  go_wp2_with (go_at_call 10; refine (awake_any _).mono ?_; rintro e w1 ⟨rfl, hb⟩; obtain ⟨hc, hf, hz⟩ := bcell2 hb; try simp only [World.size_alloc] at hc hf hz)
  refine wp_forget (fun W => Below w.heap.size w W ∧ W.cell? ⟨w.heap.size, 0, none⟩ = some (.int .i64 a) ∧ W.cell? ⟨w.heap.size, 1, none⟩ = some (.int .i64 b) ∧ W.cell? ⟨w.heap.size, 2, none⟩ = some (.int .i64 c) ∧ W.cell? ⟨w.heap.size + 1, 0, none⟩ = some (.int .i64 x) ∧ W.cell? ⟨w.heap.size + 1, 1, none⟩ = some (.int .i64 y)) ?_ ?_
  · refine ⟨(by repeat (first | with_reducible exact Below.refl _ _ | with_reducible assumption | with_reducible refine below_alloc ?_ _ | with_reducible refine Below.setCell ?_ (by first | exact Nat.le_refl _ | (simp; done) | (simp; omega)) _ | with_reducible refine Below.drew ?_ | with_reducible refine below_drewN ?_ _ | with_reducible refine below_then ?_ (by with_reducible assumption))), ?_, ?_, ?_, ?_, ?_⟩ <;> (first | (simp [go_sem, *]; done) | (simp [go_sem, ↓IntWalk.iteOmega, *]; done))
  intro W ⟨hB, h1, h2, h3, h4, h5⟩
  clear hb hc hf hz
  have o1 := over_cell h1
  have o2 := over_cell h2
  have o3 := over_cell h3
  have o4 := over_cell h4
  have o5 := over_cell h5
  refine wp_region_over (by kernel_rfl) (by kernel_rfl) ?_
  repeat (go_big_quiet_step ((first | (go_at_call 15; exact calls_over (floor_any _ _ _ _ _)) | (go_at_call 16; exact calls_over (floor_ref _ _ _ _ _)) | (go_at_call 17; exact calls_over (wake_any _ _ _ _ _ _)) | (go_at_call 18; exact calls_over (wake_ref _ _ _ _ _ _)))))
  refine wpQuiet_nil ?_
  rintro _ ⟨u, rfl⟩
  have hO := below_over W u
  go_wp2
  go_ret
  exact ⟨rfl, (by repeat (first | with_reducible exact Below.refl _ _ | with_reducible assumption | with_reducible refine below_alloc ?_ _ | with_reducible refine Below.setCell ?_ (by first | exact Nat.le_refl _ | (simp; done) | (simp; omega)) _ | with_reducible refine Below.drew ?_ | with_reducible refine below_drewN ?_ _ | with_reducible refine below_then ?_ (by with_reducible assumption)))⟩
set_option maxHeartbeats 1600000 in
theorem law_levels (c m x y z : Int) (w : World) :
    Calls Try.prog 3 #[.int .i64 c, .int .i64 m, .agg #[.int .i64 x, .int .i64 y, .int .i64 z]] w fun e w' => e = .returned (.bool true) ∧ Below w.heap.size w w' := by
  have hE : levE c m = 0 ∨ levE c m = 2 := by unfold levE; split <;> simp
  have hK : levE c m = 0 → checkI (levA c m) (levB c m) (levC c m) = 0 := by
    intro h
    unfold levE at h
    split at h
    · rename_i hc
      have hb := (inB_iff c).1 hc.1
      refine checkI_of ?_
      unfold levA levB levC
      rw [if_pos hc, if_pos hc, if_pos hc]
      split <;> split <;> omega
    · omega
  have hN : (levE c m != 0) = false ∧ checkI (levA c m) (levB c m) (levC c m) = 0 ∨ (levE c m != 0) = true := by
    rcases hE with h | h
    · exact .inl ⟨by rw [h]; rfl, hK h⟩
    · exact .inr (by rw [h]; rfl)
  clear hE hK
  obtain ⟨A, hA⟩ : ∃ A, A = levA c m := ⟨_, rfl⟩
  obtain ⟨B, hB⟩ : ∃ A, A = levB c m := ⟨_, rfl⟩
  obtain ⟨C, hC⟩ : ∃ A, A = levC c m := ⟨_, rfl⟩
  obtain ⟨E, hE⟩ : ∃ A, A = levE c m := ⟨_, rfl⟩
  rw [← hA, ← hB, ← hC, ← hE] at hN
  have l1 := levels_any c m
  have l2 := levels_ref c m
  rw [← hA, ← hB, ← hC, ← hE] at l1 l2
  clear hA hB hC hE
  have L1 := Lib.hid l1; have L2 := Lib.hid l2; clear l1 l2
  rcases hN with ⟨h0, hK⟩ | h0
  all_goals
    go_enter Try.func3, Try.ntmps3
    go_wp2_with (first | (go_at_call 10; refine (awake_any _).mono ?_; rintro e w1 ⟨rfl, hb⟩; obtain ⟨hc, hf, hz⟩ := bcell2 hb; try simp only [World.size_alloc] at hc hf hz) | (go_at_call 11; refine (L1.out _).mono ?_; rintro e w2 ⟨rfl, hb⟩; obtain ⟨hc, hf, hz⟩ := bcell2 hb; try simp only [World.size_alloc] at hc hf hz) | (go_at_call 12; refine (L2.out _).mono ?_; rintro e w3 ⟨rfl, hb⟩; obtain ⟨hc, hf, hz⟩ := bcell2 hb; try simp only [World.size_alloc] at hc hf hz))
    refine wp_forget (fun W => Below w.heap.size w W ∧ W.cell? ⟨w.heap.size, 0, none⟩ = some (.int .i64 x) ∧ W.cell? ⟨w.heap.size, 1, none⟩ = some (.int .i64 y) ∧ W.cell? ⟨w.heap.size, 2, none⟩ = some (.int .i64 z) ∧ W.cell? ⟨w2.heap.size, 0, none⟩ = some (.int .i64 A) ∧ W.cell? ⟨w2.heap.size, 1, none⟩ = some (.int .i64 B) ∧ W.cell? ⟨w2.heap.size, 2, none⟩ = some (.int .i64 C) ∧ W.cell? ⟨w3.heap.size, 0, none⟩ = some (.int .i64 A) ∧ W.cell? ⟨w3.heap.size, 1, none⟩ = some (.int .i64 B) ∧ W.cell? ⟨w3.heap.size, 2, none⟩ = some (.int .i64 C)) ?_ ?_
    · refine ⟨(by repeat (first | with_reducible exact Below.refl _ _ | with_reducible assumption | with_reducible refine below_alloc ?_ _ | with_reducible refine Below.setCell ?_ (by first | exact Nat.le_refl _ | (simp; done) | (simp; omega)) _ | with_reducible refine Below.drew ?_ | with_reducible refine below_drewN ?_ _ | with_reducible refine below_then ?_ (by with_reducible assumption))), ?_, ?_, ?_, ?_, ?_, ?_, ?_, ?_, ?_⟩ <;> (first | (simp [go_sem, *]; done) | (simp [go_sem, ↓IntWalk.iteOmega, *]; done))
    intro W ⟨hB, h1, h2, h3, h4, h5, h6, h7, h8, h9⟩
    have o1 := over_cell h1
    have o2 := over_cell h2
    have o3 := over_cell h3
    have o4 := over_cell h4
    have o5 := over_cell h5
    have o6 := over_cell h6
    have o7 := over_cell h7
    have o8 := over_cell h8
    have o9 := over_cell h9
    refine wp_region_over (by kernel_rfl) (by kernel_rfl) ?_
    repeat (go_big_quiet_step ((first | (go_at_call 13; exact calls_over (check_any _ _ _ _)) | (go_at_call 14; exact calls_over (check_ref _ _ _ _)))))
    refine wpQuiet_nil ?_
    rintro _ ⟨u, rfl⟩
    have hO := below_over W u
    go_wp2
    go_ret
    exact ⟨rfl, (by repeat (first | with_reducible exact Below.refl _ _ | with_reducible assumption | with_reducible refine below_alloc ?_ _ | with_reducible refine Below.setCell ?_ (by first | exact Nat.le_refl _ | (simp; done) | (simp; omega)) _ | with_reducible refine Below.drew ?_ | with_reducible refine below_drewN ?_ _ | with_reducible refine below_then ?_ (by with_reducible assumption)))⟩
end Go.Proofs.Ytneibbefkjjlnaa
