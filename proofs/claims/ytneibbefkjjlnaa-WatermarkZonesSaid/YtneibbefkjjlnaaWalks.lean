/- The walks of the small functions of watermark, and of their references. -/
import Derived.Test.YtneibbefkjjlnaaRows
import Derived.WalkKit
import Derived.WalkSpells
import Derived.WalkLawsBesides
import Derived.Lib.Hide
import Derived.Test.YtneibbefkjjlnaaOver
namespace Go.Proofs.Ytneibbefkjjlnaa
open Go.RowKit Go.Over

theorem ret_int {k : IntKind} {a b : Int} (h : a = b) : Ending.returned (.int k a) = .returned (.int k b) := by rw [h]
theorem ret_bool {a b : Bool} (h : a = b) : Ending.returned (.bool a) = .returned (.bool b) := by rw [h]
theorem ret_tup {a b c d a' b' c' d' : Int} (h1 : a = a') (h2 : b = b') (h3 : c = c') (h4 : d = d') :
    Ending.returned (.tuple #[.agg #[.int .i64 a, .int .i64 b, .int .i64 c], .int .i64 d]) = .returned (.tuple #[.agg #[.int .i64 a', .int .i64 b', .int .i64 c'], .int .i64 d']) := by rw [h1, h2, h3, h4]

def inB (n : Int) : Bool := decide (0 ≤ n) && decide (n ≤ 4096)
theorem inB_iff (n : Int) : inB n = true ↔ 0 ≤ n ∧ n ≤ 4096 := by simp [inB]
def checkI (a b c : Int) : Int := if (!inB a || !inB b || !inB c) = true then 2 else if b < a ∨ c < b then 10 else 0
theorem checkI_ok {a b c : Int} (h : checkI a b c = 0) : 0 ≤ a ∧ a ≤ b ∧ b ≤ c ∧ c ≤ 4096 := by
  unfold checkI at h
  split at h
  · omega
  · rename_i h1
    split at h
    · omega
    · simp [inB_iff] at h1
      omega
theorem checkI_of {a b c : Int} (h : 0 ≤ a ∧ a ≤ b ∧ b ≤ c ∧ c ≤ 4096) : checkI a b c = 0 := by
  unfold checkI
  rw [if_neg, if_neg (by omega)]
  simp [inB_iff]; omega
def levA (c m : Int) : Int := if inB c = true ∧ 0 ≤ m ∧ m ≤ c then m else 0
def levB (c m : Int) : Int := if inB c = true ∧ 0 ≤ m ∧ m ≤ c then (if m + (m + 3) / 4 ≤ c then m + (m + 3) / 4 else c) else 0
def levC (c m : Int) : Int := if inB c = true ∧ 0 ≤ m ∧ m ≤ c then (if m + (m + 1) / 2 ≤ c then m + (m + 1) / 2 else c) else 0
def levE (c m : Int) : Int := if inB c = true ∧ 0 ≤ m ∧ m ≤ c then 0 else 2
def floorI (a b c x : Int) : Int := if checkI a b c = 0 then (if x = 0 then a else if x = 1 then a / 2 else if x = 2 then 0 else -1) else -1
def wakeB (a b c f : Int) (r : Bool) : Bool := decide (checkI a b c = 0) && (decide (f < b) || (r && decide (f < c)))

set_option maxHeartbeats 400000 in
theorem in_any (n : Int) (w : World) :
    Calls Try.prog 26 #[.int .i64 n] w fun e w' => e = .returned (.bool (inB n)) ∧ w = w' := by
  go_enter Try.func26, Try.ntmps26
  go_wp2 
  all_goals
    go_ret
    refine ⟨ret_bool ?_, rfl⟩
    rw [Bool.eq_iff_iff, inB_iff]
    simp
    try omega

set_option maxHeartbeats 400000 in
theorem check_any (a b c : Int) (w : World) :
    Calls Try.prog 13 #[.agg #[.int .i64 a, .int .i64 b, .int .i64 c]] w fun e w' => e = .returned (.int .i64 (checkI a b c)) ∧ Below w.heap.size w w' := by
  go_enter Try.func13, Try.ntmps13
  go_wp2_with (go_at_call 26; refine (in_any _ _).mono ?_; rintro e w' ⟨rfl, rfl⟩)
  all_goals
    go_ret
    refine ⟨ret_int ?_, (Below.refl _ _).alloc (Nat.le_refl _) _⟩
    simp_all [checkI]
    try omega
set_option maxHeartbeats 400000 in
theorem levels_any (c m : Int) (w : World) :
    Calls Try.prog 11 #[.int .i64 c, .int .i64 m] w fun e w' => e = .returned (.tuple #[.agg #[.int .i64 (levA c m), .int .i64 (levB c m), .int .i64 (levC c m)], .int .i64 (levE c m)]) ∧ Below w.heap.size w w' := by
  by_cases h : inB c = true ∧ 0 ≤ m ∧ m ≤ c
  · obtain ⟨h1, h2, h3⟩ := h
    have h4 := (inB_iff c).1 h1
    go_enter Try.func11, Try.ntmps11
    go_wp2_with (go_at_call 26; refine (in_any _ _).mono ?_; rintro e w' ⟨rfl, rfl⟩)
    all_goals
      refine bodyPost_ret (v := .tuple #[.agg #[.int .i64 _, .int .i64 _, .int .i64 _], .int .i64 _]) (by simp [results, Try.results11, go_sem]; exact ⟨⟨rfl, rfl, rfl⟩, rfl⟩) rfl ⟨?_, ?_⟩
      · refine ret_tup ?_ ?_ ?_ ?_ <;> simp only [levA, levB, levC, levE, h1, h2, h3, and_self, if_true] <;> first | rw [if_neg (by omega)] | rw [if_pos (by omega)]
      · exact (by repeat (first | with_reducible exact Below.refl _ _ | with_reducible assumption | with_reducible refine below_alloc ?_ _ | with_reducible refine Below.setCell ?_ (by first | exact Nat.le_refl _ | (simp; done) | (simp; omega)) _ | with_reducible refine Below.drew ?_ | with_reducible refine below_drewN ?_ _ | with_reducible refine below_then ?_ (by with_reducible assumption)))
  · by_cases h1 : inB c = true
    · have h4 := (inB_iff c).1 h1
      have h5 : m < 0 ∨ c < m := by
        rcases Int.lt_or_le m 0 with h2 | h2
        · exact .inl h2
        · rcases Int.lt_or_le c m with h3 | h3
          · exact .inr h3
          · exact absurd ⟨h1, h2, h3⟩ h
      have hN := Lib.hid h; clear h
      rcases h5 with h5 | h5
      all_goals
       go_enter Try.func11, Try.ntmps11
       go_wp2_with (go_at_call 26; refine (in_any _ _).mono ?_; rintro e w' ⟨rfl, rfl⟩)
       all_goals
        refine bodyPost_ret (v := .tuple #[.agg #[.int .i64 _, .int .i64 _, .int .i64 _], .int .i64 _]) (by simp [results, Try.results11, go_sem]; exact ⟨⟨rfl, rfl, rfl⟩, rfl⟩) rfl ⟨?_, ?_⟩
        · have h := hN.out
          refine ret_tup ?_ ?_ ?_ ?_ <;> simp only [levA, levB, levC, levE, h, if_false]
        · exact (by repeat (first | with_reducible exact Below.refl _ _ | with_reducible assumption | with_reducible refine below_alloc ?_ _ | with_reducible refine Below.setCell ?_ (by first | exact Nat.le_refl _ | (simp; done) | (simp; omega)) _ | with_reducible refine Below.drew ?_ | with_reducible refine below_drewN ?_ _ | with_reducible refine below_then ?_ (by with_reducible assumption)))
    · go_enter Try.func11, Try.ntmps11
      go_wp2_with (go_at_call 26; refine (in_any _ _).mono ?_; rintro e w' ⟨rfl, rfl⟩)
      all_goals
        refine bodyPost_ret (v := .tuple #[.agg #[.int .i64 _, .int .i64 _, .int .i64 _], .int .i64 _]) (by simp [results, Try.results11, go_sem]; exact ⟨⟨rfl, rfl, rfl⟩, rfl⟩) rfl ⟨?_, ?_⟩
        · refine ret_tup ?_ ?_ ?_ ?_ <;> simp only [levA, levB, levC, levE, h, if_false]
        · exact (by repeat (first | with_reducible exact Below.refl _ _ | with_reducible assumption | with_reducible refine below_alloc ?_ _ | with_reducible refine Below.setCell ?_ (by first | exact Nat.le_refl _ | (simp; done) | (simp; omega)) _ | with_reducible refine Below.drew ?_ | with_reducible refine below_drewN ?_ _ | with_reducible refine below_then ?_ (by with_reducible assumption)))
set_option maxHeartbeats 400000 in
theorem floor_any (a b c x : Int) (w : World) :
    Calls Try.prog 15 #[.agg #[.int .i64 a, .int .i64 b, .int .i64 c], .int .i64 x] w fun e w' => e = .returned (.int .i64 (floorI a b c x)) ∧ Below w.heap.size w w' := by
  by_cases h : checkI a b c = 0
  · have h4 := checkI_ok h
    have hF : (x = 0 → floorI a b c x = a) ∧ (x = 1 → floorI a b c x = a / 2) ∧ (x = 2 → floorI a b c x = 0) ∧ (¬ x = 0 → ¬ x = 1 → ¬ x = 2 → floorI a b c x = -1) := by
      unfold floorI; rw [if_pos h]; refine ⟨fun h => by simp [h], fun h => by simp [h], fun h => by simp [h], fun h1 h2 h3 => by simp [h1, h2, h3]⟩
    have HF := Lib.hid hF
    clear hF
    go_enter Try.func15, Try.ntmps15
    go_wp2_with (go_at_call 13; refine (check_any _ _ _ _).mono ?_; rintro e w' ⟨rfl, hb⟩; obtain ⟨hc, hf⟩ := bcell hb)
    all_goals
      go_ret
      refine ⟨ret_int ?_, (by repeat (first | with_reducible exact Below.refl _ _ | with_reducible assumption | with_reducible refine below_alloc ?_ _ | with_reducible refine Below.setCell ?_ (by first | exact Nat.le_refl _ | (simp; done) | (simp; omega)) _ | with_reducible refine Below.drew ?_ | with_reducible refine below_drewN ?_ _ | with_reducible refine below_then ?_ (by with_reducible assumption)))⟩
    · exact (HF.out.1 (by simp_all)).symm
    · exact (HF.out.2.1 (by simp_all)).symm
    · exact (HF.out.2.2.1 (by simp_all)).symm
    · exact (HF.out.2.2.2 (by simp_all) (by simp_all) (by simp_all)).symm
  · go_enter Try.func15, Try.ntmps15
    go_wp2_with (go_at_call 13; refine (check_any _ _ _ _).mono ?_; rintro e w' ⟨rfl, hb⟩; obtain ⟨hc, hf⟩ := bcell hb)
    all_goals
      go_ret
      refine ⟨ret_int ?_, (by repeat (first | with_reducible exact Below.refl _ _ | with_reducible assumption | with_reducible refine below_alloc ?_ _ | with_reducible refine Below.setCell ?_ (by first | exact Nat.le_refl _ | (simp; done) | (simp; omega)) _ | with_reducible refine Below.drew ?_ | with_reducible refine below_drewN ?_ _ | with_reducible refine below_then ?_ (by with_reducible assumption)))⟩
      unfold floorI; rw [if_neg h]
set_option maxHeartbeats 400000 in
theorem wake_any (a b c f : Int) (r : Bool) (w : World) :
    Calls Try.prog 17 #[.agg #[.int .i64 a, .int .i64 b, .int .i64 c], .int .i64 f, .bool r] w fun e w' => e = .returned (.bool (wakeB a b c f r)) ∧ Below w.heap.size w w' := by
  by_cases h : checkI a b c = 0
  · have hF : (wakeB a b c f r = (decide (f < b) || (r && decide (f < c)))) := by
      unfold wakeB; rw [h]; simp
    have HF := Lib.hid hF
    clear hF
    go_enter Try.func17, Try.ntmps17
    go_wp2_with (go_at_call 13; refine (check_any _ _ _ _).mono ?_; rintro e w' ⟨rfl, hb⟩; obtain ⟨hc, hf⟩ := bcell hb)
    all_goals
      go_ret
      refine ⟨ret_bool ?_, (by repeat (first | with_reducible exact Below.refl _ _ | with_reducible assumption | with_reducible refine below_alloc ?_ _ | with_reducible refine Below.setCell ?_ (by first | exact Nat.le_refl _ | (simp; done) | (simp; omega)) _ | with_reducible refine Below.drew ?_ | with_reducible refine below_drewN ?_ _ | with_reducible refine below_then ?_ (by with_reducible assumption)))⟩
      rw [HF.out]
      simp_all
      try omega
  · go_enter Try.func17, Try.ntmps17
    go_wp2_with (go_at_call 13; refine (check_any _ _ _ _).mono ?_; rintro e w' ⟨rfl, hb⟩; obtain ⟨hc, hf⟩ := bcell hb)
    all_goals
      go_ret
      refine ⟨ret_bool ?_, (by repeat (first | with_reducible exact Below.refl _ _ | with_reducible assumption | with_reducible refine below_alloc ?_ _ | with_reducible refine Below.setCell ?_ (by first | exact Nat.le_refl _ | (simp; done) | (simp; omega)) _ | with_reducible refine Below.drew ?_ | with_reducible refine below_drewN ?_ _ | with_reducible refine below_then ?_ (by with_reducible assumption)))⟩
      simp [wakeB, h]
set_option maxHeartbeats 400000 in
theorem in_ref (n : Int) (w : World) :
    Calls Try.prog 27 #[.int .i64 n] w fun e w' => e = .returned (.bool (inB n)) ∧ w = w' := by
  go_enter Try.func27, Try.ntmps27
  go_wp2 
  all_goals
    go_ret
    refine ⟨ret_bool ?_, rfl⟩
    rw [Bool.eq_iff_iff, inB_iff]
    simp
    try omega

set_option maxHeartbeats 400000 in
theorem check_ref (a b c : Int) (w : World) :
    Calls Try.prog 14 #[.agg #[.int .i64 a, .int .i64 b, .int .i64 c]] w fun e w' => e = .returned (.int .i64 (checkI a b c)) ∧ Below w.heap.size w w' := by
  go_enter Try.func14, Try.ntmps14
  go_wp2_with (go_at_call 27; refine (in_ref _ _).mono ?_; rintro e w' ⟨rfl, rfl⟩)
  all_goals
    go_ret
    refine ⟨ret_int ?_, (Below.refl _ _).alloc (Nat.le_refl _) _⟩
    simp_all [checkI]
    try omega
set_option maxHeartbeats 400000 in
theorem levels_ref (c m : Int) (w : World) :
    Calls Try.prog 12 #[.int .i64 c, .int .i64 m] w fun e w' => e = .returned (.tuple #[.agg #[.int .i64 (levA c m), .int .i64 (levB c m), .int .i64 (levC c m)], .int .i64 (levE c m)]) ∧ Below w.heap.size w w' := by
  by_cases h : inB c = true ∧ 0 ≤ m ∧ m ≤ c
  · obtain ⟨h1, h2, h3⟩ := h
    have h4 := (inB_iff c).1 h1
    go_enter Try.func12, Try.ntmps12
    go_wp2_with (go_at_call 27; refine (in_ref _ _).mono ?_; rintro e w' ⟨rfl, rfl⟩)
    all_goals
      refine bodyPost_ret (v := .tuple #[.agg #[.int .i64 _, .int .i64 _, .int .i64 _], .int .i64 _]) (by simp [results, Try.results12, go_sem]; exact ⟨⟨rfl, rfl, rfl⟩, rfl⟩) rfl ⟨?_, ?_⟩
      · refine ret_tup ?_ ?_ ?_ ?_ <;> simp only [levA, levB, levC, levE, h1, h2, h3, and_self, if_true] <;> first | rw [if_neg (by omega)] | rw [if_pos (by omega)]
      · exact (by repeat (first | with_reducible exact Below.refl _ _ | with_reducible assumption | with_reducible refine below_alloc ?_ _ | with_reducible refine Below.setCell ?_ (by first | exact Nat.le_refl _ | (simp; done) | (simp; omega)) _ | with_reducible refine Below.drew ?_ | with_reducible refine below_drewN ?_ _ | with_reducible refine below_then ?_ (by with_reducible assumption)))
  · by_cases h1 : inB c = true
    · have h4 := (inB_iff c).1 h1
      have h5 : m < 0 ∨ c < m := by
        rcases Int.lt_or_le m 0 with h2 | h2
        · exact .inl h2
        · rcases Int.lt_or_le c m with h3 | h3
          · exact .inr h3
          · exact absurd ⟨h1, h2, h3⟩ h
      have hN := Lib.hid h; clear h
      rcases h5 with h5 | h5
      all_goals
       go_enter Try.func12, Try.ntmps12
       go_wp2_with (go_at_call 27; refine (in_ref _ _).mono ?_; rintro e w' ⟨rfl, rfl⟩)
       all_goals
        refine bodyPost_ret (v := .tuple #[.agg #[.int .i64 _, .int .i64 _, .int .i64 _], .int .i64 _]) (by simp [results, Try.results12, go_sem]; exact ⟨⟨rfl, rfl, rfl⟩, rfl⟩) rfl ⟨?_, ?_⟩
        · have h := hN.out
          refine ret_tup ?_ ?_ ?_ ?_ <;> simp only [levA, levB, levC, levE, h, if_false]
        · exact (by repeat (first | with_reducible exact Below.refl _ _ | with_reducible assumption | with_reducible refine below_alloc ?_ _ | with_reducible refine Below.setCell ?_ (by first | exact Nat.le_refl _ | (simp; done) | (simp; omega)) _ | with_reducible refine Below.drew ?_ | with_reducible refine below_drewN ?_ _ | with_reducible refine below_then ?_ (by with_reducible assumption)))
    · go_enter Try.func12, Try.ntmps12
      go_wp2_with (go_at_call 27; refine (in_ref _ _).mono ?_; rintro e w' ⟨rfl, rfl⟩)
      all_goals
        refine bodyPost_ret (v := .tuple #[.agg #[.int .i64 _, .int .i64 _, .int .i64 _], .int .i64 _]) (by simp [results, Try.results12, go_sem]; exact ⟨⟨rfl, rfl, rfl⟩, rfl⟩) rfl ⟨?_, ?_⟩
        · refine ret_tup ?_ ?_ ?_ ?_ <;> simp only [levA, levB, levC, levE, h, if_false]
        · exact (by repeat (first | with_reducible exact Below.refl _ _ | with_reducible assumption | with_reducible refine below_alloc ?_ _ | with_reducible refine Below.setCell ?_ (by first | exact Nat.le_refl _ | (simp; done) | (simp; omega)) _ | with_reducible refine Below.drew ?_ | with_reducible refine below_drewN ?_ _ | with_reducible refine below_then ?_ (by with_reducible assumption)))
set_option maxHeartbeats 400000 in
theorem floor_ref (a b c x : Int) (w : World) :
    Calls Try.prog 16 #[.agg #[.int .i64 a, .int .i64 b, .int .i64 c], .int .i64 x] w fun e w' => e = .returned (.int .i64 (floorI a b c x)) ∧ Below w.heap.size w w' := by
  by_cases h : checkI a b c = 0
  · have h4 := checkI_ok h
    have hF : (x = 0 → floorI a b c x = a) ∧ (x = 1 → floorI a b c x = a / 2) ∧ (x = 2 → floorI a b c x = 0) ∧ (¬ x = 0 → ¬ x = 1 → ¬ x = 2 → floorI a b c x = -1) := by
      unfold floorI; rw [if_pos h]; refine ⟨fun h => by simp [h], fun h => by simp [h], fun h => by simp [h], fun h1 h2 h3 => by simp [h1, h2, h3]⟩
    have HF := Lib.hid hF
    clear hF
    go_enter Try.func16, Try.ntmps16
    go_wp2_with (go_at_call 14; refine (check_ref _ _ _ _).mono ?_; rintro e w' ⟨rfl, hb⟩; obtain ⟨hc, hf⟩ := bcell hb)
    all_goals
      go_ret
      refine ⟨ret_int ?_, (by repeat (first | with_reducible exact Below.refl _ _ | with_reducible assumption | with_reducible refine below_alloc ?_ _ | with_reducible refine Below.setCell ?_ (by first | exact Nat.le_refl _ | (simp; done) | (simp; omega)) _ | with_reducible refine Below.drew ?_ | with_reducible refine below_drewN ?_ _ | with_reducible refine below_then ?_ (by with_reducible assumption)))⟩
    · exact (HF.out.1 (by simp_all)).symm
    · exact (HF.out.2.1 (by simp_all)).symm
    · exact (HF.out.2.2.1 (by simp_all)).symm
    · exact (HF.out.2.2.2 (by simp_all) (by simp_all) (by simp_all)).symm
  · go_enter Try.func16, Try.ntmps16
    go_wp2_with (go_at_call 14; refine (check_ref _ _ _ _).mono ?_; rintro e w' ⟨rfl, hb⟩; obtain ⟨hc, hf⟩ := bcell hb)
    all_goals
      go_ret
      refine ⟨ret_int ?_, (by repeat (first | with_reducible exact Below.refl _ _ | with_reducible assumption | with_reducible refine below_alloc ?_ _ | with_reducible refine Below.setCell ?_ (by first | exact Nat.le_refl _ | (simp; done) | (simp; omega)) _ | with_reducible refine Below.drew ?_ | with_reducible refine below_drewN ?_ _ | with_reducible refine below_then ?_ (by with_reducible assumption)))⟩
      unfold floorI; rw [if_neg h]
set_option maxHeartbeats 400000 in
theorem wake_ref (a b c f : Int) (r : Bool) (w : World) :
    Calls Try.prog 18 #[.agg #[.int .i64 a, .int .i64 b, .int .i64 c], .int .i64 f, .bool r] w fun e w' => e = .returned (.bool (wakeB a b c f r)) ∧ Below w.heap.size w w' := by
  by_cases h : checkI a b c = 0
  · have hF : (wakeB a b c f r = (decide (f < b) || (r && decide (f < c)))) := by
      unfold wakeB; rw [h]; simp
    have HF := Lib.hid hF
    clear hF
    go_enter Try.func18, Try.ntmps18
    go_wp2_with (go_at_call 14; refine (check_ref _ _ _ _).mono ?_; rintro e w' ⟨rfl, hb⟩; obtain ⟨hc, hf⟩ := bcell hb)
    all_goals
      go_ret
      refine ⟨ret_bool ?_, (by repeat (first | with_reducible exact Below.refl _ _ | with_reducible assumption | with_reducible refine below_alloc ?_ _ | with_reducible refine Below.setCell ?_ (by first | exact Nat.le_refl _ | (simp; done) | (simp; omega)) _ | with_reducible refine Below.drew ?_ | with_reducible refine below_drewN ?_ _ | with_reducible refine below_then ?_ (by with_reducible assumption)))⟩
      rw [HF.out]
      simp_all
      try omega
  · go_enter Try.func18, Try.ntmps18
    go_wp2_with (go_at_call 14; refine (check_ref _ _ _ _).mono ?_; rintro e w' ⟨rfl, hb⟩; obtain ⟨hc, hf⟩ := bcell hb)
    all_goals
      go_ret
      refine ⟨ret_bool ?_, (by repeat (first | with_reducible exact Below.refl _ _ | with_reducible assumption | with_reducible refine below_alloc ?_ _ | with_reducible refine Below.setCell ?_ (by first | exact Nat.le_refl _ | (simp; done) | (simp; omega)) _ | with_reducible refine Below.drew ?_ | with_reducible refine below_drewN ?_ _ | with_reducible refine below_then ?_ (by with_reducible assumption)))⟩
      simp [wakeB, h]
end Go.Proofs.Ytneibbefkjjlnaa
