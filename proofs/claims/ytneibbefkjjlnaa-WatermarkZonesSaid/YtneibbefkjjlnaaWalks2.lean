/- The walks of the functions that read a list of free blocks: blocks, Valid, above and Allowed of the reference; cells and Allowed of watermark. -/
import Derived.Test.YtneibbefkjjlnaaWalks
import Derived.Laws.CopyOwn
import Derived.Deep.QuietTactic
import Derived.BigQuiet
namespace Go.Proofs.Ytneibbefkjjlnaa
open Go.RowKit Go.Over

/-- The slice at 'a' of 'n' ints reads as f 0, f 1, ..; behind its end f is 0. -/
def SliceInts (w : World) (a : Option Addr) (n : Nat) (f : Nat → Int) : Prop :=
  n ≤ 9223372036854775807 ∧ (0 < n → ∃ b off, a = some ⟨b, off, none⟩ ∧ ∀ i, i < n → w.cell? ⟨b, off + i, none⟩ = some (.int .i64 (f i))) ∧ ∀ i, n ≤ i → f i = 0

theorem SliceInts.below {w w' : World} {a : Option Addr} {n : Nat} {f : Nat → Int} (h : SliceInts w a n f) (hb : Below w.heap.size w w') : SliceInts w' a n f := by
  refine ⟨h.1, fun hn => ?_, h.2.2⟩
  obtain ⟨b, off, ha, hc⟩ := h.2.1 hn
  exact ⟨b, off, ha, fun i hi => cell_later hb (hc i hi)⟩

set_option maxHeartbeats 1600000 in
theorem blocks_ref (a : Option Addr) (n c : Nat) (f : Nat → Int) (o : Int) (w : World) (H : SliceInts w a n f) (h0 : 0 ≤ o) :
    Calls Try.prog 33 #[.slice a n c, .int .i64 o] w fun e w' => e = .returned (.int .i64 (f o.toNat)) ∧ w = w' := by
  obtain ⟨k, rfl⟩ := Int.eq_ofNat_of_zero_le h0
  rw [Int.toNat_natCast]
  obtain ⟨hm, hc, hz⟩ := H
  by_cases hlt : k < n
  · obtain ⟨b, off, rfl, hcc⟩ := hc (by omega)
    have hck := hcc k hlt
    clear hcc hc hz
    go_enter Try.func33, Try.ntmps33
    go_wp2
    go_ret
    exact ⟨rfl, rfl⟩
  · have HZ := Lib.hid (hz k (by omega)); clear hz
    clear hc
    go_enter Try.func33, Try.ntmps33
    go_wp2
    go_ret
    exact ⟨ret_int HZ.out.symm, rfl⟩
def validB (f : Nat → Int) : Bool := inB (f 0) && inB (f 1) && inB (f 2) && inB (f 3) && inB (f 4)
theorem validB_iff (f : Nat → Int) : validB f = true ↔ (0 ≤ f 0 ∧ f 0 ≤ 4096) ∧ (0 ≤ f 1 ∧ f 1 ≤ 4096) ∧ (0 ≤ f 2 ∧ f 2 ≤ 4096) ∧ (0 ≤ f 3 ∧ f 3 ≤ 4096) ∧ 0 ≤ f 4 ∧ f 4 ≤ 4096 := by
  simp [validB, inB_iff, and_assoc]
set_option maxHeartbeats 1600000 in
theorem valid_ref (a : Option Addr) (n c : Nat) (f : Nat → Int) (w : World) (H : SliceInts w a n f) :
    Calls Try.prog 29 #[.slice a n c] w fun e w' => e = .returned (.bool (validB f)) ∧ w = w' := by
  go_enter Try.func29, Try.ntmps29
  go_wp2
  refine wp_loop_rounds 6 ?_
  repeat any_goals (rw [rounds_succ]; go_wp2_with (first | (go_at_call 33; refine (blocks_ref _ _ _ _ _ _ H (by decide)).mono ?_; rintro e w' ⟨rfl, rfl⟩) | (go_at_call 27; refine (in_ref _ _).mono ?_; rintro e w' ⟨rfl, rfl⟩)))
  all_goals
    go_ret
    refine ⟨ret_bool ?_, rfl⟩
    simp_all [validB]
/-- The frames in the blocks of orders from k on. -/
def aboveI (f : Nat → Int) (k : Int) : Int :=
  (if k ≤ 0 then f 0 else 0) + (if k ≤ 1 then f 1 * 2 else 0) + (if k ≤ 2 then f 2 * 4 else 0) + (if k ≤ 3 then f 3 * 8 else 0) + (if k ≤ 4 then f 4 * 16 else 0)
/-- Behind a region that draws: the world under a name of its own. -/
theorem undraw {w w1 : World} {m : Nat} {a : Option Addr} {n : Nat} {f : Nat → Int} (hb : Below w.heap.size w w1) (H : SliceInts w1 a n f) : ∃ w2, w2 = w1.drewN m ∧ Below w.heap.size w w2 ∧ SliceInts w2 a n f :=
  ⟨_, rfl, below_drewN hb m, H⟩
set_option maxHeartbeats 1600000 in
theorem above_ref (a : Option Addr) (n c : Nat) (f : Nat → Int) (k : Int) (w : World) (H : SliceInts w a n f) (hv : validB f = true) (h0 : 0 ≤ k) (h5 : k ≤ 5) :
    Calls Try.prog 30 #[.slice a n c, .int .i64 k] w fun e w' => e = .returned (.int .i64 (aboveI f k)) ∧ w = w' := by
  have hb := (validB_iff f).1 hv
  clear hv
  obtain rfl | rfl | rfl | rfl | rfl | rfl : k = 0 ∨ k = 1 ∨ k = 2 ∨ k = 3 ∨ k = 4 ∨ k = 5 := by omega
  all_goals
    clear h0 h5
    go_enter Try.func30, Try.ntmps30
    go_wp2
    refine wp_loop_rounds 6 ?_
    repeat any_goals (rw [rounds_succ]; go_wp2_with ((go_at_call 33; refine (blocks_ref _ _ _ _ _ _ H (by decide)).mono ?_; rintro e w' ⟨rfl, rfl⟩)))
    go_ret
    exact ⟨ret_int (by simp [aboveI]), rfl⟩
theorem aboveI_bd {f : Nat → Int} (hv : validB f = true) (k : Int) : 0 ≤ aboveI f k ∧ aboveI f k ≤ 126976 := by
  have hb := (validB_iff f).1 hv
  unfold aboveI
  split <;> split <;> split <;> split <;> split <;> omega
theorem floorI_bd (a b c x : Int) : -1 ≤ floorI a b c x ∧ floorI a b c x ≤ 4096 := by
  unfold floorI
  by_cases h : checkI a b c = 0
  · have := checkI_ok h
    rw [if_pos h]
    split
    · omega
    · split
      · omega
      · split <;> omega
  · rw [if_neg h]; omega
def pw (k : Int) : Int := if k ≤ 0 then 1 else if k ≤ 1 then 2 else if k ≤ 2 then 4 else if k ≤ 3 then 8 else 16
def allow4 (f : Nat → Int) (fl k : Int) : Bool :=
  decide (fl ≤ aboveI f 0 - pw k) && !decide (aboveI f k = 0) && (decide (k ≤ 0) || decide (fl / 2 ≤ aboveI f 1 - pw k)) && (decide (k ≤ 1) || decide (fl / 4 ≤ aboveI f 2 - pw k)) &&
    (decide (k ≤ 2) || decide (fl / 8 ≤ aboveI f 3 - pw k)) && (decide (k ≤ 3) || decide (fl / 16 ≤ aboveI f 4 - pw k))
theorem above_quiet {a : Option Addr} {n c : Nat} {f : Nat → Int} {w : World} (H : SliceInts w a n f) (hv : validB f = true) (m : Nat) (k : Int) (h0 : 0 ≤ k) (h5 : k ≤ 5) :
    Calls Try.prog 30 #[.slice a n c, .int .i64 k] (w.drewN m) fun e w'' => e = .returned (.int .i64 (aboveI f k)) ∧ ∃ m, w'' = w.drewN m :=
  Calls.quiet_of_same ((above_ref a n c f k _ (show SliceInts (w.drewN m) a n f from H) hv h0 h5).mono fun _ _ h => ⟨h.1, h.2.symm⟩)
set_option maxHeartbeats 1600000 in
theorem allowed_ref (a : Option Addr) (n c : Nat) (f : Nat → Int) (ma mb mc k x : Int) (w : World) (H : SliceInts w a n f) (hv : validB f = true) (h0 : 0 ≤ floorI ma mb mc x) (h1 : 0 ≤ k) (h2 : k ≤ 4) :
    Calls Try.prog 20 #[.slice a n c, .agg #[.int .i64 ma, .int .i64 mb, .int .i64 mc], .int .i64 k, .int .i64 x] w fun e w' => e = .returned (.bool (allow4 f (floorI ma mb mc x) k)) ∧ Below w.heap.size w w' := by
  have hfl := floorI_bd ma mb mc x
  have b0 := aboveI_bd hv 0
  have b1 := aboveI_bd hv 1
  have b2 := aboveI_bd hv 2
  have b3 := aboveI_bd hv 3
  have b4 := aboveI_bd hv 4
  have HV := Lib.hid hv; clear hv
  obtain rfl | rfl | rfl | rfl | rfl : k = 0 ∨ k = 1 ∨ k = 2 ∨ k = 3 ∨ k = 4 := by omega
  all_goals
    clear h1 h2
    go_enter Try.func20, Try.ntmps20
    go_wp2_with (first | (go_at_call 16; refine (floor_ref _ _ _ _ _).mono ?_; rintro e w1 ⟨rfl, hb⟩; have hb1 : Below w.heap.size w w1 := (by repeat (first | with_reducible exact Below.refl _ _ | with_reducible assumption | with_reducible refine below_alloc ?_ _ | with_reducible refine Below.setCell ?_ (by first | exact Nat.le_refl _ | (simp; done) | (simp; omega)) _ | with_reducible refine Below.drew ?_ | with_reducible refine below_drewN ?_ _ | with_reducible refine below_then ?_ (by with_reducible assumption))); have H1 := H.below hb1; clear hb) | (go_at_call 29; refine (valid_ref _ _ _ _ _ H1).mono ?_; rintro e w' ⟨rfl, rfl⟩; rw [HV.out]))
  · have e1 : IntKind.i64.wrap 1 = 1 := by decide
    have e2 : IntKind.i64.wrap (aboveI f 0 - 1) = aboveI f 0 - 1 := IntWalk.i64_in _ (by omega)
    have HP : Hid (pw 0 = 1) := Lib.hid (by decide)
    rcases Int.lt_or_le (aboveI f 0 - 1) (floorI ma mb mc x) with hA | hA
    · have HF : Hid (allow4 f (floorI ma mb mc x) 0 = false) := by
        have : ¬ floorI ma mb mc x ≤ aboveI f 0 - pw 0 := by rw [HP.out]; omega
        exact Lib.hid (by simp [allow4, this])
      go_quiet ((go_at_call 30; exact above_quiet H1 HV.out _ _ (by decide) (by decide)))
      go_wp2
      go_ret
      exact ⟨ret_bool HF.out.symm, (by repeat (first | with_reducible exact Below.refl _ _ | with_reducible assumption | with_reducible refine below_alloc ?_ _ | with_reducible refine Below.setCell ?_ (by first | exact Nat.le_refl _ | (simp; done) | (simp; omega)) _ | with_reducible refine Below.drew ?_ | with_reducible refine below_drewN ?_ _ | with_reducible refine below_then ?_ (by with_reducible assumption)))⟩
    · have hD : decide (aboveI f 0 - 1 < floorI ma mb mc x) = false := by simp; omega
      have q1 : IntKind.i64.wrap (aboveI f 1 - 1) = aboveI f 1 - 1 := IntWalk.i64_in _ (by omega)
      have q2 : IntKind.i64.wrap (aboveI f 2 - 1) = aboveI f 2 - 1 := IntWalk.i64_in _ (by omega)
      have o2 : IntKind.i64.wrap 2 = 2 := by decide
      have q3 : IntKind.i64.wrap (aboveI f 3 - 1) = aboveI f 3 - 1 := IntWalk.i64_in _ (by omega)
      have o3 : IntKind.i64.wrap 3 = 3 := by decide
      have q4 : IntKind.i64.wrap (aboveI f 4 - 1) = aboveI f 4 - 1 := IntWalk.i64_in _ (by omega)
      have o4 : IntKind.i64.wrap 4 = 4 := by decide
      go_quiet ((go_at_call 30; exact above_quiet H1 HV.out _ _ (by decide) (by decide)))
      go_wp2
      · have r0 : (aboveI f 0 == 0) = false := by first | assumption | (simp; omega)
        refine wp_loop_rounds 6 ?_
        rw [rounds_succ]
        go_wp2
        go_ret
        refine ⟨ret_bool ?_, (by repeat (first | with_reducible exact Below.refl _ _ | with_reducible assumption | with_reducible refine below_alloc ?_ _ | with_reducible refine Below.setCell ?_ (by first | exact Nat.le_refl _ | (simp; done) | (simp; omega)) _ | with_reducible refine Below.drew ?_ | with_reducible refine below_drewN ?_ _ | with_reducible refine below_then ?_ (by with_reducible assumption)))⟩
        simp only [beq_eq_false_iff_ne, ne_eq] at r0
        simp [allow4, HP.out, r0,  hA]
  · have e1 : IntKind.i64.wrap 2 = 2 := by decide
    have e2 : IntKind.i64.wrap (aboveI f 0 - 2) = aboveI f 0 - 2 := IntWalk.i64_in _ (by omega)
    have HP : Hid (pw 1 = 2) := Lib.hid (by decide)
    rcases Int.lt_or_le (aboveI f 0 - 2) (floorI ma mb mc x) with hA | hA
    · have HF : Hid (allow4 f (floorI ma mb mc x) 1 = false) := by
        have : ¬ floorI ma mb mc x ≤ aboveI f 0 - pw 1 := by rw [HP.out]; omega
        exact Lib.hid (by simp [allow4, this])
      go_quiet ((go_at_call 30; exact above_quiet H1 HV.out _ _ (by decide) (by decide)))
      go_wp2
      go_ret
      exact ⟨ret_bool HF.out.symm, (by repeat (first | with_reducible exact Below.refl _ _ | with_reducible assumption | with_reducible refine below_alloc ?_ _ | with_reducible refine Below.setCell ?_ (by first | exact Nat.le_refl _ | (simp; done) | (simp; omega)) _ | with_reducible refine Below.drew ?_ | with_reducible refine below_drewN ?_ _ | with_reducible refine below_then ?_ (by with_reducible assumption)))⟩
    · have hD : decide (aboveI f 0 - 2 < floorI ma mb mc x) = false := by simp; omega
      have q1 : IntKind.i64.wrap (aboveI f 1 - 2) = aboveI f 1 - 2 := IntWalk.i64_in _ (by omega)
      have q2 : IntKind.i64.wrap (aboveI f 2 - 2) = aboveI f 2 - 2 := IntWalk.i64_in _ (by omega)
      have o2 : IntKind.i64.wrap 2 = 2 := by decide
      have q3 : IntKind.i64.wrap (aboveI f 3 - 2) = aboveI f 3 - 2 := IntWalk.i64_in _ (by omega)
      have o3 : IntKind.i64.wrap 3 = 3 := by decide
      have q4 : IntKind.i64.wrap (aboveI f 4 - 2) = aboveI f 4 - 2 := IntWalk.i64_in _ (by omega)
      have o4 : IntKind.i64.wrap 4 = 4 := by decide
      have o1 : IntKind.i64.wrap 1 = 1 := by decide
      go_quiet ((go_at_call 30; exact above_quiet H1 HV.out _ _ (by decide) (by decide)))
      go_wp2
      · go_ret
        refine ⟨ret_bool ?_, (by repeat (first | with_reducible exact Below.refl _ _ | with_reducible assumption | with_reducible refine below_alloc ?_ _ | with_reducible refine Below.setCell ?_ (by first | exact Nat.le_refl _ | (simp; done) | (simp; omega)) _ | with_reducible refine Below.drew ?_ | with_reducible refine below_drewN ?_ _ | with_reducible refine below_then ?_ (by with_reducible assumption)))⟩
        have h : (aboveI f 1 == 0) = true := by assumption
        simp only [beq_iff_eq] at h
        simp [allow4, h]
      · have r0 : (aboveI f 1 == 0) = false := by first | assumption | (simp; omega)
        refine wp_loop_rounds 6 ?_
        rw [rounds_succ]
        go_wp2
        obtain ⟨w2, hw, hb2, H2⟩ := undraw (m := nq) hb1 H1
        rw [← hw]; clear hw
        go_quiet ((go_at_call 30; exact above_quiet H2 HV.out _ _ (by decide) (by decide)))
        go_wp2
        · go_ret
          refine ⟨ret_bool ?_, (by repeat (first | with_reducible exact Below.refl _ _ | with_reducible assumption | with_reducible refine below_alloc ?_ _ | with_reducible refine Below.setCell ?_ (by first | exact Nat.le_refl _ | (simp; done) | (simp; omega)) _ | with_reducible refine Below.drew ?_ | with_reducible refine below_drewN ?_ _ | with_reducible refine below_then ?_ (by with_reducible assumption)))⟩
          have h : aboveI f 1 - 2 < floorI ma mb mc x / 2 := by assumption
          have h2 : ¬ floorI ma mb mc x / 2 ≤ aboveI f 1 - pw 1 := by rw [HP.out]; omega
          simp [allow4, h2]
        have r1 : floorI ma mb mc x / 2 ≤ aboveI f 1 - 2 := by assumption
        rw [rounds_succ]
        go_wp2
        go_ret
        refine ⟨ret_bool ?_, (by repeat (first | with_reducible exact Below.refl _ _ | with_reducible assumption | with_reducible refine below_alloc ?_ _ | with_reducible refine Below.setCell ?_ (by first | exact Nat.le_refl _ | (simp; done) | (simp; omega)) _ | with_reducible refine Below.drew ?_ | with_reducible refine below_drewN ?_ _ | with_reducible refine below_then ?_ (by with_reducible assumption)))⟩
        simp only [beq_eq_false_iff_ne, ne_eq] at r0
        simp [allow4, HP.out, r0, r1, hA]
  · have e1 : IntKind.i64.wrap 4 = 4 := by decide
    have e2 : IntKind.i64.wrap (aboveI f 0 - 4) = aboveI f 0 - 4 := IntWalk.i64_in _ (by omega)
    have HP : Hid (pw 2 = 4) := Lib.hid (by decide)
    rcases Int.lt_or_le (aboveI f 0 - 4) (floorI ma mb mc x) with hA | hA
    · have HF : Hid (allow4 f (floorI ma mb mc x) 2 = false) := by
        have : ¬ floorI ma mb mc x ≤ aboveI f 0 - pw 2 := by rw [HP.out]; omega
        exact Lib.hid (by simp [allow4, this])
      go_quiet ((go_at_call 30; exact above_quiet H1 HV.out _ _ (by decide) (by decide)))
      go_wp2
      go_ret
      exact ⟨ret_bool HF.out.symm, (by repeat (first | with_reducible exact Below.refl _ _ | with_reducible assumption | with_reducible refine below_alloc ?_ _ | with_reducible refine Below.setCell ?_ (by first | exact Nat.le_refl _ | (simp; done) | (simp; omega)) _ | with_reducible refine Below.drew ?_ | with_reducible refine below_drewN ?_ _ | with_reducible refine below_then ?_ (by with_reducible assumption)))⟩
    · have hD : decide (aboveI f 0 - 4 < floorI ma mb mc x) = false := by simp; omega
      have q1 : IntKind.i64.wrap (aboveI f 1 - 4) = aboveI f 1 - 4 := IntWalk.i64_in _ (by omega)
      have q2 : IntKind.i64.wrap (aboveI f 2 - 4) = aboveI f 2 - 4 := IntWalk.i64_in _ (by omega)
      have o2 : IntKind.i64.wrap 2 = 2 := by decide
      have q3 : IntKind.i64.wrap (aboveI f 3 - 4) = aboveI f 3 - 4 := IntWalk.i64_in _ (by omega)
      have o3 : IntKind.i64.wrap 3 = 3 := by decide
      have q4 : IntKind.i64.wrap (aboveI f 4 - 4) = aboveI f 4 - 4 := IntWalk.i64_in _ (by omega)
      have o4 : IntKind.i64.wrap 4 = 4 := by decide
      have o1 : IntKind.i64.wrap 1 = 1 := by decide
      go_quiet ((go_at_call 30; exact above_quiet H1 HV.out _ _ (by decide) (by decide)))
      go_wp2
      · go_ret
        refine ⟨ret_bool ?_, (by repeat (first | with_reducible exact Below.refl _ _ | with_reducible assumption | with_reducible refine below_alloc ?_ _ | with_reducible refine Below.setCell ?_ (by first | exact Nat.le_refl _ | (simp; done) | (simp; omega)) _ | with_reducible refine Below.drew ?_ | with_reducible refine below_drewN ?_ _ | with_reducible refine below_then ?_ (by with_reducible assumption)))⟩
        have h : (aboveI f 2 == 0) = true := by assumption
        simp only [beq_iff_eq] at h
        simp [allow4, h]
      · have r0 : (aboveI f 2 == 0) = false := by first | assumption | (simp; omega)
        refine wp_loop_rounds 6 ?_
        rw [rounds_succ]
        go_wp2
        obtain ⟨w2, hw, hb2, H2⟩ := undraw (m := nq) hb1 H1
        rw [← hw]; clear hw
        go_quiet ((go_at_call 30; exact above_quiet H2 HV.out _ _ (by decide) (by decide)))
        go_wp2
        · go_ret
          refine ⟨ret_bool ?_, (by repeat (first | with_reducible exact Below.refl _ _ | with_reducible assumption | with_reducible refine below_alloc ?_ _ | with_reducible refine Below.setCell ?_ (by first | exact Nat.le_refl _ | (simp; done) | (simp; omega)) _ | with_reducible refine Below.drew ?_ | with_reducible refine below_drewN ?_ _ | with_reducible refine below_then ?_ (by with_reducible assumption)))⟩
          have h : aboveI f 1 - 4 < floorI ma mb mc x / 2 := by assumption
          have h2 : ¬ floorI ma mb mc x / 2 ≤ aboveI f 1 - pw 2 := by rw [HP.out]; omega
          simp [allow4, h2]
        have r1 : floorI ma mb mc x / 2 ≤ aboveI f 1 - 4 := by assumption
        rw [rounds_succ]
        go_wp2
        obtain ⟨w3, hw, hb3, H3⟩ := undraw (m := nq) hb2 H2
        rw [← hw]; clear hw
        go_quiet ((go_at_call 30; exact above_quiet H3 HV.out _ _ (by decide) (by decide)))
        go_wp2
        · go_ret
          refine ⟨ret_bool ?_, (by repeat (first | with_reducible exact Below.refl _ _ | with_reducible assumption | with_reducible refine below_alloc ?_ _ | with_reducible refine Below.setCell ?_ (by first | exact Nat.le_refl _ | (simp; done) | (simp; omega)) _ | with_reducible refine Below.drew ?_ | with_reducible refine below_drewN ?_ _ | with_reducible refine below_then ?_ (by with_reducible assumption)))⟩
          have h : aboveI f 2 - 4 < floorI ma mb mc x / 4 := by assumption
          have h2 : ¬ floorI ma mb mc x / 4 ≤ aboveI f 2 - pw 2 := by rw [HP.out]; omega
          simp [allow4, h2]
        have r2 : floorI ma mb mc x / 4 ≤ aboveI f 2 - 4 := by assumption
        rw [rounds_succ]
        go_wp2
        go_ret
        refine ⟨ret_bool ?_, (by repeat (first | with_reducible exact Below.refl _ _ | with_reducible assumption | with_reducible refine below_alloc ?_ _ | with_reducible refine Below.setCell ?_ (by first | exact Nat.le_refl _ | (simp; done) | (simp; omega)) _ | with_reducible refine Below.drew ?_ | with_reducible refine below_drewN ?_ _ | with_reducible refine below_then ?_ (by with_reducible assumption)))⟩
        simp only [beq_eq_false_iff_ne, ne_eq] at r0
        simp [allow4, HP.out, r0, r1, r2, hA]
  · have e1 : IntKind.i64.wrap 8 = 8 := by decide
    have e2 : IntKind.i64.wrap (aboveI f 0 - 8) = aboveI f 0 - 8 := IntWalk.i64_in _ (by omega)
    have HP : Hid (pw 3 = 8) := Lib.hid (by decide)
    rcases Int.lt_or_le (aboveI f 0 - 8) (floorI ma mb mc x) with hA | hA
    · have HF : Hid (allow4 f (floorI ma mb mc x) 3 = false) := by
        have : ¬ floorI ma mb mc x ≤ aboveI f 0 - pw 3 := by rw [HP.out]; omega
        exact Lib.hid (by simp [allow4, this])
      go_quiet ((go_at_call 30; exact above_quiet H1 HV.out _ _ (by decide) (by decide)))
      go_wp2
      go_ret
      exact ⟨ret_bool HF.out.symm, (by repeat (first | with_reducible exact Below.refl _ _ | with_reducible assumption | with_reducible refine below_alloc ?_ _ | with_reducible refine Below.setCell ?_ (by first | exact Nat.le_refl _ | (simp; done) | (simp; omega)) _ | with_reducible refine Below.drew ?_ | with_reducible refine below_drewN ?_ _ | with_reducible refine below_then ?_ (by with_reducible assumption)))⟩
    · have hD : decide (aboveI f 0 - 8 < floorI ma mb mc x) = false := by simp; omega
      have q1 : IntKind.i64.wrap (aboveI f 1 - 8) = aboveI f 1 - 8 := IntWalk.i64_in _ (by omega)
      have q2 : IntKind.i64.wrap (aboveI f 2 - 8) = aboveI f 2 - 8 := IntWalk.i64_in _ (by omega)
      have o2 : IntKind.i64.wrap 2 = 2 := by decide
      have q3 : IntKind.i64.wrap (aboveI f 3 - 8) = aboveI f 3 - 8 := IntWalk.i64_in _ (by omega)
      have o3 : IntKind.i64.wrap 3 = 3 := by decide
      have q4 : IntKind.i64.wrap (aboveI f 4 - 8) = aboveI f 4 - 8 := IntWalk.i64_in _ (by omega)
      have o4 : IntKind.i64.wrap 4 = 4 := by decide
      have o1 : IntKind.i64.wrap 1 = 1 := by decide
      go_quiet ((go_at_call 30; exact above_quiet H1 HV.out _ _ (by decide) (by decide)))
      go_wp2
      · go_ret
        refine ⟨ret_bool ?_, (by repeat (first | with_reducible exact Below.refl _ _ | with_reducible assumption | with_reducible refine below_alloc ?_ _ | with_reducible refine Below.setCell ?_ (by first | exact Nat.le_refl _ | (simp; done) | (simp; omega)) _ | with_reducible refine Below.drew ?_ | with_reducible refine below_drewN ?_ _ | with_reducible refine below_then ?_ (by with_reducible assumption)))⟩
        have h : (aboveI f 3 == 0) = true := by assumption
        simp only [beq_iff_eq] at h
        simp [allow4, h]
      · have r0 : (aboveI f 3 == 0) = false := by first | assumption | (simp; omega)
        refine wp_loop_rounds 6 ?_
        rw [rounds_succ]
        go_wp2
        obtain ⟨w2, hw, hb2, H2⟩ := undraw (m := nq) hb1 H1
        rw [← hw]; clear hw
        go_quiet ((go_at_call 30; exact above_quiet H2 HV.out _ _ (by decide) (by decide)))
        go_wp2
        · go_ret
          refine ⟨ret_bool ?_, (by repeat (first | with_reducible exact Below.refl _ _ | with_reducible assumption | with_reducible refine below_alloc ?_ _ | with_reducible refine Below.setCell ?_ (by first | exact Nat.le_refl _ | (simp; done) | (simp; omega)) _ | with_reducible refine Below.drew ?_ | with_reducible refine below_drewN ?_ _ | with_reducible refine below_then ?_ (by with_reducible assumption)))⟩
          have h : aboveI f 1 - 8 < floorI ma mb mc x / 2 := by assumption
          have h2 : ¬ floorI ma mb mc x / 2 ≤ aboveI f 1 - pw 3 := by rw [HP.out]; omega
          simp [allow4, h2]
        have r1 : floorI ma mb mc x / 2 ≤ aboveI f 1 - 8 := by assumption
        rw [rounds_succ]
        go_wp2
        obtain ⟨w3, hw, hb3, H3⟩ := undraw (m := nq) hb2 H2
        rw [← hw]; clear hw
        go_quiet ((go_at_call 30; exact above_quiet H3 HV.out _ _ (by decide) (by decide)))
        go_wp2
        · go_ret
          refine ⟨ret_bool ?_, (by repeat (first | with_reducible exact Below.refl _ _ | with_reducible assumption | with_reducible refine below_alloc ?_ _ | with_reducible refine Below.setCell ?_ (by first | exact Nat.le_refl _ | (simp; done) | (simp; omega)) _ | with_reducible refine Below.drew ?_ | with_reducible refine below_drewN ?_ _ | with_reducible refine below_then ?_ (by with_reducible assumption)))⟩
          have h : aboveI f 2 - 8 < floorI ma mb mc x / 4 := by assumption
          have h2 : ¬ floorI ma mb mc x / 4 ≤ aboveI f 2 - pw 3 := by rw [HP.out]; omega
          simp [allow4, h2]
        have r2 : floorI ma mb mc x / 4 ≤ aboveI f 2 - 8 := by assumption
        rw [rounds_succ]
        go_wp2
        obtain ⟨w4, hw, hb4, H4⟩ := undraw (m := nq) hb3 H3
        rw [← hw]; clear hw
        go_quiet ((go_at_call 30; exact above_quiet H4 HV.out _ _ (by decide) (by decide)))
        go_wp2
        · go_ret
          refine ⟨ret_bool ?_, (by repeat (first | with_reducible exact Below.refl _ _ | with_reducible assumption | with_reducible refine below_alloc ?_ _ | with_reducible refine Below.setCell ?_ (by first | exact Nat.le_refl _ | (simp; done) | (simp; omega)) _ | with_reducible refine Below.drew ?_ | with_reducible refine below_drewN ?_ _ | with_reducible refine below_then ?_ (by with_reducible assumption)))⟩
          have h : aboveI f 3 - 8 < floorI ma mb mc x / 8 := by assumption
          have h2 : ¬ floorI ma mb mc x / 8 ≤ aboveI f 3 - pw 3 := by rw [HP.out]; omega
          simp [allow4, h2]
        have r3 : floorI ma mb mc x / 8 ≤ aboveI f 3 - 8 := by assumption
        rw [rounds_succ]
        go_wp2
        go_ret
        refine ⟨ret_bool ?_, (by repeat (first | with_reducible exact Below.refl _ _ | with_reducible assumption | with_reducible refine below_alloc ?_ _ | with_reducible refine Below.setCell ?_ (by first | exact Nat.le_refl _ | (simp; done) | (simp; omega)) _ | with_reducible refine Below.drew ?_ | with_reducible refine below_drewN ?_ _ | with_reducible refine below_then ?_ (by with_reducible assumption)))⟩
        simp only [beq_eq_false_iff_ne, ne_eq] at r0
        simp [allow4, HP.out, r0, r1, r2, r3, hA]
  · have e1 : IntKind.i64.wrap 16 = 16 := by decide
    have e2 : IntKind.i64.wrap (aboveI f 0 - 16) = aboveI f 0 - 16 := IntWalk.i64_in _ (by omega)
    have HP : Hid (pw 4 = 16) := Lib.hid (by decide)
    rcases Int.lt_or_le (aboveI f 0 - 16) (floorI ma mb mc x) with hA | hA
    · have HF : Hid (allow4 f (floorI ma mb mc x) 4 = false) := by
        have : ¬ floorI ma mb mc x ≤ aboveI f 0 - pw 4 := by rw [HP.out]; omega
        exact Lib.hid (by simp [allow4, this])
      go_quiet ((go_at_call 30; exact above_quiet H1 HV.out _ _ (by decide) (by decide)))
      go_wp2
      go_ret
      exact ⟨ret_bool HF.out.symm, (by repeat (first | with_reducible exact Below.refl _ _ | with_reducible assumption | with_reducible refine below_alloc ?_ _ | with_reducible refine Below.setCell ?_ (by first | exact Nat.le_refl _ | (simp; done) | (simp; omega)) _ | with_reducible refine Below.drew ?_ | with_reducible refine below_drewN ?_ _ | with_reducible refine below_then ?_ (by with_reducible assumption)))⟩
    · have hD : decide (aboveI f 0 - 16 < floorI ma mb mc x) = false := by simp; omega
      have q1 : IntKind.i64.wrap (aboveI f 1 - 16) = aboveI f 1 - 16 := IntWalk.i64_in _ (by omega)
      have q2 : IntKind.i64.wrap (aboveI f 2 - 16) = aboveI f 2 - 16 := IntWalk.i64_in _ (by omega)
      have o2 : IntKind.i64.wrap 2 = 2 := by decide
      have q3 : IntKind.i64.wrap (aboveI f 3 - 16) = aboveI f 3 - 16 := IntWalk.i64_in _ (by omega)
      have o3 : IntKind.i64.wrap 3 = 3 := by decide
      have q4 : IntKind.i64.wrap (aboveI f 4 - 16) = aboveI f 4 - 16 := IntWalk.i64_in _ (by omega)
      have o4 : IntKind.i64.wrap 4 = 4 := by decide
      have o1 : IntKind.i64.wrap 1 = 1 := by decide
      go_quiet ((go_at_call 30; exact above_quiet H1 HV.out _ _ (by decide) (by decide)))
      go_wp2
      · go_ret
        refine ⟨ret_bool ?_, (by repeat (first | with_reducible exact Below.refl _ _ | with_reducible assumption | with_reducible refine below_alloc ?_ _ | with_reducible refine Below.setCell ?_ (by first | exact Nat.le_refl _ | (simp; done) | (simp; omega)) _ | with_reducible refine Below.drew ?_ | with_reducible refine below_drewN ?_ _ | with_reducible refine below_then ?_ (by with_reducible assumption)))⟩
        have h : (aboveI f 4 == 0) = true := by assumption
        simp only [beq_iff_eq] at h
        simp [allow4, h]
      · have r0 : (aboveI f 4 == 0) = false := by first | assumption | (simp; omega)
        refine wp_loop_rounds 6 ?_
        rw [rounds_succ]
        go_wp2
        obtain ⟨w2, hw, hb2, H2⟩ := undraw (m := nq) hb1 H1
        rw [← hw]; clear hw
        go_quiet ((go_at_call 30; exact above_quiet H2 HV.out _ _ (by decide) (by decide)))
        go_wp2
        · go_ret
          refine ⟨ret_bool ?_, (by repeat (first | with_reducible exact Below.refl _ _ | with_reducible assumption | with_reducible refine below_alloc ?_ _ | with_reducible refine Below.setCell ?_ (by first | exact Nat.le_refl _ | (simp; done) | (simp; omega)) _ | with_reducible refine Below.drew ?_ | with_reducible refine below_drewN ?_ _ | with_reducible refine below_then ?_ (by with_reducible assumption)))⟩
          have h : aboveI f 1 - 16 < floorI ma mb mc x / 2 := by assumption
          have h2 : ¬ floorI ma mb mc x / 2 ≤ aboveI f 1 - pw 4 := by rw [HP.out]; omega
          simp [allow4, h2]
        have r1 : floorI ma mb mc x / 2 ≤ aboveI f 1 - 16 := by assumption
        rw [rounds_succ]
        go_wp2
        obtain ⟨w3, hw, hb3, H3⟩ := undraw (m := nq) hb2 H2
        rw [← hw]; clear hw
        go_quiet ((go_at_call 30; exact above_quiet H3 HV.out _ _ (by decide) (by decide)))
        go_wp2
        · go_ret
          refine ⟨ret_bool ?_, (by repeat (first | with_reducible exact Below.refl _ _ | with_reducible assumption | with_reducible refine below_alloc ?_ _ | with_reducible refine Below.setCell ?_ (by first | exact Nat.le_refl _ | (simp; done) | (simp; omega)) _ | with_reducible refine Below.drew ?_ | with_reducible refine below_drewN ?_ _ | with_reducible refine below_then ?_ (by with_reducible assumption)))⟩
          have h : aboveI f 2 - 16 < floorI ma mb mc x / 4 := by assumption
          have h2 : ¬ floorI ma mb mc x / 4 ≤ aboveI f 2 - pw 4 := by rw [HP.out]; omega
          simp [allow4, h2]
        have r2 : floorI ma mb mc x / 4 ≤ aboveI f 2 - 16 := by assumption
        rw [rounds_succ]
        go_wp2
        obtain ⟨w4, hw, hb4, H4⟩ := undraw (m := nq) hb3 H3
        rw [← hw]; clear hw
        go_quiet ((go_at_call 30; exact above_quiet H4 HV.out _ _ (by decide) (by decide)))
        go_wp2
        · go_ret
          refine ⟨ret_bool ?_, (by repeat (first | with_reducible exact Below.refl _ _ | with_reducible assumption | with_reducible refine below_alloc ?_ _ | with_reducible refine Below.setCell ?_ (by first | exact Nat.le_refl _ | (simp; done) | (simp; omega)) _ | with_reducible refine Below.drew ?_ | with_reducible refine below_drewN ?_ _ | with_reducible refine below_then ?_ (by with_reducible assumption)))⟩
          have h : aboveI f 3 - 16 < floorI ma mb mc x / 8 := by assumption
          have h2 : ¬ floorI ma mb mc x / 8 ≤ aboveI f 3 - pw 4 := by rw [HP.out]; omega
          simp [allow4, h2]
        have r3 : floorI ma mb mc x / 8 ≤ aboveI f 3 - 16 := by assumption
        rw [rounds_succ]
        go_wp2
        obtain ⟨w5, hw, hb5, H5⟩ := undraw (m := nq) hb4 H4
        rw [← hw]; clear hw
        go_quiet ((go_at_call 30; exact above_quiet H5 HV.out _ _ (by decide) (by decide)))
        go_wp2
        · go_ret
          refine ⟨ret_bool ?_, (by repeat (first | with_reducible exact Below.refl _ _ | with_reducible assumption | with_reducible refine below_alloc ?_ _ | with_reducible refine Below.setCell ?_ (by first | exact Nat.le_refl _ | (simp; done) | (simp; omega)) _ | with_reducible refine Below.drew ?_ | with_reducible refine below_drewN ?_ _ | with_reducible refine below_then ?_ (by with_reducible assumption)))⟩
          have h : aboveI f 4 - 16 < floorI ma mb mc x / 16 := by assumption
          have h2 : ¬ floorI ma mb mc x / 16 ≤ aboveI f 4 - pw 4 := by rw [HP.out]; omega
          simp [allow4, h2]
        have r4 : floorI ma mb mc x / 16 ≤ aboveI f 4 - 16 := by assumption
        rw [rounds_succ]
        go_wp2
        go_ret
        refine ⟨ret_bool ?_, (by repeat (first | with_reducible exact Below.refl _ _ | with_reducible assumption | with_reducible refine below_alloc ?_ _ | with_reducible refine Below.setCell ?_ (by first | exact Nat.le_refl _ | (simp; done) | (simp; omega)) _ | with_reducible refine Below.drew ?_ | with_reducible refine below_drewN ?_ _ | with_reducible refine below_then ?_ (by with_reducible assumption)))⟩
        simp only [beq_eq_false_iff_ne, ne_eq] at r0
        simp [allow4, HP.out, r0, r1, r2, r3, r4, hA]
end Go.Proofs.Ytneibbefkjjlnaa
