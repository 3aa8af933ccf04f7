/- The walk of the law on reclaim's cycle. -/
import Derived.Test.YtneibbefkjjlnaaWalks5
namespace Go.Proofs.Ytneibbefkjjlnaa
open Go.RowKit Go.Over
/-- What stays of the world in the loop. -/
def Marks3 (w : World) (a b c : Int) (W : World) : Prop :=
  Below w.heap.size w W ∧ w.heap.size < W.heap.size ∧ W.cell? ⟨w.heap.size, 0, none⟩ = some (.int .i64 a) ∧ W.cell? ⟨w.heap.size, 1, none⟩ = some (.int .i64 b) ∧ W.cell? ⟨w.heap.size, 2, none⟩ = some (.int .i64 c)
theorem Marks3.next {w W W1 : World} {a b c : Int} (h : Marks3 w a b c W) (hb : Below W.heap.size W W1) : Marks3 w a b c W1 :=
  ⟨below_then h.1 hb, Nat.lt_of_lt_of_le h.2.1 hb.size, cell_later hb h.2.2.1, cell_later hb h.2.2.2.1, cell_later hb h.2.2.2.2⟩
set_option maxHeartbeats 1600000 in
theorem law_cycle (a : Option Addr) (n c : Nat) (f : Nat → Int) (ma mb mc : Int) (w : World) (H : SliceInts w a n f) :
    Calls Try.prog 8 #[.agg #[.int .i64 ma, .int .i64 mb, .int .i64 mc], .slice a n c] w fun e w' => e = .returned (.bool true) ∧ Below w.heap.size w w' := by
  rcases Nat.lt_or_ge 60 n with hn | hn
  · have hn' : (60 : Int) < (n : Int) := by omega
    clear hn
    go_enter Try.func8, Try.ntmps8
    go_wp2_with (go_at_call 10; refine (awake_any _).mono ?_; rintro e w1 ⟨rfl, hb⟩; obtain ⟨hc, hf, hz⟩ := bcell2 hb; try simp only [World.size_alloc] at hc hf hz)
    go_ret
    exact ⟨rfl, (by repeat (first | with_reducible exact Below.refl _ _ | with_reducible assumption | with_reducible refine below_alloc ?_ _ | with_reducible refine Below.setCell ?_ (by first | exact Nat.le_refl _ | (simp; done) | (simp; omega)) _ | with_reducible refine Below.drew ?_ | with_reducible refine below_drewN ?_ _ | with_reducible refine below_then ?_ (by with_reducible assumption)))⟩
  · have hn' : (n : Int) ≤ 60 := by omega
    by_cases hK : checkI ma mb mc = 0
    · have hm := checkI_ok hK
      have WK : ∀ x r, wakeB ma mb mc x r = (decide (x < mb) || (r && decide (x < mc))) := by
        intro x r; unfold wakeB; rw [hK]; simp
      have HW := Lib.hid WK
      clear WK
      go_enter Try.func8, Try.ntmps8
      go_wp2_with (first | (go_at_call 10; refine (awake_any _).mono ?_; rintro e w1 ⟨rfl, hb⟩; obtain ⟨hc, hf, hz⟩ := bcell2 hb; try simp only [World.size_alloc] at hc hf hz) | (go_at_call 13; refine (check_any _ _ _ _).mono ?_; rintro e w1 ⟨rfl, hb⟩; obtain ⟨hc, hf, hz⟩ := bcell2 hb; try simp only [World.size_alloc] at hc hf hz))
      refine wp_forget (Marks3 w ma mb mc) ?_ ?_
      · refine ⟨(by repeat (first | with_reducible exact Below.refl _ _ | with_reducible assumption | with_reducible refine below_alloc ?_ _ | with_reducible refine Below.setCell ?_ (by first | exact Nat.le_refl _ | (simp; done) | (simp; omega)) _ | with_reducible refine Below.drew ?_ | with_reducible refine below_drewN ?_ _ | with_reducible refine below_then ?_ (by with_reducible assumption))), by omega, ?_, ?_, ?_⟩ <;> (first | (simp [go_sem, *]; done) | (simp [go_sem, ↓IntWalk.iteOmega, *]; done))
      intro W hM
      clear hb hc hf hz
      go_loopw [5, 25] (fun r i wr => ∃ (k : Nat) (rb : Bool), k ≤ n ∧ i = .int .i64 k ∧ r = .bool rb ∧ Marks3 w ma mb mc wr) (fun _ i _ => n - (intOf i).toNat)
      case atStart => exact ⟨0, false, Nat.zero_le _, rfl, rfl, hM⟩
      case round =>
        obtain ⟨k, rb, hk, rfl, rfl, hM2⟩ := hrel
        clear hM
        obtain ⟨hB, hs, g1, g2, g3⟩ := hM2
        have HM2 := Lib.hid (show Marks3 w ma mb mc wr from ⟨hB, hs, g1, g2, g3⟩)
        by_cases hlt : k < n
        · obtain ⟨b, off, rfl, hcc⟩ := (H.below hB).2.1 (by omega)
          have hck := hcc k hlt
          clear hcc
          have fin : ∀ (r2 : Bool) (w1 : World), Below wr.heap.size wr w1 → (∃ (k_1 : Nat) (rb : Bool), k_1 ≤ n ∧ Value.int IntKind.i64 ((k : Int) + 1) = Value.int IntKind.i64 k_1 ∧ Value.bool r2 = Value.bool rb ∧ Marks3 w ma mb mc w1) :=
            fun r2 w1 hb => ⟨k + 1, r2, by omega, by go_num, rfl, HM2.out.next hb⟩
          rcases Int.lt_or_le (f k) mb with h1 | h1
          · have W1 : wakeB ma mb mc (f k) rb = true := by rw [HW.out]; simp [h1]
            go_wp2_with (go_at_call 17; refine (wake_any _ _ _ _ _ _).mono ?_; rintro e w1 ⟨rfl, hb⟩; obtain ⟨hc, hf, hz⟩ := bcell2 hb; try simp only [World.size_alloc] at hc hf hz)
            go_roundw
            case rel => exact fin _ _ hb
            case measure => simp [intOf]; omega
          · rcases Int.lt_or_le (f k) mc with h2 | h2
            · have W1 : wakeB ma mb mc (f k) rb = rb := by rw [HW.out]; simp [Int.not_lt.2 h1, h2]
              cases rb
              all_goals
                go_wp2_with (go_at_call 17; refine (wake_any _ _ _ _ _ _).mono ?_; rintro e w1 ⟨rfl, hb⟩; obtain ⟨hc, hf, hz⟩ := bcell2 hb; try simp only [World.size_alloc] at hc hf hz)
                go_roundw
                case rel => exact fin _ _ hb
                case measure => simp [intOf]; omega
            · have W1 : wakeB ma mb mc (f k) rb = false := by rw [HW.out]; simp [Int.not_lt.2 h1, Int.not_lt.2 h2]
              go_wp2_with (go_at_call 17; refine (wake_any _ _ _ _ _ _).mono ?_; rintro e w1 ⟨rfl, hb⟩; obtain ⟨hc, hf, hz⟩ := bcell2 hb; try simp only [World.size_alloc] at hc hf hz)
              go_roundw
              case rel => exact fin _ _ hb
              case measure => simp [intOf]; omega
        · go_wp2
          go_ret
          exact ⟨rfl, hB⟩
    · have hK' : (checkI ma mb mc != 0) = true := by simpa using hK
      have W0 : wakeB ma mb mc 0 true = false := by unfold wakeB; simp [hK]
      clear hn
      have HK := Lib.hid hK; clear hK
      go_enter Try.func8, Try.ntmps8
      go_wp2_with (first | (go_at_call 10; refine (awake_any _).mono ?_; rintro e w1 ⟨rfl, hb⟩; obtain ⟨hc, hf, hz⟩ := bcell2 hb; try simp only [World.size_alloc] at hc hf hz) | (go_at_call 13; refine (check_any _ _ _ _).mono ?_; rintro e w1 ⟨rfl, hb⟩; obtain ⟨hc, hf, hz⟩ := bcell2 hb; try simp only [World.size_alloc] at hc hf hz) | (go_at_call 17; refine (wake_any _ _ _ _ _ _).mono ?_; rintro e w1 ⟨rfl, hb⟩; obtain ⟨hc, hf, hz⟩ := bcell2 hb; try simp only [World.size_alloc] at hc hf hz))
      go_ret
      exact ⟨rfl, (by repeat (first | with_reducible exact Below.refl _ _ | with_reducible assumption | with_reducible refine below_alloc ?_ _ | with_reducible refine Below.setCell ?_ (by first | exact Nat.le_refl _ | (simp; done) | (simp; omega)) _ | with_reducible refine Below.drew ?_ | with_reducible refine below_drewN ?_ _ | with_reducible refine below_then ?_ (by with_reducible assumption)))⟩
end Go.Proofs.Ytneibbefkjjlnaa
