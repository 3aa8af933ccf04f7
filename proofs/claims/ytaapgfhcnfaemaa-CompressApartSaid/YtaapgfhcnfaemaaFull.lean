/- The reference's Filled. -/
import Derived.Test.YtaapgfhcnfaemaaMatch2
namespace Go.Proofs.Ytaapgfhcnfaemaa
open Go.RowKit Go.Over Go.Zip Go.Seg
theorem full_of {l : List Int} (h : l.length = 32) (hm : ∀ m, m < 32 → get l m = get l 0) : fullB l = true := by
  simp only [fullB, Bool.and_eq_true, decide_eq_true_eq, List.all_eq_true, beq_iff_eq]
  refine ⟨h, fun x hx => ?_⟩
  obtain ⟨m, hlt, rfl⟩ := List.getElem_of_mem hx
  rw [← hm m (by omega), get_lt hlt]
theorem full_no {l : List Int} {k : Nat} (h : k < l.length) (hm : get l k ≠ get l 0) : fullB l = false := by
  rw [Bool.eq_false_iff]
  intro hf
  simp only [fullB, Bool.and_eq_true, decide_eq_true_eq, List.all_eq_true, beq_iff_eq] at hf
  refine hm ?_
  rw [get_lt h]
  exact hf.2 _ (List.getElem_mem h)
set_option maxHeartbeats 3200000 in
theorem rfilled_no (a : Option Addr) (l : List Int) (c : Nat) (w : World) (H : Bytes w a l) (h : l.length ≠ 32) :
    Calls Try.prog 15 #[.slice a l.length c] w fun e w' => e = .returned (.tuple #[.int .u8 0, .bool false]) ∧ w = w' := by
  have hl := H.1
  have hn : ((l.length : Int) != 32) = true := by simp; omega
  clear h
  go_enter Try.func15, Try.ntmps15
  go_wp2
  go_ret2
  exact ⟨rfl, rfl⟩
set_option maxHeartbeats 3200000 in
theorem rfilled_32 (a : Option Addr) (l : List Int) (c : Nat) (w : World) (H : Bytes w a l) (h : l.length = 32) :
    Calls Try.prog 15 #[.slice a 32 c] w fun e w' => e = .returned (.tuple #[.int .u8 (if fullB l = true then get l 0 else 0), .bool (fullB l)]) ∧ Below w.heap.size w w' := by
  obtain ⟨b, off, rfl, _⟩ := H.2.1 (by omega)
  have HL := Lib.hid h; clear h
  obtain ⟨x, hx⟩ : ∃ x, x = (if fullB l = true then get l 0 else 0) := ⟨_, rfl⟩
  obtain ⟨y, hy⟩ : ∃ y, y = fullB l := ⟨_, rfl⟩
  rw [← hx, ← hy]
  have HX := Lib.hid hx; have HY := Lib.hid hy; clear hx hy
  go_enter Try.func15, Try.ntmps15
  go_wp2
  go_loopw [4] (fun n wr => ∃ j : Nat, n = .int .i64 j ∧ j ≤ 32 ∧ (∀ m, m < j → get l m = get l 0) ∧ Below w.heap.size w wr) (fun n _ => 32 - (intOf n).toNat)
  case atStart => exact ⟨0, rfl, by omega, fun m hm => by omega, (by repeat (first | with_reducible exact Below.refl _ _ | with_reducible assumption | with_reducible refine below_alloc ?_ _ | with_reducible refine Below.setCell ?_ (by first | exact Nat.le_refl _ | (simp; done) | (simp; omega)) _ | with_reducible refine Below.drew ?_ | with_reducible refine below_drewN ?_ _ | with_reducible refine below_then ?_ (by with_reducible assumption)))⟩
  case round =>
    obtain ⟨j, rfl, hj, hall, hB⟩ := hrel
    have hL := HL.out
    obtain ⟨b', off', hab, hcell⟩ := (H.below hB).2.1 (by omega)
    cases hab
    have c0 : wr.cell? ⟨b, off, none⟩ = some (.int .u8 (get l 0)) := hcell 0 (by omega)
    by_cases h1 : j < 32
    · have cj := hcell j (by omega)
      clear hcell hL
      by_cases h2 : get l j = get l 0
      · have hall2 : ∀ m, m < j + 1 → get l m = get l 0 := by
          intro m hm
          by_cases h : m < j
          · exact hall m h
          · obtain rfl : m = j := by omega
            exact h2
        have b2 : (get l j != get l 0) = false := by simp [h2]
        have HA := Lib.hid hall2
        clear h2 hall hall2
        go_wp2
        go_quiet (fail)
        go_wp2
        go_roundw
        case rel => exact ⟨j + 1, by go_num, by omega, HA.out, below_drewN hB _⟩
        case measure => simp [intOf]; omega
      · have hf := full_no (by have := HL.out; omega) h2
        have b2 : (get l j != get l 0) = true := by simp [h2]
        have HA := Lib.hid hf
        clear h2 hall hf
        go_wp2
        go_quiet (fail)
        go_wp2
        go_ret2
        rw [HX.out, HY.out, HA.out]
        exact ⟨rfl, below_drewN hB _⟩
    · clear hcell
      have hf := full_of HL.out (fun m hm => hall m (by omega))
      have HA := Lib.hid hf
      clear hf hall hL
      go_wp2
      go_ret2
      rw [HX.out, HY.out, HA.out, if_pos rfl]
      exact ⟨rfl, hB⟩
end Go.Proofs.Ytaapgfhcnfaemaa
