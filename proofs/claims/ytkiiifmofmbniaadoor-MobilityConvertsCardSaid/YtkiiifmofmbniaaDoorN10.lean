/- Walks: lists that are computed from a set of frames, of the document. -/
import Derived.Test.YtkiiifmofmbniaaDoorN9
import Derived.Test.YtkiiifmofmbniaaDoorN3
namespace Go.Proofs.YtkiiifmofmbniaaDoor
open Go.RowKit Go.Over Go.Mob Go.Can Go.Seg Go.Grow
set_option maxRecDepth 100000 in set_option maxHeartbeats 3200000 in
theorem all_56 (a : Option Addr) (l : List Int) (c f k : Nat) (w : World) (HI : Ints w a l) (hl : l.length = 256) (hk : k < 5) (hf : f + 2 ^ k ≤ 256) :
    Calls Tryd.prog 56 #[.slice a 256 c, .int .i64 f, .int .i64 k] w fun e w' => ∃ b : Bool, e = .returned (.bool b) ∧ w = w' ∧ (b = true ↔ ∀ i, f ≤ i → i < f + 2 ^ k → l.getD i 0 ≠ 0) := by
  obtain ⟨m, hm⟩ : ∃ m, 2 ^ k = m := ⟨_, rfl⟩
  have HW := Lib.hid (show wrap64 ((2 : Int) ^ k) = (m : Int) by rw [← hm]; exact wrap_pow hk)
  have hwm : ∀ i : Nat, i = k → wrap64 ((2 : Int) ^ i) = (m : Int) := fun i hi => by subst hi; exact HW.out
  rw [hm] at hf ⊢
  have HL := Lib.hid hl
  have hm16 : m ≤ 16 := by rw [← hm]; exact pow_le16 hk
  clear hm hl
  go_enter Tryd.func56, Tryd.ntmps56
  go_wp2
  go_loopg [7] m (fun gg v7 wr => ∃ q : Nat, q + gg = m ∧ v7 = .int .i64 ((f + q : Nat) : Int) ∧ (∀ i, f ≤ i → i < f + q → l.getD i 0 ≠ 0) ∧ w = wr)
  case atStart => exact ⟨0, by omega, by rw [Nat.add_zero], fun i h1 h2 => absurd h2 (by omega), rfl⟩
  case round =>
    obtain ⟨q, hq, rfl, hA, rfl⟩ := hrel
    obtain ⟨xq, hxq⟩ : ∃ x, f + q = x := ⟨_, rfl⟩
    have HA := Lib.hid hA
    clear hA
    cases gk with
    | zero =>
      have tq : decide ((xq : Int) < (f : Int) + (m : Int)) = false := by simp; omega
      have HF := Lib.hid (show ∀ i, f ≤ i → i < f + m → l.getD i 0 ≠ 0 from fun i h1 h2 => HA.out i h1 (by omega))
      rw [hxq]
      clear hq hxq
      go_wp2
      go_ret
      exact ⟨true, rfl, rfl, ⟨fun _ => HF.out, fun _ => rfl⟩⟩
    | succ gg =>
      have hqm : q < m := by omega
      have tq : decide ((xq : Int) < (f : Int) + (m : Int)) = true := by simp; omega
      have hx256 : xq < 256 := by omega
      obtain ⟨y, hy⟩ := get_some HL.out hx256
      obtain ⟨b, off, rfl, cx⟩ := HI.at hy
      have hyd : l.getD xq 0 = y := by rw [List.getD_eq_getElem?_getD, hy]; rfl
      have HYD := Lib.hid hyd; have HQ := Lib.hid hq; have HXQ := Lib.hid hxq
      rw [hxq]
      clear hyd hy hq hxq
      by_cases hy0 : y = 0
      · have ty0 : (y == 0) = true := by simpa using hy0
        have HF := Lib.hid (show ¬ ∀ i, f ≤ i → i < f + m → l.getD i 0 ≠ 0 from fun h => h xq (by have := HXQ.out; omega) (by have := HXQ.out; omega) (by rw [HYD.out]; exact hy0))
        clear hy0
        go_wp2
        go_ret
        exact ⟨false, rfl, rfl, ⟨fun h => (by cases h), fun h => absurd h HF.out⟩⟩
      · have ty0 : (y == 0) = false := by simpa using hy0
        have HA2 := Lib.hid (show ∀ i, f ≤ i → i < f + (q + 1) → l.getD i 0 ≠ 0 from fun i h1 h2 => by
          by_cases e : i = xq
          · rw [e, HYD.out]; exact hy0
          · exact HA.out i h1 (by have := HXQ.out; omega))
        clear hy0
        go_wp2
        go_roundg gg
        case rel => exact ⟨q + 1, by have := HQ.out; omega, by have := HXQ.out; rw [show f + (q + 1) = xq + 1 by omega]; go_num, HA2.out, rfl⟩
        case measure => omega
end Go.Proofs.YtkiiifmofmbniaaDoor
