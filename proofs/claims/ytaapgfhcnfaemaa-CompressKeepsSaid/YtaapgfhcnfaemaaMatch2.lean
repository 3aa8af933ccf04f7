/- The program's search for a match, and the reference's Filled. -/
import Derived.Test.YtaapgfhcnfaemaaMatch
import Derived.Deep.LoopGhost
namespace Go.Proofs.Ytaapgfhcnfaemaa
open Go.RowKit Go.Over Go.Zip Go.Seg
theorem Len.mono {l : List Int} {i o j k : Nat} (h : Len l i o j) (hk : k ≤ j) : Len l i o k := ⟨by have := h.1; omega, fun m hm => h.2 m (by omega)⟩
set_option maxHeartbeats 3200000 in
theorem match_32 (a : Option Addr) (l : List Int) (c i : Nat) (w : World) (H : Bytes w a l) (h : l.length = 32) (hi : i < 32) :
    Calls Try.prog 32 #[.slice a 32 c, .int .i64 i] w fun e w' => e = .returned (.tuple #[.int .i64 (matchL l i).1, .int .i64 (matchL l i).2]) ∧ Below w.heap.size w w' := by
  obtain ⟨b, off, rfl, _⟩ := H.2.1 (by omega)
  have HL := Lib.hid h; clear h
  go_enter Try.func32, Try.ntmps32
  go_wp2
  go_step3
  go_wp2
  go_step3
  go_wp2
  go_loopg [4, 5, 6] 33 (fun g x y z wr => ∃ r m p : Nat, r + g = 34 ∧ x = .int .i64 m ∧ y = .int .i64 p ∧ z = .int .i64 r ∧ 1 ≤ r ∧ r ≤ i + 1 ∧ best l i (r - 1) = (m, p) ∧ Below w.heap.size w wr)
  case atStart => exact ⟨1, 0, 0, rfl, rfl, rfl, rfl, by omega, by omega, rfl, (by repeat (first | with_reducible exact Below.refl _ _ | with_reducible assumption | with_reducible refine below_alloc ?_ _ | with_reducible refine Below.setCell ?_ (by first | exact Nat.le_refl _ | (simp; done) | (simp; omega)) _ | with_reducible refine Below.drew ?_ | with_reducible refine below_drewN ?_ _ | with_reducible refine below_then ?_ (by with_reducible assumption)))⟩
  case round =>
    obtain ⟨r, m, p, hrg, rfl, rfl, rfl, hr1, hri, hb, hB⟩ := hrel
    have hbb := best_bound HL.out hi (r - 1)
    rw [hb] at hbb
    have hm32 : m ≤ 32 := by omega
    have HBB := Lib.hid hbb; clear hbb
    cases gk with
    | zero => omega
    | succ g =>
    have HRG := Lib.hid hrg; clear hrg
    by_cases h1 : r ≤ i
    · have hs0 := best_succ l i (r - 1)
      rw [hb, show r - 1 + 1 = r by omega] at hs0
      have HS0 := Lib.hid hs0; clear hs0
      have HB := Lib.hid hb; clear hb
      go_wp2
      go_loopg [7] (m + 1) (fun g2 n wi => ∃ j : Nat, j + g2 = m + 1 ∧ n = .int .i64 j ∧ Len l i r j ∧ Below w.heap.size w wi)
      case atStart => exact ⟨0, by omega, rfl, .zero (by have := HL.out; omega), hB⟩
      case round =>
        obtain ⟨j, hjg, rfl, hj, hB2⟩ := hrel
        clear hB
        cases gk with
        | zero =>
          obtain rfl : j = m + 1 := by omega
          have hgt : m < lenAt l i r := hj.le
          have hL0 : Len l i r m := hj.mono (by omega)
          have hbs := HS0.out
          rw [if_pos hgt] at hbs
          have HBS := Lib.hid hbs; clear hbs hj hjg HS0
          go_wp2
          go_loopg [4] (32 - m) (fun g2 n wi => ∃ j : Nat, j + g2 = 32 ∧ n = .int .i64 j ∧ Len l i r j ∧ Below w.heap.size w wi)
          case atStart => exact ⟨m, by omega, rfl, hL0, hB2⟩
          case round =>
            obtain ⟨j, hjg, rfl, hj, hB3⟩ := hrel
            clear hL0 hgt
            have HJG := Lib.hid hjg; clear hjg
            have hL := HL.out
            obtain ⟨b', off', hab, hcell⟩ := (H.below hB3).2.1 (by omega)
            cases hab
            obtain ⟨s, hs⟩ : ∃ s, s = i + j := ⟨_, rfl⟩
            obtain ⟨q, hq⟩ : ∃ q, q = s - r := ⟨_, rfl⟩
            have hj1 := hj.1
            have hj2 : j ≤ 32 := by omega
            have e1 : IntKind.i64.wrap ((i : Int) + (j : Int)) = (s : Int) := by rw [IntWalk.i64_in _ (by omega)]; omega
            have e2 : IntKind.i64.wrap ((s : Int) - (r : Int)) = (q : Int) := by rw [IntWalk.i64_in _ (by omega)]; omega
            by_cases h1 : s < 32
            · have cs := hcell s (by omega)
              have cq := hcell q (by omega)
              clear hcell hL
              have hlt1 : ¬ ((q : Int) < 0) := by omega
              have hlt2 : ((q : Int) < 32) := by omega
              have d1 : decide ((s : Int) < 32) = true := by simp; omega
              by_cases h2 : get l s = get l q
              · have HJ := Lib.hid (hj.step (by have := HL.out; omega) (by rw [← hs, ← hq]; exact h2))
                have b2 : (get l s == get l q) = true := by simp [h2]
                have HS := Lib.hid hs; have HQ := Lib.hid hq; clear hs hq h2 hj
                cases gk with
                | zero => have := HJG.out; have := HS.out; omega
                | succ g3 =>
                go_wp2
                go_quiet (fail)
                go_wp2
                go_roundg g3
                case rel => exact ⟨j + 1, by have := HJG.out; omega, by go_num, HJ.out, below_drewN hB3 _⟩
                case measure => omega
              · have hle := hj.stop (fun hc => h2 (by rw [hq, hs]; exact hc.2))
                have b2 : (get l s == get l q) = false := by simp [h2]
                have HLE := Lib.hid hle
                have HS := Lib.hid hs; have HQ := Lib.hid hq; clear hs hq h2 hj hle
                go_wp2
                go_quiet (fail)
                go_wp2
                go_roundg g
                case rel => exact ⟨r + 1, j, r, by have := HRG.out; omega, rfl, rfl, by go_num, by omega, by omega, by rw [Nat.add_sub_cancel, HBS.out, HLE.out], below_drewN hB3 _⟩
                case measure => omega
            · have hle := hj.stop (fun hc => h1 (by have := HL.out; omega))
              have HLE := Lib.hid hle
              have d1 : decide ((s : Int) < 32) = false := by simp; omega
              have HS := Lib.hid hs; clear hs hq h1 hj hle e2 hcell hL
              go_wp2
              go_quiet (fail)
              go_wp2
              go_roundg g
              case rel => exact ⟨r + 1, j, r, by have := HRG.out; omega, rfl, rfl, by go_num, by omega, by omega, by rw [Nat.add_sub_cancel, HBS.out, HLE.out], below_drewN hB3 _⟩
              case measure => omega
        | succ g2 =>
          have hjm2 : j ≤ m := by omega
          have HJG := Lib.hid hjg; clear hjg
          have hL := HL.out
          obtain ⟨b', off', hab, hcell⟩ := (H.below hB2).2.1 (by omega)
          cases hab
          obtain ⟨s, hs⟩ : ∃ s, s = i + j := ⟨_, rfl⟩
          obtain ⟨q, hq⟩ : ∃ q, q = s - r := ⟨_, rfl⟩
          have hj1 := hj.1
          have hj2 : j ≤ 32 := by omega
          have e1 : IntKind.i64.wrap ((i : Int) + (j : Int)) = (s : Int) := by rw [IntWalk.i64_in _ (by omega)]; omega
          have e2 : IntKind.i64.wrap ((s : Int) - (r : Int)) = (q : Int) := by rw [IntWalk.i64_in _ (by omega)]; omega
          by_cases h1 : s < 32
          · have cs := hcell s (by omega)
            have cq := hcell q (by omega)
            clear hcell hL
            have hlt1 : ¬ ((q : Int) < 0) := by omega
            have hlt2 : ((q : Int) < 32) := by omega
            have d1 : decide ((s : Int) ≥ 32) = false := by simp; omega
            by_cases h2 : get l s = get l q
            · have HJ := Lib.hid (hj.step (by have := HL.out; omega) (by rw [← hs, ← hq]; exact h2))
              have b2 : (get l s != get l q) = false := by simp [h2]
              have HS := Lib.hid hs; have HQ := Lib.hid hq; clear hs hq h2 hj
              go_wp2
              go_quiet (fail)
              go_wp2
              go_roundg g2
              case rel => exact ⟨j + 1, by have := HJG.out; omega, by go_num, HJ.out, below_drewN hB2 _⟩
              case measure => omega
            · have hle := hj.stop (fun hc => h2 (by rw [hq, hs]; exact hc.2))
              have b2 : (get l s != get l q) = true := by simp [h2]
              have hbs := HS0.out
              rw [hle, if_neg (by omega)] at hbs
              have HBS := Lib.hid hbs
              have HS := Lib.hid hs; have HQ := Lib.hid hq; clear hs hq h2 hj hbs hle
              go_wp2
              go_quiet (fail)
              go_wp2
              go_roundg g
              case rel => exact ⟨r + 1, m, p, by have := HRG.out; omega, rfl, rfl, by go_num, by omega, by omega, HBS.out, below_drewN hB2 _⟩
              case measure => omega
          · have hle := hj.stop (fun hc => h1 (by have := HL.out; omega))
            have d1 : decide ((s : Int) ≥ 32) = true := by simp; omega
            have hbs := HS0.out
            rw [hle, if_neg (by omega)] at hbs
            have HBS := Lib.hid hbs
            have HS := Lib.hid hs; clear hs hq h1 hj hbs hle e2 hcell hL
            go_wp2
            go_quiet (fail)
            go_wp2
            go_roundg g
            case rel => exact ⟨r + 1, m, p, by have := HRG.out; omega, rfl, rfl, by go_num, by omega, by omega, HBS.out, below_drewN hB2 _⟩
            case measure => omega
    · obtain rfl : r = i + 1 := by omega
      go_wp2
      try rw [Exit.noGoto_ret]
      go_ret2
      unfold matchL
      rw [show i + 1 - 1 = i by omega] at hb
      rw [hb]
      exact ⟨rfl, hB⟩
end Go.Proofs.Ytaapgfhcnfaemaa
