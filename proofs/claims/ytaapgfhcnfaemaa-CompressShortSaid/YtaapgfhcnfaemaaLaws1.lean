/- The walks of the laws on Pack and Unpack. -/
import Derived.Test.YtaapgfhcnfaemaaAwake
namespace Go.Proofs.Ytaapgfhcnfaemaa
open Go.RowKit Go.Over Go.Zip Go.Seg
/-- Bytes that came in, as far as a law asks. -/
structure In (w : World) (a : Option Addr) (l : List Int) (n c : Nat) : Prop where
  hb : n ≤ 100 → Bytes w a l
  hn : l.length = n
  hc : n ≤ c
  hm : c ≤ maxLen
  hz : a = none → c = 0
theorem Str.nil (w : World) : Str w none 0 0 ⟨#[]⟩ := fun w' _ => run_convert_bytes_nil w' 22 5 Try.underlying22 Try.underlying5 _ 0 9 Try.underlying9
set_option maxRecDepth 100000 in set_option maxHeartbeats 1600000 in
theorem law_packs (a : Option Addr) (l : List Int) (n c : Nat) (w : World) (H : In w a l n c) :
    Calls Try.prog 3 #[.slice a n c] w fun e w' => e = .returned (.bool true) ∧ Below w.heap.size w w' := by
  rcases Nat.lt_or_ge 40 n with hn | hn
  · have hn' : (40 : Int) < (n : Int) := by omega
    clear hn
    go_enter Try.func3, Try.ntmps3
    go_wp2_with (go_at_call 11; refine (awake_any _).mono ?_; rintro e w' ⟨rfl, hz⟩)
    go_ret
    exact ⟨rfl, (by repeat (first | with_reducible exact Below.refl _ _ | with_reducible assumption | with_reducible refine below_alloc ?_ _ | with_reducible refine Below.drew ?_ | with_reducible refine below_drewN ?_ _ | with_reducible refine below_then ?_ (by with_reducible assumption)))⟩
  · have hn' : (n : Int) ≤ 40 := by omega
    have HB := H.hb (by omega)
    by_cases h32 : n = 32
    · subst h32
      obtain ⟨s, hs⟩ : ∃ s, strOfNums (packL l) = s := ⟨_, rfl⟩
      obtain ⟨k, hk⟩ : ∃ k, (packL l).length = k := ⟨_, rfl⟩
      have HS := Lib.hid hs; have HK := Lib.hid hk; have HL := Lib.hid H.hn; clear hs hk
      obtain ⟨b', off', rfl, _⟩ := HB.2.1 (by rw [HL.out]; decide)
      obtain ⟨x, hx⟩ : ∃ x, (if fullB l = true then Zip.get l 0 else 0) = x := ⟨_, rfl⟩
      obtain ⟨y, hy⟩ : ∃ y, fullB l = y := ⟨_, rfl⟩
      have HX := Lib.hid hx; have HY := Lib.hid hy; clear hx hy
      go_enter Try.func3, Try.ntmps3
      go_wp2_with fail
      refine (pack_any_12 _ l c _ HB HL.out H.hc H.hm).mono ?_
      rintro e w1 ⟨v, rfl, hN, b1⟩
      obtain ⟨a1, c1, rfl, _, _, A⟩ := hN.open HK.out
      clear hN
      go_wp2_with fail
      refine (pack_any_13 _ l c _ (HB.below b1) HL.out).mono ?_
      rintro e w2 ⟨v, rfl, hN, b2⟩
      obtain ⟨a2, c2, rfl, _, _, B⟩ := hN.open HK.out
      clear hN
      go_wp2_with fail
      refine (filled_32 _ l c _ (HB.below (below_then b1 b2)) HL.out H.hc H.hm).mono ?_
      rintro e w3 ⟨rfl, b3⟩
      rw [HX.out, HY.out]
      go_wp2_with fail
      refine (rfilled_32 _ l c _ (HB.below (below_then (below_then b1 b2) b3)) HL.out).mono ?_
      rintro e w4 ⟨rfl, b4⟩
      rw [HX.out, HY.out]
      have ta : Str w4 a1 k c1 s := (A.below (show Below _ w1 w4 from (by repeat (first | with_reducible exact Below.refl _ _ | with_reducible assumption | with_reducible refine below_alloc ?_ _ | with_reducible refine Below.drew ?_ | with_reducible refine below_drewN ?_ _ | with_reducible refine below_then ?_ (by with_reducible assumption))))).strs HK.out HS.out
      have tb : Str w4 a2 k c2 s := (B.below (show Below _ w2 w4 from (by repeat (first | with_reducible exact Below.refl _ _ | with_reducible assumption | with_reducible refine below_alloc ?_ _ | with_reducible refine Below.drew ?_ | with_reducible refine below_drewN ?_ _ | with_reducible refine below_then ?_ (by with_reducible assumption))))).strs HK.out HS.out
      have ua := ta _ (Below.refl _ _)
      have ub := tb _ (Below.refl _ _)
      clear ta tb A B
      go_wp2_with (go_at_call 11; refine (awake_any _).mono ?_; rintro e w' ⟨rfl, hz⟩)
      all_goals
        go_ret
        exact ⟨rfl, (by repeat (first | with_reducible exact Below.refl _ _ | with_reducible assumption | with_reducible refine below_alloc ?_ _ | with_reducible refine Below.drew ?_ | with_reducible refine below_drewN ?_ _ | with_reducible refine below_then ?_ (by with_reducible assumption)))⟩
    · have hne : l.length ≠ 32 := by rw [H.hn]; exact h32
      have e1 := pack_no_12 a l c w HB hne
      have e2 := pack_no_13 a l c w HB hne
      have e3 := filled_no a l c w HB hne
      have e4 := rfilled_no a l c w HB hne
      rw [H.hn] at e1 e2 e3 e4
      have E1 := Lib.hid e1; have E2 := Lib.hid e2; have E3 := Lib.hid e3; have E4 := Lib.hid e4
      have un := Str.nil w w (Below.refl _ _)
      clear e1 e2 e3 e4 hne h32
      go_enter Try.func3, Try.ntmps3
      go_wp2_with (first | (go_at_call 12; refine E1.out.mono ?_; rintro e w' ⟨rfl, rfl⟩) | (go_at_call 13; refine E2.out.mono ?_; rintro e w' ⟨rfl, rfl⟩) | (go_at_call 14; refine E3.out.mono ?_; rintro e w' ⟨rfl, rfl⟩) | (go_at_call 15; refine E4.out.mono ?_; rintro e w' ⟨rfl, rfl⟩) | (go_at_call 11; refine (awake_any _).mono ?_; rintro e w' ⟨rfl, hz⟩))
      go_ret
      exact ⟨rfl, (by repeat (first | with_reducible exact Below.refl _ _ | with_reducible assumption | with_reducible refine below_alloc ?_ _ | with_reducible refine Below.drew ?_ | with_reducible refine below_drewN ?_ _ | with_reducible refine below_then ?_ (by with_reducible assumption)))⟩
end Go.Proofs.Ytaapgfhcnfaemaa
