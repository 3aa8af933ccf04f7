/- The walks of the laws on Unpack, on what comes back, and on cut encodings. -/
import Derived.Test.YtaapgfhcnfaemaaLaws1
namespace Go.Proofs.Ytaapgfhcnfaemaa
open Go.RowKit Go.Over Go.Zip Go.Seg
set_option maxRecDepth 100000 in set_option maxHeartbeats 1600000 in
theorem law_unpacks (a : Option Addr) (l : List Int) (n c : Nat) (w : World) (H : In w a l n c) :
    Calls Try.prog 4 #[.slice a n c] w fun e w' => e = .returned (.bool true) ∧ Below w.heap.size w w' := by
  rcases Nat.lt_or_ge 80 n with hn | hn
  · have hn' : (80 : Int) < (n : Int) := by omega
    clear hn
    go_enter Try.func4, Try.ntmps4
    go_wp2_with (go_at_call 11; refine (awake_any _).mono ?_; rintro e w' ⟨rfl, hz⟩)
    go_ret
    exact ⟨rfl, (by repeat (first | with_reducible exact Below.refl _ _ | with_reducible assumption | with_reducible refine below_alloc ?_ _ | with_reducible refine Below.drew ?_ | with_reducible refine below_drewN ?_ _ | with_reducible refine below_then ?_ (by with_reducible assumption)))⟩
  · have hn' : (n : Int) ≤ 80 := by omega
    have HB := H.hb (by omega)
    have HL := Lib.hid H.hn
    cases hu : unpackL l with
    | none =>
      have HU := Lib.hid hu; clear hu
      have un := fun w' => Str.nil w w'
      go_enter Try.func4, Try.ntmps4
      go_wp2_with fail
      refine (unpack_16 _ l n c _ HB HL.out (by omega) H.hc H.hm).mono ?_
      rintro e w1 ⟨v, k, rfl, b1, _, h⟩
      obtain ⟨rfl, rfl⟩ := h HU.out
      go_wp2_with fail
      refine (runpack_17 _ l n c _ (HB.below b1) HL.out (by omega) H.hc H.hm).mono ?_
      rintro e w2 ⟨v, k, rfl, b2, _, h⟩
      obtain ⟨rfl, rfl⟩ := h HU.out
      have u2 := un w2 (below_then b1 b2)
      clear un
      go_wp2_with (go_at_call 11; refine (awake_any _).mono ?_; rintro e w' ⟨rfl, hz⟩)
      go_ret
      exact ⟨rfl, (by repeat (first | with_reducible exact Below.refl _ _ | with_reducible assumption | with_reducible refine below_alloc ?_ _ | with_reducible refine Below.drew ?_ | with_reducible refine below_drewN ?_ _ | with_reducible refine below_then ?_ (by with_reducible assumption)))⟩
    | some p =>
      have hp := unpack_len hu
      obtain ⟨s, hs⟩ : ∃ s, strOfNums p = s := ⟨_, rfl⟩
      have HU := Lib.hid hu; have HP := Lib.hid hp; have HS := Lib.hid hs; clear hu hp hs
      go_enter Try.func4, Try.ntmps4
      go_wp2_with fail
      refine (unpack_16 _ l n c _ HB HL.out (by omega) H.hc H.hm).mono ?_
      rintro e w1 ⟨v, k, rfl, b1, h, _⟩
      obtain ⟨rfl, hN⟩ := h p HU.out
      obtain ⟨a1, c1, rfl, _, _, A⟩ := hN.open HP.out
      clear hN h
      go_wp2_with fail
      refine (runpack_17 _ l n c _ (HB.below b1) HL.out (by omega) H.hc H.hm).mono ?_
      rintro e w2 ⟨v, k, rfl, b2, h, _⟩
      obtain ⟨rfl, hN⟩ := h p HU.out
      obtain ⟨a2, c2, rfl, _, _, B⟩ := hN.open HP.out
      clear hN h
      have ta : Str w2 a1 32 c1 s := (A.below b2).strs HP.out HS.out
      have tb : Str w2 a2 32 c2 s := B.strs HP.out HS.out
      have ua := ta _ (Below.refl _ _)
      have ub := tb _ (Below.refl _ _)
      clear ta tb A B
      go_wp2_with (go_at_call 11; refine (awake_any _).mono ?_; rintro e w' ⟨rfl, hz⟩)
      go_ret
      exact ⟨rfl, (by repeat (first | with_reducible exact Below.refl _ _ | with_reducible assumption | with_reducible refine below_alloc ?_ _ | with_reducible refine Below.drew ?_ | with_reducible refine below_drewN ?_ _ | with_reducible refine below_then ?_ (by with_reducible assumption)))⟩
set_option maxRecDepth 100000 in set_option maxHeartbeats 1600000 in
theorem law_again (a : Option Addr) (l : List Int) (n c : Nat) (w : World) (H : In w a l n c) :
    Calls Try.prog 9 #[.slice a n c] w fun e w' => e = .returned (.bool true) ∧ Below w.heap.size w w' := by
  rcases Nat.lt_or_ge 80 n with hn | hn
  · have hn' : (80 : Int) < (n : Int) := by omega
    clear hn
    go_enter Try.func9, Try.ntmps9
    go_wp2_with (go_at_call 11; refine (awake_any _).mono ?_; rintro e w' ⟨rfl, hz⟩)
    go_ret
    exact ⟨rfl, (by repeat (first | with_reducible exact Below.refl _ _ | with_reducible assumption | with_reducible refine below_alloc ?_ _ | with_reducible refine Below.drew ?_ | with_reducible refine below_drewN ?_ _ | with_reducible refine below_then ?_ (by with_reducible assumption)))⟩
  · have hn' : (n : Int) ≤ 80 := by omega
    have HB := H.hb (by omega)
    have HL := Lib.hid H.hn
    cases hu : unpackL l with
    | none =>
      have HU := Lib.hid hu; clear hu
      go_enter Try.func9, Try.ntmps9
      go_wp2_with fail
      refine (unpack_16 _ l n c _ HB HL.out (by omega) H.hc H.hm).mono ?_
      rintro e w1 ⟨v, k, rfl, b1, _, h⟩
      obtain ⟨rfl, rfl⟩ := h HU.out
      clear h
      go_wp2_with (go_at_call 11; refine (awake_any _).mono ?_; rintro e w' ⟨rfl, hz⟩)
      go_ret
      exact ⟨rfl, (by repeat (first | with_reducible exact Below.refl _ _ | with_reducible assumption | with_reducible refine below_alloc ?_ _ | with_reducible refine Below.drew ?_ | with_reducible refine below_drewN ?_ _ | with_reducible refine below_then ?_ (by with_reducible assumption)))⟩
    | some p =>
      have hp := unpack_len hu
      obtain ⟨s, hs⟩ : ∃ s, strOfNums p = s := ⟨_, rfl⟩
      obtain ⟨q, hq⟩ : ∃ q, (packL p).length = q := ⟨_, rfl⟩
      have hq33 : q ≤ 33 := by rw [← hq]; exact packL_length hp
      have HQ := Lib.hid hq; have HR := Lib.hid (unpack_pack hp)
      have HU := Lib.hid hu; have HP := Lib.hid hp; have HS := Lib.hid hs; clear hu hp hs hq
      go_enter Try.func9, Try.ntmps9
      go_wp2_with fail
      refine (unpack_16 _ l n c _ HB HL.out (by omega) H.hc H.hm).mono ?_
      rintro e w1 ⟨v, k, rfl, b1, h, _⟩
      obtain ⟨rfl, hN⟩ := h p HU.out
      obtain ⟨a1, c1, rfl, g1, m1, A⟩ := hN.open HP.out
      clear hN h
      go_wp2_with fail
      refine (pack_any_12 _ p c1 _ A HP.out g1 m1).mono ?_
      rintro e w2 ⟨v, rfl, hN, b2⟩
      obtain ⟨a2, c2, rfl, g2, m2, B⟩ := hN.open HQ.out
      clear hN
      go_wp2_with fail
      refine (unpack_16 _ (packL p) q c2 _ B HQ.out (by omega) g2 m2).mono ?_
      rintro e w3 ⟨v, k, rfl, b3, h, _⟩
      obtain ⟨rfl, hN⟩ := h p HR.out
      obtain ⟨a3, c3, rfl, _, _, C⟩ := hN.open HP.out
      clear hN h
      have ta : Str w3 a1 32 c1 s := (A.below (below_then b2 b3)).strs HP.out HS.out
      have tb : Str w3 a3 32 c3 s := C.strs HP.out HS.out
      have ua := ta _ (Below.refl _ _)
      have ub := tb _ (Below.refl _ _)
      clear ta tb A B C
      go_wp2_with (go_at_call 11; refine (awake_any _).mono ?_; rintro e w' ⟨rfl, hz⟩)
      go_ret
      exact ⟨rfl, (by repeat (first | with_reducible exact Below.refl _ _ | with_reducible assumption | with_reducible refine below_alloc ?_ _ | with_reducible refine Below.drew ?_ | with_reducible refine below_drewN ?_ _ | with_reducible refine below_then ?_ (by with_reducible assumption)))⟩
theorem bytes_box (w : World) (t : TypeId) (l : List Int) (cs : Array Value) (hc : cs = (l.map (Value.int .u8)).toArray) (hl : l.length ≤ 1000000) (hb : ∀ x ∈ l, 0 ≤ x ∧ x ≤ 255) : Bytes (w.alloc (.cells cs t)) (some ⟨w.heap.size, 0, none⟩) l := by
  refine ⟨hl, fun _ => ⟨_, 0, rfl, fun i hi => ?_⟩, hb⟩
  rw [World.cell?, heap_new, hc]
  simp [hi, Zip.get]
set_option maxRecDepth 100000 in set_option maxHeartbeats 1600000 in
theorem law_back (l : List Int) (hl : l.length = 32) (hb : ∀ x ∈ l, 0 ≤ x ∧ x ≤ 255) (cs : Array Value) (hcs : cs = (l.map (Value.int .u8)).toArray) (w : World) :
    Calls Try.prog 5 #[.agg cs] w fun e w' => e = .returned (.bool true) ∧ Below w.heap.size w w' := by
  have HB := bytes_box w 29 l cs hcs (by omega) hb
  obtain ⟨s, hs⟩ : ∃ s, strOfNums l = s := ⟨_, rfl⟩
  obtain ⟨q, hq⟩ : ∃ q, (packL l).length = q := ⟨_, rfl⟩
  have hq33 : q ≤ 33 := by rw [← hq]; exact packL_length hl
  have HQ := Lib.hid hq; have HR := Lib.hid (unpack_pack hl)
  have HL := Lib.hid hl; have HS := Lib.hid hs; clear hl hs hq hcs hb
  go_enter Try.func5, Try.ntmps5
  go_wp2_with fail
  refine (pack_any_12 _ l 32 _ HB HL.out (by decide) (by unfold maxLen; omega)).mono ?_
  rintro e w2 ⟨v, rfl, hN, b2⟩
  obtain ⟨a2, c2, rfl, g2, m2, B⟩ := hN.open HQ.out
  clear hN
  go_wp2_with fail
  refine (unpack_16 _ (packL l) q c2 _ B HQ.out (by omega) g2 m2).mono ?_
  rintro e w3 ⟨v, k, rfl, b3, h, _⟩
  obtain ⟨rfl, hN⟩ := h l HR.out
  obtain ⟨a3, c3, rfl, _, _, C⟩ := hN.open HL.out
  clear hN h
  have ta : Str w3 (some ⟨w.heap.size, 0, none⟩) 32 32 s := (HB.below (below_then b2 b3)).strs HL.out HS.out
  have tb : Str w3 a3 32 c3 s := C.strs HL.out HS.out
  have ua := ta _ (Below.refl _ _)
  have ub := tb _ (Below.refl _ _)
  clear ta tb HB B C
  have hB3 : Below w.heap.size w w3 := (by repeat (first | with_reducible exact Below.refl _ _ | with_reducible assumption | with_reducible refine below_alloc ?_ _ | with_reducible refine Below.drew ?_ | with_reducible refine below_drewN ?_ _ | with_reducible refine below_then ?_ (by with_reducible assumption)))
  clear b2 b3
  go_wp2_with (first | (go_at_call 18; refine (bound_18 _).mono ?_; rintro e w' ⟨rfl, rfl⟩) | (go_at_call 11; refine (awake_any _).mono ?_; rintro e w' ⟨rfl, hz⟩))
  go_ret
  exact ⟨rfl, (by repeat (first | with_reducible exact Below.refl _ _ | with_reducible assumption | with_reducible refine below_alloc ?_ _ | with_reducible refine Below.drew ?_ | with_reducible refine below_drewN ?_ _ | with_reducible refine below_then ?_ (by with_reducible assumption)))⟩
end Go.Proofs.Ytaapgfhcnfaemaa
