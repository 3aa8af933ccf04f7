/- The walk of the law on cut and lengthened encodings. -/
import Derived.Test.YtaapgfhcnfaemaaLaws2
namespace Go.Proofs.Ytaapgfhcnfaemaa
open Go.RowKit Go.Over Go.Zip Go.Seg
set_option maxRecDepth 100000 in set_option maxHeartbeats 1600000 in
theorem law_cut (a : Option Addr) (l : List Int) (n c : Nat) (x : Int) (hx0 : 0 ≤ x) (hx1 : x ≤ 255) (w : World) (H : In w a l n c) :
    Calls Try.prog 8 #[.slice a n c, .int .u8 x] w fun e w' => e = .returned (.bool true) ∧ Below w.heap.size w w' := by
  rcases Nat.lt_or_ge 80 n with hn | hn
  · have hn' : (80 : Int) < (n : Int) := by omega
    clear hn
    go_enter Try.func8, Try.ntmps8
    go_wp2_with (go_at_call 11; refine (awake_any _).mono ?_; rintro e w' ⟨rfl, hz⟩)
    go_ret
    exact ⟨rfl, (by repeat (first | with_reducible exact Below.refl _ _ | with_reducible assumption | with_reducible refine below_alloc ?_ _ | with_reducible refine Below.drew ?_ | with_reducible refine below_drewN ?_ _ | with_reducible refine below_then ?_ (by with_reducible assumption)))⟩
  · have hn' : (n : Int) ≤ 80 := by omega
    have HB := H.hb (by omega)
    have HL := Lib.hid H.hn
    have hcn := H.hc
    cases hu : unpackL l with
    | none =>
      have HU := Lib.hid hu; clear hu
      go_enter Try.func8, Try.ntmps8
      go_wp2_with fail
      refine (unpack_16 _ l n c _ HB HL.out (by omega) H.hc H.hm).mono ?_
      rintro e w1 ⟨v, k, rfl, b1, _, h⟩
      obtain ⟨rfl, rfl⟩ := h HU.out
      clear h
      go_wp2_with (go_at_call 11; refine (awake_any _).mono ?_; rintro e w' ⟨rfl, hz⟩)
      go_ret
      exact ⟨rfl, (by repeat (first | with_reducible exact Below.refl _ _ | with_reducible assumption | with_reducible refine below_alloc ?_ _ | with_reducible refine Below.drew ?_ | with_reducible refine below_drewN ?_ _ | with_reducible refine below_then ?_ (by with_reducible assumption)))⟩
    | some p =>
      have hp := unpack_len hu
      have h0 : 0 < n := by
        rcases Nat.eq_zero_or_pos n with h | h
        · rw [List.eq_nil_of_length_eq_zero (HL.out.trans h)] at hu; cases hu
        · exact h
      obtain ⟨i0, hi0, hz0, hz1, hz2⟩ := info_parts Try.info5
      obtain ⟨b, off, rfl, _⟩ := HB.2.1 (by rw [HL.out]; exact h0)
      have HT : Bytes w (some ⟨b, off, none⟩) (l.take (n - 1)) := HB.take (n - 1)
      have hcut := unpack_cut hu
      rw [List.dropLast_eq_take, HL.out] at hcut
      have HC := Lib.hid hcut; have HX := Lib.hid (unpack_ext x hu)
      have HTL := Lib.hid (show (l.take (n - 1)).length = n - 1 by rw [List.length_take, HL.out]; omega)
      have HXL := Lib.hid (show (l ++ [x]).length = n + 1 by rw [List.length_append, HL.out]; rfl)
      have hbb := HB.2.2
      have HXB := Lib.hid (show ∀ y ∈ l ++ [x], 0 ≤ y ∧ y ≤ 255 by
        intro y hy
        rcases List.mem_append.1 hy with hy | hy
        · exact hbb y hy
        · rw [List.mem_singleton.1 hy]; exact ⟨hx0, hx1⟩)
      have HU := Lib.hid hu; have HP := Lib.hid hp; clear hu hp hcut hbb
      have hn0 : ((n : Int) == 0) = false := by simp; omega
      have e1 : (n : Int) - 1 = ((n - 1 : Nat) : Int) := by omega
      go_enter Try.func8, Try.ntmps8
      go_wp2_with fail
      refine (unpack_16 _ l n c _ HB HL.out (by omega) H.hc H.hm).mono ?_
      rintro e w1 ⟨v, k, rfl, b1, h, _⟩
      obtain ⟨rfl, hN⟩ := h p HU.out
      obtain ⟨a1, c1, rfl, _, _, _⟩ := hN.open HP.out
      clear hN h
      go_wp2_with fail
      refine (unpack_16 _ (l.take (n - 1)) _ _ _ (HT.below b1) HTL.out (by omega) (by omega) H.hm).mono ?_
      rintro e w2 ⟨v, k, rfl, b2, _, h⟩
      obtain ⟨rfl, rfl⟩ := h HC.out
      clear h e1
      have b12 := below_then b1 b2
      go_wp2_with (at_builtin; refine wpList_append_where rfl (.tmp 50) (.tmp 51) rfl hi0 hz0 hz1 hz2 _ [] rfl (owns_empty w2) ⟨b, off, none⟩ n c l rfl HL.out (Bytes.cells (HB.below (below_alloc b12 _))) ?c1 ?c2 ?_)
      case c1 => simp; omega
      case c2 => simp
      intro v3 w3 hown hgrow _
      have hb3 : Below w2.heap.size w2 w3 := (below_alloc (Below.refl _ _) _).grown hgrow (by simp) (fun q hq => by simp [Value.ownBlock] at hq; omega)
      have hown : Owns w3 w2.heap.size v3 l := by first | exact hown | simpa using hown
      clear hgrow
      go_wp2_with (at_builtin; refine wpList_append_where rfl (.tmp 52) (.tmp 54) rfl hi0 hz0 hz1 hz2 _ l rfl (hown.alloc _) ⟨w3.heap.size, 0, none⟩ 1 1 [x] rfl rfl (one_cell w3 _) ?d1 ?d2 ?_)
      case d1 => rw [HL.out]; omega
      case d2 => have := hb3.size; simp; omega
      intro v4 w4 hown4 hgrow _
      have hb4 : Below w2.heap.size w2 w4 := (below_alloc hb3 _).grown hgrow (by have := hb3.size; simp; omega) (fun q hq => (hown.lt q hq).1)
      clear hgrow hown
      have hN4 := Owns.new hown4 HXB.out (by rw [HXL.out]; omega)
      obtain ⟨a4, c4, rfl, g4, m4, H4⟩ := hN4.open HXL.out
      clear hown4 hN4
      go_wp2_with fail
      refine (unpack_16 _ (l ++ [x]) (n + 1) c4 _ H4 HXL.out (by omega) g4 m4).mono ?_
      rintro e w5 ⟨v, k, rfl, b5, _, h⟩
      obtain ⟨rfl, rfl⟩ := h HX.out
      clear h
      have hB5 : Below w.heap.size w w5 := below_then (below_then b12 hb4) b5
      clear b1 b2 b12 hb3 hb4 b5
      go_wp2_with (go_at_call 11; refine (awake_any _).mono ?_; rintro e w' ⟨rfl, hz⟩)
      go_ret
      exact ⟨rfl, (by repeat (first | with_reducible exact Below.refl _ _ | with_reducible assumption | with_reducible refine below_alloc ?_ _ | with_reducible refine Below.drew ?_ | with_reducible refine below_drewN ?_ _ | with_reducible refine below_then ?_ (by with_reducible assumption)))⟩
end Go.Proofs.Ytaapgfhcnfaemaa
