/- The walk of the law that arguments are kept. -/
import Derived.Test.YtaapgfhcnfaemaaLaws2
namespace Go.Proofs.Ytaapgfhcnfaemaa
open Go.RowKit Go.Over Go.Zip Go.Seg
/-- Bytes of a slice from place j on, that may be written. -/
def Wr (w : World) (a : Option Addr) (k base j : Nat) : Prop :=
  j < k → ∃ b off, a = some ⟨b, off, none⟩ ∧ base ≤ b ∧ ∀ i, j ≤ i → i < k → (∃ z, w.cell? ⟨b, off + i, none⟩ = some (.int .u8 z)) ∧ w.frozen? ⟨b, off + i, none⟩ = false
theorem New.wr {w : World} {base k : Nat} {v : Value} {l : List Int} (h : New w base v l) (hk : l.length = k) : ∃ a c, v = .slice a k c ∧ Wr w a k base 0 := by
  subst hk
  obtain ⟨a, c, rfl, _, _, h3, h4⟩ := h
  refine ⟨a, c, rfl, fun h0 => ?_⟩
  obtain ⟨b, off, ha, hb, hf⟩ := h4 h0
  obtain ⟨b', off', ha', hc⟩ := h3.2.1 h0
  rw [ha] at ha'; cases ha'
  exact ⟨b, off, ha, hb, fun i _ hi => ⟨⟨_, hc i hi⟩, hf i hi⟩⟩
theorem Wr.store {w : World} {b off k base j : Nat} (u : Value) (h : Wr w (some ⟨b, off, none⟩) k base j) (hj : j < k) : Wr (w.setCell ⟨b, off + j, none⟩ u) (some ⟨b, off, none⟩) k base (j + 1) := by
  intro h1
  obtain ⟨b', off', ha, hb, hf⟩ := h hj
  cases ha
  refine ⟨b, off, rfl, hb, fun i hi hik => ?_⟩
  obtain ⟨⟨z, hz⟩, hfr⟩ := hf i (by omega) hik
  refine ⟨⟨z, ?_⟩, by rw [World.frozen?_setCell]; exact hfr⟩
  rw [World.cell?_setCell_other _ _ _ _ (fun e => by injection e; omega)]
  exact hz
theorem Wr.none {w : World} {k base : Nat} (h : Wr w none k base 0) : k = 0 := by
  rcases Nat.eq_zero_or_pos k with h0 | h0
  · exact h0
  · obtain ⟨b, off, ha, _⟩ := h h0
    cases ha
theorem pack_k (a : Option Addr) (l : List Int) (n c : Nat) (w : World) (H : Bytes w a l) (hn : l.length = n) (hc : n ≤ c) (hm : c ≤ maxLen) :
    Calls Try.prog 12 #[.slice a n c] w fun e w' => ∃ a2 k c2 er, e = .returned (.tuple #[.slice a2 k c2, .int .i64 er]) ∧ k ≤ 33 ∧ Wr w' a2 k w.heap.size 0 ∧ Below w.heap.size w w' := by
  subst hn
  by_cases h : l.length = 32
  · rw [h] at hc ⊢
    refine (pack_any_12 a l c w H h hc hm).mono ?_
    rintro e w' ⟨v, he, hN, hb⟩
    obtain ⟨a2, c2, rfl, hW⟩ := hN.wr rfl
    exact ⟨a2, _, c2, _, he, packL_length h, hW, hb⟩
  · refine (pack_no_12 a l c w H h).mono ?_
    rintro e w' ⟨he, rfl⟩
    exact ⟨none, 0, 0, _, he, by omega, fun h => by omega, Below.refl _ _⟩
theorem unpack_k (a : Option Addr) (l : List Int) (n c : Nat) (w : World) (H : Bytes w a l) (hn : l.length = n) (h80 : n ≤ 81) (hc : n ≤ c) (hm : c ≤ maxLen) :
    Calls Try.prog 16 #[.slice a n c] w fun e w' => ∃ a2 k c2 er, e = .returned (.tuple #[.slice a2 k c2, .int .i64 er]) ∧ k ≤ 33 ∧ Wr w' a2 k w.heap.size 0 ∧ Below w.heap.size w w' := by
  refine (unpack_16 a l n c w H hn h80 hc hm).mono ?_
  rintro e w' ⟨v, k, he, hb, h1, h2⟩
  cases hu : unpackL l with
  | none =>
    obtain ⟨_, rfl⟩ := h2 hu
    exact ⟨none, 0, 0, k, he, by omega, fun h => by omega, hb⟩
  | some p =>
    obtain ⟨rfl, hN⟩ := h1 p hu
    obtain ⟨a2, c2, rfl, hW⟩ := hN.wr rfl
    exact ⟨a2, _, c2, _, he, by rw [unpack_len hu]; omega, hW, hb⟩
set_option maxRecDepth 100000 in set_option maxHeartbeats 1600000 in
theorem law_keeps (a : Option Addr) (l : List Int) (n c : Nat) (w : World) (H : In w a l n c) :
    Calls Try.prog 10 #[.slice a n c] w fun e w' => e = .returned (.bool true) ∧ Below w.heap.size w w' := by
  rcases Nat.lt_or_ge 80 n with hn | hn
  · have hn' : (80 : Int) < (n : Int) := by omega
    clear hn
    go_enter Try.func10, Try.ntmps10
    go_wp2_with (go_at_call 11; refine (awake_any _).mono ?_; rintro e w' ⟨rfl, hz⟩)
    go_ret
    exact ⟨rfl, (by repeat (first | with_reducible exact Below.refl _ _ | with_reducible assumption | with_reducible refine below_alloc ?_ _ | with_reducible refine Below.drew ?_ | with_reducible refine below_drewN ?_ _ | with_reducible refine below_then ?_ (by with_reducible assumption)))⟩
  · have hn' : (n : Int) ≤ 80 := by omega
    have HB := H.hb (by omega)
    have HL := Lib.hid H.hn
    have hcn := H.hc
    obtain ⟨i0, hi0, hz0, hz1, hz2⟩ := info_parts Try.info5
    cases a with
    | none =>
      obtain rfl := H.hz rfl
      obtain rfl : n = 0 := by omega
      go_enter Try.func10, Try.ntmps10
      have hl0 : l = [] := List.eq_nil_of_length_eq_zero H.hn
      have US : ∀ w' s, strOfNums l = s → Below w.heap.size w w' → (convert 22 9 (.slice none 0 0)).run Try.prog w' = .ok (.string s) w' := by
        intro w' s hs hb
        exact HB.strs HL.out hs w' hb
      go_wp2_with fail
      obtain ⟨w1, hw1⟩ : ∃ w1, w1 = w.alloc (.cells #[] 5) := ⟨_, rfl⟩
      have H1 : Bytes w1 (some ⟨w.heap.size, 0, none⟩) l := by rw [hl0]; exact Bytes.empty _ _
      have B1 : Below w.heap.size w w1 := by rw [hw1]; exact below_alloc (Below.refl _ _) _
      rw [← hw1]
      have g1 : 0 ≤ 0 := Nat.le_refl 0
      have m1 : 0 ≤ maxLen := Nat.zero_le _
      clear hw1 hl0
      go_wp2_with fail
      refine (pack_k _ l _ _ _ H1 HL.out g1 m1).mono ?_
      rintro e w2 ⟨a2, k2, c2, er, rfl, hk2, W2, b2⟩
      go_wp2
      go_loopg [6] k2 (fun g i0 wr => ∃ (j : Nat), j + g = k2 ∧ i0 = .int .i64 j ∧ Wr wr a2 k2 w1.heap.size j ∧ Below w1.heap.size w1 wr)
      case atStart => exact ⟨0, by omega, rfl, W2, b2⟩
      case round =>
        clear W2 b2
        obtain ⟨j, hjg, rfl, hW, hbr⟩ := hrel
        cases gk with
        | succ g =>
          have hj : j < k2 := by omega
          obtain ⟨b, off, rfl, hbb, hf⟩ := hW hj
          obtain ⟨⟨z, hz⟩, hfr⟩ := hf j (Nat.le_refl _) hj
          have HJ := Lib.hid hjg; clear hjg hf
          go_wp2
          go_roundg g
          case rel => exact ⟨j + 1, by have := HJ.out; omega, by go_num, hW.store _ hj, hbr.setCell (by exact hbb) _⟩
          case measure => omega
        | zero =>
          obtain rfl : j = k2 := by omega
          clear hjg hW
          go_wp2_with fail
          refine (unpack_k _ l _ _ _ (H1.below hbr) HL.out (by omega) g1 m1).mono ?_
          rintro e w3 ⟨a3, k3, c3, er3, rfl, hk3, W3, b3⟩
          have W3' : Wr w3 a3 k3 w1.heap.size 0 := fun h => by
            obtain ⟨b, off, ha, hb, hf⟩ := W3 h
            exact ⟨b, off, ha, by have := hbr.size; omega, hf⟩
          have b13 := below_then hbr b3
          clear W3 b3 hbr
          go_wp2
          go_loopg [9] k3 (fun g i0 wr => ∃ (j : Nat), j + g = k3 ∧ i0 = .int .i64 j ∧ Wr wr a3 k3 w1.heap.size j ∧ Below w1.heap.size w1 wr)
          case atStart => exact ⟨0, by omega, rfl, W3', b13⟩
          case round =>
            clear W3' b13
            obtain ⟨j, hjg, rfl, hW, hbr⟩ := hrel
            cases gk with
            | succ g =>
              have hj : j < k3 := by omega
              obtain ⟨b, off, rfl, hbb, hf⟩ := hW hj
              obtain ⟨⟨z, hz⟩, hfr⟩ := hf j (Nat.le_refl _) hj
              have HJ := Lib.hid hjg; clear hjg hf
              go_wp2
              go_roundg g
              case rel => exact ⟨j + 1, by have := HJ.out; omega, by go_num, hW.store _ hj, hbr.setCell (by exact hbb) _⟩
              case measure => omega
            | zero =>
              obtain rfl : j = k3 := by omega
              clear hjg hW
              obtain ⟨s, hs⟩ : ∃ s, strOfNums l = s := ⟨_, rfl⟩
              have u1 := (H1.below hbr).strs (c := 0) HL.out hs _ (Below.refl _ _)
              have hbw := below_then B1 hbr
              have u2 := US _ s hs hbw
              clear hs hbr US B1
              go_wp2_with (go_at_call 11; refine (awake_any _).mono ?_; rintro e w' ⟨rfl, hz⟩)
              go_ret
              exact ⟨rfl, (by repeat (first | with_reducible exact Below.refl _ _ | with_reducible assumption | with_reducible refine below_alloc ?_ _ | with_reducible refine Below.drew ?_ | with_reducible refine below_drewN ?_ _ | with_reducible refine below_then ?_ (by with_reducible assumption)))⟩
    | some ad =>
      have US : ∀ w' s, strOfNums l = s → Below w.heap.size w w' → (convert 22 9 (.slice (some ad) n c)).run Try.prog w' = .ok (.string s) w' := by
        intro w' s hs hb
        exact HB.strs HL.out hs w' hb
      go_enter Try.func10, Try.ntmps10
      go_wp2_with (at_builtin; refine wpList_append_where rfl (.tmp 14) (.tmp 15) rfl hi0 hz0 hz1 hz2 _ [] rfl (owns_empty w) ad n c l rfl HL.out (Bytes.cells (HB.below (below_alloc (Below.refl _ _) _))) ?c1 ?c2 ?_)
      case c1 => simp; omega
      case c2 => simp
      intro v1 w1 hown hgrow _
      have B1 : Below w.heap.size w w1 := (below_alloc (Below.refl _ _) _).grown hgrow (by simp) (fun q hq => by simp [Value.ownBlock] at hq; omega)
      have hown : Owns w1 w.heap.size v1 l := by first | exact hown | simpa using hown
      clear hgrow
      have hN := Owns.new hown HB.2.2 (by rw [HL.out]; omega)
      obtain ⟨a1, c1, rfl, g1, m1, H1⟩ := hN.open HL.out
      clear hown hN
      go_wp2_with fail
      refine (pack_k _ l _ _ _ H1 HL.out g1 m1).mono ?_
      rintro e w2 ⟨a2, k2, c2, er, rfl, hk2, W2, b2⟩
      go_wp2
      go_loopg [6] k2 (fun g i0 wr => ∃ (j : Nat), j + g = k2 ∧ i0 = .int .i64 j ∧ Wr wr a2 k2 w1.heap.size j ∧ Below w1.heap.size w1 wr)
      case atStart => exact ⟨0, by omega, rfl, W2, b2⟩
      case round =>
        clear W2 b2
        obtain ⟨j, hjg, rfl, hW, hbr⟩ := hrel
        cases gk with
        | succ g =>
          have hj : j < k2 := by omega
          obtain ⟨b, off, rfl, hbb, hf⟩ := hW hj
          obtain ⟨⟨z, hz⟩, hfr⟩ := hf j (Nat.le_refl _) hj
          have HJ := Lib.hid hjg; clear hjg hf
          go_wp2
          go_roundg g
          case rel => exact ⟨j + 1, by have := HJ.out; omega, by go_num, hW.store _ hj, hbr.setCell (by exact hbb) _⟩
          case measure => omega
        | zero =>
          obtain rfl : j = k2 := by omega
          clear hjg hW
          go_wp2_with fail
          refine (unpack_k _ l _ _ _ (H1.below hbr) HL.out (by omega) g1 m1).mono ?_
          rintro e w3 ⟨a3, k3, c3, er3, rfl, hk3, W3, b3⟩
          have W3' : Wr w3 a3 k3 w1.heap.size 0 := fun h => by
            obtain ⟨b, off, ha, hb, hf⟩ := W3 h
            exact ⟨b, off, ha, by have := hbr.size; omega, hf⟩
          have b13 := below_then hbr b3
          clear W3 b3 hbr
          go_wp2
          go_loopg [9] k3 (fun g i0 wr => ∃ (j : Nat), j + g = k3 ∧ i0 = .int .i64 j ∧ Wr wr a3 k3 w1.heap.size j ∧ Below w1.heap.size w1 wr)
          case atStart => exact ⟨0, by omega, rfl, W3', b13⟩
          case round =>
            clear W3' b13
            obtain ⟨j, hjg, rfl, hW, hbr⟩ := hrel
            cases gk with
            | succ g =>
              have hj : j < k3 := by omega
              obtain ⟨b, off, rfl, hbb, hf⟩ := hW hj
              obtain ⟨⟨z, hz⟩, hfr⟩ := hf j (Nat.le_refl _) hj
              have HJ := Lib.hid hjg; clear hjg hf
              go_wp2
              go_roundg g
              case rel => exact ⟨j + 1, by have := HJ.out; omega, by go_num, hW.store _ hj, hbr.setCell (by exact hbb) _⟩
              case measure => omega
            | zero =>
              obtain rfl : j = k3 := by omega
              clear hjg hW
              obtain ⟨s, hs⟩ : ∃ s, strOfNums l = s := ⟨_, rfl⟩
              have u1 := (H1.below hbr).strs (c := c1) HL.out hs _ (Below.refl _ _)
              have hbw := below_then B1 hbr
              have u2 := US _ s hs hbw
              clear hs hbr US B1
              go_wp2_with (go_at_call 11; refine (awake_any _).mono ?_; rintro e w' ⟨rfl, hz⟩)
              go_ret
              exact ⟨rfl, (by repeat (first | with_reducible exact Below.refl _ _ | with_reducible assumption | with_reducible refine below_alloc ?_ _ | with_reducible refine Below.drew ?_ | with_reducible refine below_drewN ?_ _ | with_reducible refine below_then ?_ (by with_reducible assumption)))⟩
end Go.Proofs.Ytaapgfhcnfaemaa
