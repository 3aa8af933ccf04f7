/- The fixed example with which every law ends. -/
import Derived.Test.YtaapgfhcnfaemaaRUnpack
namespace Go.Proofs.Ytaapgfhcnfaemaa
open Go.RowKit Go.Over Go.Zip Go.Seg
/-- The first k bytes of a page that repeats l. -/
def cyc (l : List Int) (n : Nat) : Nat → List Int
  | 0 => []
  | k + 1 => cyc l n k ++ [get l (k % n)]
theorem cyc_len (l : List Int) (n : Nat) : ∀ k, (cyc l n k).length = k
  | 0 => rfl
  | k + 1 => by simp [cyc, cyc_len l n k]
set_option maxRecDepth 100000 in set_option maxHeartbeats 3200000 in
theorem repeat_19 (a : Option Addr) (l : List Int) (n c : Nat) (w : World) (H : Bytes w a l) (hn : l.length = n) (h1 : 1 ≤ n) (h2 : n ≤ 8) (hb : ∀ x ∈ cyc l n 32, 0 ≤ x ∧ x ≤ 255) :
    Calls Try.prog 19 #[.slice a n c] w fun e w' => ∃ v, e = .returned v ∧ New w' w.heap.size v (cyc l n 32) ∧ Below w.heap.size w w' := by
  obtain ⟨i0, hi0, hz0, hz1, hz2⟩ := info_parts Try.info5
  have HN := Lib.hid hn; clear hn
  have HBB := Lib.hid hb; clear hb
  have hn0 : decide (0 < (n : Int)) = true := by simp; omega
  go_enter Try.func19, Try.ntmps19
  go_wp2
  go_loopg [3, 4] 32 (fun g v0 x0 wr => ∃ (j : Nat) (v : Value), j + g = 32 ∧ v = v0 ∧ x0 = .int .i64 j ∧ Owns wr w.heap.size v (cyc l n j) ∧ Below w.heap.size w wr)
  case atStart => exact ⟨0, _, by omega, rfl, rfl, Owns.nil _ _, Below.refl _ _⟩
  case round =>
    obtain ⟨j, v, hjg, rfl, rfl, hO, hb⟩ := hrel
    obtain ⟨bo, co, rfl⟩ := owns_len hO (cyc_len l n j)
    cases gk with
    | zero =>
      obtain rfl : j = 32 := by omega
      clear hjg
      go_wp2
      go_ret
      exact ⟨_, rfl, Owns.new hO HBB.out (by rw [cyc_len]; decide), hb⟩
    | succ g =>
      obtain ⟨b', off', rfl, hcell⟩ := (H.below hb).2.1 (by rw [HN.out]; omega)
      obtain ⟨s, hs⟩ : ∃ s, s = j % n := ⟨_, rfl⟩
      have hsn : s < n := by rw [hs]; exact Nat.mod_lt _ (by omega)
      have cx := hcell s (by rw [HN.out]; exact hsn)
      have e1 : (j : Int).tmod n = (s : Int) := by rw [Int.tmod_eq_emod_of_nonneg (by omega), hs]; omega
      have hnz : ((n : Int) == 0) = false := by simp; omega
      have e2 : (j : Int) % n = (s : Int) := by rw [hs]; omega
      have HS := Lib.hid hs; have HJG := Lib.hid hjg; clear hjg hcell hs
      have hj : j < 32 := by have := HJG.out; omega
      go_wp2_with (at_builtin; refine wpList_append_where rfl (.tmp 14) (.tmp 22) rfl hi0 hz0 hz1 hz2 _ _ rfl (hO.alloc _) ⟨wr.heap.size, 0, none⟩ 1 1 [get l s] rfl rfl (one_cell wr _) ?c1 ?c2 ?_)
      case c1 => rw [cyc_len]; omega
      case c2 => have := hb.size; simp; omega
      intro v3 w3 hown hgrow _
      have hb3 : Below w.heap.size w w3 := (below_alloc hb _).grown hgrow (by have := hb.size; simp; omega) (fun q hq => (hO.lt q hq).1)
      have hO3 : Owns w3 w.heap.size v3 (cyc l n (j + 1)) := by
        rw [show cyc l n (j + 1) = cyc l n j ++ [get l s] by rw [HS.out]; rfl]
        exact hown
      clear hown hgrow
      go_wp2
      go_roundg g
      case rel => exact ⟨j + 1, v3, by have := HJG.out; omega, rfl, by go_num, hO3, hb3⟩
      case measure => omega
theorem bytes_lit (w : World) (l : List Int) (cs : Array Value) (hc : cs = (l.map (Value.int .u8)).toArray) (hl : l.length ≤ 1000000) (hb : ∀ x ∈ l, 0 ≤ x ∧ x ≤ 255) : Bytes (w.alloc (.cells cs 5)) (some ⟨w.heap.size, 0, none⟩) l := by
  refine ⟨hl, fun _ => ⟨_, 0, rfl, fun i hi => ?_⟩, hb⟩
  rw [World.cell?, heap_new, hc]
  simp [hi, Zip.get]
theorem bound_18 (w : World) : Calls Try.prog 18 #[] w fun e w' => e = .returned (.int .i64 33) ∧ w = w' := by
  go_enter Try.func18, Try.ntmps18
  go_wp2
  go_ret
  exact ⟨rfl, rfl⟩
/-- A new slice of the length n, opened. -/
theorem New.open {w : World} {b n : Nat} {v : Value} {l : List Int} (h : New w b v l) (hn : l.length = n) : ∃ a c, v = .slice a n c ∧ n ≤ c ∧ c ≤ maxLen ∧ Bytes w a l := by
  obtain ⟨a, c, rfl, h1, h2, h3, _⟩ := h
  subst hn
  exact ⟨a, c, rfl, h1, h2, h3⟩
/-- The conversions of bytes in memory, wherever what was there still is. -/
def Str (w : World) (a : Option Addr) (n c : Nat) (s : ByteArray) : Prop := ∀ w', Below w.heap.size w w' → (convert 22 9 (.slice a n c)).run Try.prog w' = .ok (.string s) w'
theorem Bytes.strs {w : World} {a : Option Addr} {l : List Int} {n c : Nat} {s : ByteArray} (h : Bytes w a l) (hn : l.length = n) (hs : strOfNums l = s) : Str w a n c s := by
  intro w' hb
  subst hn; subst hs
  exact (h.below hb).str c
set_option maxRecDepth 100000 in set_option maxHeartbeats 3200000 in
theorem awake_any (w : World) : Calls Try.prog 11 #[] w fun e w' => e = .returned (.bool true) ∧ Below w.heap.size w w' := by
  go_enter Try.func11, Try.ntmps11
  go_wp2_with fail
  have l1 := bytes_lit w [0] _ rfl (by decide) (by decide)
  refine (repeat_19 _ [0] 1 1 _ l1 rfl (by decide) (by decide) (by decide +kernel)).mono ?_
  rintro e w1 ⟨v, rfl, hN, b1⟩
  obtain ⟨a1, c1, rfl, g1, m1, H1⟩ := hN.open (n := 32) rfl
  clear hN l1
  go_wp2_with fail
  refine (pack_any_12 _ _ _ _ H1 rfl g1 m1).mono ?_
  rintro e w2 ⟨v, rfl, hN, b2⟩
  obtain ⟨a2, c2, rfl, g2, m2, A⟩ := hN.open (n := 2) (by decide +kernel)
  clear hN H1
  go_wp2_with fail
  have l3 := bytes_lit w2 [1, 2, 3, 4] _ rfl (by decide) (by decide)
  refine (repeat_19 _ [1, 2, 3, 4] 4 4 _ l3 rfl (by decide) (by decide) (by decide +kernel)).mono ?_
  rintro e w3 ⟨v, rfl, hN3, b3⟩
  obtain ⟨a3, c3, rfl, g3, m3, H3⟩ := hN3.open (n := 32) rfl
  clear hN3 l3
  go_wp2_with fail
  refine (pack_any_12 _ _ _ _ H3 rfl g3 m3).mono ?_
  rintro e w4 ⟨v, rfl, hN, b4⟩
  obtain ⟨a4, c4, rfl, g4, m4, B⟩ := hN.open (n := 8) (by decide +kernel)
  clear hN H3
  go_wp2_with fail
  have l5 := bytes_lit w4 [1, 16, 5, 16, 5] _ rfl (by decide) (by decide)
  refine (unpack_16 _ [1, 16, 5, 16, 5] 5 5 _ l5 rfl (by decide) (by decide) (by unfold maxLen; omega)).mono ?_
  rintro e w5 ⟨v, k, rfl, b5, hy, _⟩
  obtain ⟨rfl, hN⟩ := hy (cyc [5] 1 32) (by decide +kernel)
  obtain ⟨a5, c5, rfl, g5, m5, C⟩ := hN.open (n := 32) rfl
  clear hN hy l5
  go_wp2_with fail
  have BP : packL (cyc [1, 2, 3, 4] 4 32) = [2, 3, 1, 2, 3, 4, 57, 4] := (by decide +kernel)
  have AP : packL (cyc [0] 1 32) = [0, 0] := (by decide +kernel)
  rw [BP] at B
  rw [AP] at A
  clear BP AP
  refine (unpack_16 _ [2, 3, 1, 2, 3, 4, 57, 4] 8 _ _ (B.below (by repeat (first | with_reducible exact Below.refl _ _ | with_reducible assumption | with_reducible refine below_alloc ?_ _ | with_reducible refine Below.drew ?_ | with_reducible refine below_drewN ?_ _ | with_reducible refine below_then ?_ (by with_reducible assumption)))) rfl (by decide) g4 m4).mono ?_
  rintro e w6 ⟨v, k, rfl, b6, hy, _⟩
  obtain ⟨rfl, hN⟩ := hy (cyc [1, 2, 3, 4] 4 32) (by decide +kernel)
  obtain ⟨a6, c6, rfl, g6, m6, D⟩ := hN.open (n := 32) rfl
  clear hN hy
  go_wp2_with fail
  have l7 := bytes_lit w6 [2, 32, 1] _ rfl (by decide) (by decide)
  refine (unpack_16 _ [2, 32, 1] 3 3 _ l7 rfl (by decide) (by decide) (by unfold maxLen; omega)).mono ?_
  rintro e w7 ⟨v, k, rfl, b7, _, hn⟩
  obtain ⟨rfl, rfl⟩ := hn (by decide +kernel)
  clear l7
  go_wp2_with fail
  have l8 := bytes_lit w7 [6] _ rfl (by decide) (by decide)
  refine (repeat_19 _ [6] 1 1 _ l8 rfl (by decide) (by decide) (by decide +kernel)).mono ?_
  rintro e w8 ⟨v, rfl, hN, b8⟩
  obtain ⟨a8, c8, rfl, g8, m8, H8⟩ := hN.open (n := 32) rfl
  clear hN l8
  go_wp2_with fail
  refine (filled_32 _ _ _ _ H8 rfl g8 m8).mono ?_
  rintro e w9 ⟨rfl, b9⟩
  have F6 : fullB (cyc [6] 1 32) = true := (by decide +kernel)
  have G6 : get (cyc [6] 1 32) 0 = 6 := (by decide +kernel)
  rw [F6, if_pos rfl, G6]
  clear F6 G6 H8
  go_wp2_with fail
  obtain ⟨s5, hs5⟩ : ∃ s, strOfNums (cyc [5] 1 32) = s := ⟨_, rfl⟩
  obtain ⟨s6, hs6⟩ : ∃ s, strOfNums (cyc [1, 2, 3, 4] 4 32) = s := ⟨_, rfl⟩
  have ta : Str w9 a2 2 c2 ⟨#[0, 0]⟩ := (A.below (show Below _ w2 w9 from (by repeat (first | with_reducible exact Below.refl _ _ | with_reducible assumption | with_reducible refine below_alloc ?_ _ | with_reducible refine Below.drew ?_ | with_reducible refine below_drewN ?_ _ | with_reducible refine below_then ?_ (by with_reducible assumption))))).strs rfl (show strOfNums [0, 0] = ⟨#[0, 0]⟩ from (by decide +kernel))
  have tb : Str w9 a4 8 c4 ⟨#[2, 3, 1, 2, 3, 4, 57, 4]⟩ := (B.below (show Below _ w4 w9 from (by repeat (first | with_reducible exact Below.refl _ _ | with_reducible assumption | with_reducible refine below_alloc ?_ _ | with_reducible refine Below.drew ?_ | with_reducible refine below_drewN ?_ _ | with_reducible refine below_then ?_ (by with_reducible assumption))))).strs rfl (show strOfNums [2, 3, 1, 2, 3, 4, 57, 4] = ⟨#[2, 3, 1, 2, 3, 4, 57, 4]⟩ from (by decide +kernel))
  have tc : Str w9 a5 32 c5 s5 := (C.below (show Below _ w5 w9 from (by repeat (first | with_reducible exact Below.refl _ _ | with_reducible assumption | with_reducible refine below_alloc ?_ _ | with_reducible refine Below.drew ?_ | with_reducible refine below_drewN ?_ _ | with_reducible refine below_then ?_ (by with_reducible assumption))))).strs rfl hs5
  have td : Str w9 a6 32 c6 s6 := (D.below (show Below _ w6 w9 from (by repeat (first | with_reducible exact Below.refl _ _ | with_reducible assumption | with_reducible refine below_alloc ?_ _ | with_reducible refine Below.drew ?_ | with_reducible refine below_drewN ?_ _ | with_reducible refine below_then ?_ (by with_reducible assumption))))).strs rfl hs6
  have HS5 := Lib.hid hs5; have HS6 := Lib.hid hs6
  clear hs5 hs6 A B C D
  have hB9 : Below w.heap.size w w9 := (by repeat (first | with_reducible exact Below.refl _ _ | with_reducible assumption | with_reducible refine below_alloc ?_ _ | with_reducible refine Below.drew ?_ | with_reducible refine below_drewN ?_ _ | with_reducible refine below_then ?_ (by with_reducible assumption)))
  clear b1 b2 b3 b4 b5 b6 b7 b8 b9 g1 g2 g3 g4 g5 g6 g8 m1 m2 m3 m4 m5 m6 m8
  refine wp_region_segs (fun W => Below w9.heap.size w9 W) [(true, 38), (false, 1), (false, 1), (false, 1), (false, 1), (true, 4), (false, 1), (false, 1), (false, 1), (false, 1), (true, 2), (false, 1), (true, 3)] (by kernel_rfl) (by kernel_rfl) (Below.refl _ _).drew ?_
  intro W hW hWe
  clear hWe
  simp only [wpSegs, List.take_succ_cons, List.take_zero, List.drop_succ_cons, List.drop_zero]
  have ua := fun u => ta (hold (fun W => Below w9.heap.size w9 W) W u) (hold_ok hW u)
  have ub := fun u => tb (hold (fun W => Below w9.heap.size w9 W) W u) (hold_ok hW u)
  have uc := fun u => tc (hold (fun W => Below w9.heap.size w9 W) W u) (hold_ok hW u)
  have ud := fun u => td (hold (fun W => Below w9.heap.size w9 W) W u) (hold_ok hW u)
  repeat (go_big_quiet_step (fail))
  refine wpQuiet_nil ?_
  go_wp2
  refine ⟨hold_of (below_alloc hW _), ?_⟩
  go_wp2_with fail
  have l9 := bytes_lit W [5] _ rfl (by decide) (by decide)
  refine (repeat_19 _ [5] 1 1 _ l9 rfl (by decide) (by decide) (by decide +kernel)).mono ?_
  rintro e x1 ⟨v, rfl, hN, y1⟩
  obtain ⟨d1, e1, rfl, _, _, E⟩ := hN.open (n := 32) rfl
  have te : Str x1 d1 32 e1 s5 := E.strs rfl HS5.out
  have te' := te x1 (Below.refl _ _)
  have Y1 : Below w9.heap.size w9 x1 := below_then (below_alloc hW _) y1
  clear hN l9 E te hW
  go_wp2
  refine ⟨hold_of Y1, ?_⟩
  go_wp2
  refine ⟨hold_of Y1, ?_⟩
  go_wp2
  refine ⟨hold_of Y1, ?_⟩
  dsimp only
  repeat (go_big_quiet_step (fail))
  refine wpQuiet_nil ?_
  go_wp2
  refine ⟨hold_of (below_alloc Y1 _), ?_⟩
  go_wp2_with fail
  have l9 := bytes_lit x1 [1, 2, 3, 4] _ rfl (by decide) (by decide)
  refine (repeat_19 _ [1, 2, 3, 4] 4 4 _ l9 rfl (by decide) (by decide) (by decide +kernel)).mono ?_
  rintro e x2 ⟨v, rfl, hN, y2⟩
  obtain ⟨d2, e2, rfl, _, _, E⟩ := hN.open (n := 32) rfl
  have te : Str x2 d2 32 e2 s6 := E.strs rfl HS6.out
  have te2 := te x2 (Below.refl _ _)
  have Y2 : Below w9.heap.size w9 x2 := below_then (below_alloc Y1 _) y2
  clear hN l9 E te te' Y1
  go_wp2
  refine ⟨hold_of Y2, ?_⟩
  go_wp2
  refine ⟨hold_of Y2, ?_⟩
  go_wp2
  refine ⟨hold_of Y2, ?_⟩
  dsimp only
  repeat (go_big_quiet_step (fail))
  refine wpQuiet_nil ?_
  go_wp2_with (go_at_call 18; refine (bound_18 _).mono ?_; rintro e w' ⟨rfl, rfl⟩)
  refine ⟨hold_of Y2, ?_⟩
  dsimp only
  repeat (go_big_quiet_step (fail))
  refine wpQuiet_nil ?_
  refine NoPanic.normal ?_
  go_wp2
  go_ret
  exact ⟨rfl, below_then hB9 Y2⟩
end Go.Proofs.Ytaapgfhcnfaemaa
