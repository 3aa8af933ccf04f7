/- Walks: is a flag set; how many; the first error of a cache, of both; New, of both. -/
import Derived.Test.YthhdiiboblaclaaBase
namespace Go.Proofs.Ythhdiiboblaclaa
open Go.RowKit Go.Over Go.Slb Go.Seg
theorem flag_drop {u : List Bool} {i n : Nat} (hn : u.length = n) (h : i < n) : u.drop i = u.getD i false :: u.drop (i + 1) := by
  rw [List.drop_eq_getElem_cons (by omega)]
  congr 1
  rw [List.getD_eq_getElem?_getD, List.getElem?_eq_getElem (by omega)]; rfl
def IdxOf (w : World) (r : Bool) (e : Ending) (w' : World) : Prop := ∃ k : Int, e = .returned (.int .i64 k) ∧ decide (0 ≤ k) = r ∧ w = w'
set_option maxRecDepth 100000 in set_option maxHeartbeats 1600000 in
theorem index_46 (a : Option Addr) (u : List Bool) (n c : Nat) (w : World) (H : Flags w a u) (hn : u.length = n) (hm : n ≤ maxLen) :
    Calls Try.prog 46 #[.slice a n c, .bool true] w (IdxOf w (u.contains true)) := by
  unfold maxLen at hm
  have HN := Lib.hid hn; clear hn
  go_enter Try.func46, Try.ntmps46
  go_wp2
  go_loopg [8] n (fun g i0 wr => ∃ (i : Nat), i + g = n ∧ i0 = .int .i64 i ∧ (u.drop i).contains true = u.contains true ∧ w = wr)
  case atStart => exact ⟨0, by omega, rfl, rfl, rfl⟩
  case round =>
    obtain ⟨i, hg, rfl, hF, rfl⟩ := hrel
    have HF := Lib.hid hF; clear hF
    cases gk with
    | succ g =>
      have hin : i < n := by omega
      obtain ⟨b, off, rfl, hc⟩ := H (by rw [HN.out]; omega)
      have c1 := hc i (by rw [HN.out]; exact hin)
      obtain ⟨x, hx⟩ : ∃ x, u.getD i false = x := ⟨_, rfl⟩
      rw [hx] at c1
      have HF2 := Lib.hid (show (u.contains true) = (x == true || (u.drop (i + 1)).contains true) by rw [← HF.out, flag_drop HN.out hin, hx]; cases x <;> simp)
      have HG := Lib.hid hg; clear hg hc hx
      cases x
      · go_wp2
        go_roundg g
        case rel => exact ⟨i + 1, by have := HG.out; omega, by go_num, by rw [HF2.out]; rfl, rfl⟩
        case measure => omega
      · go_wp2
        go_ret
        exact ⟨i, rfl, by rw [HF2.out]; simp, rfl⟩
    | zero =>
      obtain rfl : i = n := by omega
      clear hg
      go_wp2
      go_ret
      exact ⟨-1, rfl, by rw [← HF.out, List.drop_eq_nil_of_le (by rw [HN.out]; exact Nat.le_refl _)]; rfl, rfl⟩
set_option maxRecDepth 100000 in set_option maxHeartbeats 1600000 in
theorem contains_33 (a : Option Addr) (u : List Bool) (n c : Nat) (w : World) (H : Flags w a u) (hn : u.length = n) (hm : n ≤ maxLen) :
    Calls Try.prog 33 #[.slice a n c, .bool true] w fun e w' => e = .returned (.bool (u.contains true)) ∧ w = w' := by
  obtain ⟨r, hr⟩ : ∃ r, u.contains true = r := ⟨_, rfl⟩
  have hI := index_46 a u n c w H hn hm
  rw [hr] at hI ⊢
  have HI := Lib.hid hI; clear hI hr hn
  go_enter Try.func33, Try.ntmps33
  go_wp2_with (go_at_call 46; refine HI.out.mono ?_; rintro e w' ⟨k, rfl, hk, rfl⟩)
  go_ret
  exact ⟨rfl, rfl⟩
set_option maxRecDepth 100000 in set_option maxHeartbeats 1600000 in
theorem used_34 (f : Int) (a : Option Addr) (u : List Bool) (n c : Nat) (w : World) (H : Flags w a u) (hn : u.length = n) (hm : n ≤ maxLen) :
    Calls Try.prog 34 #[.agg #[.int .i64 f, .slice a n c]] w fun e w' => e = .returned (.int .i64 (cnt u)) ∧ Below w.heap.size w w' := by
  unfold maxLen at hm
  have HN := Lib.hid hn; clear hn
  obtain ⟨w1, hw1⟩ : ∃ w1, w1 = w.alloc (.cells #[.int .i64 f, .slice a n c] 52) := ⟨_, rfl⟩
  obtain ⟨k0, k1⟩ := box_cells w (.int .i64 f) (.slice a n c) 52
  have B1 := below_box w (.cells #[.int .i64 f, .slice a n c] 52)
  rw [← hw1] at k0 k1 B1
  have H1 := H.below B1
  have HW := Lib.hid hw1; clear hw1 k0
  have K1 := Lib.hid k1; clear k1
  go_enter Try.func34, Try.ntmps34
  go_wp2
  rw [← HW.out]
  clear HW
  go_loopg [3, 4] n (fun g k0 i0 wr => ∃ (i k : Nat), i + g = n ∧ k ≤ i ∧ k0 = .int .i64 k ∧ i0 = .int .i64 i ∧ cnt u = k + cnt (u.drop i) ∧ w1 = wr)
  case atStart => exact ⟨0, 0, by omega, by omega, rfl, rfl, by simp, rfl⟩
  case round =>
    obtain ⟨i, k, hg, hk, rfl, rfl, hF, rfl⟩ := hrel
    have HF := Lib.hid hF; clear hF
    have c1 := K1.out
    cases gk with
    | succ g =>
      have hin : i < n := by omega
      obtain ⟨b, off, rfl, hc⟩ := H1 (by rw [HN.out]; omega)
      have c2 := hc i (by rw [HN.out]; exact hin)
      obtain ⟨x, hx⟩ : ∃ x, u.getD i false = x := ⟨_, rfl⟩
      rw [hx] at c2
      have HF2 := Lib.hid (show cnt u = k + (cnt (u.drop (i + 1)) + if x = true then 1 else 0) by rw [HF.out, flag_drop HN.out hin, hx]; simp [cnt, List.count_cons])
      have HG := Lib.hid hg; clear hg hc hx
      cases x
      · go_wp2
        go_roundg g
        case rel => exact ⟨i + 1, k, by have := HG.out; omega, by omega, rfl, by go_num, by rw [HF2.out]; simp, rfl⟩
        case measure => omega
      · go_wp2
        go_roundg g
        case rel => exact ⟨i + 1, k + 1, by have := HG.out; omega, by omega, by go_num, by go_num, by rw [HF2.out]; simp; omega, rfl⟩
        case measure => omega
    | zero =>
      obtain rfl : i = n := by omega
      have HF2 := Lib.hid (show cnt u = k by rw [HF.out, List.drop_eq_nil_of_le (by rw [HN.out]; exact Nat.le_refl _)]; rfl)
      clear hg
      go_wp2
      go_ret
      exact ⟨by rw [HF2.out]; rfl, B1⟩
set_option maxRecDepth 100000 in set_option maxHeartbeats 1600000 in
theorem new_14 (o : Int) (w : World) :
    Calls Try.prog 14 #[.int .i64 o] w fun e w' => e = .returned (.tuple #[.agg #[.int .i64 (if o < 1 ∨ 32 < o then 0 else o), .slice none 0 0], .int .i64 (if o < 1 ∨ 32 < o then 1 else 0)]) ∧ Below w.heap.size w w' := by
  by_cases h1 : o < 1
  · rw [if_pos (.inl h1), if_pos (.inl h1)]
    go_enter Try.func14, Try.ntmps14
    go_wp2
    exact bodyPost_ret (v := .tuple #[.agg #[.int .i64 0, .slice none 0 0], .int .i64 1]) (by simp [results, Try.results14, go_sem]) rfl ⟨rfl, (by repeat (first | with_reducible exact Below.refl _ _ | with_reducible assumption | with_reducible refine below_alloc ?_ _ | with_reducible refine Below.drew ?_ | with_reducible refine below_drewN ?_ _ | with_reducible refine below_then ?_ (by with_reducible assumption)))⟩
  · by_cases h2 : 32 < o
    · rw [if_pos (.inr h2), if_pos (.inr h2)]
      go_enter Try.func14, Try.ntmps14
      go_wp2
      exact bodyPost_ret (v := .tuple #[.agg #[.int .i64 0, .slice none 0 0], .int .i64 1]) (by simp [results, Try.results14, go_sem]) rfl ⟨rfl, (by repeat (first | with_reducible exact Below.refl _ _ | with_reducible assumption | with_reducible refine below_alloc ?_ _ | with_reducible refine Below.drew ?_ | with_reducible refine below_drewN ?_ _ | with_reducible refine below_then ?_ (by with_reducible assumption)))⟩
    · rw [if_neg (by omega), if_neg (by omega)]
      go_enter Try.func14, Try.ntmps14
      go_wp2
      exact bodyPost_ret (v := .tuple #[.agg #[.int .i64 o, .slice none 0 0], .int .i64 0]) (by simp [results, Try.results14, go_sem]) rfl ⟨rfl, (by repeat (first | with_reducible exact Below.refl _ _ | with_reducible assumption | with_reducible refine below_alloc ?_ _ | with_reducible refine Below.drew ?_ | with_reducible refine below_drewN ?_ _ | with_reducible refine below_then ?_ (by with_reducible assumption)))⟩
set_option maxRecDepth 100000 in set_option maxHeartbeats 1600000 in
theorem new_15 (o : Int) (w : World) :
    Calls Try.prog 15 #[.int .i64 o] w fun e w' => e = .returned (.tuple #[.agg #[.int .i64 (if o < 1 ∨ 32 < o then 0 else o), .slice none 0 0], .int .i64 (if o < 1 ∨ 32 < o then 1 else 0)]) ∧ Below w.heap.size w w' := by
  by_cases h1 : o < 1
  · rw [if_pos (.inl h1), if_pos (.inl h1)]
    go_enter Try.func15, Try.ntmps15
    go_wp2
    exact bodyPost_ret (v := .tuple #[.agg #[.int .i64 0, .slice none 0 0], .int .i64 1]) (by simp [results, Try.results15, go_sem]) rfl ⟨rfl, (by repeat (first | with_reducible exact Below.refl _ _ | with_reducible assumption | with_reducible refine below_alloc ?_ _ | with_reducible refine Below.drew ?_ | with_reducible refine below_drewN ?_ _ | with_reducible refine below_then ?_ (by with_reducible assumption)))⟩
  · by_cases h2 : 32 < o
    · rw [if_pos (.inr h2), if_pos (.inr h2)]
      go_enter Try.func15, Try.ntmps15
      go_wp2
      exact bodyPost_ret (v := .tuple #[.agg #[.int .i64 0, .slice none 0 0], .int .i64 1]) (by simp [results, Try.results15, go_sem]) rfl ⟨rfl, (by repeat (first | with_reducible exact Below.refl _ _ | with_reducible assumption | with_reducible refine below_alloc ?_ _ | with_reducible refine Below.drew ?_ | with_reducible refine below_drewN ?_ _ | with_reducible refine below_then ?_ (by with_reducible assumption)))⟩
    · rw [if_neg (by omega), if_neg (by omega)]
      go_enter Try.func15, Try.ntmps15
      go_wp2
      exact bodyPost_ret (v := .tuple #[.agg #[.int .i64 o, .slice none 0 0], .int .i64 0]) (by simp [results, Try.results15, go_sem]) rfl ⟨rfl, (by repeat (first | with_reducible exact Below.refl _ _ | with_reducible assumption | with_reducible refine below_alloc ?_ _ | with_reducible refine Below.drew ?_ | with_reducible refine below_drewN ?_ _ | with_reducible refine below_then ?_ (by with_reducible assumption)))⟩
end Go.Proofs.Ythhdiiboblaclaa
