/- Walks: the search in a list, the lists' first errors. -/
import Derived.Test.YtneibbefkjjlnaaZone2
namespace Go.Proofs.Ytneibbefkjjlnaa
open Go.RowKit Go.Over Go.Bud
/-- Numbers that lie at a. -/
def Ints (w : World) (a : Option Addr) (l : List Int) : Prop :=
  0 < l.length → ∃ b off, a = some ⟨b, off, none⟩ ∧ ∀ i, i < l.length → w.cell? ⟨b, off + i, none⟩ = some (.int .i64 (l.getD i 0))
theorem Ints.below {w w' : World} {a : Option Addr} {l : List Int} (h : Ints w a l) (hb : Below w.heap.size w w') : Ints w' a l := fun h0 => by
  obtain ⟨b, off, ha, hc⟩ := h h0
  exact ⟨b, off, ha, fun i hi => cell_later hb (hc i hi)⟩
theorem Ints.at {w : World} {a : Option Addr} {l : List Int} (h : Ints w a l) {i : Nat} {x : Int} (hi : l[i]? = some x) : ∃ b off, a = some ⟨b, off, none⟩ ∧ w.cell? ⟨b, off + i, none⟩ = some (.int .i64 x) := by
  have hlt : i < l.length := by rw [List.getElem?_eq_some_iff] at hi; exact hi.1
  obtain ⟨b, off, ha, hc⟩ := h (by omega)
  refine ⟨b, off, ha, ?_⟩
  rw [hc i hlt, List.getD_eq_getElem?_getD, hi]; rfl
theorem get_some {α : Type} {l : List α} {i n : Nat} (hn : l.length = n) (h : i < n) : ∃ s, l[i]? = some s := ⟨l[i]'(by omega), List.getElem?_eq_getElem (by omega)⟩
theorem drop_get {α : Type} {l : List α} {i : Nat} {s : α} (h : l[i]? = some s) : l.drop i = s :: l.drop (i + 1) := by
  have hlt : i < l.length := by rw [List.getElem?_eq_some_iff] at h; obtain ⟨h, _⟩ := h; exact h
  rw [List.drop_eq_getElem_cons hlt]
  rw [List.getElem?_eq_getElem hlt] at h
  rw [Option.some.inj h]
theorem pair_get : ∀ {l : List Int}, List.Pairwise (· < ·) l → ∀ {i j : Nat} {s t : Int}, l[i]? = some s → l[j]? = some t → i < j → s < t
  | [], _, i, j, s, t, h, _, _ => by simp at h
  | x :: r, h, i, j, s, t, hi, hj, hij => by
    rw [List.pairwise_cons] at h
    cases j with
    | zero => omega
    | succ j =>
      rw [List.getElem?_cons_succ] at hj
      cases i with
      | zero =>
        simp at hi; subst hi
        exact h.1 t (List.mem_of_getElem? hj)
      | succ i =>
        rw [List.getElem?_cons_succ] at hi
        exact pair_get h.2 hi hj (by omega)
set_option maxRecDepth 100000 in set_option maxHeartbeats 1600000 in
theorem nan_42 (x : Int) (w : World) : Calls Try.prog 42 #[.int .i64 x] w fun e w' => e = .returned (.bool false) ∧ w = w' := by
  have t1 : (x != x) = false := by simp
  go_enter Try.func42, Try.ntmps42
  go_wp2
  go_ret
  exact ⟨rfl, rfl⟩
set_option maxRecDepth 100000 in set_option maxHeartbeats 1600000 in
theorem nan_43 (x : Int) (w : World) : Calls Try.prog 43 #[.int .i64 x] w fun e w' => e = .returned (.bool false) ∧ w = w' := by
  have t1 : (x != x) = false := by simp
  go_enter Try.func43, Try.ntmps43
  go_wp2
  go_ret
  exact ⟨rfl, rfl⟩
set_option maxRecDepth 100000 in set_option maxHeartbeats 1600000 in
theorem less_41 (x y : Int) (w : World) : Calls Try.prog 41 #[.int .i64 x, .int .i64 y] w fun e w' => e = .returned (.bool (decide (x < y))) ∧ w = w' := by
  go_enter Try.func41, Try.ntmps41
  go_wp2_with (go_at_call 43; refine (nan_43 _ _).mono ?_; rintro e w' ⟨rfl, rfl⟩)
  go_ret
  exact ⟨rfl, rfl⟩
/-- Some place, and whether it is there. -/
def SearchAns (w : World) (b : Bool) (e : Ending) (w' : World) : Prop := ∃ p : Int, e = .returned (.tuple #[.int .i64 p, .bool b]) ∧ w = w'
set_option maxRecDepth 100000 in set_option maxHeartbeats 1600000 in
theorem search_36 (a : Option Addr) (l : List Int) (n c : Nat) (x : Int) (w : World) (H : Ints w a l) (hn : l.length = n) (hm : n ≤ 1000000) (hs : List.Pairwise (· < ·) l) :
    Calls Try.prog 36 #[.slice a n c, .int .i64 x] w (SearchAns w (l.contains x)) := by
  have HN := Lib.hid hn
  have HS := Lib.hid hs
  clear hn hs
  go_enter Try.func36, Try.ntmps36
  go_wp2
  go_loopg [7, 8] n (fun g i0 j0 wr => ∃ (i j : Nat), i ≤ j ∧ j ≤ n ∧ j ≤ i + g ∧ i0 = .int .i64 i ∧ j0 = .int .i64 j ∧ (∀ k s, k < i → l[k]? = some s → s < x) ∧ (∀ k s, j ≤ k → l[k]? = some s → x ≤ s) ∧ w = wr)
  case atStart => exact ⟨0, n, by omega, by omega, by omega, rfl, rfl, fun k s hk => absurd hk (by omega), fun k s hk hs => by
    have h2 : k < l.length := by rw [List.getElem?_eq_some_iff] at hs; exact hs.1
    have := HN.out
    omega, rfl⟩
  case round =>
    obtain ⟨i, j, hij, hjn, hg, rfl, rfl, h1, h2, rfl⟩ := hrel
    by_cases hlt : i < j
    · obtain ⟨m, hmid⟩ : ∃ m, (i + j) / 2 = m := ⟨_, rfl⟩
      have hm1 : i ≤ m := by omega
      have hm2 : m < j := by omega
      obtain ⟨y, hs⟩ := get_some HN.out (show m < n by omega)
      obtain ⟨b, off, rfl, c0⟩ := H.at hs
      have HY := Lib.hid hs; have HM := Lib.hid hmid
      have H1 := Lib.hid h1; have H2 := Lib.hid h2; have HG := Lib.hid hg
      clear hs h1 h2 hg
      have hl := Lib.hid (less_41 y x w)
      go_wp2_with fail
      refine (hl.out).mono ?_
      rintro e w2 ⟨rfl, rfl⟩
      by_cases hxf : y < x
      · go_wp2
        obtain ⟨g, rfl⟩ : ∃ g, gk = g + 1 := ⟨gk - 1, by have := HG.out; omega⟩
        go_roundg g
        case rel =>
          refine ⟨m + 1, j, by omega, by omega, by have := HG.out; omega, by go_num, rfl, fun k s hk hs => ?_, H2.out, rfl⟩
          rcases Nat.lt_or_ge k m with h | h
          · have := pair_get HS.out hs HY.out h; omega
          · obtain rfl : k = m := by omega
            rw [HY.out] at hs; cases hs; exact hxf
        case measure => omega
      · go_wp2
        obtain ⟨g, rfl⟩ : ∃ g, gk = g + 1 := ⟨gk - 1, by have := HG.out; omega⟩
        go_roundg g
        case rel =>
          refine ⟨i, m, by omega, by omega, by have := HG.out; omega, rfl, by go_num, H1.out, fun k s hk hs => ?_, rfl⟩
          rcases Nat.lt_or_ge m k with h | h
          · have := pair_get HS.out HY.out hs h; omega
          · obtain rfl : k = m := by omega
            rw [HY.out] at hs; cases hs; omega
        case measure => omega
    · obtain rfl : i = j := by omega
      by_cases hin : i < n
      · obtain ⟨y, hs⟩ := get_some HN.out hin
        obtain ⟨b, off, rfl, c0⟩ := H.at hs
        have hh := Lib.hid (show l.contains x = (y == x) by
          by_cases hxf : y = x
          · have e : (y == x) = true := by simpa using hxf
            rw [e]
            have := List.mem_of_getElem? hs
            rw [hxf] at this
            simpa using this
          · have e : (y == x) = false := by simpa using hxf
            rw [e]
            simp only [List.contains_eq_mem, decide_eq_false_iff_not]
            intro hm
            obtain ⟨k, hk⟩ := List.getElem?_of_mem hm
            rcases Nat.lt_or_ge k i with h | h
            · have := h1 k x h hk; omega
            · rcases Nat.lt_or_ge i k with h' | h'
              · have h3 := pair_get HS.out hs hk h'
                have h4 := h2 i y (Nat.le_refl _) hs
                omega
              · obtain rfl : k = i := by omega
                rw [hs] at hk; cases hk; exact hxf rfl)
        have HH1 := Lib.hid h1; have HH2 := Lib.hid h2
        clear hs h1 h2 hg
        by_cases hyx : y = x
        · subst hyx
          have t1 : (y == y) = true := by simp
          go_wp2
          go_ret2
          exact ⟨_, by rw [hh.out, t1]; rfl, rfl⟩
        · have t1 : (y == x) = false := by simpa using hyx
          have hl := Lib.hid (nan_42 y w)
          go_wp2_with (go_at_call 42; refine (hl.out).mono ?_; rintro e w' ⟨rfl, rfl⟩)
          go_ret2
          exact ⟨_, by rw [hh.out, t1]; rfl, rfl⟩
      · obtain rfl : i = n := by omega
        have hh := Lib.hid (show l.contains x = false by
          simp only [List.contains_eq_mem, decide_eq_false_iff_not]
          intro hm
          obtain ⟨k, hk⟩ := List.getElem?_of_mem hm
          have h3 : k < l.length := by rw [List.getElem?_eq_some_iff] at hk; exact hk.1
          have := h1 k x (by have := HN.out; omega) hk
          omega)
        clear h1 h2 hg
        go_wp2
        go_ret2
        exact ⟨_, by rw [hh.out]; rfl, rfl⟩
end Go.Proofs.Ytneibbefkjjlnaa
