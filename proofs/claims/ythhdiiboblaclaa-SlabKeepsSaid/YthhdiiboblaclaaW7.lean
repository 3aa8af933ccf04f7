/- Walks: lists of numbers; the objects, of both; the need, of the program. -/
import Derived.Test.YthhdiiboblaclaaW6
namespace Go.Proofs.Ythhdiiboblaclaa
open Go.RowKit Go.Over Go.Slb Go.Seg Go.Grow
theorem ints_drop {l : List Int} {i n : Nat} (hn : l.length = n) (h : i < n) : l.drop i = l.getD i 0 :: l.drop (i + 1) := by
  rw [List.drop_eq_getElem_cons (by omega)]
  congr 1
  rw [List.getD_eq_getElem?_getD, List.getElem?_eq_getElem (by omega)]; rfl
set_option maxRecDepth 100000 in set_option maxHeartbeats 1600000 in
theorem equal_21 (a b : Option Addr) (l : List Int) (n c d : Nat) (w : World) (H : Ints w a l) (K : Ints w b l) (hn : l.length = n) (hm : n ≤ 1000000) :
    Calls Try.prog 21 #[.slice a n c, .slice b n d] w fun e w' => e = .returned (.bool true) ∧ Below w.heap.size w w' := by
  have HN := Lib.hid hn; clear hn
  have t0 : ((n : Int) != n) = false := by simp
  go_enter Try.func21, Try.ntmps21
  go_wp2
  clear t0
  go_loopg [5] n (fun g i0 wr => ∃ (i : Nat), i + g = n ∧ i0 = .int .i64 i ∧ Below w.heap.size w wr)
  case atStart => exact ⟨0, by omega, rfl, Below.refl _ _⟩
  case round =>
    obtain ⟨i, hg, rfl, hb⟩ := hrel
    cases gk with
    | zero =>
      obtain rfl : i = n := by omega
      clear hg
      go_wp2
      go_ret
      exact ⟨rfl, hb⟩
    | succ g =>
      have hin : i < n := by omega
      obtain ⟨b1, off1, rfl, h1⟩ := (H.below hb) (by rw [HN.out]; omega)
      obtain ⟨b2, off2, rfl, h2⟩ := (K.below hb) (by rw [HN.out]; omega)
      have c1 := h1 i (by rw [HN.out]; exact hin)
      have c2 := h2 i (by rw [HN.out]; exact hin)
      obtain ⟨x, hx⟩ : ∃ x, l.getD i 0 = x := ⟨_, rfl⟩
      rw [hx] at c1 c2
      have t1 : (x != x) = false := by simp
      have HG := Lib.hid hg; clear hg h1 h2 hx
      go_wp2
      go_quiet (fail)
      go_wp2
      go_roundg g
      case rel => exact ⟨i + 1, by have := HG.out; omega, by go_num, below_drewN hb _⟩
      case measure => omega
set_option maxRecDepth 100000 in set_option maxHeartbeats 1600000 in
theorem has_26 (a : Option Addr) (l : List Int) (n c : Nat) (y : Int) (w : World) (H : Ints w a l) (hn : l.length = n) (hm : n ≤ 1000000) :
    Calls Try.prog 26 #[.slice a n c, .int .i64 y] w fun e w' => e = .returned (.bool (l.contains y)) ∧ w = w' := by
  have HN := Lib.hid hn; clear hn
  obtain ⟨R, hR⟩ : ∃ R, l.contains y = R := ⟨_, rfl⟩
  rw [hR]
  have HR := Lib.hid hR; clear hR
  go_enter Try.func26, Try.ntmps26
  go_wp2
  go_loopg [5] n (fun g i0 wr => ∃ (i : Nat), i + g = n ∧ i0 = .int .i64 i ∧ (l.drop i).contains y = R ∧ w = wr)
  case atStart => exact ⟨0, by omega, rfl, HR.out, rfl⟩
  case round =>
    obtain ⟨i, hg, rfl, hF, rfl⟩ := hrel
    cases gk with
    | zero =>
      obtain rfl : i = n := by omega
      have HE := Lib.hid (show R = false by rw [← hF, List.drop_eq_nil_of_le (by rw [HN.out]; exact Nat.le_refl _)]; rfl)
      clear hg hF
      go_wp2
      go_ret
      exact ⟨by rw [HE.out]; rfl, rfl⟩
    | succ g =>
      have hin : i < n := by omega
      obtain ⟨b1, off1, rfl, h1⟩ := H (by rw [HN.out]; omega)
      have c1 := h1 i (by rw [HN.out]; exact hin)
      rw [ints_drop HN.out hin] at hF
      obtain ⟨x, hx⟩ : ∃ x, l.getD i 0 = x := ⟨_, rfl⟩
      rw [hx] at c1 hF
      have HG := Lib.hid hg; have HF := Lib.hid hF; clear hg h1 hx hF
      by_cases hxy : x = y
      · have HE := Lib.hid (show R = true by rw [← HF.out, hxy]; simp)
        subst hxy
        have t1 : (x == x) = true := by simp
        go_wp2
        go_ret
        exact ⟨by rw [HE.out]; rfl, rfl⟩
      · have t1 : (x == y) = false := by simpa using hxy
        go_wp2
        go_roundg g
        case rel => exact ⟨i + 1, by have := HG.out; omega, by go_num, by rw [← HF.out]; simp [Ne.symm hxy], rfl⟩
        case measure => omega
set_option maxRecDepth 100000 in set_option maxHeartbeats 1600000 in
theorem index_52 (a : Option Addr) (l : List Int) (n c : Nat) (y : Int) (w : World) (H : Ints w a l) (hn : l.length = n) (hm : n ≤ 1000000) :
    Calls Try.prog 52 #[.slice a n c, .int .i64 y] w (IdxOf w (l.contains y)) := by
  have HN := Lib.hid hn; clear hn
  obtain ⟨R, hR⟩ : ∃ R, l.contains y = R := ⟨_, rfl⟩
  rw [hR]
  have HR := Lib.hid hR; clear hR
  go_enter Try.func52, Try.ntmps52
  go_wp2
  go_loopg [8] n (fun g i0 wr => ∃ (i : Nat), i + g = n ∧ i0 = .int .i64 i ∧ (l.drop i).contains y = R ∧ w = wr)
  case atStart => exact ⟨0, by omega, rfl, HR.out, rfl⟩
  case round =>
    obtain ⟨i, hg, rfl, hF, rfl⟩ := hrel
    cases gk with
    | zero =>
      obtain rfl : i = n := by omega
      have HE := Lib.hid (show R = false by rw [← hF, List.drop_eq_nil_of_le (by rw [HN.out]; exact Nat.le_refl _)]; rfl)
      clear hg hF
      go_wp2
      go_ret
      exact ⟨-1, rfl, by rw [HE.out]; rfl, rfl⟩
    | succ g =>
      have hin : i < n := by omega
      obtain ⟨b1, off1, rfl, h1⟩ := H (by rw [HN.out]; omega)
      have c1 := h1 i (by rw [HN.out]; exact hin)
      rw [ints_drop HN.out hin] at hF
      obtain ⟨x, hx⟩ : ∃ x, l.getD i 0 = x := ⟨_, rfl⟩
      rw [hx] at c1 hF
      have HG := Lib.hid hg; have HF := Lib.hid hF; clear hg h1 hx hF
      by_cases hxy : y = x
      · have HE := Lib.hid (show R = true by rw [← HF.out, hxy]; simp)
        subst hxy
        have t1 : (y == y) = true := by simp
        go_wp2
        go_ret
        exact ⟨i, rfl, by rw [HE.out]; simp, rfl⟩
      · have t1 : (y == x) = false := by simpa using hxy
        go_wp2
        go_roundg g
        case rel => exact ⟨i + 1, by have := HG.out; omega, by go_num, by rw [← HF.out]; simp [hxy], rfl⟩
        case measure => omega
set_option maxRecDepth 100000 in set_option maxHeartbeats 1600000 in
theorem contains_39 (a : Option Addr) (l : List Int) (n c : Nat) (y : Int) (w : World) (H : Ints w a l) (hn : l.length = n) (hm : n ≤ 1000000) :
    Calls Try.prog 39 #[.slice a n c, .int .i64 y] w fun e w' => e = .returned (.bool (l.contains y)) ∧ w = w' := by
  obtain ⟨r, hr⟩ : ∃ r, l.contains y = r := ⟨_, rfl⟩
  have hI := index_52 a l n c y w H hn hm
  rw [hr] at hI ⊢
  have HI := Lib.hid hI; clear hI hr hn
  go_enter Try.func39, Try.ntmps39
  go_wp2_with (go_at_call 52; refine HI.out.mono ?_; rintro e w' ⟨k, rfl, hk, rfl⟩)
  go_ret
  exact ⟨rfl, rfl⟩
/-- n numbers (at most 60) from f on. -/
def nextL (f : Int) : Nat → List Int
  | 0 => []
  | k + 1 => nextL f k ++ [f + k]
theorem nextL_len (f : Int) : ∀ k, (nextL f k).length = k
  | 0 => rfl
  | k + 1 => by simp [nextL, nextL_len f k]
set_option maxRecDepth 100000 in set_option maxHeartbeats 1600000 in
theorem next_24 (f : Int) (N : Nat) (w : World) (hf0 : 0 ≤ f) (hf : f ≤ 1000000) (hN : N ≤ 60) :
    Calls Try.prog 24 #[.int .i64 f, .int .i64 N] w fun e w' => ∃ v, e = .returned v ∧ OwnI w' w.heap.size v (nextL f N) ∧ Below w.heap.size w w' := by
  go_enter Try.func24, Try.ntmps24
  go_wp2
  go_loopg [5, 6] N (fun g v0 i0 wr => ∃ (i : Nat) (v : Value), i + g = N ∧ v = v0 ∧ i0 = .int .i64 i ∧ OwnI wr w.heap.size v (nextL f i) ∧ Below w.heap.size w wr)
  case atStart => exact ⟨0, _, by omega, rfl, rfl, World.ownsRow_nil _ _ _ _, Below.refl _ _⟩
  case round =>
    obtain ⟨i, v, hg, rfl, rfl, hO, hb⟩ := hrel
    cases gk with
    | zero =>
      obtain rfl : i = N := by omega
      clear hg
      go_wp2
      go_ret
      exact ⟨_, rfl, hO, hb⟩
    | succ g =>
      have hin : i < N := by omega
      have hi60 : i < 60 := by omega
      have HG := Lib.hid hg; clear hg
      go_wp2_with (at_builtin; refine wpList_append_k K31 rfl (.tmp 16) (.tmp 20) rfl _ _ _ rfl (hO.alloc _) _ 1 1 _ rfl (src_new wr #[.int .i64 (f + i)] 3 1 1 1 rfl (by simp [Value.oneCell'])) ?c1 ?c2 ?_)
      case c1 => rw [nextL_len]; omega
      case c2 => have := hb.size; simp; omega
      intro v3 w3 hown hgrow _
      have hb3 : Below w.heap.size w w3 := (below_alloc hb _).grown hgrow (by have := hb.size; simp; omega) (fun q hq => (hO.lt q hq).1)
      have hO3 : OwnI w3 w.heap.size v3 (nextL f (i + 1)) := by
        unfold OwnI
        rw [show nextL f (i + 1) = nextL f i ++ [f + i] from rfl, List.map_append, List.length_append]
        exact hown
      clear hown hgrow hO
      go_wp2
      go_roundg g
      case rel => exact ⟨i + 1, v3, by have := HG.out; omega, rfl, by go_num, hO3, hb3⟩
      case measure => omega
end Go.Proofs.Ythhdiiboblaclaa
