/- Walks: slices.Delete of one request of a row of the call's own. -/
import Derived.Test.YtlhbjmoncdljoaaI1
namespace Go.Proofs.Ytlhbjmoncdljoaa
open Go.RowKit Go.Over Go.Dev Go.Seg Go.Grow
theorem row_open4 {w : World} {base n : Nat} {V : Value} {xs : List Value} (h : w.ownsRow base 39 4 V n xs) (hn : 0 < n) :
    ∃ g cap cur, V = .slice (some ⟨g, 0, none⟩) n cap ∧ base ≤ g ∧ Blk w g 39 cur ∧ n ≤ cap ∧ cap ≤ maxLen ∧ cur.length = cap * 4 ∧ cur.take (n * 4) = xs ∧ xs.length = n * 4 := by
  rcases h.2 with ⟨_, rfl⟩ | ⟨g, cap, cur, rfl, h1, h2, h3, h4, h5, h6⟩
  · omega
  · exact ⟨g, cap, cur.toList, rfl, h1, by unfold Blk; simpa using h2, h3, h4, by simpa using h5, h6, h.1⟩
theorem row_shut4 {w : World} {base n g cap : Nat} {cur xs : List Value} (hg : base ≤ g) (hb : Blk w g 39 cur) (hn : n ≤ cap) (hc : cap ≤ maxLen) (hl : cur.length = cap * 4) (ht : cur.take (n * 4) = xs) : w.ownsRow base 39 4 (.slice (some ⟨g, 0, none⟩) n cap) n xs := by
  refine ⟨by rw [← ht, List.length_take, hl]; omega, .inr ⟨g, cap, cur.toArray, rfl, hg, hb, hn, hc, by simpa using hl, by simpa using ht⟩⟩
theorem del_here (cur xs new : List Value) (i n : Nat) (hi : i < n) (hx : xs.length = n * 4) (ht : cur.take (n * 4) = xs) (hnew : new.take ((n - 1) * 4) = (lay cur (i * 4) (xs.drop ((i + 1) * 4))).take ((n - 1) * 4)) :
    new.take ((n - 1) * 4) = xs.take (i * 4) ++ xs.drop ((i + 1) * 4) := by
  have hle : n * 4 ≤ cur.length := by
    have := congrArg List.length ht
    rw [List.length_take, hx] at this; omega
  rw [hnew]
  unfold lay
  have a1 : cur.take (i * 4) = xs.take (i * 4) := by rw [← ht, List.take_take]; congr 1; omega
  rw [a1]
  have l1 : (xs.take (i * 4)).length = i * 4 := by rw [List.length_take]; omega
  have l2 : (xs.drop ((i + 1) * 4)).length = (n - 1 - i) * 4 := by rw [List.length_drop]; omega
  rw [List.take_append_of_le_length (by rw [List.length_append]; omega), List.take_of_length_le (by rw [List.length_append]; omega)]
def DelAns (w : World) (base : Nat) (V : Value) (n : Nat) (ys : List Value) (e : Ending) (w' : World) : Prop :=
  ∃ V', e = .returned V' ∧ w'.ownsRow base 39 4 V' (n - 1) ys ∧ w.grownBy w' V.ownBlock ∧ V'.ownBlock = V.ownBlock
set_option maxRecDepth 100000 in set_option maxHeartbeats 1600000 in
theorem delete_47 (base : Nat) (V : Value) (n i : Nat) (xs : List Value) (w : World) (hown : w.ownsRow base 39 4 V n xs) (h1c : ∀ u ∈ xs, u.oneCell' = true) (hi : i < n) (hn : n ≤ 100000) :
    Calls Try.prog 47 #[V, .int .i64 i, .int .i64 ((i + 1 : Nat) : Int)] w (DelAns w base V n (xs.take (i * 4) ++ xs.drop ((i + 1) * 4))) := by
  obtain ⟨g, cap, cur, rfl, hg, hB, hnc, hcm, hcl, ht, hx⟩ := row_open4 hown (by omega)
  unfold maxLen at hcm
  have hfin := Lib.hid (fun new => del_here cur xs new i n hi hx ht)
  have hcs := Lib.hid (show (xs.drop ((i + 1) * 4)).length = (n - (i + 1)) * 4 by rw [List.length_drop, hx]; omega)
  have HSRC := Lib.hid (drop_src (k := (i + 1) * 4) ht)
  have HX := Lib.hid hx; have H1C := Lib.hid h1c; have HCL := Lib.hid hcl
  have t1 : ((i : Int) == ((i + 1 : Nat) : Int)) = false := by simp; omega
  have hclr : ∃ i z, Try.prog.info? 39 = some i ∧ i.zero = some z ∧ z.cells.size = 4 ∧ ∀ v ∈ z.cells.toList, v.oneCell' = true := by
    obtain ⟨i, hi, hz0, hz1, hz2⟩ := info_parts (show (Try.prog.info? 39).map (fun i => (i.zero, i.size, i.bytes)) = some (some (.agg #[.int .i64 0, .int .i64 0, .int .i64 0, .slice none 0 0]), 4, 48) by kernel_rfl)
    exact ⟨i, _, hi, hz0, rfl, by intro v hv; simp [Value.cells] at hv; rcases hv with rfl | rfl | rfl | rfl <;> rfl⟩
  have HC := Lib.hid hclr
  clear ht hx h1c hcl hclr hown
  have e0 : ((i + 1 : Nat) : Int) ≤ (n : Int) := by omega
  have e2 : (i : Int) ≤ ((i + 1 : Nat) : Int) := by omega
  by_cases hci : cap = i + 1
  · have hni : n = i + 1 := by omega
    subst hci
    have HNI := Lib.hid hni; clear hni
    go_enter Try.func47, Try.ntmps47
    go_wp2_with fail
    have HS2 := Lib.hid (show ∀ j u, (xs.drop ((i + 1) * 4))[j]? = some u → cur[0 + j]? = some u by
      intro j u hj
      rw [List.eq_nil_of_length_eq_zero (l := xs.drop ((i + 1) * 4)) (by rw [hcs.out]; omega)] at hj
      simp at hj)
    refine wp_region_segs (fun _ => True) [(true, 6), (false, 1), (true, 1)] (by kernel_rfl) (by kernel_rfl) trivial ?_
    intro W _ hWe
    have hBW : Blk W g 39 cur := by rw [hWe]; exact hB
    have hgW : w.grownBy W (some g) := by rw [hWe]; exact ⟨rfl, rfl, rfl, Nat.le_refl _, fun _ _ _ => rfl⟩
    clear hWe hB
    simp only [wpSegs, List.take_succ_cons, List.take_zero, List.drop_succ_cons, List.drop_zero]
    repeat (go_big_quiet_step (fail))
    refine wpQuiet_nil ?_
    refine wpList_append_room_k K24 rfl (.tmp 22) (.tmp 25) rfl g i (i + 1) ⟨g, 0, none⟩ _ _ rfl rfl cur hBW (xs.drop ((i + 1) * 4)) ?c1 (blk_src hBW HS2.out) (fun u hu => H1C.out u (List.mem_of_mem_drop hu)) ?c2 HCL.out ?_
    case c1 => have := hcs.out; omega
    case c2 => omega
    intro w2 hB2 hg2
    rw [show i + 0 = i from by omega]
    have hgw2 := grown_trans hgW hg2
    have hl2 := Lib.hid (show (lay cur (i * 4) (xs.drop ((i + 1) * 4))).length = (i + 1) * 4 by rw [lay_len (by rw [hcs.out, HCL.out]; omega), HCL.out])
    clear hBW hgW hg2
    refine wpList_nil ⟨hold_of (S0 := fun _ => True) trivial, ?_⟩
    simp only [Act.put, List.setIfInBounds_toArray, List.set_cons_succ, List.set_cons_zero]
    repeat (go_big_quiet_step (fail))
    refine wpQuiet_nil ?_
    refine NoPanic.normal ?_
    have z1 : ¬ (i + 1) = i := by omega
    have z2 : ((i : Nat) : Int) ≤ (n : Int) := by omega
    have z3 : ¬ ((n : Int) = 0) := by omega
    go_wp2_with (refine wpList_clear_k Try.underlying24 HC.out rfl (.tmp 31) rfl g (i * 4) _ _ rfl ?d0 _ 39 hB2 ?d1 ?_)
    case d0 => omega
    case d1 => rw [hl2.out]; omega
    intro w3 new hB3 hln htk hg3
    have hgw3 := grown_trans hgw2 hg3
    have hfq : ∀ new : List Value, new.take (i * 4) = (lay cur (i * 4) (xs.drop ((i + 1) * 4))).take (i * 4) → new.take (i * 4) = xs.take (i * 4) ++ xs.drop ((i + 1) * 4) := by
      have hq : n - 1 = i := by exact (congrArg (· - 1) HNI.out)
      have := hfin.out
      rw [hq] at this
      exact this
    have hown := row_shut4 (base := base) (n := i) (cap := (i + 1)) hg hB3 (by omega) (by unfold maxLen; omega) (by rw [hln, hl2.out]) (hfq new htk)
    clear hB2 hg3 hgw2 hB3 htk
    go_wp2
    go_ret
    exact ⟨_, rfl, by have hq : n - 1 = i := by exact (congrArg (· - 1) HNI.out)
                      rw [hq]; exact hown, hgw3, rfl⟩
  · go_enter Try.func47, Try.ntmps47
    go_wp2_with fail
    have HS2 := HSRC
    refine wp_region_segs (fun _ => True) [(true, 6), (false, 1), (true, 1)] (by kernel_rfl) (by kernel_rfl) trivial ?_
    intro W _ hWe
    have hBW : Blk W g 39 cur := by rw [hWe]; exact hB
    have hgW : w.grownBy W (some g) := by rw [hWe]; exact ⟨rfl, rfl, rfl, Nat.le_refl _, fun _ _ _ => rfl⟩
    clear hWe hB
    simp only [wpSegs, List.take_succ_cons, List.take_zero, List.drop_succ_cons, List.drop_zero]
    repeat (go_big_quiet_step (fail))
    refine wpQuiet_nil ?_
    refine wpList_append_room_k K24 rfl (.tmp 22) (.tmp 25) rfl g i cap ⟨g, (i + 1) * 4, none⟩ _ _ rfl rfl cur hBW (xs.drop ((i + 1) * 4)) ?c1 (blk_src hBW HS2.out) (fun u hu => H1C.out u (List.mem_of_mem_drop hu)) ?c2 HCL.out ?_
    case c1 => have := hcs.out; omega
    case c2 => omega
    intro w2 hB2 hg2
    rw [show i + (n - (i + 1)) = (n - 1) from by omega]
    have hgw2 := grown_trans hgW hg2
    have hl2 := Lib.hid (show (lay cur (i * 4) (xs.drop ((i + 1) * 4))).length = cap * 4 by rw [lay_len (by rw [hcs.out, HCL.out]; omega), HCL.out])
    clear hBW hgW hg2
    refine wpList_nil ⟨hold_of (S0 := fun _ => True) trivial, ?_⟩
    simp only [Act.put, List.setIfInBounds_toArray, List.set_cons_succ, List.set_cons_zero]
    repeat (go_big_quiet_step (fail))
    refine wpQuiet_nil ?_
    refine NoPanic.normal ?_
    have z1 : ¬ cap = (n - 1) := by omega
    have z2 : (((n - 1) : Nat) : Int) ≤ (n : Int) := by omega
    have z3 : ¬ ((n : Int) = 0) := by omega
    go_wp2_with (refine wpList_clear_k Try.underlying24 HC.out rfl (.tmp 31) rfl g ((n - 1) * 4) _ _ rfl ?d0 _ 39 hB2 ?d1 ?_)
    case d0 => omega
    case d1 => rw [hl2.out]; omega
    intro w3 new hB3 hln htk hg3
    have hgw3 := grown_trans hgw2 hg3
    have hfq : ∀ new : List Value, new.take ((n - 1) * 4) = (lay cur (i * 4) (xs.drop ((i + 1) * 4))).take ((n - 1) * 4) → new.take ((n - 1) * 4) = xs.take (i * 4) ++ xs.drop ((i + 1) * 4) := by
      have hq : n - 1 = (n - 1) := by rfl
      have := hfin.out
      rw [hq] at this
      exact this
    have hown := row_shut4 (base := base) (n := (n - 1)) (cap := cap) hg hB3 (by omega) (by unfold maxLen; omega) (by rw [hln, hl2.out]) (hfq new htk)
    clear hB2 hg3 hgw2 hB3 htk
    go_wp2
    go_ret
    exact ⟨_, rfl, by have hq : n - 1 = (n - 1) := by rfl
                      rw [hq]; exact hown, hgw3, rfl⟩
end Go.Proofs.Ytlhbjmoncdljoaa
