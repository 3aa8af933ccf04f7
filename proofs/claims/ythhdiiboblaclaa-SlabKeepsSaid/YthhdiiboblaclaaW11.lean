/- Walks: slices.Insert into a new row; slices.Delete. -/
import Derived.Test.YthhdiiboblaclaaW10
namespace Go.Proofs.Ythhdiiboblaclaa
open Go.RowKit Go.Over Go.Slb Go.Seg Go.Grow
set_option maxRecDepth 100000 in set_option maxHeartbeats 1600000 in
theorem insert_grow (base : Nat) (g n cap i : Nat) (cur xs : List Value) (x1 x2 : Value) (vb : Nat) (w : World) (hg : base ≤ w.heap.size) (hB : Blk w g 52 cur) (hcm : cap ≤ maxLen) (ht : cur.take (n * 2) = xs) (hx : xs.length = n * 2) (h1c : ∀ u ∈ xs, u.oneCell' = true)
    (hv : Blk w vb 52 [x1, x2]) (h1 : x1.oneCell' = true) (h2 : x2.oneCell' = true) (hi : i < n) (hnc : n ≤ cap) (hroom : cap < n + 1) (hn : n ≤ 100000) :
    Calls Try.prog 37 #[.slice (some ⟨g, 0, none⟩) n cap, .int .i64 i, .slice (some ⟨vb, 0, none⟩) 1 1] w (InsAns w base (.slice (some ⟨g, 0, none⟩) n cap) n (xs.take (i * 2) ++ [x1, x2] ++ xs.drop (i * 2))) := by
  unfold maxLen at hcm
  have hfin := Lib.hid (fun zs => ins_there xs zs i n x1 x2 hi hx)
  have hcs := Lib.hid (show (xs.drop (i * 2)).length = (n - i) * 2 by rw [List.length_drop, hx]; omega)
  have htl := Lib.hid (show (xs.take (i * 2)).length = i * 2 by rw [List.length_take, hx]; omega)
  have HSRC := Lib.hid (drop_src (k := i * 2) ht)
  have HSRC0 := Lib.hid (show ∀ j u, (xs.take (i * 2))[j]? = some u → cur[0 + j]? = some u by
    intro j u hj
    rw [List.getElem?_take] at hj
    split at hj
    · have := drop_src (k := 0) ht j u (by simpa using hj)
      exact this
    · cases hj)
  have HX := Lib.hid hx; have H1C := Lib.hid h1c
  have t1 : ((i : Int) == (n : Int)) = false := by simp; omega
  have t2 : (cap : Int) < (n : Int) + 1 := by omega
  have e1 : IntKind.i64.wrap ((n : Int) + 1 - (i : Int)) = ((n + 1 - i : Nat) : Int) := by rw [IntWalk.i64_in _ (by omega)]; omega
  have e2 : (n : Int) + 1 - (i : Int) = ((n + 1 - i : Nat) : Int) := by omega
  have e8 : ¬ cap = i := by omega
  clear ht hx h1c
  go_enter Try.func37, Try.ntmps37
  go_wp2_with (at_builtin; refine wpList_append_zeros_k K22 rfl (.tmp 34) (.tmp 39) 3 Try.underlying3 rfl ⟨g, 0, none⟩ i cap (n + 1 - i) rfl rfl (xs.take (i * 2)) htl.out (blk_src hB HSRC0.out) (by omega) (by omega) (by omega) ?_)
  intro w2 G zs hB2 hlz hG1 hG2 hg2 hsz
  have hv2 : Blk w2 vb 52 [x1, x2] := hv.grown hg2 (by simp)
  have hO2 : Blk w2 g 52 cur := hB.grown hg2 (by simp)
  have hgne : g ≠ w.heap.size := by have := hB.lt; omega
  have hLZ := Lib.hid hlz
  have hbig : (xs.take (i * 2) ++ zs).length = G * 2 := by rw [List.length_append]; first | exact hlz | (rw [List.length_take]; exact hlz)
  have HBIG := Lib.hid hbig
  have eG1 : ¬ G = i := by omega
  have eG2 : ¬ G = i + 1 := by omega
  have en : i + (n + 1 - i) = n + 1 := by omega
  unfold maxLen at hG2
  clear hlz hbig hB hv
  rw [en]
  clear e1 e2 en
  go_wp2_with (refine wpList_copy_k K22 rfl (.tmp 43) (.tmp 44) rfl w.heap.size (i * 2) _ _ ⟨vb, 0, none⟩ _ _ rfl rfl _ 52 [x1, x2] hB2 ?d1 (blk_src hv2 (by intro j u h; simpa using h)) ?d2 (by simp [h1, h2]) ?_)
  case d1 => simp only [Nat.min_def, List.length_cons, List.length_nil]; split <;> omega
  case d2 => rw [HBIG.out]; simp; omega
  intro w3 hB3 hg3
  have hO3 : Blk w3 g 52 cur := hO2.grown hg3 (by simpa using Ne.symm hgne)
  have hl3 := Lib.hid (show (lay (xs.take (i * 2) ++ zs) (i * 2) [x1, x2]).length = G * 2 by rw [lay_len (by rw [HBIG.out]; simp; omega), HBIG.out])
  have hgw3 : ∀ k, k < w.heap.size → w3.heap[k]? = w.heap[k]? := fun k hk => (hg3.block k (by omega) (by simp; omega)).trans (hg2.block k hk (by simp))
  have hos3 : w3.os = w.os ∧ w3.tape = w.tape ∧ w3.output = w.output ∧ w.heap.size < w3.heap.size := ⟨hg3.os.trans hg2.os, hg3.tape.trans hg2.tape, hg3.output.trans hg2.output, by have := hg3.size; omega⟩
  clear hB2 hg3 hg2 hO2 hv2 hsz
  go_wp2
  refine wp_region_segs (fun _ => True) [(true, 8), (false, 1)] (by kernel_rfl) (by kernel_rfl) trivial ?_
  intro W _ hWe
  have hBW : Blk W w.heap.size 52 (lay (xs.take (i * 2) ++ zs) (i * 2) [x1, x2]) := by rw [hWe]; exact hB3
  have hOW : Blk W g 52 cur := by rw [hWe]; exact hO3
  have hgW : ∀ k, k < w.heap.size → W.heap[k]? = w.heap[k]? := fun k hk => by rw [hWe]; exact hgw3 k hk
  have hosW : W.os = w.os ∧ W.tape = w.tape ∧ W.output = w.output ∧ w.heap.size < W.heap.size := by rw [hWe]; exact hos3
  clear hWe hB3 hO3 hgw3 hos3
  simp only [wpSegs, List.take_succ_cons, List.take_zero, List.drop_succ_cons, List.drop_zero]
  have e1 : IntKind.i64.wrap ((i : Int) + 1) = (i : Int) + 1 := IntWalk.i64_in _ (by omega)
  have e3 : ((i : Int) + 1).toNat = i + 1 := by omega
  have e4 : (0 : Int) ≤ (i : Int) + 1 := by omega
  have e5 : (i : Int) + 1 ≤ (n : Int) + 1 := by omega
  have e6 : (i : Int) ≤ (n : Int) := by omega
  repeat (go_big_quiet_step (fail))
  refine wpQuiet_nil ?_
  clear e1 e3 e4 e5 e6
  refine wpList_copy_k K22 rfl (.tmp 50) (.tmp 53) rfl w.heap.size ((i + 1) * 2) _ _ ⟨g, i * 2, none⟩ _ _ rfl rfl _ 52 (xs.drop (i * 2)) hBW ?c1 (blk_src hOW HSRC.out) ?c2 (fun u hu => H1C.out u (List.mem_of_mem_drop hu)) ?_
  case c1 => rw [hcs.out]; congr 1; simp only [Nat.min_def]; split <;> omega
  case c2 => rw [hcs.out, hl3.out]; omega
  intro w4 hB4 hg4
  have hl4 := lay_len (L := lay (xs.take (i * 2) ++ zs) (i * 2) [x1, x2]) (o := (i + 1) * 2) (cs := xs.drop (i * 2)) (by rw [hcs.out, hl3.out]; omega)
  have hown := row_shut (base := base) (n := n + 1) (cap := G) hg hB4 (by omega) (by unfold maxLen; omega) (by rw [hl4, hl3.out]) (hfin.out zs)
  have hfinal : w.grownBy w4 (some g) := ⟨hg4.os.trans hosW.1, hg4.tape.trans hosW.2.1, hg4.output.trans hosW.2.2.1, by have := hg4.size; omega, fun k hk _ => (hg4.block k (by omega) (by simp; omega)).trans (hgW k hk)⟩
  refine wpList_nil ⟨hold_of (S0 := fun _ => True) trivial, NoPanic.normal ?_⟩
  simp only [Act.put, List.setIfInBounds_toArray, List.set_cons_succ, List.set_cons_zero]
  clear hBW hOW hgW hosW hB4 hg4 hl4
  go_wp2
  go_ret
  exact ⟨_, rfl, hown, hfinal, fun k hk => .inr (by simp [Value.ownBlock] at hk; omega)⟩
theorem insert_37 (base : Nat) (V : Value) (n i : Nat) (xs : List Value) (x1 x2 : Value) (vb : Nat) (w : World) (hown : w.ownsRow base 52 2 V n xs) (h1c : ∀ u ∈ xs, u.oneCell' = true) (hv : Blk w vb 52 [x1, x2]) (h1 : x1.oneCell' = true) (h2 : x2.oneCell' = true) (hne : V.ownBlock ≠ some vb) (hi : i ≤ n) (hn : n ≤ 100000) (hb : base ≤ w.heap.size) :
    Calls Try.prog 37 #[V, .int .i64 i, .slice (some ⟨vb, 0, none⟩) 1 1] w (InsAns w base V n (xs.take (i * 2) ++ [x1, x2] ++ xs.drop (i * 2))) := by
  rcases Nat.eq_or_lt_of_le hi with rfl | hlt
  · have := insert_end base V i xs x1 x2 vb w hown hv h1 h2 hn hb
    have hl := hown.1
    rw [List.take_of_length_le (by omega), List.drop_eq_nil_of_le (by omega), List.append_nil]
    exact this
  · obtain ⟨g, cap, cur, rfl, hg, hB, h3, h4, h5, h6, h7⟩ := row_open hown (by omega)
    by_cases hr : n + 1 ≤ cap
    · exact insert_room base g n cap i cur xs x1 x2 vb w hg hB h5 h4 h6 h7 h1c hv h1 h2 (fun e => hne (by rw [e]; rfl)) hlt hr hn
    · exact insert_grow base g n cap i cur xs x1 x2 vb w hb hB h4 h6 h7 h1c hv h1 h2 hlt h3 (by omega) hn
theorem del_here (cur xs new : List Value) (i n : Nat) (hi : i < n) (hx : xs.length = n * 2) (ht : cur.take (n * 2) = xs) (hnew : new.take ((n - 1) * 2) = (lay cur (i * 2) (xs.drop ((i + 1) * 2))).take ((n - 1) * 2)) :
    new.take ((n - 1) * 2) = xs.take (i * 2) ++ xs.drop ((i + 1) * 2) := by
  have hle : n * 2 ≤ cur.length := by
    have := congrArg List.length ht
    rw [List.length_take, hx] at this; omega
  rw [hnew]
  unfold lay
  have a1 : cur.take (i * 2) = xs.take (i * 2) := by rw [← ht, List.take_take]; congr 1; omega
  rw [a1]
  have l1 : (xs.take (i * 2)).length = i * 2 := by rw [List.length_take]; omega
  have l2 : (xs.drop ((i + 1) * 2)).length = (n - 1 - i) * 2 := by rw [List.length_drop]; omega
  rw [List.take_append_of_le_length (by rw [List.length_append]; omega), List.take_of_length_le (by rw [List.length_append]; omega)]
def DelAns (w : World) (base : Nat) (V : Value) (n : Nat) (ys : List Value) (e : Ending) (w' : World) : Prop :=
  ∃ V', e = .returned V' ∧ w'.ownsRow base 52 2 V' (n - 1) ys ∧ w.grownBy w' V.ownBlock ∧ V'.ownBlock = V.ownBlock
set_option maxRecDepth 100000 in set_option maxHeartbeats 1600000 in
theorem delete_45 (base : Nat) (V : Value) (n i : Nat) (xs : List Value) (w : World) (hown : w.ownsRow base 52 2 V n xs) (h1c : ∀ u ∈ xs, u.oneCell' = true) (hi : i < n) (hn : n ≤ 100000) :
    Calls Try.prog 45 #[V, .int .i64 i, .int .i64 ((i + 1 : Nat) : Int)] w (DelAns w base V n (xs.take (i * 2) ++ xs.drop ((i + 1) * 2))) := by
  obtain ⟨g, cap, cur, rfl, hg, hB, hnc, hcm, hcl, ht, hx⟩ := row_open hown (by omega)
  unfold maxLen at hcm
  have hfin := Lib.hid (fun new => del_here cur xs new i n hi hx ht)
  have hcs := Lib.hid (show (xs.drop ((i + 1) * 2)).length = (n - (i + 1)) * 2 by rw [List.length_drop, hx]; omega)
  have HSRC := Lib.hid (drop_src (k := (i + 1) * 2) ht)
  have HX := Lib.hid hx; have H1C := Lib.hid h1c; have HCL := Lib.hid hcl
  have t1 : ((i : Int) == ((i + 1 : Nat) : Int)) = false := by simp; omega
  have hclr : ∃ i z, Try.prog.info? 52 = some i ∧ i.zero = some z ∧ z.cells.size = 2 ∧ ∀ v ∈ z.cells.toList, v.oneCell' = true := by
    obtain ⟨i, hi, hz0, hz1, hz2⟩ := info_parts (show (Try.prog.info? 52).map (fun i => (i.zero, i.size, i.bytes)) = some (some (.agg #[.int .i64 0, .slice none 0 0]), 2, 32) by kernel_rfl)
    exact ⟨i, _, hi, hz0, rfl, by intro v hv; simp [Value.cells] at hv; rcases hv with rfl | rfl <;> rfl⟩
  have HC := Lib.hid hclr
  clear ht hx h1c hcl hclr hown
  have e0 : ((i + 1 : Nat) : Int) ≤ (n : Int) := by omega
  have e2 : (i : Int) ≤ ((i + 1 : Nat) : Int) := by omega
  by_cases hci : cap = i + 1
  · have hni : n = i + 1 := by omega
    subst hci
    have HNI := Lib.hid hni; clear hni
    go_enter Try.func45, Try.ntmps45
    go_wp2_with fail
    have HS2 := Lib.hid (show ∀ j u, (xs.drop ((i + 1) * 2))[j]? = some u → cur[0 + j]? = some u by
      intro j u hj
      rw [List.eq_nil_of_length_eq_zero (l := xs.drop ((i + 1) * 2)) (by rw [hcs.out]; omega)] at hj
      simp at hj)
    refine wp_region_segs (fun _ => True) [(true, 6), (false, 1), (true, 1)] (by kernel_rfl) (by kernel_rfl) trivial ?_
    intro W _ hWe
    have hBW : Blk W g 52 cur := by rw [hWe]; exact hB
    have hgW : w.grownBy W (some g) := by rw [hWe]; exact ⟨rfl, rfl, rfl, Nat.le_refl _, fun _ _ _ => rfl⟩
    clear hWe hB
    simp only [wpSegs, List.take_succ_cons, List.take_zero, List.drop_succ_cons, List.drop_zero]
    repeat (go_big_quiet_step (fail))
    refine wpQuiet_nil ?_
    refine wpList_append_room_k K22 rfl (.tmp 22) (.tmp 25) rfl g i (i + 1) ⟨g, 0, none⟩ _ _ rfl rfl cur hBW (xs.drop ((i + 1) * 2)) ?c1 (blk_src hBW HS2.out) (fun u hu => H1C.out u (List.mem_of_mem_drop hu)) ?c2 HCL.out ?_
    case c1 => have := hcs.out; omega
    case c2 => omega
    intro w2 hB2 hg2
    rw [show i + 0 = i from by omega]
    have hgw2 := grown_trans hgW hg2
    have hl2 := Lib.hid (show (lay cur (i * 2) (xs.drop ((i + 1) * 2))).length = (i + 1) * 2 by rw [lay_len (by rw [hcs.out, HCL.out]; omega), HCL.out])
    clear hBW hgW hg2
    refine wpList_nil ⟨hold_of (S0 := fun _ => True) trivial, ?_⟩
    simp only [Act.put, List.setIfInBounds_toArray, List.set_cons_succ, List.set_cons_zero]
    repeat (go_big_quiet_step (fail))
    refine wpQuiet_nil ?_
    refine NoPanic.normal ?_
    have z1 : ¬ (i + 1) = i := by omega
    have z2 : ((i : Nat) : Int) ≤ (n : Int) := by omega
    have z3 : ¬ ((n : Int) = 0) := by omega
    go_wp2_with (refine wpList_clear_k Try.underlying22 HC.out rfl (.tmp 31) rfl g (i * 2) _ _ rfl ?d0 _ 52 hB2 ?d1 ?_)
    case d0 => omega
    case d1 => rw [hl2.out]; omega
    intro w3 new hB3 hln htk hg3
    have hgw3 := grown_trans hgw2 hg3
    have hfq : ∀ new : List Value, new.take (i * 2) = (lay cur (i * 2) (xs.drop ((i + 1) * 2))).take (i * 2) → new.take (i * 2) = xs.take (i * 2) ++ xs.drop ((i + 1) * 2) := by
      have hq : n - 1 = i := by exact (congrArg (· - 1) HNI.out)
      have := hfin.out
      rw [hq] at this
      exact this
    have hown := row_shut (base := base) (n := i) (cap := (i + 1)) hg hB3 (by omega) (by unfold maxLen; omega) (by rw [hln, hl2.out]) (hfq new htk)
    clear hB2 hg3 hgw2 hB3 htk
    go_wp2
    go_ret
    exact ⟨_, rfl, by have hq : n - 1 = i := by exact (congrArg (· - 1) HNI.out)
                      rw [hq]; exact hown, hgw3, rfl⟩
  · go_enter Try.func45, Try.ntmps45
    go_wp2_with fail
    have HS2 := HSRC
    refine wp_region_segs (fun _ => True) [(true, 6), (false, 1), (true, 1)] (by kernel_rfl) (by kernel_rfl) trivial ?_
    intro W _ hWe
    have hBW : Blk W g 52 cur := by rw [hWe]; exact hB
    have hgW : w.grownBy W (some g) := by rw [hWe]; exact ⟨rfl, rfl, rfl, Nat.le_refl _, fun _ _ _ => rfl⟩
    clear hWe hB
    simp only [wpSegs, List.take_succ_cons, List.take_zero, List.drop_succ_cons, List.drop_zero]
    repeat (go_big_quiet_step (fail))
    refine wpQuiet_nil ?_
    refine wpList_append_room_k K22 rfl (.tmp 22) (.tmp 25) rfl g i cap ⟨g, (i + 1) * 2, none⟩ _ _ rfl rfl cur hBW (xs.drop ((i + 1) * 2)) ?c1 (blk_src hBW HS2.out) (fun u hu => H1C.out u (List.mem_of_mem_drop hu)) ?c2 HCL.out ?_
    case c1 => have := hcs.out; omega
    case c2 => omega
    intro w2 hB2 hg2
    rw [show i + (n - (i + 1)) = (n - 1) from by omega]
    have hgw2 := grown_trans hgW hg2
    have hl2 := Lib.hid (show (lay cur (i * 2) (xs.drop ((i + 1) * 2))).length = cap * 2 by rw [lay_len (by rw [hcs.out, HCL.out]; omega), HCL.out])
    clear hBW hgW hg2
    refine wpList_nil ⟨hold_of (S0 := fun _ => True) trivial, ?_⟩
    simp only [Act.put, List.setIfInBounds_toArray, List.set_cons_succ, List.set_cons_zero]
    repeat (go_big_quiet_step (fail))
    refine wpQuiet_nil ?_
    refine NoPanic.normal ?_
    have z1 : ¬ cap = (n - 1) := by omega
    have z2 : (((n - 1) : Nat) : Int) ≤ (n : Int) := by omega
    have z3 : ¬ ((n : Int) = 0) := by omega
    go_wp2_with (refine wpList_clear_k Try.underlying22 HC.out rfl (.tmp 31) rfl g ((n - 1) * 2) _ _ rfl ?d0 _ 52 hB2 ?d1 ?_)
    case d0 => omega
    case d1 => rw [hl2.out]; omega
    intro w3 new hB3 hln htk hg3
    have hgw3 := grown_trans hgw2 hg3
    have hfq : ∀ new : List Value, new.take ((n - 1) * 2) = (lay cur (i * 2) (xs.drop ((i + 1) * 2))).take ((n - 1) * 2) → new.take ((n - 1) * 2) = xs.take (i * 2) ++ xs.drop ((i + 1) * 2) := by
      have hq : n - 1 = (n - 1) := by rfl
      have := hfin.out
      rw [hq] at this
      exact this
    have hown := row_shut (base := base) (n := (n - 1)) (cap := cap) hg hB3 (by omega) (by unfold maxLen; omega) (by rw [hln, hl2.out]) (hfq new htk)
    clear hB2 hg3 hgw2 hB3 htk
    go_wp2
    go_ret
    exact ⟨_, rfl, by have hq : n - 1 = (n - 1) := by rfl
                      rw [hq]; exact hown, hgw3, rfl⟩
end Go.Proofs.Ythhdiiboblaclaa
