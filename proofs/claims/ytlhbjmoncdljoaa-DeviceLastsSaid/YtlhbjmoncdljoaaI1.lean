/- Walks: slices.Insert of one cached block into a row of the call's own. -/
import Derived.Test.YtlhbjmoncdljoaaD6
import Derived.Test.YtlhbjmoncdljoaaRows2
namespace Go.Proofs.Ytlhbjmoncdljoaa
open Go.RowKit Go.Over Go.Dev Go.Seg Go.Grow
theorem ins_here (cur xs : List Value) (i n : Nat) (x1 x2 : Value) (hi : i < n) (hx : xs.length = n * 2) (ht : cur.take (n * 2) = xs) :
    (lay (lay cur ((i + 1) * 2) (xs.drop (i * 2))) (i * 2) [x1, x2]).take ((n + 1) * 2) = xs.take (i * 2) ++ [x1, x2] ++ xs.drop (i * 2) := by
  have h1 : cur = xs ++ cur.drop (n * 2) := by rw [← ht, List.take_append_drop]
  have h2 : xs = xs.take (i * 2) ++ xs.drop (i * 2) := (List.take_append_drop _ _).symm
  obtain ⟨p, hp⟩ : ∃ p, xs.take (i * 2) = p := ⟨_, rfl⟩
  obtain ⟨q, hq⟩ : ∃ q, xs.drop (i * 2) = q := ⟨_, rfl⟩
  obtain ⟨r, hr⟩ : ∃ r, cur.drop (n * 2) = r := ⟨_, rfl⟩
  have lp : p.length = i * 2 := by rw [← hp, List.length_take]; omega
  have lq : q.length = (n - i) * 2 := by rw [← hq, List.length_drop]; omega
  rw [hp, hq] at h2 ⊢
  rw [h2, hr] at h1
  have e1 : lay cur ((i + 1) * 2) q = p ++ q.take 2 ++ q ++ r.drop 2 := by
    unfold lay
    rw [h1]
    have a1 : (p ++ q ++ r).take ((i + 1) * 2) = p ++ q.take 2 := by
      rw [List.append_assoc, List.take_append, List.take_of_length_le (by omega), List.take_append_of_le_length (by omega)]
      congr 2; omega
    have a2 : (p ++ q ++ r).drop ((i + 1) * 2 + q.length) = r.drop 2 := by
      rw [List.drop_append, List.drop_eq_nil_of_le (by simp; omega), List.nil_append]
      congr 1; simp; omega
    rw [a1, a2]
  have e2 : lay (p ++ q.take 2 ++ q ++ r.drop 2) (i * 2) [x1, x2] = p ++ [x1, x2] ++ q ++ r.drop 2 := by
    unfold lay
    have lq2 : (q.take 2).length = 2 := by rw [List.length_take]; omega
    have a1 : (p ++ q.take 2 ++ q ++ r.drop 2).take (i * 2) = p := by
      rw [List.append_assoc, List.append_assoc, List.take_append_of_le_length (by omega), List.take_of_length_le (by omega)]
    have a2 : (p ++ q.take 2 ++ q ++ r.drop 2).drop (i * 2 + [x1, x2].length) = q ++ r.drop 2 := by
      rw [List.append_assoc (p ++ q.take 2), List.drop_append, List.drop_eq_nil_of_le (by simp only [List.length_append, List.length_cons, List.length_nil]; omega), List.nil_append]
      rw [show i * 2 + [x1, x2].length - (p ++ q.take 2).length = 0 by simp only [List.length_append, List.length_cons, List.length_nil]; omega, List.drop_zero]
    rw [a1, a2]
    simp
  rw [e1, e2, List.append_assoc (p ++ [x1, x2]), ← List.append_assoc (p ++ [x1, x2]), List.take_append_of_le_length (by simp; omega), List.take_of_length_le (by simp; omega)]
theorem ins_there (xs zs : List Value) (i n : Nat) (x1 x2 : Value) (hi : i < n) (hx : xs.length = n * 2) :
    (lay (lay (xs.take (i * 2) ++ zs) (i * 2) [x1, x2]) ((i + 1) * 2) (xs.drop (i * 2))).take ((n + 1) * 2) = xs.take (i * 2) ++ [x1, x2] ++ xs.drop (i * 2) := by
  obtain ⟨p, hp⟩ : ∃ p, xs.take (i * 2) = p := ⟨_, rfl⟩
  obtain ⟨q, hq⟩ : ∃ q, xs.drop (i * 2) = q := ⟨_, rfl⟩
  have lp : p.length = i * 2 := by rw [← hp, List.length_take]; omega
  have lq : q.length = (n - i) * 2 := by rw [← hq, List.length_drop]; omega
  rw [hp]
  rw [hq]
  have e1 : lay (p ++ zs) (i * 2) [x1, x2] = p ++ [x1, x2] ++ zs.drop 2 := by
    unfold lay
    rw [List.take_append_of_le_length (by omega), List.take_of_length_le (by omega), List.drop_append, List.drop_eq_nil_of_le (by simp; omega), List.nil_append]
    congr 2; simp; omega
  have e2 : lay (p ++ [x1, x2] ++ zs.drop 2) ((i + 1) * 2) q = p ++ [x1, x2] ++ q ++ (zs.drop 2).drop q.length := by
    unfold lay
    rw [List.take_append_of_le_length (by simp; omega), List.take_of_length_le (by simp; omega), List.drop_append, List.drop_eq_nil_of_le (by simp; omega), List.nil_append]
    congr 2; simp; omega
  rw [e1, e2, List.take_append_of_le_length (by simp; omega), List.take_of_length_le (by simp; omega)]
/-- What Insert gives. -/
def InsAns (w : World) (base : Nat) (V : Value) (n : Nat) (ys : List Value) (e : Ending) (w' : World) : Prop :=
  ∃ V', e = .returned V' ∧ w'.ownsRow base 64 2 V' (n + 1) ys ∧ w.grownBy w' V.ownBlock ∧ (∀ k, V'.ownBlock = some k → V.ownBlock = some k ∨ w.heap.size ≤ k)
set_option maxRecDepth 100000 in set_option maxHeartbeats 1600000 in
theorem insert_end (base : Nat) (V : Value) (n : Nat) (xs : List Value) (x1 x2 : Value) (vb : Nat) (w : World) (hown : w.ownsRow base 64 2 V n xs) (hv : Blk w vb 64 [x1, x2]) (h1 : x1.oneCell' = true) (h2 : x2.oneCell' = true) (hn : n ≤ 100000) (hb : base ≤ w.heap.size) :
    Calls Try.prog 49 #[V, .int .i64 n, .slice (some ⟨vb, 0, none⟩) 1 1] w (InsAns w base V n (xs ++ [x1, x2])) := by
  obtain ⟨a, c, rfl, hnc, hcm, hz⟩ := own_form hown
  unfold maxLen at hcm
  have hsrc : Grow.Src w 2 (some ⟨vb, 0, none⟩) 1 1 [x1, x2] := by
    refine ⟨rfl, by simp [h1, h2], .inr ⟨_, rfl, fun j u hj => ?_⟩⟩
    rw [show (⟨vb, 0, none⟩ : Addr).add j = ⟨vb, j, none⟩ by unfold Addr.add; split <;> simp_all, hv.cell]
    exact hj
  have t0 : ((n : Int) == (n : Int)) = true := by simp
  go_enter Try.func49, Try.ntmps49
  go_wp2_with (at_builtin; refine wpList_append_k K23 rfl (.tmp 23) (.tmp 24) rfl _ n xs rfl hown _ 1 1 [x1, x2] rfl hsrc (by omega) hb ?_)
  all_goals
    intro V' w' ho hg hw
    go_wp2
    go_ret
    exact ⟨_, rfl, ho, by cases a <;> exact hg, by cases a <;> exact hw⟩
theorem row_open {w : World} {base n : Nat} {V : Value} {xs : List Value} (h : w.ownsRow base 64 2 V n xs) (hn : 0 < n) :
    ∃ g cap cur, V = .slice (some ⟨g, 0, none⟩) n cap ∧ base ≤ g ∧ Blk w g 64 cur ∧ n ≤ cap ∧ cap ≤ maxLen ∧ cur.length = cap * 2 ∧ cur.take (n * 2) = xs ∧ xs.length = n * 2 := by
  rcases h.2 with ⟨_, rfl⟩ | ⟨g, cap, cur, rfl, h1, h2, h3, h4, h5, h6⟩
  · omega
  · exact ⟨g, cap, cur.toList, rfl, h1, by unfold Blk; simpa using h2, h3, h4, by simpa using h5, h6, h.1⟩
theorem row_shut {w : World} {base n g cap : Nat} {cur xs : List Value} (hg : base ≤ g) (hb : Blk w g 64 cur) (hn : n ≤ cap) (hc : cap ≤ maxLen) (hl : cur.length = cap * 2) (ht : cur.take (n * 2) = xs) : w.ownsRow base 64 2 (.slice (some ⟨g, 0, none⟩) n cap) n xs := by
  refine ⟨by rw [← ht, List.length_take, hl]; omega, .inr ⟨g, cap, cur.toArray, rfl, hg, hb, hn, hc, by simpa using hl, by simpa using ht⟩⟩
theorem add_row (g o j : Nat) : (⟨g, o, none⟩ : Addr).add j = ⟨g, o + j, none⟩ := by unfold Addr.add; split <;> simp_all
theorem blk_src {w : World} {g o : Nat} {T : TypeId} {cur cs : List Value} (h : Blk w g T cur) (hc : ∀ j u, cs[j]? = some u → cur[o + j]? = some u) : ∀ j u, cs[j]? = some u → w.cell? ((⟨g, o, none⟩ : Addr).add j) = some u := by
  intro j u hj
  rw [add_row, h.cell]
  exact hc j u hj
theorem drop_src {cur xs : List Value} {k m : Nat} (ht : cur.take m = xs) : ∀ j u, (xs.drop k)[j]? = some u → cur[k + j]? = some u := by
  intro j u hj
  rw [List.getElem?_drop, ← ht, List.getElem?_take] at hj
  split at hj
  · exact hj
  · cases hj
theorem grown_trans {w w1 w2 : World} {row : Option Nat} (h : w.grownBy w1 row) (h' : w1.grownBy w2 row) : w.grownBy w2 row :=
  ⟨h'.os.trans h.os, h'.tape.trans h.tape, h'.output.trans h.output, Nat.le_trans h.size h'.size, fun k hk hne => (h'.block k (Nat.lt_of_lt_of_le hk h.size) hne).trans (h.block k hk hne)⟩
set_option maxRecDepth 100000 in set_option maxHeartbeats 1600000 in
theorem insert_room (base : Nat) (g n cap i : Nat) (cur xs : List Value) (x1 x2 : Value) (vb : Nat) (w : World) (hg : base ≤ g) (hB : Blk w g 64 cur) (hcl : cur.length = cap * 2) (hcm : cap ≤ maxLen) (ht : cur.take (n * 2) = xs) (hx : xs.length = n * 2) (h1c : ∀ u ∈ xs, u.oneCell' = true)
    (hv : Blk w vb 64 [x1, x2]) (h1 : x1.oneCell' = true) (h2 : x2.oneCell' = true) (hne : vb ≠ g) (hi : i < n) (hroom : n + 1 ≤ cap) (hn : n ≤ 100000) :
    Calls Try.prog 49 #[.slice (some ⟨g, 0, none⟩) n cap, .int .i64 i, .slice (some ⟨vb, 0, none⟩) 1 1] w (InsAns w base (.slice (some ⟨g, 0, none⟩) n cap) n (xs.take (i * 2) ++ [x1, x2] ++ xs.drop (i * 2))) := by
  unfold maxLen at hcm
  have hfin := Lib.hid (ins_here cur xs i n x1 x2 hi hx ht)
  have hcs := Lib.hid (show (xs.drop (i * 2)).length = (n - i) * 2 by rw [List.length_drop, hx]; omega)
  have hsrc := drop_src (k := i * 2) ht
  obtain ⟨q, hq⟩ : ∃ q, xs.drop (i * 2) = q := ⟨_, rfl⟩
  have h1q : ∀ u ∈ q, u.oneCell' = true := fun u hu => h1c u (by rw [← hq] at hu; exact List.mem_of_mem_drop hu)
  have hov : ∀ lb cb, (callFunc 55 #[.slice (some ⟨vb, 0, none⟩) 1 1, .slice (some ⟨g, (i + 1) * 2, none⟩) lb cb]).run Try.prog w = .ok (.value (.bool false)) w := fun lb cb => by
    have hs1 : w.shape? vb = some (64, 2) := by unfold Blk at hv; simp [World.shape?, hv]
    have hs2 : w.shape? g = some (64, cur.length) := by unfold Blk at hB; simp [World.shape?, hB]
    rw [run_callFunc_extern Try.func55 (by kernel_rfl) (by kernel_rfl) (by kernel_rfl) (e := Extern.SlicesOverlaps.overlaps #[23, 23] #[4]) (by kernel_rfl),
      Lib.run_overlaps_apart w 23 4 64 Try.underlying23 2 (by intro w; kernel_rfl) ⟨vb, 0, none⟩ ⟨g, (i + 1) * 2, none⟩ 1 1 lb cb hne 64 64 2 cur.length hs1 hs2 (by omega) (hv.frozen 0) (hv.frozen 2)]
    rfl
  have HSRC := Lib.hid hsrc
  have HT := Lib.hid ht; have HX := Lib.hid hx; have HQ := Lib.hid hq; have HCL := Lib.hid hcl; have H1C := Lib.hid h1c
  have t1 : ((i : Int) == (n : Int)) = false := by simp; omega
  have t2 : ¬ ((cap : Int) < (n : Int) + 1) := by omega
  clear hsrc ht hx hq hcl h1c
  go_enter Try.func49, Try.ntmps49
  go_wp2_with fail
  refine wp_region_segs (fun _ => True) [(true, 8), (false, 1)] (by kernel_rfl) (by kernel_rfl) trivial ?_
  intro W _ hWe
  have hBW : Blk W g 64 cur := by rw [hWe]; exact hB
  have hvW : Blk W vb 64 [x1, x2] := by rw [hWe]; exact hv
  have hgW : w.grownBy W (some g) := by rw [hWe]; exact ⟨rfl, rfl, rfl, Nat.le_refl _, fun _ _ _ => rfl⟩
  clear hWe hov
  simp only [wpSegs, List.take_succ_cons, List.take_zero, List.drop_succ_cons, List.drop_zero]
  have e1 : IntKind.i64.wrap ((i : Int) + 1) = (i : Int) + 1 := IntWalk.i64_in _ (by omega)
  have e3 : ((i : Int) + 1).toNat = i + 1 := by omega
  have e4 : (0 : Int) ≤ (i : Int) + 1 := by omega
  have e5 : (i : Int) + 1 ≤ (n : Int) + 1 := by omega
  have e6 : (i : Int) ≤ (n : Int) + 1 := by omega
  have e7 : ¬ cap = i + 1 := by omega
  have e8 : ¬ cap = i := by omega
  repeat (go_big_quiet_step (fail))
  refine wpQuiet_nil ?_
  clear e1 e3 e4 e5 e6
  refine wpList_copy_k K23 rfl (.tmp 73) (.tmp 76) rfl g ((i + 1) * 2) _ _ ⟨g, i * 2, none⟩ _ _ rfl rfl cur 64 (xs.drop (i * 2)) hBW ?c1 (blk_src hBW HSRC.out) ?c2 (by rw [HQ.out]; exact h1q) ?_
  case c1 => rw [hcs.out]; congr 1; simp only [Nat.min_def]; split <;> omega
  case c2 => rw [hcs.out, HCL.out]; omega
  intro w2 hB2 hg2
  have hv2 : Blk w2 vb 64 [x1, x2] := hvW.grown hg2 (by simpa using Ne.symm hne)
  have hgw2 : w.grownBy w2 (some g) := grown_trans hgW hg2
  refine wpList_nil ⟨hold_of (S0 := fun _ => True) trivial, NoPanic.normal ?_⟩
  simp only [Act.put, List.setIfInBounds_toArray, List.set_cons_succ, List.set_cons_zero]
  have hl2 := Lib.hid (show (lay cur ((i + 1) * 2) (xs.drop (i * 2))).length = cap * 2 by rw [lay_len (by rw [hcs.out, HCL.out]; omega), HCL.out])
  clear hBW hvW hgW hg2 hB hv
  go_wp2_with (refine wpList_copy_k K23 rfl (.tmp 80) (.tmp 81) rfl g (i * 2) _ _ ⟨vb, 0, none⟩ _ _ rfl rfl _ 64 [x1, x2] hB2 ?d1 (blk_src hv2 (by intro j u h; simpa using h)) ?d2 (by simp [h1, h2]) ?_)
  case d1 => simp only [Nat.min_def, List.length_cons, List.length_nil]; split <;> omega
  case d2 => rw [hl2.out]; simp; omega
  intro w3 hB3 hg3
  have hgw3 : w.grownBy w3 (some g) := grown_trans hgw2 hg3
  have hl3 := lay_len (L := lay cur ((i + 1) * 2) (xs.drop (i * 2))) (o := i * 2) (cs := [x1, x2]) (by rw [hl2.out]; simp; omega)
  have hown := row_shut (n := n + 1) hg hB3 (by omega) (by unfold maxLen; omega) (by rw [hl3, hl2.out]) hfin.out
  clear hB2 hg3 hgw2 hB3 hl3
  go_wp2
  go_ret
  exact ⟨_, rfl, hown, hgw3, fun k hk => .inl hk⟩
set_option maxRecDepth 100000 in set_option maxHeartbeats 1600000 in
theorem insert_grow (base : Nat) (g n cap i : Nat) (cur xs : List Value) (x1 x2 : Value) (vb : Nat) (w : World) (hg : base ≤ w.heap.size) (hB : Blk w g 64 cur) (hcm : cap ≤ maxLen) (ht : cur.take (n * 2) = xs) (hx : xs.length = n * 2) (h1c : ∀ u ∈ xs, u.oneCell' = true)
    (hv : Blk w vb 64 [x1, x2]) (h1 : x1.oneCell' = true) (h2 : x2.oneCell' = true) (hi : i < n) (hnc : n ≤ cap) (hroom : cap < n + 1) (hn : n ≤ 100000) :
    Calls Try.prog 49 #[.slice (some ⟨g, 0, none⟩) n cap, .int .i64 i, .slice (some ⟨vb, 0, none⟩) 1 1] w (InsAns w base (.slice (some ⟨g, 0, none⟩) n cap) n (xs.take (i * 2) ++ [x1, x2] ++ xs.drop (i * 2))) := by
  unfold maxLen at hcm
  have hfin := Lib.hid (fun zs => ins_there xs zs i n x1 x2 hi hx)
  have hcs := Lib.hid (show (xs.drop (i * 2)).length = (n - i) * 2 by rw [List.length_drop, hx]; omega)
  have htl := Lib.hid (show (xs.take (i * 2)).length = i * 2 by rw [List.length_take, hx]; omega)
  have HSRC := Lib.hid (drop_src (k := i * 2) ht)
  have HSRC0 := Lib.hid (show ∀ j u, (xs.take (i * 2))[j]? = some u → cur[0 + j]? = some u by
    intro j u hj
    rw [List.getElem?_take] at hj
    split at hj
    · have := drop_src (k := 0) ht j u (by simpa using hj)
      exact this
    · cases hj)
  have HX := Lib.hid hx; have H1C := Lib.hid h1c
  have t1 : ((i : Int) == (n : Int)) = false := by simp; omega
  have t2 : (cap : Int) < (n : Int) + 1 := by omega
  have e1 : IntKind.i64.wrap ((n : Int) + 1 - (i : Int)) = ((n + 1 - i : Nat) : Int) := by rw [IntWalk.i64_in _ (by omega)]; omega
  have e2 : (n : Int) + 1 - (i : Int) = ((n + 1 - i : Nat) : Int) := by omega
  have e8 : ¬ cap = i := by omega
  clear ht hx h1c
  go_enter Try.func49, Try.ntmps49
  go_wp2_with (at_builtin; refine wpList_append_zeros_k K23 rfl (.tmp 34) (.tmp 39) 3 Try.underlying3 rfl ⟨g, 0, none⟩ i cap (n + 1 - i) rfl rfl (xs.take (i * 2)) htl.out (blk_src hB HSRC0.out) (by omega) (by omega) (by omega) ?_)
  intro w2 G zs hB2 hlz hG1 hG2 hg2 hsz
  have hv2 : Blk w2 vb 64 [x1, x2] := hv.grown hg2 (by simp)
  have hO2 : Blk w2 g 64 cur := hB.grown hg2 (by simp)
  have hgne : g ≠ w.heap.size := by have := hB.lt; omega
  have hLZ := Lib.hid hlz
  have hbig : (xs.take (i * 2) ++ zs).length = G * 2 := by rw [List.length_append]; first | exact hlz | (rw [List.length_take]; exact hlz)
  have HBIG := Lib.hid hbig
  have eG1 : ¬ G = i := by omega
  have eG2 : ¬ G = i + 1 := by omega
  have en : i + (n + 1 - i) = n + 1 := by omega
  unfold maxLen at hG2
  clear hlz hbig hB hv
  rw [en]
  clear e1 e2 en
  go_wp2_with (refine wpList_copy_k K23 rfl (.tmp 43) (.tmp 44) rfl w.heap.size (i * 2) _ _ ⟨vb, 0, none⟩ _ _ rfl rfl _ 64 [x1, x2] hB2 ?d1 (blk_src hv2 (by intro j u h; simpa using h)) ?d2 (by simp [h1, h2]) ?_)
  case d1 => simp only [Nat.min_def, List.length_cons, List.length_nil]; split <;> omega
  case d2 => rw [HBIG.out]; simp; omega
  intro w3 hB3 hg3
  have hO3 : Blk w3 g 64 cur := hO2.grown hg3 (by simpa using Ne.symm hgne)
  have hl3 := Lib.hid (show (lay (xs.take (i * 2) ++ zs) (i * 2) [x1, x2]).length = G * 2 by rw [lay_len (by rw [HBIG.out]; simp; omega), HBIG.out])
  have hgw3 : ∀ k, k < w.heap.size → w3.heap[k]? = w.heap[k]? := fun k hk => (hg3.block k (by omega) (by simp; omega)).trans (hg2.block k hk (by simp))
  have hos3 : w3.os = w.os ∧ w3.tape = w.tape ∧ w3.output = w.output ∧ w.heap.size < w3.heap.size := ⟨hg3.os.trans hg2.os, hg3.tape.trans hg2.tape, hg3.output.trans hg2.output, by have := hg3.size; omega⟩
  clear hB2 hg3 hg2 hO2 hv2 hsz
  go_wp2
  refine wp_region_segs (fun _ => True) [(true, 8), (false, 1)] (by kernel_rfl) (by kernel_rfl) trivial ?_
  intro W _ hWe
  have hBW : Blk W w.heap.size 64 (lay (xs.take (i * 2) ++ zs) (i * 2) [x1, x2]) := by rw [hWe]; exact hB3
  have hOW : Blk W g 64 cur := by rw [hWe]; exact hO3
  have hgW : ∀ k, k < w.heap.size → W.heap[k]? = w.heap[k]? := fun k hk => by rw [hWe]; exact hgw3 k hk
  have hosW : W.os = w.os ∧ W.tape = w.tape ∧ W.output = w.output ∧ w.heap.size < W.heap.size := by rw [hWe]; exact hos3
  clear hWe hB3 hO3 hgw3 hos3
  simp only [wpSegs, List.take_succ_cons, List.take_zero, List.drop_succ_cons, List.drop_zero]
  have e1 : IntKind.i64.wrap ((i : Int) + 1) = (i : Int) + 1 := IntWalk.i64_in _ (by omega)
  have e3 : ((i : Int) + 1).toNat = i + 1 := by omega
  have e4 : (0 : Int) ≤ (i : Int) + 1 := by omega
  have e5 : (i : Int) + 1 ≤ (n : Int) + 1 := by omega
  have e6 : (i : Int) ≤ (n : Int) := by omega
  repeat (go_big_quiet_step (fail))
  refine wpQuiet_nil ?_
  clear e1 e3 e4 e5 e6
  refine wpList_copy_k K23 rfl (.tmp 50) (.tmp 53) rfl w.heap.size ((i + 1) * 2) _ _ ⟨g, i * 2, none⟩ _ _ rfl rfl _ 64 (xs.drop (i * 2)) hBW ?c1 (blk_src hOW HSRC.out) ?c2 (fun u hu => H1C.out u (List.mem_of_mem_drop hu)) ?_
  case c1 => rw [hcs.out]; congr 1; simp only [Nat.min_def]; split <;> omega
  case c2 => rw [hcs.out, hl3.out]; omega
  intro w4 hB4 hg4
  have hl4 := lay_len (L := lay (xs.take (i * 2) ++ zs) (i * 2) [x1, x2]) (o := (i + 1) * 2) (cs := xs.drop (i * 2)) (by rw [hcs.out, hl3.out]; omega)
  have hown := row_shut (base := base) (n := n + 1) (cap := G) hg hB4 (by omega) (by unfold maxLen; omega) (by rw [hl4, hl3.out]) (hfin.out zs)
  have hfinal : w.grownBy w4 (some g) := ⟨hg4.os.trans hosW.1, hg4.tape.trans hosW.2.1, hg4.output.trans hosW.2.2.1, by have := hg4.size; omega, fun k hk _ => (hg4.block k (by omega) (by simp; omega)).trans (hgW k hk)⟩
  refine wpList_nil ⟨hold_of (S0 := fun _ => True) trivial, NoPanic.normal ?_⟩
  simp only [Act.put, List.setIfInBounds_toArray, List.set_cons_succ, List.set_cons_zero]
  clear hBW hOW hgW hosW hB4 hg4 hl4
  go_wp2
  go_ret
  exact ⟨_, rfl, hown, hfinal, fun k hk => .inr (by simp [Value.ownBlock] at hk; omega)⟩
theorem insert_49 (base : Nat) (V : Value) (n i : Nat) (xs : List Value) (x1 x2 : Value) (vb : Nat) (w : World) (hown : w.ownsRow base 64 2 V n xs) (h1c : ∀ u ∈ xs, u.oneCell' = true) (hv : Blk w vb 64 [x1, x2]) (h1 : x1.oneCell' = true) (h2 : x2.oneCell' = true) (hne : V.ownBlock ≠ some vb) (hi : i ≤ n) (hn : n ≤ 100000) (hb : base ≤ w.heap.size) :
    Calls Try.prog 49 #[V, .int .i64 i, .slice (some ⟨vb, 0, none⟩) 1 1] w (InsAns w base V n (xs.take (i * 2) ++ [x1, x2] ++ xs.drop (i * 2))) := by
  rcases Nat.eq_or_lt_of_le hi with rfl | hlt
  · have := insert_end base V i xs x1 x2 vb w hown hv h1 h2 hn hb
    have hl := hown.1
    rw [List.take_of_length_le (by omega), List.drop_eq_nil_of_le (by omega), List.append_nil]
    exact this
  · obtain ⟨g, cap, cur, rfl, hg, hB, h3, h4, h5, h6, h7⟩ := row_open hown (by omega)
    by_cases hr : n + 1 ≤ cap
    · exact insert_room base g n cap i cur xs x1 x2 vb w hg hB h5 h4 h6 h7 h1c hv h1 h2 (fun e => hne (by rw [e]; rfl)) hlt hr hn
    · exact insert_grow base g n cap i cur xs x1 x2 vb w hb hB h4 h6 h7 h1c hv h1 h2 hlt h3 (by omega) hn
end Go.Proofs.Ytlhbjmoncdljoaa
