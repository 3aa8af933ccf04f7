/- Walks: slices.Insert into a new row; slices.Delete. Caches in memory of a call's own: slabs whose flags lie in blocks of their own. Walks: a copy of a cache, of the program. Walks: a copy of a cache, of the reference. Walks: where a slab is, of the reference and of the program. The memory of an allocation: what a taking of objects changes, and what it keeps; the two tests of frames. Walks: the taking of free objects. What an allocation makes: new flags, a new slab among the slabs; its results. Walks: Alloc, of the program. Walks: one more slab, of the reference. Walks: a cache with one more slab, of the reference. Walks: Alloc, of the reference. Walks: Free, of the program. The frame of every law: what came in is read off as plain cells; a call that returns true and writes nothing that was there gives the row. -/
import Derived.Laws.EntriesVeiled
import Derived.WalkKit
import Derived.ProofKit
import Derived.OpenShut
import Derived.ShutString
import Derived.ChangeOld
import Derived.Below
import Derived.Deep.Slices
import Derived.SizedLaws
import Derived.Test.YtdddkfpcbfgocaaGreatK0
namespace Go.Proofs.YtdddkfpcbfgocaaGreat.Sb
open Go.RowKit Go.Over Go.Slb Go.Seg Go.Grow
set_option maxRecDepth 100000 in set_option maxHeartbeats 1600000 in
theorem insert_grow (base : Nat) (g n cap i : Nat) (cur xs : List Value) (x1 x2 : Value) (vb : Nat) (w : World) (hg : base ≤ w.heap.size) (hB : Blk w g 53 cur) (hcm : cap ≤ maxLen) (ht : cur.take (n * 2) = xs) (hx : xs.length = n * 2) (h1c : ∀ u ∈ xs, u.oneCell' = true)
    (hv : Blk w vb 53 [x1, x2]) (h1 : x1.oneCell' = true) (h2 : x2.oneCell' = true) (hi : i < n) (hnc : n ≤ cap) (hroom : cap < n + 1) (hn : n ≤ 100000) :
    Calls Tryz.prog 137 #[.slice (some ⟨g, 0, none⟩) n cap, .int .i64 i, .slice (some ⟨vb, 0, none⟩) 1 1] w (InsAns w base (.slice (some ⟨g, 0, none⟩) n cap) n (xs.take (i * 2) ++ [x1, x2] ++ xs.drop (i * 2))) := by
  unfold maxLen at hcm
  have hfin := Lib.hid (fun zs => ins_there xs zs i n x1 x2 hi hx)
  have hcs := Lib.hid (show (xs.drop (i * 2)).length = (n - i) * 2 by rw [List.length_drop, hx]; omega)
  have htl := Lib.hid (show (xs.take (i * 2)).length = i * 2 by rw [List.length_take, hx]; omega)
  have HSRC := Lib.hid (drop_src (k := i * 2) ht)
  have HSRC0 := Lib.hid (show ∀ j u, (xs.take (i * 2))[j]? = some u → cur[0 + j]? = some u by
    intro j u hj
    rw [List.getElem?_take] at hj
    split at hj
    · have := drop_src (k := 0) ht j u (by simpa using hj)
      exact this
    · cases hj)
  have HX := Lib.hid hx; have H1C := Lib.hid h1c
  have t1 : ((i : Int) == (n : Int)) = false := by simp; omega
  have t2 : (cap : Int) < (n : Int) + 1 := by omega
  have e1 : IntKind.i64.wrap ((n : Int) + 1 - (i : Int)) = ((n + 1 - i : Nat) : Int) := by rw [IntWalk.i64_in _ (by omega)]; omega
  have e2 : (n : Int) + 1 - (i : Int) = ((n + 1 - i : Nat) : Int) := by omega
  have e8 : ¬ cap = i := by omega
  clear ht hx h1c
  go_enter Tryz.func137, Tryz.ntmps137
  go_wp2_with (at_builtin; refine wpList_append_zeros_k K22 rfl (.tmp 34) (.tmp 39) 3 Tryz.underlying3 rfl ⟨g, 0, none⟩ i cap (n + 1 - i) rfl rfl (xs.take (i * 2)) htl.out (blk_src hB HSRC0.out) (by omega) (by omega) (by omega) ?_)
  intro w2 G zs hB2 hlz hG1 hG2 hg2 hsz
  have hv2 : Blk w2 vb 53 [x1, x2] := hv.grown hg2 (by simp)
  have hO2 : Blk w2 g 53 cur := hB.grown hg2 (by simp)
  have hgne : g ≠ w.heap.size := by have := hB.lt; omega
  have hLZ := Lib.hid hlz
  have hbig : (xs.take (i * 2) ++ zs).length = G * 2 := by rw [List.length_append]; first | exact hlz | (rw [List.length_take]; exact hlz)
  have HBIG := Lib.hid hbig
  have eG1 : ¬ G = i := by omega
  have eG2 : ¬ G = i + 1 := by omega
  have en : i + (n + 1 - i) = n + 1 := by omega
  unfold maxLen at hG2
  clear hlz hbig hB hv
  rw [en]
  clear e1 e2 en
  go_wp2_with (refine wpList_copy_k K22 rfl (.tmp 43) (.tmp 44) rfl w.heap.size (i * 2) _ _ ⟨vb, 0, none⟩ _ _ rfl rfl _ 53 [x1, x2] hB2 ?d1 (blk_src hv2 (by intro j u h; simpa using h)) ?d2 (by simp [h1, h2]) ?_)
  case d1 => simp only [Nat.min_def, List.length_cons, List.length_nil]; split <;> omega
  case d2 => rw [HBIG.out]; simp; omega
  intro w3 hB3 hg3
  have hO3 : Blk w3 g 53 cur := hO2.grown hg3 (by simpa using Ne.symm hgne)
  have hl3 := Lib.hid (show (lay (xs.take (i * 2) ++ zs) (i * 2) [x1, x2]).length = G * 2 by rw [lay_len (by rw [HBIG.out]; simp; omega), HBIG.out])
  have hgw3 : ∀ k, k < w.heap.size → w3.heap[k]? = w.heap[k]? := fun k hk => (hg3.block k (by omega) (by simp; omega)).trans (hg2.block k hk (by simp))
  have hos3 : w3.os = w.os ∧ w3.tape = w.tape ∧ w3.output = w.output ∧ w.heap.size < w3.heap.size := ⟨hg3.os.trans hg2.os, hg3.tape.trans hg2.tape, hg3.output.trans hg2.output, by have := hg3.size; omega⟩
  clear hB2 hg3 hg2 hO2 hv2 hsz
  go_wp2
  refine wp_region_segs (fun _ => True) [(true, 8), (false, 1)] (by kernel_rfl) (by kernel_rfl) trivial ?_
  intro W _ hWe
  have hBW : Blk W w.heap.size 53 (lay (xs.take (i * 2) ++ zs) (i * 2) [x1, x2]) := by rw [hWe]; exact hB3
  have hOW : Blk W g 53 cur := by rw [hWe]; exact hO3
  have hgW : ∀ k, k < w.heap.size → W.heap[k]? = w.heap[k]? := fun k hk => by rw [hWe]; exact hgw3 k hk
  have hosW : W.os = w.os ∧ W.tape = w.tape ∧ W.output = w.output ∧ w.heap.size < W.heap.size := by rw [hWe]; exact hos3
  clear hWe hB3 hO3 hgw3 hos3
  simp only [wpSegs, List.take_succ_cons, List.take_zero, List.drop_succ_cons, List.drop_zero]
  have e1 : IntKind.i64.wrap ((i : Int) + 1) = (i : Int) + 1 := IntWalk.i64_in _ (by omega)
  have e3 : ((i : Int) + 1).toNat = i + 1 := by omega
  have e4 : (0 : Int) ≤ (i : Int) + 1 := by omega
  have e5 : (i : Int) + 1 ≤ (n : Int) + 1 := by omega
  have e6 : (i : Int) ≤ (n : Int) := by omega
  repeat (go_big_quiet_step (fail))
  refine wpQuiet_nil ?_
  clear e1 e3 e4 e5 e6
  refine wpList_copy_k K22 rfl (.tmp 50) (.tmp 53) rfl w.heap.size ((i + 1) * 2) _ _ ⟨g, i * 2, none⟩ _ _ rfl rfl _ 53 (xs.drop (i * 2)) hBW ?c1 (blk_src hOW HSRC.out) ?c2 (fun u hu => H1C.out u (List.mem_of_mem_drop hu)) ?_
  case c1 => rw [hcs.out]; congr 1; simp only [Nat.min_def]; split <;> omega
  case c2 => rw [hcs.out, hl3.out]; omega
  intro w4 hB4 hg4
  have hl4 := lay_len (L := lay (xs.take (i * 2) ++ zs) (i * 2) [x1, x2]) (o := (i + 1) * 2) (cs := xs.drop (i * 2)) (by rw [hcs.out, hl3.out]; omega)
  have hown := row_shut (base := base) (n := n + 1) (cap := G) hg hB4 (by omega) (by unfold maxLen; omega) (by rw [hl4, hl3.out]) (hfin.out zs)
  have hfinal : w.grownBy w4 (some g) := ⟨hg4.os.trans hosW.1, hg4.tape.trans hosW.2.1, hg4.output.trans hosW.2.2.1, by have := hg4.size; omega, fun k hk _ => (hg4.block k (by omega) (by simp; omega)).trans (hgW k hk)⟩
  refine wpList_nil ⟨hold_of (S0 := fun _ => True) trivial, NoPanic.normal ?_⟩
  simp only [Act.put, List.setIfInBounds_toArray, List.set_cons_succ, List.set_cons_zero]
  clear hBW hOW hgW hosW hB4 hg4 hl4
  go_wp2
  go_ret
  exact ⟨_, rfl, hown, hfinal, fun k hk => .inr (by simp [Value.ownBlock] at hk; omega)⟩
theorem insert_37 (base : Nat) (V : Value) (n i : Nat) (xs : List Value) (x1 x2 : Value) (vb : Nat) (w : World) (hown : w.ownsRow base 53 2 V n xs) (h1c : ∀ u ∈ xs, u.oneCell' = true) (hv : Blk w vb 53 [x1, x2]) (h1 : x1.oneCell' = true) (h2 : x2.oneCell' = true) (hne : V.ownBlock ≠ some vb) (hi : i ≤ n) (hn : n ≤ 100000) (hb : base ≤ w.heap.size) :
    Calls Tryz.prog 137 #[V, .int .i64 i, .slice (some ⟨vb, 0, none⟩) 1 1] w (InsAns w base V n (xs.take (i * 2) ++ [x1, x2] ++ xs.drop (i * 2))) := by
  rcases Nat.eq_or_lt_of_le hi with rfl | hlt
  · have := insert_end base V i xs x1 x2 vb w hown hv h1 h2 hn hb
    have hl := hown.1
    rw [List.take_of_length_le (by omega), List.drop_eq_nil_of_le (by omega), List.append_nil]
    exact this
  · obtain ⟨g, cap, cur, rfl, hg, hB, h3, h4, h5, h6, h7⟩ := row_open hown (by omega)
    by_cases hr : n + 1 ≤ cap
    · exact insert_room base g n cap i cur xs x1 x2 vb w hg hB h5 h4 h6 h7 h1c hv h1 h2 (fun e => hne (by rw [e]; rfl)) hlt hr hn
    · exact insert_grow base g n cap i cur xs x1 x2 vb w hb hB h4 h6 h7 h1c hv h1 h2 hlt h3 (by omega) hn
theorem del_here (cur xs new : List Value) (i n : Nat) (hi : i < n) (hx : xs.length = n * 2) (ht : cur.take (n * 2) = xs) (hnew : new.take ((n - 1) * 2) = (lay cur (i * 2) (xs.drop ((i + 1) * 2))).take ((n - 1) * 2)) :
    new.take ((n - 1) * 2) = xs.take (i * 2) ++ xs.drop ((i + 1) * 2) := by
  have hle : n * 2 ≤ cur.length := by
    have := congrArg List.length ht
    rw [List.length_take, hx] at this; omega
  rw [hnew]
  unfold lay
  have a1 : cur.take (i * 2) = xs.take (i * 2) := by rw [← ht, List.take_take]; congr 1; omega
  rw [a1]
  have l1 : (xs.take (i * 2)).length = i * 2 := by rw [List.length_take]; omega
  have l2 : (xs.drop ((i + 1) * 2)).length = (n - 1 - i) * 2 := by rw [List.length_drop]; omega
  rw [List.take_append_of_le_length (by rw [List.length_append]; omega), List.take_of_length_le (by rw [List.length_append]; omega)]
def DelAns (w : World) (base : Nat) (V : Value) (n : Nat) (ys : List Value) (e : Ending) (w' : World) : Prop :=
  ∃ V', e = .returned V' ∧ w'.ownsRow base 53 2 V' (n - 1) ys ∧ w.grownBy w' V.ownBlock ∧ V'.ownBlock = V.ownBlock
set_option maxRecDepth 100000 in set_option maxHeartbeats 1600000 in
theorem delete_45 (base : Nat) (V : Value) (n i : Nat) (xs : List Value) (w : World) (hown : w.ownsRow base 53 2 V n xs) (h1c : ∀ u ∈ xs, u.oneCell' = true) (hi : i < n) (hn : n ≤ 100000) :
    Calls Tryz.prog 36 #[V, .int .i64 i, .int .i64 ((i + 1 : Nat) : Int)] w (DelAns w base V n (xs.take (i * 2) ++ xs.drop ((i + 1) * 2))) := by
  obtain ⟨g, cap, cur, rfl, hg, hB, hnc, hcm, hcl, ht, hx⟩ := row_open hown (by omega)
  unfold maxLen at hcm
  have hfin := Lib.hid (fun new => del_here cur xs new i n hi hx ht)
  have hcs := Lib.hid (show (xs.drop ((i + 1) * 2)).length = (n - (i + 1)) * 2 by rw [List.length_drop, hx]; omega)
  have HSRC := Lib.hid (drop_src (k := (i + 1) * 2) ht)
  have HX := Lib.hid hx; have H1C := Lib.hid h1c; have HCL := Lib.hid hcl
  have t1 : ((i : Int) == ((i + 1 : Nat) : Int)) = false := by simp; omega
  have hclr : ∃ i z, Tryz.prog.info? 53 = some i ∧ i.zero = some z ∧ z.cells.size = 2 ∧ ∀ v ∈ z.cells.toList, v.oneCell' = true := by
    obtain ⟨i, hi, hz0, hz1, hz2⟩ := info_parts (show (Tryz.prog.info? 53).map (fun i => (i.zero, i.size, i.bytes)) = some (some (.agg #[.int .i64 0, .slice none 0 0]), 2, 32) by kernel_rfl)
    exact ⟨i, _, hi, hz0, rfl, by intro v hv; simp [Value.cells] at hv; rcases hv with rfl | rfl <;> rfl⟩
  have HC := Lib.hid hclr
  clear ht hx h1c hcl hclr hown
  have e0 : ((i + 1 : Nat) : Int) ≤ (n : Int) := by omega
  have e2 : (i : Int) ≤ ((i + 1 : Nat) : Int) := by omega
  by_cases hci : cap = i + 1
  · have hni : n = i + 1 := by omega
    subst hci
    have HNI := Lib.hid hni; clear hni
    go_enter Tryz.func36, Tryz.ntmps36
    go_wp2_with fail
    have HS2 := Lib.hid (show ∀ j u, (xs.drop ((i + 1) * 2))[j]? = some u → cur[0 + j]? = some u by
      intro j u hj
      rw [List.eq_nil_of_length_eq_zero (l := xs.drop ((i + 1) * 2)) (by rw [hcs.out]; omega)] at hj
      simp at hj)
    refine wp_region_segs (fun _ => True) [(true, 6), (false, 1), (true, 1)] (by kernel_rfl) (by kernel_rfl) trivial ?_
    intro W _ hWe
    have hBW : Blk W g 53 cur := by rw [hWe]; exact hB
    have hgW : w.grownBy W (some g) := by rw [hWe]; exact ⟨rfl, rfl, rfl, Nat.le_refl _, fun _ _ _ => rfl⟩
    clear hWe hB
    simp only [wpSegs, List.take_succ_cons, List.take_zero, List.drop_succ_cons, List.drop_zero]
    repeat (go_big_quiet_step (fail))
    refine wpQuiet_nil ?_
    refine wpList_append_room_k K22 rfl (.tmp 22) (.tmp 25) rfl g i (i + 1) ⟨g, 0, none⟩ _ _ rfl rfl cur hBW (xs.drop ((i + 1) * 2)) ?c1 (blk_src hBW HS2.out) (fun u hu => H1C.out u (List.mem_of_mem_drop hu)) ?c2 HCL.out ?_
    case c1 => have := hcs.out; omega
    case c2 => omega
    intro w2 hB2 hg2
    rw [show i + 0 = i from by omega]
    have hgw2 := grown_trans hgW hg2
    have hl2 := Lib.hid (show (lay cur (i * 2) (xs.drop ((i + 1) * 2))).length = (i + 1) * 2 by rw [lay_len (by rw [hcs.out, HCL.out]; omega), HCL.out])
    clear hBW hgW hg2
    refine wpList_nil ⟨hold_of (S0 := fun _ => True) trivial, ?_⟩
    simp only [Act.put, List.setIfInBounds_toArray, List.set_cons_succ, List.set_cons_zero]
    repeat (go_big_quiet_step (fail))
    refine wpQuiet_nil ?_
    refine NoPanic.normal ?_
    have z1 : ¬ (i + 1) = i := by omega
    have z2 : ((i : Nat) : Int) ≤ (n : Int) := by omega
    have z3 : ¬ ((n : Int) = 0) := by omega
    go_wp2_with (refine wpList_clear_k Tryz.underlying29 HC.out rfl (.tmp 31) rfl g (i * 2) _ _ rfl ?d0 _ 53 hB2 ?d1 ?_)
    case d0 => omega
    case d1 => rw [hl2.out]; omega
    intro w3 new hB3 hln htk hg3
    have hgw3 := grown_trans hgw2 hg3
    have hfq : ∀ new : List Value, new.take (i * 2) = (lay cur (i * 2) (xs.drop ((i + 1) * 2))).take (i * 2) → new.take (i * 2) = xs.take (i * 2) ++ xs.drop ((i + 1) * 2) := by
      have hq : n - 1 = i := by exact (congrArg (· - 1) HNI.out)
      have := hfin.out
      rw [hq] at this
      exact this
    have hown := row_shut (base := base) (n := i) (cap := (i + 1)) hg hB3 (by omega) (by unfold maxLen; omega) (by rw [hln, hl2.out]) (hfq new htk)
    clear hB2 hg3 hgw2 hB3 htk
    go_wp2
    go_ret
    exact ⟨_, rfl, by have hq : n - 1 = i := by exact (congrArg (· - 1) HNI.out)
                      rw [hq]; exact hown, hgw3, rfl⟩
  · go_enter Tryz.func36, Tryz.ntmps36
    go_wp2_with fail
    have HS2 := HSRC
    refine wp_region_segs (fun _ => True) [(true, 6), (false, 1), (true, 1)] (by kernel_rfl) (by kernel_rfl) trivial ?_
    intro W _ hWe
    have hBW : Blk W g 53 cur := by rw [hWe]; exact hB
    have hgW : w.grownBy W (some g) := by rw [hWe]; exact ⟨rfl, rfl, rfl, Nat.le_refl _, fun _ _ _ => rfl⟩
    clear hWe hB
    simp only [wpSegs, List.take_succ_cons, List.take_zero, List.drop_succ_cons, List.drop_zero]
    repeat (go_big_quiet_step (fail))
    refine wpQuiet_nil ?_
    refine wpList_append_room_k K22 rfl (.tmp 22) (.tmp 25) rfl g i cap ⟨g, (i + 1) * 2, none⟩ _ _ rfl rfl cur hBW (xs.drop ((i + 1) * 2)) ?c1 (blk_src hBW HS2.out) (fun u hu => H1C.out u (List.mem_of_mem_drop hu)) ?c2 HCL.out ?_
    case c1 => have := hcs.out; omega
    case c2 => omega
    intro w2 hB2 hg2
    rw [show i + (n - (i + 1)) = (n - 1) from by omega]
    have hgw2 := grown_trans hgW hg2
    have hl2 := Lib.hid (show (lay cur (i * 2) (xs.drop ((i + 1) * 2))).length = cap * 2 by rw [lay_len (by rw [hcs.out, HCL.out]; omega), HCL.out])
    clear hBW hgW hg2
    refine wpList_nil ⟨hold_of (S0 := fun _ => True) trivial, ?_⟩
    simp only [Act.put, List.setIfInBounds_toArray, List.set_cons_succ, List.set_cons_zero]
    repeat (go_big_quiet_step (fail))
    refine wpQuiet_nil ?_
    refine NoPanic.normal ?_
    have z1 : ¬ cap = (n - 1) := by omega
    have z2 : (((n - 1) : Nat) : Int) ≤ (n : Int) := by omega
    have z3 : ¬ ((n : Int) = 0) := by omega
    go_wp2_with (refine wpList_clear_k Tryz.underlying29 HC.out rfl (.tmp 31) rfl g ((n - 1) * 2) _ _ rfl ?d0 _ 53 hB2 ?d1 ?_)
    case d0 => omega
    case d1 => rw [hl2.out]; omega
    intro w3 new hB3 hln htk hg3
    have hgw3 := grown_trans hgw2 hg3
    have hfq : ∀ new : List Value, new.take ((n - 1) * 2) = (lay cur (i * 2) (xs.drop ((i + 1) * 2))).take ((n - 1) * 2) → new.take ((n - 1) * 2) = xs.take (i * 2) ++ xs.drop ((i + 1) * 2) := by
      have hq : n - 1 = (n - 1) := by rfl
      have := hfin.out
      rw [hq] at this
      exact this
    have hown := row_shut (base := base) (n := (n - 1)) (cap := cap) hg hB3 (by omega) (by unfold maxLen; omega) (by rw [hln, hl2.out]) (hfq new htk)
    clear hB2 hg3 hgw2 hB3 htk
    go_wp2
    go_ret
    exact ⟨_, rfl, by have hq : n - 1 = (n - 1) := by rfl
                      rw [hq]; exact hown, hgw3, rfl⟩
end Go.Proofs.YtdddkfpcbfgocaaGreat.Sb
namespace Go.Proofs.YtdddkfpcbfgocaaGreat.Sb
open Go.RowKit Go.Over Go.Slb Go.Seg Go.Grow
/-- A slab: its frame, its flags, the block of its flags and their capacity. -/
abbrev R := Int × List Bool × Nat × Nat
def sl (r : R) : S := (r.1, r.2.1)
def rv (r : R) : Value := .slice (some ⟨r.2.2.1, 0, none⟩) r.2.1.length r.2.2.2
def cellsR (rs : List R) : List Value := rs.flatMap fun r => [.int .i64 r.1, rv r]
structure OwnC (w : World) (base : Nat) (V : Value) (rs : List R) : Prop where
  out : w.ownsRow base 53 2 V rs.length (cellsR rs)
  inn : ∀ r ∈ rs, w.ownsRow base 4 1 (rv r) r.2.1.length (r.2.1.map Value.bool)
  nod : (rs.map (·.2.2.1)).Nodup
theorem cellsR_len (rs : List R) : (cellsR rs).length = rs.length * 2 := by
  induction rs with
  | nil => rfl
  | cons r rs ih => simp only [cellsR, List.flatMap_cons, List.length_append, List.length_cons, List.length_nil] at ih ⊢; omega
theorem cellsR_append (rs qs : List R) : cellsR (rs ++ qs) = cellsR rs ++ cellsR qs := by simp [cellsR]
theorem cellsR_one (rs : List R) : ∀ u ∈ cellsR rs, u.oneCell' = true := by
  intro u hu
  simp only [cellsR, List.mem_flatMap] at hu
  obtain ⟨r, _, h⟩ := hu
  simp at h
  rcases h with rfl | rfl <;> rfl
theorem cellsR_get : ∀ {rs : List R} {i : Nat} {r : R}, rs[i]? = some r → (cellsR rs)[i * 2]? = some (.int .i64 r.1) ∧ (cellsR rs)[i * 2 + 1]? = some (rv r)
  | [], i, r, h => by simp at h
  | q :: rs, 0, r, h => by
    simp at h; subst h
    exact ⟨rfl, rfl⟩
  | q :: rs, i + 1, r, h => by
    have ih := cellsR_get (rs := rs) (i := i) (r := r) (by simpa using h)
    have e : cellsR (q :: rs) = Value.int .i64 q.1 :: rv q :: cellsR rs := rfl
    rw [e, show (i + 1) * 2 = i * 2 + 1 + 1 by omega, show i * 2 + 1 + 1 + 1 = (i * 2 + 1) + 1 + 1 by omega]
    simpa using ih
theorem cellsR_take : ∀ (rs : List R) (i : Nat), (cellsR rs).take (i * 2) = cellsR (rs.take i)
  | [], i => by simp [cellsR]
  | q :: rs, 0 => by simp [cellsR]
  | q :: rs, i + 1 => by
    have e : cellsR (q :: rs) = Value.int .i64 q.1 :: rv q :: cellsR rs := rfl
    have e2 : cellsR ((q :: rs).take (i + 1)) = Value.int .i64 q.1 :: rv q :: cellsR (rs.take i) := rfl
    rw [e, e2, ← cellsR_take rs i, show (i + 1) * 2 = i * 2 + 1 + 1 by omega]
    rfl
theorem cellsR_drop : ∀ (rs : List R) (i : Nat), (cellsR rs).drop (i * 2) = cellsR (rs.drop i)
  | [], i => by simp [cellsR]
  | q :: rs, 0 => by simp
  | q :: rs, i + 1 => by
    have e : cellsR (q :: rs) = Value.int .i64 q.1 :: rv q :: cellsR rs := rfl
    have e2 : cellsR ((q :: rs).drop (i + 1)) = cellsR (rs.drop i) := rfl
    rw [e, e2, ← cellsR_drop rs i, show (i + 1) * 2 = i * 2 + 1 + 1 by omega]
    rfl
section
variable {w w' : World} {base : Nat} {V : Value} {rs : List R}
theorem flags_own {g c : Nat} {u : List Bool} {n : Nat} (h : w.ownsRow base 4 1 (.slice (some ⟨g, 0, none⟩) n c) n (u.map Value.bool)) (hn : u.length = n) : Flags w (some ⟨g, 0, none⟩) u := by
  intro h0
  refine ⟨g, 0, rfl, fun i hi => ?_⟩
  rw [Nat.zero_add, World.ownsRow.cellAt h i (by omega), List.getElem?_map, List.getElem?_eq_getElem hi, List.getD_eq_getElem?_getD, List.getElem?_eq_getElem hi]
  rfl
theorem cap_own {g c n : Nat} {xs : List Value} {e size : Nat} (h : w.ownsRow base e size (.slice (some ⟨g, 0, none⟩) n c) n xs) : n ≤ c ∧ c ≤ maxLen := by
  obtain ⟨a, c', h1, h2, h3, _⟩ := own_form h
  cases h1
  exact ⟨h2, h3⟩
theorem OwnC.slabs (h : OwnC w base V rs) {n : Nat} (hn : rs.length = n) : ∃ a c, V = .slice a n c ∧ n ≤ c ∧ c ≤ maxLen ∧ (a = none → c = 0) ∧ Slabs w a (rs.map sl) := by
  subst hn
  obtain ⟨a, c, hV, h1, h2, h3⟩ := own_form h.out
  refine ⟨a, c, hV, h1, h2, h3, fun h0 => ?_⟩
  have h0' : 0 < rs.length := by simpa using h0
  obtain ⟨g, c', hV', _⟩ := own_pos h.out h0'
  have hout := h.out
  rw [hV'] at hV hout
  cases hV
  refine ⟨g, 0, rfl, fun i s hs => ?_⟩
  rw [List.getElem?_map] at hs
  cases hr : rs[i]? with
  | none => rw [hr] at hs; cases hs
  | some r =>
    rw [hr] at hs
    cases hs
    have hlt : i < rs.length := by rw [List.getElem?_eq_some_iff] at hr; obtain ⟨h, _⟩ := hr; exact h
    obtain ⟨c1, c2⟩ := cellsR_get hr
    have hi := h.inn r (List.mem_of_getElem? hr)
    refine ⟨?_, some ⟨r.2.2.1, 0, none⟩, r.2.2.2, ?_, (cap_own hi).1, (cap_own hi).2, (fun h => by cases h), flags_own hi rfl⟩
    · rw [Nat.zero_add, World.ownsRow.cellAt hout (i * 2) (by omega), c1]; rfl
    · rw [Nat.zero_add, World.ownsRow.cellAt hout (i * 2 + 1) (by omega), c2]; rfl
theorem OwnC.later (h : OwnC w base V rs) (hb : Below w.heap.size w w') : OwnC w' base V rs :=
  ⟨own_later h.out hb, fun r hr => own_later (h.inn r hr) hb, h.nod⟩
theorem OwnC.weaken {base' : Nat} (h : OwnC w base V rs) (hb : base' ≤ base) : OwnC w base' V rs :=
  ⟨own_weaken h.out hb, fun r hr => own_weaken (h.inn r hr) hb, h.nod⟩
theorem OwnC.alloc (h : OwnC w base V rs) (o : Obj) : OwnC (w.alloc o) base V rs := h.later (below_box w o)
theorem OwnC.nil (w : World) (base : Nat) : OwnC w base (.slice none 0 0) [] := ⟨World.ownsRow_nil _ _ _ _, by simp, List.nodup_nil⟩
theorem inner_ne_outer {e e' size size' n n' : Nat} {v v' : Value} {xs xs' : List Value} {b' : Nat} (h : w.ownsRow base e size v n xs) (h' : w.ownsRow b' e' size' v' n' xs') (hne : e ≠ e') : v.ownBlock = none ∨ v.ownBlock ≠ v'.ownBlock := by
  rcases h.2 with ⟨rfl, _⟩ | ⟨g, cap, cur, rfl, _, hh, _⟩
  · exact .inl rfl
  · refine .inr fun he => ?_
    rcases h'.2 with ⟨rfl, _⟩ | ⟨g', cap', cur', rfl, _, hh', _⟩
    · simp [Value.ownBlock] at he
    · simp [Value.ownBlock] at he
      subst he
      rw [hh] at hh'
      injection hh' with hh'
      injection hh' with _ h2
      exact hne h2
/-- The outer row has changed, the flags lie where they lay. -/
theorem OwnC.outer (h : OwnC w base V rs) {V' : Value} {qs : List R} (hg : w.grownBy w' V.ownBlock) (ho : w'.ownsRow base 53 2 V' qs.length (cellsR qs)) (hsub : ∀ r ∈ qs, r ∈ rs ∨ w'.ownsRow base 4 1 (rv r) r.2.1.length (r.2.1.map Value.bool)) (hnd : (qs.map (·.2.2.1)).Nodup) : OwnC w' base V' qs := by
  refine ⟨ho, fun r hr => ?_, hnd⟩
  rcases hsub r hr with h1 | h1
  · exact (h.inn r h1).kept hg (inner_ne_outer (h.inn r h1) h.out (by decide))
  · exact h1
theorem nodup_inj : ∀ {l : List Nat} {i j x : Nat}, l.Nodup → l[i]? = some x → l[j]? = some x → i = j
  | [], i, j, x, _, h, _ => by simp at h
  | y :: l, 0, 0, x, _, _, _ => rfl
  | y :: l, 0, j + 1, x, hn, h1, h2 => by
    simp at h1 h2
    exact absurd (List.mem_of_getElem? h2) (by rw [← h1]; exact (List.nodup_cons.1 hn).1)
  | y :: l, i + 1, 0, x, hn, h1, h2 => by
    simp at h1 h2
    exact absurd (List.mem_of_getElem? h1) (by rw [← h2]; exact (List.nodup_cons.1 hn).1)
  | y :: l, i + 1, j + 1, x, hn, h1, h2 => by
    simp at h1 h2
    rw [nodup_inj (List.nodup_cons.1 hn).2 h1 h2]
/-- One flag is set. -/
theorem OwnC.flag (h : OwnC w base V rs) {i : Nat} {r : R} (hr : rs[i]? = some r) (k : Nat) (b : Bool) : OwnC (w.setCell ⟨r.2.2.1, k, none⟩ (.bool b)) base V (rs.set i (r.1, r.2.1.set k b, r.2.2.1, r.2.2.2)) := by
  have hi := h.inn r (List.mem_of_getElem? hr)
  have hlt : i < rs.length := by rw [List.getElem?_eq_some_iff] at hr; obtain ⟨h, _⟩ := hr; exact h
  have hri : rs[i] = r := by rw [List.getElem?_eq_getElem hlt] at hr; exact Option.some.inj hr
  obtain ⟨s1, s2⟩ := World.ownsRow.stored (w := w) (base := base) (e := 4) (size := 1) (g := r.2.2.1) (cap := r.2.2.2) (n := r.2.1.length) (xs := r.2.1.map Value.bool) hi k (.bool b)
  have hc : cellsR (rs.set i (r.1, r.2.1.set k b, r.2.2.1, r.2.2.2)) = cellsR rs := by
    have e1 : rs.set i (r.1, r.2.1.set k b, r.2.2.1, r.2.2.2) = rs.take i ++ (r.1, r.2.1.set k b, r.2.2.1, r.2.2.2) :: rs.drop (i + 1) := List.set_eq_take_append_cons_drop .. ▸ by simp [hlt]
    have e2 : rs = rs.take i ++ r :: rs.drop (i + 1) := by
      conv => lhs; rw [← List.take_append_drop i rs, List.drop_eq_getElem_cons hlt, hri]
    rw [e1]
    conv => rhs; rw [e2]
    simp [cellsR, rv]
  refine ⟨?_, fun q hq => ?_, ?_⟩
  · rw [List.length_set, hc]
    refine h.out.kept s2 ?_
    rcases inner_ne_outer hi h.out (by decide) with h1 | h1
    · simp [rv, Value.ownBlock] at h1
    · right; exact fun e => h1 (by rw [e]; rfl)
  · rcases List.mem_or_eq_of_mem_set hq with hq1 | rfl
    · by_cases hg : q.2.2.1 = r.2.2.1
      · -- the same block: the same row
        obtain ⟨j, hj, hjq⟩ := List.getElem_of_mem hq
        rw [List.length_set] at hj
        by_cases hij : i = j
        · subst hij
          rw [List.getElem_set_self] at hjq
          rw [← hjq]
          show (w.setCell _ _).ownsRow base 4 1 (.slice (some ⟨r.2.2.1, 0, none⟩) (r.2.1.set k b).length r.2.2.2) (r.2.1.set k b).length ((r.2.1.set k b).map Value.bool)
          rw [List.length_set, List.map_set]
          exact s1
        · rw [List.getElem_set_ne hij] at hjq
          exfalso
          have a1 : (rs.map (·.2.2.1))[i]? = some r.2.2.1 := by rw [List.getElem?_map, hr]; rfl
          have a2 : (rs.map (·.2.2.1))[j]? = some r.2.2.1 := by rw [List.getElem?_map, List.getElem?_eq_getElem hj, hjq, ← hg]; rfl
          exact hij (nodup_inj h.nod a1 a2)
      · exact (h.inn q hq1).kept s2 (.inr (by simp [rv, Value.ownBlock, hg]))
    · show (w.setCell _ _).ownsRow base 4 1 (.slice (some ⟨r.2.2.1, 0, none⟩) (r.2.1.set k b).length r.2.2.2) (r.2.1.set k b).length ((r.2.1.set k b).map Value.bool)
      rw [List.length_set, List.map_set]
      exact s1
  · rw [List.map_set]
    have : (rs.map (·.2.2.1)).set i r.2.2.1 = rs.map (·.2.2.1) := by
      apply List.ext_getElem (by simp)
      intro j h1 h2
      rw [List.getElem_set]
      split
      · rename_i hij; subst hij; simp [hri]
      · rfl
    show ((rs.map (·.2.2.1)).set i r.2.2.1).Nodup
    rw [this]; exact h.nod
end
end Go.Proofs.YtdddkfpcbfgocaaGreat.Sb
namespace Go.Proofs.YtdddkfpcbfgocaaGreat.Sb
open Go.RowKit Go.Over Go.Slb Go.Seg Go.Grow
theorem flags_cells {w : World} {b off : Nat} {u : List Bool} (h : ∀ i, i < u.length → w.cell? ⟨b, off + i, none⟩ = some (.bool (u.getD i false))) : ∀ j v, (u.map Value.bool)[j]? = some v → w.cell? ((⟨b, off, none⟩ : Addr).add j) = some v := by
  intro j v hj
  rw [List.getElem?_map] at hj
  cases hu : u[j]? with
  | none => rw [hu] at hj; cases hj
  | some x =>
    rw [hu] at hj; cases hj
    have hlt : j < u.length := by rw [List.getElem?_eq_some_iff] at hu; obtain ⟨h, _⟩ := hu; exact h
    rw [add_row, h j hlt, List.getD_eq_getElem?_getD, hu]; rfl
theorem bools_one (u : List Bool) : ∀ v ∈ u.map Value.bool, v.oneCell' = true := by
  intro v hv
  obtain ⟨x, _, rfl⟩ := List.mem_map.1 hv
  rfl
theorem flags_src {w : World} {a : Option Addr} {u : List Bool} {n c : Nat} (H : Flags w a u) (hn : u.length = n) (hz : a = none → n = 0 ∧ c = 0) : Grow.Src w 1 a n c (u.map Value.bool) := by
  refine ⟨by simp [hn], bools_one u, ?_⟩
  cases a with
  | none => exact .inl ⟨rfl, (hz rfl).1, (hz rfl).2⟩
  | some ad =>
    refine .inr ⟨ad, rfl, ?_⟩
    rcases Nat.eq_zero_or_pos u.length with h0 | h0
    · intro j v hj
      rw [List.eq_nil_of_length_eq_zero h0] at hj
      simp at hj
    · obtain ⟨b, off, ha, hcell⟩ := H h0
      cases ha
      exact flags_cells hcell
set_option maxRecDepth 100000 in set_option maxHeartbeats 1600000 in
theorem clone_47 (a : Option Addr) (u : List Bool) (n c : Nat) (w : World) (H : Flags w a u) (hn : u.length = n) (h0 : 0 < n) (hm : n ≤ 100000) :
    Calls Tryz.prog 82 #[.slice a n c] w fun e w' => ∃ g cp, e = .returned (.slice (some ⟨g, 0, none⟩) n cp) ∧ w'.ownsRow w.heap.size 4 1 (.slice (some ⟨g, 0, none⟩) n cp) n (u.map Value.bool) ∧ Below w.heap.size w w' := by
  obtain ⟨b, off, rfl, hc⟩ := H (by omega)
  have hsrc : Grow.Src (w.alloc (.cells #[] 4)) 1 (some ⟨b, off, none⟩) n c (u.map Value.bool) := flags_src (H.below (below_box _ _)) hn (fun h => by cases h)
  have k1 := fun w' => Lib.run_eql_slice_nil (P := Tryz.prog) w' 51 4 (some ⟨b, off, none⟩) n c 0 0 Tryz.underlying51
  have hmade : (w.alloc (.cells #[] 4)).ownsRow w.heap.size 4 1 (.slice (some ⟨w.heap.size, 0, none⟩) 0 0) 0 [] := World.ownsRow_made w #[] 0 (Nat.le_refl _) (Nat.zero_le _) rfl
  have HS := Lib.hid hsrc
  clear hc hsrc
  go_enter Tryz.func82, Tryz.ntmps82
  go_wp2_with (at_builtin; refine wpList_append_k K50 rfl (.tmp 5) (.tmp 6) rfl _ 0 [] rfl hmade _ n c _ rfl HS.out ?c1 ?c2 ?_)
  case c1 => omega
  case c2 => simp
  intro v' w' hown hg _
  have hb : Below w.heap.size w w' := (below_box w _).grown hg (by simp) (fun k hk => by simp [Value.ownBlock] at hk; omega)
  have hown : w'.ownsRow w.heap.size 4 1 v' n (u.map Value.bool) := by first | exact hown | simpa using hown
  obtain ⟨g, cp, rfl, _, _, _, _⟩ := own_pos hown h0
  clear hg
  go_wp2
  go_ret
  exact ⟨g, cp, rfl, hown, hb⟩
theorem grown_set (w : World) (g i : Nat) (u : Value) : w.grownBy (w.setCell ⟨g, i, none⟩ u) (some g) :=
  ⟨rfl, rfl, rfl, by simp [World.setCell], fun k _ hk => Below.heap_setCell w ⟨g, i, none⟩ u k (fun e => hk (by rw [e]))⟩
theorem OwnC.far {w : World} {base g : Nat} {V : Value} {rs : List R} {cs : List Value} {t : TypeId} (h : OwnC w base V rs) (hg : Blk w g t cs) (h1 : t ≠ 53) (h2 : t ≠ 4) (i : Nat) (u : Value) : OwnC (w.setCell ⟨g, i, none⟩ u) base V rs := by
  have hgr := grown_set w g i u
  refine ⟨h.out.kept hgr (.inr (hg.not_own h.out (Ne.symm h1))), fun r hr => (h.inn r hr).kept hgr (.inr (hg.not_own (h.inn r hr) (Ne.symm h2))), h.nod⟩
/-- What every operation of the region keeps, but the store. -/
def KeepC (w0 : World) (o : Int) (a : Option Addr) (n c : Nat) (V : Value) (X : Nat) (f : Int) (x : Value) (W : World) : Prop :=
  Below w0.heap.size w0 W ∧ Blk W w0.heap.size 31 [.int .i64 o, .slice a n c] ∧ Blk W (w0.heap.size + 1) 31 [.int .i64 0, .slice none 0 0] ∧ Blk W (w0.heap.size + 1 + 1) 31 [.int .i64 o, V] ∧ Blk W X 53 [.int .i64 f, x]
theorem KeepC.below {w0 : World} {o : Int} {a : Option Addr} {n c : Nat} {V : Value} {X : Nat} {f : Int} {x : Value} {W W' : World} (h : KeepC w0 o a n c V X f x W) (hb : Below W.heap.size W W') : KeepC w0 o a n c V X f x W' :=
  ⟨below_then h.1 hb, h.2.1.later hb, h.2.2.1.later hb, h.2.2.2.1.later hb, h.2.2.2.2.later hb⟩
theorem KeepC.grown {w0 : World} {o : Int} {a : Option Addr} {n c : Nat} {V U : Value} {X : Nat} {f : Int} {x : Value} {W W' : World} {base m : Nat} {xs : List Value} (h : KeepC w0 o a n c V X f x W) (hg : W.grownBy W' U.ownBlock) (ho : W.ownsRow base 53 2 U m xs) (hb : w0.heap.size ≤ base) (hX : U.ownBlock ≠ some X) : KeepC w0 o a n c V X f x W' :=
  ⟨h.1.grown hg h.1.size (fun q hq => by have := (World.ownsRow.lt ho q hq).1; omega), h.2.1.grown hg (h.2.1.not_own ho (by decide)), h.2.2.1.grown hg (h.2.2.1.not_own ho (by decide)), h.2.2.2.1.grown hg (h.2.2.2.1.not_own ho (by decide)), h.2.2.2.2.grown hg hX⟩
set_option maxRecDepth 100000 in set_option maxHeartbeats 1600000 in
theorem clone_35 (o : Int) (a : Option Addr) (l : List S) (n c : Nat) (w : World) (H : Slabs w a l) (hn : l.length = n) (hm : n ≤ 1000) (hl : ∀ s ∈ l, 0 < s.2.length ∧ s.2.length ≤ 40) :
    Calls Tryz.prog 34 #[.agg #[.int .i64 o, .slice a n c]] w fun e w' => ∃ V rs, e = .returned (.agg #[.int .i64 o, V]) ∧ OwnC w' w.heap.size V rs ∧ rs.map sl = l ∧ Below w.heap.size w w' := by
  have HN := Lib.hid hn
  have HL := Lib.hid hl
  clear hn hl
  go_enter Tryz.func34, Tryz.ntmps34
  go_wp2
  go_loopg [12] n (fun g i0 wr => ∃ (i : Nat) (V : Value) (rs : List R), i + g = n ∧ i0 = .int .i64 i ∧ rs.map sl = l.take i ∧ OwnC wr w.heap.size V rs ∧ Below w.heap.size w wr ∧ Blk wr w.heap.size 31 [.int .i64 o, .slice a n c] ∧ Blk wr (w.heap.size + 1) 31 [.int .i64 0, .slice none 0 0] ∧ Blk wr (w.heap.size + 1 + 1) 31 [.int .i64 o, V])
  case atStart =>
    refine ⟨0, .slice none 0 0, [], by omega, rfl, rfl, OwnC.nil _ _, (by repeat (first | with_reducible exact Below.refl _ _ | with_reducible assumption | with_reducible refine below_alloc ?_ _ | with_reducible refine Below.drew ?_ | with_reducible refine below_drewN ?_ _ | with_reducible refine below_then ?_ (by with_reducible assumption))), ?_, ?_, ?_⟩
    · exact ((Blk.new w 31 _ _ rfl).alloc _).alloc _
    · have := (Blk.new (w.alloc (.cells #[.int .i64 o, .slice a n c] 31)) 31 #[.int .i64 0, .slice none 0 0] [.int .i64 0, .slice none 0 0] rfl).alloc (.cells #[.int .i64 o, .slice none 0 0] 31)
      simpa using this
    · have := Blk.new ((w.alloc (.cells #[.int .i64 o, .slice a n c] 31)).alloc (.cells #[.int .i64 0, .slice none 0 0] 31)) 31 #[.int .i64 o, .slice none 0 0] [.int .i64 o, .slice none 0 0] rfl
      simpa using this
  case round =>
    obtain ⟨i, V, rs, hg, rfl, hrs, hO, hb, hA, hC, hB⟩ := hrel
    have hlen : rs.length = i := by
      have := congrArg List.length hrs
      rw [List.length_map, List.length_take, HN.out] at this
      omega
    obtain ⟨aV, cV, rfl, _, _, _, _⟩ := hO.slabs hlen
    have HLEN := Lib.hid hlen; clear hlen
    cases gk with
    | zero =>
      obtain rfl : i = n := by omega
      have HR := Lib.hid (show rs.map sl = l by rw [hrs, List.take_of_length_le (by rw [HN.out]; exact Nat.le_refl _)])
      have c0 : wr.cell? ⟨w.heap.size + 1 + 1, 0, none⟩ = some (.int .i64 o) := hB.cell 0
      have c1 : wr.cell? ⟨w.heap.size + 1 + 1, 1, none⟩ = some (.slice aV i cV) := hB.cell 1
      have d0 : wr.cell? ⟨w.heap.size + 1, 0, none⟩ = some (.int .i64 0) := hC.cell 0
      have d1 : wr.cell? ⟨w.heap.size + 1, 1, none⟩ = some (.slice none 0 0) := hC.cell 1
      have f0 := hC.frozen 0
      have f1 := hC.frozen 1
      clear hg hrs
      go_wp2
      have hF := (hC.set 0 (.int .i64 o)).set 1 (.slice aV i cV)
      have hOF := (hO.far hC (by decide) (by decide) 0 (.int .i64 o)).far (hC.set 0 (.int .i64 o)) (by decide) (by decide) 1 (.slice aV i cV)
      refine bodyPost_ret (v := .agg #[.int .i64 o, .slice aV i cV]) (results_cell_row (p := 2) (ty := 31) rfl _ _ (w.heap.size + 1) 31 #[.int .i64 o, .slice aV i cV] (0, 0) _ rfl hF Tryz.underlying31 rfl (by kernel_rfl)) rfl ⟨_, rs, rfl, hOF, HR.out, ?_⟩
      exact (hb.setCell (by simp) _).setCell (by simp) _
    | succ g =>
      have hin : i < n := by omega
      obtain ⟨⟨f, u⟩, hs⟩ := get_some HN.out hin
      have hul := HL.out _ (List.mem_of_getElem? hs)
      have HRS := Lib.hid (show rs.map sl ++ [(f, u)] = l.take (i + 1) by rw [hrs, List.take_add_one, hs]; rfl)
      obtain ⟨b, off, rfl, hc⟩ := (H.below hb) (by rw [HN.out]; omega)
      obtain ⟨s0, a', c', s1, hc1, hc2, hc3, hf⟩ := hc i _ hs
      obtain ⟨um, hmm⟩ : ∃ m, u.length = m := ⟨_, rfl⟩
      simp only [hmm] at s0 s1 hc1 hul
      obtain ⟨hul0, hul1⟩ := hul
      have HM := Lib.hid hmm; have HG := Lib.hid hg
      clear hmm hg hs hc hrs
      go_wp2
      have hX := Blk.new wr 53 #[.int .i64 f, .slice a' um c'] [.int .i64 f, .slice a' um c'] rfl
      have hfX := hf.below (below_box wr (.cells #[.int .i64 f, .slice a' um c'] 53))
      have hOX := hO.alloc (.cells #[.int .i64 f, .slice a' um c'] 53)
      have hK : KeepC w o (some ⟨b, off, none⟩) n c (.slice aV i cV) wr.heap.size f (.slice a' um c') (wr.alloc (.cells #[.int .i64 f, .slice a' um c'] 53)) := ⟨below_alloc hb _, hA.alloc _, hC.alloc _, hB.alloc _, hX⟩
      have hVX : (Value.slice aV i cV).ownBlock ≠ some wr.heap.size := fun h => by have := (World.ownsRow.lt hO.out _ h).2; omega
      clear s0 s1 hA hC hB hb hX hf hO
      refine wp_region_in (KeepC w o (some ⟨b, off, none⟩) n c (.slice aV i cV) wr.heap.size f (.slice a' um c')) [(true, 6), (false, 1), (true, 1), (false, 1), (false, 1), (true, 1), (false, 1)] [0, 1, 2, 3, 4, 5, 6, 7, 8, 9, 10, 11] 11 (by kernel_rfl) (by kernel_rfl) (hK.below (Below.refl _ _).drew) ?_
      intro W hW hWe
      have hOW : OwnC W w.heap.size (.slice aV i cV) rs := by rw [hWe]; exact hOX.later (Below.refl _ _).drew
      have hfW : Flags W a' u := by rw [hWe]; exact hfX.below (Below.refl _ _).drew
      have hsz : wr.heap.size < W.heap.size := by rw [hWe]; show wr.heap.size < (wr.alloc _).heap.size; simp
      clear hWe hOX hfX hK
      simp only [wpSegsL, inOrder, List.filterMap_cons, List.filterMap_nil, List.getElem?_cons_zero, List.getElem?_cons_succ, List.take_succ_cons, List.take_zero, List.drop_succ_cons, List.drop_zero]
      have q1 := fun z => (hold_ok hW z).2.2.2.1.cell 1
      have q2 := fun z => (hold_ok hW z).2.2.2.2.cell 0
      have q3 := fun z => (hold_ok hW z).2.2.2.2.cell 1
      simp only [List.getElem?_cons_zero, List.getElem?_cons_succ] at q1 q2 q3
      repeat (go_big_quiet_step (fail))
      refine wpQuiet_nil ?_
      clear q1 q2 q3
      go_wp2_with fail
      refine (clone_47 a' u um c' W hfW HM.out hul0 (by omega)).mono ?_
      rintro e w2 ⟨gg, cp, rfl, hin2, hb2⟩
      have hK2 := hW.below hb2
      have hO2 := hOW.later hb2
      have hge : W.heap.size ≤ gg := (World.ownsRow.lt hin2 gg rfl).1
      have hsz2 := hb2.size
      have hzw := hW.1.size
      have hrl : ∀ r ∈ rs, r.2.2.1 < W.heap.size := fun r hr => (World.ownsRow.lt (hOW.inn r hr) r.2.2.1 rfl).2
      clear hW hOW hfW hb2
      go_wp2
      refine ⟨hold_of hK2, ?_⟩
      dsimp only
      repeat (go_big_quiet_step (fail))
      refine wpQuiet_nil ?_
      go_wp2
      have hK3 := hK2.below (below_box w2 (.cells #[.int .i64 f, .slice (some ⟨gg, 0, none⟩) um cp] 53))
      have hO3 := hO2.alloc (.cells #[.int .i64 f, .slice (some ⟨gg, 0, none⟩) um cp] 53)
      have hin3 := own_later hin2 (below_box w2 (.cells #[.int .i64 f, .slice (some ⟨gg, 0, none⟩) um cp] 53))
      refine ⟨hold_of hK3, ?_⟩
      refine wpList_append_k K22 rfl (.tmp 17) (.tmp 24) rfl _ _ _ rfl hO3.out _ 1 1 _ rfl (src_new w2 #[.int .i64 f, .slice (some ⟨gg, 0, none⟩) um cp] 53 2 1 1 rfl (by simp [Value.oneCell'])) ?c1 ?c2 ?_
      case c1 => rw [HLEN.out]; omega
      case c2 => exact hK3.1.size
      intro V4 w4 hown hgrow _
      have hK4 := hK3.grown hgrow hO3.out (Nat.le_refl _) hVX
      have hnew : w4.ownsRow w.heap.size 4 1 (.slice (some ⟨gg, 0, none⟩) um cp) um (u.map Value.bool) := (own_weaken hin3 hzw).kept hgrow (inner_ne_outer hin3 hO3.out (by decide))
      have hO4 : OwnC w4 w.heap.size V4 (rs ++ [(f, u, gg, cp)]) := by
        refine hO3.outer hgrow ?_ ?_ ?_
        · rw [List.length_append, cellsR_append]
          have e : cellsR [(f, u, gg, cp)] = [.int .i64 f, .slice (some ⟨gg, 0, none⟩) um cp] := by simp [cellsR, rv, HM.out]
          rw [e]; exact hown
        · intro r hr
          rcases List.mem_append.1 hr with hr | hr
          · exact .inl hr
          · rw [List.mem_singleton.1 hr]
            right
            show w4.ownsRow w.heap.size 4 1 (.slice (some ⟨gg, 0, none⟩) u.length cp) u.length (u.map Value.bool)
            rw [HM.out]; exact hnew
        · rw [List.map_append, List.nodup_append]
          refine ⟨hO3.nod, by simp, ?_⟩
          intro x hx y hy hxy
          simp at hy
          subst hy
          obtain ⟨r, hr, hrx⟩ := List.mem_map.1 hx
          have := hrl r hr
          omega
      obtain ⟨a4, c4, rfl, _, _, _, _⟩ := hO4.slabs (n := i + 1) (by rw [List.length_append, HLEN.out]; rfl)
      have hlen4 := Lib.hid (show (rs ++ [(f, u, gg, cp)]).map sl = l.take (i + 1) by rw [List.map_append]; exact HRS.out)
      clear hown hgrow hnew hO3 hK3 hin3 hin2 hO2 hK2
      refine wpList_nil ⟨hold_of hK4, ?_⟩
      simp only [Act.put, List.setIfInBounds_toArray, List.set_cons_succ, List.set_cons_zero]
      repeat (go_big_quiet_step (fail))
      refine wpQuiet_nil ?_
      have hB4 := hK4.2.2.2.1
      have d1 : w4.cell? ⟨w.heap.size + 1 + 1, 1, none⟩ = some (.slice aV i cV) := hB4.cell 1
      have d2 := hB4.frozen 1
      go_wp2
      refine ⟨trivial, NoPanic.normal ?_⟩
      go_wp2
      go_roundg g
      case rel =>
        refine ⟨i + 1, _, _, by have := HG.out; omega, by go_num, hlen4.out, hO4.far hB4 (by decide) (by decide) 1 _, hK4.1.setCell (by show w.heap.size ≤ w.heap.size + 1 + 1; omega) _, hK4.2.1.far (by show w.heap.size ≠ w.heap.size + 1 + 1; omega) _, hK4.2.2.1.far (by show w.heap.size + 1 ≠ w.heap.size + 1 + 1; omega) _, hB4.set 1 _⟩
      case measure => omega
end Go.Proofs.YtdddkfpcbfgocaaGreat.Sb
namespace Go.Proofs.YtdddkfpcbfgocaaGreat.Sb
open Go.RowKit Go.Over Go.Slb Go.Seg Go.Grow
def KeepD (w0 : World) (o : Int) (a : Option Addr) (n c : Nat) (V : Value) (W : World) : Prop :=
  Below w0.heap.size w0 W ∧ Blk W w0.heap.size 31 [.int .i64 o, .slice a n c] ∧ Blk W (w0.heap.size + 1) 31 [.int .i64 0, .slice none 0 0] ∧ Blk W (w0.heap.size + 1 + 1) 31 [.int .i64 o, V]
theorem KeepD.below {w0 : World} {o : Int} {a : Option Addr} {n c : Nat} {V : Value} {W W' : World} (h : KeepD w0 o a n c V W) (hb : Below W.heap.size W W') : KeepD w0 o a n c V W' :=
  ⟨below_then h.1 hb, h.2.1.later hb, h.2.2.1.later hb, h.2.2.2.later hb⟩
theorem KeepD.grown {w0 : World} {o : Int} {a : Option Addr} {n c : Nat} {V U : Value} {W W' : World} {base m e size : Nat} {xs : List Value} (h : KeepD w0 o a n c V W) (hg : W.grownBy W' U.ownBlock) (ho : W.ownsRow base e size U m xs) (hb : w0.heap.size ≤ base) (he : e ≠ 31) : KeepD w0 o a n c V W' :=
  ⟨h.1.grown hg h.1.size (fun q hq => by have := (World.ownsRow.lt ho q hq).1; omega), h.2.1.grown hg (h.2.1.not_own ho he), h.2.2.1.grown hg (h.2.2.1.not_own ho he), h.2.2.2.grown hg (h.2.2.2.not_own ho he)⟩
theorem KeepD.cell {w0 : World} {o : Int} {a : Option Addr} {n c : Nat} {V : Value} {W : World} (h : KeepD w0 o a n c V W) : W.cell? ⟨w0.heap.size, 1, none⟩ = some (.slice a n c) ∧ W.cell? ⟨w0.heap.size + 1 + 1, 1, none⟩ = some V := ⟨h.2.1.cell 1, h.2.2.2.cell 1⟩
theorem append_some {P : Program} {t e : TypeId} {size bytes : Nat} (K : Kind P t e size bytes) {w : World} {base ty : Nat} {v : Value} {n : Nat} {xs : List Value} (hown : w.ownsRow base e size v n xs) (a : Addr) (m c : Nat) (news : List Value) (hl : news.length = m * size) (hnews : ∀ j u, news[j]? = some u → w.cell? (a.add j) = some u)
    (h1 : ∀ u ∈ news, u.oneCell' = true) (hs : n + m ≤ 1000000) {v' : Value} {w' : World} (hr : (Builtin.append_ #[t, t] ty #[v, .slice (some a) m c]).run P w = .ok v' w') (hv : v.ownBlock ≠ none) : v'.ownBlock ≠ none := by
  obtain ⟨i, z, ht, hi, hz, hz1, hz2, hzs, hsz, hby⟩ := K
  have hl' : news.length = m * i.size := by rw [hz1, hl]
  have hb : ∀ k, k ≤ 1000000 → k * i.bytes ≤ 1000000000 := fun k hk => by
    rw [hz2]; exact Nat.le_trans (Nat.mul_le_mul hk hby) (by decide)
  rcases hown.2 with ⟨rfl, rfl⟩ | ⟨g, cap, cur, rfl, hbg, hg, hnc, hcm, hcs, htake⟩
  · exact absurd rfl hv
  · by_cases hroom : n + m ≤ cap
    · have hfit : n * i.size + news.length ≤ cur.size := by
        rw [hl, hcs, hz1, ← Nat.add_mul]; exact Nat.mul_le_mul_right _ hroom
      have h2 := run_append_room (P := P) w t ty e i ht hi g n cap cur hg a m c news hl' hnews h1 hroom hfit
      rw [h2] at hr
      cases hr
      simp [Value.ownBlock]
    · have holds : ∀ j u, xs[j]? = some u → w.cell? ((⟨g, 0, none⟩ : Addr).add j) = some u := hown.cells (g := g) rfl
      have h2 := run_append_grow (P := P) w t ty e i _ ht hi hz ⟨g, 0, none⟩ n cap xs (by rw [hz1]; exact hown.1) holds a m c news hl' hnews (by omega) (by omega) (growslice_fits (by omega) (by have := hb (n + m) hs; omega))
      rw [h2] at hr
      cases hr
      simp [Value.ownBlock]
/-- The append of a row, where the result of an append to a row that is there is there. -/
theorem wpList_append_ks {P : Program} {t e : TypeId} {size bytes : Nat} (K : Kind P t e size bytes) {w : World} {ops : Array Oper} {rest : List Oper} {o : Oper} {a : Act} {Q : Exit → Act → World → Prop} {base : Nat} (hgd : o.guard = none) (s x : Operand)
    (ho : o.op = .call { callee := .builtin .append, args := #[s, x], argTypes := #[t, t] })
    (v : Value) (n : Nat) (l : List Value) (hs : a.eval s = v) (hown : w.ownsRow base e size v n l) (hv : v.ownBlock ≠ none)
    (ax : Option Addr) (m c : Nat) (news : List Value) (hx : a.eval x = .slice ax m c) (hsrc : Grow.Src w size ax m c news)
    (hlen : n + m ≤ 1000000) (hbase : base ≤ w.heap.size)
    (h : ∀ g cap w', w'.ownsRow base e size (.slice (some ⟨g, 0, none⟩) (n + m) cap) (n + m) (l ++ news) → w.grownBy w' v.ownBlock → wpList P ops Q rest (a.put o.dst (.slice (some ⟨g, 0, none⟩) (n + m) cap)) w') : wpList P ops Q (o :: rest) a w := by
  have K' := K
  obtain ⟨i, z, ht, hi, hz, hz1, hz2, hzs, hsz, hby⟩ := K'
  obtain ⟨hl, h1, hcase⟩ := hsrc
  have fin : ∀ v' w', w'.ownsRow base e size v' (n + m) (l ++ news) → w.grownBy w' v.ownBlock → v'.ownBlock ≠ none → wpList P ops Q rest (a.put o.dst v') w' := by
    intro v' w' h2 h3 h4
    rcases h2.2 with ⟨rfl, _⟩ | ⟨g, cap, cur, rfl, _⟩
    · exact absurd rfl h4
    · exact h g cap w' h2 h3
  refine wpList_plain hgd fun KK hK => ?_
  rcases hcase with ⟨rfl, rfl, rfl⟩ | ⟨ad, rfl, hnews⟩
  · have hn : news = [] := List.eq_nil_of_length_eq_zero (by rw [hl, Nat.zero_mul])
    subst hn
    have hr := run_append_owned_none (P := P) w base t o.type e i size ht hi v n l hown
    unfold Oper.wp execOp
    simp only [ho, resolve, invoke, builtin, Sem.run_bind, Sem.run_pure, Result.andThen_ok, List.map_toArray, List.map_cons, List.map_nil, hs, hx, hr]
    exact hK _ _ (fin v w (by simpa using hown) (World.grownBy.refl w _) hv)
  · have hb : (n + m) * bytes ≤ 1000000000 := Nat.le_trans (Nat.mul_le_mul hlen hby) (by decide)
    obtain ⟨v', w', hr, h2, h3, _⟩ := run_append_own (P := P) w base t o.type e i z size bytes ht hi hz hz1 hz2 hzs hsz v n _ hown ad m c news hl hnews h1 (by unfold maxLen; omega) (by omega) hbase
    have h4 := append_some K hown ad m c news hl hnews h1 hlen hr hv
    unfold Oper.wp execOp
    simp only [ho, resolve, invoke, builtin, Sem.run_bind, Sem.run_pure, Result.andThen_ok, List.map_toArray, List.map_cons, List.map_nil, hs, hx, hr]
    exact hK _ _ (fin v' w' h2 h3 h4)
end Go.Proofs.YtdddkfpcbfgocaaGreat.Sb
namespace Go.Proofs.YtdddkfpcbfgocaaGreat.Sb
open Go.RowKit Go.Over Go.Slb Go.Seg Go.Grow
/-- The place of the first slab of a frame, or -1. -/
def atL (f : Int) : Nat → List S → Int
  | _, [] => -1
  | i, s :: r => if s.1 = f then i else atL f (i + 1) r
theorem atL_none {f : Int} : ∀ {l : List S} {i : Nat}, hasF f l = false → atL f i l = -1
  | [], _, _ => rfl
  | s :: r, i, h => by
    have h1 : s.1 ≠ f ∧ hasF f r = false := by simpa [hasF] using h
    show (if s.1 = f then (i : Int) else atL f (i + 1) r) = -1
    rw [if_neg h1.1]; exact atL_none h1.2
theorem atL_some {f : Int} : ∀ {l : List S} {i k : Nat} {p : Int} {s : S}, Asc p l → l[k]? = some s → s.1 = f → atL f i l = (i + k : Nat)
  | [], _, _, _, _, _, h, _ => by simp at h
  | t :: r, i, 0, p, s, ha, h, hf => by
    simp at h; subst h
    show (if t.1 = f then (i : Int) else atL f (i + 1) r) = _
    rw [if_pos hf]; rfl
  | t :: r, i, k + 1, p, s, ha, h, hf => by
    have hs : r[k]? = some s := by simpa using h
    have hlt := asc_lt ha.2 s (List.mem_of_getElem? hs)
    show (if t.1 = f then (i : Int) else atL f (i + 1) r) = _
    rw [if_neg (by omega), atL_some ha.2 hs hf]
    congr 1; omega
theorem atL_nonneg {f : Int} {l : List S} (h : hasF f l = true) : ∀ i, 0 ≤ atL f i l := by
  induction l with
  | nil => simp [hasF] at h
  | cons s r ih =>
    intro i
    show 0 ≤ (if s.1 = f then (i : Int) else atL f (i + 1) r)
    by_cases hs : s.1 = f
    · rw [if_pos hs]; omega
    · rw [if_neg hs]
      exact ih (by simpa [hasF, hs] using h) (i + 1)
theorem below_at : ∀ {l : List S} {f : Int} {i : Nat}, i ≤ l.length → (∀ k s, k < i → l[k]? = some s → s.1 < f) → (∀ k s, i ≤ k → l[k]? = some s → f ≤ s.1) → below f l = i
  | [], f, i, hi, _, _ => by
    have : i = 0 := by simpa using hi
    subst this; rfl
  | t :: r, f, 0, hi, h1, h2 => by
    have ih := below_at (l := r) (f := f) (i := 0) (by omega) (fun k s hk => absurd hk (by omega)) (fun k s _ hs => h2 (k + 1) s (by omega) (by simpa using hs))
    have ht := h2 0 t (by omega) rfl
    unfold below at ih ⊢
    rw [List.countP_cons, ih]
    simp; omega
  | t :: r, f, i + 1, hi, h1, h2 => by
    have ih := below_at (l := r) (f := f) (i := i) (by simp at hi; omega) (fun k s hk hs => h1 (k + 1) s (by omega) (by simpa using hs)) (fun k s hk hs => h2 (k + 1) s (by omega) (by simpa using hs))
    have ht := h1 0 t (by omega) rfl
    unfold below at ih ⊢
    rw [List.countP_cons, ih]
    simp [ht]
theorem asc_get : ∀ {l : List S} {p : Int}, Asc p l → ∀ {i j : Nat} {s t : S}, l[i]? = some s → l[j]? = some t → i < j → s.1 < t.1
  | [], _, _, i, j, s, t, h, _, _ => by simp at h
  | x :: r, p, ha, 0, j + 1, s, t, h, h', _ => by
    simp at h; subst h
    exact asc_lt ha.2 t (List.mem_of_getElem? (by simpa using h'))
  | x :: r, p, ha, i + 1, j + 1, s, t, h, h', hij => asc_get ha.2 (i := i) (j := j) (by simpa using h) (by simpa using h') (by omega)
set_option maxRecDepth 100000 in set_option maxHeartbeats 1600000 in
theorem cmp_49 (x f : Int) (V : Value) (w : World) (h1 : -9223372036854775808 ≤ x - f) (h2 : x - f ≤ 9223372036854775807) :
    Calls Tryz.prog 81 #[.agg #[.int .i64 x, V], .int .i64 f] w fun e w' => e = .returned (.int .i64 (x - f)) ∧ Below w.heap.size w w' := by
  have B1 := below_box w (.cells #[.int .i64 x, V] 53)
  obtain ⟨k0, k1⟩ := box_cells w (.int .i64 x) V 53
  go_enter Tryz.func81, Tryz.ntmps81
  go_wp2
  go_ret
  exact ⟨by go_num, B1⟩
set_option maxRecDepth 100000 in set_option maxHeartbeats 1600000 in
theorem search_48 (a : Option Addr) (l : List S) (n c : Nat) (f p : Int) (w : World) (H : Slabs w a l) (hn : l.length = n) (hm : n ≤ 1000000) (ha : Asc p l) (hl : ∀ s ∈ l, 0 ≤ s.1 ∧ s.1 < 256) (hf0 : 0 ≤ f) (hf1 : f ≤ 9223372036854775807) :
    Calls Tryz.prog 80 #[.slice a n c, .int .i64 f, .func (.func 81) #[] #[]] w fun e w' => e = .returned (.tuple #[.int .i64 (below f l), .bool (hasF f l)]) ∧ Below w.heap.size w w' := by
  have HN := Lib.hid hn
  have HL := Lib.hid hl
  have HA := Lib.hid ha
  clear hn hl ha
  go_enter Tryz.func80, Tryz.ntmps80
  go_wp2
  go_loopg [9, 10] n (fun g i0 j0 wr => ∃ (i j : Nat), i ≤ j ∧ j ≤ n ∧ j ≤ i + g ∧ i0 = .int .i64 i ∧ j0 = .int .i64 j ∧ (∀ k s, k < i → l[k]? = some s → s.1 < f) ∧ (∀ k s, j ≤ k → l[k]? = some s → f ≤ s.1) ∧ Below w.heap.size w wr)
  case atStart => exact ⟨0, n, by omega, by omega, by omega, rfl, rfl, fun k s hk => absurd hk (by omega), fun k s hk hs => by
    have := List.mem_of_getElem? hs
    have h2 : k < l.length := by rw [List.getElem?_eq_some_iff] at hs; exact hs.1
    have := HN.out
    omega, Below.refl _ _⟩
  case round =>
    obtain ⟨i, j, hij, hjn, hg, rfl, rfl, h1, h2, hb⟩ := hrel
    by_cases hlt : i < j
    · obtain ⟨m, hmid⟩ : ∃ m, (i + j) / 2 = m := ⟨_, rfl⟩
      have hm1 : i ≤ m := by omega
      have hm2 : m < j := by omega
      obtain ⟨⟨x, u⟩, hs⟩ := get_some HN.out (show m < n by omega)
      have hx := HL.out _ (List.mem_of_getElem? hs)
      obtain ⟨b, off, rfl, hc⟩ := (H.below hb) (by rw [HN.out]; omega)
      obtain ⟨s0, a', c', s1, _⟩ := hc m _ hs
      have HS := Lib.hid hs; have HM := Lib.hid hmid
      have H1 := Lib.hid h1; have H2 := Lib.hid h2; have HG := Lib.hid hg
      clear hc hs h1 h2 hg
      by_cases hxf : x < f
      · have t1 : x - f < 0 := by omega
        have hb' := hb
        go_wp2_with (go_at_call 81; refine (cmp_49 x f (.slice a' u.length c') wr (by omega) (by omega)).mono ?_; rintro e w2 ⟨rfl, hb2⟩)
        obtain ⟨g, rfl⟩ : ∃ g, gk = g + 1 := ⟨gk - 1, by have := HG.out; omega⟩
        go_roundg g
        case rel =>
          refine ⟨m + 1, j, by omega, by omega, by have := HG.out; omega, by go_num, rfl, fun k s hk hs => ?_, H2.out, below_then hb (by assumption)⟩
          rcases Nat.lt_or_ge k m with h | h
          · have := asc_get HA.out hs HS.out h
            simp at this; omega
          · obtain rfl : k = m := by omega
            rw [HS.out] at hs; cases hs; exact hxf
        case measure => omega
      · have t1 : ¬ x - f < 0 := by omega
        have hb' := hb
        go_wp2_with (go_at_call 81; refine (cmp_49 x f (.slice a' u.length c') wr (by omega) (by omega)).mono ?_; rintro e w2 ⟨rfl, hb2⟩)
        obtain ⟨g, rfl⟩ : ∃ g, gk = g + 1 := ⟨gk - 1, by have := HG.out; omega⟩
        go_roundg g
        case rel =>
          refine ⟨i, m, by omega, by omega, by have := HG.out; omega, rfl, by go_num, H1.out, fun k s hk hs => ?_, below_then hb (by assumption)⟩
          rcases Nat.lt_or_ge m k with h | h
          · have := asc_get HA.out HS.out hs h
            simp at this; omega
          · obtain rfl : k = m := by omega
            rw [HS.out] at hs; cases hs; simpa using hxf
        case measure => omega
    · obtain rfl : i = j := by omega
      have HB := Lib.hid (below_at (by rw [HN.out]; exact hjn) h1 h2)
      by_cases hin : i < n
      · obtain ⟨⟨x, u⟩, hs⟩ := get_some HN.out hin
        have hx := HL.out _ (List.mem_of_getElem? hs)
        obtain ⟨b, off, rfl, hc⟩ := (H.below hb) (by rw [HN.out]; omega)
        obtain ⟨s0, a', c', s1, _⟩ := hc i _ hs
        have hh := Lib.hid (show hasF f l = (x - f == 0) by
          by_cases hxf : x = f
          · have e : (x - f == 0) = true := by simp; omega
            rw [e]
            simp only [hasF, List.any_eq_true]
            exact ⟨_, List.mem_of_getElem? hs, by simp [hxf]⟩
          · have e : (x - f == 0) = false := by simp; omega
            rw [e]
            simp only [hasF, List.any_eq_false]
            intro s hm
            obtain ⟨k, hk, hks⟩ := List.getElem_of_mem hm
            have hks' : l[k]? = some s := by rw [← hks]; exact List.getElem?_eq_getElem hk
            rcases Nat.lt_or_ge k i with h | h
            · have := h1 k s h hks'
              simp; omega
            · rcases Nat.lt_or_ge i k with h' | h'
              · have q1 := asc_get HA.out hs hks' h'
                have q2 := h2 i _ (Nat.le_refl _) hs
                simp at q1 q2 ⊢; omega
              · obtain rfl : k = i := by omega
                rw [hs] at hks'; cases hks'
                simpa using hxf)
        clear hc hs h1 h2 hg
        obtain ⟨r, hr⟩ : ∃ r, (x - f == 0) = r := ⟨_, rfl⟩
        rw [hr] at hh
        go_wp2_with (go_at_call 81; refine (cmp_49 x f (.slice a' u.length c') wr (by omega) (by omega)).mono ?_; rintro e w2 ⟨rfl, hb2⟩)
        go_ret2
        refine ⟨?_, below_then hb (by assumption)⟩
        rw [HB.out, hh.out]
        rfl
      · obtain rfl : i = n := by omega
        have hh := Lib.hid (show hasF f l = false by
          simp only [hasF, List.any_eq_false]
          intro s hm
          obtain ⟨k, hk, hks⟩ := List.getElem_of_mem hm
          have hks' : l[k]? = some s := by rw [← hks]; exact List.getElem?_eq_getElem hk
          have := h1 k s (by have := HN.out; omega) hks'
          simp; omega)
        clear h1 h2 hg
        go_wp2
        go_ret2
        refine ⟨?_, hb⟩
        rw [HB.out, hh.out]
        rfl
set_option maxRecDepth 100000 in set_option maxHeartbeats 1600000 in
theorem place_36 (o : Int) (a : Option Addr) (l : List S) (n c : Nat) (f p : Int) (w : World) (H : Slabs w a l) (hn : l.length = n) (hm : n ≤ 1000000) (ha : Asc p l) (hl : ∀ s ∈ l, 0 ≤ s.1 ∧ s.1 < 256) (hf0 : 0 ≤ f) (hf1 : f ≤ 9223372036854775807) :
    Calls Tryz.prog 33 #[.agg #[.int .i64 o, .slice a n c], .int .i64 f] w fun e w' => e = .returned (.tuple #[.int .i64 (below f l), .bool (hasF f l)]) ∧ Below w.heap.size w w' := by
  obtain ⟨w1, hw1⟩ : ∃ w1, w1 = w.alloc (.cells #[.int .i64 o, .slice a n c] 31) := ⟨_, rfl⟩
  obtain ⟨k0, k1⟩ := box_cells w (.int .i64 o) (.slice a n c) 31
  have B1 := below_box w (.cells #[.int .i64 o, .slice a n c] 31)
  rw [← hw1] at k0 k1 B1
  have H1 := H.below B1
  have hz1 : w.heap.size < w1.heap.size := by rw [hw1]; simp
  have HW := Lib.hid hw1; clear hw1
  have hS := Lib.hid (search_48 a l n c f p w1 H1 hn hm ha hl hf0 hf1)
  obtain ⟨B, hB⟩ : ∃ B, below f l = B := ⟨_, rfl⟩
  obtain ⟨F, hF⟩ : ∃ F, hasF f l = F := ⟨_, rfl⟩
  rw [hB, hF] at hS ⊢
  clear hB hF hn ha hl
  have K1 := Lib.hid k1; clear k0 k1
  go_enter Tryz.func33, Tryz.ntmps33
  go_wp2_with fail
  rw [← HW.out]
  have c1 := K1.out
  go_wp2_with (go_at_call 80; refine (hS.out).mono ?_; rintro e w2 ⟨rfl, hb2⟩)
  go_ret2
  exact ⟨rfl, below_then B1 (by assumption)⟩
end Go.Proofs.YtdddkfpcbfgocaaGreat.Sb
namespace Go.Proofs.YtdddkfpcbfgocaaGreat.Sb
open Go.RowKit Go.Over Go.Slb Go.Seg Go.Grow
/-- One slab's taking, where the frame is wanted. -/
def tkW (b : Bool) (f o : Int) (k n : Nat) (u : List Bool) : List Bool × List Int := if b = true then tkU f o k n u else (u, [])
theorem tkW_nil {b : Bool} {f o : Int} {k n : Nat} : tkW b f o k n [] = ([], []) := by cases b <;> rfl
theorem tkW_hit {f o : Int} {k n : Nat} {r : List Bool} (h : 0 < n) : tkW true f o k n (false :: r) = (true :: (tkW true f o (k + 1) (n - 1) r).1, (f * o + k) :: (tkW true f o (k + 1) (n - 1) r).2) := by
  show tkU f o k n (false :: r) = _
  unfold tkU
  rw [if_pos ⟨h, rfl⟩]; rfl
theorem tkW_miss {b : Bool} {f o : Int} {k n : Nat} {x : Bool} {r : List Bool} (h : ¬ (b = true ∧ 0 < n ∧ x = false)) : tkW b f o k n (x :: r) = (x :: (tkW b f o (k + 1) n r).1, (tkW b f o (k + 1) n r).2) := by
  cases b with
  | false => rfl
  | true =>
    show tkU f o k n (x :: r) = _
    unfold tkU
    rw [if_neg (fun hh => h ⟨rfl, hh⟩)]; rfl
theorem tk_cons {o : Int} {want : Int → Bool} {n : Nat} {s : S} {r : List S} : tk o want n (s :: r) = ((s.1, (tkW (want s.1) s.1 o 0 n s.2).1) :: (tk o want (n - (tkW (want s.1) s.1 o 0 n s.2).2.length) r).1, (tkW (want s.1) s.1 o 0 n s.2).2 ++ (tk o want (n - (tkW (want s.1) s.1 o 0 n s.2).2.length) r).2) := by
  unfold tkW
  by_cases h : want s.1 = true
  · rw [if_pos h]
    show (if want s.1 = true then _ else _) = _
    rw [if_pos h]
  · rw [if_neg h]
    show (if want s.1 = true then _ else _) = _
    rw [if_neg h]; rfl
/-- The state of a taking inside a slab: what is behind, the flags done, the list so far; what is ahead. -/
def Mid (o : Int) (want : Int → Bool) (N : Nat) (T : List S × List Int) (P : List S) (f : Int) (b : Bool) (j : Nat) (p q : List Bool) (L : List Int) (l' : List S) : Prop :=
  T = (P ++ (f, p ++ (tkW b f o j (N - L.length) q).1) :: (tk o want (N - (L.length + (tkW b f o j (N - L.length) q).2.length)) l').1, L ++ ((tkW b f o j (N - L.length) q).2 ++ (tk o want (N - (L.length + (tkW b f o j (N - L.length) q).2.length)) l').2))
theorem Mid.start {o : Int} {want : Int → Bool} {N : Nat} {T : List S × List Int} {P : List S} {s : S} {L : List Int} {l' : List S} (h : T = (P ++ (tk o want (N - L.length) (s :: l')).1, L ++ (tk o want (N - L.length) (s :: l')).2)) : Mid o want N T P s.1 (want s.1) 0 [] s.2 L l' := by
  unfold Mid
  rw [h, tk_cons]
  simp only [List.nil_append, Nat.sub_sub]
theorem Mid.hit {o : Int} {want : Int → Bool} {N : Nat} {T : List S × List Int} {P : List S} {f : Int} {j : Nat} {p q : List Bool} {L : List Int} {l' : List S} (h : Mid o want N T P f true j p (false :: q) L l') (hN : L.length < N) :
    Mid o want N T P f true (j + 1) (p ++ [true]) q (L ++ [f * o + (j : Int)]) l' := by
  unfold Mid at h ⊢
  rw [tkW_hit (by omega)] at h
  have e : N - L.length - 1 = N - (L ++ [f * o + (j : Int)]).length := by simp; omega
  rw [e] at h
  rw [h]
  have e2 : ∀ x : Nat, L.length + (x + 1) = (L ++ [f * o + (j : Int)]).length + x := by intro x; simp; omega
  simp only [List.length_cons, e2, List.append_assoc, List.cons_append, List.nil_append]
theorem Mid.miss {o : Int} {want : Int → Bool} {N : Nat} {T : List S × List Int} {P : List S} {f : Int} {b x : Bool} {j : Nat} {p q : List Bool} {L : List Int} {l' : List S} (h : Mid o want N T P f b j p (x :: q) L l') (hN : ¬ (b = true ∧ L.length < N ∧ x = false)) :
    Mid o want N T P f b (j + 1) (p ++ [x]) q L l' := by
  unfold Mid at h ⊢
  rw [tkW_miss (fun hh => hN ⟨hh.1, by omega, hh.2.2⟩)] at h
  rw [h]
  simp only [List.append_assoc, List.cons_append, List.nil_append]
theorem Mid.stop {o : Int} {want : Int → Bool} {N : Nat} {T : List S × List Int} {P : List S} {f : Int} {b : Bool} {j : Nat} {p : List Bool} {L : List Int} {l' : List S} (h : Mid o want N T P f b j p [] L l') :
    T = (P ++ [(f, p)] ++ (tk o want (N - L.length) l').1, L ++ (tk o want (N - L.length) l').2) := by
  unfold Mid at h
  rw [tkW_nil] at h
  rw [h]
  simp
/-- Only the blocks of a list, of those that were there, are changed. -/
structure Only (gs : List Nat) (w w' : World) : Prop where
  os : w'.os = w.os
  tape : w'.tape = w.tape
  output : w'.output = w.output
  size : w.heap.size ≤ w'.heap.size
  block : ∀ k, k < w.heap.size → k ∉ gs → w'.heap[k]? = w.heap[k]?
theorem Only.refl (gs : List Nat) (w : World) : Only gs w w := ⟨rfl, rfl, rfl, Nat.le_refl _, fun _ _ _ => rfl⟩
theorem Only.then {gs : List Nat} {w w1 w2 : World} (h : Only gs w w1) (h' : Below w1.heap.size w1 w2) : Only gs w w2 :=
  ⟨h'.os.trans h.os, h'.tape.trans h.tape, h'.output.trans h.output, Nat.le_trans h.size h'.size, fun k hk hn => (h'.block k (by have := h.size; omega)).trans (h.block k hk hn)⟩
theorem Only.grown {gs : List Nat} {w w1 w2 : World} {row : Option Nat} (h : Only gs w w1) (h' : w1.grownBy w2 row) (hr : ∀ k, row = some k → w.heap.size ≤ k ∨ k ∈ gs) : Only gs w w2 := by
  refine ⟨h'.os.trans h.os, h'.tape.trans h.tape, h'.output.trans h.output, Nat.le_trans h.size h'.size, fun k hk hn => ?_⟩
  refine (h'.block k (by have := h.size; omega) (fun e => ?_)).trans (h.block k hk hn)
  rcases hr k e.symm with h1 | h1
  · omega
  · exact hn h1
theorem Only.trans {gs : List Nat} {w w1 w2 : World} (h : Only gs w w1) (h' : Only gs w1 w2) : Only gs w w2 :=
  ⟨h'.os.trans h.os, h'.tape.trans h.tape, h'.output.trans h.output, Nat.le_trans h.size h'.size, fun k hk hn => (h'.block k (by have := h.size; omega) hn).trans (h.block k hk hn)⟩
theorem Only.below {gs : List Nat} {w w' : World} {B : Nat} (h : Only gs w w') (hg : ∀ g ∈ gs, B ≤ g) (hB : B ≤ w.heap.size) : Below B w w' :=
  ⟨h.os, h.tape, h.output, h.size, fun k hk => h.block k (by omega) (fun hm => by have := hg k hm; omega)⟩
theorem blk_only {gs : List Nat} {w w' : World} {g : Nat} {t : TypeId} {cs : List Value} (h : Blk w g t cs) (ho : Only gs w w') (hn : g ∉ gs) : Blk w' g t cs := by
  unfold Blk at h ⊢
  rw [ho.block g (by have := Blk.lt (w := w) (g := g) (t := t) (cs := cs) h; exact this) hn]; exact h
theorem OwnC.not_in {w : World} {base : Nat} {V : Value} {rs : List R} (h : OwnC w base V rs) {g : Nat} {t : TypeId} {cs : List Value} (hb : Blk w g t cs) (ht : t ≠ 4) : g ∉ rs.map (·.2.2.1) := by
  intro hm
  obtain ⟨r, hr, rfl⟩ := List.mem_map.1 hm
  exact hb.not_own (h.inn r hr) (Ne.symm ht) rfl
theorem OwnC.gs_low {w : World} {base : Nat} {V : Value} {rs : List R} (h : OwnC w base V rs) : ∀ g ∈ rs.map (·.2.2.1), base ≤ g := by
  intro g hm
  obtain ⟨r, hr, rfl⟩ := List.mem_map.1 hm
  exact (World.ownsRow.lt (h.inn r hr) _ rfl).1
/-- What the two tests of frames read. -/
structure Env (w : World) (base X Y : Nat) (a : Option Addr) (m c : Nat) (F : List Int) : Prop where
  bx : Blk w X 24 [.slice a m c]
  fy : Blk w Y 168 [.func (.func 138) #[] #[.pointer (some ⟨X, 0, none⟩)]]
  ints : Ints w a F
  len : F.length = m
  low : 0 < F.length → ∀ b off, a = some ⟨b, off, none⟩ → b < base
  base : base ≤ w.heap.size
theorem Env.only {w w' : World} {base X Y : Nat} {a : Option Addr} {m c : Nat} {F : List Int} {V : Value} {rs : List R} (h : Env w base X Y a m c F) (hO : OwnC w base V rs) (ho : Only (rs.map (·.2.2.1)) w w') : Env w' base X Y a m c F := by
  refine ⟨blk_only h.bx ho (hO.not_in h.bx (by decide)), blk_only h.fy ho (hO.not_in h.fy (by decide)), ?_, h.len, h.low, Nat.le_trans h.base ho.size⟩
  intro h0
  obtain ⟨b, off, rfl, hc⟩ := h.ints h0
  refine ⟨b, off, rfl, fun i hi => ?_⟩
  have hbl := ho.below hO.gs_low h.base
  rw [hbl.cell (h.low h0 b off rfl)]; exact hc i hi
theorem Env.later {w w' : World} {base X Y : Nat} {a : Option Addr} {m c : Nat} {F : List Int} (h : Env w base X Y a m c F) (hb : Below w.heap.size w w') : Env w' base X Y a m c F :=
  ⟨h.bx.later hb, h.fy.later hb, h.ints.below hb, h.len, h.low, Nat.le_trans h.base hb.size⟩
set_option maxRecDepth 100000 in set_option maxHeartbeats 1600000 in
theorem fresh_38 (base X Y : Nat) (a : Option Addr) (m c : Nat) (F : List Int) (f : Int) (w : World) (E : Env w base X Y a m c F) (hm : m ≤ 1000000) :
    Calls Tryz.prog 138 #[.int .i64 f, .pointer (some ⟨X, 0, none⟩)] w fun e w' => e = .returned (.bool (F.contains f)) ∧ w = w' := by
  have hI := contains_39 a F m c f w E.ints E.len hm
  have c0 : w.cell? ⟨X, 0, none⟩ = some (.slice a m c) := E.bx.cell 0
  obtain ⟨r, hr⟩ : ∃ r, F.contains f = r := ⟨_, rfl⟩
  rw [hr] at hI ⊢
  have HI := Lib.hid hI; clear hI hr E
  go_enter Tryz.func138, Tryz.ntmps138
  go_wp2_with (go_at_call 132; refine HI.out.mono ?_; rintro e w' ⟨rfl, rfl⟩)
  go_ret
  exact ⟨rfl, rfl⟩
set_option maxRecDepth 100000 in set_option maxHeartbeats 1600000 in
theorem stale_41 (base X Y : Nat) (a : Option Addr) (m c : Nat) (F : List Int) (f : Int) (w : World) (E : Env w base X Y a m c F) (hm : m ≤ 1000000) :
    Calls Tryz.prog 140 #[.int .i64 f, .pointer (some ⟨Y, 0, none⟩)] w fun e w' => e = .returned (.bool (!F.contains f)) ∧ w = w' := by
  have hI := fresh_38 base X Y a m c F f w E hm
  have c0 : w.cell? ⟨Y, 0, none⟩ = some (.func (.func 138) #[] #[.pointer (some ⟨X, 0, none⟩)]) := E.fy.cell 0
  obtain ⟨r, hr⟩ : ∃ r, F.contains f = r := ⟨_, rfl⟩
  rw [hr] at hI ⊢
  have HI := Lib.hid hI; clear hI hr E
  go_enter Tryz.func140, Tryz.ntmps140
  go_wp2_with (go_at_call 138; refine HI.out.mono ?_; rintro e w' ⟨rfl, rfl⟩)
  go_ret
  exact ⟨rfl, rfl⟩
end Go.Proofs.YtdddkfpcbfgocaaGreat.Sb
namespace Go.Proofs.YtdddkfpcbfgocaaGreat.Sb
open Go.RowKit Go.Over Go.Slb Go.Seg Go.Grow
theorem set_same {α : Type} {l : List α} {i : Nat} {x : α} (h : l[i]? = some x) : l.set i x = l := by
  apply List.ext_getElem?
  intro k
  by_cases hk : i = k
  · subst hk
    rw [List.getElem?_set_self (by rw [List.getElem?_eq_some_iff] at h; exact h.1), h]
  · rw [List.getElem?_set_ne hk]
theorem own_blk {w : World} {base e size n g c : Nat} {xs : List Value} (h : w.ownsRow base e size (.slice (some ⟨g, 0, none⟩) n c) n xs) : ∃ cur, Blk w g e cur ∧ cur.take (n * size) = xs := by
  rcases h.2 with ⟨h1, _⟩ | ⟨g', cap, cur, h1, _, h2, _, _, _, h3⟩
  · cases h1
  · cases h1
    exact ⟨cur.toList, by unfold Blk; simpa using h2, h3⟩
theorem OwnC.at {w : World} {base n c : Nat} {a : Option Addr} {rs : List R} {i : Nat} {r : R} (h : OwnC w base (.slice a n c) rs) (hr : rs[i]? = some r) :
    ∃ b off, a = some ⟨b, off, none⟩ ∧ w.cell? ⟨b, off + i * 2, none⟩ = some (.int .i64 r.1) ∧ w.cell? ⟨b, off + i * 2 + 1, none⟩ = some (.slice (some ⟨r.2.2.1, 0, none⟩) r.2.1.length r.2.2.2) := by
  have hlt : i < rs.length := by rw [List.getElem?_eq_some_iff] at hr; exact hr.1
  obtain ⟨g, c', hv, _, _, _, _⟩ := own_pos h.out (by omega)
  cases hv
  obtain ⟨k0, k1⟩ := cellsR_get hr
  have q := World.ownsRow.cells h.out (g := g) rfl
  have q0 := q _ _ k0
  have q1 := q _ _ k1
  rw [add_row] at q0 q1
  exact ⟨g, 0, rfl, q0, by rw [Nat.add_assoc]; exact q1⟩
theorem OwnC.flag_at {w : World} {base : Nat} {V : Value} {rs : List R} {i j : Nat} {f : Int} {u : List Bool} {g c : Nat} (h : OwnC w base V rs) (hr : rs[i]? = some (f, u, g, c)) (hj : j < u.length) :
    w.cell? ⟨g, j, none⟩ = some (.bool (u.getD j false)) ∧ w.frozen? ⟨g, j, none⟩ = false ∧ u.length ≤ c ∧ c ≤ maxLen := by
  have hi := h.inn _ (List.mem_of_getElem? hr)
  obtain ⟨cur, hb, _⟩ := own_blk hi
  obtain ⟨h1, h2⟩ := cap_own hi
  refine ⟨?_, hb.frozen j, h1, h2⟩
  have := World.ownsRow.cells hi (g := g) rfl j (.bool (u.getD j false)) (by
    show (u.map Value.bool)[j]? = _
    rw [List.getElem?_map, List.getElem?_eq_getElem hj, List.getD_eq_getElem?_getD, List.getElem?_eq_getElem hj]; rfl)
  rwa [add_row, Nat.zero_add] at this
theorem own_flag_kept {w : World} {base e size n m g c : Nat} {v : Value} {xs ys : List Value} (h : w.ownsRow base e size v n xs) {base' : Nat} (hg : w.ownsRow base' 4 1 (.slice (some ⟨g, 0, none⟩) m c) m ys) (he : e ≠ 4) (j : Nat) (b : Value) : (w.setCell ⟨g, j, none⟩ b).ownsRow base e size v n xs :=
  h.kept (grown_set w g j b) (by
    rcases inner_ne_outer h hg he with h1 | h1
    · exact .inl h1
    · exact .inr h1)
set_option maxRecDepth 100000 in set_option maxHeartbeats 3200000 in
theorem take_138 (base X Y : Nat) (fa : Option Addr) (fm fc : Nat) (F : List Int) (o : Int) (a : Option Addr) (n c : Nat) (rs : List R) (N : Nat) (w : World) (E : Env w base X Y fa fm fc F) (hm : fm ≤ 1000000) (hO : OwnC w base (.slice a n c) rs) (hn : rs.length = n) (hS : Small o (rs.map sl)) (hN : N ≤ 1000000) :
    Calls Tryz.prog 139 #[.agg #[.int .i64 o, .slice a n c], .int .i64 N, .func (.func 138) #[] #[.pointer (some ⟨X, 0, none⟩)]] w fun e w' => ∃ v rs', e = .returned v ∧ OwnC w' base (.slice a n c) rs' ∧ rs'.map sl = (tk o (fun x => F.contains x) N (rs.map sl)).1 ∧ rs'.map (·.2.2.1) = rs.map (·.2.2.1) ∧ OwnI w' w.heap.size v (tk o (fun x => F.contains x) N (rs.map sl)).2 ∧ Only (rs.map (·.2.2.1)) w w' := by
  obtain ⟨T, hT⟩ : ∃ T, tk o (fun x => F.contains x) N (rs.map sl) = T := ⟨_, rfl⟩
  rw [hT]
  have HT := Lib.hid hT
  have HN := Lib.hid hn
  have HS := Lib.hid hS
  have HE := Lib.hid E
  obtain ⟨gs, hgs⟩ : ∃ gs, rs.map (·.2.2.1) = gs := ⟨_, rfl⟩
  rw [hgs]
  have HGS := Lib.hid hgs
  have HO0 := Lib.hid hO
  have hlow : ∀ g ∈ gs, base ≤ g := by rw [← hgs]; exact hO.gs_low
  have HLOW := Lib.hid hlow
  have hn1000 : n ≤ 1000 := by have := hS.n; rw [List.length_map, hn] at this; exact this
  obtain ⟨w1, hw1⟩ : ∃ w1, w1 = w.alloc (.cells #[.int .i64 o, .slice a n c] 31) := ⟨_, rfl⟩
  have hB1 : Blk w1 w.heap.size 31 [.int .i64 o, .slice a n c] := by rw [hw1]; exact Blk.new w 31 _ _ rfl
  have k0 : w1.cell? ⟨w.heap.size, 0, none⟩ = some (.int .i64 o) := hB1.cell 0
  have k1 : w1.cell? ⟨w.heap.size, 1, none⟩ = some (.slice a n c) := hB1.cell 1
  have hO1 : OwnC w1 base (.slice a n c) rs := by rw [hw1]; exact hO.alloc _
  have hon1 : Only gs w w1 := (Only.refl gs w).then (by rw [hw1]; exact below_box w _)
  have hz1 : w.heap.size < w1.heap.size := by rw [hw1]; simp
  have HW := Lib.hid hw1
  clear hw1 hT hn hS E hgs hlow hO
  go_enter Tryz.func139, Tryz.ntmps139
  go_wp2
  rw [← HW.out]
  clear HW k0 k1
  go_loopg [7, 14] n (fun g v0 i0 wr => ∃ (i : Nat) (L : List Int) (v : Value) (rs' : List R), i + g = n ∧ v = v0 ∧ i0 = .int .i64 i ∧ L.length ≤ i * 40 ∧ rs'.map (·.2.2.1) = gs ∧ OwnC wr base (.slice a n c) rs' ∧ (∃ P, P.length = i ∧ rs'.map sl = P ++ (rs.map sl).drop i ∧ T = (P ++ (tk o (fun x => F.contains x) (N - L.length) ((rs.map sl).drop i)).1, L ++ (tk o (fun x => F.contains x) (N - L.length) ((rs.map sl).drop i)).2)) ∧ OwnI wr w.heap.size v L ∧ Only gs w wr ∧ Blk wr w.heap.size 31 [.int .i64 o, .slice a n c])
  case atStart => exact ⟨0, [], _, rs, by omega, rfl, rfl, by simp, HGS.out, hO1, ⟨[], rfl, rfl, by rw [← HT.out]; rfl⟩, World.ownsRow_nil _ _ _ _, hon1, hB1⟩
  case round =>
    clear hO1 hon1 hB1 hz1
    obtain ⟨i, L, v, rs', hg, rfl, rfl, hLl, hgs', hO, hP, hI, hon, hB⟩ := hrel
    have hP := Lib.hid hP
    cases gk with
    | zero =>
      obtain rfl : i = n := by omega
      have HFin := Lib.hid (show rs'.map sl = T.1 ∧ L = T.2 by
        obtain ⟨P, h1, h2, h3⟩ := hP.out
        rw [List.drop_eq_nil_of_le (by rw [List.length_map, HN.out]; exact Nat.le_refl _)] at h2 h3
        rw [h3]; simp [tk, h2])
      clear hg hP
      go_wp2
      go_ret
      exact ⟨_, rs', rfl, hO, HFin.out.1, hgs', by rw [← HFin.out.2]; exact hI, hon⟩
    | succ g =>
      have hin : i < n := by omega
      have hlen' : rs'.length = n := by
        have h1 := congrArg List.length hgs'
        have h2 := congrArg List.length HGS.out
        rw [List.length_map] at h1 h2
        rw [h1, ← h2]; exact HN.out
      obtain ⟨⟨f, u, gg, cp⟩, hs⟩ := get_some hlen' hin
      obtain ⟨P, hP1, hP2, hP3⟩ := hP.out
      have hsl : (rs.map sl)[i]? = some (f, u) := by
        have h1 : (rs'.map sl)[i]? = some (f, u) := by rw [List.getElem?_map, hs]; rfl
        rw [hP2, List.getElem?_append_right (by omega), hP1, Nat.sub_self, List.getElem?_drop] at h1
        exact h1
      have hfr := HS.out.fr _ (List.mem_of_getElem? hsl)
      have hul := HS.out.len _ (List.mem_of_getElem? hsl)
      have ho0 := HS.out.o0
      have ho1 := HS.out.o1
      rw [drop_get hsl] at hP2 hP3
      have HMid := Lib.hid (Mid.start (want := fun x => F.contains x) hP3)
      have HP1 := Lib.hid hP1; have HP2 := Lib.hid hP2
      obtain ⟨b, off, rfl, s0, s1⟩ := hO.at hs
      obtain ⟨hcp1, hcp2⟩ : u.length ≤ cp ∧ cp ≤ maxLen := cap_own (hO.inn _ (List.mem_of_getElem? hs))
      obtain ⟨um, hum⟩ : ∃ m, u.length = m := ⟨_, rfl⟩
      simp only [hum] at s0 s1 hul hfr hcp1
      obtain ⟨bw, hbw⟩ : ∃ bw, ((fun x => F.contains x) : Int → Bool) f = bw := ⟨_, rfl⟩
      have HMid2 := Lib.hid (show Mid o (fun x => F.contains x) N T P f bw 0 [] u L ((rs.map sl).drop (i + 1)) by rw [← hbw]; exact HMid.out)
      have HBW := Lib.hid hbw
      obtain ⟨pp, hpp⟩ : ∃ p : Int, f * o = p := ⟨_, rfl⟩
      have hpb := mul_small hfr.1 hfr.2 ho0 ho1
      rw [hpp] at hpb
      obtain ⟨hp0, hp1⟩ := hpb
      have HPP := Lib.hid hpp
      have HM := Lib.hid hum; have HG := Lib.hid hg; have HSI := Lib.hid hs
      clear hum hg hs hP hP1 hP2 hP3 HMid hsl hbw hpp hlen'
      have c1 : wr.cell? ⟨w.heap.size, 1, none⟩ = some (.slice (some ⟨b, off, none⟩) n c) := hB.cell 1
      have hOb := hO.alloc (.cells #[.int .i64 f, .slice (some ⟨gg, 0, none⟩) um cp] 53)
      have hIb : OwnI (wr.alloc (.cells #[.int .i64 f, .slice (some ⟨gg, 0, none⟩) um cp] 53)) w.heap.size v L := own_later hI (below_box wr _)
      have honb := hon.then (below_box wr (.cells #[.int .i64 f, .slice (some ⟨gg, 0, none⟩) um cp] 53))
      have hBb := hB.alloc (.cells #[.int .i64 f, .slice (some ⟨gg, 0, none⟩) um cp] 53)
      have hXb := Blk.new wr 53 #[.int .i64 f, .slice (some ⟨gg, 0, none⟩) um cp] [.int .i64 f, .slice (some ⟨gg, 0, none⟩) um cp] rfl
      obtain ⟨wb, hwb⟩ : ∃ W, W = wr.alloc (.cells #[.int .i64 f, .slice (some ⟨gg, 0, none⟩) um cp] 53) := ⟨_, rfl⟩
      rw [← hwb] at hOb hIb honb hBb hXb
      have HWB := Lib.hid hwb
      clear hwb
      go_wp2
      rw [← HWB.out]
      clear HWB hO hI hon hB c1 s0 s1
      go_loopg [7, 21] um (fun g2 v0 i0 wi => ∃ (j m2 : Nat) (p : List Bool) (L2 : List Int) (v : Value) (rs2 : List R), j + g2 = um ∧ v = v0 ∧ i0 = .int .i64 j ∧ p.length = j ∧ L2.length = m2 ∧ m2 ≤ i * 40 + j ∧ rs2.map (·.2.2.1) = gs ∧ rs2[i]? = some (f, p ++ u.drop j, gg, cp) ∧ rs2.map sl = P ++ (f, p ++ u.drop j) :: (rs.map sl).drop (i + 1) ∧ Mid o (fun x => F.contains x) N T P f bw j p (u.drop j) L2 ((rs.map sl).drop (i + 1)) ∧ OwnC wi base (.slice (some ⟨b, off, none⟩) n c) rs2 ∧ OwnI wi w.heap.size v L2 ∧ Only gs w wi ∧ Blk wi w.heap.size 31 [.int .i64 o, .slice (some ⟨b, off, none⟩) n c] ∧ Blk wi wr.heap.size 53 [.int .i64 f, .slice (some ⟨gg, 0, none⟩) um cp])
      case atStart => exact ⟨0, L.length, [], L, _, rs', by omega, rfl, rfl, rfl, rfl, by omega, hgs', HSI.out, HP2.out, HMid2.out, hOb, hIb, honb, hBb, hXb⟩
      case round =>
        clear hOb hIb honb hBb hXb
        obtain ⟨j, m2, p, L2, v, rs2, hj, rfl, rfl, hp, hL2, hm2, hg2, hri, hr2, hMid, hO, hI, hon, hB, hX⟩ := hrel
        have c0 : wr.cell? ⟨w.heap.size, 0, none⟩ = some (.int .i64 o) := hB.cell 0
        have c2 : wr.cell? ⟨_, 0, none⟩ = some (.int .i64 f) := hX.cell 0
        have c3 : wr.cell? ⟨_, 1, none⟩ = some (.slice (some ⟨gg, 0, none⟩) um cp) := hX.cell 1
        obtain ⟨av, cv, rfl, hv1, hv2, hv3, _⟩ := hI.ints hL2
        have hOwn := Lib.hid hO; have hIn := Lib.hid hI; have hOn := Lib.hid hon; have HMI := Lib.hid hMid; have HR2 := Lib.hid hr2; have HRI := Lib.hid hri; have HG2 := Lib.hid hg2; have HL2 := Lib.hid hL2; have HPL := Lib.hid hp
        clear hMid hr2 hri hg2 hL2 hI hon hp
        cases gk with
        | zero =>
          obtain rfl : j = um := by omega
          clear hj hO
          go_wp2
          go_roundg g
          case rel =>
            refine ⟨i + 1, L2, _, rs2, by have := HG.out; omega, rfl, by go_num, by rw [HL2.out]; omega, HG2.out, hOwn.out, ⟨P ++ [(f, p)], by rw [List.length_append, HP1.out]; rfl, ?_, ?_⟩, hIn.out, hOn.out, hB⟩
            · rw [HR2.out, List.drop_eq_nil_of_le (by rw [HM.out]; exact Nat.le_refl _)]; simp
            · have := HMI.out
              rw [List.drop_eq_nil_of_le (by rw [HM.out]; exact Nat.le_refl _)] at this
              exact this.stop
          case measure => omega
        | succ g2 =>
          have hjm : j < um := by omega
          have HJ := Lib.hid hj
          have hud : u.drop j = u.getD j false :: u.drop (j + 1) := flag_drop HM.out hjm
          obtain ⟨x, hx⟩ : ∃ x, u.getD j false = x := ⟨_, rfl⟩
          rw [hx] at hud
          have HUD := Lib.hid hud
          obtain ⟨f00, f1, hq1, hq2⟩ := hO.flag_at HRI.out (j := j) (by rw [List.length_append, HPL.out, List.length_drop, HM.out]; omega)
          have f0 : wr.cell? ⟨gg, j, none⟩ = some (.bool x) := by
            rw [f00, List.getD_eq_getElem?_getD, List.getElem?_append_right (by rw [HPL.out]; exact Nat.le_refl _), HPL.out, Nat.sub_self, hud]; rfl
          have hcall := Lib.hid (show Calls Tryz.prog 138 #[.int .i64 f, .pointer (some ⟨X, 0, none⟩)] wr fun e w' => e = .returned (.bool bw) ∧ wr = w' from by
            have h := fresh_38 base X Y fa fm fc F f wr (HE.out.only HO0.out (by rw [HGS.out]; exact hOn.out)) hm
            have e : (F.contains f) = bw := HBW.out
            rw [e] at h
            exact h)
          clear hj hud hx hO f00 hq1 hq2
          have hN64 : (N : Int) ≤ 1000000 := by omega
          by_cases hmN : m2 < N
          · cases x with
            | true =>
              have HMs := Lib.hid (Mid.miss (x := true) (by rw [← HUD.out]; exact HMI.out) (by simp))
              go_wp2
              go_roundg g2
              case rel => exact ⟨j + 1, m2, p ++ [true], L2, _, rs2, by have := HJ.out; omega, rfl, by go_num, by rw [List.length_append, HPL.out]; rfl, HL2.out, by omega, HG2.out, by rw [HRI.out, HUD.out]; simp, by rw [HR2.out, HUD.out]; simp, HMs.out, hOwn.out, hIn.out, hOn.out, hB, hX⟩
              case measure => omega
            | false =>
              cases bw with
              | false =>
                have HMs := Lib.hid (Mid.miss (x := false) (by rw [← HUD.out]; exact HMI.out) (by simp))
                go_wp2_with (go_at_call 138; refine (hcall.out).mono ?_; rintro e w' ⟨rfl, rfl⟩)
                go_roundg g2
                case rel => exact ⟨j + 1, m2, p ++ [false], L2, _, rs2, by have := HJ.out; omega, rfl, by go_num, by rw [List.length_append, HPL.out]; rfl, HL2.out, by omega, HG2.out, by rw [HRI.out, HUD.out]; simp, by rw [HR2.out, HUD.out]; simp, HMs.out, hOwn.out, hIn.out, hOn.out, hB, hX⟩
                case measure => omega
              | true =>
                have hne1 := hB.not_own (hOwn.out.inn _ (List.mem_of_getElem? HRI.out)) (by decide)
                have hne2 := hX.not_own (hOwn.out.inn _ (List.mem_of_getElem? HRI.out)) (by decide)
                have hBs := hB.far (p := ⟨gg, j, none⟩) (fun e => hne1 (by rw [e]; rfl)) (.bool true)
                have hXs := hX.far (p := ⟨gg, j, none⟩) (fun e => hne2 (by rw [e]; rfl)) (.bool true)
                have d0 : (wr.setCell ⟨gg, j, none⟩ (.bool true)).cell? ⟨w.heap.size, 0, none⟩ = some (.int .i64 o) := hBs.cell 0
                have d2 : (wr.setCell ⟨gg, j, none⟩ (.bool true)).cell? ⟨_, 0, none⟩ = some (.int .i64 f) := hXs.cell 0
                clear hne1 hne2
                have hin2 := hOwn.out.inn _ (List.mem_of_getElem? HRI.out)
                have hIs0 : (wr.setCell ⟨gg, j, none⟩ (.bool true)).ownsRow w.heap.size 3 1 (.slice av m2 cv) m2 (L2.map (Value.int .i64)) := by
                  have h := hIn.out
                  unfold OwnI at h
                  rw [HL2.out] at h
                  exact own_flag_kept h hin2 (by decide) j _
                have hIs := own_later hIs0 (below_box (wr.setCell ⟨gg, j, none⟩ (.bool true)) (.cells #[.int .i64 (pp + (j : Int))] 3))
                have hOs0 : OwnC (wr.setCell ⟨gg, j, none⟩ (.bool true)) base (.slice (some ⟨b, off, none⟩) n c) (rs2.set i (f, p ++ true :: u.drop (j + 1), gg, cp)) := by
                  have h := hOwn.out.flag HRI.out j true
                  have e : (p ++ u.drop j).set j true = p ++ true :: u.drop (j + 1) := by
                    rw [HUD.out, List.set_append_right _ _ (by rw [HPL.out]; exact Nat.le_refl _), HPL.out, Nat.sub_self]; rfl
                  simp only [e] at h
                  exact h
                have hOs := hOs0.alloc (.cells #[.int .i64 (pp + (j : Int))] 3)
                have hons := (hOn.out.grown (grown_set wr gg j (.bool true)) (fun k hk => by cases hk; exact .inr (by rw [← HG2.out]; exact List.mem_map.2 ⟨_, List.mem_of_getElem? HRI.out, rfl⟩))).then (below_box (wr.setCell ⟨gg, j, none⟩ (.bool true)) (.cells #[.int .i64 (pp + (j : Int))] 3))
                have hBa := hBs.alloc (.cells #[.int .i64 (pp + (j : Int))] 3)
                have hXa := hXs.alloc (.cells #[.int .i64 (pp + (j : Int))] 3)
                have HIS := Lib.hid hIs; have HOS := Lib.hid hOs; have HONS := Lib.hid hons; have HBA := Lib.hid hBa; have HXA := Lib.hid hXa
                have HMs := Lib.hid (Mid.hit (by rw [← HUD.out]; exact HMI.out) (by rw [HL2.out]; exact hmN))
                clear hin2 hIs0 hIs hOs0 hOs hons hBa hXa hBs hXs hB hX
                have hsrc := src_new (wr.setCell ⟨gg, j, none⟩ (.bool true)) #[.int .i64 (pp + (j : Int))] 3 1 1 1 rfl (by simp [Value.oneCell'])
                rw [show (wr.setCell ⟨gg, j, none⟩ (.bool true)).heap.size = wr.heap.size by simp [World.setCell]] at hsrc
                have HSRC := Lib.hid hsrc
                clear hsrc
                have hp := HPP.out
                have e1 : IntKind.i64.wrap pp = pp := IntWalk.i64_in _ (by omega)
                have e2 : IntKind.i64.wrap (pp + (j : Int)) = pp + (j : Int) := IntWalk.i64_in _ (by omega)
                go_wp2_with (first | (go_at_call 138; refine (hcall.out).mono ?_; rintro e w' ⟨rfl, rfl⟩) | (at_builtin; refine wpList_append_k K31 rfl (.tmp 46) (.tmp 54) rfl _ m2 (L2.map (Value.int .i64)) rfl HIS.out _ 1 1 _ rfl HSRC.out ?c1 ?c2 ?_))
                case c1 => omega
                case c2 => exact HONS.out.size
                intro v3 w3 hown hgrow _
                have hI3 : OwnI w3 w.heap.size v3 (L2 ++ [f * o + (j : Int)]) := by
                  unfold OwnI
                  rw [List.map_append, List.length_append, HL2.out, HPP.out]
                  exact hown
                have hO3 : OwnC w3 base (.slice (some ⟨b, off, none⟩) n c) (rs2.set i (f, p ++ true :: u.drop (j + 1), gg, cp)) :=
                  ⟨HOS.out.out.kept hgrow (inner_ne_outer HOS.out.out HIS.out (by decide)), fun r hr => (HOS.out.inn r hr).kept hgrow (inner_ne_outer (HOS.out.inn r hr) HIS.out (by decide)), HOS.out.nod⟩
                have hon3 : Only gs w w3 := HONS.out.grown hgrow (fun k hk => .inl (World.ownsRow.lt HIS.out k hk).1)
                have hB3 := HBA.out.grown hgrow (HBA.out.not_own HIS.out (by decide))
                have hX3 := HXA.out.grown hgrow (HXA.out.not_own HIS.out (by decide))
                clear hown hgrow d0 d2
                go_wp2
                go_roundg g2
                case rel =>
                  refine ⟨j + 1, m2 + 1, p ++ [true], L2 ++ [f * o + (j : Int)], _, _, by have := HJ.out; omega, rfl, by go_num, by rw [List.length_append, HPL.out]; rfl, by rw [List.length_append, HL2.out]; rfl, by omega, ?_, ?_, ?_, HMs.out, hO3, hI3, hon3, hB3, hX3⟩
                  · rw [List.map_set]
                    show (rs2.map (·.2.2.1)).set i gg = gs
                    have h1 : (rs2.map (·.2.2.1))[i]? = some gg := by rw [List.getElem?_map, HRI.out]; rfl
                    rw [HG2.out] at h1 ⊢
                    exact set_same h1
                  · have hlt : i < rs2.length := by have := HRI.out; rw [List.getElem?_eq_some_iff] at this; exact this.1
                    rw [List.getElem?_set_self hlt]; simp
                  · rw [List.map_set, HR2.out, List.set_append_right _ _ (by rw [HP1.out]; exact Nat.le_refl _), HP1.out, Nat.sub_self]
                    simp [sl]
                case measure => omega
          · have HMs := Lib.hid (Mid.miss (x := x) (by rw [← HUD.out]; exact HMI.out) (by rw [HL2.out]; simp [hmN]))
            go_wp2
            go_roundg g2
            case rel => exact ⟨j + 1, m2, p ++ [x], L2, _, rs2, by have := HJ.out; omega, rfl, by go_num, by rw [List.length_append, HPL.out]; rfl, HL2.out, by omega, HG2.out, by rw [HRI.out, HUD.out]; simp, by rw [HR2.out, HUD.out]; simp, HMs.out, hOwn.out, hIn.out, hOn.out, hB, hX⟩
            case measure => omega
set_option maxRecDepth 100000 in set_option maxHeartbeats 3200000 in
theorem take_140 (base X Y : Nat) (fa : Option Addr) (fm fc : Nat) (F : List Int) (o : Int) (a : Option Addr) (n c : Nat) (rs : List R) (N : Nat) (w : World) (E : Env w base X Y fa fm fc F) (hm : fm ≤ 1000000) (hO : OwnC w base (.slice a n c) rs) (hn : rs.length = n) (hS : Small o (rs.map sl)) (hN : N ≤ 1000000) :
    Calls Tryz.prog 139 #[.agg #[.int .i64 o, .slice a n c], .int .i64 N, .func (.func 140) #[] #[.pointer (some ⟨Y, 0, none⟩)]] w fun e w' => ∃ v rs', e = .returned v ∧ OwnC w' base (.slice a n c) rs' ∧ rs'.map sl = (tk o (fun x => !F.contains x) N (rs.map sl)).1 ∧ rs'.map (·.2.2.1) = rs.map (·.2.2.1) ∧ OwnI w' w.heap.size v (tk o (fun x => !F.contains x) N (rs.map sl)).2 ∧ Only (rs.map (·.2.2.1)) w w' := by
  obtain ⟨T, hT⟩ : ∃ T, tk o (fun x => !F.contains x) N (rs.map sl) = T := ⟨_, rfl⟩
  rw [hT]
  have HT := Lib.hid hT
  have HN := Lib.hid hn
  have HS := Lib.hid hS
  have HE := Lib.hid E
  obtain ⟨gs, hgs⟩ : ∃ gs, rs.map (·.2.2.1) = gs := ⟨_, rfl⟩
  rw [hgs]
  have HGS := Lib.hid hgs
  have HO0 := Lib.hid hO
  have hlow : ∀ g ∈ gs, base ≤ g := by rw [← hgs]; exact hO.gs_low
  have HLOW := Lib.hid hlow
  have hn1000 : n ≤ 1000 := by have := hS.n; rw [List.length_map, hn] at this; exact this
  obtain ⟨w1, hw1⟩ : ∃ w1, w1 = w.alloc (.cells #[.int .i64 o, .slice a n c] 31) := ⟨_, rfl⟩
  have hB1 : Blk w1 w.heap.size 31 [.int .i64 o, .slice a n c] := by rw [hw1]; exact Blk.new w 31 _ _ rfl
  have k0 : w1.cell? ⟨w.heap.size, 0, none⟩ = some (.int .i64 o) := hB1.cell 0
  have k1 : w1.cell? ⟨w.heap.size, 1, none⟩ = some (.slice a n c) := hB1.cell 1
  have hO1 : OwnC w1 base (.slice a n c) rs := by rw [hw1]; exact hO.alloc _
  have hon1 : Only gs w w1 := (Only.refl gs w).then (by rw [hw1]; exact below_box w _)
  have hz1 : w.heap.size < w1.heap.size := by rw [hw1]; simp
  have HW := Lib.hid hw1
  clear hw1 hT hn hS E hgs hlow hO
  go_enter Tryz.func139, Tryz.ntmps139
  go_wp2
  rw [← HW.out]
  clear HW k0 k1
  go_loopg [7, 14] n (fun g v0 i0 wr => ∃ (i : Nat) (L : List Int) (v : Value) (rs' : List R), i + g = n ∧ v = v0 ∧ i0 = .int .i64 i ∧ L.length ≤ i * 40 ∧ rs'.map (·.2.2.1) = gs ∧ OwnC wr base (.slice a n c) rs' ∧ (∃ P, P.length = i ∧ rs'.map sl = P ++ (rs.map sl).drop i ∧ T = (P ++ (tk o (fun x => !F.contains x) (N - L.length) ((rs.map sl).drop i)).1, L ++ (tk o (fun x => !F.contains x) (N - L.length) ((rs.map sl).drop i)).2)) ∧ OwnI wr w.heap.size v L ∧ Only gs w wr ∧ Blk wr w.heap.size 31 [.int .i64 o, .slice a n c])
  case atStart => exact ⟨0, [], _, rs, by omega, rfl, rfl, by simp, HGS.out, hO1, ⟨[], rfl, rfl, by rw [← HT.out]; rfl⟩, World.ownsRow_nil _ _ _ _, hon1, hB1⟩
  case round =>
    clear hO1 hon1 hB1 hz1
    obtain ⟨i, L, v, rs', hg, rfl, rfl, hLl, hgs', hO, hP, hI, hon, hB⟩ := hrel
    have hP := Lib.hid hP
    cases gk with
    | zero =>
      obtain rfl : i = n := by omega
      have HFin := Lib.hid (show rs'.map sl = T.1 ∧ L = T.2 by
        obtain ⟨P, h1, h2, h3⟩ := hP.out
        rw [List.drop_eq_nil_of_le (by rw [List.length_map, HN.out]; exact Nat.le_refl _)] at h2 h3
        rw [h3]; simp [tk, h2])
      clear hg hP
      go_wp2
      go_ret
      exact ⟨_, rs', rfl, hO, HFin.out.1, hgs', by rw [← HFin.out.2]; exact hI, hon⟩
    | succ g =>
      have hin : i < n := by omega
      have hlen' : rs'.length = n := by
        have h1 := congrArg List.length hgs'
        have h2 := congrArg List.length HGS.out
        rw [List.length_map] at h1 h2
        rw [h1, ← h2]; exact HN.out
      obtain ⟨⟨f, u, gg, cp⟩, hs⟩ := get_some hlen' hin
      obtain ⟨P, hP1, hP2, hP3⟩ := hP.out
      have hsl : (rs.map sl)[i]? = some (f, u) := by
        have h1 : (rs'.map sl)[i]? = some (f, u) := by rw [List.getElem?_map, hs]; rfl
        rw [hP2, List.getElem?_append_right (by omega), hP1, Nat.sub_self, List.getElem?_drop] at h1
        exact h1
      have hfr := HS.out.fr _ (List.mem_of_getElem? hsl)
      have hul := HS.out.len _ (List.mem_of_getElem? hsl)
      have ho0 := HS.out.o0
      have ho1 := HS.out.o1
      rw [drop_get hsl] at hP2 hP3
      have HMid := Lib.hid (Mid.start (want := fun x => !F.contains x) hP3)
      have HP1 := Lib.hid hP1; have HP2 := Lib.hid hP2
      obtain ⟨b, off, rfl, s0, s1⟩ := hO.at hs
      obtain ⟨hcp1, hcp2⟩ : u.length ≤ cp ∧ cp ≤ maxLen := cap_own (hO.inn _ (List.mem_of_getElem? hs))
      obtain ⟨um, hum⟩ : ∃ m, u.length = m := ⟨_, rfl⟩
      simp only [hum] at s0 s1 hul hfr hcp1
      obtain ⟨bw, hbw⟩ : ∃ bw, ((fun x => !F.contains x) : Int → Bool) f = bw := ⟨_, rfl⟩
      have HMid2 := Lib.hid (show Mid o (fun x => !F.contains x) N T P f bw 0 [] u L ((rs.map sl).drop (i + 1)) by rw [← hbw]; exact HMid.out)
      have HBW := Lib.hid hbw
      obtain ⟨pp, hpp⟩ : ∃ p : Int, f * o = p := ⟨_, rfl⟩
      have hpb := mul_small hfr.1 hfr.2 ho0 ho1
      rw [hpp] at hpb
      obtain ⟨hp0, hp1⟩ := hpb
      have HPP := Lib.hid hpp
      have HM := Lib.hid hum; have HG := Lib.hid hg; have HSI := Lib.hid hs
      clear hum hg hs hP hP1 hP2 hP3 HMid hsl hbw hpp hlen'
      have c1 : wr.cell? ⟨w.heap.size, 1, none⟩ = some (.slice (some ⟨b, off, none⟩) n c) := hB.cell 1
      have hOb := hO.alloc (.cells #[.int .i64 f, .slice (some ⟨gg, 0, none⟩) um cp] 53)
      have hIb : OwnI (wr.alloc (.cells #[.int .i64 f, .slice (some ⟨gg, 0, none⟩) um cp] 53)) w.heap.size v L := own_later hI (below_box wr _)
      have honb := hon.then (below_box wr (.cells #[.int .i64 f, .slice (some ⟨gg, 0, none⟩) um cp] 53))
      have hBb := hB.alloc (.cells #[.int .i64 f, .slice (some ⟨gg, 0, none⟩) um cp] 53)
      have hXb := Blk.new wr 53 #[.int .i64 f, .slice (some ⟨gg, 0, none⟩) um cp] [.int .i64 f, .slice (some ⟨gg, 0, none⟩) um cp] rfl
      obtain ⟨wb, hwb⟩ : ∃ W, W = wr.alloc (.cells #[.int .i64 f, .slice (some ⟨gg, 0, none⟩) um cp] 53) := ⟨_, rfl⟩
      rw [← hwb] at hOb hIb honb hBb hXb
      have HWB := Lib.hid hwb
      clear hwb
      go_wp2
      rw [← HWB.out]
      clear HWB hO hI hon hB c1 s0 s1
      go_loopg [7, 21] um (fun g2 v0 i0 wi => ∃ (j m2 : Nat) (p : List Bool) (L2 : List Int) (v : Value) (rs2 : List R), j + g2 = um ∧ v = v0 ∧ i0 = .int .i64 j ∧ p.length = j ∧ L2.length = m2 ∧ m2 ≤ i * 40 + j ∧ rs2.map (·.2.2.1) = gs ∧ rs2[i]? = some (f, p ++ u.drop j, gg, cp) ∧ rs2.map sl = P ++ (f, p ++ u.drop j) :: (rs.map sl).drop (i + 1) ∧ Mid o (fun x => !F.contains x) N T P f bw j p (u.drop j) L2 ((rs.map sl).drop (i + 1)) ∧ OwnC wi base (.slice (some ⟨b, off, none⟩) n c) rs2 ∧ OwnI wi w.heap.size v L2 ∧ Only gs w wi ∧ Blk wi w.heap.size 31 [.int .i64 o, .slice (some ⟨b, off, none⟩) n c] ∧ Blk wi wr.heap.size 53 [.int .i64 f, .slice (some ⟨gg, 0, none⟩) um cp])
      case atStart => exact ⟨0, L.length, [], L, _, rs', by omega, rfl, rfl, rfl, rfl, by omega, hgs', HSI.out, HP2.out, HMid2.out, hOb, hIb, honb, hBb, hXb⟩
      case round =>
        clear hOb hIb honb hBb hXb
        obtain ⟨j, m2, p, L2, v, rs2, hj, rfl, rfl, hp, hL2, hm2, hg2, hri, hr2, hMid, hO, hI, hon, hB, hX⟩ := hrel
        have c0 : wr.cell? ⟨w.heap.size, 0, none⟩ = some (.int .i64 o) := hB.cell 0
        have c2 : wr.cell? ⟨_, 0, none⟩ = some (.int .i64 f) := hX.cell 0
        have c3 : wr.cell? ⟨_, 1, none⟩ = some (.slice (some ⟨gg, 0, none⟩) um cp) := hX.cell 1
        obtain ⟨av, cv, rfl, hv1, hv2, hv3, _⟩ := hI.ints hL2
        have hOwn := Lib.hid hO; have hIn := Lib.hid hI; have hOn := Lib.hid hon; have HMI := Lib.hid hMid; have HR2 := Lib.hid hr2; have HRI := Lib.hid hri; have HG2 := Lib.hid hg2; have HL2 := Lib.hid hL2; have HPL := Lib.hid hp
        clear hMid hr2 hri hg2 hL2 hI hon hp
        cases gk with
        | zero =>
          obtain rfl : j = um := by omega
          clear hj hO
          go_wp2
          go_roundg g
          case rel =>
            refine ⟨i + 1, L2, _, rs2, by have := HG.out; omega, rfl, by go_num, by rw [HL2.out]; omega, HG2.out, hOwn.out, ⟨P ++ [(f, p)], by rw [List.length_append, HP1.out]; rfl, ?_, ?_⟩, hIn.out, hOn.out, hB⟩
            · rw [HR2.out, List.drop_eq_nil_of_le (by rw [HM.out]; exact Nat.le_refl _)]; simp
            · have := HMI.out
              rw [List.drop_eq_nil_of_le (by rw [HM.out]; exact Nat.le_refl _)] at this
              exact this.stop
          case measure => omega
        | succ g2 =>
          have hjm : j < um := by omega
          have HJ := Lib.hid hj
          have hud : u.drop j = u.getD j false :: u.drop (j + 1) := flag_drop HM.out hjm
          obtain ⟨x, hx⟩ : ∃ x, u.getD j false = x := ⟨_, rfl⟩
          rw [hx] at hud
          have HUD := Lib.hid hud
          obtain ⟨f00, f1, hq1, hq2⟩ := hO.flag_at HRI.out (j := j) (by rw [List.length_append, HPL.out, List.length_drop, HM.out]; omega)
          have f0 : wr.cell? ⟨gg, j, none⟩ = some (.bool x) := by
            rw [f00, List.getD_eq_getElem?_getD, List.getElem?_append_right (by rw [HPL.out]; exact Nat.le_refl _), HPL.out, Nat.sub_self, hud]; rfl
          have hcall := Lib.hid (show Calls Tryz.prog 140 #[.int .i64 f, .pointer (some ⟨Y, 0, none⟩)] wr fun e w' => e = .returned (.bool bw) ∧ wr = w' from by
            have h := stale_41 base X Y fa fm fc F f wr (HE.out.only HO0.out (by rw [HGS.out]; exact hOn.out)) hm
            have e : (!F.contains f) = bw := HBW.out
            rw [e] at h
            exact h)
          clear hj hud hx hO f00 hq1 hq2
          have hN64 : (N : Int) ≤ 1000000 := by omega
          by_cases hmN : m2 < N
          · cases x with
            | true =>
              have HMs := Lib.hid (Mid.miss (x := true) (by rw [← HUD.out]; exact HMI.out) (by simp))
              go_wp2
              go_roundg g2
              case rel => exact ⟨j + 1, m2, p ++ [true], L2, _, rs2, by have := HJ.out; omega, rfl, by go_num, by rw [List.length_append, HPL.out]; rfl, HL2.out, by omega, HG2.out, by rw [HRI.out, HUD.out]; simp, by rw [HR2.out, HUD.out]; simp, HMs.out, hOwn.out, hIn.out, hOn.out, hB, hX⟩
              case measure => omega
            | false =>
              cases bw with
              | false =>
                have HMs := Lib.hid (Mid.miss (x := false) (by rw [← HUD.out]; exact HMI.out) (by simp))
                go_wp2_with (go_at_call 140; refine (hcall.out).mono ?_; rintro e w' ⟨rfl, rfl⟩)
                go_roundg g2
                case rel => exact ⟨j + 1, m2, p ++ [false], L2, _, rs2, by have := HJ.out; omega, rfl, by go_num, by rw [List.length_append, HPL.out]; rfl, HL2.out, by omega, HG2.out, by rw [HRI.out, HUD.out]; simp, by rw [HR2.out, HUD.out]; simp, HMs.out, hOwn.out, hIn.out, hOn.out, hB, hX⟩
                case measure => omega
              | true =>
                have hne1 := hB.not_own (hOwn.out.inn _ (List.mem_of_getElem? HRI.out)) (by decide)
                have hne2 := hX.not_own (hOwn.out.inn _ (List.mem_of_getElem? HRI.out)) (by decide)
                have hBs := hB.far (p := ⟨gg, j, none⟩) (fun e => hne1 (by rw [e]; rfl)) (.bool true)
                have hXs := hX.far (p := ⟨gg, j, none⟩) (fun e => hne2 (by rw [e]; rfl)) (.bool true)
                have d0 : (wr.setCell ⟨gg, j, none⟩ (.bool true)).cell? ⟨w.heap.size, 0, none⟩ = some (.int .i64 o) := hBs.cell 0
                have d2 : (wr.setCell ⟨gg, j, none⟩ (.bool true)).cell? ⟨_, 0, none⟩ = some (.int .i64 f) := hXs.cell 0
                clear hne1 hne2
                have hin2 := hOwn.out.inn _ (List.mem_of_getElem? HRI.out)
                have hIs0 : (wr.setCell ⟨gg, j, none⟩ (.bool true)).ownsRow w.heap.size 3 1 (.slice av m2 cv) m2 (L2.map (Value.int .i64)) := by
                  have h := hIn.out
                  unfold OwnI at h
                  rw [HL2.out] at h
                  exact own_flag_kept h hin2 (by decide) j _
                have hIs := own_later hIs0 (below_box (wr.setCell ⟨gg, j, none⟩ (.bool true)) (.cells #[.int .i64 (pp + (j : Int))] 3))
                have hOs0 : OwnC (wr.setCell ⟨gg, j, none⟩ (.bool true)) base (.slice (some ⟨b, off, none⟩) n c) (rs2.set i (f, p ++ true :: u.drop (j + 1), gg, cp)) := by
                  have h := hOwn.out.flag HRI.out j true
                  have e : (p ++ u.drop j).set j true = p ++ true :: u.drop (j + 1) := by
                    rw [HUD.out, List.set_append_right _ _ (by rw [HPL.out]; exact Nat.le_refl _), HPL.out, Nat.sub_self]; rfl
                  simp only [e] at h
                  exact h
                have hOs := hOs0.alloc (.cells #[.int .i64 (pp + (j : Int))] 3)
                have hons := (hOn.out.grown (grown_set wr gg j (.bool true)) (fun k hk => by cases hk; exact .inr (by rw [← HG2.out]; exact List.mem_map.2 ⟨_, List.mem_of_getElem? HRI.out, rfl⟩))).then (below_box (wr.setCell ⟨gg, j, none⟩ (.bool true)) (.cells #[.int .i64 (pp + (j : Int))] 3))
                have hBa := hBs.alloc (.cells #[.int .i64 (pp + (j : Int))] 3)
                have hXa := hXs.alloc (.cells #[.int .i64 (pp + (j : Int))] 3)
                have HIS := Lib.hid hIs; have HOS := Lib.hid hOs; have HONS := Lib.hid hons; have HBA := Lib.hid hBa; have HXA := Lib.hid hXa
                have HMs := Lib.hid (Mid.hit (by rw [← HUD.out]; exact HMI.out) (by rw [HL2.out]; exact hmN))
                clear hin2 hIs0 hIs hOs0 hOs hons hBa hXa hBs hXs hB hX
                have hsrc := src_new (wr.setCell ⟨gg, j, none⟩ (.bool true)) #[.int .i64 (pp + (j : Int))] 3 1 1 1 rfl (by simp [Value.oneCell'])
                rw [show (wr.setCell ⟨gg, j, none⟩ (.bool true)).heap.size = wr.heap.size by simp [World.setCell]] at hsrc
                have HSRC := Lib.hid hsrc
                clear hsrc
                have hp := HPP.out
                have e1 : IntKind.i64.wrap pp = pp := IntWalk.i64_in _ (by omega)
                have e2 : IntKind.i64.wrap (pp + (j : Int)) = pp + (j : Int) := IntWalk.i64_in _ (by omega)
                go_wp2_with (first | (go_at_call 140; refine (hcall.out).mono ?_; rintro e w' ⟨rfl, rfl⟩) | (at_builtin; refine wpList_append_k K31 rfl (.tmp 46) (.tmp 54) rfl _ m2 (L2.map (Value.int .i64)) rfl HIS.out _ 1 1 _ rfl HSRC.out ?c1 ?c2 ?_))
                case c1 => omega
                case c2 => exact HONS.out.size
                intro v3 w3 hown hgrow _
                have hI3 : OwnI w3 w.heap.size v3 (L2 ++ [f * o + (j : Int)]) := by
                  unfold OwnI
                  rw [List.map_append, List.length_append, HL2.out, HPP.out]
                  exact hown
                have hO3 : OwnC w3 base (.slice (some ⟨b, off, none⟩) n c) (rs2.set i (f, p ++ true :: u.drop (j + 1), gg, cp)) :=
                  ⟨HOS.out.out.kept hgrow (inner_ne_outer HOS.out.out HIS.out (by decide)), fun r hr => (HOS.out.inn r hr).kept hgrow (inner_ne_outer (HOS.out.inn r hr) HIS.out (by decide)), HOS.out.nod⟩
                have hon3 : Only gs w w3 := HONS.out.grown hgrow (fun k hk => .inl (World.ownsRow.lt HIS.out k hk).1)
                have hB3 := HBA.out.grown hgrow (HBA.out.not_own HIS.out (by decide))
                have hX3 := HXA.out.grown hgrow (HXA.out.not_own HIS.out (by decide))
                clear hown hgrow d0 d2
                go_wp2
                go_roundg g2
                case rel =>
                  refine ⟨j + 1, m2 + 1, p ++ [true], L2 ++ [f * o + (j : Int)], _, _, by have := HJ.out; omega, rfl, by go_num, by rw [List.length_append, HPL.out]; rfl, by rw [List.length_append, HL2.out]; rfl, by omega, ?_, ?_, ?_, HMs.out, hO3, hI3, hon3, hB3, hX3⟩
                  · rw [List.map_set]
                    show (rs2.map (·.2.2.1)).set i gg = gs
                    have h1 : (rs2.map (·.2.2.1))[i]? = some gg := by rw [List.getElem?_map, HRI.out]; rfl
                    rw [HG2.out] at h1 ⊢
                    exact set_same h1
                  · have hlt : i < rs2.length := by have := HRI.out; rw [List.getElem?_eq_some_iff] at this; exact this.1
                    rw [List.getElem?_set_self hlt]; simp
                  · rw [List.map_set, HR2.out, List.set_append_right _ _ (by rw [HP1.out]; exact Nat.le_refl _), HP1.out, Nat.sub_self]
                    simp [sl]
                case measure => omega
          · have HMs := Lib.hid (Mid.miss (x := x) (by rw [← HUD.out]; exact HMI.out) (by rw [HL2.out]; simp [hmN]))
            go_wp2
            go_roundg g2
            case rel => exact ⟨j + 1, m2, p ++ [x], L2, _, rs2, by have := HJ.out; omega, rfl, by go_num, by rw [List.length_append, HPL.out]; rfl, HL2.out, by omega, HG2.out, by rw [HRI.out, HUD.out]; simp, by rw [HR2.out, HUD.out]; simp, HMs.out, hOwn.out, hIn.out, hOn.out, hB, hX⟩
            case measure => omega
end Go.Proofs.YtdddkfpcbfgocaaGreat.Sb
namespace Go.Proofs.YtdddkfpcbfgocaaGreat.Sb
open Go.RowKit Go.Over Go.Slb Go.Seg Go.Grow
theorem made_bools (n : Nat) : (madeCells (Value.bool false).cells (n * 1)).toList = (List.replicate n false).map Value.bool := by
  simp only [madeCells, Nat.mul_one, Value.cells, Array.toList_map, Array.toList_range, List.map_replicate]
  apply List.ext_getElem
  · simp
  · intro i h1 h2
    simp [Nat.mod_one]
/-- New flags, all false. -/
theorem wpList_make_bools (w : World) {ops : Array Oper} {rest : List Oper} {x : Oper} {a : Act} {Q : Exit → Act → World → Prop} (hg : x.guard = none) (l c : Operand) (hop : x.op = Op.makeSlice 51 l c) (kl kc : IntKind) (o : Int) (base n : Nat)
    (hl : a.eval l = .int kl o) (hc : a.eval c = .int kc o) (ho : o = (n : Int)) (hn : n ≤ 1000) (hb : base ≤ w.heap.size)
    (hK : ∀ w', w'.ownsRow base 4 1 (.slice (some ⟨w.heap.size, 0, none⟩) n n) n ((List.replicate n false).map Value.bool) → w.grownBy w' none → wpList Tryz.prog ops Q rest (a.put x.dst (.slice (some ⟨w.heap.size, 0, none⟩) n n)) w') :
    wpList Tryz.prog ops Q (x :: rest) a w := by
  obtain ⟨i, hi, hz0, hz1, hz2⟩ := info_parts (show (Tryz.prog.info? 4).map (fun i => (i.zero, i.size, i.bytes)) = some (some (.bool false), 1, 1) by kernel_rfl)
  refine wpList_make_full w hg l c 51 hop base 4 i (.bool false) 1 Tryz.underlying51 hi hz0 hz1 kl kc o o n hl hc ho ho (by rw [hz2]; omega) (by unfold maxLen; omega) hb ?_
  rw [made_bools]
  exact hK
/-- The results of a function whose first result is a struct in a cell. -/
theorem results_cell_two {fn : Func} {p q r : Tmp} (h : fn.results = #[.cell p 31, .tmp q, .tmp r]) (tmps : Array Value) (w : World) (g : Nat) (x y v z : Value)
    (hp : tmps.getD p undef = .pointer (some ⟨g, 0, none⟩)) (hg : Blk w g 31 [x, y]) (hv : tmps.getD q undef = v) (hz : tmps.getD r undef = z) :
    (results fn tmps).run Tryz.prog w = .ok (.tuple #[.agg #[x, y], v, z]) w := by
  have hp' : tmps[p]?.getD undef = .pointer (some ⟨g, 0, none⟩) := by simpa using hp
  have hv' : tmps[q]?.getD undef = v := by simpa using hv
  have hz' : tmps[r]?.getD undef = z := by simpa using hz
  have hl := run_loadVar_row (P := Tryz.prog) w g 31 31 #[x, y] (0, 0) _ hg Tryz.underlying31 rfl (by kernel_rfl)
  simp [results, h, hp', hv', hz', asAddr, hl]
/-- What allocation and its reference give. -/
def AllocAns (base : Nat) (o : Int) (p : Int × List S × List Int) (w : World) (e : Ending) (w' : World) : Prop :=
  ∃ V rs v, e = .returned (.tuple #[.agg #[.int .i64 (if p.1 = 0 then o else 0), V], v, .int .i64 p.1]) ∧ OwnC w' base V rs ∧ rs.map sl = p.2.1 ∧ OwnI w' base v p.2.2 ∧ Below w.heap.size w w'
theorem ans_err {base : Nat} {o r : Int} {p : Int × List S × List Int} {w w' : World} {e : Ending} (hp : p = (r, [], [])) (hr : r ≠ 0) (he : e = .returned (.tuple #[.agg #[.int .i64 0, .slice none 0 0], .slice none 0 0, .int .i64 r])) (hb : Below w.heap.size w w') : AllocAns base o p w e w' := by
  subst hp
  refine ⟨.slice none 0 0, [], .slice none 0 0, ?_, OwnC.nil _ _, rfl, World.ownsRow_nil _ _ _ _, hb⟩
  rw [he, if_neg hr]
/-- What the slabs are while new ones come in. -/
structure Good (o : Int) (L : List S) : Prop where
  asc : Asc (-1) L
  fr : ∀ s ∈ L, 0 ≤ s.1 ∧ s.1 < 256
  len : ∀ s ∈ L, (s.2.length : Int) = o
theorem Good.ins {o : Int} {L : List S} (h : Good o L) {f : Int} (ho : 0 ≤ o) (h0 : 0 ≤ f) (h1 : f < 256) (hf : hasF f L = false) : Good o (ins (Slb.fresh o f) L) := by
  refine ⟨asc_ins h.asc (by show (-1 : Int) < f; omega) hf, fun s hs => ?_, fun s hs => ?_⟩
  · rcases mem_ins.1 hs with rfl | hs
    · exact ⟨h0, h1⟩
    · exact h.fr s hs
  · rcases mem_ins.1 hs with rfl | hs
    · show ((List.replicate o.toNat false).length : Int) = o
      rw [List.length_replicate]; omega
    · exact h.len s hs
theorem Good.count {o : Int} {L : List S} (h : Good o L) : L.length ≤ 256 := by
  have := asc_count h.asc (fun s hs => (h.fr s hs).2) (by omega)
  omega
theorem addF_step {o : Int} {F : List Int} {i n : Nat} {L : List S} (hn : F.length = n) (h : i < n) : addF o (F.drop i) L = if F.getD i 0 < 0 ∨ 256 ≤ F.getD i 0 then (2, []) else if hasF (F.getD i 0) L = true then (7, []) else addF o (F.drop (i + 1)) (ins (Slb.fresh o (F.getD i 0)) L) := by
  rw [ints_drop hn h]; rfl
theorem addF_fst {o : Int} : ∀ {F : List Int} {L : List S}, (addF o F L).1 ≠ 0 → addF o F L = ((addF o F L).1, [])
  | [], L, h => absurd rfl h
  | f :: r, L, h => by
    have e : addF o (f :: r) L = if f < 0 ∨ 256 ≤ f then (2, []) else if hasF f L = true then (7, []) else addF o r (ins (Slb.fresh o f) L) := rfl
    rw [e] at h ⊢
    split
    · rfl
    · split
      · rfl
      · rename_i h1 h2
        rw [if_neg h1, if_neg h2] at h
        exact addF_fst h
theorem alloc_bad {o : Int} {l : List S} {n : Int} {F : List Int} (h : ¬ check o l = 0) : allocP o l n F = (check o l, [], []) := by unfold allocP; rw [if_pos h]
theorem alloc_arg {o : Int} {l : List S} {n : Int} {F : List Int} (h : check o l = 0) (h1 : n < 1 ∨ (F.length : Int) ≠ needL o l n) : allocP o l n F = (1, [], []) := by unfold allocP; rw [if_neg (by simp [h]), if_pos h1]
theorem alloc_add {o : Int} {l : List S} {n r : Int} {F : List Int} (h : check o l = 0) (h1 : ¬ (n < 1 ∨ (F.length : Int) ≠ needL o l n)) (hr : r ≠ 0) (h2 : addF o F l = (r, [])) : allocP o l n F = (r, [], []) := by
  unfold allocP; rw [if_neg (by simp [h]), if_neg h1, h2, if_pos hr]
/-- A slab of new flags goes in. -/
theorem OwnC.insert {w w' : World} {base g : Nat} {V V' : Value} {rs : List R} {f : Int} {m k : Nat} (h : OwnC w base V rs) (hin : w.ownsRow base 4 1 (.slice (some ⟨g, 0, none⟩) m m) m ((List.replicate m false).map Value.bool)) (hk : k ≤ rs.length)
    (hg : ∀ r ∈ rs, r.2.2.1 ≠ g) (hgr : w.grownBy w' V.ownBlock) (ho : w'.ownsRow base 53 2 V' (rs.length + 1) ((cellsR rs).take (k * 2) ++ [.int .i64 f, .slice (some ⟨g, 0, none⟩) m m] ++ (cellsR rs).drop (k * 2))) :
    OwnC w' base V' (rs.take k ++ (f, List.replicate m false, g, m) :: rs.drop k) := by
  have hl : (rs.take k ++ (f, List.replicate m false, g, m) :: rs.drop k).length = rs.length + 1 := by simp; omega
  have hc : cellsR (rs.take k ++ (f, List.replicate m false, g, m) :: rs.drop k) = (cellsR rs).take (k * 2) ++ [.int .i64 f, .slice (some ⟨g, 0, none⟩) m m] ++ (cellsR rs).drop (k * 2) := by
    rw [cellsR_take, cellsR_drop, cellsR_append]
    simp [cellsR, rv]
  refine h.outer hgr (by rw [hl, hc]; exact ho) (fun r hr => ?_) ?_
  · rcases List.mem_append.1 hr with hr | hr
    · exact .inl (List.mem_of_mem_take hr)
    · rcases List.mem_cons.1 hr with rfl | hr
      · right
        show w'.ownsRow base 4 1 (.slice (some ⟨g, 0, none⟩) (List.replicate m false).length m) (List.replicate m false).length _
        rw [List.length_replicate]
        exact hin.kept hgr (inner_ne_outer hin h.out (by decide))
      · exact .inl (List.mem_of_mem_drop hr)
  · have e : (rs.take k ++ (f, List.replicate m false, g, m) :: rs.drop k).map (·.2.2.1) = (rs.map (·.2.2.1)).take k ++ g :: (rs.map (·.2.2.1)).drop k := by simp [List.map_take, List.map_drop]
    rw [e]
    have hp : ((rs.map (·.2.2.1)).take k ++ g :: (rs.map (·.2.2.1)).drop k).Perm (g :: rs.map (·.2.2.1)) := by
      have := List.perm_middle (a := g) (l₁ := (rs.map (·.2.2.1)).take k) (l₂ := (rs.map (·.2.2.1)).drop k)
      rwa [List.take_append_drop] at this
    refine hp.nodup_iff.2 (List.nodup_cons.2 ⟨fun hm => ?_, h.nod⟩)
    obtain ⟨r, hr, he⟩ := List.mem_map.1 hm
    exact hg r hr he
theorem ins_map {o f : Int} {rs : List R} {p : Int} {g m k : Nat} (ha : Asc p (rs.map sl)) (hf : hasF f (rs.map sl) = false) (hk : k = below f (rs.map sl)) (hm : m = o.toNat) : (rs.take k ++ (f, List.replicate m false, g, m) :: rs.drop k).map sl = ins (Slb.fresh o f) (rs.map sl) := by
  rw [ins_eq (x := Slb.fresh o f) ha hf, hk, hm]
  simp [List.map_take, List.map_drop, sl, Slb.fresh]
theorem below_le {f : Int} {l : List S} : below f l ≤ l.length := List.countP_le_length
theorem ints_low {w : World} {a : Option Addr} {F : List Int} (h : Ints w a F) : 0 < F.length → ∀ b off, a = some ⟨b, off, none⟩ → b < w.heap.size := by
  intro h0 b off hb
  obtain ⟨b', off', h1, hc⟩ := h h0
  rw [hb] at h1; cases h1
  have := hc 0 h0
  by_cases hlt : b < w.heap.size
  · exact hlt
  · rw [Nat.add_zero] at this
    simp [World.cell?, Array.getElem?_eq_none (Nat.le_of_not_lt hlt)] at this
end Go.Proofs.YtdddkfpcbfgocaaGreat.Sb
namespace Go.Proofs.YtdddkfpcbfgocaaGreat.Sb
open Go.RowKit Go.Over Go.Slb Go.Seg Go.Grow
/-- What the walk of Alloc keeps. -/
def KeepA (w0 : World) (o : Int) (a : Option Addr) (n c : Nat) (fa : Option Addr) (fm fc : Nat) (W : World) : Prop :=
  Below w0.heap.size w0 W ∧ Blk W w0.heap.size 31 [.int .i64 o, .slice a n c] ∧ Blk W (w0.heap.size + 1) 24 [.slice fa fm fc] ∧ Blk W (w0.heap.size + 1 + 1) 31 [.int .i64 0, .slice none 0 0]
theorem KeepA.below {w0 : World} {o : Int} {a : Option Addr} {n c : Nat} {fa : Option Addr} {fm fc : Nat} {W W' : World} (h : KeepA w0 o a n c fa fm fc W) (hb : Below W.heap.size W W') : KeepA w0 o a n c fa fm fc W' :=
  ⟨below_then h.1 hb, h.2.1.later hb, h.2.2.1.later hb, h.2.2.2.later hb⟩
theorem KeepA.start (w0 : World) (o : Int) (a : Option Addr) (n c : Nat) (fa : Option Addr) (fm fc : Nat) :
    KeepA w0 o a n c fa fm fc (((w0.alloc (.cells #[.int .i64 o, .slice a n c] 31)).alloc (.cells #[.slice fa fm fc] 24)).alloc (.cells #[.int .i64 0, .slice none 0 0] 31)) := by
  refine ⟨((below_box w0 _).alloc (by simp) _).alloc (by simp; omega) _, ((Blk.new w0 31 _ _ rfl).alloc _).alloc _, ?_, ?_⟩
  · have := (Blk.new (w0.alloc (.cells #[.int .i64 o, .slice a n c] 31)) 24 #[.slice fa fm fc] [.slice fa fm fc] rfl).alloc (.cells #[.int .i64 0, .slice none 0 0] 31)
    simpa using this
  · have := Blk.new ((w0.alloc (.cells #[.int .i64 o, .slice a n c] 31)).alloc (.cells #[.slice fa fm fc] 24)) 31 #[.int .i64 0, .slice none 0 0] [.int .i64 0, .slice none 0 0] rfl
    simpa using this
theorem KeepA.cells {w0 : World} {o : Int} {a : Option Addr} {n c : Nat} {fa : Option Addr} {fm fc : Nat} {W : World} (h : KeepA w0 o a n c fa fm fc W) :
    W.cell? ⟨w0.heap.size, 0, none⟩ = some (.int .i64 o) ∧ W.cell? ⟨w0.heap.size, 1, none⟩ = some (.slice a n c) ∧ W.cell? ⟨w0.heap.size + 1, 0, none⟩ = some (.slice fa fm fc) ∧ W.cell? ⟨w0.heap.size + 1 + 1, 0, none⟩ = some (.int .i64 0) ∧ W.cell? ⟨w0.heap.size + 1 + 1, 1, none⟩ = some (.slice none 0 0) ∧ W.frozen? ⟨w0.heap.size + 1 + 1, 0, none⟩ = false ∧ W.frozen? ⟨w0.heap.size + 1 + 1, 1, none⟩ = false :=
  ⟨h.2.1.cell 0, h.2.1.cell 1, h.2.2.1.cell 0, h.2.2.2.cell 0, h.2.2.2.cell 1, h.2.2.2.frozen 0, h.2.2.2.frozen 1⟩
/-- What the operations of the insertion keep. -/
def KeepB (w0 : World) (o : Int) (a : Option Addr) (n c : Nat) (fa : Option Addr) (fm fc : Nat) (X : Nat) (V : Value) (W : World) : Prop :=
  KeepA w0 o a n c fa fm fc W ∧ Blk W X 31 [.int .i64 o, V]
theorem KeepB.below {w0 : World} {o : Int} {a : Option Addr} {n c : Nat} {fa : Option Addr} {fm fc X : Nat} {V : Value} {W W' : World} (h : KeepB w0 o a n c fa fm fc X V W) (hb : Below W.heap.size W W') : KeepB w0 o a n c fa fm fc X V W' :=
  ⟨h.1.below hb, h.2.later hb⟩
theorem KeepA.grown {w0 : World} {o : Int} {a : Option Addr} {n c : Nat} {fa : Option Addr} {fm fc : Nat} {U : Value} {W W' : World} {base m e size : Nat} {xs : List Value} (h : KeepA w0 o a n c fa fm fc W) (hg : W.grownBy W' U.ownBlock) (ho : W.ownsRow base e size U m xs) (hb : w0.heap.size ≤ base) (he : e ≠ 31 ∧ e ≠ 24) : KeepA w0 o a n c fa fm fc W' :=
  ⟨h.1.grown hg h.1.size (fun q hq => by have := (World.ownsRow.lt ho q hq).1; omega), h.2.1.grown hg (h.2.1.not_own ho he.1), h.2.2.1.grown hg (h.2.2.1.not_own ho he.2), h.2.2.2.grown hg (h.2.2.2.not_own ho he.1)⟩
theorem KeepB.grown {w0 : World} {o : Int} {a : Option Addr} {n c : Nat} {fa : Option Addr} {fm fc X : Nat} {V U : Value} {W W' : World} {base m e size : Nat} {xs : List Value} (h : KeepB w0 o a n c fa fm fc X V W) (hg : W.grownBy W' U.ownBlock) (ho : W.ownsRow base e size U m xs) (hb : w0.heap.size ≤ base) (he : e ≠ 31 ∧ e ≠ 24) : KeepB w0 o a n c fa fm fc X V W' :=
  ⟨h.1.grown hg ho hb he, h.2.grown hg (h.2.not_own ho he.1)⟩
theorem grown_none {W W' : World} (hg : W.grownBy W' none) : Below W.heap.size W W' := (Below.refl W.heap.size W).grown hg (Nat.le_refl _) (fun k hk => by cases hk)
theorem KeepA.only {w0 : World} {o : Int} {a : Option Addr} {n c : Nat} {fa : Option Addr} {fm fc : Nat} {W W' : World} {V : Value} {rs : List R} (h : KeepA w0 o a n c fa fm fc W) (hO : OwnC W w0.heap.size V rs) (ho : Only (rs.map (·.2.2.1)) W W') : KeepA w0 o a n c fa fm fc W' :=
  ⟨h.1.trans (ho.below hO.gs_low h.1.size), blk_only h.2.1 ho (hO.not_in h.2.1 (by decide)), blk_only h.2.2.1 ho (hO.not_in h.2.2.1 (by decide)), blk_only h.2.2.2 ho (hO.not_in h.2.2.2 (by decide))⟩
theorem own_only {W W' : World} {b base e size n : Nat} {v V : Value} {xs : List Value} {rs : List R} (h : W.ownsRow base e size v n xs) (hO : OwnC W b V rs) (he : e ≠ 4) (ho : Only (rs.map (·.2.2.1)) W W') : W'.ownsRow base e size v n xs := by
  refine ⟨h.1, ?_⟩
  rcases h.2 with h1 | ⟨g, cap, cur, hv, hb, hg, h2⟩
  · exact .inl h1
  · refine .inr ⟨g, cap, cur, hv, hb, ?_, h2⟩
    rw [ho.block g (by have := World.ownsRow.lt h g (by rw [hv]; rfl); exact this.2) ?_]
    · exact hg
    · have hB : Blk W g e cur.toList := by unfold Blk; simpa using hg
      exact hO.not_in hB he
theorem Env.grown {w w' : World} {base X Y : Nat} {a : Option Addr} {m c : Nat} {F : List Int} {U : Value} {b e size k : Nat} {xs : List Value} (h : Env w base X Y a m c F) (hg : w.grownBy w' U.ownBlock) (ho : w.ownsRow b e size U k xs) (hb : base ≤ b) (he : e ≠ 24 ∧ e ≠ 168) : Env w' base X Y a m c F := by
  refine ⟨h.bx.grown hg (h.bx.not_own ho he.1), h.fy.grown hg (h.fy.not_own ho he.2), ?_, h.len, h.low, Nat.le_trans h.base hg.size⟩
  intro h0
  obtain ⟨b', off, rfl, hc⟩ := h.ints h0
  refine ⟨b', off, rfl, fun i hi => ?_⟩
  have hbl : Below base w w' := (Below.refl base w).grown hg h.base (fun q hq => by have := (World.ownsRow.lt ho q hq).1; omega)
  rw [hbl.cell (h.low h0 b' off rfl)]; exact hc i hi
theorem ints_src {w : World} {a : Option Addr} {u : List Int} {n c : Nat} (H : Ints w a u) (hn : u.length = n) (hz : a = none → n = 0 ∧ c = 0) : Grow.Src w 1 a n c (u.map (Value.int .i64)) := by
  refine ⟨by simp [hn], fun v hv => by obtain ⟨x, _, rfl⟩ := List.mem_map.1 hv; rfl, ?_⟩
  cases a with
  | none => exact .inl ⟨rfl, (hz rfl).1, (hz rfl).2⟩
  | some ad =>
    refine .inr ⟨ad, rfl, ?_⟩
    rcases Nat.eq_zero_or_pos u.length with h0 | h0
    · intro j v hj
      rw [List.eq_nil_of_length_eq_zero h0] at hj
      simp at hj
    · obtain ⟨b, off, ha, hcell⟩ := H h0
      cases ha
      intro j v hj
      rw [List.getElem?_map] at hj
      cases hu : u[j]? with
      | none => rw [hu] at hj; cases hj
      | some x =>
        rw [hu] at hj; cases hj
        have hlt : j < u.length := by rw [List.getElem?_eq_some_iff] at hu; exact hu.1
        rw [add_row, hcell j hlt, List.getD_eq_getElem?_getD, hu]; rfl
theorem alloc_ok {o : Int} {l L : List S} {n : Int} {F : List Int} (h : check o l = 0) (h1 : ¬ (n < 1 ∨ (F.length : Int) ≠ needL o l n)) (h2 : addF o F l = (0, L)) :
    allocP o l n F = (0, (tk o (fun f => F.contains f) (n.toNat - (tk o (fun f => !F.contains f) n.toNat L).2.length) (tk o (fun f => !F.contains f) n.toNat L).1).1,
    (tk o (fun f => !F.contains f) n.toNat L).2 ++ (tk o (fun f => F.contains f) (n.toNat - (tk o (fun f => !F.contains f) n.toNat L).2.length) (tk o (fun f => !F.contains f) n.toNat L).1).2) := by
  unfold allocP; rw [if_neg (by simp [h]), if_neg h1, h2, if_neg (by simp)]
theorem mul_small2 {x o : Int} (h1 : 0 ≤ x) (h2 : x ≤ 1000) (h3 : 0 ≤ o) (h4 : o ≤ 32) : 0 ≤ x * o ∧ x * o ≤ 32000 := by
  refine ⟨Int.mul_nonneg h1 h3, ?_⟩
  have a1 := Int.mul_le_mul_of_nonneg_right (show x ≤ 1000 by omega) h3
  omega
theorem good_small {o : Int} {L : List S} (h : Good o L) (h1 : 1 ≤ o) (h2 : o ≤ 32) : Small o L :=
  ⟨by omega, h2, by have := h.count; omega, h.fr, fun s hs => by have := h.len s hs; omega⟩
/-- What the operations of the last region keep. -/
def KeepF (w0 : World) (o : Int) (fa : Option Addr) (fm fc : Nat) (F : List Int) (X Y : Nat) (V : Value) (W : World) : Prop :=
  Below w0.heap.size w0 W ∧ Blk W X 31 [.int .i64 o, V] ∧ Env W w0.heap.size (w0.heap.size + 1) Y fa fm fc F
theorem KeepF.below {w0 : World} {o : Int} {fa : Option Addr} {fm fc : Nat} {F : List Int} {X Y : Nat} {V : Value} {W W' : World} (h : KeepF w0 o fa fm fc F X Y V W) (hb : Below W.heap.size W W') : KeepF w0 o fa fm fc F X Y V W' :=
  ⟨below_then h.1 hb, h.2.1.later hb, h.2.2.later hb⟩
theorem KeepF.only {w0 : World} {o : Int} {fa : Option Addr} {fm fc : Nat} {F : List Int} {X Y : Nat} {V U : Value} {W W' : World} {rs : List R} (h : KeepF w0 o fa fm fc F X Y V W) (hO : OwnC W w0.heap.size U rs) (ho : Only (rs.map (·.2.2.1)) W W') : KeepF w0 o fa fm fc F X Y V W' :=
  ⟨h.1.trans (ho.below hO.gs_low h.1.size), blk_only h.2.1 ho (hO.not_in h.2.1 (by decide)), h.2.2.only hO ho⟩
theorem KeepF.grown {w0 : World} {o : Int} {fa : Option Addr} {fm fc : Nat} {F : List Int} {X Y : Nat} {V U : Value} {W W' : World} {k : Nat} {xs : List Value} (h : KeepF w0 o fa fm fc F X Y V W) (hg : W.grownBy W' U.ownBlock) (ho : W.ownsRow w0.heap.size 3 1 U k xs) : KeepF w0 o fa fm fc F X Y V W' :=
  ⟨h.1.grown hg h.1.size (fun q hq => (World.ownsRow.lt ho q hq).1), h.2.1.grown hg (h.2.1.not_own ho (by decide)), h.2.2.grown hg ho (Nat.le_refl _) (by decide)⟩
theorem own_far {w : World} {base e size n g : Nat} {v : Value} {xs cs : List Value} {t : TypeId} (h : w.ownsRow base e size v n xs) (hg : Blk w g t cs) (h1 : e ≠ t) (i : Nat) (u : Value) : (w.setCell ⟨g, i, none⟩ u).ownsRow base e size v n xs :=
  h.kept (grown_set w g i u) (.inr (hg.not_own h h1))
theorem Env.far {w : World} {base X Y g : Nat} {a : Option Addr} {m c : Nat} {F : List Int} {t : TypeId} {cs : List Value} (h : Env w base X Y a m c F) (hg : Blk w g t cs) (i : Nat) (u : Value) (ht : t ≠ 24 ∧ t ≠ 168 := by decide) (hb : base ≤ g := by omega) : Env (w.setCell ⟨g, i, none⟩ u) base X Y a m c F := by
  refine ⟨h.bx.far (fun e => (h.bx.ne_type hg (Ne.symm ht.1)) e) _, h.fy.far (fun e => (h.fy.ne_type hg (Ne.symm ht.2)) e) _, ?_, h.len, h.low, Nat.le_trans h.base (grown_set w g i u).size⟩
  intro h0
  obtain ⟨b', off, rfl, hc⟩ := h.ints h0
  refine ⟨b', off, rfl, fun j hj => ?_⟩
  have hbl : Below base w (w.setCell ⟨g, i, none⟩ u) := (Below.refl base w).setCell hb _
  rw [hbl.cell (h.low h0 b' off rfl)]; exact hc j hj
set_option maxRecDepth 100000 in set_option maxHeartbeats 3200000 in
theorem alloc_19 (o : Int) (a : Option Addr) (l : List S) (n c : Nat) (N : Int) (fa : Option Addr) (F : List Int) (fm fc : Nat) (w : World) (H : Slabs w a l) (hn : l.length = n) (hm : n ≤ 1000000) (hN1 : -9223372036854775808 ≤ N) (hN2 : N ≤ 9223372036854775807) (HF : Ints w fa F) (hfm : F.length = fm) (hf1 : fm ≤ 1000) :
    Calls Tryz.prog 79 #[.agg #[.int .i64 o, .slice a n c], .int .i64 N, .slice fa fm fc] w (AllocAns w.heap.size o (allocP o l N F) w) := by
  have HN := Lib.hid hn; have HFM := Lib.hid hfm
  have hK0 := KeepA.start w o a n c fa fm fc
  obtain ⟨w1, hw1⟩ : ∃ W, W = (((w.alloc (.cells #[.int .i64 o, .slice a n c] 31)).alloc (.cells #[.slice fa fm fc] 24)).alloc (.cells #[.int .i64 0, .slice none 0 0] 31)) := ⟨_, rfl⟩
  rw [← hw1] at hK0
  have hck := Lib.hid (check_16 o a l n c w1 (H.below hK0.1) hn hm)
  obtain ⟨R, hR⟩ : ∃ R, check o l = R := ⟨_, rfl⟩
  rw [hR] at hck
  have HR := Lib.hid hR; have HW := Lib.hid hw1
  clear hn hfm hw1 hR
  go_enter Tryz.func79, Tryz.ntmps79
  go_wp2_with fail
  rw [← HW.out]
  obtain ⟨k0, k1, k2, k3, k4, k5, k6⟩ := hK0.cells
  have HK0 := Lib.hid hK0
  clear HW hK0
  go_wp2_with fail
  refine (hck.out).mono ?_
  rintro e w2 ⟨rfl, hb2⟩
  have hK2 := HK0.out.below hb2
  clear k0 k1 k2 k3 k4 k5 k6 HK0 hck hb2
  obtain ⟨k0, k1, k2, k3, k4, k5, k6⟩ := hK2.cells
  by_cases hR0 : R = 0
  · subst hR0
    have hok := check_ok.1 HR.out
    by_cases hN : N < 1
    · go_wp2_with fail
      refine wp_region_over (by kernel_rfl) (by kernel_rfl) ?_
      have q0 := fun u => over_cell k0 u
      repeat (go_big_quiet_step (fail))
      refine wpQuiet_nil ?_
      rintro _ ⟨u, rfl⟩
      have hK3 := hK2.below (below_over w2 u)
      clear k0 k1 k2 k3 k4 k5 k6 q0
      obtain ⟨k0, k1, k2, k3, k4, k5, k6⟩ := hK3.cells
      go_wp2
      have hB := (hK3.2.2.2.set 0 (.int .i64 0)).set 1 (.slice none 0 0)
      refine bodyPost_ret (results_cell_two rfl _ _ (w.heap.size + 1 + 1) (.int .i64 0) (.slice none 0 0) (.slice none 0 0) (.int .i64 1) rfl hB rfl rfl) rfl (ans_err (alloc_arg HR.out (.inl hN)) (by decide) rfl ?_)
      exact (hK3.1.setCell (by simp; omega) _).setCell (by simp; omega) _
    · have hnd := fun u => need_29 o a l n c N (over w2 u) (H.below (below_then hK2.1 (below_over w2 u))) HN.out hm hN1 hN2
      obtain ⟨ND, hND⟩ : ∃ v, needL o l N = v := ⟨_, rfl⟩
      rw [hND] at hnd
      obtain ⟨r, hr⟩ : ∃ r, ((fm : Int) == ND) = r := ⟨_, rfl⟩
      have HNE := Lib.hid hND; have HRR := Lib.hid hr
      have hN' : decide (N < 1) = false := by simpa using hN
      go_wp2_with fail
      refine wp_region_over (by kernel_rfl) (by kernel_rfl) ?_
      have q0 := fun u => over_cell k0 u
      have q1 := fun u => over_cell k1 u
      have q2 := fun u => over_cell k2 u
      repeat (go_big_quiet_step ((go_at_call 78; exact calls_over (hnd _))))
      refine wpQuiet_nil ?_
      rintro _ ⟨u, rfl⟩
      have hK3 := hK2.below (below_over w2 u)
      clear k0 k1 k2 k3 k4 k5 k6 q0 q1 q2 hnd
      obtain ⟨w3, hw3⟩ : ∃ W, W = over w2 u := ⟨_, rfl⟩
      rw [← hw3] at hK3 ⊢
      clear hw3 hK2
      obtain ⟨k0, k1, k2, k3, k4, k5, k6⟩ := hK3.cells
      cases r with
      | false =>
        have t2 : ((fm : Int) != ND) = true := by have := HRR.out; simpa using this
        go_wp2
        have hB := (hK3.2.2.2.set 0 (.int .i64 0)).set 1 (.slice none 0 0)
        refine bodyPost_ret (results_cell_two rfl _ _ (w.heap.size + 1 + 1) (.int .i64 0) (.slice none 0 0) (.slice none 0 0) (.int .i64 1) rfl hB rfl rfl) rfl (ans_err (alloc_arg HR.out (.inr (by have := HRR.out; rw [HFM.out, HNE.out]; simpa using this))) (by decide) rfl ?_)
        exact (hK3.1.setCell (by simp; omega) _).setCell (by simp; omega) _
      | true =>
        have t2 : ((fm : Int) != ND) = false := by have := HRR.out; simpa using this
        have HArg := Lib.hid (show ¬ (N < 1 ∨ (F.length : Int) ≠ needL o l N) by
          have := HRR.out
          rw [HFM.out, HNE.out]
          simp at this
          omega)
        have hcl := Lib.hid (clone_35 o a l n c w3 (H.below hK3.1) HN.out (by have := ok_count hok; have := HN.out; omega) (fun s hs => by
          have h1 := hok.len s hs; have h2 := hok.o1; have h3 := hok.o2
          omega))
        clear hr hND
        go_wp2_with fail
        refine (hcl.out).mono ?_
        rintro e w4 ⟨V, rs, rfl, hO, hrs, hb4⟩
        have hK4 := hK3.below hb4
        have hzw := hK3.1.size
        have hO := hO.weaken hzw
        obtain ⟨aV, cV, rfl, _, _, _, _⟩ := hO.slabs (n := n) (by have := congrArg List.length hrs; rw [List.length_map] at this; rw [this]; exact HN.out)
        clear k0 k1 k2 k3 k4 k5 k6 hcl hb4 hzw t2 hK3 hN'
        have hK5 := hK4.below (below_box w4 (.cells #[.int .i64 o, .slice aV n cV] 31))
        have hO5 := hO.alloc (.cells #[.int .i64 o, .slice aV n cV] 31)
        have hX5 := Blk.new w4 31 #[.int .i64 o, .slice aV n cV] [.int .i64 o, .slice aV n cV] rfl
        obtain ⟨w5, hw5⟩ : ∃ W, W = w4.alloc (.cells #[.int .i64 o, .slice aV n cV] 31) := ⟨_, rfl⟩
        rw [← hw5] at hK5 hO5 hX5
        have hX9 := Lib.hid (And.intro hK4.1.size hK4.2.2.2.lt)
        have h0 := Lib.hid (show Good o (rs.map sl) by rw [hrs]; exact ⟨hok.asc, hok.fr, hok.len⟩)
        have HRS := Lib.hid hrs
        have HW5 := Lib.hid hw5
        have k2 : (w4.alloc (.cells #[.int .i64 o, .slice aV n cV] 31)).cell? ⟨w.heap.size + 1, 0, none⟩ = some (.slice fa fm fc) := by rw [← hw5]; exact hK5.cells.2.2.1
        clear hw5 hO hK4 hrs
        go_wp2
        rw [← HW5.out]
        clear HW5
        have ho1 := hok.o1
        have ho2 := hok.o2
        obtain ⟨m, hmo⟩ : ∃ m : Nat, o = (m : Int) := ⟨o.toNat, by omega⟩
        have HMO := Lib.hid hmo
        clear hmo
        go_loopg [38] fm (fun g i0 wr => ∃ (i : Nat) (V : Value) (rs2 : List R), i + g = fm ∧ i0 = .int .i64 i ∧ KeepA w o a n c fa fm fc wr ∧ Blk wr w4.heap.size 31 [.int .i64 o, V] ∧ OwnC wr w.heap.size V rs2 ∧ Good o (rs2.map sl) ∧ addF o F l = addF o (F.drop i) (rs2.map sl))
        case atStart => exact ⟨0, _, rs, by omega, rfl, hK5, hX5, hO5, h0.out, by rw [HRS.out]; rfl⟩
        case round =>
          clear hK5 hX5 hO5 k2
          obtain ⟨i, V, rs2, hg, rfl, hK, hX, hO, hG, hA⟩ := hrel
          obtain ⟨aV, cV, rfl, _, _, _, _⟩ := hO.slabs rfl
          have HG := Lib.hid hG; have HA := Lib.hid hA; have HOw := Lib.hid hO
          clear hG hA
          obtain ⟨k0, k1, k2, k3, k4, k5, k6⟩ := hK.cells
          have x0 : wr.cell? ⟨w4.heap.size, 0, none⟩ = some (.int .i64 o) := hX.cell 0
          have x1 : wr.cell? ⟨w4.heap.size, 1, none⟩ = some (.slice aV rs2.length cV) := hX.cell 1
          cases gk with
          | zero =>
            obtain rfl : i = fm := by omega
            have HADD := Lib.hid (show addF o F l = (0, rs2.map sl) by rw [HA.out, List.drop_eq_nil_of_le (by rw [HFM.out]; exact Nat.le_refl _)]; rfl)
            obtain ⟨M, hM⟩ : ∃ M : Nat, (M : Int) = N := ⟨N.toNat, by omega⟩
            have HM := Lib.hid hM
            have hM6 := Lib.hid (show M ≤ 1000000 by
              have h1 := need_bounds hok (show 1 ≤ N by omega)
              have h2 := free_bound hok
              have h3 := HArg.out
              have h4 : needL o l N = (i : Int) := by rw [HFM.out] at h3; omega
              rw [h4] at h1
              have h5 := mul_small2 (x := (i : Int)) (o := o) (by omega) (by omega) (by omega) ho2
              omega)
            have hKs := hK.below (below_box wr (.cells #[.func (.func 138) #[] #[.pointer (some ⟨w.heap.size + 1, 0, none⟩)]] 168))
            have hXs := hX.alloc (.cells #[.func (.func 138) #[] #[.pointer (some ⟨w.heap.size + 1, 0, none⟩)]] 168)
            have hOs := hO.alloc (.cells #[.func (.func 138) #[] #[.pointer (some ⟨w.heap.size + 1, 0, none⟩)]] 168)
            have hYs := Blk.new wr 168 #[.func (.func 138) #[] #[.pointer (some ⟨w.heap.size + 1, 0, none⟩)]] [.func (.func 138) #[] #[.pointer (some ⟨w.heap.size + 1, 0, none⟩)]] rfl
            obtain ⟨ws, hws⟩ : ∃ W, W = wr.alloc (.cells #[.func (.func 138) #[] #[.pointer (some ⟨w.heap.size + 1, 0, none⟩)]] 168) := ⟨_, rfl⟩
            rw [← hws] at hKs hXs hOs hYs
            have hEs : Env ws w.heap.size (w.heap.size + 1) wr.heap.size fa i fc F := ⟨hKs.2.2.1, hYs, HF.below hKs.1, HFM.out, ints_low HF, hKs.1.size⟩
            have htk := take_140 w.heap.size (w.heap.size + 1) wr.heap.size fa i fc F o aV rs2.length cV rs2 M ws hEs (by omega) hOs rfl (good_small HG.out ho1 ho2) hM6.out
            rw [HM.out] at htk
            have HTK := Lib.hid htk; have HWS := Lib.hid hws
            clear hg htk hws hM hO hYs
            have y0 : (wr.alloc (.cells #[.func (.func 138) #[] #[.pointer (some ⟨w.heap.size + 1, 0, none⟩)]] 168)).cell? ⟨w4.heap.size, 0, none⟩ = some (.int .i64 o) := by rw [← HWS.out]; exact hXs.cell 0
            have y1 : (wr.alloc (.cells #[.func (.func 138) #[] #[.pointer (some ⟨w.heap.size + 1, 0, none⟩)]] 168)).cell? ⟨w4.heap.size, 1, none⟩ = some (.slice aV rs2.length cV) := by rw [← HWS.out]; exact hXs.cell 1
            go_wp2_with fail
            rw [← HWS.out]
            refine (HTK.out).mono ?_
            rintro e w6 ⟨v, rs3, rfl, hO3, hrs3, hgs3, hI3, hon3⟩
            have hK6 := hKs.only hOs hon3
            have hX6 := blk_only hXs hon3 (hOs.not_in hXs (by decide))
            have hE6 := hEs.only hOs hon3
            have hlen3 : rs3.length = rs2.length := by
              have := congrArg List.length hgs3
              rwa [List.length_map, List.length_map] at this
            obtain ⟨L1, hL1⟩ : ∃ L, (tk o (fun x => !F.contains x) M (rs2.map sl)).2 = L := ⟨_, rfl⟩
            obtain ⟨m1, hm1⟩ : ∃ k, L1.length = k := ⟨_, rfl⟩
            have hm1M : m1 ≤ M := by rw [← hm1, ← hL1, tk_two, List.length_take]; omega
            rw [hL1] at hI3
            have hI6 : w6.ownsRow w.heap.size 3 1 v m1 (L1.map (Value.int .i64)) := by
              have h := own_weaken hI3 hKs.1.size
              rw [hm1] at h
              exact h
            have hS3 : Small o (rs3.map sl) := by
              rw [hrs3]
              have hg := HG.out
              refine good_small ⟨asc_of_map hg.asc (tk_fst _ _ _ _).symm, fun s hs => ?_, tk_len _ hg.len⟩ ho1 ho2
              have h1 : s.1 ∈ (tk o (fun x => !F.contains x) M (rs2.map sl)).1.map (·.1) := List.mem_map.2 ⟨s, hs, rfl⟩
              rw [tk_fst] at h1
              obtain ⟨t, ht, hte⟩ := List.mem_map.1 h1
              have := hg.fr t ht
              rw [← hte]; exact this
            obtain ⟨a1, c1, rfl, _, _, _⟩ := own_form hI6
            have HL1 := Lib.hid hL1; have HM1 := Lib.hid hm1; have HRS3 := Lib.hid hrs3; have HS3 := Lib.hid hS3; have HLEN3 := Lib.hid hlen3
            have hB6 := hK6.2.2.2
            have hF6 : KeepF w o fa i fc F w4.heap.size wr.heap.size (.slice aV rs2.length cV) w6 := ⟨hK6.1, hX6, hE6⟩
            clear HTK HWS hKs hXs hOs hEs y0 y1 hK hX x0 x1 k0 k1 k2 k3 k4 k5 k6 hgs3 hon3 hI3 hL1 hm1 hrs3 hS3 hlen3 hK6 hX6 hE6 HOw
            go_wp2
            refine wp_region_in (KeepF w o fa i fc F w4.heap.size wr.heap.size (.slice aV rs2.length cV)) [(true, 8), (false, 1), (false, 1), (false, 1), (true, 2)] [0, 1, 2, 3, 4, 5, 6, 7, 8, 9, 10, 11, 12] 13 (by kernel_rfl) (by kernel_rfl) (KeepF.below hF6 (Below.refl _ _).drew) ?_
            intro W hW hWe
            have hOW : OwnC W w.heap.size (.slice aV rs2.length cV) rs3 := by rw [hWe]; exact hO3.later (Below.refl _ _).drew
            have hIW : W.ownsRow w.heap.size 3 1 (.slice a1 m1 c1) m1 (L1.map (Value.int .i64)) := by rw [hWe]; exact own_later hI6 (Below.refl _ _).drew
            have hBW : Blk W (w.heap.size + 1 + 1) 31 [.int .i64 0, .slice none 0 0] := by rw [hWe]; exact hB6.later (Below.refl _ _).drew
            clear hWe hO3 hI6 hB6 hF6
            simp only [wpSegsL, inOrder, List.filterMap_cons, List.filterMap_nil, List.getElem?_cons_zero, List.getElem?_cons_succ, List.take_succ_cons, List.take_zero, List.drop_succ_cons, List.drop_zero]
            have q0 := fun z => (hold_ok hW z).2.1.cell 0
            have q1 := fun z => (hold_ok hW z).2.1.cell 1
            have q2 := fun z => (hold_ok hW z).2.2.fy.cell 0
            simp only [List.getElem?_cons_zero, List.getElem?_cons_succ] at q0 q1 q2
            have hmM : (m1 : Int) ≤ N := by have := HM.out; omega
            repeat (go_big_quiet_step (fail))
            refine wpQuiet_nil ?_
            clear q0 q1 q2
            have hm2 : ((M - m1 : Nat) : Int) = N - (m1 : Int) := by have := HM.out; omega
            have ht2 := take_138 w.heap.size (w.heap.size + 1) wr.heap.size fa i fc F o aV rs2.length cV rs3 (M - m1) W hW.2.2 (by omega) hOW HLEN3.out HS3.out (by have := hM6.out; omega)
            rw [hm2] at ht2
            have HT2 := Lib.hid ht2
            clear ht2
            go_wp2_with fail
            refine (HT2.out).mono ?_
            rintro e w7 ⟨v2, rs4, rfl, hO4, hrs4, hgs4, hI4, hon4⟩
            have hF7 := hW.only hOW hon4
            have hI7 := own_only hIW hOW (by decide) hon4
            have hB7 := blk_only hBW hon4 (hOW.not_in hBW (by decide))
            obtain ⟨L2, hL2⟩ : ∃ L, (tk o (fun x => F.contains x) (M - m1) (rs3.map sl)).2 = L := ⟨_, rfl⟩
            obtain ⟨m2, hmm2⟩ : ∃ k, L2.length = k := ⟨_, rfl⟩
            have hm2M : m2 ≤ M - m1 := by rw [← hmm2, ← hL2, tk_two, List.length_take]; omega
            rw [hL2] at hI4
            obtain ⟨a2, c2, rfl, hnc2, _, hz2, hInt2⟩ := hI4.ints hmm2
            have hsrc2 := Lib.hid (ints_src (c := c2) hInt2 hmm2 (fun h => by have := hz2 h; omega))
            have HL2 := Lib.hid hL2; have HM2 := Lib.hid hmm2; have HRS4 := Lib.hid hrs4
            clear HT2 hW hOW hIW hBW hgs4 hon4 hI4 hInt2 hL2 hmm2 hrs4
            go_wp2
            refine ⟨hold_of hF7, ?_⟩
            refine wpList_append_k K31 rfl (.tmp 75) (.tmp 82) rfl _ m1 _ rfl hI7 a2 m2 c2 _ rfl hsrc2.out ?c1 ?c2 ?_
            case c1 => have := hM6.out; omega
            case c2 => exact hF7.1.size
            intro v8 w8 hown8 hg8 _
            have hF8 := hF7.grown hg8 hI7
            have hB8 := hB7.grown hg8 (hB7.not_own hI7 (by decide))
            have hO8 : OwnC w8 w.heap.size (.slice aV rs2.length cV) rs4 :=
              ⟨hO4.out.kept hg8 (inner_ne_outer hO4.out hI7 (by decide)), fun r hr => (hO4.inn r hr).kept hg8 (inner_ne_outer (hO4.inn r hr) hI7 (by decide)), hO4.nod⟩
            clear hF7 hI7 hB7 hO4 hg8
            refine wpList_nil ⟨hold_of hF8, ?_⟩
            simp only [Act.put, List.setIfInBounds_toArray, List.set_cons_succ, List.set_cons_zero]
            have d0 : w8.cell? ⟨w.heap.size + 1 + 1, 0, none⟩ = some (.int .i64 0) := hB8.cell 0
            have d1 : w8.cell? ⟨w.heap.size + 1 + 1, 1, none⟩ = some (.slice none 0 0) := hB8.cell 1
            have d2 := hB8.frozen 0
            have d3 := hB8.frozen 1
            go_wp2
            have hne1 : w4.heap.size ≠ w.heap.size + 1 + 1 := by have := hX9.out.2; omega
            have hlow9 : w.heap.size ≤ w.heap.size + 1 + 1 := by omega
            have hF9 : KeepF w o fa i fc F w4.heap.size wr.heap.size (.slice aV rs2.length cV) ((w8.setCell ⟨w.heap.size + 1 + 1, 0, none⟩ (.int .i64 o)).setCell ⟨w.heap.size + 1 + 1, 1, none⟩ (.slice aV rs2.length cV)) :=
              ⟨(hF8.1.setCell hlow9 _).setCell hlow9 _, (hF8.2.1.far hne1 _).far hne1 _, (hF8.2.2.far hB8 0 _).far (hB8.set 0 _) 1 _⟩
            refine ⟨hold_of hF9, ?_⟩
            dsimp only
            repeat (go_big_quiet_step (fail))
            refine wpQuiet_nil ?_
            refine NoPanic.normal ?_
            go_wp2
            have hB9 := (hB8.set 0 (.int .i64 o)).set 1 (.slice aV rs2.length cV)
            have hO9 := (hO8.far hB8 (by decide) (by decide) 0 (.int .i64 o)).far (hB8.set 0 (.int .i64 o)) (by decide) (by decide) 1 (.slice aV rs2.length cV)
            have hL9 := (own_far hown8 hB8 (by decide) 0 (.int .i64 o))
            have hL9 := own_far hL9 (hB8.set 0 (.int .i64 o)) (by decide) 1 (.slice aV rs2.length cV)
            refine bodyPost_ret (results_cell_two rfl _ _ (w.heap.size + 1 + 1) (.int .i64 o) (.slice aV rs2.length cV) v8 (.int .i64 0) rfl hB9 rfl rfl) rfl ?_
            have hMN : N.toNat = M := by have := HM.out; omega
            rw [alloc_ok HR.out HArg.out HADD.out, hMN, HL1.out, HM1.out, ← HRS3.out, HL2.out]
            refine ⟨_, rs4, v8, rfl, hO9, HRS4.out, ?_, hF9.1⟩
            unfold OwnI
            rw [List.map_append, List.length_append, HM1.out, HM2.out]
            exact hL9
          | succ g =>
            have hin : i < fm := by omega
            obtain ⟨b, off, rfl, hc⟩ := HF (by rw [HFM.out]; omega)
            have c0 := hc i (by rw [HFM.out]; exact hin)
            have c0 := cell_later hK.1 c0
            obtain ⟨f, hf⟩ : ∃ f, F.getD i 0 = f := ⟨_, rfl⟩
            rw [hf] at c0
            have hst := addF_step (o := o) (L := rs2.map sl) HFM.out hin
            rw [hf] at hst
            have HST := Lib.hid hst; have HGG := Lib.hid hg
            clear hc hst hf hg
            by_cases hf0 : f < 0
            · have HE := Lib.hid (show addF o F l = (2, []) by rw [HA.out, HST.out, if_pos (.inl hf0)])
              go_wp2
              have hB := (hK.2.2.2.set 0 (.int .i64 0)).set 1 (.slice none 0 0)
              refine bodyPost_ret (results_cell_two rfl _ _ (w.heap.size + 1 + 1) (.int .i64 0) (.slice none 0 0) (.slice none 0 0) (.int .i64 2) rfl hB rfl rfl) rfl (ans_err (alloc_add HR.out HArg.out (by decide) HE.out) (by decide) rfl ?_)
              exact (hK.1.setCell (by simp; omega) _).setCell (by simp; omega) _
            · by_cases hf1 : 256 ≤ f
              · have HE := Lib.hid (show addF o F l = (2, []) by rw [HA.out, HST.out, if_pos (.inr hf1)])
                go_wp2
                have hB := (hK.2.2.2.set 0 (.int .i64 0)).set 1 (.slice none 0 0)
                refine bodyPost_ret (results_cell_two rfl _ _ (w.heap.size + 1 + 1) (.int .i64 0) (.slice none 0 0) (.slice none 0 0) (.int .i64 2) rfl hB rfl rfl) rfl (ans_err (alloc_add HR.out HArg.out (by decide) HE.out) (by decide) rfl ?_)
                exact (hK.1.setCell (by simp; omega) _).setCell (by simp; omega) _
              · have hpl := Lib.hid (place_36 o aV (rs2.map sl) rs2.length cV f (-1) wr (by obtain ⟨a', c', h1, _, _, _, h2⟩ := HOw.out.slabs rfl; cases h1; exact h2) (by simp) (by have := HG.out.count; rw [List.length_map] at this; omega) HG.out.asc HG.out.fr (by omega) (by omega))
                obtain ⟨K, hk⟩ : ∃ K, below f (rs2.map sl) = K := ⟨_, rfl⟩
                obtain ⟨T, hT⟩ : ∃ T, hasF f (rs2.map sl) = T := ⟨_, rfl⟩
                rw [hk, hT] at hpl
                have HK := Lib.hid hk; have HT := Lib.hid hT
                clear hk hT
                go_wp2_with fail
                refine (hpl.out).mono ?_
                rintro e w6 ⟨rfl, hb6⟩
                have hK6 := hK.below hb6
                have hX6 := hX.later hb6
                have hO6 := hO.later hb6
                clear hK hX hO HOw k0 k1 k2 k3 k4 k5 k6 x0 x1 hpl hb6 c0
                obtain ⟨k0, k1, k2, k3, k4, k5, k6⟩ := hK6.cells
                have x0 : w6.cell? ⟨w4.heap.size, 0, none⟩ = some (.int .i64 o) := hX6.cell 0
                have x1 : w6.cell? ⟨w4.heap.size, 1, none⟩ = some (.slice aV rs2.length cV) := hX6.cell 1
                cases T with
                | true =>
                  have HE := Lib.hid (show addF o F l = (7, []) by rw [HA.out, HST.out, if_neg (by omega), if_pos HT.out])
                  go_wp2
                  have hB := (hK6.2.2.2.set 0 (.int .i64 0)).set 1 (.slice none 0 0)
                  refine bodyPost_ret (results_cell_two rfl _ _ (w.heap.size + 1 + 1) (.int .i64 0) (.slice none 0 0) (.slice none 0 0) (.int .i64 7) rfl hB rfl rfl) rfl (ans_err (alloc_add HR.out HArg.out (by decide) HE.out) (by decide) rfl ?_)
                  exact (hK6.1.setCell (by simp; omega) _).setCell (by simp; omega) _
                | false =>
                  go_wp2
                  refine wp_region_in (KeepB w o a n c (some ⟨b, off, none⟩) fm fc w4.heap.size (.slice aV rs2.length cV)) [(true, 6), (false, 1), (true, 1), (false, 1), (false, 1), (true, 1), (false, 1)] [0, 1, 2, 3, 4, 5, 6, 7, 8, 9, 10, 11] 11 (by kernel_rfl) (by kernel_rfl) (KeepB.below ⟨hK6, hX6⟩ (Below.refl _ _).drew) ?_
                  intro W hW hWe
                  have hOW : OwnC W w.heap.size (.slice aV rs2.length cV) rs2 := by rw [hWe]; exact hO6.later (Below.refl _ _).drew
                  clear hWe hO6 hK6 hX6 k0 k1 k2 k3 k4 k5 k6 x0 x1
                  simp only [wpSegsL, inOrder, List.filterMap_cons, List.filterMap_nil, List.getElem?_cons_zero, List.getElem?_cons_succ, List.take_succ_cons, List.take_zero, List.drop_succ_cons, List.drop_zero]
                  have q0 := fun z => (hold_ok hW z).1.2.1.cell 0
                  have q1 := fun z => (hold_ok hW z).2.cell 1
                  simp only [List.getElem?_cons_zero, List.getElem?_cons_succ] at q0 q1
                  repeat (go_big_quiet_step (fail))
                  refine wpQuiet_nil ?_
                  clear q0 q1
                  refine wpList_make_bools W rfl (.tmp 62) (.tmp 62) rfl .i64 .i64 o w.heap.size m rfl rfl HMO.out (by have := HMO.out; omega) hW.1.1.size ?_
                  intro w7 hin7 hg7
                  have hW7 := hW.below (grown_none hg7)
                  have hO7 := hOW.later (grown_none hg7)
                  have hsz7 := (World.ownsRow.lt hin7 _ rfl).2
                  have hrl : ∀ r ∈ rs2, r.2.2.1 ≠ W.heap.size := fun r hr => by have := (World.ownsRow.lt (hOW.inn r hr) r.2.2.1 rfl).2; omega
                  have hVX : (Value.slice aV rs2.length cV).ownBlock ≠ some w7.heap.size := fun h => by have := (World.ownsRow.lt hO7.out _ h).2; omega
                  clear hW hOW hg7
                  refine wpList_nil ⟨hold_of hW7, ?_⟩
                  simp only [Act.put, List.setIfInBounds_toArray, List.set_cons_succ, List.set_cons_zero]
                  repeat (go_big_quiet_step (fail))
                  refine wpQuiet_nil ?_
                  have hW8 := hW7.below (below_box w7 (.cells #[.int .i64 f, .slice (some ⟨W.heap.size, 0, none⟩) m m] 53))
                  have hO8 := hO7.alloc (.cells #[.int .i64 f, .slice (some ⟨W.heap.size, 0, none⟩) m m] 53)
                  have hin8 := own_later hin7 (below_box w7 (.cells #[.int .i64 f, .slice (some ⟨W.heap.size, 0, none⟩) m m] 53))
                  have hv8 := Blk.new w7 53 #[.int .i64 f, .slice (some ⟨W.heap.size, 0, none⟩) m m] [.int .i64 f, .slice (some ⟨W.heap.size, 0, none⟩) m m] rfl
                  have hkl : K ≤ rs2.length := by have := below_le (f := f) (l := rs2.map sl); rw [HK.out, List.length_map] at this; exact this
                  have hins := Lib.hid (insert_37 w.heap.size (.slice aV rs2.length cV) rs2.length K (cellsR rs2) (.int .i64 f) (.slice (some ⟨W.heap.size, 0, none⟩) m m) w7.heap.size _ hO8.out (cellsR_one rs2) hv8 rfl rfl hVX hkl (by have := HG.out.count; rw [List.length_map] at this; omega) hW8.1.1.size)
                  clear hO7 hW7 hin7 hv8 hVX
                  go_wp2
                  refine ⟨hold_of hW8, ?_⟩
                  go_wp2_with fail
                  refine (hins.out).mono ?_
                  rintro e w9 ⟨V9, rfl, hown9, hg9, _⟩
                  have hW9 := hW8.grown hg9 hO8.out (Nat.le_refl _) (by decide)
                  have hO9 := hO8.insert hin8 hkl hrl hg9 hown9
                  obtain ⟨a9, c9, rfl, _, _, _⟩ := own_form hown9
                  clear hW8 hO8 hin8 hins hown9 hg9
                  go_wp2
                  refine ⟨hold_of hW9, ?_⟩
                  dsimp only
                  repeat (go_big_quiet_step (fail))
                  refine wpQuiet_nil ?_
                  have hX9' := hW9.2
                  have d1 : w9.cell? ⟨w4.heap.size, 1, none⟩ = some (.slice aV rs2.length cV) := hX9'.cell 1
                  have d2 := hX9'.frozen 1
                  go_wp2
                  refine ⟨trivial, NoPanic.normal ?_⟩
                  go_wp2
                  go_roundg g
                  case rel =>
                    have hmap := ins_map (f := f) (rs := rs2) (g := W.heap.size) HG.out.asc HT.out HK.out.symm (show m = o.toNat by have := HMO.out; omega)
                    refine ⟨i + 1, _, _, by have := HGG.out; omega, by go_num, ⟨hW9.1.1.setCell (by exact hX9.out.1) _, hW9.1.2.1.far (by have := hX9.out.2; show w.heap.size ≠ w4.heap.size; omega) _, hW9.1.2.2.1.far (by have := hX9.out.2; show w.heap.size + 1 ≠ w4.heap.size; omega) _, hW9.1.2.2.2.far (by have := hX9.out.2; show w.heap.size + 1 + 1 ≠ w4.heap.size; omega) _⟩, hX9'.set 1 _, hO9.far hX9' (by decide) (by decide) 1 _, ?_, ?_⟩
                    · rw [hmap]; exact HG.out.ins (by omega) (by omega) (by omega) HT.out
                    · rw [HA.out, HST.out, if_neg (by omega), if_neg (by rw [HT.out]; simp), hmap]
                  case measure => omega
  · have t1 : (R == 0) = false := by simpa using hR0
    go_wp2
    have hB := (hK2.2.2.2.set 0 (.int .i64 0)).set 1 (.slice none 0 0)
    refine bodyPost_ret (results_cell_two rfl _ _ (w.heap.size + 1 + 1) (.int .i64 0) (.slice none 0 0) (.slice none 0 0) (.int .i64 R) rfl hB rfl rfl) rfl (ans_err (alloc_bad (by rw [HR.out]; exact hR0)) (by rw [HR.out]; exact hR0) (by rw [HR.out]) ?_)
    exact (hK2.1.setCell (by simp; omega) _).setCell (by simp; omega) _
end Go.Proofs.YtdddkfpcbfgocaaGreat.Sb
namespace Go.Proofs.YtdddkfpcbfgocaaGreat.Sb
open Go.RowKit Go.Over Go.Slb Go.Seg Go.Grow
def insR (x : R) : List R → List R
  | [] => [x]
  | r :: rs => if x.1 < r.1 then x :: r :: rs else r :: insR x rs
theorem insR_sl (x : R) : ∀ rs : List R, (insR x rs).map sl = ins (sl x) (rs.map sl)
  | [] => rfl
  | r :: rs => by
    have e : ins (sl x) ((r :: rs).map sl) = if x.1 < r.1 then sl x :: sl r :: rs.map sl else sl r :: ins (sl x) (rs.map sl) := rfl
    have e2 : insR x (r :: rs) = if x.1 < r.1 then x :: r :: rs else r :: insR x rs := rfl
    rw [e, e2]
    split
    · rfl
    · rw [List.map_cons, insR_sl x rs]
theorem insR_perm (x : R) : ∀ rs : List R, (insR x rs).Perm (x :: rs)
  | [] => List.Perm.refl _
  | r :: rs => by
    have e2 : insR x (r :: rs) = if x.1 < r.1 then x :: r :: rs else r :: insR x rs := rfl
    rw [e2]
    split
    · exact List.Perm.refl _
    · exact (List.Perm.cons r (insR_perm x rs)).trans (List.Perm.swap x r rs)
/-- How far the copying has come. -/
def Step (x : R) (rs : List R) (d : Bool) (qs : List R) (i : Nat) : Prop :=
  if d = true then qs ++ rs.drop i = insR x rs else qs = rs.take i ∧ insR x rs = rs.take i ++ insR x (rs.drop i)
theorem Step.start (x : R) (rs : List R) : Step x rs false [] 0 := by simp [Step]
theorem Step.put {x : R} {rs : List R} {qs : List R} {i : Nat} {r : R} (h : Step x rs false qs i) (hr : rs[i]? = some r) (hx : x.1 < r.1) : Step x rs true (qs ++ [x] ++ [r]) (i + 1) := by
  simp only [Step, Bool.false_eq_true, if_false] at h
  simp only [Step, if_true]
  rw [h.2, h.1, drop_get hr]
  have e2 : insR x (r :: rs.drop (i + 1)) = if x.1 < r.1 then x :: r :: rs.drop (i + 1) else r :: insR x (rs.drop (i + 1)) := rfl
  rw [e2, if_pos hx]; simp
theorem Step.go {x : R} {rs : List R} {d : Bool} {qs : List R} {i : Nat} {r : R} (h : Step x rs d qs i) (hr : rs[i]? = some r) (hx : d = false → ¬ x.1 < r.1) : Step x rs d (qs ++ [r]) (i + 1) := by
  cases d with
  | true =>
    simp only [Step, if_true] at h ⊢
    rw [← h, drop_get hr]; simp
  | false =>
    simp only [Step, Bool.false_eq_true, if_false] at h ⊢
    have e2 : insR x (r :: rs.drop (i + 1)) = if x.1 < r.1 then x :: r :: rs.drop (i + 1) else r :: insR x (rs.drop (i + 1)) := rfl
    have e3 : rs.take (i + 1) = rs.take i ++ [r] := by rw [List.take_add_one, hr]; rfl
    refine ⟨by rw [e3, h.1], ?_⟩
    rw [h.2, drop_get hr, e2, if_neg (hx rfl), e3]; simp
theorem Step.done {x : R} {rs : List R} {qs : List R} {n : Nat} (h : Step x rs true qs n) (hn : rs.length = n) : qs = insR x rs := by
  simp only [Step, if_true] at h
  rwa [List.drop_eq_nil_of_le (by omega), List.append_nil] at h
theorem Step.last {x : R} {rs : List R} {qs : List R} {n : Nat} (h : Step x rs false qs n) (hn : rs.length = n) : qs ++ [x] = insR x rs := by
  simp only [Step, Bool.false_eq_true, if_false] at h
  rw [h.2, h.1, List.drop_eq_nil_of_le (by omega)]; rfl
theorem Step.len {x : R} {rs : List R} {d : Bool} {qs : List R} {i n : Nat} (h : Step x rs d qs i) (hn : rs.length = n) (hi : i ≤ n) : qs.length ≤ n + 1 := by
  cases d with
  | true =>
    simp only [Step, if_true] at h
    have h1 := congrArg List.length h
    rw [List.length_append, (insR_perm x rs).length_eq, List.length_cons] at h1
    omega
  | false =>
    simp only [Step, Bool.false_eq_true, if_false] at h
    rw [h.1, List.length_take]; omega
/-- What is not in the changed blocks stays. -/
theorem own_only1 {W W' : World} {gs : List Nat} {base e size n : Nat} {v : Value} {xs : List Value} (h : W.ownsRow base e size v n xs) (ho : Only gs W W') (hn : ∀ k, v.ownBlock = some k → k ∉ gs) : W'.ownsRow base e size v n xs := by
  refine ⟨h.1, ?_⟩
  rcases h.2 with h1 | ⟨g, cap, cur, hv, hb, hg, h2⟩
  · exact .inl h1
  · refine .inr ⟨g, cap, cur, hv, hb, ?_, h2⟩
    rw [ho.block g (by have := World.ownsRow.lt h g (by rw [hv]; rfl); exact this.2) (hn g (by rw [hv]; rfl))]
    exact hg
end Go.Proofs.YtdddkfpcbfgocaaGreat.Sb
namespace Go.Proofs.YtdddkfpcbfgocaaGreat.Sb
open Go.RowKit Go.Over Go.Slb Go.Seg Go.Grow
theorem OwnC.withR {W : World} {base : Nat} {V0 V : Value} {rs : List R} {x : R} (h : OwnC W base V0 rs) (hx : W.ownsRow base 4 1 (rv x) x.2.1.length (x.2.1.map Value.bool)) (hn : ∀ r ∈ rs, r.2.2.1 ≠ x.2.2.1) (ho : W.ownsRow base 53 2 V (insR x rs).length (cellsR (insR x rs))) : OwnC W base V (insR x rs) := by
  refine ⟨ho, fun r hr => ?_, ?_⟩
  · rcases List.mem_cons.1 ((insR_perm x rs).mem_iff.1 hr) with rfl | hr
    · exact hx
    · exact h.inn r hr
  · refine ((insR_perm x rs).map (·.2.2.1)).nodup_iff.2 (List.nodup_cons.2 ⟨fun hm => ?_, h.nod⟩)
    obtain ⟨r, hr, he⟩ := List.mem_map.1 hm
    exact hn r hr he
theorem Only.cell {gs : List Nat} {w w' : World} (h : Only gs w w') {p : Addr} (hb : p.block ∉ gs) (hl : p.block < w.heap.size) : w'.cell? p = w.cell? p := World.cell?_of_block (w := w) (h.block p.block hl hb)
/-- What the operations of the copying keep. -/
def KeepW (wL : World) (X5 : Nat) (o : Int) (V : Value) (W : World) : Prop := Only [X5] wL W ∧ Blk W X5 31 [.int .i64 o, V]
theorem KeepW.below {wL : World} {X5 : Nat} {o : Int} {V : Value} {W W' : World} (h : KeepW wL X5 o V W) (hb : Below W.heap.size W W') : KeepW wL X5 o V W' := ⟨h.1.then hb, h.2.later hb⟩
theorem KeepW.grown {wL : World} {X5 : Nat} {o : Int} {V U : Value} {W W' : World} {k : Nat} {xs : List Value} (h : KeepW wL X5 o V W) (hg : W.grownBy W' U.ownBlock) (ho : W.ownsRow wL.heap.size 53 2 U k xs) : KeepW wL X5 o V W' :=
  ⟨h.1.grown hg (fun q hq => .inl (World.ownsRow.lt ho q hq).1), h.2.grown hg (h.2.not_own ho (by decide))⟩
end Go.Proofs.YtdddkfpcbfgocaaGreat.Sb
namespace Go.Proofs.YtdddkfpcbfgocaaGreat.Sb
open Go.RowKit Go.Over Go.Slb Go.Seg Go.Grow
/-- What the walk of the reference's Alloc keeps. -/
def KeepR (w0 : World) (o : Int) (a : Option Addr) (n c : Nat) (W : World) : Prop :=
  Below w0.heap.size w0 W ∧ Blk W w0.heap.size 31 [.int .i64 o, .slice a n c] ∧ Blk W (w0.heap.size + 1) 31 [.int .i64 0, .slice none 0 0]
theorem KeepR.below {w0 : World} {o : Int} {a : Option Addr} {n c : Nat} {W W' : World} (h : KeepR w0 o a n c W) (hb : Below W.heap.size W W') : KeepR w0 o a n c W' :=
  ⟨below_then h.1 hb, h.2.1.later hb, h.2.2.later hb⟩
theorem KeepR.start (w0 : World) (o : Int) (a : Option Addr) (n c : Nat) : KeepR w0 o a n c ((w0.alloc (.cells #[.int .i64 o, .slice a n c] 31)).alloc (.cells #[.int .i64 0, .slice none 0 0] 31)) := by
  refine ⟨(below_box w0 _).alloc (by simp) _, (Blk.new w0 31 _ _ rfl).alloc _, ?_⟩
  have := Blk.new (w0.alloc (.cells #[.int .i64 o, .slice a n c] 31)) 31 #[.int .i64 0, .slice none 0 0] [.int .i64 0, .slice none 0 0] rfl
  simpa using this
theorem KeepR.cells {w0 : World} {o : Int} {a : Option Addr} {n c : Nat} {W : World} (h : KeepR w0 o a n c W) :
    W.cell? ⟨w0.heap.size, 0, none⟩ = some (.int .i64 o) ∧ W.cell? ⟨w0.heap.size, 1, none⟩ = some (.slice a n c) ∧ W.cell? ⟨w0.heap.size + 1, 0, none⟩ = some (.int .i64 0) ∧ W.cell? ⟨w0.heap.size + 1, 1, none⟩ = some (.slice none 0 0) ∧ W.frozen? ⟨w0.heap.size + 1, 0, none⟩ = false ∧ W.frozen? ⟨w0.heap.size + 1, 1, none⟩ = false :=
  ⟨h.2.1.cell 0, h.2.1.cell 1, h.2.2.cell 0, h.2.2.cell 1, h.2.2.frozen 0, h.2.2.frozen 1⟩
theorem allocR_bad {o : Int} {l : List S} {n : Int} {F : List Int} (h : ¬ check o l = 0) : allocR o l n F = (check o l, [], []) := by unfold allocR; rw [if_pos h]
theorem allocR_arg {o : Int} {l : List S} {n : Int} {F : List Int} (h : check o l = 0) (h1 : n < 1 ∨ (F.length : Int) ≠ needL o l n) : allocR o l n F = (1, [], []) := by unfold allocR; rw [if_neg (by simp [h]), if_pos h1]
theorem allocR_add {o : Int} {l : List S} {n r : Int} {F : List Int} (h : check o l = 0) (h1 : ¬ (n < 1 ∨ (F.length : Int) ≠ needL o l n)) (hr : r ≠ 0) (h2 : addF o F l = (r, [])) : allocR o l n F = (r, [], []) := by
  unfold allocR; rw [if_neg (by simp [h]), if_neg h1, h2, if_pos hr]
theorem allocR_ok {o : Int} {l L : List S} {n : Int} {F : List Int} (h : check o l = 0) (h1 : ¬ (n < 1 ∨ (F.length : Int) ≠ needL o l n)) (h2 : addF o F l = (0, L)) :
    allocR o l n F = (0, marks o (took o l n.toNat F) L, took o l n.toNat F) := by
  unfold allocR; rw [if_neg (by simp [h]), if_neg h1, h2, if_neg (by simp)]
theorem own_take {w : World} {base e size n m g c : Nat} {xs : List Value} (h : w.ownsRow base e size (.slice (some ⟨g, 0, none⟩) n c) n xs) (hm : m ≤ n) : w.ownsRow base e size (.slice (some ⟨g, 0, none⟩) m c) m (xs.take (m * size)) := by
  have hms : m * size ≤ n * size := Nat.mul_le_mul_right _ hm
  refine ⟨by rw [List.length_take, h.1]; omega, ?_⟩
  rcases h.2 with ⟨h1, _⟩ | ⟨g', cap, cur, h1, hb, hg, h2, h3, h4, h5⟩
  · cases h1
  · cases h1
    refine .inr ⟨g, c, cur, rfl, hb, hg, by omega, h3, h4, ?_⟩
    rw [← h5, List.take_take, Nat.min_eq_left hms]
/-- Where a taken object is marked. -/
theorem mark_at {o : Int} {L : List S} {rsk : List R} {xs : List Int} {x : Int} (hL : Good o L) (ho : 1 ≤ o) (h : rsk.map sl = marks o xs L) (hs : ∃ s ∈ L, s.1 = x / o) :
    ∃ k u g c, rsk[k]? = some (x / o, u, g, c) ∧ atL (x / o) 0 (rsk.map sl) = ((k : Nat) : Int) ∧ (u.length : Int) = o ∧ (x % o).toNat < u.length ∧ 0 ≤ x ∧ x % o = ((x % o).toNat : Int) ∧ 0 ≤ x / o ∧ x / o < 256 ∧ (rsk.set k (x / o, u.set (x % o).toNat true, g, c)).map sl = marks o (xs ++ [x]) L := by
  obtain ⟨s, hs, hsx⟩ := hs
  have hf : (rsk.map sl).map (·.1) = L.map (·.1) := by rw [h, marks_fst]
  have hm : x / o ∈ (rsk.map sl).map (·.1) := by rw [hf, ← hsx]; exact List.mem_map.2 ⟨s, hs, rfl⟩
  obtain ⟨k, hk⟩ := List.getElem?_of_mem hm
  rw [List.map_map, List.getElem?_map] at hk
  cases hr : rsk[k]? with
  | none => rw [hr] at hk; cases hk
  | some r =>
    rw [hr] at hk
    obtain ⟨f, u, g, c⟩ := r
    have hfx : f = x / o := by simpa [sl] using hk
    subst hfx
    have hkl : (rsk.map sl)[k]? = some (x / o, u) := by rw [List.getElem?_map, hr]; rfl
    have hasc : Asc (-1) (rsk.map sl) := asc_of_map hL.asc hf.symm
    have hlen : ∀ s ∈ rsk.map sl, (s.2.length : Int) = o := by rw [h]; exact marks_len hL.len
    have hul : (u.length : Int) = o := hlen (x / o, u) (List.mem_of_getElem? hkl)
    have hmod0 := Int.emod_nonneg x (by omega : o ≠ 0)
    have hmod1 := Int.emod_lt_of_pos x (by omega : 0 < o)
    have hdm := Int.emod_add_mul_ediv x o
    have hf0 := hL.fr s hs
    rw [hsx] at hf0
    have hx0 : 0 ≤ x := by have := Int.mul_nonneg (show 0 ≤ o by omega) hf0.1; omega
    refine ⟨k, u, g, c, hr, ?_, hul, by omega, hx0, by omega, hf0.1, hf0.2, ?_⟩
    · have := atL_some (i := 0) hasc hkl rfl
      simpa using this
    · have e : marks o (xs ++ [x]) L = setO o true x (rsk.map sl) := by rw [h]; simp [marks]
      rw [e, setO_nth hasc hkl rfl, List.map_set]; rfl
/-- What the operations of the last region keep. -/
def KeepZ (w0 : World) (o : Int) (X : Nat) (V : Value) (W : World) : Prop := Below w0.heap.size w0 W ∧ Blk W X 31 [.int .i64 o, V]
theorem KeepZ.below {w0 : World} {o : Int} {X : Nat} {V : Value} {W W' : World} (h : KeepZ w0 o X V W) (hb : Below W.heap.size W W') : KeepZ w0 o X V W' := ⟨below_then h.1 hb, h.2.later hb⟩
end Go.Proofs.YtdddkfpcbfgocaaGreat.Sb
namespace Go.Proofs.YtdddkfpcbfgocaaGreat.Sb
open Go.RowKit Go.Over Go.Slb Go.Seg Go.Grow
theorem below_here {l : List S} {p q : Int} {k : Nat} {s : S} (ha : Asc p l) (hk : l[k]? = some s) (hs : s.1 = q) : below q l = k := by
  have hlt : k < l.length := by rw [List.getElem?_eq_some_iff] at hk; exact hk.1
  refine below_at (by omega) (fun i t hi ht => ?_) (fun i t hi ht => ?_)
  · rw [← hs]; exact asc_get ha ht hk hi
  · rcases Nat.lt_or_ge k i with h | h
    · rw [← hs]; exact Int.le_of_lt (asc_get ha hk ht h)
    · have e : i = k := by omega
      subst e
      rw [hk] at ht; cases ht
      omega
/-- What a release is: the error, the slabs, the frame. -/
def freeP (o : Int) (l : List S) (x : Int) : Int × List S × Int := if check o l ≠ 0 then (check o l, [], 0) else if x ∈ objs o true l then (0, freeL o l x, freeF o l x) else (6, [], 0)
theorem freeP_bad {o x : Int} {l : List S} (h : check o l ≠ 0) : freeP o l x = (check o l, [], 0) := by unfold freeP; rw [if_pos h]
theorem freeP_none {o x : Int} {l : List S} (h : check o l = 0) (hx : x ∉ objs o true l) : freeP o l x = (6, [], 0) := by unfold freeP; rw [if_neg (by simp [h]), if_neg hx]
theorem freeP_ok {o x : Int} {l : List S} (h : check o l = 0) (hx : x ∈ objs o true l) : freeP o l x = (0, freeL o l x, freeF o l x) := by unfold freeP; rw [if_neg (by simp [h]), if_pos hx]
theorem free_neg {o x : Int} {l : List S} (h : Ok o l) (hx : x < 0) : x ∉ objs o true l := fun hm => by
  obtain ⟨_, _, _, _, h0, _⟩ := h.slab hm
  omega
theorem free_nof {o x : Int} {l : List S} (h : Ok o l) (hx : hasF (x / o) l = false) : x ∉ objs o true l := fun hm => by
  obtain ⟨i, s, h1, h2, _, _⟩ := h.slab hm
  have : hasF (x / o) l = true := by unfold hasF; rw [List.any_eq_true]; exact ⟨s, List.mem_of_getElem? h1, by simp [h2]⟩
  rw [hx] at this; cases this
/-- Where an object of a slab that is there lies. -/
theorem free_in {o x : Int} {l : List S} (h : Ok o l) (hx : hasF (x / o) l = true) :
    ∃ k u, l[k]? = some (x / o, u) ∧ below (x / o) l = k ∧ atL (x / o) 0 l = ((k : Nat) : Int) ∧ (u.length : Int) = o ∧ (x % o).toNat < u.length ∧ x % o = ((x % o).toNat : Int) ∧ 0 ≤ x / o ∧ x / o < 256 ∧ (x ∈ objs o true l ↔ u.getD (x % o).toNat false = true) := by
  have ho1 := h.o1
  unfold hasF at hx
  rw [List.any_eq_true] at hx
  obtain ⟨s, hs, hsx⟩ := hx
  have hsx : s.1 = x / o := by simpa using hsx
  obtain ⟨k, hk⟩ := List.getElem?_of_mem hs
  obtain ⟨f, u⟩ := s
  simp only at hsx
  subst hsx
  have hmod0 := Int.emod_nonneg x (by omega : o ≠ 0)
  have hmod1 := Int.emod_lt_of_pos x (by omega : 0 < o)
  have hdm := Int.emod_add_mul_ediv x o
  have hul : (u.length : Int) = o := h.len (x / o, u) hs
  have hf := h.fr _ hs
  have hj : (x % o).toNat < u.length := by omega
  refine ⟨k, u, hk, below_here h.asc hk rfl, ?_, hul, hj, by omega, hf.1, hf.2, ?_⟩
  · have := atL_some (i := 0) h.asc hk rfl
    simpa using this
  · have h1 := flag_iff (b := true) h.asc h.len hs (i := (x % o).toNat) hj
    have e : x / o * o + (((x % o).toNat : Nat) : Int) = x := by rw [Int.mul_comm]; omega
    simp only at h1
    rw [e] at h1
    rw [h1, List.getD_eq_getElem?_getD, List.getElem?_eq_getElem hj]
    simp
/-- What a release and its reference give. -/
def FreeAns (base : Nat) (o : Int) (p : Int × List S × Int) (w : World) (e : Ending) (w' : World) : Prop :=
  ∃ V rs, e = .returned (.tuple #[.agg #[.int .i64 (if p.1 = 0 then o else 0), V], .int .i64 p.2.2, .int .i64 p.1]) ∧ OwnC w' base V rs ∧ rs.map sl = p.2.1 ∧ Below w.heap.size w w'
theorem free_err {base : Nat} {o r : Int} {p : Int × List S × Int} {w w' : World} {e : Ending} (hp : p = (r, [], 0)) (hr : r ≠ 0) (he : e = .returned (.tuple #[.agg #[.int .i64 0, .slice none 0 0], .int .i64 0, .int .i64 r])) (hb : Below w.heap.size w w') : FreeAns base o p w e w' := by
  subst hp
  refine ⟨.slice none 0 0, [], ?_, OwnC.nil _ _, rfl, hb⟩
  rw [he, if_neg hr]
theorem erase_cells (rs : List R) (k : Nat) : (cellsR rs).take (k * 2) ++ (cellsR rs).drop ((k + 1) * 2) = cellsR (rs.eraseIdx k) := by
  rw [cellsR_take, cellsR_drop, ← cellsR_append, List.eraseIdx_eq_take_drop_succ]
theorem OwnC.erase {w w' : World} {base : Nat} {V V' : Value} {rs : List R} {k : Nat} (h : OwnC w base V rs) (hg : w.grownBy w' V.ownBlock) (hk : k < rs.length) (ho : w'.ownsRow base 53 2 V' (rs.length - 1) ((cellsR rs).take (k * 2) ++ (cellsR rs).drop ((k + 1) * 2))) : OwnC w' base V' (rs.eraseIdx k) := by
  refine h.outer hg ?_ (fun r hr => .inl (List.mem_of_mem_eraseIdx hr)) ?_
  · rw [List.length_eraseIdx_of_lt hk, ← erase_cells]; exact ho
  · refine List.Sublist.nodup ?_ h.nod
    exact (List.eraseIdx_sublist rs k).map _
theorem set_erase {α : Type} (l : List α) (k : Nat) (x : α) : (l.set k x).eraseIdx k = l.eraseIdx k := by
  rw [List.eraseIdx_eq_take_drop_succ, List.eraseIdx_eq_take_drop_succ, List.take_set_of_le (Nat.le_refl _), List.drop_set_of_lt (Nat.lt_succ_self _)]
theorem erase_map {α β : Type} (f : α → β) (l : List α) (k : Nat) : (l.eraseIdx k).map f = (l.map f).eraseIdx k := by
  rw [List.eraseIdx_eq_take_drop_succ, List.eraseIdx_eq_take_drop_succ, List.map_append, List.map_take, List.map_drop]
set_option maxRecDepth 100000 in set_option maxHeartbeats 3200000 in
theorem free_22 (o : Int) (a : Option Addr) (l : List S) (n c : Nat) (x : Int) (w : World) (H : Slabs w a l) (hn : l.length = n) (hm : n ≤ 1000000) (hx1 : -9223372036854775808 ≤ x) (hx2 : x ≤ 9223372036854775807) :
    Calls Tryz.prog 10 #[.agg #[.int .i64 o, .slice a n c], .int .i64 x] w (FreeAns w.heap.size o (freeP o l x) w) := by
  have HN := Lib.hid hn
  have hK0 := KeepR.start w o a n c
  obtain ⟨w1, hw1⟩ : ∃ W, W = ((w.alloc (.cells #[.int .i64 o, .slice a n c] 31)).alloc (.cells #[.int .i64 0, .slice none 0 0] 31)) := ⟨_, rfl⟩
  rw [← hw1] at hK0
  have hck := Lib.hid (check_16 o a l n c w1 (H.below hK0.1) hn hm)
  obtain ⟨R, hR⟩ : ∃ R, check o l = R := ⟨_, rfl⟩
  rw [hR] at hck
  have HR := Lib.hid hR; have HW := Lib.hid hw1
  clear hn hw1 hR
  go_enter Tryz.func10, Tryz.ntmps10
  go_wp2_with fail
  rw [← HW.out]
  clear HW
  refine (hck.out).mono ?_
  rintro e w2 ⟨rfl, hb2⟩
  have hK2 := hK0.below hb2
  clear hK0 hck hb2
  obtain ⟨k0, k1, k3, k4, k5, k6⟩ := hK2.cells
  by_cases hR0 : R = 0
  · subst hR0
    have hok := check_ok.1 HR.out
    have ho1 := hok.o1
    have ho2 := hok.o2
    by_cases hx : x < 0
    · go_wp2
      have hB := (hK2.2.2.set 0 (.int .i64 0)).set 1 (.slice none 0 0)
      refine bodyPost_ret (results_cell_two rfl _ _ (w.heap.size + 1) (.int .i64 0) (.slice none 0 0) (.int .i64 0) (.int .i64 6) rfl hB rfl rfl) rfl (free_err (freeP_none HR.out (free_neg hok hx)) (by decide) rfl ?_)
      exact (hK2.1.setCell (by simp) _).setCell (by simp) _
    · obtain ⟨q, hq⟩ : ∃ q, x / o = q := ⟨_, rfl⟩
      have hq0 : 0 ≤ q := by rw [← hq]; exact Int.ediv_nonneg (by omega) (by omega)
      have hq1 : q ≤ 9223372036854775807 := by
        have := Int.ediv_le_self (a := x) o (by omega)
        omega
      have hqd : x.tdiv o = q := by rw [Int.tdiv_eq_ediv_of_nonneg (by omega)]; exact hq
      have hoz : (o == 0) = false := by simp; omega
      have hpl := fun u => place_36 o a l n c q (-1) (over w2 u) (H.below (below_then hK2.1 (below_over w2 u))) HN.out (by omega) hok.asc hok.fr hq0 hq1
      obtain ⟨K, hk⟩ : ∃ K, below q l = K := ⟨_, rfl⟩
      obtain ⟨T, hT⟩ : ∃ T, hasF q l = T := ⟨_, rfl⟩
      rw [hk, hT] at hpl
      have HK := Lib.hid hk; have HT := Lib.hid hT; have HQ := Lib.hid hq
      clear hk hT hq
      go_wp2_with fail
      refine wp_region_over (by kernel_rfl) (by kernel_rfl) ?_
      have q0 := fun u => over_cell k0 u
      have q1 := fun u => over_cell k1 u
      repeat (go_big_quiet_step ((go_at_call 33; exact calls_over (hpl _))))
      refine wpQuiet_nil ?_
      rintro _ ⟨u0, rfl⟩
      have hK3 := hK2.below (below_over w2 u0)
      obtain ⟨w3, hw3⟩ : ∃ W, W = over w2 u0 := ⟨_, rfl⟩
      rw [← hw3] at hK3 ⊢
      clear k0 k1 k3 k4 k5 k6 q0 q1 hpl hw3 hK2
      obtain ⟨k0, k1, k3, k4, k5, k6⟩ := hK3.cells
      cases T with
      | false =>
        go_wp2
        refine wp_region_over (by kernel_rfl) (by kernel_rfl) ?_
        repeat (go_big_quiet_step (fail))
        refine wpQuiet_nil ?_
        rintro _ ⟨u1, rfl⟩
        have hK4 := hK3.below (below_over w3 u1)
        clear k0 k1 k3 k4 k5 k6
        obtain ⟨k0, k1, k3, k4, k5, k6⟩ := hK4.cells
        go_wp2
        have hB := (hK4.2.2.set 0 (.int .i64 0)).set 1 (.slice none 0 0)
        refine bodyPost_ret (results_cell_two rfl _ _ (w.heap.size + 1) (.int .i64 0) (.slice none 0 0) (.int .i64 0) (.int .i64 6) rfl hB rfl rfl) rfl (free_err (freeP_none HR.out (free_nof hok (by rw [HQ.out]; exact HT.out))) (by decide) rfl ?_)
        exact (hK4.1.setCell (by simp) _).setCell (by simp) _
      | true =>
        obtain ⟨k, u, hl, hbl, _, hul, hjl, hjm, _, hq256, hmem⟩ := free_in hok (by rw [HQ.out]; exact HT.out)
        obtain ⟨j, hj⟩ : ∃ j, (x % o).toNat = j := ⟨_, rfl⟩
        rw [hj] at hjl hjm hmem
        rw [HQ.out] at hl hbl hq256
        obtain rfl : k = K := by rw [← hbl]; exact HK.out
        have hqm : x.tmod o = (j : Int) := by rw [Int.tmod_eq_emod_of_nonneg (by omega)]; exact hjm
        have hkn : k < n := by
          rw [List.getElem?_eq_some_iff] at hl
          have := hl.1; have := HN.out; omega
        obtain ⟨b, off, rfl, hc⟩ := (H.below hK3.1) (by rw [HN.out]; omega)
        obtain ⟨s0, a', c', s1, hc1, hc2, _, hfl⟩ := hc k _ hl
        obtain ⟨b', off', rfl, hff⟩ := hfl (by show 0 < u.length; omega)
        have f0 := hff j hjl
        simp only at s0 s1 hc1 f0
        obtain ⟨um, hum⟩ : ∃ m, u.length = m := ⟨_, rfl⟩
        obtain ⟨vv, hvv⟩ : ∃ v, u.getD j false = v := ⟨_, rfl⟩
        rw [hum] at s1 hc1 hul hjl
        rw [hvv] at f0 hmem
        have HL := Lib.hid hl; have HM := Lib.hid hmem; have HU := Lib.hid hum; have HJ := Lib.hid hj; have HV := Lib.hid hvv
        clear hc hff hfl hl hbl hmem hum hvv hj hjm
        go_wp2
        refine wp_region_over (by kernel_rfl) (by kernel_rfl) ?_
        have q0 := fun u => over_cell k0 u
        have q1 := fun u => over_cell k1 u
        have q2 := fun u => over_cell s1 u
        have q3 := fun u => over_cell f0 u
        repeat (go_big_quiet_step (fail))
        refine wpQuiet_nil ?_
        rintro _ ⟨u1, rfl⟩
        have hK4 := hK3.below (below_over w3 u1)
        obtain ⟨w4, hw4⟩ : ∃ W, W = over w3 u1 := ⟨_, rfl⟩
        rw [← hw4] at hK4 ⊢
        clear k0 k1 k3 k4 k5 k6 q0 q1 q2 q3 hw4 hK3 s0 s1 f0
        obtain ⟨k0, k1, k3, k4, k5, k6⟩ := hK4.cells
        cases vv with
        | false =>
          go_wp2
          have hB := (hK4.2.2.set 0 (.int .i64 0)).set 1 (.slice none 0 0)
          refine bodyPost_ret (results_cell_two rfl _ _ (w.heap.size + 1) (.int .i64 0) (.slice none 0 0) (.int .i64 0) (.int .i64 6) rfl hB rfl rfl) rfl (free_err (freeP_none HR.out (by rw [HM.out]; simp)) (by decide) rfl ?_)
          exact (hK4.1.setCell (by simp) _).setCell (by simp) _
        | true =>
          have hcl := Lib.hid (clone_35 o (some ⟨b, off, none⟩) l n c w4 (H.below hK4.1) HN.out (by have := ok_count hok; have := HN.out; omega) (fun s hs => by
            have h1 := hok.len s hs
            omega))
          go_wp2_with fail
          refine (hcl.out).mono ?_
          rintro e w5 ⟨V, rs, rfl, hO5, hrs, hb5⟩
          have hK5 := hK4.below hb5
          have hO5 := hO5.weaken hK4.1.size
          obtain ⟨aV, cV, rfl, _, _, _, _⟩ := hO5.slabs (n := n) (by have := congrArg List.length hrs; rw [List.length_map] at this; rw [this]; exact HN.out)
          clear k0 k1 k3 k4 k5 k6 hcl hb5 hK4
          have hK6 := hK5.below (below_box w5 (.cells #[.int .i64 o, .slice aV n cV] 31))
          have hO6 := hO5.alloc (.cells #[.int .i64 o, .slice aV n cV] 31)
          have hX6 := Blk.new w5 31 #[.int .i64 o, .slice aV n cV] [.int .i64 o, .slice aV n cV] rfl
          obtain ⟨w6, hw6⟩ : ∃ W, W = w5.alloc (.cells #[.int .i64 o, .slice aV n cV] 31) := ⟨_, rfl⟩
          rw [← hw6] at hK6 hO6 hX6
          have HX9 := Lib.hid (And.intro hK5.1.size hK5.2.2.lt)
          have HRS := Lib.hid hrs; have HW6 := Lib.hid hw6
          clear hO5 hK5 hrs hw6
          have hrk : ∃ g cg, rs[k]? = some (q, u, g, cg) := by
            have h := HL.out
            rw [← HRS.out, List.getElem?_map] at h
            cases hr : rs[k]? with
            | none => rw [hr] at h; cases h
            | some r =>
              rw [hr] at h
              obtain ⟨f', u', g', c''⟩ := r
              simp only [Option.map_some, Option.some.injEq, sl, Prod.mk.injEq] at h
              obtain ⟨rfl, rfl⟩ := h
              exact ⟨g', c'', rfl⟩
          obtain ⟨g, cg, hr⟩ := hrk
          have HRK := Lib.hid hr
          obtain ⟨b2, off2, rfl, t0, t1⟩ := hO6.at hr
          obtain ⟨f0, f1, hg1, hg2⟩ := hO6.flag_at hr (j := j) (by rw [HU.out]; exact hjl)
          simp only at t0 t1
          rw [HU.out] at t1 hg1
          have k0 : w6.cell? ⟨w.heap.size, 0, none⟩ = some (.int .i64 o) := hK6.cells.1
          have x1 : w6.cell? ⟨w5.heap.size, 1, none⟩ = some (.slice (some ⟨b2, off2, none⟩) n cV) := hX6.cell 1
          clear hr
          go_wp2_with fail
          rw [← HW6.out]
          refine wp_region_in (fun W => Below w6.heap.size w6 W) [(true, 11), (false, 1)] [0, 1, 2, 3, 4, 5, 6, 7, 8, 9, 10, 11] 11 (by kernel_rfl) (by kernel_rfl) (Below.refl _ _).drew ?_
          intro W hW hWe
          clear hWe
          simp only [wpSegsL, inOrder, List.filterMap_cons, List.filterMap_nil, List.getElem?_cons_zero, List.getElem?_cons_succ, List.take_succ_cons, List.take_zero, List.drop_succ_cons, List.drop_zero]
          have q0 := fun z => cell_later (hold_ok (S0 := fun W => Below w6.heap.size w6 W) hW z) k0
          have q1 := fun z => cell_later (hold_ok (S0 := fun W => Below w6.heap.size w6 W) hW z) x1
          have q2 := fun z => cell_later (hold_ok (S0 := fun W => Below w6.heap.size w6 W) hW z) t1
          repeat (go_big_quiet_step (fail))
          refine wpQuiet_nil ?_
          clear q0 q1 q2 k0 x1 t0 t1 f0 f1
          have hK7 := hK6.below hW
          have hX7 := hX6.later hW
          have hO7 := hO6.later hW
          obtain ⟨f0, f1, _, _⟩ := hO7.flag_at HRK.out (j := j) (by rw [HU.out]; exact hjl)
          have hgm : g ∈ rs.map (·.2.2.1) := List.mem_map.2 ⟨_, List.mem_of_getElem? HRK.out, rfl⟩
          have hgl := hO7.gs_low g hgm
          have n1 : w.heap.size ≠ g := fun e => hO7.not_in hK7.2.1 (by decide) (e ▸ hgm)
          have n2 : w.heap.size + 1 ≠ g := fun e => hO7.not_in hK7.2.2 (by decide) (e ▸ hgm)
          have n3 : w5.heap.size ≠ g := fun e => hO7.not_in hX7 (by decide) (e ▸ hgm)
          have hK8 : KeepR w o (some ⟨b, off, none⟩) n c (W.setCell ⟨g, j, none⟩ (.bool false)) := ⟨hK7.1.setCell hgl _, hK7.2.1.far n1 _, hK7.2.2.far n2 _⟩
          have hX8 := hX7.far (p := ⟨g, j, none⟩) n3 (.bool false)
          have hO8 := hO7.flag HRK.out j false
          go_wp2
          refine ⟨trivial, NoPanic.normal ?_⟩
          obtain ⟨w8, hw8⟩ : ∃ W', W' = W.setCell ⟨g, j, none⟩ (.bool false) := ⟨_, rfl⟩
          rw [← hw8] at hK8 hX8 hO8 ⊢
          obtain ⟨rs8, hrs8⟩ : ∃ z, rs.set k (q, u.set j false, g, cg) = z := ⟨_, rfl⟩
          rw [hrs8] at hO8
          have hlr : rs.length = n := by have := congrArg List.length HRS.out; rw [List.length_map] at this; rw [this]; exact HN.out
          have hl8 : rs8.length = n := by rw [← hrs8, List.length_set]; exact hlr
          have hr8 : rs8[k]? = some (q, u.set j false, g, cg) := by rw [← hrs8, List.getElem?_set_self (by omega)]
          have HM8 := Lib.hid (show rs8.map sl = l.set k (q, u.set j false) by rw [← hrs8, List.map_set, HRS.out]; rfl)
          have HE8 := Lib.hid (show (rs8.eraseIdx k).map sl = l.eraseIdx k by rw [← hrs8, set_erase, ← HRS.out]; exact erase_map sl rs k)
          have hfa := hok.free_at (x := x) HL.out (by rw [HQ.out])
          simp only at hfa
          rw [HJ.out] at hfa
          have hul8 : (u.set j false).length = um := by rw [List.length_set]; exact HU.out
          obtain ⟨bb, hbb⟩ : ∃ bb, (u.set j false).contains true = bb := ⟨_, rfl⟩
          have hfull : full (q, u.set j false) = bb := hbb
          rw [hfull] at hfa
          obtain ⟨_, _, hV1, t0, t1⟩ := hO8.at hr8
          cases hV1
          have hfl8 := flags_own (hO8.inn _ (List.mem_of_getElem? hr8)) rfl
          have hct := Lib.hid (contains_33 (some ⟨g, 0, none⟩) (u.set j false) um cg w8 hfl8 hul8 (by unfold maxLen; omega))
          rw [hbb] at hct
          simp only [hul8] at t1
          have HFA := Lib.hid hfa; have HO8 := Lib.hid hO8; have HR8 := Lib.hid hr8; have HL8 := Lib.hid hl8
          have x0 : w8.cell? ⟨w5.heap.size, 0, none⟩ = some (.int .i64 o) := hX8.cell 0
          have x1 : w8.cell? ⟨w5.heap.size, 1, none⟩ = some (.slice (some ⟨b2, off2, none⟩) n cV) := hX8.cell 1
          obtain ⟨k0, k1, k3, k4, k5, k6⟩ := hK8.cells
          clear hw8 hK6 hX6 hO6 hK7 hX7 hO7 hW f0 f1 hrs8 hr8 hl8 hlr hfa hfull hbb hul8 hfl8 n1 n2 n3 hgm HW6
          go_wp2_with fail
          refine (hct.out).mono ?_
          rintro e w9 ⟨rfl, rfl⟩
          cases bb with
          | true =>
            go_wp2
            have hX9' := HX9.out
            have hF := (hK8.2.2.set 0 (.int .i64 o)).set 1 (.slice (some ⟨b2, off2, none⟩) n cV)
            have hOF := ((HO8.out).far hK8.2.2 (by decide) (by decide) 0 (.int .i64 o)).far (hK8.2.2.set 0 (.int .i64 o)) (by decide) (by decide) 1 (.slice (some ⟨b2, off2, none⟩) n cV)
            refine bodyPost_ret (results_cell_two rfl _ _ (w.heap.size + 1) (.int .i64 o) (.slice (some ⟨b2, off2, none⟩) n cV) (.int .i64 (-1)) (.int .i64 0) rfl hF rfl rfl) rfl ?_
            rw [freeP_ok HR.out (HM.out.2 (by simp)), HFA.out.1, HFA.out.2]
            exact ⟨_, rs8, rfl, hOF, HM8.out, (hK8.1.setCell (by simp) _).setCell (by simp) _⟩
          | false =>
            have hdl := Lib.hid (delete_45 w.heap.size (.slice (some ⟨b2, off2, none⟩) n cV) n k (cellsR rs8) w8 (by have := HO8.out.out; rw [HL8.out] at this; exact this) (cellsR_one rs8) hkn (by have := ok_count hok; have := HN.out; omega))
            go_wp2_with fail
            refine (hdl.out).mono ?_
            rintro e w10 ⟨V10, rfl, hown, hgr, hvb⟩
            have hO10 := (HO8.out).erase hgr (by rw [HL8.out]; exact hkn) (by rw [HL8.out]; exact hown)
            have hK10 : KeepR w o (some ⟨b, off, none⟩) n c w10 := ⟨hK8.1.grown hgr hK8.1.size (fun z hz => (World.ownsRow.lt HO8.out.out z hz).1), hK8.2.1.grown hgr (hK8.2.1.not_own HO8.out.out (by decide)), hK8.2.2.grown hgr (hK8.2.2.not_own HO8.out.out (by decide))⟩
            have hX10 := hX8.grown hgr (hX8.not_own HO8.out.out (by decide))
            obtain ⟨a10, c10, rfl, _, _, _⟩ := own_form hown
            clear k0 k1 k3 k4 k5 k6 x0 x1 t0 t1 hK8 hX8 hdl hct HO8 hgr hvb hown
            have hX9' := HX9.out
            have x1 : w10.cell? ⟨w5.heap.size, 1, none⟩ = some (.slice (some ⟨b2, off2, none⟩) n cV) := hX10.cell 1
            have x2 := hX10.frozen 1
            have hK11 : KeepR w o (some ⟨b, off, none⟩) n c (w10.setCell ⟨w5.heap.size, 1, none⟩ (.slice a10 (n - 1) c10)) :=
              ⟨hK10.1.setCell (by exact hX9'.1) _, hK10.2.1.far (by show w.heap.size ≠ w5.heap.size; omega) _, hK10.2.2.far (by show w.heap.size + 1 ≠ w5.heap.size; omega) _⟩
            have hX11 := hX10.set 1 (.slice a10 (n - 1) c10)
            have hO11 := hO10.far hX10 (by decide) (by decide) 1 (.slice a10 (n - 1) c10)
            obtain ⟨k0, k1, k3, k4, k5, k6⟩ := hK11.cells
            have y0 : (w10.setCell ⟨w5.heap.size, 1, none⟩ (.slice a10 (n - 1) c10)).cell? ⟨w5.heap.size, 0, none⟩ = some (.int .i64 o) := hX11.cell 0
            have y1 : (w10.setCell ⟨w5.heap.size, 1, none⟩ (.slice a10 (n - 1) c10)).cell? ⟨w5.heap.size, 1, none⟩ = some (.slice a10 (n - 1) c10) := hX11.cell 1
            clear hK10
            go_wp2
            have hF := (hK11.2.2.set 0 (.int .i64 o)).set 1 (.slice a10 (n - 1) c10)
            have hOF := (hO11.far hK11.2.2 (by decide) (by decide) 0 (.int .i64 o)).far (hK11.2.2.set 0 (.int .i64 o)) (by decide) (by decide) 1 (.slice a10 (n - 1) c10)
            refine bodyPost_ret (results_cell_two rfl _ _ (w.heap.size + 1) (.int .i64 o) (.slice a10 (n - 1) c10) (.int .i64 q) (.int .i64 0) rfl hF rfl rfl) rfl ?_
            rw [freeP_ok HR.out (HM.out.2 (by simp)), HFA.out.1, HFA.out.2]
            exact ⟨_, rs8.eraseIdx k, rfl, hOF, HE8.out, (hK11.1.setCell (by simp) _).setCell (by simp) _⟩
  · have t1 : (R == 0) = false := by simpa using hR0
    go_wp2
    have hB := (hK2.2.2.set 0 (.int .i64 0)).set 1 (.slice none 0 0)
    refine bodyPost_ret (results_cell_two rfl _ _ (w.heap.size + 1) (.int .i64 0) (.slice none 0 0) (.int .i64 0) (.int .i64 R) rfl hB rfl rfl) rfl (free_err (freeP_bad (by rw [HR.out]; exact hR0)) (by rw [HR.out]; exact hR0) (by rw [HR.out]) ?_)
    exact (hK2.1.setCell (by simp) _).setCell (by simp) _
end Go.Proofs.YtdddkfpcbfgocaaGreat.Sb
namespace Go.Lift
open Go.ChangeShapes Go.WideShapes Go.ChangeAt Go.RowKit Go.Deep

/-- The cells 'cs' read as data of the type t, in w. -/
def Rd (P : Program) (w : World) (t : TypeId) (cs : List Value) : Prop :=
  ∃ (H : Type) (enc : TypeId × Value → H) (fuel : Nat) (x : DataW H × List MemPlace), DataW.trod enc P w 0 (fun _ => true) true fuel t cs = some x

section
variable {P : Program} {w : World} {t e : TypeId} {cs : List Value}
theorem Rd.int {k : IntKind} (h : Rd P w t cs) (ht : P.underlying t = some (.int k)) : ∃ n, cs = [.int k n] ∧ (Lit.int k n).wf = true := by
  obtain ⟨H, enc, fuel, x, h⟩ := h
  obtain ⟨n, h1, _, h2⟩ := DataW.trod_int ht h
  exact ⟨n, h1, h2⟩
theorem Rd.bool (h : Rd P w t cs) (ht : P.underlying t = some .bool) : ∃ b, cs = [.bool b] := by
  obtain ⟨H, enc, fuel, x, h⟩ := h
  obtain ⟨n, h1, _⟩ := DataW.trod_bool ht h
  exact ⟨n, h1⟩
theorem Rd.string (h : Rd P w t cs) (ht : P.underlying t = some .string) : ∃ s : ByteArray, cs = [.string s] ∧ s.size ≤ maxLen := by
  obtain ⟨H, enc, fuel, x, h⟩ := h
  obtain ⟨n, h1, _, h2⟩ := DataW.trod_string ht h
  exact ⟨n, h1, h2⟩
theorem Rd.struct {fs : Array Field} (h : Rd P w t cs) (ht : P.underlying t = some (.struct fs)) :
    cs.length = P.cellsOf t ∧ ∀ (i : Nat) (f : Field), fs[i]? = some f → Rd P w f.type ((cs.drop f.offset).take (P.cellsOf f.type)) := by
  obtain ⟨H, enc, fuel, x, h⟩ := h
  obtain ⟨xs, n, _, _, hl, hlen, hf⟩ := DataW.trod_struct ht h
  refine ⟨hl, fun i f hi => ?_⟩
  have hlt : i < fs.size := (Array.getElem?_eq_some_iff.1 hi).1
  exact ⟨H, enc, n, xs[i]'(by omega), by rw [hf i f hi]; exact List.getElem?_eq_getElem (by omega)⟩
theorem Rd.array {n : Nat} (h : Rd P w t cs) (ht : P.underlying t = some (.array n e)) :
    cs.length = P.cellsOf t ∧ ∀ (i : Nat), i < n → Rd P w e ((cs.drop (i * P.cellsOf e)).take (P.cellsOf e)) := by
  obtain ⟨H, enc, fuel, x, h⟩ := h
  obtain ⟨xs, m, _, _, hl, hlen, hf⟩ := DataW.trod_array ht h
  refine ⟨hl, fun i hi => ?_⟩
  exact ⟨H, enc, m, xs[i]'(by omega), by rw [hf i hi]; exact List.getElem?_eq_getElem (by omega)⟩
theorem Rd.slice (h : Rd P w t cs) (ht : P.underlying t = some (.slice e)) :
    cs = [.slice none 0 0] ∨ ∃ (a : Addr) (len cap : Nat), cs = [.slice (some a) len cap] ∧ len ≤ cap ∧ cap ≤ maxLen ∧
      ∀ i, i < cap → ∃ cs', cs'.length = P.cellsOf e ∧ (∀ j, j < P.cellsOf e → w.cell? ((a.add (i * P.cellsOf e)).add j) = cs'[j]?) ∧ Rd P w e cs' := by
  obtain ⟨H, enc, fuel, x, h⟩ := h
  rcases open_slice ht h with ⟨h0, _⟩ | ⟨a, len, cap, m, n, D, Pl, hcs, _, hl, hm, hmm, _, hi⟩
  · exact .inl h0
  · refine .inr ⟨a, len, cap, hcs, hl, hm, fun i hic => ?_⟩
    obtain ⟨cs', hc, hr⟩ := hi i (by rw [hmm]; exact hic)
    obtain ⟨_, h1, h2⟩ := World.cells?_some hc
    exact ⟨cs', h1, h2, H, enc, n, _, hr⟩
end

/-- What the walk is told of its arguments. -/
def Args (P : Program) (W : World) : List TypeId → List Value → Prop
  | [], [] => True
  | t :: ts, v :: vs => (∃ base, Value.okWide P W .any base t v) ∧ Rd P W t v.cells.toList ∧ Args P W ts vs
  | _, _ => False
theorem Args.nil {P : Program} {W : World} {vs : List Value} (h : Args P W [] vs) : vs = [] := by
  cases vs <;> simp [Args] at h ⊢
theorem Args.cons {P : Program} {W : World} {t : TypeId} {ts : List TypeId} {vs : List Value} (h : Args P W (t :: ts) vs) :
    ∃ v us, vs = v :: us ∧ (∃ base, Value.okWide P W .any base t v) ∧ Rd P W t v.cells.toList ∧ Args P W ts us := by
  cases vs with
  | nil => simp [Args] at h
  | cons v us => exact ⟨v, us, rfl, h⟩

section
variable {H : Type} {enc : TypeId × Value → H} {P : Program}
theorem args_of {W : World} {base : Nat} : ∀ {ts : List TypeId} {vs : List Value} {ds : List (DataW H)} {ps : List MemPlace}, DataW.TrodAll enc P W 0 (fun _ => true) true ts vs ds ps →
    (∀ (j : Nat) t v, ts[j]? = some t → vs[j]? = some v → Value.okWide P W .any base t v) → Args P W ts vs
  | [], vs, ds, ps, h, _ => by obtain ⟨rfl, _, _⟩ := trodAll_nil h; trivial
  | t :: ts, vs, ds, ps, h, hv => by
    obtain ⟨v, vs', d, ds', p, q, rfl, rfl, rfl, h0, h1⟩ := trodAll_cons h
    obtain ⟨fuel, hf⟩ := h0
    exact ⟨⟨base, hv 0 t v rfl rfl⟩, ⟨H, enc, fuel, _, hf⟩, args_of h1 fun j t v ht hv' => hv (j + 1) t v ht hv'⟩
theorem trodAll_stays (laid : laidOutB P = true) {W W' : World} (bel : Below W.heap.size W W') : ∀ {ts : List TypeId} {vs : List Value} {ds : List (DataW H)} {ps : List MemPlace},
    (∀ t ∈ ts, P.readableRec t = true ∧ t < P.types.size) → DataW.TrodAll enc P W 0 (fun _ => true) true ts vs ds ps → DataW.TrodAll enc P W' 0 (fun b => decide (b < W.heap.size)) true ts vs ds ps
  | [], vs, ds, ps, _, h => by obtain ⟨rfl, rfl, rfl⟩ := trodAll_nil h; rfl
  | t :: ts, vs, ds, ps, hr, h => by
    obtain ⟨v, vs', d, ds', p, q, rfl, rfl, rfl, h0, h1⟩ := trodAll_cons h
    have k0 := h0
    obtain ⟨m, hm⟩ := k0
    exact ⟨p, q, Below.trod laid (hr t (by simp)).1 (hr t (by simp)).2 h0 bel (DataW.trod_lt m _ _ _ hm), trodAll_stays laid bel (fun t ht => hr t (by simp [ht])) h1, rfl⟩
theorem trodAll_length {W : World} {base : Nat} {spare : Nat → Bool} {held : Bool} : ∀ {ts : List TypeId} {vs : List Value} {ds : List (DataW H)} {ps : List MemPlace}, DataW.TrodAll enc P W base spare held ts vs ds ps → ds.length = ts.length
  | [], vs, ds, ps, h => by obtain ⟨rfl, rfl, rfl⟩ := trodAll_nil h; rfl
  | t :: ts, vs, ds, ps, h => by
    obtain ⟨v, vs', d, ds', p, q, rfl, rfl, rfl, h0, h1⟩ := trodAll_cons h
    simp [trodAll_length h1]
end

theorem list2_of {α : Type} {l : List α} {x y : α} (h : l.length = 2) (h0 : (l.drop 0).take 1 = [x]) (h1 : (l.drop 1).take 1 = [y]) : l = [x, y] := by
  match l, h with
  | [a, b], _ => simp at h0 h1; simp [h0, h1]
theorem list3_of {α : Type} {l : List α} {x y z : α} (h : l.length = 3) (h0 : (l.drop 0).take 1 = [x]) (h1 : (l.drop 1).take 1 = [y]) (h2 : (l.drop 2).take 1 = [z]) : l = [x, y, z] := by
  match l, h with
  | [a, b, c], _ => simp at h0 h1 h2; simp [h0, h1, h2]
theorem list4_of {α : Type} {l : List α} {x y z u : α} (h : l.length = 4) (h0 : (l.drop 0).take 1 = [x]) (h1 : (l.drop 1).take 1 = [y]) (h2 : (l.drop 2).take 1 = [z]) (h3 : (l.drop 3).take 1 = [u]) : l = [x, y, z, u] := by
  match l, h with
  | [a, b, c, d], _ => simp at h0 h1 h2 h3; simp [h0, h1, h2, h3]
theorem arr_of_list {α : Type} {cs : Array α} {l : List α} (h : cs.toList = l) : cs = l.toArray := by rw [← h]
/-- A slice of ints that came in. -/
theorem Rd.ints {P : Program} {w : World} {t e : TypeId} {cs : List Value} {k : IntKind} (h : Rd P w t cs) (ht : P.underlying t = some (.slice e)) (he : P.underlying e = some (.int k)) (hc : P.cellsOf e = 1) :
    ∃ (a : Option Addr) (n c : Nat) (f : Nat → Int), cs = [.slice a n c] ∧ n ≤ c ∧ c ≤ maxLen ∧ (a = none → c = 0) ∧ (0 < n → ∃ b off, a = some ⟨b, off, none⟩ ∧ ∀ i, i < n → w.cell? ⟨b, off + i, none⟩ = some (.int k (f i))) ∧ (∀ i, n ≤ i → f i = 0) ∧ ∀ i, i < n → (Lit.int k (f i)).wf = true := by
  rcases h.slice ht with rfl | ⟨a, n, c, rfl, hn, hm, hi⟩
  · exact ⟨none, 0, 0, fun _ => 0, rfl, Nat.le_refl _, Nat.zero_le _, fun _ => rfl, fun h => by omega, fun _ _ => rfl, fun i h => by omega⟩
  · have key : ∀ i, ∃ x : Int, i < n → w.cell? (a.add i) = some (.int k x) ∧ (Lit.int k x).wf = true := by
      intro i
      by_cases h : i < n
      · obtain ⟨cs', h1, h2, h3⟩ := hi i (by omega)
        obtain ⟨x, rfl, wx⟩ := h3.int he
        have := h2 0 (by omega)
        rw [hc, Nat.mul_one] at this
        refine ⟨x, fun _ => ⟨?_, wx⟩⟩
        have e0 : (a.add i).add 0 = a.add i := by simp [Addr.add]
        rw [e0] at this
        simpa using this
      · exact ⟨0, fun h' => absurd h' h⟩
    obtain ⟨g, hg⟩ := Classical.axiomOfChoice key
    have hpos : ∀ i, i < n → (if i < n then g i else 0) = g i := fun i h => if_pos h
    refine ⟨some a, n, c, fun i => if i < n then g i else 0, rfl, hn, hm, (fun h => by cases h), fun h0 => ?_, fun i h => if_neg (by omega), fun i h => ?_⟩
    · obtain ⟨b, off, spot⟩ := a
      have hc0 := (hg 0 h0).1
      have hspot : spot = none := by simpa [Addr.add] using World.cell?_spot hc0
      subst hspot
      refine ⟨b, off, rfl, fun i hi => ?_⟩
      show _ = some (Value.int k (if i < n then g i else 0))
      rw [hpos i hi]
      have := (hg i hi).1
      rw [show (⟨b, off, none⟩ : Addr).add i = ⟨b, off + i, none⟩ by simp [Addr.add]] at this
      exact this
    · show (Lit.int k (if i < n then g i else 0)).wf = true
      rw [hpos i h]; exact (hg i h).2
/-- THE FRAME OF A LAW. -/
theorem law_lift {H : Type} {enc : TypeId × Value → H} {a : Assume} {C : Checked} {os : Os} {f : FuncId} {fn : Func} {s : ChangeSpec} {tb : TypeId}
    (own : ownKnob C.prog.godebug = none) (started : os.Started) (noInit : C.prog.inits.idxOf? f = none) (hfn : C.prog.funcs[f]? = some fn)
    (witness : ∃ (w : World) (tape : Tape) (i : Input), w.os = os ∧ (w.forCall tape i).Shaped C.prog ∧ i.vars = [] ∧ Input.okWide C.prog (w.forCall tape i) .any w.heap.size f i ∧
      s.pre6 enc C.prog fn [] false (w.forCall tape i).memory i.args ∧ a.holds C.prog (lone (Frame.enter C.prog f i.args .normal) [] (w.forCall tape i)))
    (laid : laidOutB C.prog = true) (hvars : s.vars = [])
    (hs : ∀ ds : List (DataW H), ds.length = fn.params.toList.length → s.fn H ds = { results := [.lit (.bool true)], args := ds })
    (hres : fn.resultTypes = #[tb]) (htb : C.prog.underlying tb = some .bool)
    (hrB : (fn.params.toList.all fun t => C.prog.readableRec t && decide (t < C.prog.types.size)) = true)
    (walk : ∀ (W : World) (vs : List Value), Args C.prog W fn.params.toList vs → Calls C.prog f vs.toArray W fun e w' => e = .returned (.bool true) ∧ Below W.heap.size W w') :
    ReturnsInHanded a C os f .any (s.pre6 enc C.prog fn [] false) (s.post enc C.prog fn false true false false) := by
  have hr : ∀ t ∈ fn.params.toList, C.prog.readableRec t = true ∧ t < C.prog.types.size := by
    intro t ht
    have := List.all_eq_true.1 hrB t ht
    simpa using this
  refine returnsInHanded_of_change own started noInit hfn witness ?_
  intro W base args ds gs before hval hW _ _
  have hW' := hW
  obtain ⟨p, q, hA, hV, rfl, hfz, hnd⟩ := hW
  rw [hvars] at hV
  obtain ⟨rfl, rfl⟩ := trodVars_none hV
  have hargs := args_of hA fun j t v ht hv => hval j t v (by simpa using ht) (by simpa using hv)
  have hlen := trodAll_length hA
  refine (walk W args.toList hargs).mono fun e W' ⟨he, bel⟩ => ?_
  subst he
  have e1 : s.fn H (ds ++ []) = { results := [.lit (.bool true)], args := ds } := by rw [List.append_nil]; exact hs ds hlen
  refine ⟨_, rfl, ds, [], _, [], p, [], hW', ?_, ?_, ?_, bel.frame _, fun h => by cases h⟩
  · rw [e1, hres]
    exact trodAll_mk1 (shut_bool htb _)
  · rw [e1]
    exact trodAll_stays laid bel hr hA
  · rw [e1, hvars]
    rfl
end Go.Lift
