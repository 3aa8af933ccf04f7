/- Walks: the fixed example with which every law ends. -/
import Derived.Test.YthhdiiboblaclaaW25
namespace Go.Proofs.Ythhdiiboblaclaa
open Go.RowKit Go.Over Go.Slb Go.Seg Go.Grow
theorem ints_lit (w : World) (l : List Int) (cs : Array Value) (hc : cs = (l.map (Value.int .i64)).toArray) : Ints (w.alloc (.cells cs 3)) (some ⟨w.heap.size, 0, none⟩) l := by
  intro _
  refine ⟨_, 0, rfl, fun i hi => ?_⟩
  subst hc
  have h : Blk (w.alloc (.cells (l.map (Value.int .i64)).toArray 3)) w.heap.size 3 (l.map (Value.int .i64)) := Blk.new w 3 _ _ rfl
  rw [Nat.zero_add, h.cell i, List.getElem?_map, List.getElem?_eq_getElem hi, List.getD_eq_getElem?_getD, List.getElem?_eq_getElem hi]; rfl
theorem alloc_go (o : Int) (a : Option Addr) (l : List S) (n c : Nat) (N : Int) (fa : Option Addr) (F : List Int) (fm fc : Nat) (L : List S) (xs : List Int) (m k : Nat) (w : World) (H : Slabs w a l) (hn : l.length = n) (hm : n ≤ 1000000) (hN1 : -9223372036854775808 ≤ N) (hN2 : N ≤ 9223372036854775807) (HF : Ints w fa F) (hfm : F.length = fm) (hf1 : fm ≤ 1000) (hp : allocP o l N F = (0, L, xs)) (hL : L.length = m) (hx : xs.length = k) :
    Calls Try.prog 19 #[.agg #[.int .i64 o, .slice a n c], .int .i64 N, .slice fa fm fc] w fun e w' => ∃ a' c' ai ci, e = .returned (.tuple #[.agg #[.int .i64 o, .slice a' m c'], .slice ai k ci, .int .i64 0]) ∧ Slabs w' a' L ∧ Ints w' ai xs ∧ Below w.heap.size w w' := by
  refine (alloc_19 o a l n c N fa F fm fc w H hn hm hN1 hN2 HF hfm hf1).mono ?_
  rintro e w' ⟨V, rs, v, he, hO, hrs, hI, hb⟩
  rw [hp] at he hrs hI
  obtain ⟨a', c', rfl, _, _, _, hS⟩ := hO.slabs (n := m) (by have := congrArg List.length hrs; rw [List.length_map] at this; rw [this]; exact hL)
  obtain ⟨ai, ci, rfl, _, _, _, hI'⟩ := hI.ints hx
  rw [hrs] at hS
  exact ⟨a', c', ai, ci, he, hS, hI', hb⟩
theorem free_go (o : Int) (a : Option Addr) (l : List S) (n c : Nat) (x : Int) (L : List S) (f : Int) (m : Nat) (w : World) (H : Slabs w a l) (hn : l.length = n) (hm : n ≤ 1000000) (hx1 : -9223372036854775808 ≤ x) (hx2 : x ≤ 9223372036854775807) (hp : freeP o l x = (0, L, f)) (hL : L.length = m) :
    Calls Try.prog 22 #[.agg #[.int .i64 o, .slice a n c], .int .i64 x] w fun e w' => ∃ a' c', e = .returned (.tuple #[.agg #[.int .i64 o, .slice a' m c'], .int .i64 f, .int .i64 0]) ∧ Slabs w' a' L ∧ Below w.heap.size w w' := by
  refine (free_22 o a l n c x w H hn hm hx1 hx2).mono ?_
  rintro e w' ⟨V, rs, he, hO, hrs, hb⟩
  rw [hp] at he hrs
  obtain ⟨a', c', rfl, _, _, _, hS⟩ := hO.slabs (n := m) (by have := congrArg List.length hrs; rw [List.length_map] at this; rw [this]; exact hL)
  rw [hrs] at hS
  exact ⟨a', c', he, hS, hb⟩
theorem box_size (w : World) (o : Obj) : (w.alloc o).heap.size = w.heap.size + 1 := by simp
def A1 : List S := [(3, [true, true, true, true]), (9, [true, false, false, false])]
def A2 : List S := [(3, [true, false, true, true]), (9, [true, false, false, false])]
def A3 : List S := [(3, [true, true, true, true]), (9, [true, true, false, false])]
def A4 : List S := [(3, [true, true, true, true]), (9, [false, true, false, false])]
def A5 : List S := [(3, [true, true, true, true])]
theorem no_slabs (w : World) : Slabs w none [] := fun h => absurd h (by simp)
set_option maxRecDepth 100000 in set_option maxHeartbeats 3200000 in
theorem awake_13 (w : World) : Calls Try.prog 13 #[] w fun e w' => e = .returned (.bool true) ∧ Below w.heap.size w w' := by
  go_enter Try.func13, Try.ntmps13
  go_wp2_with fail
  refine (new_14 4 w).mono ?_
  rintro e w1 ⟨rfl, b1⟩
  rw [if_neg (by decide), if_neg (by decide)]
  go_wp2_with fail
  have X1 : Blk ((w1.alloc (.cells #[.int .i64 4, .slice none 0 0] 24)).alloc (.cells #[.int .i64 9, .int .i64 3] 3)) w1.heap.size 24 [.int .i64 4, .slice none 0 0] := (Blk.new w1 24 _ _ rfl).alloc _
  have I2 := ints_lit (w1.alloc (.cells #[.int .i64 4, .slice none 0 0] 24)) [9, 3] #[.int .i64 9, .int .i64 3] rfl
  have b2 : Below w1.heap.size w1 ((w1.alloc (.cells #[.int .i64 4, .slice none 0 0] 24)).alloc (.cells #[.int .i64 9, .int .i64 3] 3)) := (below_box _ _).alloc (by simp) _
  rw [box_size] at I2
  obtain ⟨w2, hw2⟩ : ∃ W, W = (w1.alloc (.cells #[.int .i64 4, .slice none 0 0] 24)).alloc (.cells #[.int .i64 9, .int .i64 3] 3) := ⟨_, rfl⟩
  rw [← hw2] at X1 I2 b2 ⊢
  clear hw2
  refine (alloc_go 4 none [] 0 0 5 _ [9, 3] 2 2 A1 [12, 13, 14, 15, 36] 2 5 w2 (no_slabs _) rfl (by decide) (by decide) (by decide) I2 rfl (by decide) (by decide +kernel) rfl rfl).mono ?_
  rintro e w3 ⟨a3, c3, ai, ci, rfl, S3, I3, b3⟩
  have B3 : Below w.heap.size w w3 := below_then b1 (below_then b2 b3)
  have X1 := X1.later b3
  clear I2 b1 b2 b3
  go_wp2_with fail
  have X3 := Blk.new w3 24 #[.int .i64 4, .slice a3 2 c3] [.int .i64 4, .slice a3 2 c3] rfl
  have X1 := X1.alloc (.cells #[.int .i64 4, .slice a3 2 c3] 24)
  have S3 := S3.below (below_box w3 (.cells #[.int .i64 4, .slice a3 2 c3] 24))
  have I3 := I3.below (below_box w3 (.cells #[.int .i64 4, .slice a3 2 c3] 24))
  have B3 := B3.alloc B3.size (.cells #[.int .i64 4, .slice a3 2 c3] 24)
  obtain ⟨w4, hw4⟩ : ∃ W, W = w3.alloc (.cells #[.int .i64 4, .slice a3 2 c3] 24) := ⟨_, rfl⟩
  rw [← hw4] at X1 X3 S3 I3 B3 ⊢
  clear hw4
  refine (account_27 4 a3 A1 2 c3 w4 S3 rfl (by decide)).mono ?_
  rintro e w5 ⟨rfl, b5⟩
  rw [show acc 4 A1 = .tuple #[.int .i64 2, .int .i64 5, .int .i64 3] from by rw [acc_ok (n := 2) (by decide +kernel) rfl]; rfl]
  have X1 := X1.later b5
  have X3 := X3.later b5
  have S3 := S3.below b5
  have I3 := I3.below b5
  have B5 := below_then B3 b5
  clear B3 b5
  have c0 : w5.cell? ⟨w3.heap.size, 0, none⟩ = some (.int .i64 4) := X3.cell 0
  have c1 : w5.cell? ⟨w3.heap.size, 1, none⟩ = some (.slice a3 2 c3) := X3.cell 1
  go_wp2_with fail
  refine (free_go 4 a3 A1 2 c3 13 A2 (-1) 2 w5 S3 rfl (by decide) (by decide) (by decide) (by decide +kernel) rfl).mono ?_
  rintro e w6 ⟨a6, c6, rfl, S6, b6⟩
  have X1 := X1.later b6
  have I3 := I3.below b6
  have B6 := below_then B5 b6
  clear c0 c1 X3 S3 B5 b6
  go_wp2_with fail
  have X1 := X1.alloc (.cells #[.int .i64 4, .slice a6 2 c6] 24)
  have S6 := S6.below (below_box w6 (.cells #[.int .i64 4, .slice a6 2 c6] 24))
  have I3 := I3.below (below_box w6 (.cells #[.int .i64 4, .slice a6 2 c6] 24))
  have B6 := B6.alloc B6.size (.cells #[.int .i64 4, .slice a6 2 c6] 24)
  obtain ⟨w7, hw7⟩ : ∃ W, W = w6.alloc (.cells #[.int .i64 4, .slice a6 2 c6] 24) := ⟨_, rfl⟩
  rw [← hw7] at X1 S6 I3 B6 ⊢
  clear hw7
  refine (alloc_go 4 a6 A2 2 c6 2 none [] 0 0 A3 [13, 37] 2 2 w7 S6 rfl (by decide) (by decide) (by decide) (fun h => absurd h (by simp)) rfl (by decide) (by decide +kernel) rfl rfl).mono ?_
  rintro e w8 ⟨a8, c8, aj, cj, rfl, S8, I8, b8⟩
  have X1 := X1.later b8
  have I3 := I3.below b8
  have B8 := below_then B6 b8
  clear S6 B6 b8
  go_wp2_with fail
  have X1 := X1.alloc (.cells #[.int .i64 4, .slice a8 2 c8] 24)
  have S8 := S8.below (below_box w8 (.cells #[.int .i64 4, .slice a8 2 c8] 24))
  have I3 := I3.below (below_box w8 (.cells #[.int .i64 4, .slice a8 2 c8] 24))
  have I8 := I8.below (below_box w8 (.cells #[.int .i64 4, .slice a8 2 c8] 24))
  have B8 := B8.alloc B8.size (.cells #[.int .i64 4, .slice a8 2 c8] 24)
  obtain ⟨w9, hw9⟩ : ∃ W, W = w8.alloc (.cells #[.int .i64 4, .slice a8 2 c8] 24) := ⟨_, rfl⟩
  rw [← hw9] at X1 S8 I3 I8 B8 ⊢
  clear hw9
  refine (free_go 4 a8 A3 2 c8 36 A4 (-1) 2 w9 S8 rfl (by decide) (by decide) (by decide) (by decide +kernel) rfl).mono ?_
  rintro e w10 ⟨a10, c10, rfl, S10, b10⟩
  have X1 := X1.later b10
  have I3 := I3.below b10
  have I8 := I8.below b10
  have B10 := below_then B8 b10
  clear S8 B8 b10
  go_wp2_with fail
  have X1 := X1.alloc (.cells #[.int .i64 4, .slice a10 2 c10] 24)
  have S10 := S10.below (below_box w10 (.cells #[.int .i64 4, .slice a10 2 c10] 24))
  have I3 := I3.below (below_box w10 (.cells #[.int .i64 4, .slice a10 2 c10] 24))
  have I8 := I8.below (below_box w10 (.cells #[.int .i64 4, .slice a10 2 c10] 24))
  have B10 := B10.alloc B10.size (.cells #[.int .i64 4, .slice a10 2 c10] 24)
  obtain ⟨w11, hw11⟩ : ∃ W, W = w10.alloc (.cells #[.int .i64 4, .slice a10 2 c10] 24) := ⟨_, rfl⟩
  rw [← hw11] at X1 S10 I3 I8 B10 ⊢
  clear hw11
  refine (free_go 4 a10 A4 2 c10 37 A5 9 1 w11 S10 rfl (by decide) (by decide) (by decide) (by decide +kernel) rfl).mono ?_
  rintro e w12 ⟨a12, c12, rfl, S12, b12⟩
  have X1 := X1.later b12
  have I3 := I3.below b12
  have I8 := I8.below b12
  have B12 := below_then B10 b12
  clear S10 B10 b12
  have X1 := X1.alloc (.cells #[.int .i64 4, .slice a12 1 c12] 24)
  have I3 := I3.below (below_box w12 (.cells #[.int .i64 4, .slice a12 1 c12] 24))
  have I8 := I8.below (below_box w12 (.cells #[.int .i64 4, .slice a12 1 c12] 24))
  have B12 := B12.alloc B12.size (.cells #[.int .i64 4, .slice a12 1 c12] 24)
  obtain ⟨w13, hw13⟩ : ∃ W, W = w12.alloc (.cells #[.int .i64 4, .slice a12 1 c12] 24) := ⟨_, rfl⟩
  rw [← hw13] at X1 I3 I8 B12
  have c0 : (w12.alloc (.cells #[.int .i64 4, .slice a12 1 c12] 24)).cell? ⟨w1.heap.size, 0, none⟩ = some (.int .i64 4) := by rw [← hw13]; exact X1.cell 0
  have c1 : (w12.alloc (.cells #[.int .i64 4, .slice a12 1 c12] 24)).cell? ⟨w1.heap.size, 1, none⟩ = some (.slice none 0 0) := by rw [← hw13]; exact X1.cell 1
  go_wp2_with fail
  rw [← hw13]
  clear hw13 c0 c1 X1 S12
  refine (need_29 4 none [] 0 0 5 w13 (no_slabs _) rfl (by decide) (by decide) (by decide)).mono ?_
  rintro e w14 ⟨rfl, b14⟩
  rw [show needL 4 [] 5 = 2 from (by decide +kernel)]
  have I3 := I3.below b14
  have I8 := I8.below b14
  have B14 := below_then B12 b14
  clear B12 b14
  go_wp2_with fail
  have bb := below_box w14 (.cells #[.int .i64 12, .int .i64 13, .int .i64 14, .int .i64 15, .int .i64 36] 3)
  refine (equal_21 ai (some ⟨w14.heap.size, 0, none⟩) [12, 13, 14, 15, 36] 5 ci 5 _ (I3.below bb) (ints_lit w14 [12, 13, 14, 15, 36] _ rfl) rfl (by decide)).mono ?_
  rintro e w15 ⟨rfl, b15⟩
  have I8 := (I8.below bb).below b15
  have B15 := below_then (below_then B14 bb) b15
  clear I3 B14 b15 bb
  go_wp2_with fail
  have bb := below_box w15 (.cells #[.int .i64 13, .int .i64 37] 3)
  refine (equal_21 aj (some ⟨w15.heap.size, 0, none⟩) [13, 37] 2 cj 2 _ (I8.below bb) (ints_lit w15 [13, 37] _ rfl) rfl (by decide)).mono ?_
  rintro e w16 ⟨rfl, b16⟩
  have B16 := below_then (below_then B15 bb) b16
  clear I8 B15 b16 bb
  go_wp2_with fail
  refine (check_16 33 none [] 0 0 w16 (no_slabs _) rfl (by decide)).mono ?_
  rintro e w17 ⟨rfl, b17⟩
  rw [show check 33 [] = 1 from (by decide +kernel)]
  have B17 := below_then B16 b17
  clear B16 b17
  go_wp2
  go_ret
  exact ⟨rfl, B17⟩
end Go.Proofs.Ythhdiiboblaclaa
