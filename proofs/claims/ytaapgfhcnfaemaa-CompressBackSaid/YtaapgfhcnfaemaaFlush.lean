/- The closure that lays out the literals: packMatches$1. -/
import Derived.Test.YtaapgfhcnfaemaaFull
import Derived.Test.YtaapgfhcnfaemaaSeg2
import Derived.RangeFuncBox
namespace Go.Proofs.Ytaapgfhcnfaemaa
open Go.RowKit Go.Over Go.Zip Go.Seg
/-- What packMatches holds in memory. -/
structure St (w0 w : World) (Bs Bo Ba : Nat) (a : Option Addr) (c st : Nat) (v : Value) (L : List Int) : Prop where
  s : Boxed w Bs 3 (.int .i64 st)
  o : Boxed w Bo 22 v
  a : Boxed w Ba 22 (.slice a 32 c)
  own : Owns w w0.heap.size v L
  b : Below w0.heap.size w0 w
  no : w0.heap.size ≤ Bo
  n1 : Bs ≠ Bo
  n2 : Ba ≠ Bo
set_option maxHeartbeats 3200000 in
theorem flush_no (w0 : World) (a : Option Addr) (c : Nat) (l : List Int) (w : World) (st i Bs Bo Ba : Nat) (v : Value) (L : List Int) (hS : St w0 w Bs Bo Ba a c st v L) (hlt : ¬ st < i) :
    Calls Try.prog 31 #[.int .i64 i, .pointer (some ⟨Bs, 0, none⟩), .pointer (some ⟨Bo, 0, none⟩), .pointer (some ⟨Ba, 0, none⟩)] w fun e w' => e = .returned (.tuple #[]) ∧ ∃ v', St w0 w' Bs Bo Ba a c st v' (L ++ lits l st i) := by
  have c1 := hS.s.cell
  go_enter Try.func31, Try.ntmps31
  go_wp2
  go_end0
  refine ⟨rfl, v, ?_⟩
  rw [show lits l st i = [] by unfold lits; rw [if_neg hlt], List.append_nil]
  exact hS
/-- What every operation of the region keeps, but the store. -/
def Keep (w0 : World) (Bs Bo Ba : Nat) (a : Option Addr) (c st : Nat) (v : Value) (W : World) : Prop :=
  Boxed W Bs 3 (.int .i64 st) ∧ Boxed W Bo 22 v ∧ Boxed W Ba 22 (.slice a 32 c) ∧ Below w0.heap.size w0 W
theorem Keep.alloc {w0 : World} {Bs Bo Ba : Nat} {a : Option Addr} {c st : Nat} {v : Value} {W : World} (h : Keep w0 Bs Bo Ba a c st v W) (o : Obj) : Keep w0 Bs Bo Ba a c st v (W.alloc o) :=
  ⟨h.1.alloc o, h.2.1.alloc o, h.2.2.1.alloc o, below_alloc h.2.2.2 o⟩
theorem Keep.kept {w0 : World} {Bs Bo Ba : Nat} {a : Option Addr} {c st : Nat} {v u : Value} {W W' : World} {L : List Int} (h : Keep w0 Bs Bo Ba a c st v W) (hg : W.grownBy W' u.ownBlock) (hO : Owns W w0.heap.size u L) : Keep w0 Bs Bo Ba a c st v W' :=
  ⟨h.1.kept hg (h.1.not_row (by decide) hO), h.2.1.kept hg (h.2.1.not_row (by decide) hO), h.2.2.1.kept hg (h.2.2.1.not_row (by decide) hO), h.2.2.2.grown hg h.2.2.2.size (fun g hg => (hO.lt g hg).1)⟩
theorem one_cell (w : World) (x : Int) : ∀ j u, ([.int .u8 x] : List Value)[j]? = some u → (w.alloc (.cells #[.int .u8 x] 5)).cell? ((⟨w.heap.size, 0, none⟩ : Addr).add j) = some u := by
  intro j u hj
  rw [show (⟨w.heap.size, 0, none⟩ : Addr).add j = ⟨w.heap.size, j, none⟩ by unfold Addr.add; split <;> simp_all]
  rw [World.cell?, heap_new]
  rw [← List.getElem?_toArray] at hj
  simpa using hj
set_option maxHeartbeats 3200000 in
theorem flush_yes (w0 : World) (a : Option Addr) (c : Nat) (l : List Int) (H : Bytes w0 a l) (h : l.length = 32) (hc : 32 ≤ c) (hcm : c ≤ maxLen) (w : World) (st i Bs Bo Ba : Nat) (v : Value) (L : List Int) (hS : St w0 w Bs Bo Ba a c st v L) (hi : i ≤ 32) (hlt : st < i) (hL : L.length ≤ 200) :
    Calls Try.prog 31 #[.int .i64 i, .pointer (some ⟨Bs, 0, none⟩), .pointer (some ⟨Bo, 0, none⟩), .pointer (some ⟨Ba, 0, none⟩)] w fun e w' => e = .returned (.tuple #[]) ∧ ∃ v', St w0 w' Bs Bo Ba a c st v' (L ++ lits l st i) := by
  obtain ⟨b, off, rfl, _⟩ := H.2.1 (by omega)
  have c1 := hS.s.cell
  obtain ⟨i0, hi0, hz0, hz1, hz2⟩ := info_parts Try.info5
  have HL := Lib.hid h; clear h
  unfold maxLen at hcm
  go_enter Try.func31, Try.ntmps31
  go_wp2
  refine wp_region_in (Keep w0 Bs Bo Ba (some ⟨b, off, none⟩) c st v) [(true, 10), (false, 1), (false, 1), (false, 1), (false, 1)] [1, 2, 3, 4, 5, 8, 9, 10, 11, 0, 6, 7, 12, 13] 13 (by kernel_rfl) (by kernel_rfl) ⟨hS.s, hS.o, hS.a, hS.b.drew⟩ ?_
  intro W hW hWe
  simp only [wpSegsL, inOrder, List.filterMap_cons, List.filterMap_nil, List.getElem?_cons_zero, List.getElem?_cons_succ, List.take_succ_cons, List.take_zero, List.drop_succ_cons, List.drop_zero]
  have k1 : ∀ u, (hold (Keep w0 Bs Bo Ba (some ⟨b, off, none⟩) c st v) W u).cell? ⟨Bs, 0, none⟩ = some (.int .i64 st) := fun u => (hold_ok hW u).1.cell
  have k2 : ∀ u, (hold (Keep w0 Bs Bo Ba (some ⟨b, off, none⟩) c st v) W u).cell? ⟨Bo, 0, none⟩ = some v := fun u => (hold_ok hW u).2.1.cell
  have k3 : ∀ u, (hold (Keep w0 Bs Bo Ba (some ⟨b, off, none⟩) c st v) W u).cell? ⟨Ba, 0, none⟩ = some (.slice (some ⟨b, off, none⟩) 32 c) := fun u => (hold_ok hW u).2.2.1.cell
  have hn : IntKind.i64.wrap ((i : Int) - (st : Int)) = ((i - st : Nat) : Int) := by rw [IntWalk.i64_in _ (by omega)]; omega
  have hn2 : IntKind.i64.wrap (((i - st : Nat) : Int) - 1) = ((i - st - 1 : Nat) : Int) := by rw [IntWalk.i64_in _ (by omega)]; omega
  obtain ⟨n, hnn⟩ : ∃ n, n = i - st := ⟨_, rfl⟩
  obtain ⟨m, hm⟩ : ∃ m, m = i - st - 1 := ⟨_, rfl⟩
  rw [← hm] at hn2
  rw [← hnn] at hn hn2
  have HN := Lib.hid hnn; have HM := Lib.hid hm; have HW := Lib.hid hWe; clear hnn hm hWe
  have hm9 : (m : Int) ≤ 31 := by have := HM.out; omega
  repeat (go_big_quiet_step (fail))
  refine wpQuiet_nil ?_
  go_wp2
  have hO : Owns W w0.heap.size v L := by rw [HW.out]; exact hS.own
  refine ⟨hold_of (hW.alloc _), ?_⟩
  refine wpList_append_own _ rfl (.tmp 8) (.tmp 14) 22 rfl w0.heap.size 5 i0 (.int .u8 0) 1 1 Try.underlying22 hi0 hz0 hz1 hz2 rfl (by decide) _ _ _ rfl (hO.alloc _) ⟨W.heap.size, 0, none⟩ 1 1 [.int .u8 m] rfl ?c1 (one_cell W _) ?c2 ?c3 ?c4 ?c5 ?_
  case c1 => rfl
  case c2 => exact u8_one [(m : Int)]
  case c3 => unfold maxLen; omega
  case c4 => omega
  case c5 => have := hW.2.2.2.size; simp; omega
  intro v1 w1 hown1 hgrow1 _
  have hK1 := (hW.alloc (.cells #[.int .u8 m] 5)).kept hgrow1 (hO.alloc _)
  refine wpList_nil ⟨hold_of hK1, ?_⟩
  simp only [Act.put, List.setIfInBounds_toArray, List.set_cons_succ, List.set_cons_zero]
  obtain ⟨piece, hpc⟩ : ∃ piece, piece = (l.drop st).take (i - st) := ⟨_, rfl⟩
  have hplen : piece.length = i - st := by have := HL.out; rw [hpc]; simp; omega
  have hO1 : Owns w1 w0.heap.size v1 (L ++ [(m : Int)]) := by
    unfold Owns
    simpa using hown1
  clear hown1 hgrow1 hO
  refine wpList_append_own _ rfl (.tmp 15) (.tmp 19) 22 rfl w0.heap.size 5 i0 (.int .u8 0) 1 1 Try.underlying22 hi0 hz0 hz1 hz2 rfl (by decide) _ _ _ rfl hO1 ⟨b, off + st, none⟩ (i - st) (c - st) (piece.map (Value.int .u8)) rfl ?d1 ?d6 ?d2 ?d3 ?d4 ?d5 ?_
  case d1 => simp [hplen]
  case d2 => exact u8_one piece
  case d3 => simp; unfold maxLen; omega
  case d4 => simp; omega
  case d5 => exact hK1.2.2.2.size
  case d6 =>
    intro j u hj
    rw [show (⟨b, off + st, none⟩ : Addr).add j = ⟨b, off + (st + j), none⟩ by unfold Addr.add; split <;> simp_all; omega]
    obtain ⟨b', off', hab, hcell⟩ := (H.below hK1.2.2.2).2.1 (by have := HL.out; omega)
    cases hab
    have hjl : j < piece.length := by
      rw [List.getElem?_eq_some_iff] at hj
      obtain ⟨h, _⟩ := hj
      simpa using h
    rw [hcell (st + j) (by have := HL.out; omega)]
    rw [List.getElem?_map, List.getElem?_eq_getElem hjl] at hj
    simp only [Option.map_some, Option.some.injEq] at hj
    rw [← hj, get_lt (by have := HL.out; omega)]
    subst hpc
    simp
  intro v2 w2 hown2 hgrow2 _
  have hK2 := hK1.kept hgrow2 hO1
  have hO2 : Owns w2 w0.heap.size v2 (L ++ lits l st i) := by
    rw [show lits l st i = (m : Int) :: piece by unfold lits; rw [if_pos hlt, hpc, HM.out]]
    unfold Owns
    have e : ((m : Int) :: piece).length = 1 + (i - st) := by simp [hplen]; omega
    simp only [List.length_append, e, List.map_append, List.map_cons]
    simpa [Nat.add_assoc, hplen] using hown2
  clear hown2 hgrow2 hO1 hK1
  refine wpList_nil ⟨hold_of hK2, ?_⟩
  simp only [Act.put, List.setIfInBounds_toArray, List.set_cons_succ, List.set_cons_zero]
  have hne : ∃ k, (L ++ lits l st i).length = k + 1 := ⟨(L ++ lits l st i).length - 1, by unfold lits; rw [if_pos hlt]; simp; omega⟩
  obtain ⟨k, hk⟩ := hne
  have hO3 := hO2
  unfold Owns at hO3
  rw [hk] at hO3
  obtain ⟨g, cap, rfl⟩ := ownsRow_succ hO3
  clear hO3
  have q1 := hK2.2.1.cell
  have q2 := hK2.2.1.frozen
  have HK := Lib.hid hk; clear hk hpc hplen
  go_wp2
  refine ⟨trivial, NoPanic.normal ?_⟩
  go_wp2
  go_end0
  have hg := grownBy_setCell' w2 Bo (.slice (some ⟨g, 0, none⟩) (k + 1) cap)
  exact ⟨rfl, _, hK2.1.kept hg (by simpa using hS.n1), hK2.2.1.set _, hK2.2.2.1.kept hg (by simpa using hS.n2), hO2.kept hg (.inr (hK2.2.1.not_row (by decide) hO2).symm), hK2.2.2.2.setCell (p := ⟨Bo, 0, none⟩) hS.no _, hS.no, hS.n1, hS.n2⟩
theorem flush_any (w0 : World) (a : Option Addr) (c : Nat) (l : List Int) (H : Bytes w0 a l) (h : l.length = 32) (hc : 32 ≤ c) (hcm : c ≤ maxLen) (w : World) (st i Bs Bo Ba : Nat) (v : Value) (L : List Int) (hS : St w0 w Bs Bo Ba a c st v L) (hi : i ≤ 32) (hL : L.length ≤ 200) :
    Calls Try.prog 31 #[.int .i64 i, .pointer (some ⟨Bs, 0, none⟩), .pointer (some ⟨Bo, 0, none⟩), .pointer (some ⟨Ba, 0, none⟩)] w fun e w' => e = .returned (.tuple #[]) ∧ ∃ v', St w0 w' Bs Bo Ba a c st v' (L ++ lits l st i) := by
  by_cases hlt : st < i
  · exact flush_yes w0 a c l H h hc hcm w st i Bs Bo Ba v L hS hi hlt hL
  · exact flush_no w0 a c l w st i Bs Bo Ba v L hS hlt
end Go.Proofs.Ytaapgfhcnfaemaa
