/- Numbers in memory: a search, slices.Insert, slices.Delete, slices.Clone. Parts of blocks: a struct or an array is loaded from, or stored into, a place inside a block of memory. Walks: entries of page tables and their words. Walks: entries of page tables (continued): the small functions of the page tables. A map from numbers to numbers that a call has made: as a list of pairs whose keys differ. Walks: nodes of page tables in memory; the positions of the nodes by their frames. Walks: the positions of the nodes by their frames. Walks: the numbers of a page table without deposits are in order. Walks: what may stand in a table of a level. The plain model of a page table: a tree of three levels of nodes in a list by their frames. Steps of a walk through a page table: rows of three cells. Walks: the walk for a page through a page table. Walks: the end of the walk for a page. Walks: the closure that walks through a page table, at every level. A row of zero values that a call makes. Walks: a valid page table is one. -/
import Derived.Test.YtdddkfpcbfgocaaGreatRows
import Derived.OwnWalk
import Derived.Deep.LoopGhost
import Derived.Deep.CutRange
import Derived.Laws.Rows
import Derived.Laws.Tables
import Derived.Laws.BitsLemmas
import Derived.Laws.Bits64
import Derived.Maps.Own
import Derived.Laws.EntriesVeiled
import Derived.Laws.MakeOwn
import Derived.Test.YtdddkfpcbfgocaaGreatRv0
namespace Go.Zn
theorem pos_eq : ∀ {l : List Int} {x : Int} {i : Nat}, i ≤ l.length → (∀ k s, k < i → l[k]? = some s → s < x) → (∀ k s, i ≤ k → l[k]? = some s → x ≤ s) → pos l x = i
  | [], x, i, h, _, _ => by simp at h; subst h; rfl
  | y :: r, x, 0, _, _, h => by
    have := h 0 y (Nat.le_refl _) rfl
    unfold pos
    rw [List.takeWhile_cons, if_neg (by simp; omega)]; rfl
  | y :: r, x, i + 1, hl, h1, h2 => by
    have := h1 0 y (by omega) rfl
    have ih := pos_eq (l := r) (x := x) (i := i) (by simpa using hl) (fun k s hk hs => h1 (k + 1) s (by omega) (by simpa using hs)) (fun k s hk hs => h2 (k + 1) s (by omega) (by simpa using hs))
    unfold pos at ih ⊢
    rw [List.takeWhile_cons, if_pos (by simpa using this), List.length_cons, ih]
theorem pos_le {l : List Int} {x : Int} : pos l x ≤ l.length := by
  unfold pos
  exact (List.takeWhile_sublist _).length_le
end Go.Zn
namespace Go.Proofs.YtdddkfpcbfgocaaGreat
open Go.RowKit Go.Over Go.Zn Go.Can Go.Seg Go.Grow
theorem below_box (w : World) (o : Obj) : Below w.heap.size w (w.alloc o) := below_alloc (Below.refl _ _) o
theorem ret_int {k : IntKind} {a b : Int} (h : a = b) : Ending.returned (.int k a) = .returned (.int k b) := by rw [h]
theorem ret_bool {a b : Bool} (h : a = b) : Ending.returned (.bool a) = .returned (.bool b) := by rw [h]
theorem get_some {α : Type} {l : List α} {i n : Nat} (hn : l.length = n) (h : i < n) : ∃ s, l[i]? = some s := ⟨l[i]'(by omega), List.getElem?_eq_getElem (by omega)⟩
theorem drop_get {α : Type} {l : List α} {i : Nat} {s : α} (h : l[i]? = some s) : l.drop i = s :: l.drop (i + 1) := by
  have hlt : i < l.length := by rw [List.getElem?_eq_some_iff] at h; obtain ⟨h, _⟩ := h; exact h
  rw [List.drop_eq_getElem_cons hlt]
  rw [List.getElem?_eq_getElem hlt] at h
  rw [Option.some.inj h]
/-- Numbers that lie at a, in a block of numbers. -/
def Ints (w : World) (a : Option Addr) (l : List Int) : Prop :=
  0 < l.length → ∃ b off, a = some ⟨b, off, none⟩ ∧ (∃ bs, Blk w b 3 bs) ∧ ∀ i, i < l.length → w.cell? ⟨b, off + i, none⟩ = some (.int .i64 (l.getD i 0))
theorem Ints.below {w w' : World} {a : Option Addr} {l : List Int} (h : Ints w a l) (hb : Below w.heap.size w w') : Ints w' a l := fun h0 => by
  obtain ⟨b, off, ha, ⟨bs, hbs⟩, hc⟩ := h h0
  exact ⟨b, off, ha, ⟨bs, hbs.later hb⟩, fun i hi => cell_later hb (hc i hi)⟩
theorem Ints.at {w : World} {a : Option Addr} {l : List Int} (h : Ints w a l) {i : Nat} {x : Int} (hi : l[i]? = some x) : ∃ b off, a = some ⟨b, off, none⟩ ∧ w.cell? ⟨b, off + i, none⟩ = some (.int .i64 x) := by
  have hlt : i < l.length := by rw [List.getElem?_eq_some_iff] at hi; exact hi.1
  obtain ⟨b, off, ha, _, hc⟩ := h (by omega)
  refine ⟨b, off, ha, ?_⟩
  rw [hc i hlt, List.getD_eq_getElem?_getD, hi]; rfl
/-- A slice of numbers. -/
def Sl (w : World) (v : Value) (l : List Int) : Prop := ∃ a c, v = .slice a l.length c ∧ l.length ≤ c ∧ c ≤ maxLen ∧ (a = none → c = 0) ∧ Ints w a l
theorem Sl.below {w w' : World} {v : Value} {l : List Int} (h : Sl w v l) (hb : Below w.heap.size w w') : Sl w' v l := by
  obtain ⟨a, c, h1, h2, h3, h4, h5⟩ := h
  exact ⟨a, c, h1, h2, h3, h4, h5.below hb⟩
/-- Numbers are as they were when a block of another type changes. -/
theorem Sl.grown {w w' : World} {v : Value} {l : List Int} {g t : Nat} {bs : List Value} (h : Sl w v l) (hB : Blk w g t bs) (ht : 3 ≠ t) (hg : w.grownBy w' (some g)) : Sl w' v l := by
  obtain ⟨a, c, h1, h2, h3, h4, h5⟩ := h
  refine ⟨a, c, h1, h2, h3, h4, fun h0 => ?_⟩
  obtain ⟨b, off, ha, ⟨cs, hcs⟩, hc⟩ := h5 h0
  have hne := hcs.ne_type hB ht
  have h6 := hcs.grown hg (by simpa using Ne.symm hne)
  exact ⟨b, off, ha, ⟨cs, h6⟩, fun i hi => by rw [h6.cell, ← hcs.cell]; exact hc i hi⟩
theorem Sl.far {w : World} {v : Value} {l : List Int} {g t : Nat} {bs : List Value} (h : Sl w v l) (hB : Blk w g t bs) (ht : 3 ≠ t) (i : Nat) (u : Value) : Sl (w.setCell ⟨g, i, none⟩ u) v l :=
  h.grown hB ht ⟨rfl, rfl, rfl, by simp [World.setCell], fun k _ hk => Below.heap_setCell w ⟨g, i, none⟩ u k (fun e => hk (by rw [e]))⟩
theorem K22 : Kind Tryz.prog 24 3 1 8 := Kind.mk' Tryz.underlying24 (z := .int .i64 0) (by kernel_rfl) rfl (by decide) (by decide)
theorem ret_ib {a c : Int} {b d : Bool} (h : c = a) (h2 : d = b) : Ending.returned (.tuple #[.int .i64 a, .bool b]) = .returned (.tuple #[.int .i64 c, .bool d]) := by rw [h, h2]
theorem pair_get : ∀ {l : List Int}, List.Pairwise (· < ·) l → ∀ {i j : Nat} {s t : Int}, l[i]? = some s → l[j]? = some t → i < j → s < t
  | [], _, i, j, s, t, h, _, _ => by simp at h
  | x :: r, h, i, j, s, t, hi, hj, hij => by
    rw [List.pairwise_cons] at h
    cases j with
    | zero => omega
    | succ j =>
      rw [List.getElem?_cons_succ] at hj
      cases i with
      | zero =>
        simp at hi; subst hi
        exact h.1 t (List.mem_of_getElem? hj)
      | succ i =>
        rw [List.getElem?_cons_succ] at hi
        exact pair_get h.2 hi hj (by omega)
set_option maxRecDepth 100000 in set_option maxHeartbeats 1600000 in
theorem snan (x : Int) (w : World) : Calls Tryz.prog 176 #[.int .i64 x] w fun e w' => e = .returned (.bool false) ∧ w = w' := by
  have t1 : (x != x) = false := by simp
  go_enter Tryz.func176, Tryz.ntmps176
  go_wp2
  go_ret
  exact ⟨rfl, rfl⟩
set_option maxRecDepth 100000 in set_option maxHeartbeats 1600000 in
theorem cnan (x : Int) (w : World) : Calls Tryz.prog 107 #[.int .i64 x] w fun e w' => e = .returned (.bool false) ∧ w = w' := by
  have t1 : (x != x) = false := by simp
  go_enter Tryz.func107, Tryz.ntmps107
  go_wp2
  go_ret
  exact ⟨rfl, rfl⟩
set_option maxRecDepth 100000 in set_option maxHeartbeats 1600000 in
theorem less (x y : Int) (w : World) : Calls Tryz.prog 175 #[.int .i64 x, .int .i64 y] w fun e w' => e = .returned (.bool (decide (x < y))) ∧ w = w' := by
  go_enter Tryz.func175, Tryz.ntmps175
  go_wp2_with (go_at_call 107; refine (cnan _ _).mono ?_; rintro e w' ⟨rfl, rfl⟩)
  go_ret
  exact ⟨rfl, rfl⟩
set_option maxRecDepth 100000 in set_option maxHeartbeats 1600000 in
theorem search (a : Option Addr) (l : List Int) (n c : Nat) (x : Int) (w : World) (H : Ints w a l) (hn : l.length = n) (hm : n ≤ 1000000) (hs : List.Pairwise (· < ·) l) :
    Calls Tryz.prog 142 #[.slice a n c, .int .i64 x] w (fun e w' => e = .returned (.tuple #[.int .i64 (pos l x), .bool (l.contains x)]) ∧ w = w') := by
  have HN := Lib.hid hn
  have HS := Lib.hid hs
  clear hn hs
  go_enter Tryz.func142, Tryz.ntmps142
  go_wp2
  go_loopg [7, 8] n (fun g i0 j0 wr => ∃ (i j : Nat), i ≤ j ∧ j ≤ n ∧ j ≤ i + g ∧ i0 = .int .i64 i ∧ j0 = .int .i64 j ∧ (∀ k s, k < i → l[k]? = some s → s < x) ∧ (∀ k s, j ≤ k → l[k]? = some s → x ≤ s) ∧ w = wr)
  case atStart => exact ⟨0, n, by omega, by omega, by omega, rfl, rfl, fun k s hk => absurd hk (by omega), fun k s hk hs => by
    have h2 : k < l.length := by rw [List.getElem?_eq_some_iff] at hs; exact hs.1
    have := HN.out
    omega, rfl⟩
  case round =>
    obtain ⟨i, j, hij, hjn, hg, rfl, rfl, h1, h2, rfl⟩ := hrel
    by_cases hlt : i < j
    · obtain ⟨m, hmid⟩ : ∃ m, (i + j) / 2 = m := ⟨_, rfl⟩
      have hm1 : i ≤ m := by omega
      have hm2 : m < j := by omega
      obtain ⟨y, hs⟩ := get_some HN.out (show m < n by omega)
      obtain ⟨b, off, rfl, c0⟩ := H.at hs
      have HY := Lib.hid hs; have HM := Lib.hid hmid
      have H1 := Lib.hid h1; have H2 := Lib.hid h2; have HG := Lib.hid hg
      clear hs h1 h2 hg
      have hl := Lib.hid (less y x w)
      go_wp2_with fail
      refine (hl.out).mono ?_
      rintro e w2 ⟨rfl, rfl⟩
      by_cases hxf : y < x
      · go_wp2
        obtain ⟨g, rfl⟩ : ∃ g, gk = g + 1 := ⟨gk - 1, by have := HG.out; omega⟩
        go_roundg g
        case rel =>
          refine ⟨m + 1, j, by omega, by omega, by have := HG.out; omega, by go_num, rfl, fun k s hk hs => ?_, H2.out, rfl⟩
          rcases Nat.lt_or_ge k m with h | h
          · have := pair_get HS.out hs HY.out h; omega
          · obtain rfl : k = m := by omega
            rw [HY.out] at hs; cases hs; exact hxf
        case measure => omega
      · go_wp2
        obtain ⟨g, rfl⟩ : ∃ g, gk = g + 1 := ⟨gk - 1, by have := HG.out; omega⟩
        go_roundg g
        case rel =>
          refine ⟨i, m, by omega, by omega, by have := HG.out; omega, rfl, by go_num, H1.out, fun k s hk hs => ?_, rfl⟩
          rcases Nat.lt_or_ge m k with h | h
          · have := pair_get HS.out HY.out hs h; omega
          · obtain rfl : k = m := by omega
            rw [HY.out] at hs; cases hs; omega
        case measure => omega
    · obtain rfl : i = j := by omega
      have HP := Lib.hid (show pos l x = i from pos_eq (by have := HN.out; omega) h1 h2)
      by_cases hin : i < n
      · obtain ⟨y, hs⟩ := get_some HN.out hin
        obtain ⟨b, off, rfl, c0⟩ := H.at hs
        have hh := Lib.hid (show l.contains x = (y == x) by
          by_cases hxf : y = x
          · have e : (y == x) = true := by simpa using hxf
            rw [e]
            have := List.mem_of_getElem? hs
            rw [hxf] at this
            simpa using this
          · have e : (y == x) = false := by simpa using hxf
            rw [e]
            simp only [List.contains_eq_mem, decide_eq_false_iff_not]
            intro hm
            obtain ⟨k, hk⟩ := List.getElem?_of_mem hm
            rcases Nat.lt_or_ge k i with h | h
            · have := h1 k x h hk; omega
            · rcases Nat.lt_or_ge i k with h' | h'
              · have h3 := pair_get HS.out hs hk h'
                have h4 := h2 i y (Nat.le_refl _) hs
                omega
              · obtain rfl : k = i := by omega
                rw [hs] at hk; cases hk; exact hxf rfl)
        have HH1 := Lib.hid h1; have HH2 := Lib.hid h2
        clear hs h1 h2 hg
        by_cases hyx : y = x
        · subst hyx
          have t1 : (y == y) = true := by simp
          go_wp2
          go_ret2
          exact ⟨ret_ib (by rw [HP.out]) (by rw [hh.out, t1]), rfl⟩
        · have t1 : (y == x) = false := by simpa using hyx
          have hl := Lib.hid (snan y w)
          go_wp2_with (go_at_call 176; refine (hl.out).mono ?_; rintro e w' ⟨rfl, rfl⟩)
          go_ret2
          exact ⟨ret_ib (by rw [HP.out]) (by rw [hh.out, t1]), rfl⟩
      · obtain rfl : i = n := by omega
        have hh := Lib.hid (show l.contains x = false by
          simp only [List.contains_eq_mem, decide_eq_false_iff_not]
          intro hm
          obtain ⟨k, hk⟩ := List.getElem?_of_mem hm
          have h3 : k < l.length := by rw [List.getElem?_eq_some_iff] at hk; exact hk.1
          have := h1 k x (by have := HN.out; omega) hk
          omega)
        clear h1 h2 hg
        go_wp2
        go_ret2
        exact ⟨ret_ib (by rw [HP.out]) (by rw [hh.out]), rfl⟩
theorem ins_here (cur xs : List Value) (i n : Nat) (x1 : Value) (hi : i < n) (hx : xs.length = n) (ht : cur.take n = xs) :
    (lay (lay cur (i + 1) (xs.drop i)) i [x1]).take (n + 1) = xs.take i ++ [x1] ++ xs.drop i := by
  have h1 : cur = xs ++ cur.drop n := by rw [← ht, List.take_append_drop]
  have h2 : xs = xs.take i ++ xs.drop i := (List.take_append_drop _ _).symm
  obtain ⟨p, hp⟩ : ∃ p, xs.take i = p := ⟨_, rfl⟩
  obtain ⟨q, hq⟩ : ∃ q, xs.drop i = q := ⟨_, rfl⟩
  obtain ⟨r, hr⟩ : ∃ r, cur.drop n = r := ⟨_, rfl⟩
  have lp : p.length = i := by rw [← hp, List.length_take]; omega
  have lq : q.length = (n - i) := by rw [← hq, List.length_drop]; omega
  rw [hp, hq] at h2 ⊢
  rw [h2, hr] at h1
  have e1 : lay cur (i + 1) q = p ++ q.take 1 ++ q ++ r.drop 1 := by
    unfold lay
    rw [h1]
    have a1 : (p ++ q ++ r).take (i + 1) = p ++ q.take 1 := by
      rw [List.append_assoc, List.take_append, List.take_of_length_le (by omega), List.take_append_of_le_length (by omega)]
      congr 2; omega
    have a2 : (p ++ q ++ r).drop ((i + 1) + q.length) = r.drop 1 := by
      rw [List.drop_append, List.drop_eq_nil_of_le (by simp; omega), List.nil_append]
      congr 1; simp; omega
    rw [a1, a2]
  have e2 : lay (p ++ q.take 1 ++ q ++ r.drop 1) i [x1] = p ++ [x1] ++ q ++ r.drop 1 := by
    unfold lay
    have lq2 : (q.take 1).length = 1 := by rw [List.length_take]; omega
    have a1 : (p ++ q.take 1 ++ q ++ r.drop 1).take i = p := by
      rw [List.append_assoc, List.append_assoc, List.take_append_of_le_length (by omega), List.take_of_length_le (by omega)]
    have a2 : (p ++ q.take 1 ++ q ++ r.drop 1).drop (i + [x1].length) = q ++ r.drop 1 := by
      rw [List.append_assoc (p ++ q.take 1), List.drop_append, List.drop_eq_nil_of_le (by simp only [List.length_append, List.length_cons, List.length_nil]; omega), List.nil_append]
      rw [show i + [x1].length - (p ++ q.take 1).length = 0 by simp only [List.length_append, List.length_cons, List.length_nil]; omega, List.drop_zero]
    rw [a1, a2]
    simp
  rw [e1, e2, List.append_assoc (p ++ [x1]), ← List.append_assoc (p ++ [x1]), List.take_append_of_le_length (by simp; omega), List.take_of_length_le (by simp; omega)]
theorem ins_there (xs zs : List Value) (i n : Nat) (x1 : Value) (hi : i < n) (hx : xs.length = n) :
    (lay (lay (xs.take i ++ zs) i [x1]) (i + 1) (xs.drop i)).take (n + 1) = xs.take i ++ [x1] ++ xs.drop i := by
  obtain ⟨p, hp⟩ : ∃ p, xs.take i = p := ⟨_, rfl⟩
  obtain ⟨q, hq⟩ : ∃ q, xs.drop i = q := ⟨_, rfl⟩
  have lp : p.length = i := by rw [← hp, List.length_take]; omega
  have lq : q.length = (n - i) := by rw [← hq, List.length_drop]; omega
  rw [hp]
  rw [hq]
  have e1 : lay (p ++ zs) i [x1] = p ++ [x1] ++ zs.drop 1 := by
    unfold lay
    rw [List.take_append_of_le_length (by omega), List.take_of_length_le (by omega), List.drop_append, List.drop_eq_nil_of_le (by simp; omega), List.nil_append]
    congr 2; simp; omega
  have e2 : lay (p ++ [x1] ++ zs.drop 1) (i + 1) q = p ++ [x1] ++ q ++ (zs.drop 1).drop q.length := by
    unfold lay
    rw [List.take_append_of_le_length (by simp; omega), List.take_of_length_le (by simp; omega), List.drop_append, List.drop_eq_nil_of_le (by simp; omega), List.nil_append]
    congr 2; simp; omega
  rw [e1, e2, List.take_append_of_le_length (by simp; omega), List.take_of_length_le (by simp; omega)]
/-- What Insert gives. -/
def InsAns (w : World) (base : Nat) (V : Value) (n : Nat) (ys : List Value) (e : Ending) (w' : World) : Prop :=
  ∃ V', e = .returned V' ∧ w'.ownsRow base 3 1 V' (n + 1) ys ∧ w.grownBy w' V.ownBlock ∧ (∀ k, V'.ownBlock = some k → V.ownBlock = some k ∨ w.heap.size ≤ k)
set_option maxRecDepth 100000 in set_option maxHeartbeats 1600000 in
theorem insert_end (base : Nat) (V : Value) (n : Nat) (xs : List Value) (x1 : Value) (vb : Nat) (w : World) (hown : w.ownsRow base 3 1 V n xs) (hv : Blk w vb 3 [x1]) (h1 : x1.oneCell' = true) (hn : n ≤ 100000) (hb : base ≤ w.heap.size) :
    Calls Tryz.prog 149 #[V, .int .i64 n, .slice (some ⟨vb, 0, none⟩) 1 1] w (InsAns w base V n (xs ++ [x1])) := by
  obtain ⟨a, c, rfl, hnc, hcm, hz⟩ := own_form hown
  unfold maxLen at hcm
  have hsrc : Grow.Src w 1 (some ⟨vb, 0, none⟩) 1 1 [x1] := by
    refine ⟨rfl, by simp [h1], .inr ⟨_, rfl, fun j u hj => ?_⟩⟩
    rw [show (⟨vb, 0, none⟩ : Addr).add j = ⟨vb, j, none⟩ by unfold Addr.add; split <;> simp_all, hv.cell]
    exact hj
  have t0 : ((n : Int) == (n : Int)) = true := by simp
  go_enter Tryz.func149, Tryz.ntmps149
  go_wp2_with (at_builtin; refine wpList_append_k K22 rfl (.tmp 23) (.tmp 24) rfl _ n xs rfl hown _ 1 1 [x1] rfl hsrc (by omega) hb ?_)
  all_goals
    intro V' w' ho hg hw
    go_wp2
    go_ret
    exact ⟨_, rfl, ho, by cases a <;> exact hg, by cases a <;> exact hw⟩
theorem row_open {w : World} {base n : Nat} {V : Value} {xs : List Value} (h : w.ownsRow base 3 1 V n xs) (hn : 0 < n) :
    ∃ g cap cur, V = .slice (some ⟨g, 0, none⟩) n cap ∧ base ≤ g ∧ Blk w g 3 cur ∧ n ≤ cap ∧ cap ≤ maxLen ∧ cur.length = cap ∧ cur.take n = xs ∧ xs.length = n := by
  rcases h.2 with ⟨_, rfl⟩ | ⟨g, cap, cur, rfl, h1, h2, h3, h4, h5, h6⟩
  · omega
  · exact ⟨g, cap, cur.toList, rfl, h1, by unfold Blk; simpa using h2, h3, h4, by simpa using h5, by simpa using h6, by simpa using h.1⟩
theorem row_shut {w : World} {base n g cap : Nat} {cur xs : List Value} (hg : base ≤ g) (hb : Blk w g 3 cur) (hn : n ≤ cap) (hc : cap ≤ maxLen) (hl : cur.length = cap) (ht : cur.take n = xs) : w.ownsRow base 3 1 (.slice (some ⟨g, 0, none⟩) n cap) n xs := by
  refine ⟨by rw [← ht, List.length_take, hl]; omega, .inr ⟨g, cap, cur.toArray, rfl, hg, hb, hn, hc, by simpa using hl, by simpa using ht⟩⟩
theorem add_row (g o j : Nat) : (⟨g, o, none⟩ : Addr).add j = ⟨g, o + j, none⟩ := by unfold Addr.add; split <;> simp_all
theorem blk_src {w : World} {g o : Nat} {T : TypeId} {cur cs : List Value} (h : Blk w g T cur) (hc : ∀ j u, cs[j]? = some u → cur[o + j]? = some u) : ∀ j u, cs[j]? = some u → w.cell? ((⟨g, o, none⟩ : Addr).add j) = some u := by
  intro j u hj
  rw [add_row, h.cell]
  exact hc j u hj
theorem drop_src {cur xs : List Value} {k m : Nat} (ht : cur.take m = xs) : ∀ j u, (xs.drop k)[j]? = some u → cur[k + j]? = some u := by
  intro j u hj
  rw [List.getElem?_drop, ← ht, List.getElem?_take] at hj
  split at hj
  · exact hj
  · cases hj
theorem grown_trans {w w1 w2 : World} {row : Option Nat} (h : w.grownBy w1 row) (h' : w1.grownBy w2 row) : w.grownBy w2 row :=
  ⟨h'.os.trans h.os, h'.tape.trans h.tape, h'.output.trans h.output, Nat.le_trans h.size h'.size, fun k hk hne => (h'.block k (Nat.lt_of_lt_of_le hk h.size) hne).trans (h.block k hk hne)⟩
set_option maxRecDepth 100000 in set_option maxHeartbeats 1600000 in
theorem insert_room (base : Nat) (g n cap i : Nat) (cur xs : List Value) (x1 : Value) (vb : Nat) (w : World) (hg : base ≤ g) (hB : Blk w g 3 cur) (hcl : cur.length = cap) (hcm : cap ≤ maxLen) (ht : cur.take n = xs) (hx : xs.length = n) (h1c : ∀ u ∈ xs, u.oneCell' = true)
    (hv : Blk w vb 3 [x1]) (h1 : x1.oneCell' = true) (hne : vb ≠ g) (hi : i < n) (hroom : n + 1 ≤ cap) (hn : n ≤ 100000) :
    Calls Tryz.prog 149 #[.slice (some ⟨g, 0, none⟩) n cap, .int .i64 i, .slice (some ⟨vb, 0, none⟩) 1 1] w (InsAns w base (.slice (some ⟨g, 0, none⟩) n cap) n (xs.take i ++ [x1] ++ xs.drop i)) := by
  unfold maxLen at hcm
  have hfin := Lib.hid (ins_here cur xs i n x1 hi hx ht)
  have hcs := Lib.hid (show (xs.drop i).length = (n - i) by rw [List.length_drop, hx])
  have hsrc := drop_src (k := i) ht
  obtain ⟨q, hq⟩ : ∃ q, xs.drop i = q := ⟨_, rfl⟩
  have h1q : ∀ u ∈ q, u.oneCell' = true := fun u hu => h1c u (by rw [← hq] at hu; exact List.mem_of_mem_drop hu)
  have hov : ∀ lb cb, (callFunc 177 #[.slice (some ⟨vb, 0, none⟩) 1 1, .slice (some ⟨g, (i + 1), none⟩) lb cb]).run Tryz.prog w = .ok (.value (.bool false)) w := fun lb cb => by
    have hs1 : w.shape? vb = some (3, 1) := by unfold Blk at hv; simp [World.shape?, hv]
    have hs2 : w.shape? g = some (3, cur.length) := by unfold Blk at hB; simp [World.shape?, hB]
    rw [run_callFunc_extern Tryz.func177 (by kernel_rfl) (by kernel_rfl) (by kernel_rfl) (e := Extern.SlicesOverlaps.overlaps #[24, 24] #[4]) (by kernel_rfl),
      Lib.run_overlaps_apart w 24 4 3 Tryz.underlying24 1 (by intro w; kernel_rfl) ⟨vb, 0, none⟩ ⟨g, (i + 1), none⟩ 1 1 lb cb hne 3 3 1 cur.length hs1 hs2 (by omega) (hv.frozen 0) (hv.frozen 1)]
    rfl
  have HSRC := Lib.hid hsrc
  have HT := Lib.hid ht; have HX := Lib.hid hx; have HQ := Lib.hid hq; have HCL := Lib.hid hcl; have H1C := Lib.hid h1c
  have t1 : ((i : Int) == (n : Int)) = false := by simp; omega
  have t2 : ¬ ((cap : Int) < (n : Int) + 1) := by omega
  clear hsrc ht hx hq hcl h1c
  go_enter Tryz.func149, Tryz.ntmps149
  go_wp2_with fail
  refine wp_region_segs (fun _ => True) [(true, 8), (false, 1)] (by kernel_rfl) (by kernel_rfl) trivial ?_
  intro W _ hWe
  have hBW : Blk W g 3 cur := by rw [hWe]; exact hB
  have hvW : Blk W vb 3 [x1] := by rw [hWe]; exact hv
  have hgW : w.grownBy W (some g) := by rw [hWe]; exact ⟨rfl, rfl, rfl, Nat.le_refl _, fun _ _ _ => rfl⟩
  clear hWe hov
  simp only [wpSegs, List.take_succ_cons, List.take_zero, List.drop_succ_cons, List.drop_zero]
  have e1 : IntKind.i64.wrap ((i : Int) + 1) = (i : Int) + 1 := IntWalk.i64_in _ (by omega)
  have e3 : ((i : Int) + 1).toNat = i + 1 := by omega
  have e4 : (0 : Int) ≤ (i : Int) + 1 := by omega
  have e5 : (i : Int) + 1 ≤ (n : Int) + 1 := by omega
  have e6 : (i : Int) ≤ (n : Int) + 1 := by omega
  have e7 : ¬ cap = i + 1 := by omega
  have e8 : ¬ cap = i := by omega
  repeat (go_big_quiet_step (fail))
  refine wpQuiet_nil ?_
  clear e1 e3 e4 e5 e6
  refine wpList_copy_k K22 rfl (.tmp 73) (.tmp 76) rfl g (i + 1) _ _ ⟨g, i, none⟩ _ _ rfl rfl cur 3 (xs.drop i) hBW ?c1 (blk_src hBW HSRC.out) ?c2 (by rw [HQ.out]; exact h1q) ?_
  case c1 => rw [hcs.out, Nat.mul_one]; simp only [Nat.min_def]; split <;> omega
  case c2 => rw [hcs.out, HCL.out]; omega
  intro w2 hB2 hg2
  have hv2 : Blk w2 vb 3 [x1] := hvW.grown hg2 (by simpa using Ne.symm hne)
  have hgw2 : w.grownBy w2 (some g) := grown_trans hgW hg2
  refine wpList_nil ⟨hold_of (S0 := fun _ => True) trivial, NoPanic.normal ?_⟩
  simp only [Act.put, List.setIfInBounds_toArray, List.set_cons_succ, List.set_cons_zero]
  have hl2 := Lib.hid (show (lay cur (i + 1) (xs.drop i)).length = cap by rw [lay_len (by rw [hcs.out, HCL.out]; omega), HCL.out])
  clear hBW hvW hgW hg2 hB hv
  go_wp2_with (refine wpList_copy_k K22 rfl (.tmp 80) (.tmp 81) rfl g i _ _ ⟨vb, 0, none⟩ _ _ rfl rfl _ 3 [x1] hB2 ?d1 (blk_src hv2 (by intro j u h; simpa using h)) ?d2 (by simp [h1]) ?_)
  case d1 => simp only [Nat.min_def, List.length_cons, List.length_nil]; split <;> omega
  case d2 => rw [hl2.out]; simp; omega
  intro w3 hB3 hg3
  have hgw3 : w.grownBy w3 (some g) := grown_trans hgw2 hg3
  have hl3 := lay_len (L := lay cur (i + 1) (xs.drop i)) (o := i) (cs := [x1]) (by rw [hl2.out]; simp; omega)
  have hown := row_shut (n := n + 1) hg hB3 (by omega) (by unfold maxLen; omega) (by rw [hl3, hl2.out]) hfin.out
  clear hB2 hg3 hgw2 hB3 hl3
  go_wp2
  go_ret
  exact ⟨_, rfl, hown, hgw3, fun k hk => .inl hk⟩
set_option maxRecDepth 100000 in set_option maxHeartbeats 1600000 in
theorem insert_grow (base : Nat) (g n cap i : Nat) (cur xs : List Value) (x1 : Value) (vb : Nat) (w : World) (hg : base ≤ w.heap.size) (hB : Blk w g 3 cur) (hcm : cap ≤ maxLen) (ht : cur.take n = xs) (hx : xs.length = n) (h1c : ∀ u ∈ xs, u.oneCell' = true)
    (hv : Blk w vb 3 [x1]) (h1 : x1.oneCell' = true) (hi : i < n) (hnc : n ≤ cap) (hroom : cap < n + 1) (hn : n ≤ 100000) :
    Calls Tryz.prog 149 #[.slice (some ⟨g, 0, none⟩) n cap, .int .i64 i, .slice (some ⟨vb, 0, none⟩) 1 1] w (InsAns w base (.slice (some ⟨g, 0, none⟩) n cap) n (xs.take i ++ [x1] ++ xs.drop i)) := by
  unfold maxLen at hcm
  have hfin := Lib.hid (fun zs => ins_there xs zs i n x1 hi hx)
  have hcs := Lib.hid (show (xs.drop i).length = (n - i) by rw [List.length_drop, hx])
  have htl := Lib.hid (show (xs.take i).length = i by rw [List.length_take, hx]; omega)
  have HSRC := Lib.hid (drop_src (k := i) ht)
  have HSRC0 := Lib.hid (show ∀ j u, (xs.take i)[j]? = some u → cur[0 + j]? = some u by
    intro j u hj
    rw [List.getElem?_take] at hj
    split at hj
    · have := drop_src (k := 0) ht j u (by simpa using hj)
      exact this
    · cases hj)
  have HX := Lib.hid hx; have H1C := Lib.hid h1c
  have t1 : ((i : Int) == (n : Int)) = false := by simp; omega
  have t2 : (cap : Int) < (n : Int) + 1 := by omega
  have e1 : IntKind.i64.wrap ((n : Int) + 1 - (i : Int)) = ((n + 1 - i : Nat) : Int) := by rw [IntWalk.i64_in _ (by omega)]; omega
  have e2 : (n : Int) + 1 - (i : Int) = ((n + 1 - i : Nat) : Int) := by omega
  have e8 : ¬ cap = i := by omega
  clear ht hx h1c
  go_enter Tryz.func149, Tryz.ntmps149
  go_wp2_with (at_builtin; refine wpList_append_zeros_k K22 rfl (.tmp 34) (.tmp 39) 3 Tryz.underlying3 rfl ⟨g, 0, none⟩ i cap (n + 1 - i) rfl rfl (xs.take i) (by rw [htl.out, Nat.mul_one]) (blk_src hB HSRC0.out) (by omega) (by omega) (by omega) ?_)
  intro w2 zs hB2 hG1 hG2 hg2 hsz
  obtain ⟨G, hGe⟩ : ∃ G, min i xs.length + zs.length = G := ⟨_, rfl⟩
  rw [hGe] at hG1 hG2 ⊢
  have hlz : (xs.take i).length + zs.length = G := by rw [List.length_take]; exact hGe
  clear hGe
  have hv2 : Blk w2 vb 3 [x1] := hv.grown hg2 (by simp)
  have hO2 : Blk w2 g 3 cur := hB.grown hg2 (by simp)
  have hgne : g ≠ w.heap.size := by have := hB.lt; omega
  have hLZ := Lib.hid hlz
  have hbig : (xs.take i ++ zs).length = G := by rw [List.length_append]; first | exact hlz | (rw [List.length_take]; exact hlz)
  have HBIG := Lib.hid hbig
  have eG1 : ¬ G = i := by omega
  have eG2 : ¬ G = i + 1 := by omega
  have en : i + (n + 1 - i) = n + 1 := by omega
  unfold maxLen at hG2
  clear hlz hbig hB hv
  rw [en]
  clear e1 e2 en
  go_wp2_with (refine wpList_copy_k K22 rfl (.tmp 43) (.tmp 44) rfl w.heap.size i _ _ ⟨vb, 0, none⟩ _ _ rfl rfl _ 3 [x1] hB2 ?d1 (blk_src hv2 (by intro j u h; simpa using h)) ?d2 (by simp [h1]) ?_)
  case d1 => simp only [Nat.min_def, List.length_cons, List.length_nil]; split <;> omega
  case d2 => rw [HBIG.out]; simp; omega
  intro w3 hB3 hg3
  have hO3 : Blk w3 g 3 cur := hO2.grown hg3 (by simpa using Ne.symm hgne)
  have hl3 := Lib.hid (show (lay (xs.take i ++ zs) i [x1]).length = G by rw [lay_len (by rw [HBIG.out]; simp; omega), HBIG.out])
  have hgw3 : ∀ k, k < w.heap.size → w3.heap[k]? = w.heap[k]? := fun k hk => (hg3.block k (by omega) (by simp; omega)).trans (hg2.block k hk (by simp))
  have hos3 : w3.os = w.os ∧ w3.tape = w.tape ∧ w3.output = w.output ∧ w.heap.size < w3.heap.size := ⟨hg3.os.trans hg2.os, hg3.tape.trans hg2.tape, hg3.output.trans hg2.output, by have := hg3.size; omega⟩
  clear hB2 hg3 hg2 hO2 hv2 hsz
  go_wp2
  refine wp_region_segs (fun _ => True) [(true, 8), (false, 1)] (by kernel_rfl) (by kernel_rfl) trivial ?_
  intro W _ hWe
  have hBW : Blk W w.heap.size 3 (lay (xs.take i ++ zs) i [x1]) := by rw [hWe]; exact hB3
  have hOW : Blk W g 3 cur := by rw [hWe]; exact hO3
  have hgW : ∀ k, k < w.heap.size → W.heap[k]? = w.heap[k]? := fun k hk => by rw [hWe]; exact hgw3 k hk
  have hosW : W.os = w.os ∧ W.tape = w.tape ∧ W.output = w.output ∧ w.heap.size < W.heap.size := by rw [hWe]; exact hos3
  clear hWe hB3 hO3 hgw3 hos3
  simp only [wpSegs, List.take_succ_cons, List.take_zero, List.drop_succ_cons, List.drop_zero]
  have e1 : IntKind.i64.wrap ((i : Int) + 1) = (i : Int) + 1 := IntWalk.i64_in _ (by omega)
  have e3 : ((i : Int) + 1).toNat = i + 1 := by omega
  have e4 : (0 : Int) ≤ (i : Int) + 1 := by omega
  have e5 : (i : Int) + 1 ≤ (n : Int) + 1 := by omega
  have e6 : (i : Int) ≤ (n : Int) := by omega
  repeat (go_big_quiet_step (fail))
  refine wpQuiet_nil ?_
  clear e1 e3 e4 e5 e6
  refine wpList_copy_k K22 rfl (.tmp 50) (.tmp 53) rfl w.heap.size (i + 1) _ _ ⟨g, i, none⟩ _ _ rfl rfl _ 3 (xs.drop i) hBW ?c1 (blk_src hOW HSRC.out) ?c2 (fun u hu => H1C.out u (List.mem_of_mem_drop hu)) ?_
  case c1 => rw [hcs.out, Nat.mul_one]; simp only [Nat.min_def]; split <;> omega
  case c2 => rw [hcs.out, hl3.out]; omega
  intro w4 hB4 hg4
  have hl4 := lay_len (L := lay (xs.take i ++ zs) i [x1]) (o := (i + 1)) (cs := xs.drop i) (by rw [hcs.out, hl3.out]; omega)
  have hown := row_shut (base := base) (n := n + 1) (cap := G) hg hB4 (by omega) (by unfold maxLen; omega) (by rw [hl4, hl3.out]) (hfin.out zs)
  have hfinal : w.grownBy w4 (some g) := ⟨hg4.os.trans hosW.1, hg4.tape.trans hosW.2.1, hg4.output.trans hosW.2.2.1, by have := hg4.size; omega, fun k hk _ => (hg4.block k (by omega) (by simp; omega)).trans (hgW k hk)⟩
  refine wpList_nil ⟨hold_of (S0 := fun _ => True) trivial, NoPanic.normal ?_⟩
  simp only [Act.put, List.setIfInBounds_toArray, List.set_cons_succ, List.set_cons_zero]
  clear hBW hOW hgW hosW hB4 hg4 hl4
  go_wp2
  go_ret
  exact ⟨_, rfl, hown, hfinal, fun k hk => .inr (by simp [Value.ownBlock] at hk; omega)⟩
theorem insert (base : Nat) (V : Value) (n i : Nat) (xs : List Value) (x1 : Value) (vb : Nat) (w : World) (hown : w.ownsRow base 3 1 V n xs) (h1c : ∀ u ∈ xs, u.oneCell' = true) (hv : Blk w vb 3 [x1]) (h1 : x1.oneCell' = true) (hne : V.ownBlock ≠ some vb) (hi : i ≤ n) (hn : n ≤ 100000) (hb : base ≤ w.heap.size) :
    Calls Tryz.prog 149 #[V, .int .i64 i, .slice (some ⟨vb, 0, none⟩) 1 1] w (InsAns w base V n (xs.take i ++ [x1] ++ xs.drop i)) := by
  rcases Nat.eq_or_lt_of_le hi with rfl | hlt
  · have := insert_end base V i xs x1 vb w hown hv h1 hn hb
    have hl := hown.1
    rw [List.take_of_length_le (by omega), List.drop_eq_nil_of_le (by omega), List.append_nil]
    exact this
  · obtain ⟨g, cap, cur, rfl, hg, hB, h3, h4, h5, h6, h7⟩ := row_open hown (by omega)
    by_cases hr : n + 1 ≤ cap
    · exact insert_room base g n cap i cur xs x1 vb w hg hB h5 h4 h6 h7 h1c hv h1 (fun e => hne (by rw [e]; rfl)) hlt hr hn
    · exact insert_grow base g n cap i cur xs x1 vb w hb hB h4 h6 h7 h1c hv h1 hlt h3 (by omega) hn
theorem del_here (cur xs new : List Value) (i n : Nat) (hi : i < n) (hx : xs.length = n) (ht : cur.take n = xs) (hnew : new.take (n - 1) = (lay cur i (xs.drop (i + 1))).take (n - 1)) :
    new.take (n - 1) = xs.take i ++ xs.drop (i + 1) := by
  have hle : n ≤ cur.length := by
    have := congrArg List.length ht
    rw [List.length_take, hx] at this; omega
  rw [hnew]
  unfold lay
  have a1 : cur.take i = xs.take i := by rw [← ht, List.take_take]; congr 1; omega
  rw [a1]
  have l1 : (xs.take i).length = i := by rw [List.length_take]; omega
  have l2 : (xs.drop (i + 1)).length = (n - 1 - i) := by rw [List.length_drop]; omega
  rw [List.take_append_of_le_length (by rw [List.length_append]; omega), List.take_of_length_le (by rw [List.length_append]; omega)]
def DelAns (w : World) (base : Nat) (V : Value) (n : Nat) (ys : List Value) (e : Ending) (w' : World) : Prop :=
  ∃ V', e = .returned V' ∧ w'.ownsRow base 3 1 V' (n - 1) ys ∧ w.grownBy w' V.ownBlock ∧ V'.ownBlock = V.ownBlock
set_option maxRecDepth 100000 in set_option maxHeartbeats 1600000 in
theorem delete (base : Nat) (V : Value) (n i : Nat) (xs : List Value) (w : World) (hown : w.ownsRow base 3 1 V n xs) (h1c : ∀ u ∈ xs, u.oneCell' = true) (hi : i < n) (hn : n ≤ 100000) :
    Calls Tryz.prog 148 #[V, .int .i64 i, .int .i64 ((i + 1 : Nat) : Int)] w (DelAns w base V n (xs.take i ++ xs.drop (i + 1))) := by
  obtain ⟨g, cap, cur, rfl, hg, hB, hnc, hcm, hcl, ht, hx⟩ := row_open hown (by omega)
  unfold maxLen at hcm
  have hfin := Lib.hid (fun new => del_here cur xs new i n hi hx ht)
  have hcs := Lib.hid (show (xs.drop (i + 1)).length = (n - (i + 1)) by rw [List.length_drop, hx])
  have HSRC := Lib.hid (drop_src (k := (i + 1)) ht)
  have HX := Lib.hid hx; have H1C := Lib.hid h1c; have HCL := Lib.hid hcl
  have t1 : ((i : Int) == ((i + 1 : Nat) : Int)) = false := by simp; omega
  have hclr : ∃ i z, Tryz.prog.info? 3 = some i ∧ i.zero = some z ∧ z.cells.size = 1 ∧ ∀ v ∈ z.cells.toList, v.oneCell' = true := by
    obtain ⟨i, hi, hz0, hz1, hz2⟩ := info_parts (show (Tryz.prog.info? 3).map (fun i => (i.zero, i.size, i.bytes)) = some (some (.int .i64 0), 1, 8) by kernel_rfl)
    exact ⟨i, _, hi, hz0, rfl, by intro v hv; simp [Value.cells] at hv; subst hv; rfl⟩
  have HC := Lib.hid hclr
  clear ht hx h1c hcl hclr hown
  have e0 : ((i + 1 : Nat) : Int) ≤ (n : Int) := by omega
  have e2 : (i : Int) ≤ ((i + 1 : Nat) : Int) := by omega
  by_cases hci : cap = i + 1
  · have hni : n = i + 1 := by omega
    subst hci
    have HNI := Lib.hid hni; clear hni
    go_enter Tryz.func148, Tryz.ntmps148
    go_wp2_with fail
    have HS2 := Lib.hid (show ∀ j u, (xs.drop (i + 1))[j]? = some u → cur[0 + j]? = some u by
      intro j u hj
      rw [List.eq_nil_of_length_eq_zero (l := xs.drop (i + 1)) (by rw [hcs.out]; omega)] at hj
      simp at hj)
    refine wp_region_segs (fun _ => True) [(true, 6), (false, 1), (true, 1)] (by kernel_rfl) (by kernel_rfl) trivial ?_
    intro W _ hWe
    have hBW : Blk W g 3 cur := by rw [hWe]; exact hB
    have hgW : w.grownBy W (some g) := by rw [hWe]; exact ⟨rfl, rfl, rfl, Nat.le_refl _, fun _ _ _ => rfl⟩
    clear hWe hB
    simp only [wpSegs, List.take_succ_cons, List.take_zero, List.drop_succ_cons, List.drop_zero]
    repeat (go_big_quiet_step (fail))
    refine wpQuiet_nil ?_
    refine wpList_append_room_k K22 rfl (.tmp 22) (.tmp 25) rfl g i (i + 1) ⟨g, 0, none⟩ _ _ rfl rfl cur hBW (xs.drop (i + 1)) ?c1 (blk_src hBW HS2.out) (fun u hu => H1C.out u (List.mem_of_mem_drop hu)) ?c2 (by rw [HCL.out, Nat.mul_one]) ?_
    case c1 => have := hcs.out; omega
    case c2 => omega
    intro w2 hB2 hg2
    rw [Nat.mul_one] at hB2
    rw [show i + 0 = i from by omega]
    have hgw2 := grown_trans hgW hg2
    have hl2 := Lib.hid (show (lay cur i (xs.drop (i + 1))).length = (i + 1) by rw [lay_len (by rw [hcs.out, HCL.out]; omega), HCL.out])
    clear hBW hgW hg2
    refine wpList_nil ⟨hold_of (S0 := fun _ => True) trivial, ?_⟩
    simp only [Act.put, List.setIfInBounds_toArray, List.set_cons_succ, List.set_cons_zero]
    repeat (go_big_quiet_step (fail))
    refine wpQuiet_nil ?_
    refine NoPanic.normal ?_
    have z1 : ¬ (i + 1) = i := by omega
    have z2 : ((i : Nat) : Int) ≤ (n : Int) := by omega
    have z3 : ¬ ((n : Int) = 0) := by omega
    go_wp2_with (refine wpList_clear_k Tryz.underlying24 HC.out rfl (.tmp 31) rfl g i _ _ rfl ?d0 _ 3 hB2 ?d1 ?_)
    case d0 => omega
    case d1 => rw [hl2.out]; omega
    intro w3 new hB3 hln htk hg3
    have hgw3 := grown_trans hgw2 hg3
    have hfq : ∀ new : List Value, new.take i = (lay cur i (xs.drop (i + 1))).take i → new.take i = xs.take i ++ xs.drop (i + 1) := by
      have hq : n - 1 = i := by exact (congrArg (· - 1) HNI.out)
      have := hfin.out
      rw [hq] at this
      exact this
    have hown := row_shut (base := base) (n := i) (cap := (i + 1)) hg hB3 (by omega) (by unfold maxLen; omega) (by rw [hln, hl2.out]) (hfq new htk)
    clear hB2 hg3 hgw2 hB3 htk
    go_wp2
    go_ret
    exact ⟨_, rfl, by have hq : n - 1 = i := by exact (congrArg (· - 1) HNI.out)
                      rw [hq]; exact hown, hgw3, rfl⟩
  · go_enter Tryz.func148, Tryz.ntmps148
    go_wp2_with fail
    have HS2 := HSRC
    refine wp_region_segs (fun _ => True) [(true, 6), (false, 1), (true, 1)] (by kernel_rfl) (by kernel_rfl) trivial ?_
    intro W _ hWe
    have hBW : Blk W g 3 cur := by rw [hWe]; exact hB
    have hgW : w.grownBy W (some g) := by rw [hWe]; exact ⟨rfl, rfl, rfl, Nat.le_refl _, fun _ _ _ => rfl⟩
    clear hWe hB
    simp only [wpSegs, List.take_succ_cons, List.take_zero, List.drop_succ_cons, List.drop_zero]
    repeat (go_big_quiet_step (fail))
    refine wpQuiet_nil ?_
    refine wpList_append_room_k K22 rfl (.tmp 22) (.tmp 25) rfl g i cap ⟨g, (i + 1), none⟩ _ _ rfl rfl cur hBW (xs.drop (i + 1)) ?c1 (blk_src hBW HS2.out) (fun u hu => H1C.out u (List.mem_of_mem_drop hu)) ?c2 (by rw [HCL.out, Nat.mul_one]) ?_
    case c1 => have := hcs.out; omega
    case c2 => omega
    intro w2 hB2 hg2
    rw [Nat.mul_one] at hB2
    rw [show i + (n - (i + 1)) = (n - 1) from by omega]
    have hgw2 := grown_trans hgW hg2
    have hl2 := Lib.hid (show (lay cur i (xs.drop (i + 1))).length = cap by rw [lay_len (by rw [hcs.out, HCL.out]; omega), HCL.out])
    clear hBW hgW hg2
    refine wpList_nil ⟨hold_of (S0 := fun _ => True) trivial, ?_⟩
    simp only [Act.put, List.setIfInBounds_toArray, List.set_cons_succ, List.set_cons_zero]
    repeat (go_big_quiet_step (fail))
    refine wpQuiet_nil ?_
    refine NoPanic.normal ?_
    have z1 : ¬ cap = (n - 1) := by omega
    have z2 : (((n - 1) : Nat) : Int) ≤ (n : Int) := by omega
    have z3 : ¬ ((n : Int) = 0) := by omega
    go_wp2_with (refine wpList_clear_k Tryz.underlying24 HC.out rfl (.tmp 31) rfl g (n - 1) _ _ rfl ?d0 _ 3 hB2 ?d1 ?_)
    case d0 => omega
    case d1 => rw [hl2.out]; omega
    intro w3 new hB3 hln htk hg3
    have hgw3 := grown_trans hgw2 hg3
    have hfq : ∀ new : List Value, new.take (n - 1) = (lay cur i (xs.drop (i + 1))).take (n - 1) → new.take (n - 1) = xs.take i ++ xs.drop (i + 1) := by
      have hq : n - 1 = (n - 1) := by rfl
      have := hfin.out
      rw [hq] at this
      exact this
    have hown := row_shut (base := base) (n := (n - 1)) (cap := cap) hg hB3 (by omega) (by unfold maxLen; omega) (by rw [hln, hl2.out]) (hfq new htk)
    clear hB2 hg3 hgw2 hB3 htk
    go_wp2
    go_ret
    exact ⟨_, rfl, by have hq : n - 1 = (n - 1) := by rfl
                      rw [hq]; exact hown, hgw3, rfl⟩

/-- The cells of numbers. -/
def nums (l : List Int) : List Value := l.map (Value.int .i64)
theorem nums_one {l : List Int} : ∀ u ∈ nums l, u.oneCell' = true := by
  intro u hu
  obtain ⟨x, _, rfl⟩ := List.mem_map.1 hu
  rfl
/-- A row of numbers of a call's own. -/
def Own (w : World) (B : Nat) (v : Value) (l : List Int) : Prop := w.ownsRow B 3 1 v l.length (nums l)
theorem Own.sl {w : World} {B : Nat} {v : Value} {l : List Int} (h : Own w B v l) : Sl w v l := by
  obtain ⟨a, c, h1, h2, h3, h4⟩ := own_form h
  refine ⟨a, c, h1, h2, h3, h4, fun h0 => ?_⟩
  obtain ⟨g, c', hV, _⟩ := own_pos h h0
  rw [h1] at hV
  cases hV
  obtain ⟨g', _, cur, hV', _, hB, _⟩ := row_open h h0
  rw [h1] at hV'
  cases hV'
  refine ⟨g, 0, rfl, ⟨cur, hB⟩, fun i hi => ?_⟩
  have := World.ownsRow.cells (g := g) h (by rw [h1]; rfl) i (.int .i64 (l.getD i 0)) (by simp [nums, List.getElem?_eq_getElem hi, List.getD_eq_getElem?_getD])
  rw [add_row] at this
  exact this
theorem Own.later {w w' : World} {B : Nat} {v : Value} {l : List Int} (h : Own w B v l) (hb : Below w.heap.size w w') : Own w' B v l := own_later h hb
theorem Own.nil (w : World) (B : Nat) : Own w B (.slice none 0 0) [] := World.ownsRow_nil _ _ _ _
theorem ints_src {w : World} {a : Option Addr} {l : List Int} {n c : Nat} (H : Ints w a l) (hn : l.length = n) (hz : a = none → c = 0) (hnc : n ≤ c) : Grow.Src w 1 a n c (nums l) := by
  refine ⟨by simp [nums, hn], nums_one, ?_⟩
  cases a with
  | none =>
    have := hz rfl
    exact .inl ⟨rfl, by omega, this⟩
  | some ad =>
    refine .inr ⟨ad, rfl, fun j u hj => ?_⟩
    have hjl : j < l.length := by
      rw [List.getElem?_eq_some_iff] at hj
      obtain ⟨h, _⟩ := hj
      simpa [nums] using h
    obtain ⟨b, off, ha, _, hc⟩ := H (by omega)
    cases ha
    rw [add_row, hc j hjl]
    rw [← hj]
    simp [nums, List.getElem?_eq_getElem hjl, List.getD_eq_getElem?_getD]
set_option maxRecDepth 100000 in set_option maxHeartbeats 1600000 in
theorem clone (v : Value) (l : List Int) (w : World) (H : Sl w v l) (hm : l.length ≤ 100000) :
    Calls Tryz.prog 43 #[v] w fun e w' => ∃ v', e = .returned v' ∧ Own w' w.heap.size v' l ∧ Below w.heap.size w w' := by
  obtain ⟨a, c, rfl, h1, h2, hz, H⟩ := H
  obtain ⟨n, hn⟩ : ∃ n, l.length = n := ⟨_, rfl⟩
  rw [hn] at h1 hm ⊢
  cases a with
  | none =>
    obtain rfl : c = 0 := hz rfl
    obtain rfl : n = 0 := by omega
    obtain rfl : l = [] := List.eq_nil_of_length_eq_zero hn
    have k1 := fun w' => Lib.run_eql_slice_nil (P := Tryz.prog) w' 24 3 none 0 0 0 0 Tryz.underlying24
    go_enter Tryz.func43, Tryz.ntmps43
    go_wp2
    go_ret
    exact ⟨_, rfl, Own.nil _ _, Below.refl _ _⟩
  | some ad =>
    have hsrc : Grow.Src (w.alloc (.cells #[] 3)) 1 (some ad) n c (nums l) := ints_src (H.below (below_box _ _)) hn (fun h => by cases h) h1
    have k1 := fun w' => Lib.run_eql_slice_nil (P := Tryz.prog) w' 24 3 (some ad) n c 0 0 Tryz.underlying24
    have hmade : (w.alloc (.cells #[] 3)).ownsRow w.heap.size 3 1 (.slice (some ⟨w.heap.size, 0, none⟩) 0 0) 0 [] := World.ownsRow_made w #[] 0 (Nat.le_refl _) (Nat.zero_le _) rfl
    have HS := Lib.hid hsrc
    clear hsrc
    go_enter Tryz.func43, Tryz.ntmps43
    go_wp2_with (at_builtin; refine wpList_append_k K22 rfl (.tmp 5) (.tmp 6) rfl _ 0 [] rfl hmade _ n c _ rfl HS.out ?c1 ?c2 ?_)
    case c1 => omega
    case c2 => simp
    intro v' w' hown hg _
    have hb : Below w.heap.size w w' := (below_box w _).grown hg (by simp) (fun k hk => by simp [Value.ownBlock] at hk; omega)
    have hown : Own w' w.heap.size v' l := by unfold Own; rw [hn]; first | exact hown | simpa using hown
    clear hg
    go_wp2
    go_ret
    exact ⟨_, rfl, hown, hb⟩
/-- What a call that changes a row of its own gives. -/
def RowAns (w : World) (base : Nat) (V : Value) (l : List Int) (e : Ending) (w' : World) : Prop :=
  ∃ V', e = .returned V' ∧ Own w' base V' l ∧ w.grownBy w' V.ownBlock ∧ (∀ k, V'.ownBlock = some k → V.ownBlock = some k ∨ w.heap.size ≤ k)
theorem del_nums {l : List Int} {i : Nat} : (nums l).take i ++ (nums l).drop (i + 1) = nums (l.eraseIdx i) := by
  simp [nums, List.eraseIdx_eq_take_drop_succ]
theorem Own.del {w w' : World} {base : Nat} {V : Value} {l : List Int} {i : Nat} {e : Ending} (hi : i < l.length) (h : DelAns w base V l.length ((nums l).take i ++ (nums l).drop (i + 1)) e w') : RowAns w base V (l.eraseIdx i) e w' := by
  obtain ⟨V', h1, h2, h3, h4⟩ := h
  rw [del_nums] at h2
  refine ⟨V', h1, ?_, h3, fun k hk => .inl (by rw [← h4]; exact hk)⟩
  unfold Own
  rw [List.length_eraseIdx, if_pos hi]
  exact h2
theorem Own.ins {w w' : World} {base : Nat} {V : Value} {l : List Int} {i : Nat} {x : Int} {e : Ending} (hi : i ≤ l.length) (h : InsAns w base V l.length ((nums l).take i ++ [.int .i64 x] ++ (nums l).drop i) e w') : RowAns w base V (l.take i ++ [x] ++ l.drop i) e w' := by
  obtain ⟨V', h1, h2, h3, h4⟩ := h
  refine ⟨V', h1, ?_, h3, h4⟩
  unfold Own
  have e1 : (l.take i ++ [x] ++ l.drop i).length = l.length + 1 := by simp; omega
  rw [e1]
  have e2 : nums (l.take i ++ [x] ++ l.drop i) = (nums l).take i ++ [.int .i64 x] ++ (nums l).drop i := by simp [nums]
  rw [e2]
  exact h2
end Go.Proofs.YtdddkfpcbfgocaaGreat
namespace Go.Grow
open Go.RowKit Go.Over
theorem add_off (g o j : Nat) : (⟨g, o, none⟩ : Addr).add j = ⟨g, o + j, none⟩ := by unfold Addr.add; split <;> simp_all
/-- A part of a row. -/
def seg (zs : List Value) (o n : Nat) : List Value := (zs.drop o).take n
theorem seg_len {zs : List Value} {o n : Nat} (h : o + n ≤ zs.length) : (seg zs o n).length = n := by simp [seg]; omega
theorem seg_get {zs : List Value} {o n j : Nat} (hj : j < n) : (seg zs o n)[j]? = zs[o + j]? := by
  simp [seg, List.getElem?_drop, hj]
theorem lay_same {L cs : List Value} {o : Nat} (h : o + cs.length ≤ L.length) : seg (lay L o cs) o cs.length = cs := by
  apply List.ext_getElem?
  intro j
  rcases Nat.lt_or_ge j cs.length with hj | hj
  · rw [seg_get hj]
    unfold lay
    have h1 : (L.take o).length = o := by simp; omega
    rw [List.append_assoc, List.getElem?_append_right (by omega), h1, show o + j - o = j by omega, List.getElem?_append_left hj]
  · rw [List.getElem?_eq_none hj, List.getElem?_eq_none (by rw [seg_len]; exact hj; rw [lay_len h]; exact h)]
theorem lay_get {L cs : List Value} {o j : Nat} (h : o + cs.length ≤ L.length) (hj : j < o ∨ o + cs.length ≤ j) : (lay L o cs)[j]? = L[j]? := by
  unfold lay
  have h1 : (L.take o).length = o := by simp; omega
  rcases hj with hj | hj
  · rw [List.append_assoc, List.getElem?_append_left (by omega), List.getElem?_take, if_pos hj]
  · rw [List.getElem?_append_right (by simp; omega), List.getElem?_drop]
    congr 1
    simp; omega
theorem lay_other {L cs : List Value} {o p n : Nat} (h : o + cs.length ≤ L.length) (hj : p + n ≤ o ∨ o + cs.length ≤ p) : seg (lay L o cs) p n = seg L p n := by
  apply List.ext_getElem?
  intro j
  rcases Nat.lt_or_ge j n with hjn | hjn
  · rw [seg_get hjn, seg_get hjn, lay_get h (by omega)]
  · simp [seg, List.getElem?_take, Nat.not_lt.2 hjn]
section
variable {P : Program}
theorem run_loadVar_part {w : World} {g o : Nat} {t ty : TypeId} {zs cs : List Value} {d : TypeDesc} (hB : Blk w g t zs) (hcs : ∀ j v, cs[j]? = some v → zs[o + j]? = some v)
    (hu : P.underlying ty = some d) (hd : (match d with | .struct _ | .array _ _ => true | _ => false) = true) (hi : (P.info? ty).map (·.size) = some cs.length) :
    (loadVar ty ⟨g, o, none⟩).run P w = .ok (.agg cs.toArray) w := by
  have hl : (loadCells ⟨g, o, none⟩ cs.length).run P w = .ok cs.toArray w :=
    run_loadCells_list (P := P) w ⟨g, o, none⟩ cs (fun j v hv => by
      rw [add_off, hB.cell]
      exact hcs j v hv)
  cases hq : P.info? ty with
  | none => simp [hq] at hi
  | some i =>
    have hs : i.size = cs.length := by simpa [hq] using hi
    have hagg : (isAgg ty).run P w = .ok true w := by
      unfold isAgg
      rw [Sem.run_bind, run_underlying hu w]
      cases d <;> simp_all
    simp [loadVar, Sem.run_bind, hagg, sizeOf, typeInfo, hq, hs, hl]
theorem wp_load_part {o : Oper} {a : Act} {w : World} {K : Act → World → Prop} {Q : Exit → Act → World → Prop} (ty : TypeId) (x : Operand) (ho : o.op = .load ty x)
    (g off : Nat) (hx : a.eval x = .pointer (some ⟨g, off, none⟩)) (t : TypeId) (zs cs : List Value) (d : TypeDesc) (hB : Blk w g t zs) (hcs : ∀ j v, cs[j]? = some v → zs[off + j]? = some v)
    (hu : P.underlying ty = some d) (hd : (match d with | .struct _ | .array _ _ => true | _ => false) = true) (hi : (P.info? ty).map (·.size) = some cs.length)
    (h : K (a.put o.dst (.agg cs.toArray)) w) : o.wp P a w K Q := by
  unfold Oper.wp execOp
  simp only [ho, hx, Instr.loadAt, Instr.sureAddr, Sem.run_bind, Sem.run_pure, Result.andThen_ok, run_loadVar_part hB hcs hu hd hi]
  exact h
theorem run_load_part {w : World} {ρ : Operand → Value} {o : Oper} {ty : TypeId} {x : Operand} (ho : o.op = .load ty x) (g off : Nat) (hx : ρ x = .pointer (some ⟨g, off, none⟩)) (t : TypeId) (zs cs : List Value) (d : TypeDesc) (hB : Blk w g t zs) (hcs : ∀ j v, cs[j]? = some v → zs[off + j]? = some v)
    (hu : P.underlying ty = some d) (hd : (match d with | .struct _ | .array _ _ => true | _ => false) = true) (hi : (P.info? ty).map (·.size) = some cs.length) :
    (execOp ρ o).run P w = .ok (.value (.agg cs.toArray)) w := by
  unfold execOp
  simp only [ho, hx, Instr.loadAt, Instr.sureAddr, Sem.run_bind, Sem.run_pure, Result.andThen_ok, run_loadVar_part hB hcs hu hd hi]
theorem run_storeVar_part {w : World} {g off : Nat} {t ty : TypeId} {zs cs : List Value} (hB : Blk w g t zs) (hfit : off + cs.length ≤ zs.length) (hi : (P.info? ty).map (·.size) = some cs.length) (h1 : ∀ v ∈ cs, v.oneCell' = true) :
    (storeVar ty ⟨g, off, none⟩ (.agg cs.toArray)).run P w = .ok () (w.setRow g (lay zs off cs).toArray) := by
  have := run_storeCells_at P g off t cs 0 zs.toArray w hB (by simpa using hfit) h1
  simp only [Nat.add_zero] at this
  cases hq : P.info? ty with
  | none => simp [hq] at hi
  | some i =>
    have hs : i.size = cs.length := by simpa [hq] using hi
    simp [storeVar, sizeOf, typeInfo, hq, Value.cells, hs, this, lay]
theorem wp_store_part {o : Oper} {a : Act} {w : World} {K : Act → World → Prop} {Q : Exit → Act → World → Prop} (ty : TypeId) (x y : Operand) (ho : o.op = .store ty x y)
    (g off : Nat) (hx : a.eval x = .pointer (some ⟨g, off, none⟩)) (t : TypeId) (zs cs : List Value) (hy : a.eval y = .agg cs.toArray) (hB : Blk w g t zs) (hfit : off + cs.length ≤ zs.length)
    (hi : (P.info? ty).map (·.size) = some cs.length) (h1 : ∀ v ∈ cs, v.oneCell' = true)
    (h : ∀ W, Blk W g t (lay zs off cs) → w.grownBy W (some g) → K (a.put o.dst undef) W) : o.wp P a w K Q := by
  obtain ⟨q1, q2⟩ := blk_setRow (new := lay zs off cs) hB
  unfold Oper.wp execOp
  simp only [ho, hx, hy, Instr.storeAt, Instr.sureAddr, Sem.run_bind, Sem.run_pure, Result.andThen_ok, run_storeVar_part hB hfit hi h1]
  exact h _ q1 q2
section
variable {ops : Array Oper} {rest : List Oper} {a : Act} {w : World} {Q : Exit → Act → World → Prop} {g off d i j : Nat} {t ty ty' : TypeId} {pos : String} {af : Array Edge} {zs cs : List Value} {D : TypeDesc}
/-- A part is loaded. -/
theorem wpList_load_part (hu : P.underlying ty = some D) (hd : (match D with | .struct _ | .array _ _ => true | _ => false) = true) (hi : (P.info? ty).map (·.size) = some cs.length)
    (hx : a.eval (.tmp i) = .pointer (some ⟨g, off, none⟩)) (hB : Blk w g t zs) (hcs : ∀ j v, cs[j]? = some v → zs[off + j]? = some v)
    (h : wpList P ops Q rest (a.put (some d) (.agg cs.toArray)) w) :
    wpList P ops Q ({ dst := some d, op := .load ty (.tmp i), type := ty', pos := pos, after := af, guard := none } :: rest) a w :=
  wpList_plain rfl fun _ hK => wp_load_part ty (.tmp i) rfl g off hx t zs cs D hB hcs hu hd hi (hK _ _ h)
theorem wpList_load_part_g {gd : Nat × Bool} (hu : P.underlying ty = some D) (hd : (match D with | .struct _ | .array _ _ => true | _ => false) = true) (hi : (P.info? ty).map (·.size) = some cs.length)
    (hw : Region.wanted { dst := some d, op := .load ty (.tmp i), type := ty', pos := pos, after := af, guard := some gd } (yielded ops a.tmps) = true)
    (hx : a.eval (.tmp i) = .pointer (some ⟨g, off, none⟩)) (hB : Blk w g t zs) (hcs : ∀ j v, cs[j]? = some v → zs[off + j]? = some v)
    (h : wpList P ops Q rest (a.put (some d) (.agg cs.toArray)) w) :
    wpList P ops Q ({ dst := some d, op := .load ty (.tmp i), type := ty', pos := pos, after := af, guard := some gd } :: rest) a w := by
  refine wpList_step fun K hK => ?_
  simp only [hw, if_true]
  exact wp_load_part ty (.tmp i) rfl g off hx t zs cs D hB hcs hu hd hi (hK _ _ h)
/-- A part is stored. -/
theorem wpList_store_part (hi : (P.info? ty).map (·.size) = some cs.length)
    (hx : a.eval (.tmp i) = .pointer (some ⟨g, off, none⟩)) (hy : a.eval (.tmp j) = .agg cs.toArray) (hB : Blk w g t zs) (hfit : off + cs.length ≤ zs.length) (h1 : ∀ v ∈ cs, v.oneCell' = true)
    (h : ∀ W, Blk W g t (lay zs off cs) → w.grownBy W (some g) → wpList P ops Q rest (a.put none undef) W) :
    wpList P ops Q ({ dst := none, op := .store ty (.tmp i) (.tmp j), type := ty', pos := pos, after := af, guard := none } :: rest) a w :=
  wpList_plain rfl fun _ hK => wp_store_part ty (.tmp i) (.tmp j) rfl g off hx t zs cs hy hB hfit hi h1 (fun W q1 q2 => hK _ _ (h W q1 q2))
/-- A constant is stored into a part. -/
theorem wpList_store_part_c (hi : (P.info? ty).map (·.size) = some cs.length) {v : Value}
    (hx : a.eval (.tmp i) = .pointer (some ⟨g, off, none⟩)) (hy : a.eval (.const v) = .agg cs.toArray) (hB : Blk w g t zs) (hfit : off + cs.length ≤ zs.length) (h1 : ∀ v ∈ cs, v.oneCell' = true)
    (h : ∀ W, Blk W g t (lay zs off cs) → w.grownBy W (some g) → wpList P ops Q rest (a.put none undef) W) :
    wpList P ops Q ({ dst := none, op := .store ty (.tmp i) (.const v), type := ty', pos := pos, after := af, guard := none } :: rest) a w :=
  wpList_plain rfl fun _ hK => wp_store_part ty (.tmp i) (.const v) rfl g off hx t zs cs hy hB hfit hi h1 (fun W q1 q2 => hK _ _ (h W q1 q2))
end
end
end Go.Grow
namespace Go.Proofs.YtdddkfpcbfgocaaGreat
open Go.RowKit Go.Over Go.Seg Go.Grow
theorem pflag (b : Bool) (x : Int) (w : World) : Calls Tryz.prog 115 #[.bool b, .int .u64 x] w fun e w' => e = .returned (.int .u64 (if b then x else 0)) ∧ w = w' := by
  cases b
  · go_enter Tryz.func115, Tryz.ntmps115
    go_wp2
    go_ret
    exact ⟨rfl, rfl⟩
  · go_enter Tryz.func115, Tryz.ntmps115
    go_wp2
    go_ret
    exact ⟨rfl, rfl⟩
set_option maxRecDepth 100000 in set_option maxHeartbeats 3200000 in
theorem formed1 (n : Int) (b : Bool) (w : World) : Calls Tryz.prog 114 #[.agg #[.int .i64 1, .int .i64 n, .bool b, .bool false, .bool false, .bool false]] w fun e w' => e = .returned (.bool true) ∧ Below w.heap.size w w' := by
  have b0 := below_box w (.cells #[.int .i64 1, .int .i64 n, .bool b, .bool false, .bool false, .bool false] 131)
  have b1 := below_box (w.alloc (.cells #[.int .i64 1, .int .i64 n, .bool b, .bool false, .bool false, .bool false] 131)) (.cells #[.int .i64 1, .int .i64 n, .bool false, .bool false, .bool false, .bool false] 131)
  go_enter Tryz.func114, Tryz.ntmps114
  go_wp2
  go_ret
  exact ⟨rfl, below_then b0 b1⟩
set_option maxRecDepth 100000 in set_option maxHeartbeats 3200000 in
theorem formed4 (n : Int) (w : World) : Calls Tryz.prog 114 #[.agg #[.int .i64 4, .int .i64 n, .bool false, .bool false, .bool false, .bool false]] w fun e w' => e = .returned (.bool true) ∧ Below w.heap.size w w' := by
  have b0 := below_box w (.cells #[.int .i64 4, .int .i64 n, .bool false, .bool false, .bool false, .bool false] 131)
  have b1 := below_box (w.alloc (.cells #[.int .i64 4, .int .i64 n, .bool false, .bool false, .bool false, .bool false] 131)) (.cells #[.int .i64 4, .int .i64 n, .bool false, .bool false, .bool false, .bool false] 131)
  go_enter Tryz.func114, Tryz.ntmps114
  go_wp2
  go_ret
  exact ⟨rfl, below_then b0 b1⟩
theorem wraps_u64 (n : Int) (h₀ : 0 ≤ n) (h₁ : n < 2 ^ 64) : IntKind.u64.wrap n = n := by rw [IntKind.wrap_u64]; omega
theorem or_word {n c : Int} (h0 : 0 ≤ n) (h1 : n ≤ 4294967295) (c0 : 0 ≤ c) (c1 : c < 256) : bits .or .u64 c (n * 256) = n * 256 + c := by
  obtain ⟨a, rfl⟩ := Int.eq_ofNat_of_zero_le h0
  obtain ⟨b, rfl⟩ := Int.eq_ofNat_of_zero_le c0
  have e : ((a : Int) * 256) = ((a * 256 : Nat) : Int) := by simp
  rw [e, (bits_nat .u64 64 (by decide) wraps_u64 b (a * 256) (by omega) (by omega)).2, Nat.or_comm, Nat.mul_comm a 256, ← Nat.two_pow_add_eq_or_of_lt (i := 8) (by omega) a]
  simp
theorem and_word {n c m : Nat} (h1 : n ≤ 4294967295) (c1 : c < 256) (m1 : m < 256) : bits .and .u64 ((n : Int) * 256 + c) m = ((c &&& m : Nat) : Int) := by
  have e : ((n : Int) * 256 + c) = ((n * 256 + c : Nat) : Int) := by simp
  rw [e, (bits_nat .u64 64 (by decide) wraps_u64 (n * 256 + c) m (by omega) (by omega)).1]
  have h2 : (n * 256 + c) &&& m < 2 ^ 8 := Nat.and_lt_two_pow _ (by omega)
  have h3 := Nat.and_mod_two_pow (a := n * 256 + c) (b := m) (n := 8)
  rw [Nat.mod_eq_of_lt h2, show (n * 256 + c) % 2 ^ 8 = c by omega, show m % 2 ^ 8 = m by omega] at h3
  rw [h3]
theorem and_num {n : Int} (h0 : 0 ≤ n) (h1 : n ≤ 4294967295) : bits .and .u64 n 4294967295 = n := by
  have := bits_mask .u64 64 (by decide) wraps_u64 32 (by decide) n h0 (by omega)
  rw [show ((2 : Int) ^ 32 - 1) = 4294967295 by decide] at this
  rw [this]
  omega
/-- The cells of an entry. -/
def SE (g : Nat) (k : Int) (b : Bool) (U : World) : Prop := U.cell? ⟨g, 0, none⟩ = some (.int .i64 k) ∧ U.cell? ⟨g, 2, none⟩ = some (.bool b) ∧ U.cell? ⟨g, 3, none⟩ = some (.bool false) ∧ U.cell? ⟨g, 4, none⟩ = some (.bool false) ∧ U.cell? ⟨g, 5, none⟩ = some (.bool false)
set_option maxRecDepth 100000 in set_option maxHeartbeats 3200000 in
theorem enc9 (n : Int) (h0 : 0 ≤ n) (h1 : n ≤ 4294967295) (w : World) : Calls Tryz.prog 65 #[.agg #[.int .i64 1, .int .i64 n, .bool true, .bool false, .bool false, .bool false]] w fun e w' => e = .returned (.tuple #[.int .u64 (n * 256 + 9), .int .i64 0]) ∧ Below w.heap.size w w' := by
  have b0 := below_box w (.cells #[.int .i64 1, .int .i64 n, .bool true, .bool false, .bool false, .bool false] 131)
  have X0 := Blk.new w 131 #[.int .i64 1, .int .i64 n, .bool true, .bool false, .bool false, .bool false] _ rfl
  have t1 : decide (n < 0) = false := by simp; omega
  have t2 : decide (4294967295 < n) = false := by simp; omega
  have HOR := Lib.hid (or_word (c := 9) h0 h1 (by decide) (by decide))
  go_enter Tryz.func65, Tryz.ntmps65
  go_wp2_with fail
  refine (formed1 n true _).mono ?_
  rintro e w2 ⟨rfl, b2⟩
  have X2 := X0.later b2
  have B2 := below_then b0 b2
  have hse : SE w.heap.size 1 true w2 := ⟨by rw [X2.cell]; rfl, by rw [X2.cell]; rfl, by rw [X2.cell]; rfl, by rw [X2.cell]; rfl, by rw [X2.cell]; rfl⟩
  clear b0 b2 X0 t1 t2
  go_upto_region 12 with fail
  go_cut [4] from 38 to 56 (fun v4 W => v4 = .int .u64 9 ∧ Below w.heap.size w W ∧ Blk W w.heap.size 131 [.int .i64 1, .int .i64 n, .bool true, .bool false, .bool false, .bool false])
  case first =>
    refine wp_region_plan (SE w.heap.size 1 true) (.quiet [0, 1, 2, 3, 4, 7, 8, 11, 12, 15, 16] (.only 5 (.quiet [6] (.only 9 (.quiet [10] (.only 13 (.quiet [14] (.only 17 (.quiet [18, 19] .done))))))))) 99 (by kernel_rfl) (by kernel_rfl) ⟨cell_later (Below.refl _ _).drew hse.1, cell_later (Below.refl _ _).drew hse.2.1, cell_later (Below.refl _ _).drew hse.2.2.1, cell_later (Below.refl _ _).drew hse.2.2.2.1, cell_later (Below.refl _ _).drew hse.2.2.2.2⟩ ?_
    intro W1 hWW hWe
    have bW : Below w2.heap.size w2 W1 := by rw [hWe]; exact (Below.refl _ _).drew
    have X1 := X2.later bW
    have B1 := below_then B2 bW
    have HSE := Lib.hid hWW
    clear hWe X2 B2 bW hse
    simp only [wpPlan, inOrder, List.filterMap_cons, List.filterMap_nil, List.getElem?_cons_zero, List.getElem?_cons_succ]
    have q0 := fun z => (hold_ok (S0 := SE w.heap.size 1 true) hWW z).1
    have q2 := fun z => (hold_ok (S0 := SE w.heap.size 1 true) hWW z).2.1
    have q3 := fun z => (hold_ok (S0 := SE w.heap.size 1 true) hWW z).2.2.1
    have q4 := fun z => (hold_ok (S0 := SE w.heap.size 1 true) hWW z).2.2.2.1
    have q5 := fun z => (hold_ok (S0 := SE w.heap.size 1 true) hWW z).2.2.2.2
    show wpQuiet _ _ _ _ (_ :: _ :: _ :: _ :: _ :: _ :: _ :: _ :: _ :: _ :: [_]) _
    repeat (go_big_quiet_step (fail))
    refine wpQuiet_nil ?_
    clear q0 q2 q3 q4 q5 hWW
    show wpList _ _ _ [_] _ _
    go_wp2_with fail
    refine (pflag _ _ W1).mono ?_
    rintro e _ ⟨rfl, rfl⟩
    go_wp2
    refine ⟨hold_of (S0 := SE w.heap.size 1 true) HSE.out, ?_⟩
    show wpQuiet _ _ _ _ ([_]) _
    repeat (go_big_quiet_step (fail))
    refine wpQuiet_nil ?_
    show wpList _ _ _ [_] _ _
    go_wp2_with fail
    refine (pflag _ _ W1).mono ?_
    rintro e _ ⟨rfl, rfl⟩
    go_wp2
    refine ⟨hold_of (S0 := SE w.heap.size 1 true) HSE.out, ?_⟩
    show wpQuiet _ _ _ _ ([_]) _
    repeat (go_big_quiet_step (fail))
    refine wpQuiet_nil ?_
    show wpList _ _ _ [_] _ _
    go_wp2_with fail
    refine (pflag _ _ W1).mono ?_
    rintro e _ ⟨rfl, rfl⟩
    go_wp2
    refine ⟨hold_of (S0 := SE w.heap.size 1 true) HSE.out, ?_⟩
    show wpQuiet _ _ _ _ ([_]) _
    repeat (go_big_quiet_step (fail))
    refine wpQuiet_nil ?_
    show wpList _ _ _ [_] _ _
    go_wp2_with fail
    refine (pflag _ _ W1).mono ?_
    rintro e _ ⟨rfl, rfl⟩
    go_wp2
    refine ⟨hold_of (S0 := SE w.heap.size 1 true) HSE.out, ?_⟩
    show wpQuiet _ _ _ _ (_ :: [_]) _
    repeat (go_big_quiet_step (fail))
    refine wpQuiet_nil ?_
    refine NoPanic.normal ?_
    go_wp2
    go_meet
    case rel => exact ⟨rfl, B1, X1⟩
  case rest =>
    obtain ⟨rfl, B3, X3⟩ := hcut
    clear B2 X2 hse
    have c1 : wc.cell? ⟨w.heap.size, 1, none⟩ = some (.int .i64 n) := by rw [X3.cell]; rfl
    have hor := HOR.out
    go_wp2
    go_ret2
    exact ⟨rfl, B3⟩
set_option maxRecDepth 100000 in set_option maxHeartbeats 3200000 in
theorem enc1 (n : Int) (h0 : 0 ≤ n) (h1 : n ≤ 4294967295) (w : World) : Calls Tryz.prog 65 #[.agg #[.int .i64 1, .int .i64 n, .bool false, .bool false, .bool false, .bool false]] w fun e w' => e = .returned (.tuple #[.int .u64 (n * 256 + 1), .int .i64 0]) ∧ Below w.heap.size w w' := by
  have b0 := below_box w (.cells #[.int .i64 1, .int .i64 n, .bool false, .bool false, .bool false, .bool false] 131)
  have X0 := Blk.new w 131 #[.int .i64 1, .int .i64 n, .bool false, .bool false, .bool false, .bool false] _ rfl
  have t1 : decide (n < 0) = false := by simp; omega
  have t2 : decide (4294967295 < n) = false := by simp; omega
  have HOR := Lib.hid (or_word (c := 1) h0 h1 (by decide) (by decide))
  go_enter Tryz.func65, Tryz.ntmps65
  go_wp2_with fail
  refine (formed1 n false _).mono ?_
  rintro e w2 ⟨rfl, b2⟩
  have X2 := X0.later b2
  have B2 := below_then b0 b2
  have hse : SE w.heap.size 1 false w2 := ⟨by rw [X2.cell]; rfl, by rw [X2.cell]; rfl, by rw [X2.cell]; rfl, by rw [X2.cell]; rfl, by rw [X2.cell]; rfl⟩
  clear b0 b2 X0 t1 t2
  go_upto_region 12 with fail
  go_cut [4] from 38 to 56 (fun v4 W => v4 = .int .u64 1 ∧ Below w.heap.size w W ∧ Blk W w.heap.size 131 [.int .i64 1, .int .i64 n, .bool false, .bool false, .bool false, .bool false])
  case first =>
    refine wp_region_plan (SE w.heap.size 1 false) (.quiet [0, 1, 2, 3, 4, 7, 8, 11, 12, 15, 16] (.only 5 (.quiet [6] (.only 9 (.quiet [10] (.only 13 (.quiet [14] (.only 17 (.quiet [18, 19] .done))))))))) 99 (by kernel_rfl) (by kernel_rfl) ⟨cell_later (Below.refl _ _).drew hse.1, cell_later (Below.refl _ _).drew hse.2.1, cell_later (Below.refl _ _).drew hse.2.2.1, cell_later (Below.refl _ _).drew hse.2.2.2.1, cell_later (Below.refl _ _).drew hse.2.2.2.2⟩ ?_
    intro W1 hWW hWe
    have bW : Below w2.heap.size w2 W1 := by rw [hWe]; exact (Below.refl _ _).drew
    have X1 := X2.later bW
    have B1 := below_then B2 bW
    have HSE := Lib.hid hWW
    clear hWe X2 B2 bW hse
    simp only [wpPlan, inOrder, List.filterMap_cons, List.filterMap_nil, List.getElem?_cons_zero, List.getElem?_cons_succ]
    have q0 := fun z => (hold_ok (S0 := SE w.heap.size 1 false) hWW z).1
    have q2 := fun z => (hold_ok (S0 := SE w.heap.size 1 false) hWW z).2.1
    have q3 := fun z => (hold_ok (S0 := SE w.heap.size 1 false) hWW z).2.2.1
    have q4 := fun z => (hold_ok (S0 := SE w.heap.size 1 false) hWW z).2.2.2.1
    have q5 := fun z => (hold_ok (S0 := SE w.heap.size 1 false) hWW z).2.2.2.2
    show wpQuiet _ _ _ _ (_ :: _ :: _ :: _ :: _ :: _ :: _ :: _ :: _ :: _ :: [_]) _
    repeat (go_big_quiet_step (fail))
    refine wpQuiet_nil ?_
    clear q0 q2 q3 q4 q5 hWW
    show wpList _ _ _ [_] _ _
    go_wp2_with fail
    refine (pflag _ _ W1).mono ?_
    rintro e _ ⟨rfl, rfl⟩
    go_wp2
    refine ⟨hold_of (S0 := SE w.heap.size 1 false) HSE.out, ?_⟩
    show wpQuiet _ _ _ _ ([_]) _
    repeat (go_big_quiet_step (fail))
    refine wpQuiet_nil ?_
    show wpList _ _ _ [_] _ _
    go_wp2_with fail
    refine (pflag _ _ W1).mono ?_
    rintro e _ ⟨rfl, rfl⟩
    go_wp2
    refine ⟨hold_of (S0 := SE w.heap.size 1 false) HSE.out, ?_⟩
    show wpQuiet _ _ _ _ ([_]) _
    repeat (go_big_quiet_step (fail))
    refine wpQuiet_nil ?_
    show wpList _ _ _ [_] _ _
    go_wp2_with fail
    refine (pflag _ _ W1).mono ?_
    rintro e _ ⟨rfl, rfl⟩
    go_wp2
    refine ⟨hold_of (S0 := SE w.heap.size 1 false) HSE.out, ?_⟩
    show wpQuiet _ _ _ _ ([_]) _
    repeat (go_big_quiet_step (fail))
    refine wpQuiet_nil ?_
    show wpList _ _ _ [_] _ _
    go_wp2_with fail
    refine (pflag _ _ W1).mono ?_
    rintro e _ ⟨rfl, rfl⟩
    go_wp2
    refine ⟨hold_of (S0 := SE w.heap.size 1 false) HSE.out, ?_⟩
    show wpQuiet _ _ _ _ (_ :: [_]) _
    repeat (go_big_quiet_step (fail))
    refine wpQuiet_nil ?_
    refine NoPanic.normal ?_
    go_wp2
    go_meet
    case rel => exact ⟨rfl, B1, X1⟩
  case rest =>
    obtain ⟨rfl, B3, X3⟩ := hcut
    clear B2 X2 hse
    have c1 : wc.cell? ⟨w.heap.size, 1, none⟩ = some (.int .i64 n) := by rw [X3.cell]; rfl
    have hor := HOR.out
    go_wp2
    go_ret2
    exact ⟨rfl, B3⟩
set_option maxRecDepth 100000 in set_option maxHeartbeats 3200000 in
theorem enc4 (n : Int) (h0 : 0 ≤ n) (h1 : n ≤ 4294967295) (w : World) : Calls Tryz.prog 65 #[.agg #[.int .i64 4, .int .i64 n, .bool false, .bool false, .bool false, .bool false]] w fun e w' => e = .returned (.tuple #[.int .u64 (n * 256 + 4), .int .i64 0]) ∧ Below w.heap.size w w' := by
  have b0 := below_box w (.cells #[.int .i64 4, .int .i64 n, .bool false, .bool false, .bool false, .bool false] 131)
  have X0 := Blk.new w 131 #[.int .i64 4, .int .i64 n, .bool false, .bool false, .bool false, .bool false] _ rfl
  have t1 : decide (n < 0) = false := by simp; omega
  have t2 : decide (4294967295 < n) = false := by simp; omega
  have HOR := Lib.hid (or_word (c := 4) h0 h1 (by decide) (by decide))
  go_enter Tryz.func65, Tryz.ntmps65
  go_wp2_with fail
  refine (formed4 n _).mono ?_
  rintro e w2 ⟨rfl, b2⟩
  have X2 := X0.later b2
  have B2 := below_then b0 b2
  have hse : SE w.heap.size 4 false w2 := ⟨by rw [X2.cell]; rfl, by rw [X2.cell]; rfl, by rw [X2.cell]; rfl, by rw [X2.cell]; rfl, by rw [X2.cell]; rfl⟩
  clear b0 b2 X0 t1 t2
  go_upto_region 12 with fail
  go_cut [4] from 38 to 56 (fun v4 W => v4 = .int .u64 4 ∧ Below w.heap.size w W ∧ Blk W w.heap.size 131 [.int .i64 4, .int .i64 n, .bool false, .bool false, .bool false, .bool false])
  case first =>
    refine wp_region_plan (SE w.heap.size 4 false) (.quiet [0, 1, 2, 3, 4, 7, 8, 11, 12, 15, 16] (.only 5 (.quiet [6] (.only 9 (.quiet [10] (.only 13 (.quiet [14] (.only 17 (.quiet [18, 19] .done))))))))) 99 (by kernel_rfl) (by kernel_rfl) ⟨cell_later (Below.refl _ _).drew hse.1, cell_later (Below.refl _ _).drew hse.2.1, cell_later (Below.refl _ _).drew hse.2.2.1, cell_later (Below.refl _ _).drew hse.2.2.2.1, cell_later (Below.refl _ _).drew hse.2.2.2.2⟩ ?_
    intro W1 hWW hWe
    have bW : Below w2.heap.size w2 W1 := by rw [hWe]; exact (Below.refl _ _).drew
    have X1 := X2.later bW
    have B1 := below_then B2 bW
    have HSE := Lib.hid hWW
    clear hWe X2 B2 bW hse
    simp only [wpPlan, inOrder, List.filterMap_cons, List.filterMap_nil, List.getElem?_cons_zero, List.getElem?_cons_succ]
    have q0 := fun z => (hold_ok (S0 := SE w.heap.size 4 false) hWW z).1
    have q2 := fun z => (hold_ok (S0 := SE w.heap.size 4 false) hWW z).2.1
    have q3 := fun z => (hold_ok (S0 := SE w.heap.size 4 false) hWW z).2.2.1
    have q4 := fun z => (hold_ok (S0 := SE w.heap.size 4 false) hWW z).2.2.2.1
    have q5 := fun z => (hold_ok (S0 := SE w.heap.size 4 false) hWW z).2.2.2.2
    show wpQuiet _ _ _ _ (_ :: _ :: _ :: _ :: _ :: _ :: _ :: _ :: _ :: _ :: [_]) _
    repeat (go_big_quiet_step (fail))
    refine wpQuiet_nil ?_
    clear q0 q2 q3 q4 q5 hWW
    show wpList _ _ _ [_] _ _
    go_wp2_with fail
    refine (pflag _ _ W1).mono ?_
    rintro e _ ⟨rfl, rfl⟩
    go_wp2
    refine ⟨hold_of (S0 := SE w.heap.size 4 false) HSE.out, ?_⟩
    show wpQuiet _ _ _ _ ([_]) _
    repeat (go_big_quiet_step (fail))
    refine wpQuiet_nil ?_
    show wpList _ _ _ [_] _ _
    go_wp2_with fail
    refine (pflag _ _ W1).mono ?_
    rintro e _ ⟨rfl, rfl⟩
    go_wp2
    refine ⟨hold_of (S0 := SE w.heap.size 4 false) HSE.out, ?_⟩
    show wpQuiet _ _ _ _ ([_]) _
    repeat (go_big_quiet_step (fail))
    refine wpQuiet_nil ?_
    show wpList _ _ _ [_] _ _
    go_wp2_with fail
    refine (pflag _ _ W1).mono ?_
    rintro e _ ⟨rfl, rfl⟩
    go_wp2
    refine ⟨hold_of (S0 := SE w.heap.size 4 false) HSE.out, ?_⟩
    show wpQuiet _ _ _ _ ([_]) _
    repeat (go_big_quiet_step (fail))
    refine wpQuiet_nil ?_
    show wpList _ _ _ [_] _ _
    go_wp2_with fail
    refine (pflag _ _ W1).mono ?_
    rintro e _ ⟨rfl, rfl⟩
    go_wp2
    refine ⟨hold_of (S0 := SE w.heap.size 4 false) HSE.out, ?_⟩
    show wpQuiet _ _ _ _ (_ :: [_]) _
    repeat (go_big_quiet_step (fail))
    refine wpQuiet_nil ?_
    refine NoPanic.normal ?_
    go_wp2
    go_meet
    case rel => exact ⟨rfl, B1, X1⟩
  case rest =>
    obtain ⟨rfl, B3, X3⟩ := hcut
    clear B2 X2 hse
    have c1 : wc.cell? ⟨w.heap.size, 1, none⟩ = some (.int .i64 n) := by rw [X3.cell]; rfl
    have hor := HOR.out
    go_wp2
    go_ret2
    exact ⟨rfl, B3⟩
theorem and_wordI {n : Int} (h0 : 0 ≤ n) (h1 : n ≤ 4294967295) (c m r : Nat) (c1 : c < 256) (m1 : m < 256) (hr : c &&& m = r) : bits .and .u64 (n * 256 + (c : Int)) (m : Int) = (r : Int) := by
  have := and_word (n := n.toNat) (by omega) c1 m1
  rw [Int.toNat_of_nonneg h0, hr] at this
  exact this
theorem infoE : (Tryz.prog.info? 131).map (·.size) = some 6 := by kernel_rfl
section
variable {ops : Array Oper} {rest : List Oper} {d i j : Nat} {ty : TypeId} {pos : String} {af : Array Edge} {a : Act} {w : World} {Q : Exit → Act → World → Prop} {g : Nat} {k n : Int} {b : Bool}
/-- The cells of an entry without flags but the permission to write. -/
def enC (k n : Int) (b : Bool) : List Value := [.int .i64 k, .int .i64 n, .bool b, .bool false, .bool false, .bool false]
/-- An entry is stored whole. -/
theorem stE {zs : List Value} (hx : a.eval (.tmp i) = .pointer (some ⟨g, 0, none⟩)) (hy : a.eval (.tmp j) = .agg (enC k n b).toArray) (hB : Blk w g 131 zs) (hz : zs.length = 6)
    (h : ∀ W, Blk W g 131 (enC k n b) → w.grownBy W (some g) → wpList Tryz.prog ops Q rest (a.put none undef) W) :
    wpList Tryz.prog ops Q ({ dst := none, op := .store 131 (.tmp i) (.tmp j), type := ty, pos := pos, after := af, guard := none } :: rest) a w := by
  have e : lay zs 0 (enC k n b) = enC k n b := by
    have hl : (enC k n b).length = 6 := rfl
    unfold lay
    rw [hl, List.take_zero, List.nil_append, List.drop_eq_nil_of_le (by omega), List.append_nil]
  refine wpList_store_part (cs := enC k n b) (by rw [infoE]; rfl) hx hy hB (by rw [hz]; exact Nat.le_refl _) ?_ fun W q1 q2 => h W (by rw [← e]; exact q1) q2
  intro u hu
  simp [enC] at hu
  rcases hu with rfl | rfl | rfl | rfl <;> rfl
theorem ldE (hx : a.eval (.tmp i) = .pointer (some ⟨g, 0, none⟩)) (hB : Blk w g 131 (enC k n b)) (h : wpList Tryz.prog ops Q rest (a.put (some d) (.agg (enC k n b).toArray)) w) :
    wpList Tryz.prog ops Q ({ dst := some d, op := .load 131 (.tmp i), type := ty, pos := pos, after := af, guard := none } :: rest) a w :=
  wpList_load_row rfl 131 (.tmp i) rfl g hx 131 (enC k n b).toArray (0, 0) _ hB Tryz.underlying131 rfl (by rw [infoE]; rfl) h
end
theorem resE1 {fn : Func} {p q : Tmp} (h : fn.results = #[.cell p 131, .tmp q]) (tmps : Array Value) (w : World) (g : Nat) (cs : List Value) (v : Value) (hp : tmps.getD p undef = .pointer (some ⟨g, 0, none⟩)) (hg : Blk w g 131 cs) (hl : cs.length = 6) (hv : tmps.getD q undef = v) :
    (results fn tmps).run Tryz.prog w = .ok (.tuple #[.agg cs.toArray, v]) w := by
  have hp' : tmps[p]?.getD undef = .pointer (some ⟨g, 0, none⟩) := by simpa using hp
  have hv' : tmps[q]?.getD undef = v := by simpa using hv
  have h1 := run_loadVar_row (P := Tryz.prog) w g 131 131 cs.toArray (0, 0) _ hg Tryz.underlying131 rfl (by rw [infoE]; simp [hl])
  simp [results, h, hp', hv', asAddr, h1]
theorem resE0 {fn : Func} {p : Tmp} (h : fn.results = #[.cell p 131]) (tmps : Array Value) (w : World) (g : Nat) (cs : List Value) (hp : tmps.getD p undef = .pointer (some ⟨g, 0, none⟩)) (hg : Blk w g 131 cs) (hl : cs.length = 6) :
    (results fn tmps).run Tryz.prog w = .ok (.agg cs.toArray) w :=
  results_cell_row h tmps w g 131 cs.toArray (0, 0) _ hp hg Tryz.underlying131 rfl (by rw [infoE]; simp [hl])
set_option maxRecDepth 100000 in set_option maxHeartbeats 3200000 in
theorem dec9 (n : Int) (h0 : 0 ≤ n) (h1 : n ≤ 4294967295) (w : World) : Calls Tryz.prog 64 #[.int .u64 (n * 256 + 9)] w fun e w' => e = .returned (.tuple #[.agg #[.int .i64 1, .int .i64 n, .bool true, .bool false, .bool false, .bool false], .int .i64 0]) ∧ Below w.heap.size w w' := by
  have a7 : bits .and .u64 (n * 256 + 9) 7 = 1 := and_wordI h0 h1 9 7 1 (by decide) (by decide) (by decide)
  have a8 : bits .and .u64 (n * 256 + 9) 8 = 8 := and_wordI h0 h1 9 8 8 (by decide) (by decide) (by decide)
  have a16 : bits .and .u64 (n * 256 + 9) 16 = 0 := and_wordI h0 h1 9 16 0 (by decide) (by decide) (by decide)
  have a32 : bits .and .u64 (n * 256 + 9) 32 = 0 := and_wordI h0 h1 9 32 0 (by decide) (by decide) (by decide)
  have a64 : bits .and .u64 (n * 256 + 9) 64 = 0 := and_wordI h0 h1 9 64 0 (by decide) (by decide) (by decide)
  have ad : (n * 256 + 9) / 256 = n := by omega
  have an : bits .and .u64 n 4294967295 = n := and_num h0 h1
  have HEN := Lib.hid (enc9 n h0 h1)
  go_enter Tryz.func64, Tryz.ntmps64
  go_upto_region 2 with fail
  clear a7 a8 a16 a32 a64 ad an
  have b1 := below_box w (.cells #[.int .i64 0, .int .i64 0, .bool false, .bool false, .bool false, .bool false] 131)
  have z1 := Blk.new w 131 #[.int .i64 0, .int .i64 0, .bool false, .bool false, .bool false, .bool false] _ rfl
  have s1 : (w.alloc (.cells #[.int .i64 0, .int .i64 0, .bool false, .bool false, .bool false, .bool false] 131)).heap.size = w.heap.size + 1 := by simp
  have b2 := below_box (w.alloc (.cells #[.int .i64 0, .int .i64 0, .bool false, .bool false, .bool false, .bool false] 131)) (.cells #[.int .i64 1, .int .i64 n, .bool true, .bool false, .bool false, .bool false] 131)
  have z2 := Blk.new (w.alloc (.cells #[.int .i64 0, .int .i64 0, .bool false, .bool false, .bool false, .bool false] 131)) 131 #[.int .i64 1, .int .i64 n, .bool true, .bool false, .bool false, .bool false] _ rfl
  rw [s1] at z2
  replace z1 := z1.later b2
  have B2 := below_then b1 b2
  obtain ⟨w2, hw2⟩ : ∃ W, W = (w.alloc (.cells #[.int .i64 0, .int .i64 0, .bool false, .bool false, .bool false, .bool false] 131)).alloc (.cells #[.int .i64 1, .int .i64 n, .bool true, .bool false, .bool false, .bool false] 131) := ⟨_, rfl⟩
  rw [← hw2] at z1 z2 B2 ⊢
  have n2 : w.heap.size ≠ w.heap.size + 1 := by omega
  obtain ⟨g4, hg4⟩ : ∃ g, w.heap.size + 1 = g := ⟨_, rfl⟩
  rw [hg4] at z2 n2 ⊢
  clear hw2 b1 b2 s1 hg4
  have z2 : Blk w2 g4 131 (enC 1 n true) := z2
  go_wp2_with ((with_reducible refine ldE ?_ z2 ?_); (focus rfl))
  refine (HEN.out w2).mono ?_
  rintro e w3 ⟨rfl, b3⟩
  replace z1 := z1.later b3; replace z2 := z2.later b3; replace B2 := below_then B2 b3
  clear b3 HEN
  go_wp2_with first | ((with_reducible refine ldE ?_ z2 ?_); (focus rfl)) | ((with_reducible refine stE (k := 1) (n := n) (b := true) ?_ ?_ z1 rfl ?_); (focus rfl); (focus rfl); intro w4 hB4 hg4)
  refine bodyPost_ret (resE1 rfl _ _ w.heap.size _ _ rfl hB4 rfl rfl) rfl ?_
  exact ⟨rfl, B2.grown hg4 B2.size (fun q hq => by cases hq; exact Nat.le_refl _)⟩
set_option maxRecDepth 100000 in set_option maxHeartbeats 3200000 in
theorem dec1 (n : Int) (h0 : 0 ≤ n) (h1 : n ≤ 4294967295) (w : World) : Calls Tryz.prog 64 #[.int .u64 (n * 256 + 1)] w fun e w' => e = .returned (.tuple #[.agg #[.int .i64 1, .int .i64 n, .bool false, .bool false, .bool false, .bool false], .int .i64 0]) ∧ Below w.heap.size w w' := by
  have a7 : bits .and .u64 (n * 256 + 1) 7 = 1 := and_wordI h0 h1 1 7 1 (by decide) (by decide) (by decide)
  have a8 : bits .and .u64 (n * 256 + 1) 8 = 0 := and_wordI h0 h1 1 8 0 (by decide) (by decide) (by decide)
  have a16 : bits .and .u64 (n * 256 + 1) 16 = 0 := and_wordI h0 h1 1 16 0 (by decide) (by decide) (by decide)
  have a32 : bits .and .u64 (n * 256 + 1) 32 = 0 := and_wordI h0 h1 1 32 0 (by decide) (by decide) (by decide)
  have a64 : bits .and .u64 (n * 256 + 1) 64 = 0 := and_wordI h0 h1 1 64 0 (by decide) (by decide) (by decide)
  have ad : (n * 256 + 1) / 256 = n := by omega
  have an : bits .and .u64 n 4294967295 = n := and_num h0 h1
  have HEN := Lib.hid (enc1 n h0 h1)
  go_enter Tryz.func64, Tryz.ntmps64
  go_upto_region 2 with fail
  clear a7 a8 a16 a32 a64 ad an
  have b1 := below_box w (.cells #[.int .i64 0, .int .i64 0, .bool false, .bool false, .bool false, .bool false] 131)
  have z1 := Blk.new w 131 #[.int .i64 0, .int .i64 0, .bool false, .bool false, .bool false, .bool false] _ rfl
  have s1 : (w.alloc (.cells #[.int .i64 0, .int .i64 0, .bool false, .bool false, .bool false, .bool false] 131)).heap.size = w.heap.size + 1 := by simp
  have b2 := below_box (w.alloc (.cells #[.int .i64 0, .int .i64 0, .bool false, .bool false, .bool false, .bool false] 131)) (.cells #[.int .i64 1, .int .i64 n, .bool false, .bool false, .bool false, .bool false] 131)
  have z2 := Blk.new (w.alloc (.cells #[.int .i64 0, .int .i64 0, .bool false, .bool false, .bool false, .bool false] 131)) 131 #[.int .i64 1, .int .i64 n, .bool false, .bool false, .bool false, .bool false] _ rfl
  rw [s1] at z2
  replace z1 := z1.later b2
  have B2 := below_then b1 b2
  obtain ⟨w2, hw2⟩ : ∃ W, W = (w.alloc (.cells #[.int .i64 0, .int .i64 0, .bool false, .bool false, .bool false, .bool false] 131)).alloc (.cells #[.int .i64 1, .int .i64 n, .bool false, .bool false, .bool false, .bool false] 131) := ⟨_, rfl⟩
  rw [← hw2] at z1 z2 B2 ⊢
  have n2 : w.heap.size ≠ w.heap.size + 1 := by omega
  obtain ⟨g4, hg4⟩ : ∃ g, w.heap.size + 1 = g := ⟨_, rfl⟩
  rw [hg4] at z2 n2 ⊢
  clear hw2 b1 b2 s1 hg4
  have z2 : Blk w2 g4 131 (enC 1 n false) := z2
  go_wp2_with ((with_reducible refine ldE ?_ z2 ?_); (focus rfl))
  refine (HEN.out w2).mono ?_
  rintro e w3 ⟨rfl, b3⟩
  replace z1 := z1.later b3; replace z2 := z2.later b3; replace B2 := below_then B2 b3
  clear b3 HEN
  go_wp2_with first | ((with_reducible refine ldE ?_ z2 ?_); (focus rfl)) | ((with_reducible refine stE (k := 1) (n := n) (b := false) ?_ ?_ z1 rfl ?_); (focus rfl); (focus rfl); intro w4 hB4 hg4)
  refine bodyPost_ret (resE1 rfl _ _ w.heap.size _ _ rfl hB4 rfl rfl) rfl ?_
  exact ⟨rfl, B2.grown hg4 B2.size (fun q hq => by cases hq; exact Nat.le_refl _)⟩
set_option maxRecDepth 100000 in set_option maxHeartbeats 3200000 in
theorem dec4 (n : Int) (h0 : 0 ≤ n) (h1 : n ≤ 4294967295) (w : World) : Calls Tryz.prog 64 #[.int .u64 (n * 256 + 4)] w fun e w' => e = .returned (.tuple #[.agg #[.int .i64 4, .int .i64 n, .bool false, .bool false, .bool false, .bool false], .int .i64 0]) ∧ Below w.heap.size w w' := by
  have a7 : bits .and .u64 (n * 256 + 4) 7 = 4 := and_wordI h0 h1 4 7 4 (by decide) (by decide) (by decide)
  have a8 : bits .and .u64 (n * 256 + 4) 8 = 0 := and_wordI h0 h1 4 8 0 (by decide) (by decide) (by decide)
  have a16 : bits .and .u64 (n * 256 + 4) 16 = 0 := and_wordI h0 h1 4 16 0 (by decide) (by decide) (by decide)
  have a32 : bits .and .u64 (n * 256 + 4) 32 = 0 := and_wordI h0 h1 4 32 0 (by decide) (by decide) (by decide)
  have a64 : bits .and .u64 (n * 256 + 4) 64 = 0 := and_wordI h0 h1 4 64 0 (by decide) (by decide) (by decide)
  have ad : (n * 256 + 4) / 256 = n := by omega
  have an : bits .and .u64 n 4294967295 = n := and_num h0 h1
  have HEN := Lib.hid (enc4 n h0 h1)
  go_enter Tryz.func64, Tryz.ntmps64
  go_upto_region 2 with fail
  clear a7 a8 a16 a32 a64 ad an
  have b1 := below_box w (.cells #[.int .i64 0, .int .i64 0, .bool false, .bool false, .bool false, .bool false] 131)
  have z1 := Blk.new w 131 #[.int .i64 0, .int .i64 0, .bool false, .bool false, .bool false, .bool false] _ rfl
  have s1 : (w.alloc (.cells #[.int .i64 0, .int .i64 0, .bool false, .bool false, .bool false, .bool false] 131)).heap.size = w.heap.size + 1 := by simp
  have b2 := below_box (w.alloc (.cells #[.int .i64 0, .int .i64 0, .bool false, .bool false, .bool false, .bool false] 131)) (.cells #[.int .i64 4, .int .i64 n, .bool false, .bool false, .bool false, .bool false] 131)
  have z2 := Blk.new (w.alloc (.cells #[.int .i64 0, .int .i64 0, .bool false, .bool false, .bool false, .bool false] 131)) 131 #[.int .i64 4, .int .i64 n, .bool false, .bool false, .bool false, .bool false] _ rfl
  rw [s1] at z2
  replace z1 := z1.later b2
  have B2 := below_then b1 b2
  obtain ⟨w2, hw2⟩ : ∃ W, W = (w.alloc (.cells #[.int .i64 0, .int .i64 0, .bool false, .bool false, .bool false, .bool false] 131)).alloc (.cells #[.int .i64 4, .int .i64 n, .bool false, .bool false, .bool false, .bool false] 131) := ⟨_, rfl⟩
  rw [← hw2] at z1 z2 B2 ⊢
  have n2 : w.heap.size ≠ w.heap.size + 1 := by omega
  obtain ⟨g4, hg4⟩ : ∃ g, w.heap.size + 1 = g := ⟨_, rfl⟩
  rw [hg4] at z2 n2 ⊢
  clear hw2 b1 b2 s1 hg4
  have z2 : Blk w2 g4 131 (enC 4 n false) := z2
  go_wp2_with ((with_reducible refine ldE ?_ z2 ?_); (focus rfl))
  refine (HEN.out w2).mono ?_
  rintro e w3 ⟨rfl, b3⟩
  replace z1 := z1.later b3; replace z2 := z2.later b3; replace B2 := below_then B2 b3
  clear b3 HEN
  go_wp2_with first | ((with_reducible refine ldE ?_ z2 ?_); (focus rfl)) | ((with_reducible refine stE (k := 4) (n := n) (b := false) ?_ ?_ z1 rfl ?_); (focus rfl); (focus rfl); intro w4 hB4 hg4)
  refine bodyPost_ret (resE1 rfl _ _ w.heap.size _ _ rfl hB4 rfl rfl) rfl ?_
  exact ⟨rfl, B2.grown hg4 B2.size (fun q hq => by cases hq; exact Nat.le_refl _)⟩
end Go.Proofs.YtdddkfpcbfgocaaGreat
namespace Go.Pt
/-- An entry: none, a page, or a table below. -/
structure En where
  k : Int
  n : Int
  b : Bool
structure VE (e : En) : Prop where
  h : (e.k = 0 ∧ e.n = 0 ∧ e.b = false) ∨ (e.k = 1 ∧ 0 ≤ e.n ∧ e.n ≤ 4294967295) ∨ (e.k = 4 ∧ e.b = false ∧ 0 ≤ e.n ∧ e.n ≤ 4294967295)
def e0 : En := ⟨0, 0, false⟩
/-- Its word. -/
def wd (e : En) : Int := e.n * 256 + (e.k + if e.b then 8 else 0)
theorem ve0 : VE e0 := ⟨.inl ⟨rfl, rfl, rfl⟩⟩
theorem VE.pos {e : En} (h : VE e) : 0 ≤ wd e ∧ wd e < 1099511627776 := by
  unfold wd
  rcases h.h with ⟨h1, h2, h3⟩ | ⟨h1, h2, h3⟩ | ⟨h1, h2, h3, h4⟩
  · rw [h1, h2, h3]; decide
  · rw [h1]; split <;> omega
  · rw [h1, h2]; simp; omega
theorem VE.zero {e : En} (h : VE e) : wd e = 0 ↔ e.k = 0 := by
  unfold wd
  rcases h.h with ⟨h1, h2, h3⟩ | ⟨h1, h2, h3⟩ | ⟨h1, h2, h3, h4⟩
  · rw [h1, h2, h3]; simp
  · rw [h1]; split <;> omega
  · rw [h1, h2]; simp; omega
end Go.Pt
namespace Go.Proofs.YtdddkfpcbfgocaaGreat
open Go.RowKit Go.Over Go.Seg Go.Grow Go.Pt
set_option maxRecDepth 100000 in set_option maxHeartbeats 3200000 in
theorem formed0 (w : World) : Calls Tryz.prog 114 #[.agg #[.int .i64 0, .int .i64 0, .bool false, .bool false, .bool false, .bool false]] w fun e w' => e = .returned (.bool true) ∧ Below w.heap.size w w' := by
  have b0 := below_box w (.cells #[.int .i64 0, .int .i64 0, .bool false, .bool false, .bool false, .bool false] 131)
  have b1 := below_box (w.alloc (.cells #[.int .i64 0, .int .i64 0, .bool false, .bool false, .bool false, .bool false] 131)) (.cells #[.int .i64 0, .int .i64 0, .bool false, .bool false, .bool false, .bool false] 131)
  go_enter Tryz.func114, Tryz.ntmps114
  go_wp2
  go_ret
  exact ⟨rfl, below_then b0 b1⟩
theorem frame_ok (n : Int) (h0 : 0 ≤ n) (h1 : n ≤ 4294967295) (w : World) : Calls Tryz.prog 110 #[.int .i64 n] w fun e w' => e = .returned (.bool true) ∧ w = w' := by
  have t1 : decide (0 ≤ n) = true := by simpa using h0
  have t2 : decide (n ≤ 4294967295) = true := by simpa using h1
  go_enter Tryz.func110, Tryz.ntmps110
  go_wp2
  go_ret
  exact ⟨rfl, rfl⟩
def dg (p l : Nat) : Nat := p / 8 ^ l % 8
set_option maxRecDepth 100000 in set_option maxHeartbeats 3200000 in
theorem digit (p l : Nat) (hp : p < 512) (hl : l ≤ 2) (w : World) : Calls Tryz.prog 129 #[.int .i64 p, .int .i64 l] w fun e w' => e = .returned (.int .i64 (dg p l : Nat)) ∧ w = w' := by
  go_enter Tryz.func129, Tryz.ntmps129
  go_wp2
  go_loopg [0, 6] l (fun gg v0 v6 wr => ∃ i : Nat, i + gg = l ∧ v0 = .int .i64 ((p / 8 ^ i : Nat) : Int) ∧ v6 = .int .i64 i ∧ w = wr)
  case atStart => exact ⟨0, by omega, by simp, rfl, rfl⟩
  case round =>
    obtain ⟨i, hi, rfl, rfl, rfl⟩ := hrel
    have hq : p / 8 ^ i ≤ p := Nat.div_le_self _ _
    obtain ⟨q, hqe⟩ : ∃ q, p / 8 ^ i = q := ⟨_, rfl⟩
    rw [hqe] at hq ⊢
    have HQ := Lib.hid hqe
    clear hqe
    cases gk with
    | zero =>
      have hin : ¬ i < l := by omega
      have HE := Lib.hid (show dg p l = q % 8 by unfold dg; rw [← HQ.out]; congr; omega)
      clear hi
      go_wp2
      go_ret
      exact ⟨by rw [HE.out]; simp, rfl⟩
    | succ gg =>
      have hin : i < l := by omega
      have HI := Lib.hid hi
      have HN := Lib.hid (show p / 8 ^ (i + 1) = q / 8 by rw [← HQ.out, Nat.pow_succ, Nat.div_div_eq_div_mul])
      clear hi
      go_wp2
      go_roundg gg
      case rel => exact ⟨i + 1, by have := HI.out; omega, by rw [HN.out]; simp, by go_num, rfl⟩
      case measure => omega
set_option maxRecDepth 100000 in set_option maxHeartbeats 3200000 in
theorem enc0 (w : World) : Calls Tryz.prog 65 #[.agg #[.int .i64 0, .int .i64 0, .bool false, .bool false, .bool false, .bool false]] w fun e w' => e = .returned (.tuple #[.int .u64 (0), .int .i64 0]) ∧ Below w.heap.size w w' := by
  have b0 := below_box w (.cells #[.int .i64 0, .int .i64 0, .bool false, .bool false, .bool false, .bool false] 131)
  have X0 := Blk.new w 131 #[.int .i64 0, .int .i64 0, .bool false, .bool false, .bool false, .bool false] _ rfl
  go_enter Tryz.func65, Tryz.ntmps65
  go_wp2_with fail
  refine (formed0 _).mono ?_
  rintro e w2 ⟨rfl, b2⟩
  have X2 := X0.later b2
  have B2 := below_then b0 b2
  have hse : SE w.heap.size 0 false w2 := ⟨by rw [X2.cell]; rfl, by rw [X2.cell]; rfl, by rw [X2.cell]; rfl, by rw [X2.cell]; rfl, by rw [X2.cell]; rfl⟩
  clear b0 b2 X0
  go_upto_region 12 with fail
  go_cut [4] from 38 to 56 (fun v4 W => v4 = .int .u64 0 ∧ Below w.heap.size w W ∧ Blk W w.heap.size 131 [.int .i64 0, .int .i64 0, .bool false, .bool false, .bool false, .bool false])
  case first =>
    refine wp_region_plan (SE w.heap.size 0 false) (.quiet [0, 1, 2, 3, 4, 7, 8, 11, 12, 15, 16] (.only 5 (.quiet [6] (.only 9 (.quiet [10] (.only 13 (.quiet [14] (.only 17 (.quiet [18, 19] .done))))))))) 99 (by kernel_rfl) (by kernel_rfl) ⟨cell_later (Below.refl _ _).drew hse.1, cell_later (Below.refl _ _).drew hse.2.1, cell_later (Below.refl _ _).drew hse.2.2.1, cell_later (Below.refl _ _).drew hse.2.2.2.1, cell_later (Below.refl _ _).drew hse.2.2.2.2⟩ ?_
    intro W1 hWW hWe
    have bW : Below w2.heap.size w2 W1 := by rw [hWe]; exact (Below.refl _ _).drew
    have X1 := X2.later bW
    have B1 := below_then B2 bW
    have HSE := Lib.hid hWW
    clear hWe X2 B2 bW hse
    simp only [wpPlan, inOrder, List.filterMap_cons, List.filterMap_nil, List.getElem?_cons_zero, List.getElem?_cons_succ]
    have q0 := fun z => (hold_ok (S0 := SE w.heap.size 0 false) hWW z).1
    have q2 := fun z => (hold_ok (S0 := SE w.heap.size 0 false) hWW z).2.1
    have q3 := fun z => (hold_ok (S0 := SE w.heap.size 0 false) hWW z).2.2.1
    have q4 := fun z => (hold_ok (S0 := SE w.heap.size 0 false) hWW z).2.2.2.1
    have q5 := fun z => (hold_ok (S0 := SE w.heap.size 0 false) hWW z).2.2.2.2
    show wpQuiet _ _ _ _ (_ :: _ :: _ :: _ :: _ :: _ :: _ :: _ :: _ :: _ :: [_]) _
    repeat (go_big_quiet_step (fail))
    refine wpQuiet_nil ?_
    clear q0 q2 q3 q4 q5 hWW
    show wpList _ _ _ [_] _ _
    go_wp2_with fail
    refine (pflag _ _ W1).mono ?_
    rintro e _ ⟨rfl, rfl⟩
    go_wp2
    refine ⟨hold_of (S0 := SE w.heap.size 0 false) HSE.out, ?_⟩
    show wpQuiet _ _ _ _ ([_]) _
    repeat (go_big_quiet_step (fail))
    refine wpQuiet_nil ?_
    show wpList _ _ _ [_] _ _
    go_wp2_with fail
    refine (pflag _ _ W1).mono ?_
    rintro e _ ⟨rfl, rfl⟩
    go_wp2
    refine ⟨hold_of (S0 := SE w.heap.size 0 false) HSE.out, ?_⟩
    show wpQuiet _ _ _ _ ([_]) _
    repeat (go_big_quiet_step (fail))
    refine wpQuiet_nil ?_
    show wpList _ _ _ [_] _ _
    go_wp2_with fail
    refine (pflag _ _ W1).mono ?_
    rintro e _ ⟨rfl, rfl⟩
    go_wp2
    refine ⟨hold_of (S0 := SE w.heap.size 0 false) HSE.out, ?_⟩
    show wpQuiet _ _ _ _ ([_]) _
    repeat (go_big_quiet_step (fail))
    refine wpQuiet_nil ?_
    show wpList _ _ _ [_] _ _
    go_wp2_with fail
    refine (pflag _ _ W1).mono ?_
    rintro e _ ⟨rfl, rfl⟩
    go_wp2
    refine ⟨hold_of (S0 := SE w.heap.size 0 false) HSE.out, ?_⟩
    show wpQuiet _ _ _ _ (_ :: [_]) _
    repeat (go_big_quiet_step (fail))
    refine wpQuiet_nil ?_
    refine NoPanic.normal ?_
    go_wp2
    go_meet
    case rel => exact ⟨rfl, B1, X1⟩
  case rest =>
    obtain ⟨rfl, B3, X3⟩ := hcut
    clear B2 X2 hse
    have c1 : wc.cell? ⟨w.heap.size, 1, none⟩ = some (.int .i64 0) := by rw [X3.cell]; rfl
    go_wp2
    go_ret2
    exact ⟨rfl, B3⟩
set_option maxRecDepth 100000 in set_option maxHeartbeats 3200000 in
theorem dec0 (w : World) : Calls Tryz.prog 64 #[.int .u64 (0)] w fun e w' => e = .returned (.tuple #[.agg #[.int .i64 0, .int .i64 0, .bool false, .bool false, .bool false, .bool false], .int .i64 0]) ∧ Below w.heap.size w w' := by
  have an : bits .and .u64 0 4294967295 = 0 := and_num (by decide) (by decide)
  have a7 : bits .and .u64 0 7 = 0 := and_wordI (n := 0) (by decide) (by decide) 0 7 0 (by decide) (by decide) (by decide)
  have a8 : bits .and .u64 0 8 = 0 := and_wordI (n := 0) (by decide) (by decide) 0 8 0 (by decide) (by decide) (by decide)
  have a16 : bits .and .u64 0 16 = 0 := and_wordI (n := 0) (by decide) (by decide) 0 16 0 (by decide) (by decide) (by decide)
  have a32 : bits .and .u64 0 32 = 0 := and_wordI (n := 0) (by decide) (by decide) 0 32 0 (by decide) (by decide) (by decide)
  have a64 : bits .and .u64 0 64 = 0 := and_wordI (n := 0) (by decide) (by decide) 0 64 0 (by decide) (by decide) (by decide)
  have HEN := Lib.hid enc0
  go_enter Tryz.func64, Tryz.ntmps64
  go_upto_region 2 with fail
  clear a7 a8 a16 a32 a64 an
  have b1 := below_box w (.cells #[.int .i64 0, .int .i64 0, .bool false, .bool false, .bool false, .bool false] 131)
  have z1 := Blk.new w 131 #[.int .i64 0, .int .i64 0, .bool false, .bool false, .bool false, .bool false] _ rfl
  have s1 : (w.alloc (.cells #[.int .i64 0, .int .i64 0, .bool false, .bool false, .bool false, .bool false] 131)).heap.size = w.heap.size + 1 := by simp
  have b2 := below_box (w.alloc (.cells #[.int .i64 0, .int .i64 0, .bool false, .bool false, .bool false, .bool false] 131)) (.cells #[.int .i64 0, .int .i64 0, .bool false, .bool false, .bool false, .bool false] 131)
  have z2 := Blk.new (w.alloc (.cells #[.int .i64 0, .int .i64 0, .bool false, .bool false, .bool false, .bool false] 131)) 131 #[.int .i64 0, .int .i64 0, .bool false, .bool false, .bool false, .bool false] _ rfl
  rw [s1] at z2
  replace z1 := z1.later b2
  have B2 := below_then b1 b2
  obtain ⟨w2, hw2⟩ : ∃ W, W = (w.alloc (.cells #[.int .i64 0, .int .i64 0, .bool false, .bool false, .bool false, .bool false] 131)).alloc (.cells #[.int .i64 0, .int .i64 0, .bool false, .bool false, .bool false, .bool false] 131) := ⟨_, rfl⟩
  rw [← hw2] at z1 z2 B2 ⊢
  have n2 : w.heap.size ≠ w.heap.size + 1 := by omega
  obtain ⟨g4, hg4⟩ : ∃ g, w.heap.size + 1 = g := ⟨_, rfl⟩
  rw [hg4] at z2 n2 ⊢
  clear hw2 b1 b2 s1 hg4
  have z2 : Blk w2 g4 131 (enC 0 0 false) := z2
  go_wp2_with ((with_reducible refine ldE ?_ z2 ?_); (focus rfl))
  refine (HEN.out w2).mono ?_
  rintro e w3 ⟨rfl, b3⟩
  replace z1 := z1.later b3; replace z2 := z2.later b3; replace B2 := below_then B2 b3
  clear b3 HEN
  go_wp2_with first | ((with_reducible refine ldE ?_ z2 ?_); (focus rfl)) | ((with_reducible refine stE (k := 0) (n := 0) (b := false) ?_ ?_ z1 rfl ?_); (focus rfl); (focus rfl); intro w4 hB4 hg4)
  refine bodyPost_ret (resE1 rfl _ _ w.heap.size _ _ rfl hB4 rfl rfl) rfl ?_
  exact ⟨rfl, B2.grown hg4 B2.size (fun q hq => by cases hq; exact Nat.le_refl _)⟩
/-- What decoding gives. -/
theorem decE {e : En} (h : VE e) (w : World) : Calls Tryz.prog 64 #[.int .u64 (wd e)] w fun x w' => x = .returned (.tuple #[.agg (enC e.k e.n e.b).toArray, .int .i64 0]) ∧ Below w.heap.size w w' := by
  obtain ⟨k, n, b⟩ := e
  rcases h.h with ⟨h1, h2, h3⟩ | ⟨h1, h2, h3⟩ | ⟨h1, h2, h3, h4⟩
  · simp only at h1 h2 h3
    subst h1 h2 h3
    exact dec0 w
  · simp only at h1 h2 h3
    subst h1
    cases b with
    | true => exact dec9 n h2 h3 w
    | false => exact dec1 n h2 h3 w
  · simp only at h1 h2 h3 h4
    subst h1 h2
    exact dec4 n h3 h4 w
set_option maxRecDepth 100000 in set_option maxHeartbeats 3200000 in
theorem entryE {e : En} (h : VE e) (w : World) : Calls Tryz.prog 116 #[.int .u64 (wd e)] w fun x w' => x = .returned (.agg (enC e.k e.n e.b).toArray) ∧ Below w.heap.size w w' := by
  have b0 := below_box w (.cells #[.int .i64 0, .int .i64 0, .bool false, .bool false, .bool false, .bool false] 131)
  have z0 := Blk.new w 131 #[.int .i64 0, .int .i64 0, .bool false, .bool false, .bool false, .bool false] _ rfl
  obtain ⟨x, hx⟩ : ∃ x, wd e = x := ⟨_, rfl⟩
  have HD := Lib.hid (fun W => decE h W)
  rw [hx] at HD ⊢
  clear hx h
  go_enter Tryz.func116, Tryz.ntmps116
  go_wp2_with fail
  refine (HD.out _).mono ?_
  rintro q w2 ⟨rfl, b2⟩
  have z1 := z0.later b2
  have B2 := below_then b0 b2
  have z2 := Blk.new w2 131 #[.int .i64 0, .int .i64 0, .bool false, .bool false, .bool false, .bool false] _ rfl
  have n2 : w2.heap.size ≠ w.heap.size := by have := z1.lt; omega
  have z3 := z1.later (below_box w2 (.cells #[.int .i64 0, .int .i64 0, .bool false, .bool false, .bool false, .bool false] 131))
  have B3 := below_then B2 (below_box w2 (.cells #[.int .i64 0, .int .i64 0, .bool false, .bool false, .bool false, .bool false] 131))
  have l2 := B2.size
  clear b0 z0 b2 z1 HD B2
  go_upto_region 2 with ((with_reducible refine stE (k := e.k) (n := e.n) (b := e.b) ?_ ?_ z2 rfl ?_); (focus rfl); (focus rfl); intro w4 hB4 hg4)
  have z4 := z3.grown hg4 (by simpa using n2)
  have B4 := B3.grown hg4 B3.size (fun q hq => by cases hq; exact l2)
  clear z2 z3 B3 hg4
  go_wp2_with first | ((with_reducible refine ldE ?_ hB4 ?_); (focus rfl)) | ((with_reducible refine stE (k := e.k) (n := e.n) (b := e.b) ?_ ?_ z4 rfl ?_); (focus rfl); (focus rfl); intro w5 hB5 hg5)
  refine bodyPost_ret (resE0 rfl _ _ w.heap.size _ rfl hB5 rfl) rfl ?_
  exact ⟨rfl, B4.grown hg5 B4.size (fun q hq => by cases hq; exact Nat.le_refl _)⟩
end Go.Proofs.YtdddkfpcbfgocaaGreat
namespace Go.Grow
open Go.RowKit Go.Over Go.ChangeMaps Go.MapKept
open Go.WideElems (Fit rd_mk rd_key rd_val)
open Go.Maps (Keyed fit_look int_keyed keyOf_int_mk)
/-- What a key is bound to. -/
def kv (l : List (Int × Int)) (x : Int) : Option Int := (l.find? fun p => p.1 == x).map (·.2)
theorem kv_some {l : List (Int × Int)} {x v : Int} (hn : (l.map (·.1)).Nodup) (h : (x, v) ∈ l) : kv l x = some v := by
  induction l with
  | nil => cases h
  | cons p r ih =>
    obtain ⟨h1, h2⟩ := List.nodup_cons.1 (by simpa using hn : (p.1 :: r.map (·.1)).Nodup)
    unfold kv
    rw [List.find?_cons]
    rcases List.mem_cons.1 h with rfl | h
    · simp
    · have : ¬ p.1 = x := fun e => h1 (by rw [e]; exact List.mem_map.2 ⟨(x, v), h, rfl⟩)
      have hb : (p.1 == x) = false := by simpa using this
      simp only [hb]
      exact ih h2 h
theorem kv_none {l : List (Int × Int)} {x : Int} (h : x ∉ l.map (·.1)) : kv l x = none := by
  unfold kv
  rw [List.find?_eq_none.2 fun p hp => by
    have : ¬ p.1 = x := fun e => h (List.mem_map.2 ⟨p, hp, e⟩)
    simpa using this]
  rfl
/-- Block m is a map with the pairs of l. -/
def MapI (P : Program) (k e : TypeId) (w : World) (m : Nat) (l : List (Int × Int)) : Prop :=
  ∃ es clock, w.heap[m]? = some (.map es clock) ∧ Fit P k (plainElem (H := Unit) P e) es clock ∧ es.size = l.length ∧ (∀ x v, (∃ y ∈ es.toList, y.key = .int .i64 x ∧ y.val = .int .i64 v) ↔ (x, v) ∈ l) ∧ (∀ y ∈ es.toList, ∃ x v, y.key = .int .i64 x ∧ y.val = .int .i64 v) ∧ (l.map (·.1)).Nodup
section
variable {P : Program} {k e t ty : TypeId} {w w' : World} {m : Nat} {l : List (Int × Int)}
theorem MapI.made (w : World) (P : Program) (k e : TypeId) : MapI P k e (w.alloc (.map #[] 0)) w.heap.size [] :=
  ⟨#[], 0, (MapKept.heap_alloc w _).1, ⟨by simp, stamped_empty 0, by simp⟩, rfl, by simp, by simp, List.nodup_nil⟩
theorem MapI.lt (h : MapI P k e w m l) : m < w.heap.size := by
  obtain ⟨es, clock, hb, _⟩ := h
  exact (Array.getElem?_eq_some_iff.1 hb).1
theorem MapI.later (h : MapI P k e w m l) (hb : Below w.heap.size w w') : MapI P k e w' m l := by
  have hlt := h.lt
  obtain ⟨es, clock, h1, h2⟩ := h
  exact ⟨es, clock, (hb.block m hlt).trans h1, h2⟩
theorem MapI.kept {row : Option Nat} (h : MapI P k e w m l) (hg : w.grownBy w' row) (hne : some m ≠ row) : MapI P k e w' m l := by
  have hlt := h.lt
  obtain ⟨es, clock, h1, h2⟩ := h
  exact ⟨es, clock, (hg.block m hlt hne).trans h1, h2⟩
theorem MapI.look (c : Bool) (h : MapI P k e w m l) (ht : P.underlying t = some (.map k e)) (hk : P.underlying k = some (.int .i64)) (hz : (zeroValue e).run P w = .ok (.int .i64 0) w) {x : Int} (hx : (Lit.int .i64 x).wf = true) :
    (Instr.lookup t (.map (some m)) (.int .i64 x) c).run P w = .ok (if c then .tuple #[.int .i64 ((kv l x).getD 0), .bool (kv l x).isSome] else .int .i64 ((kv l x).getD 0)) w := by
  obtain ⟨es, clock, h1, h2, h3, h4, h5, h6⟩ := h
  rcases fit_look c (int_keyed hk) ht hz h1 h2 (keyOf_int_mk hk hx) with ⟨hr, hn, _⟩ | ⟨e0, y, hm, hkey, hr, _⟩
  · have : x ∉ l.map (·.1) := fun hm => by
      obtain ⟨⟨x', v⟩, hp, rfl⟩ := List.mem_map.1 hm
      obtain ⟨y, hy, hk, _⟩ := (h4 x' v).2 hp
      exact hn y hy hk
    rw [hr, kv_none this]
    rfl
  · obtain ⟨x', v, q1, q2⟩ := h5 e0 hm
    rw [hkey] at q1
    cases q1
    rw [hr, q2, kv_some h6 ((h4 x v).1 ⟨e0, hm, hkey, q2⟩)]
    rfl
theorem MapI.add (h : MapI P k e w m l) (ht : P.underlying t = some (.map k e)) (hk : P.underlying k = some (.int .i64)) (he : P.underlying e = some (.int .i64)) {x v : Int} (hx : (Lit.int .i64 x).wf = true) (hv : (Lit.int .i64 v).wf = true) (hn : x ∉ l.map (·.1)) (hl : l.length < maxLen) :
    ∃ w', (Instr.mapUpdate t (.map (some m)) (.int .i64 x) (.int .i64 v)).run P w = .ok () w' ∧ MapI P k e w' m (l ++ [(x, v)]) ∧ w.grownBy w' (some m) := by
  obtain ⟨es, clock, h1, h2, h3, h4, h5, h6⟩ := h
  have K := int_keyed (P := P) hk
  have hkey := keyOf_int_mk (P := P) hk hx
  rcases K.find w hkey es.toList (fun y hy => by obtain ⟨z, hz⟩ := h2.reads y hy; exact ⟨_, rd_key hz⟩) with ⟨q1, q2⟩ | ⟨j, e0, q1, q2, q3⟩
  · refine ⟨setBlock w m (.map (es.push ⟨.int .i64 x, .int .i64 v, clock⟩) (clock + 1)), ?_, ⟨es.push ⟨.int .i64 x, .int .i64 v, clock⟩, clock + 1, heap_setBlock_same h1 _, ⟨by simp; omega, stamped_push h2.stamped q2, ?_⟩, by simp [h3], fun x' v' => ?_, ?_, ?_⟩, ⟨rfl, rfl, rfl, by simp [setBlock], fun i _ hi => heap_setBlock_other h1 _ (fun e => hi (by rw [e]))⟩⟩
    · simp [Instr.mapUpdate, run_underlying ht, MapKept.run_getObj_map h1, K.check w false hkey, q1, MapKept.run_setObj_map _ h1, Result.andThen, setBlock]
    · intro y hy
      simp only [Array.toList_push, List.mem_append, List.mem_singleton] at hy
      rcases hy with hy | rfl
      · exact h2.reads y hy
      · exact ⟨_, rd_mk hkey (plainElem_int he hv)⟩
    · simp only [Array.toList_push, List.mem_append, List.mem_singleton]
      constructor
      · rintro ⟨z, hz | rfl, hzk, hzv⟩
        · exact .inl ((h4 x' v').1 ⟨z, hz, hzk, hzv⟩)
        · simp at hzk hzv; exact .inr (by rw [hzk, hzv])
      · rintro (hy | hy)
        · obtain ⟨z, hz, hzk, hzv⟩ := (h4 x' v').2 hy
          exact ⟨z, .inl hz, hzk, hzv⟩
        · cases hy; exact ⟨_, .inr rfl, rfl, rfl⟩
    · intro y hy
      simp only [Array.toList_push, List.mem_append, List.mem_singleton] at hy
      rcases hy with hy | rfl
      · exact h5 y hy
      · exact ⟨x, v, rfl, rfl⟩
    · rw [List.map_append]
      exact List.nodup_append.2 ⟨h6, by simp, fun y hy z hz e => hn (by
        simp at hz
        rw [← hz, ← e]; exact hy)⟩
  · obtain ⟨x', v', p1, p2⟩ := h5 e0 (List.mem_of_getElem? q2)
    rw [q3] at p1
    cases p1
    exact absurd (List.mem_map.2 ⟨(x, v'), (h4 x v').1 ⟨e0, List.mem_of_getElem? q2, q3, p2⟩, rfl⟩) hn
/-- The operation, for the walk. -/
theorem wpList_addI {ops : Array Oper} {rest : List Oper} {dst : Option Nat} {i j q : Nat} {ty : TypeId} {pos : String} {af : Array Edge} {a : Act} {Q : Exit → Act → World → Prop} {x v : Int}
    (ht : P.underlying t = some (.map k e)) (hk : P.underlying k = some (.int .i64)) (he : P.underlying e = some (.int .i64))
    (hi : a.eval (.tmp i) = .map (some m)) (hj : a.eval (.tmp j) = .int .i64 x) (hq : a.eval (.tmp q) = .int .i64 v) (h : MapI P k e w m l) (hx : (Lit.int .i64 x).wf = true) (hv : (Lit.int .i64 v).wf = true) (hn : x ∉ l.map (·.1)) (hl : l.length < maxLen)
    (hK : ∀ w', MapI P k e w' m (l ++ [(x, v)]) → w.grownBy w' (some m) → wpList P ops Q rest (a.put dst undef) w') :
    wpList P ops Q ({ dst := dst, op := .mapUpdate t (.tmp i) (.tmp j) (.tmp q), type := ty, pos := pos, after := af, guard := none } :: rest) a w := by
  refine wpList_plain rfl fun K' hK' => ?_
  obtain ⟨w', hrun, r1, r2⟩ := h.add ht hk he hx hv hn hl
  unfold Oper.wp
  simp only [execOp, hi, hj, hq, Sem.run_bind, hrun, Result.andThen_ok, Sem.run_pure]
  exact hK' _ _ (hK w' r1 r2)
end
end Go.Grow
namespace Go.Pt
/-- A node: its frame, and its eight entries. -/
structure Nd where
  f : Int
  e : Nat → En
def nd0 : Nd := ⟨0, fun _ => e0⟩
def ndC (x : Nd) : List Value := [.int .i64 x.f, .int .u64 (wd (x.e 0)), .int .u64 (wd (x.e 1)), .int .u64 (wd (x.e 2)), .int .u64 (wd (x.e 3)), .int .u64 (wd (x.e 4)), .int .u64 (wd (x.e 5)), .int .u64 (wd (x.e 6)), .int .u64 (wd (x.e 7))]
/-- The positions by the frames. -/
def prs (N : List Nd) (n : Nat) : List (Int × Int) := (List.range n).map fun j => ((N.getD j nd0).f, (j : Int))
theorem prs_next {N : List Nd} {i : Nat} {x : Nd} (h : N[i]? = some x) : prs N (i + 1) = prs N i ++ [(x.f, (i : Int))] := by
  unfold prs
  rw [List.range_succ, List.map_append]
  simp [List.getD_eq_getElem?_getD, h]
theorem prs_keys {N : List Nd} : ∀ {n : Nat}, n ≤ N.length → (prs N n).map (·.1) = (N.take n).map (·.f)
  | 0, _ => by simp [prs]
  | n + 1, h => by
    have hx : N[n]? = some N[n] := List.getElem?_eq_getElem (by omega)
    rw [prs_next hx, List.map_append, prs_keys (by omega), List.take_add_one, hx, List.map_append]
    rfl
theorem prs_new {N : List Nd} {i : Nat} {x : Nd} (hd : (N.map (·.f)).Nodup) (h : N[i]? = some x) : x.f ∉ (prs N i).map (·.1) := by
  have hl : i < N.length := by rw [List.getElem?_eq_some_iff] at h; exact h.1
  rw [prs_keys (by omega)]
  intro hm
  have h1 : (N.take (i + 1)).map (·.f) = (N.take i).map (·.f) ++ [x.f] := by
    rw [List.take_add_one, h, List.map_append]; rfl
  have h2 : ((N.take (i + 1)).map (·.f)).Nodup := hd.sublist ((List.take_sublist _ _).map _)
  rw [h1] at h2
  obtain ⟨_, _, h3⟩ := List.nodup_append.1 h2
  exact h3 _ hm _ (List.mem_singleton.2 rfl) rfl
/-- A frame's position is found. -/
theorem prs_kv {N : List Nd} {i : Nat} {x : Nd} (hd : (N.map (·.f)).Nodup) (h : N[i]? = some x) : Go.Grow.kv (prs N N.length) x.f = some (i : Int) := by
  have hl : i < N.length := by rw [List.getElem?_eq_some_iff] at h; exact h.1
  refine Go.Grow.kv_some (by rw [prs_keys (Nat.le_refl _), List.take_of_length_le (Nat.le_refl _)]; exact hd) ?_
  unfold prs
  exact List.mem_map.2 ⟨i, List.mem_range.2 hl, by simp [List.getD_eq_getElem?_getD, h]⟩
end Go.Pt
namespace Go.Proofs.YtdddkfpcbfgocaaGreat
open Go.RowKit Go.Over Go.Seg Go.Grow Go.Pt
theorem infoN : (Tryz.prog.info? 183).map (·.size) = some 9 := by kernel_rfl
/-- Nodes in a row. -/
structure NV (w : World) (b : Nat) (ns : List Value) (N : List Nd) : Prop where
  x : Blk w b 183 ns
  n : N.length * 9 ≤ ns.length
  row : ∀ (i : Nat) (nd : Nd), N[i]? = some nd → ∀ (j : Nat) (v : Value), (ndC nd)[j]? = some v → ns[i * 9 + j]? = some v
theorem NV.later {w w' : World} {b : Nat} {ns : List Value} {N : List Nd} (h : NV w b ns N) (hb : Below w.heap.size w w') : NV w' b ns N := ⟨h.x.later hb, h.n, h.row⟩
theorem NV.grown {w w' : World} {b g t : Nat} {ns cs : List Value} {N : List Nd} (h : NV w b ns N) (hB : Blk w g t cs) (ht : t ≠ 183) (hg : w.grownBy w' (some g)) : NV w' b ns N := ⟨h.x.grown hg (by simpa using hB.ne_type h.x ht), h.n, h.row⟩
section
variable {ops : Array Oper} {rest : List Oper} {d i j : Nat} {ty : TypeId} {pos : String} {af : Array Edge} {a : Act} {w : World} {Q : Exit → Act → World → Prop} {b k g : Nat} {ns : List Value} {N : List Nd} {nd : Nd}
/-- A node is loaded out of a row. -/
theorem ldN (hx : a.eval (.tmp i) = .pointer (some ⟨b, k * 9, none⟩)) (h : NV w b ns N) (hz : N[k]? = some nd) (hK : wpList Tryz.prog ops Q rest (a.put (some d) (.agg (ndC nd).toArray)) w) :
    wpList Tryz.prog ops Q ({ dst := some d, op := .load 183 (.tmp i), type := ty, pos := pos, after := af, guard := none } :: rest) a w :=
  wpList_load_part Tryz.underlying183 rfl (by rw [infoN]; rfl) hx h.x (h.row k nd hz) hK
/-- A node is stored whole. -/
theorem stNd {zs : List Value} (hx : a.eval (.tmp i) = .pointer (some ⟨g, 0, none⟩)) (hy : a.eval (.tmp j) = .agg (ndC nd).toArray) (hB : Blk w g 183 zs) (hz : zs.length = 9)
    (h : ∀ W, Blk W g 183 (ndC nd) → w.grownBy W (some g) → wpList Tryz.prog ops Q rest (a.put none undef) W) :
    wpList Tryz.prog ops Q ({ dst := none, op := .store 183 (.tmp i) (.tmp j), type := ty, pos := pos, after := af, guard := none } :: rest) a w := by
  have e : lay zs 0 (ndC nd) = ndC nd := by
    have hl : (ndC nd).length = 9 := rfl
    unfold lay
    rw [hl, List.take_zero, List.nil_append, List.drop_eq_nil_of_le (by omega), List.append_nil]
  refine wpList_store_part (cs := ndC nd) (by rw [infoN]; rfl) hx hy hB (by rw [hz]; exact Nat.le_refl _) ?_ fun W q1 q2 => h W (by rw [← e]; exact q1) q2
  intro u hu
  simp [ndC] at hu
  rcases hu with rfl | rfl | rfl | rfl | rfl | rfl | rfl | rfl | rfl <;> rfl
end
end Go.Proofs.YtdddkfpcbfgocaaGreat
namespace Go.Proofs.YtdddkfpcbfgocaaGreat
open Go.RowKit Go.Over Go.Seg Go.Grow Go.Pt
theorem run_makeMap_hint {P : Program} {t k e : TypeId} (ht : P.underlying t = some (.map k e)) (n : Int) (w : World) : (Instr.makeMap t (some (.int .i64 n))).run P w = .ok (.map (some w.heap.size)) (w.alloc (.map #[] 0)) := by
  simp [Instr.makeMap, run_underlying ht, asInt, asIntOf, Result.andThen]
/-- The cells of a page table without deposits. -/
def ptC (r : Int) (b n c : Nat) : List Value := [.int .i64 r, .slice (some ⟨b, 0, none⟩) n c, .slice none 0 0]
/-- A page table in a variable, in a call that makes new memory alone. -/
structure PX (w : World) (g : Nat) (r : Int) (b n c : Nat) (ns : List Value) (N : List Nd) (W : World) : Prop where
  u : Below w.heap.size w W
  l : w.heap.size ≤ g
  x : Blk W g 120 (ptC r b n c)
  v : NV W b ns N
theorem PX.below {w W W' : World} {g : Nat} {r : Int} {b n c : Nat} {ns : List Value} {N : List Nd} (h : PX w g r b n c ns N W) (hb : Below W.heap.size W W') : PX w g r b n c ns N W' := ⟨below_then h.u hb, h.l, h.x.later hb, h.v.later hb⟩
theorem PX.c0 {w W : World} {g : Nat} {r : Int} {b n c : Nat} {ns : List Value} {N : List Nd} (h : PX w g r b n c ns N W) : W.cell? ⟨g, 0, none⟩ = some (.int .i64 r) := by rw [h.x.cell]; rfl
theorem PX.c1 {w W : World} {g : Nat} {r : Int} {b n c : Nat} {ns : List Value} {N : List Nd} (h : PX w g r b n c ns N W) : W.cell? ⟨g, 1, none⟩ = some (.slice (some ⟨b, 0, none⟩) n c) := by rw [h.x.cell]; rfl
theorem PX.c2 {w W : World} {g : Nat} {r : Int} {b n c : Nat} {ns : List Value} {N : List Nd} (h : PX w g r b n c ns N W) : W.cell? ⟨g, 2, none⟩ = some (.slice none 0 0) := by rw [h.x.cell]; rfl
theorem PX.new {w : World} {r : Int} {b n c : Nat} {ns : List Value} {N : List Nd} (h : NV w b ns N) : PX w w.heap.size r b n c ns N (w.alloc (.cells #[.int .i64 r, .slice (some ⟨b, 0, none⟩) n c, .slice none 0 0] 120)) :=
  ⟨below_box w _, Nat.le_refl _, Blk.new w 120 #[.int .i64 r, .slice (some ⟨b, 0, none⟩) n c, .slice none 0 0] (ptC r b n c) rfl, h.later (below_box w _)⟩
/-- The map of positions. -/
def Mp (w : World) (m : Nat) (l : List (Int × Int)) : Prop := MapI Tryz.prog 3 3 w m l
theorem Mp.ne {w : World} {m q : Nat} {t : TypeId} {cs : List Value} {l : List (Int × Int)} (h : Mp w m l) (hB : Blk w q t cs) : m ≠ q := fun e => by
  subst e
  obtain ⟨es, clock, h1, _⟩ := h
  unfold Blk at hB
  rw [h1] at hB
  cases hB
theorem i64_wf {x : Int} (h0 : 0 ≤ x) (h1 : x ≤ 4294967295) : (Lit.int .i64 x).wf = true := by
  simp [Lit.wf, IntKind.min, IntKind.max, IntKind.bits, IntKind.signed]
  omega
set_option maxRecDepth 100000 in set_option maxHeartbeats 3200000 in
theorem index (r : Int) (b n c : Nat) (ns : List Value) (N : List Nd) (w : World) (H : NV w b ns N) (hn : N.length = n) (hm : n ≤ 100000) (hd : (N.map (·.f)).Nodup) (hr : ∀ (i : Nat) (x : Nd), N[i]? = some x → 0 ≤ x.f ∧ x.f ≤ 4294967295) :
    Calls Tryz.prog 154 #[.agg #[.int .i64 r, .slice (some ⟨b, 0, none⟩) n c, .slice none 0 0]] w fun e w' => ∃ m, e = .returned (.map (some m)) ∧ Mp w' m (prs N n) ∧ w.heap.size ≤ m ∧ Below w.heap.size w w' := by
  have X0 := PX.new (r := r) (c := c) (n := n) H
  have HN := Lib.hid hn; have HD := Lib.hid hd; have HR := Lib.hid hr
  clear hn hd hr H
  go_enter Tryz.func154, Tryz.ntmps154
  go_upto_region 1 with fail
  obtain ⟨w1, hw1⟩ : ∃ W, W = w.alloc (.cells #[.int .i64 r, .slice (some ⟨b, 0, none⟩) n c, .slice none 0 0] 120) := ⟨_, rfl⟩
  rw [← hw1] at X0 ⊢
  obtain ⟨g, hg⟩ : ∃ g, w.heap.size = g := ⟨_, rfl⟩
  have X1 : PX w g r b n c ns N w1 := by rw [← hg]; exact X0
  rw [hg]
  clear X0 hw1 hg
  have c1 := X1.c1
  have hmk := run_makeMap_hint (P := Tryz.prog) Tryz.underlying228 n w1
  go_upto_region 2 with fail
  clear hmk
  have b2 := below_box w1 (.map #[] 0)
  have M2 : Mp (w1.alloc (.map #[] 0)) w1.heap.size (prs N 0) := MapI.made _ _ _ _
  have X2 := X1.below b2
  have hlm : w.heap.size ≤ w1.heap.size := X1.u.size
  obtain ⟨w2, hw2⟩ : ∃ W, W = w1.alloc (.map #[] 0) := ⟨_, rfl⟩
  obtain ⟨m, hm'⟩ : ∃ m, w1.heap.size = m := ⟨_, rfl⟩
  rw [← hw2] at M2 X2 ⊢
  rw [hm'] at M2 hlm ⊢
  clear hw2 hm' b2 X1 c1
  have c1 := X2.c1
  go_wp2
  go_loopg [13] n (fun gg v13 wr => ∃ i : Nat, i + gg = n ∧ v13 = .int .i64 i ∧ PX w g r b n c ns N wr ∧ Mp wr m (prs N i))
  case atStart => exact ⟨0, by omega, rfl, X2, M2⟩
  case round =>
    clear X2 M2 c1
    obtain ⟨i, hi, rfl, X3, M3⟩ := hrel
    cases gk with
    | zero =>
      obtain rfl : i = n := by omega
      have hin : ¬ i < i := by omega
      clear hi
      go_wp2
      go_ret
      exact ⟨m, rfl, M3, hlm, X3.u⟩
    | succ gg =>
      have hin : i < n := by omega
      have HI := Lib.hid hi
      obtain ⟨x, hx⟩ := get_some HN.out hin
      have HX := Lib.hid hx
      have hz := Blk.new wr 183 #[.int .i64 0, .int .u64 0, .int .u64 0, .int .u64 0, .int .u64 0, .int .u64 0, .int .u64 0, .int .u64 0, .int .u64 0] _ rfl
      have bz := below_box wr (.cells #[.int .i64 0, .int .u64 0, .int .u64 0, .int .u64 0, .int .u64 0, .int .u64 0, .int .u64 0, .int .u64 0, .int .u64 0] 183)
      have hmr : m < wr.heap.size := MapI.lt M3
      clear hi hx
      go_upto_region 5 with first | ((with_reducible refine ldN ?_ X3.v HX.out ?_); (focus rfl)) | ((with_reducible refine stNd (nd := x) ?_ ?_ hz rfl ?_); (focus rfl); (focus rfl); intro w4 hB4 hg4)
      have b4 : Below wr.heap.size wr w4 := bz.grown hg4 bz.size (fun q hq => by cases hq; exact Nat.le_refl _)
      have X4 := X3.below b4
      have M4 : Mp w4 m (prs N i) := MapI.later M3 b4
      have d4 : w4.cell? ⟨wr.heap.size, 0, none⟩ = some (.int .i64 x.f) := by rw [hB4.cell]; rfl
      obtain ⟨g5, hg5⟩ : ∃ q, wr.heap.size = q := ⟨_, rfl⟩
      rw [hg5] at d4 ⊢
      clear X3 M3 hz bz hg4 hB4 b4 hg5 hmr
      have hwf := i64_wf (HR.out i x HX.out).1 (HR.out i x HX.out).2
      have hwi := i64_wf (x := (i : Int)) (by omega) (by omega)
      have hnew := prs_new HD.out HX.out
      have hlen : (prs N i).length < maxLen := by unfold prs maxLen; simp; omega
      obtain ⟨w5, hrun, M5, hg5⟩ := MapI.add M4 Tryz.underlying228 Tryz.underlying3 Tryz.underlying3 hwf hwi hnew hlen
      have M5 : Mp w5 m (prs N i ++ [(x.f, (i : Int))]) := M5
      have X5 : PX w g r b n c ns N w5 := ⟨X4.u.grown hg5 X4.u.size (fun q hq => by cases hq; exact hlm), X4.l, X4.x.grown hg5 (by simpa using M4.ne X4.x), ⟨X4.v.x.grown hg5 (by simpa using M4.ne X4.v.x), X4.v.n, X4.v.row⟩⟩
      rw [← prs_next HX.out] at M5
      clear X4 M4 hwf hwi hnew hlen hg5
      go_wp2
      go_roundg gg
      case rel => exact ⟨i + 1, by have := HI.out; omega, by go_num, X5, M5⟩
      case measure => omega
end Go.Proofs.YtdddkfpcbfgocaaGreat
namespace Go.Pt
/-- Frames in range and in order. -/
structure FO (N : List Nd) : Prop where
  rg : ∀ (i : Nat) (x : Nd), N[i]? = some x → 0 ≤ x.f ∧ x.f ≤ 4294967295
  ac : ∀ (i : Nat) (x y : Nd), N[i]? = some x → N[i + 1]? = some y → x.f < y.f
theorem FO.lt {N : List Nd} (h : FO N) : ∀ {d i : Nat} {x y : Nd}, N[i]? = some x → N[i + 1 + d]? = some y → x.f < y.f
  | 0, i, x, y, hx, hy => h.ac i x y hx hy
  | d + 1, i, x, y, hx, hy => by
    have hl : i + 1 + d < N.length := by rw [List.getElem?_eq_some_iff] at hy; have := hy.1; omega
    have h1 := h.lt (d := d) hx (List.getElem?_eq_getElem hl)
    have h2 := h.ac (i + 1 + d) _ y (List.getElem?_eq_getElem hl) hy
    omega
theorem FO.nd {N : List Nd} (h : FO N) : (N.map (·.f)).Nodup := by
  rw [List.nodup_iff_pairwise_ne, List.pairwise_iff_getElem]
  intro i j hi hj hij
  simp only [List.length_map] at hi hj
  simp only [List.getElem_map]
  have := h.lt (d := j - i - 1) (List.getElem?_eq_getElem hi) (by rw [show i + 1 + (j - i - 1) = j by omega]; exact List.getElem?_eq_getElem hj)
  omega
end Go.Pt
namespace Go.Proofs.YtdddkfpcbfgocaaGreat
open Go.RowKit Go.Over Go.Seg Go.Grow Go.Pt
theorem infoPT : (Tryz.prog.info? 120).map (·.size) = some 3 := by kernel_rfl
section
variable {ops : Array Oper} {rest : List Oper} {d i : Nat} {ty : TypeId} {pos : String} {af : Array Edge} {a : Act} {w : World} {Q : Exit → Act → World → Prop} {g b n c : Nat} {r : Int}
theorem ldPT (hx : a.eval (.tmp i) = .pointer (some ⟨g, 0, none⟩)) (hB : Blk w g 120 (ptC r b n c)) (h : wpList Tryz.prog ops Q rest (a.put (some d) (.agg #[.int .i64 r, .slice (some ⟨b, 0, none⟩) n c, .slice none 0 0])) w) :
    wpList Tryz.prog ops Q ({ dst := some d, op := .load 120 (.tmp i), type := ty, pos := pos, after := af, guard := none } :: rest) a w :=
  wpList_load_row rfl 120 (.tmp i) rfl g hx 120 (ptC r b n c).toArray (0, 0) _ hB Tryz.underlying120 rfl (by rw [infoPT]; rfl) h
end
theorem NV.fr {w : World} {b : Nat} {ns : List Value} {N : List Nd} {i : Nat} {x : Nd} (h : NV w b ns N) (hx : N[i]? = some x) : w.cell? ⟨b, i * 9, none⟩ = some (.int .i64 x.f) := by
  rw [h.x.cell]
  exact h.row i x hx 0 _ rfl
def S16 (g b n c k j : Nat) (x y : Int) (U : World) : Prop := U.cell? ⟨g, 1, none⟩ = some (.slice (some ⟨b, 0, none⟩) n c) ∧ U.cell? ⟨b, k, none⟩ = some (.int .i64 x) ∧ U.cell? ⟨b, j, none⟩ = some (.int .i64 y)
set_option maxRecDepth 100000 in set_option maxHeartbeats 3200000 in
theorem numbers (r : Int) (b n c : Nat) (ns : List Value) (N : List Nd) (w : World) (H : NV w b ns N) (hn : N.length = n) (hm : n ≤ 100000) (hf : FO N) (hr : ∃ (p : Nat) (x : Nd), N[p]? = some x ∧ x.f = r) :
    Calls Tryz.prog 169 #[.agg #[.int .i64 r, .slice (some ⟨b, 0, none⟩) n c, .slice none 0 0]] w fun e w' => e = .returned (.int .i64 0) ∧ Below w.heap.size w w' := by
  have X0 := PX.new (r := r) (c := c) (n := n) H
  have HN := Lib.hid hn; have HF := Lib.hid hf
  obtain ⟨p, x0, hp, rfl⟩ := hr
  have HK := Lib.hid (show Go.Grow.kv (prs N n) x0.f = some (p : Int) by rw [← hn]; exact prs_kv hf.nd hp)
  have hrg := hf.rg p x0 hp
  have hn1 : 1 ≤ n := by rw [List.getElem?_eq_some_iff] at hp; have := hp.1; omega
  obtain ⟨r, hr⟩ : ∃ r, x0.f = r := ⟨_, rfl⟩
  rw [hr] at HK hrg X0 ⊢
  clear hn hf H hp hr
  go_enter Tryz.func169, Tryz.ntmps169
  go_upto_region 1 with fail
  obtain ⟨w1, hw1⟩ : ∃ W, W = w.alloc (.cells #[.int .i64 r, .slice (some ⟨b, 0, none⟩) n c, .slice none 0 0] 120) := ⟨_, rfl⟩
  rw [← hw1] at X0 ⊢
  obtain ⟨g, hg⟩ : ∃ g, w.heap.size = g := ⟨_, rfl⟩
  have X1 : PX w g r b n c ns N w1 := by rw [← hg]; exact X0
  rw [hg]
  clear X0 hw1 hg
  have c1 := X1.c1
  go_wp2
  go_loopg [19] n (fun gg v19 wr => ∃ i : Nat, i + gg = n ∧ v19 = .int .i64 i ∧ PX w g r b n c ns N wr)
  case atStart => exact ⟨0, by omega, rfl, X1⟩
  case round =>
    clear X1 c1
    obtain ⟨i, hi, rfl, X3⟩ := hrel
    cases gk with
    | succ gg =>
      have hin : i < n := by omega
      have HI := Lib.hid hi
      obtain ⟨x, hx⟩ := get_some HN.out hin
      have HX := Lib.hid hx
      have hz := Blk.new wr 183 #[.int .i64 0, .int .u64 0, .int .u64 0, .int .u64 0, .int .u64 0, .int .u64 0, .int .u64 0, .int .u64 0, .int .u64 0] _ rfl
      have bz := below_box wr (.cells #[.int .i64 0, .int .u64 0, .int .u64 0, .int .u64 0, .int .u64 0, .int .u64 0, .int .u64 0, .int .u64 0, .int .u64 0] 183)
      clear hi hx
      go_upto_region 4 with first | ((with_reducible refine ldN ?_ X3.v HX.out ?_); (focus rfl)) | ((with_reducible refine stNd (nd := x) ?_ ?_ hz rfl ?_); (focus rfl); (focus rfl); intro w4 hB4 hg4)
      have b4 : Below wr.heap.size wr w4 := bz.grown hg4 bz.size (fun q hq => by cases hq; exact Nat.le_refl _)
      have X4 := X3.below b4
      have d4 : w4.cell? ⟨wr.heap.size, 0, none⟩ = some (.int .i64 x.f) := by rw [hB4.cell]; rfl
      obtain ⟨g5, hg5⟩ : ∃ q, wr.heap.size = q := ⟨_, rfl⟩
      rw [hg5] at d4 ⊢
      clear X3 hz bz hg4 hB4 b4 hg5
      go_wp2_with fail
      refine (frame_ok x.f (HF.out.rg i x HX.out).1 (HF.out.rg i x HX.out).2 w4).mono ?_
      rintro e _ ⟨rfl, rfl⟩
      go_wp2
      go_roundg gg
      case rel => exact ⟨i + 1, by have := HI.out; omega, by go_num, X4⟩
      case measure => omega
    | zero =>
      obtain rfl : n = i := by omega
      have hin : ¬ n < n := by omega
      have c2 := X3.c2
      clear hi
      go_wp2
      go_loopg [31] 0 (fun gg v31 wr => gg = 0 ∧ v31 = .int .i64 0 ∧ PX w g r b n c ns N wr)
      case atStart => exact ⟨rfl, rfl, X3⟩
      case round =>
        clear X3 c2 hin
        obtain ⟨hi, rfl, X4⟩ := hrel
        cases gk with
        | succ gg => omega
        | zero =>
          clear hi
          have c1 := X4.c1
          go_wp2
          go_loopg [7] (n - 1) (fun gg v7 wr => ∃ j : Nat, j + 1 + gg = n ∧ v7 = .int .i64 ((j + 1 : Nat) : Int) ∧ PX w g r b n c ns N wr)
          case atStart => exact ⟨0, by omega, rfl, X4⟩
          case round =>
            clear X4 c1
            obtain ⟨j, hj, rfl, X5⟩ := hrel
            have c1 := X5.c1
            cases gk with
            | succ gg =>
              have hin : j + 1 < n := by omega
              have HJ := Lib.hid hj
              obtain ⟨x, hx⟩ := get_some HN.out (show j < n by omega)
              obtain ⟨y, hy⟩ := get_some HN.out hin
              have dx := X5.v.fr hx
              have dy := X5.v.fr hy
              have hxy := HF.out.ac j x y hx hy
              have t70 : decide (y.f ≤ x.f) = false := by simp; omega
              clear hj hx hy
              go_upto_region 16 with fail
              go_cut [70] from 50 to 70 (fun v70 W => v70 = .bool false ∧ PX w g r b n c ns N W)
              case first =>
                refine wp_region_plan (S16 g b n c ((j + 1) * 9) (j * 9) y.f x.f) (.quiet [0, 1, 2, 3, 4, 5, 6, 7, 8, 9, 10, 11, 12, 13] .done) 99 (by kernel_rfl) (by kernel_rfl) ⟨cell_later (Below.refl _ _).drew c1, cell_later (Below.refl _ _).drew dy, cell_later (Below.refl _ _).drew dx⟩ ?_
                intro W1 hWW hWe
                have X6 := X5.below (show Below wr.heap.size wr W1 by rw [hWe]; exact (Below.refl _ _).drew)
                clear hWe X5 c1 dx dy
                simp only [wpPlan, inOrder, List.filterMap_cons, List.filterMap_nil, List.getElem?_cons_zero, List.getElem?_cons_succ]
                have q1 := fun z => (hold_ok (S0 := S16 g b n c ((j + 1) * 9) (j * 9) y.f x.f) hWW z).1
                have q2 := fun z => (hold_ok (S0 := S16 g b n c ((j + 1) * 9) (j * 9) y.f x.f) hWW z).2.1
                have q3 := fun z => (hold_ok (S0 := S16 g b n c ((j + 1) * 9) (j * 9) y.f x.f) hWW z).2.2
                show wpQuiet _ _ _ _ (_ :: _ :: _ :: _ :: _ :: _ :: _ :: _ :: _ :: _ :: _ :: _ :: _ :: [_]) _
                repeat (go_big_quiet_step (fail))
                refine wpQuiet_nil ?_
                refine NoPanic.normal ?_
                clear q1 q2 q3 hWW
                go_wp2
                go_meet
                case rel => exact ⟨by first | rfl | rw [t70] | simp [t70], X6⟩
              case rest =>
                clear X5 c1 dx dy t70
                obtain ⟨rfl, X6⟩ := hcut
                go_wp2
                go_roundg gg
                case rel => exact ⟨j + 1, by have := HJ.out; omega, by go_num, X6⟩
                case measure => omega
            | zero =>
              obtain rfl : n = j + 1 := by omega
              have hin : ¬ j + 1 < j + 1 := by omega
              have c2 := X5.c2
              clear hj
              go_wp2
              go_loopg [8] 0 (fun gg v8 wr => gg = 0 ∧ v8 = .int .i64 1 ∧ PX w g r b (j + 1) c ns N wr)
              case atStart => exact ⟨rfl, rfl, X5⟩
              case round =>
                clear X5 c1 c2 hin
                obtain ⟨hi, rfl, X6⟩ := hrel
                cases gk with
                | succ gg => omega
                | zero =>
                  clear hi
                  have c2 := X6.c2
                  have HIX := Lib.hid (index r b (j + 1) c ns N wr X6.v HN.out (by omega) HF.out.nd HF.out.rg)
                  go_wp2_with ((with_reducible refine ldPT ?_ X6.x ?_); (focus rfl))
                  refine HIX.out.mono ?_
                  rintro e w7 ⟨m, rfl, M7, lm, b7⟩
                  have X7 := X6.below b7
                  clear X6 c2 b7 HIX
                  have c2 := X7.c2
                  go_wp2
                  go_loopg [97] 0 (fun gg v97 wr => gg = 0 ∧ v97 = .int .i64 0 ∧ PX w g r b (j + 1) c ns N wr ∧ Mp wr m (prs N (j + 1)))
                  case atStart => exact ⟨rfl, rfl, X7, M7⟩
                  case round =>
                    clear X7 c2 M7
                    obtain ⟨hi, rfl, X8, M8⟩ := hrel
                    cases gk with
                    | succ gg => omega
                    | zero =>
                      clear hi
                      have c0 := X8.c0
                      have hlk := MapI.look true M8 Tryz.underlying228 Tryz.underlying3 (by kernel_rfl) (i64_wf hrg.1 hrg.2)
                      rw [HK.out] at hlk
                      simp only [if_true, Option.getD_some, Option.isSome_some] at hlk
                      have t14 : decide ((p : Int) < 0) = false := by simp
                      go_wp2
                      go_ret
                      exact ⟨rfl, X8.u⟩
end Go.Proofs.YtdddkfpcbfgocaaGreat
namespace Go.Proofs.YtdddkfpcbfgocaaGreat
open Go.RowKit Go.Over Go.Seg Go.Grow Go.Pt
set_option maxRecDepth 100000 in set_option maxHeartbeats 3200000 in
theorem suits0 (lv : Nat) (w : World) : Calls Tryz.prog 171 #[.agg #[.int .i64 0, .int .i64 0, .bool false, .bool false, .bool false, .bool false], .int .i64 lv] w fun e w' => e = .returned (.bool true) ∧ Below w.heap.size w w' := by
  have b0 := below_box w (.cells #[.int .i64 0, .int .i64 0, .bool false, .bool false, .bool false, .bool false] 131)
  go_enter Tryz.func171, Tryz.ntmps171
  go_wp2
  go_ret
  exact ⟨rfl, b0⟩
set_option maxRecDepth 100000 in set_option maxHeartbeats 3200000 in
theorem suits4 (n : Int) (lv : Nat) (hl : 0 < lv) (w : World) : Calls Tryz.prog 171 #[.agg #[.int .i64 4, .int .i64 n, .bool false, .bool false, .bool false, .bool false], .int .i64 lv] w fun e w' => e = .returned (.bool true) ∧ Below w.heap.size w w' := by
  have b0 := below_box w (.cells #[.int .i64 4, .int .i64 n, .bool false, .bool false, .bool false, .bool false] 131)
  have t1 : decide ((0 : Int) < (lv : Int)) = true := by simp; omega
  go_enter Tryz.func171, Tryz.ntmps171
  go_wp2
  go_ret
  exact ⟨by simp, b0⟩
set_option maxRecDepth 100000 in set_option maxHeartbeats 3200000 in
theorem suits1 (n : Int) (b : Bool) (w : World) : Calls Tryz.prog 171 #[.agg #[.int .i64 1, .int .i64 n, .bool b, .bool false, .bool false, .bool false], .int .i64 0] w fun e w' => e = .returned (.bool true) ∧ Below w.heap.size w w' := by
  have b0 := below_box w (.cells #[.int .i64 1, .int .i64 n, .bool b, .bool false, .bool false, .bool false] 131)
  go_enter Tryz.func171, Tryz.ntmps171
  go_wp2
  go_ret
  exact ⟨rfl, b0⟩
end Go.Proofs.YtdddkfpcbfgocaaGreat
namespace Go.Pt
/-- The entry of a table that is there, or is not. -/
def tabE : Option Int → En
  | none => e0
  | some f => ⟨4, f, false⟩
/-- The list N holds the tree of the root r: mid and low are the frames of the tables of level 1 and 0, ent are the entries of the pages. -/
structure Tr (r : Int) (N : List Nd) (mid low : Nat → Option Int) (ent : Nat → En) : Prop where
  fo : FO N
  root : ∃ x ∈ N, x.f = r ∧ ∀ i, i < 8 → x.e i = tabE (mid i)
  md : ∀ i f, i < 8 → mid i = some f → ∃ x ∈ N, x.f = f ∧ ∀ j, j < 8 → x.e j = tabE (low (8 * i + j))
  lw : ∀ k f, k < 64 → low k = some f → ∃ x ∈ N, x.f = f ∧ ∀ j, j < 8 → x.e j = ent (8 * k + j)
  all : ∀ x ∈ N, x.f = r ∨ (∃ i, i < 8 ∧ mid i = some x.f) ∨ ∃ k, k < 64 ∧ low k = some x.f
  up1 : ∀ k, k < 64 → low k ≠ none → mid (k / 8) ≠ none
  up2 : ∀ p, p < 512 → (ent p).k ≠ 0 → low (p / 8) ≠ none
  ve : ∀ p, p < 512 → VE (ent p)
  pg : ∀ p, p < 512 → (ent p).k = 0 ∨ (ent p).k = 1
  d1 : ∀ i j f, i < 8 → j < 8 → mid i = some f → mid j = some f → i = j
  d2 : ∀ i j f, i < 64 → j < 64 → low i = some f → low j = some f → i = j
  d3 : ∀ i k f, i < 8 → k < 64 → mid i = some f → low k ≠ some f
  d4 : ∀ i, i < 8 → mid i ≠ some r
  d5 : ∀ k, k < 64 → low k ≠ some r
section
variable {r : Int} {N : List Nd} {mid low : Nat → Option Int} {ent : Nat → En}
theorem FO.mem (h : FO N) {x : Nd} (hx : x ∈ N) : 0 ≤ x.f ∧ x.f ≤ 4294967295 := by
  obtain ⟨i, hi⟩ := List.getElem?_of_mem hx
  exact h.rg i x hi
/-- A frame is that of one node alone. -/
theorem FO.one (h : FO N) {i j : Nat} {x y : Nd} (hx : N[i]? = some x) (hy : N[j]? = some y) (he : x.f = y.f) : i = j ∧ x = y := by
  have e : i = j := by
    rcases Nat.lt_trichotomy i j with h1 | h1 | h1
    · have := h.lt (d := j - i - 1) hx (by rw [show i + 1 + (j - i - 1) = j by omega]; exact hy); omega
    · exact h1
    · have := h.lt (d := i - j - 1) hy (by rw [show j + 1 + (i - j - 1) = i by omega]; exact hx); omega
  subst e
  rw [hx] at hy
  exact ⟨rfl, Option.some.inj hy⟩
theorem Tr.veM (h : Tr r N mid low ent) {i : Nat} (hi : i < 8) : VE (tabE (mid i)) := by
  cases he : mid i with
  | none => exact ve0
  | some f =>
    obtain ⟨x, hx, rfl, _⟩ := h.md i f hi he
    exact ⟨.inr (.inr ⟨rfl, rfl, (h.fo.mem hx).1, (h.fo.mem hx).2⟩)⟩
theorem Tr.veL (h : Tr r N mid low ent) {k : Nat} (hk : k < 64) : VE (tabE (low k)) := by
  cases he : low k with
  | none => exact ve0
  | some f =>
    obtain ⟨x, hx, rfl, _⟩ := h.lw k f hk he
    exact ⟨.inr (.inr ⟨rfl, rfl, (h.fo.mem hx).1, (h.fo.mem hx).2⟩)⟩
/-- A new table. -/
theorem Tr.new {r : Int} (h0 : 0 ≤ r) (h1 : r ≤ 4294967295) : Tr r [⟨r, fun _ => e0⟩] (fun _ => none) (fun _ => none) (fun _ => e0) := by
  refine ⟨⟨fun i x hx => ?_, fun i x y _ hy => ?_⟩, ⟨_, List.mem_singleton.2 rfl, rfl, fun _ _ => rfl⟩, fun i f _ h => (by cases h), fun k f _ h => (by cases h), fun x hx => ?_, fun k _ h => absurd rfl h, fun p _ h => absurd rfl h, fun _ _ => ve0, fun _ _ => .inl rfl, fun i j f _ _ h => (by cases h), fun i j f _ _ h => (by cases h), fun i k f _ _ h => (by cases h), fun i _ h => (by cases h), fun k _ h => (by cases h)⟩
  · match i, hx with
    | 0, hx => cases hx; exact ⟨h0, h1⟩
    | i + 1, hx => simp at hx
  · simp at hy
  · rw [List.mem_singleton.1 hx]; exact .inl rfl
/-- Where the walk for a page ends: the level and the entry. -/
def endL (mid low : Nat → Option Int) (p : Nat) : Nat := if mid (p / 64) = none then 2 else if low (p / 8) = none then 1 else 0
def endE (mid low : Nat → Option Int) (ent : Nat → En) (p : Nat) : En := if mid (p / 64) = none then e0 else if low (p / 8) = none then e0 else ent p
/-- The entry of a page is that at the end of its walk. -/
theorem Tr.endE (h : Tr r N mid low ent) {p : Nat} (hp : p < 512) : (Pt.endE mid low ent p).k = 0 ↔ (ent p).k = 0 := by
  unfold Pt.endE
  have key : low (p / 8) = none → (ent p).k = 0 := fun h1 => by
    rcases h.pg p hp with h2 | h2
    · exact h2
    · exact absurd h1 (h.up2 p hp (by omega))
  split
  · rename_i h1
    have h2 : low (p / 8) = none := by
      cases he : low (p / 8) with
      | none => rfl
      | some f => exact absurd h1 (by rw [show p / 64 = p / 8 / 8 by omega]; exact h.up1 (p / 8) (by omega) (by rw [he]; simp))
    exact ⟨fun _ => key h2, fun _ => rfl⟩
  · split
    · rename_i h1
      exact ⟨fun _ => key h1, fun _ => rfl⟩
    · exact Iff.rfl
end
end Go.Pt
namespace Go.Pt
/-- A step: the position of the node, the level, the entry. -/
structure St where
  p : Nat
  l : Nat
  e : En
def stepC (s : St) : List Value := [.int .i64 s.p, .int .i64 s.l, .int .u64 (wd s.e)]
def stepsC (L : List St) : List Value := L.flatMap stepC
theorem stepsC_snoc (L : List St) (s : St) : stepsC (L ++ [s]) = stepsC L ++ stepC s := by simp [stepsC]
theorem stepsC_len (L : List St) : (stepsC L).length = L.length * 3 := by
  induction L with
  | nil => rfl
  | cons s L ih =>
    have : stepsC (s :: L) = stepC s ++ stepsC L := rfl
    rw [this, List.length_append, ih]
    simp [stepC]
    omega
/-- The steps of the walk for a page. -/
structure Pth (r : Int) (N : List Nd) (mid low : Nat → Option Int) (ent : Nat → En) (p : Nat) (L : List St) : Prop where
  h : (∃ a x, N[a]? = some x ∧ x.f = r ∧ mid (p / 64) = none ∧ L = [⟨a, 2, e0⟩]) ∨
    (∃ a x b y f, N[a]? = some x ∧ x.f = r ∧ mid (p / 64) = some f ∧ N[b]? = some y ∧ y.f = f ∧ low (p / 8) = none ∧ L = [⟨a, 2, ⟨4, f, false⟩⟩, ⟨b, 1, e0⟩]) ∨
    ∃ a x b y f c z k, N[a]? = some x ∧ x.f = r ∧ mid (p / 64) = some f ∧ N[b]? = some y ∧ y.f = f ∧ low (p / 8) = some k ∧ N[c]? = some z ∧ z.f = k ∧ L = [⟨a, 2, ⟨4, f, false⟩⟩, ⟨b, 1, ⟨4, k, false⟩⟩, ⟨c, 0, ent p⟩]
end Go.Pt
namespace Go.Proofs.YtdddkfpcbfgocaaGreat
open Go.RowKit Go.Over Go.Seg Go.Grow Go.Pt
theorem K203 : Kind Tryz.prog 203 186 3 24 := Kind.mk' (z := .agg #[.int .i64 0, .int .i64 0, .int .u64 0]) Tryz.underlying203 (by kernel_rfl) rfl (by decide) (by decide)
/-- Steps in a row of a call's own. -/
def OwnS (w : World) (B : Nat) (v : Value) (L : List St) : Prop := w.ownsRow B 186 3 v L.length (stepsC L)
theorem OwnS.nil (w : World) (B : Nat) : OwnS w B (.slice none 0 0) [] := World.ownsRow_nil _ _ _ _
section
variable {ops : Array Oper} {rest : List Oper} {d i j : Nat} {ty : TypeId} {pos : String} {af : Array Edge} {a : Act} {w : World} {Q : Exit → Act → World → Prop}
/-- A step is appended. -/
theorem wpList_appS {base b : Nat} {v : Value} {L : List St} {s : St} (hs : a.eval (.tmp i) = v) (hx : a.eval (.tmp j) = .slice (some ⟨b, 0, none⟩) 1 1) (hO : OwnS w base v L) (hB : Blk w b 186 (stepC s)) (hl : L.length ≤ 900000) (hb : base ≤ w.heap.size)
    (h : ∀ v' w', OwnS w' base v' (L ++ [s]) → w.grownBy w' v.ownBlock → wpList Tryz.prog ops Q rest (a.put (some d) v') w') :
    wpList Tryz.prog ops Q ({ dst := some d, op := .call { callee := .builtin .append, args := #[.tmp i, .tmp j], argTypes := #[203, 203] }, type := ty, pos := pos, after := af, guard := none } :: rest) a w := by
  refine wpList_append_k K203 rfl (.tmp i) (.tmp j) rfl v L.length (stepsC L) hs hO (some ⟨b, 0, none⟩) 1 1 (stepC s) hx ⟨rfl, by simp [stepC, Value.oneCell'], .inr ⟨_, rfl, fun k u hk => ?_⟩⟩ (by omega) hb fun v' w' q1 q2 _ => h v' w' ?_ q2
  · rw [add_off, Nat.zero_add, hB.cell]; exact hk
  · unfold OwnS
    rw [stepsC_snoc, List.length_append]
    exact q1
end
end Go.Proofs.YtdddkfpcbfgocaaGreat
namespace Go.Pt
section
variable {r : Int} {N : List Nd} {mid low : Nat → Option Int} {ent : Nat → En} {p : Nat}
/-- Where a walk stands before it reads at level lv. -/
structure At (r : Int) (N : List Nd) (mid low : Nat → Option Int) (p lv a : Nat) (L : List St) : Prop where
  h : (lv = 2 ∧ L = [] ∧ ∃ x, N[a]? = some x ∧ x.f = r) ∨
    (lv = 1 ∧ ∃ a0 x0 f x, N[a0]? = some x0 ∧ x0.f = r ∧ mid (p / 64) = some f ∧ N[a]? = some x ∧ x.f = f ∧ L = [⟨a0, 2, ⟨4, f, false⟩⟩]) ∨
    (lv = 0 ∧ ∃ a0 x0 f b y k x, N[a0]? = some x0 ∧ x0.f = r ∧ mid (p / 64) = some f ∧ N[b]? = some y ∧ y.f = f ∧ low (p / 8) = some k ∧ N[a]? = some x ∧ x.f = k ∧ L = [⟨a0, 2, ⟨4, f, false⟩⟩, ⟨b, 1, ⟨4, k, false⟩⟩])
theorem At.start (h : Tr r N mid low ent) : ∃ a, (∃ x, N[a]? = some x ∧ x.f = r) ∧ At r N mid low p 2 a [] := by
  obtain ⟨x, hx, h1, _⟩ := h.root
  obtain ⟨a, ha⟩ := List.getElem?_of_mem hx
  exact ⟨a, ⟨x, ha, h1⟩, ⟨.inl ⟨rfl, rfl, x, ha, h1⟩⟩⟩
theorem Tr.rootAt (h : Tr r N mid low ent) {a : Nat} {x : Nd} (ha : N[a]? = some x) (hx : x.f = r) {i : Nat} (hi : i < 8) : x.e i = tabE (mid i) := by
  obtain ⟨y, hy, h1, h2⟩ := h.root
  obtain ⟨b, hb⟩ := List.getElem?_of_mem hy
  rw [(h.fo.one ha hb (by rw [hx, h1])).2]
  exact h2 i hi
theorem Tr.midAt (h : Tr r N mid low ent) {a i : Nat} {x : Nd} (hi : i < 8) (ha : N[a]? = some x) (hx : mid i = some x.f) {j : Nat} (hj : j < 8) : x.e j = tabE (low (8 * i + j)) := by
  obtain ⟨y, hy, h1, h2⟩ := h.md i _ hi hx
  obtain ⟨b, hb⟩ := List.getElem?_of_mem hy
  rw [(h.fo.one ha hb h1.symm).2]
  exact h2 j hj
theorem Tr.lowAt (h : Tr r N mid low ent) {a k : Nat} {x : Nd} (hk : k < 64) (ha : N[a]? = some x) (hx : low k = some x.f) {j : Nat} (hj : j < 8) : x.e j = ent (8 * k + j) := by
  obtain ⟨y, hy, h1, h2⟩ := h.lw k _ hk hx
  obtain ⟨b, hb⟩ := List.getElem?_of_mem hy
  rw [(h.fo.one ha hb h1.symm).2]
  exact h2 j hj
theorem Tr.midNode (h : Tr r N mid low ent) {i : Nat} {f : Int} (hi : i < 8) (hm : mid i = some f) : ∃ (b : Nat) (y : Nd), N[b]? = some y ∧ y.f = f := by
  obtain ⟨y, hy, h1, _⟩ := h.md i f hi hm
  obtain ⟨b, hb⟩ := List.getElem?_of_mem hy
  exact ⟨b, y, hb, h1⟩
theorem Tr.lowNode (h : Tr r N mid low ent) {k : Nat} {f : Int} (hk : k < 64) (hm : low k = some f) : ∃ (b : Nat) (y : Nd), N[b]? = some y ∧ y.f = f := by
  obtain ⟨y, hy, h1, _⟩ := h.lw k f hk hm
  obtain ⟨b, hb⟩ := List.getElem?_of_mem hy
  exact ⟨b, y, hb, h1⟩
def dgP (p l : Nat) : Nat := p / 8 ^ l % 8
/-- One step of the walk. -/
theorem At.step (h : Tr r N mid low ent) (hp : p < 512) {lv a : Nat} {L : List St} (A : At r N mid low p lv a L) :
    ∃ x, N[a]? = some x ∧ VE (x.e (dgP p lv)) ∧ lv ≤ 2 ∧ L.length ≤ 2 ∧ ((¬ (x.e (dgP p lv)).k = 4 ∧ Pth r N mid low ent p (L ++ [⟨a, lv, x.e (dgP p lv)⟩])) ∨
      ∃ f b lv', x.e (dgP p lv) = ⟨4, f, false⟩ ∧ lv = lv' + 1 ∧ (∃ y, N[b]? = some y ∧ y.f = f) ∧ At r N mid low p lv' b (L ++ [⟨a, lv, x.e (dgP p lv)⟩])) := by
  rcases A.h with ⟨rfl, rfl, x, hx, hxf⟩ | ⟨rfl, a0, x0, f, x, h0, h0f, hm, hx, hxf, rfl⟩ | ⟨rfl, a0, x0, f, b, y, k, x, h0, h0f, hm, hy, hyf, hl, hx, hxf, rfl⟩
  · have hd : dgP p 2 = p / 64 := by unfold dgP; show p / 64 % 8 = _; omega
    have he := h.rootAt hx hxf (i := p / 64) (by omega)
    refine ⟨x, hx, ?_, Nat.le_refl _, Nat.zero_le _, ?_⟩
    · rw [hd, he]; exact h.veM (by omega)
    · rw [hd, he]
      cases hm : mid (p / 64) with
      | none => exact .inl ⟨by simp [tabE, e0], ⟨.inl ⟨a, x, hx, hxf, hm, rfl⟩⟩⟩
      | some f =>
        obtain ⟨b, y, hb, hbf⟩ := h.midNode (by omega) hm
        exact .inr ⟨f, b, 1, rfl, rfl, ⟨y, hb, hbf⟩, ⟨.inr (.inl ⟨rfl, a, x, f, y, hx, hxf, hm, hb, hbf, rfl⟩)⟩⟩
  · have hd : dgP p 1 = p / 8 % 8 := by unfold dgP; rfl
    have he := h.midAt (i := p / 64) (by omega) hx (by rw [hxf]; exact hm) (j := p / 8 % 8) (by omega)
    rw [show 8 * (p / 64) + p / 8 % 8 = p / 8 by omega] at he
    refine ⟨x, hx, ?_, by omega, by simp, ?_⟩
    · rw [hd, he]; exact h.veL (by omega)
    · rw [hd, he]
      cases hl : low (p / 8) with
      | none => exact .inl ⟨by simp [tabE, e0], ⟨.inr (.inl ⟨a0, x0, a, x, f, h0, h0f, hm, hx, hxf, hl, rfl⟩)⟩⟩
      | some k =>
        obtain ⟨b, y, hb, hbf⟩ := h.lowNode (by omega) hl
        exact .inr ⟨k, b, 0, rfl, rfl, ⟨y, hb, hbf⟩, ⟨.inr (.inr ⟨rfl, a0, x0, f, a, x, k, y, h0, h0f, hm, hx, hxf, hl, hb, hbf, rfl⟩)⟩⟩
  · have hd : dgP p 0 = p % 8 := by unfold dgP; simp
    have he := h.lowAt (k := p / 8) (by omega) hx (by rw [hxf]; exact hl) (j := p % 8) (by omega)
    rw [show 8 * (p / 8) + p % 8 = p by omega] at he
    refine ⟨x, hx, ?_, by omega, by simp, ?_⟩
    · rw [hd, he]; exact h.ve p hp
    · rw [hd, he]
      exact .inl ⟨by rcases h.pg p hp with e | e <;> omega, ⟨.inr (.inr ⟨a0, x0, b, y, f, a, x, k, h0, h0f, hm, hy, hyf, hl, hx, hxf, rfl⟩)⟩⟩
end
end Go.Pt
namespace Go.Proofs.YtdddkfpcbfgocaaGreat
open Go.RowKit Go.Over Go.Seg Go.Grow Go.Pt
theorem dgP_eq (p l : Nat) : dgP p l = dg p l := rfl
theorem dgP_lt (p l : Nat) : dgP p l < 8 := Nat.mod_lt _ (by decide)
/-- A word of a node. -/
theorem NV.word {w : World} {b : Nat} {ns : List Value} {N : List Nd} {i : Nat} {x : Nd} (h : NV w b ns N) (hx : N[i]? = some x) {j : Nat} (hj : j < 8) : w.cell? ⟨b, i * 9 + 1 + j, none⟩ = some (.int .u64 (wd (x.e j))) := by
  rw [h.x.cell, Nat.add_assoc]
  refine h.row i x hx (1 + j) _ ?_
  match j, hj with
  | 0, _ => rfl
  | 1, _ => rfl
  | 2, _ => rfl
  | 3, _ => rfl
  | 4, _ => rfl
  | 5, _ => rfl
  | 6, _ => rfl
  | 7, _ => rfl
theorem Mp.not_own {w : World} {m base e size n : Nat} {v : Value} {l : List (Int × Int)} {xs : List Value} (h : Mp w m l) (ho : w.ownsRow base e size v n xs) : v.ownBlock ≠ some m := by
  rcases ho.2 with ⟨rfl, _⟩ | ⟨g', cap, cur, rfl, _, hh, _⟩
  · simp [Value.ownBlock]
  · intro he
    have e1 : g' = m := by simpa [Value.ownBlock] using he
    subst e1
    obtain ⟨es, clock, h1, _⟩ := h
    rw [hh] at h1
    cases h1
set_option maxRecDepth 100000 in set_option maxHeartbeats 3200000 in
theorem path (r : Int) (b n c : Nat) (ns : List Value) (N : List Nd) (mid low : Nat → Option Int) (ent : Nat → En) (p : Nat) (w : World) (H : NV w b ns N) (hn : N.length = n) (hm : n ≤ 100000) (hT : Tr r N mid low ent) (hp : p < 512) :
    Calls Tryz.prog 127 #[.agg #[.int .i64 r, .slice (some ⟨b, 0, none⟩) n c, .slice none 0 0], .int .i64 p] w fun e w' => ∃ v L, e = .returned v ∧ Pth r N mid low ent p L ∧ OwnS w' w.heap.size v L ∧ Below w.heap.size w w' := by
  have X0 := PX.new (r := r) (c := c) (n := n) H
  have HN := Lib.hid hn; have HT := Lib.hid hT
  clear hn hT H
  go_enter Tryz.func127, Tryz.ntmps127
  go_upto_region 1 with fail
  obtain ⟨w1, hw1⟩ : ∃ W, W = w.alloc (.cells #[.int .i64 r, .slice (some ⟨b, 0, none⟩) n c, .slice none 0 0] 120) := ⟨_, rfl⟩
  rw [← hw1] at X0 ⊢
  obtain ⟨g, hg⟩ : ∃ g, w.heap.size = g := ⟨_, rfl⟩
  have X1 : PX w g r b n c ns N w1 := by rw [← hg]; exact X0
  rw [hg]
  clear X0 hw1 hg
  have HIX := Lib.hid (index r b n c ns N w1 X1.v HN.out hm HT.out.fo.nd HT.out.fo.rg)
  go_wp2_with ((with_reducible refine ldPT ?_ X1.x ?_); (focus rfl))
  refine HIX.out.mono ?_
  rintro e w2 ⟨m, rfl, M2, lm, b2⟩
  have X2 := X1.below b2
  clear X1 b2 HIX
  obtain ⟨a0, ⟨x0, hx0, hf0⟩, A0⟩ := At.start (p := p) HT.out
  have hrg := HT.out.fo.rg a0 x0 hx0
  rw [hf0] at hrg
  have hkv : Go.Grow.kv (prs N n) r = some (a0 : Int) := by rw [← HN.out, ← hf0]; exact prs_kv HT.out.fo.nd hx0
  have hlk := MapI.look false M2 Tryz.underlying228 Tryz.underlying3 (by kernel_rfl) (i64_wf hrg.1 hrg.2)
  rw [hkv] at hlk
  simp only [Option.getD_some] at hlk
  have c0 := X2.c0
  clear hkv hx0 hf0 hrg
  go_wp2
  go_loopg [6, 7, 8] 2 (fun gg v6 v7 v8 wr => ∃ a L, v6 = .int .i64 (a : Nat) ∧ v8 = .int .i64 gg ∧ OwnS wr w.heap.size v7 L ∧ At r N mid low p gg a L ∧ PX w g r b n c ns N wr ∧ Mp wr m (prs N n))
  case atStart => exact ⟨a0, [], rfl, rfl, OwnS.nil _ _, A0, X2, M2⟩
  case round =>
    clear A0 X2 M2 hlk c0
    obtain ⟨a, L, rfl, rfl, O3, A3, X3, M3⟩ := hrel
    obtain ⟨x, hx, hve, hlv, hLl, hnext⟩ := At.step HT.out hp A3
    have cw := X3.v.word hx (dgP_lt p gk)
    rw [dgP_eq] at hve hnext cw
    have c1 := X3.c1
    have HX := Lib.hid hx; have HNX := Lib.hid hnext; have HV := Lib.hid hve; have HA := Lib.hid A3
    have hdg := dgP_lt p gk
    rw [dgP_eq] at hdg
    obtain ⟨D, hD⟩ : ∃ D, dg p gk = D := ⟨_, rfl⟩
    have HDG := Lib.hid (fun u => digit p gk hp hlv (over wr u))
    rw [hD] at HNX HV HDG cw hdg
    obtain ⟨E, hE⟩ : ∃ E, x.e D = E := ⟨_, rfl⟩
    rw [hE] at HNX HV cw
    have HEN := Lib.hid (fun W => entryE HV.out W)
    obtain ⟨W0, hW0⟩ : ∃ q, wd E = q := ⟨_, rfl⟩
    have HW0 := Lib.hid hW0
    rw [hW0] at cw HEN
    have d1 := over_cell c1; have dw := over_cell cw
    have hk0 : (0 : Int) ≤ (gk : Int) := by omega
    have ha0 : a < n := by rw [← HN.out]; exact (List.getElem?_eq_some_iff.1 HX.out).1
    clear hx hnext hve A3 hD hE hW0 c1 cw
    go_upto_region 6 with fail
    refine wp_region_over (by kernel_rfl) (by kernel_rfl) ?_
    repeat (go_big_quiet_step ((go_at_call 129; exact calls_over_same (HDG.out _))))
    refine wpQuiet_nil ?_
    rintro _ ⟨u, rfl⟩
    have X4 := X3.below (below_over wr u)
    have M4 : Mp (over wr u) m (prs N n) := MapI.later M3 (below_over wr u)
    have O4 : OwnS (over wr u) w.heap.size u7 L := own_later O3 (below_over wr u)
    obtain ⟨w4, hw4⟩ : ∃ W, W = over wr u := ⟨_, rfl⟩
    rw [← hw4] at X4 M4 O4 ⊢
    clear X3 M3 O3 d1 dw hw4
    have hSB := Blk.new w4 186 #[.int .i64 (a : Nat), .int .i64 (gk : Nat), .int .u64 W0] (stepC ⟨a, gk, E⟩) (by rw [← HW0.out]; rfl)
    have hbx := below_box w4 (.cells #[.int .i64 (a : Nat), .int .i64 (gk : Nat), .int .u64 W0] 186)
    have O5 : OwnS _ w.heap.size u7 L := own_later O4 hbx
    have hsz : w.heap.size ≤ (w4.alloc (.cells #[.int .i64 (a : Nat), .int .i64 (gk : Nat), .int .u64 W0] 186)).heap.size := Nat.le_trans X4.u.size hbx.size
    have X5 := X4.below hbx
    have M5 : Mp _ m (prs N n) := MapI.later M4 hbx
    have hLL : L.length ≤ 900000 := by omega
    clear X4 M4 O4 hbx
    go_upto_region 8 with ((with_reducible refine wpList_appS (base := w.heap.size) (b := w4.heap.size) (s := ⟨a, gk, E⟩) ?_ ?_ O5 hSB hLL hsz ?_); (focus rfl); (focus rfl); intro v6 w6 O6 hg6)
    have X6 : PX w g r b n c ns N w6 := ⟨X5.u.grown hg6 X5.u.size (fun k hk => (World.ownsRow.lt O5 k hk).1), X5.l, X5.x.grown hg6 (X5.x.not_own O5 (by decide)), ⟨X5.v.x.grown hg6 (X5.v.x.not_own O5 (by decide)), X5.v.n, X5.v.row⟩⟩
    have M6 : Mp w6 m (prs N n) := MapI.kept M5 hg6 (fun e => M5.not_own O5 e.symm)
    clear X5 M5 O5 hSB hsz hg6
    go_wp2_with fail
    refine (HEN.out w6).mono ?_
    rintro e w7 ⟨rfl, b7⟩
    have X7 := X6.below b7
    have M7 : Mp w7 m (prs N n) := MapI.later M6 b7
    have O7 : OwnS w7 w.heap.size v6 _ := own_later O6 b7
    have hz := Blk.new w7 131 #[.int .i64 0, .int .i64 0, .bool false, .bool false, .bool false, .bool false] _ rfl
    have bz := below_box w7 (.cells #[.int .i64 0, .int .i64 0, .bool false, .bool false, .bool false, .bool false] 131)
    clear X6 M6 O6 b7
    go_upto_region 9 with ((with_reducible refine stE (k := E.k) (n := E.n) (b := E.b) ?_ ?_ hz rfl ?_); (focus rfl); (focus rfl); intro w8 hB8 hg8)
    have b8 : Below w7.heap.size w7 w8 := bz.grown hg8 bz.size (fun q hq => by cases hq; exact Nat.le_refl _)
    have X8 := X7.below b8
    have M8 : Mp w8 m (prs N n) := MapI.later M7 b8
    have O8 : OwnS w8 w.heap.size v6 _ := own_later O7 b8
    have d8 : w8.cell? ⟨w7.heap.size, 0, none⟩ = some (.int .i64 E.k) := by rw [hB8.cell]; rfl
    have d9 : w8.cell? ⟨w7.heap.size, 1, none⟩ = some (.int .i64 E.n) := by rw [hB8.cell]; rfl
    obtain ⟨g8, hg8'⟩ : ∃ q, w7.heap.size = q := ⟨_, rfl⟩
    rw [hg8'] at d8 d9 ⊢
    clear X7 M7 O7 b8 hB8 hg8 hz bz hg8'
    rcases HNX.out with ⟨hk4, hP⟩ | ⟨f, a', lv', hE, hlv', ⟨y, hy, hyf⟩, A'⟩
    · have t4 : (E.k != 4) = true := by simpa using hk4
      go_wp2
      go_ret
      exact ⟨v6, _, rfl, hP, O8, X8.u⟩
    · have hrg := HT.out.fo.rg a' y hy
      rw [hyf] at hrg
      have hkv : Go.Grow.kv (prs N n) f = some (a' : Int) := by rw [← HN.out, ← hyf]; exact prs_kv HT.out.fo.nd hy
      have hlk := MapI.look false M8 Tryz.underlying228 Tryz.underlying3 (by kernel_rfl) (i64_wf hrg.1 hrg.2)
      rw [hkv] at hlk
      simp only [Option.getD_some] at hlk
      rw [hE] at d8 d9
      have HAN := Lib.hid A'
      subst hlv'
      clear hE A' hkv hy hyf hrg
      go_wp2
      go_roundg lv'
      case rel => exact ⟨a', _, rfl, by go_num, O8, HAN.out, X8, M8⟩
      case measure => omega
end Go.Proofs.YtdddkfpcbfgocaaGreat
namespace Go.Pt
section
variable {r : Int} {N : List Nd} {mid low : Nat → Option Int} {ent : Nat → En} {p : Nat}
/-- The step at which the walk for a page ends. -/
structure Lst (r : Int) (N : List Nd) (mid low : Nat → Option Int) (ent : Nat → En) (p a l : Nat) (e : En) : Prop where
  hl : l = endL mid low p
  he : e = endE mid low ent p
  h : ∃ x, N[a]? = some x ∧ ((l = 2 ∧ x.f = r ∧ mid (p / 64) = none) ∨ (l = 1 ∧ mid (p / 64) = some x.f ∧ low (p / 8) = none) ∨ (l = 0 ∧ (mid (p / 64)).isSome = true ∧ low (p / 8) = some x.f))
theorem Pth.last {L : List St} (h : Pth r N mid low ent p L) : ∃ L0 a l e, L = L0 ++ [⟨a, l, e⟩] ∧ L.length ≤ 3 ∧ Lst r N mid low ent p a l e := by
  rcases h.h with ⟨a, x, h1, h2, h3, rfl⟩ | ⟨a, x, b, y, f, h1, h2, h3, h4, h5, h6, rfl⟩ | ⟨a, x, b, y, f, c, z, k, h1, h2, h3, h4, h5, h6, h7, h8, rfl⟩
  · exact ⟨[], a, 2, e0, rfl, by simp, ⟨by simp [endL, h3], by simp [Pt.endE, h3], x, h1, .inl ⟨rfl, h2, h3⟩⟩⟩
  · exact ⟨[_], b, 1, e0, rfl, by simp, ⟨by simp [endL, h3, h6], by simp [Pt.endE, h3, h6], y, h4, .inr (.inl ⟨rfl, by rw [h3, h5], h6⟩)⟩⟩
  · exact ⟨[_, _], c, 0, ent p, rfl, by simp, ⟨by simp [endL, h3, h6], by simp [Pt.endE, h3, h6], z, h7, .inr (.inr ⟨rfl, by rw [h3]; rfl, by rw [h6, h8]⟩)⟩⟩
theorem Lst.ve {a l : Nat} {e : En} (h : Lst r N mid low ent p a l e) (hT : Tr r N mid low ent) (hp : p < 512) : VE e := by
  rw [h.he]
  unfold Pt.endE
  split
  · exact ve0
  · split
    · exact ve0
    · exact hT.ve p hp
theorem Lst.l2 {a l : Nat} {e : En} (h : Lst r N mid low ent p a l e) : l ≤ 2 := by
  obtain ⟨x, _, h1 | h1 | h1⟩ := h.h <;> omega
theorem stepsC_at (L0 : List St) (s : St) {j : Nat} (hj : j < 3) : (stepsC (L0 ++ [s]))[L0.length * 3 + j]? = (stepC s)[j]? := by
  rw [stepsC_snoc, List.getElem?_append_right (by rw [stepsC_len]; omega), stepsC_len]
  congr 1; omega
end
end Go.Pt
namespace Go.Proofs.YtdddkfpcbfgocaaGreat
open Go.RowKit Go.Over Go.Seg Go.Grow Go.Pt
theorem infoSt : (Tryz.prog.info? 186).map (·.size) = some 3 := by kernel_rfl
/-- The block of a row of a call's own. -/
theorem own_blk {w : World} {B e size n : Nat} {v : Value} {xs : List Value} (h : w.ownsRow B e size v n xs) (hn : 0 < n) : ∃ (g c : Nat) (zs : List Value), v = .slice (some ⟨g, 0, none⟩) n c ∧ B ≤ g ∧ n ≤ c ∧ c ≤ maxLen ∧ Blk w g e zs ∧ ∀ (j : Nat) (u : Value), xs[j]? = some u → zs[j]? = some u := by
  rcases h.2 with ⟨_, rfl⟩ | ⟨g, cap, cur, rfl, h0, h1, h2, h3, _, ht⟩
  · omega
  · refine ⟨g, cap, cur.toList, rfl, h0, h2, h3, by unfold Blk; rw [h1], fun j u hu => ?_⟩
    rw [← ht, List.getElem?_take] at hu
    split at hu
    · exact hu
    · cases hu
section
variable {ops : Array Oper} {rest : List Oper} {d i j : Nat} {ty : TypeId} {pos : String} {af : Array Edge} {a : Act} {w : World} {Q : Exit → Act → World → Prop} {g B : Nat} {s : St} {zs : List Value}
/-- A step is loaded out of a row. -/
theorem ldSt {off : Nat} (hx : a.eval (.tmp i) = .pointer (some ⟨B, off, none⟩)) (hB : Blk w B 186 zs) (hz : ∀ j u, (stepC s)[j]? = some u → zs[off + j]? = some u) (hK : wpList Tryz.prog ops Q rest (a.put (some d) (.agg (stepC s).toArray)) w) :
    wpList Tryz.prog ops Q ({ dst := some d, op := .load 186 (.tmp i), type := ty, pos := pos, after := af, guard := none } :: rest) a w :=
  wpList_load_part Tryz.underlying186 rfl (by rw [infoSt]; rfl) hx hB hz hK
/-- A step is stored whole. -/
theorem stSt (hx : a.eval (.tmp i) = .pointer (some ⟨g, 0, none⟩)) (hy : a.eval (.tmp j) = .agg (stepC s).toArray) (hB : Blk w g 186 zs) (hz : zs.length = 3)
    (h : ∀ W, Blk W g 186 (stepC s) → w.grownBy W (some g) → wpList Tryz.prog ops Q rest (a.put none undef) W) :
    wpList Tryz.prog ops Q ({ dst := none, op := .store 186 (.tmp i) (.tmp j), type := ty, pos := pos, after := af, guard := none } :: rest) a w := by
  have e : lay zs 0 (stepC s) = stepC s := by
    have hl : (stepC s).length = 3 := rfl
    unfold lay
    rw [hl, List.take_zero, List.nil_append, List.drop_eq_nil_of_le (by omega), List.append_nil]
  refine wpList_store_part (cs := stepC s) (by rw [infoSt]; rfl) hx hy hB (by rw [hz]; exact Nat.le_refl _) ?_ fun W q1 q2 => h W (by rw [← e]; exact q1) q2
  intro u hu
  simp [stepC] at hu
  rcases hu with rfl | rfl | rfl <;> rfl
end
theorem resSt {fn : Func} {p : Tmp} (h : fn.results = #[.cell p 186]) (tmps : Array Value) (w : World) (g : Nat) (cs : List Value) (hp : tmps.getD p undef = .pointer (some ⟨g, 0, none⟩)) (hg : Blk w g 186 cs) (hl : cs.length = 3) :
    (results fn tmps).run Tryz.prog w = .ok (.agg cs.toArray) w :=
  results_cell_row h tmps w g 186 cs.toArray (0, 0) _ hp hg Tryz.underlying186 rfl (by rw [infoSt]; simp [hl])
set_option maxRecDepth 100000 in set_option maxHeartbeats 3200000 in
theorem last (r : Int) (b n c : Nat) (ns : List Value) (N : List Nd) (mid low : Nat → Option Int) (ent : Nat → En) (p : Nat) (w : World) (H : NV w b ns N) (hn : N.length = n) (hm : n ≤ 100000) (hT : Tr r N mid low ent) (hp : p < 512) :
    Calls Tryz.prog 113 #[.agg #[.int .i64 r, .slice (some ⟨b, 0, none⟩) n c, .slice none 0 0], .int .i64 p] w fun e w' => ∃ a l E, e = .returned (.agg #[.int .i64 (a : Nat), .int .i64 (l : Nat), .int .u64 (wd E)]) ∧ Lst r N mid low ent p a l E ∧ Below w.heap.size w w' := by
  have b0 := below_box w (.cells #[.int .i64 r, .slice (some ⟨b, 0, none⟩) n c, .slice none 0 0] 120)
  have X0 := PX.new (r := r) (c := c) (n := n) H
  have b1 := below_box (w.alloc (.cells #[.int .i64 r, .slice (some ⟨b, 0, none⟩) n c, .slice none 0 0] 120)) (.cells #[.int .i64 0, .int .i64 0, .int .u64 0] 186)
  have X1 := X0.below b1
  have z1 := Blk.new (w.alloc (.cells #[.int .i64 r, .slice (some ⟨b, 0, none⟩) n c, .slice none 0 0] 120)) 186 #[.int .i64 0, .int .i64 0, .int .u64 0] _ rfl
  have s1 : (w.alloc (.cells #[.int .i64 r, .slice (some ⟨b, 0, none⟩) n c, .slice none 0 0] 120)).heap.size = w.heap.size + 1 := by simp
  rw [s1] at z1
  have HN := Lib.hid hn; have HT := Lib.hid hT
  clear hn hT H b0 b1 X0 s1
  go_enter Tryz.func113, Tryz.ntmps113
  go_upto_region 1 with fail
  obtain ⟨w1, hw1⟩ : ∃ W, W = (w.alloc (.cells #[.int .i64 r, .slice (some ⟨b, 0, none⟩) n c, .slice none 0 0] 120)).alloc (.cells #[.int .i64 0, .int .i64 0, .int .u64 0] 186) := ⟨_, rfl⟩
  rw [← hw1] at X1 z1 ⊢
  obtain ⟨g4, hg4⟩ : ∃ g, w.heap.size + 1 = g := ⟨_, rfl⟩
  have l4 : w.heap.size ≤ g4 := by omega
  rw [hg4] at z1 ⊢
  obtain ⟨g, hg⟩ : ∃ g, w.heap.size = g := ⟨_, rfl⟩
  have X1 : PX w g r b n c ns N w1 := by rw [← hg]; exact X1
  have ng : g4 ≠ g := by omega
  rw [hg]
  clear hw1 hg hg4
  have HPA := Lib.hid (path r b n c ns N mid low ent p w1 X1.v HN.out hm HT.out hp)
  go_wp2_with ((with_reducible refine ldPT ?_ X1.x ?_); (focus rfl))
  refine HPA.out.mono ?_
  rintro e w2 ⟨v, L, rfl, hP, O2, b2⟩
  have X2 := X1.below b2
  have z2 := z1.later b2
  clear X1 z1 b2 HPA
  obtain ⟨L0, a, l, E, hL, hl3, hLst⟩ := hP.last
  have hlen : L.length = L0.length + 1 := by rw [hL]; simp
  obtain ⟨B, cp, zs, rfl, hBB, _, _, hzs, hrow⟩ := own_blk O2 (by omega)
  have hst : ∀ j u, (stepC ⟨a, l, E⟩)[j]? = some u → zs[L0.length * 3 + j]? = some u := fun j u hu => by
    refine hrow _ u ?_
    have hj : j < 3 := by rw [List.getElem?_eq_some_iff] at hu; exact hu.1
    rw [hL, stepsC_at _ _ hj]; exact hu
  have HST := Lib.hid hst
  rw [hlen]
  have hl0 : L0.length ≤ 2 := by omega
  obtain ⟨q, hq⟩ : ∃ q, L0.length = q := ⟨_, rfl⟩
  rw [hq] at HST hl0 ⊢
  have HLS := Lib.hid hLst
  clear hst hrow hlen hL hl3 hP O2 hq hLst
  go_wp2_with first | ((with_reducible refine ldSt (off := q * 3) (s := ⟨a, l, E⟩) ?_ hzs HST.out ?_); (focus rfl)) | ((with_reducible refine stSt (s := ⟨a, l, E⟩) ?_ ?_ z2 rfl ?_); (focus rfl); (focus rfl); intro w5 hB5 hg5)
  refine bodyPost_ret (resSt rfl _ _ g4 _ rfl hB5 rfl) rfl ?_
  exact ⟨a, l, E, rfl, HLS.out, X2.u.grown hg5 X2.u.size (fun k hk => by cases hk; exact l4)⟩
end Go.Proofs.YtdddkfpcbfgocaaGreat
namespace Go.Pt
/-- Whether, as a value. -/
noncomputable def vb (P : Prop) : Bool := @decide P (Classical.propDecidable P)
theorem vb_false {P : Prop} (h : ¬ P) : vb P = false := by unfold vb; simp [h]
theorem vb_true {P : Prop} (h : P) : vb P = true := by unfold vb; simp [h]
/-- The marks of the nodes whose frames are in V. -/
noncomputable def visC (V : Int → Prop) (N : List Nd) : List Value := N.map fun x => .bool (vb (V x.f))
theorem visC_at {V : Int → Prop} {N : List Nd} {i : Nat} {x : Nd} (h : N[i]? = some x) : (visC V N)[i]? = some (.bool (vb (V x.f))) := by
  unfold visC
  rw [List.getElem?_map, h]; rfl
theorem visC_ext {V V' : Int → Prop} {N : List Nd} (h : ∀ x ∈ N, V x.f ↔ V' x.f) : visC V N = visC V' N := by
  unfold visC
  refine List.map_congr_left fun x hx => ?_
  rw [show V x.f = V' x.f from propext (h x hx)]
theorem visC_set {V V' : Int → Prop} {N : List Nd} (hf : FO N) {i : Nat} {x : Nd} (h : N[i]? = some x) (h0 : ∀ f, V' f ↔ V f ∨ f = x.f) : (visC V N).set i (.bool true) = visC V' N := by
  apply List.ext_getElem?
  intro j
  rw [List.getElem?_set]
  have hi : i < N.length := by rw [List.getElem?_eq_some_iff] at h; exact h.1
  have hl : (visC V N).length = N.length := by simp [visC]
  by_cases e : i = j
  · subst e
    rw [if_pos rfl, if_pos (by rw [hl]; exact hi), visC_at h, vb_true ((h0 _).2 (.inr rfl))]
  · rw [if_neg e]
    cases hj : N[j]? with
    | none =>
      have : N.length ≤ j := by rwa [List.getElem?_eq_none_iff] at hj
      rw [List.getElem?_eq_none (by rw [hl]; exact this), List.getElem?_eq_none (by simp [visC]; exact this)]
    | some y =>
      rw [visC_at hj, visC_at hj]
      have : ¬ y.f = x.f := fun e' => e (hf.one hj h e').1.symm
      rw [show V' y.f = V y.f from propext (by rw [h0]; simp [this])]
end Go.Pt
namespace Go.Pt
theorem VE.none {e : En} (h : VE e) (hk : e.k = 0) : e.n = 0 ∧ e.b = false := by
  rcases h.h with ⟨_, h2, h3⟩ | ⟨h1, _⟩ | ⟨h1, _⟩
  · exact ⟨h2, h3⟩
  · omega
  · omega
end Go.Pt
namespace Go.Proofs.YtdddkfpcbfgocaaGreat
open Go.RowKit Go.Over Go.Seg Go.Grow Go.Pt
theorem _root_.Go.Pt.VE.enC0 {e : En} (h : VE e) (hk : e.k = 0) : enC e.k e.n e.b = enC 0 0 false := by
  rw [hk, (h.none hk).1, (h.none hk).2]
/-- What the closure finds. -/
structure CK (w : World) (gl gt gh gm gc lb m : Nat) (r : Int) (b n c : Nat) (ns : List Value) (N : List Nd) (V : Int → Prop) (W : World) : Prop where
  u : Below w.heap.size w W
  lo : w.heap.size ≤ lb
  led : Blk W gl 51 [.slice (some ⟨lb, 0, none⟩) n n]
  tab : Blk W gt 120 (ptC r b n c)
  hu : Blk W gh 24 [.slice none 0 0]
  mp : Blk W gm 228 [.map (some m)]
  cl : Blk W gc 70 [.func (.func 170) #[] #[.pointer (some ⟨gl, 0, none⟩), .pointer (some ⟨gt, 0, none⟩), .pointer (some ⟨gh, 0, none⟩), .pointer (some ⟨gm, 0, none⟩), .pointer (some ⟨gc, 0, none⟩)]]
  lv : Blk W lb 4 (visC V N)
  nv : NV W b ns N
  pm : Mp W m (prs N n)
section
variable {w W W' : World} {gl gt gh gm gc lb m : Nat} {r : Int} {b n c : Nat} {ns : List Value} {N : List Nd} {V V' : Int → Prop}
theorem CK.below (h : CK w gl gt gh gm gc lb m r b n c ns N V W) (hb : Below W.heap.size W W') : CK w gl gt gh gm gc lb m r b n c ns N V W' :=
  ⟨below_then h.u hb, h.lo, h.led.later hb, h.tab.later hb, h.hu.later hb, h.mp.later hb, h.cl.later hb, h.lv.later hb, h.nv.later hb, MapI.later h.pm hb⟩
theorem CK.ext (h : CK w gl gt gh gm gc lb m r b n c ns N V W) (he : ∀ x ∈ N, V x.f ↔ V' x.f) : CK w gl gt gh gm gc lb m r b n c ns N V' W :=
  ⟨h.u, h.lo, h.led, h.tab, h.hu, h.mp, h.cl, by rw [← visC_ext he]; exact h.lv, h.nv, h.pm⟩
theorem CK.mark (h : CK w gl gt gh gm gc lb m r b n c ns N V W) (hf : FO N) {i : Nat} {x : Nd} (hx : N[i]? = some x) (h0 : ∀ f, V' f ↔ V f ∨ f = x.f) : CK w gl gt gh gm gc lb m r b n c ns N V' (W.setCell ⟨lb, i, none⟩ (.bool true)) := by
  have hl := h.lv.set i (.bool true)
  rw [visC_set hf hx h0] at hl
  have hg : W.grownBy (W.setCell ⟨lb, i, none⟩ (.bool true)) (some lb) := ⟨rfl, rfl, rfl, by simp [World.setCell], fun k _ hk => Below.heap_setCell W ⟨lb, i, none⟩ _ k (fun e => hk (by rw [e]))⟩
  refine ⟨h.u.grown hg h.u.size (fun k hk => by cases hk; exact h.lo), h.lo, h.led.grown hg ?_, h.tab.grown hg ?_, h.hu.grown hg ?_, h.mp.grown hg ?_, h.cl.grown hg ?_, hl, ⟨h.nv.x.grown hg ?_, h.nv.n, h.nv.row⟩, MapI.kept h.pm hg ?_⟩
  · simpa using h.lv.ne_type h.led (by decide)
  · simpa using h.lv.ne_type h.tab (by decide)
  · simpa using h.lv.ne_type h.hu (by decide)
  · simpa using h.lv.ne_type h.mp (by decide)
  · simpa using h.lv.ne_type h.cl (by decide)
  · simpa using h.lv.ne_type h.nv.x (by decide)
  · simpa using h.pm.ne h.lv
end
section
variable {ops : Array Oper} {rest : List Oper} {d i : Nat} {ty : TypeId} {pos : String} {af : Array Edge} {a : Act} {w : World} {Q : Exit → Act → World → Prop} {g : Nat} {k n : Int} {b : Bool}
/-- An entry is loaded, behind a guard. -/
theorem ldEg {gd : Nat × Bool} (hw : Region.wanted { dst := some d, op := .load 131 (.tmp i), type := ty, pos := pos, after := af, guard := some gd } (yielded ops a.tmps) = true) (hx : a.eval (.tmp i) = .pointer (some ⟨g, 0, none⟩)) (hB : Blk w g 131 (enC k n b)) (h : wpList Tryz.prog ops Q rest (a.put (some d) (.agg (enC k n b).toArray)) w) :
    wpList Tryz.prog ops Q ({ dst := some d, op := .load 131 (.tmp i), type := ty, pos := pos, after := af, guard := some gd } :: rest) a w :=
  wpList_load_part_g Tryz.underlying131 rfl (by rw [infoE]; rfl) hw hx hB (fun j v hv => by rw [Nat.zero_add]; exact hv) h
end
theorem suits1L (n : Int) (b : Bool) (lv : Nat) (h : lv = 0) (w : World) : Calls Tryz.prog 171 #[.agg #[.int .i64 1, .int .i64 n, .bool b, .bool false, .bool false, .bool false], .int .i64 lv] w fun e w' => e = .returned (.bool true) ∧ Below w.heap.size w w' := by
  subst h
  exact suits1 n b w
/-- What the call of the closure does. -/
def CkPost (w : World) (gl gt gh gm gc lb m : Nat) (r : Int) (b n c : Nat) (ns : List Value) (N : List Nd) (V : Int → Prop) (e : Ending) (w' : World) : Prop := e = .returned (.bool true) ∧ CK w gl gt gh gm gc lb m r b n c ns N V w'
/-- What is known of the entries of the node. -/
def CkEnt (w : World) (gl gt gh gm gc lb m : Nat) (r : Int) (b n c : Nat) (ns : List Value) (N : List Nd) (lv : Nat) (x : Nd) (VS : Nat → Int → Prop) (j : Nat) : Prop :=
  VE (x.e j) ∧ (((x.e j).k = 0 ∧ VS (j + 1) = VS j) ∨ ((x.e j).k = 1 ∧ lv = 0 ∧ VS (j + 1) = VS j) ∨
    ((x.e j).k = 4 ∧ (x.e j).b = false ∧ 0 < lv ∧ ∃ (q : Nat) (y : Nd), N[q]? = some y ∧ y.f = (x.e j).n ∧ ∀ (z : Int) (W : World), CK w gl gt gh gm gc lb m r b n c ns N (VS j) W →
      Calls Tryz.prog 170 #[.int .i64 q, .int .i64 ((lv : Int) - 1), .int .i64 z, .pointer (some ⟨gl, 0, none⟩), .pointer (some ⟨gt, 0, none⟩), .pointer (some ⟨gh, 0, none⟩), .pointer (some ⟨gm, 0, none⟩), .pointer (some ⟨gc, 0, none⟩)] W (CkPost w gl gt gh gm gc lb m r b n c ns N (VS (j + 1)))))
set_option maxRecDepth 100000 in set_option maxHeartbeats 3200000 in
theorem walkN (w : World) (gl gt gh gm gc lb m : Nat) (r : Int) (b n c : Nat) (ns : List Value) (N : List Nd) (hn : N.length = n) (hf : FO N) (lv : Nat) (hlv : lv ≤ 2) (q : Nat) (x : Nd) (hx : N[q]? = some x) (V : Int → Prop) (VS : Nat → Int → Prop) (hV : ¬ V x.f) (h0 : ∀ f, VS 0 f ↔ V f ∨ f = x.f)
    (hE : ∀ j, j < 8 → CkEnt w gl gt gh gm gc lb m r b n c ns N lv x VS j) (z : Int) (W : World) (H : CK w gl gt gh gm gc lb m r b n c ns N V W) :
    Calls Tryz.prog 170 #[.int .i64 q, .int .i64 lv, .int .i64 z, .pointer (some ⟨gl, 0, none⟩), .pointer (some ⟨gt, 0, none⟩), .pointer (some ⟨gh, 0, none⟩), .pointer (some ⟨gm, 0, none⟩), .pointer (some ⟨gc, 0, none⟩)] W (CkPost w gl gt gh gm gc lb m r b n c ns N (VS 8)) := by
  have HN := Lib.hid hn; have HF := Lib.hid hf; have HX := Lib.hid hx; have HE := Lib.hid hE
  have hqn : q < n := by rw [← hn]; exact (List.getElem?_eq_some_iff.1 hx).1
  have cq : W.cell? ⟨lb, q, none⟩ = some (.bool false) := by rw [H.lv.cell, visC_at hx, vb_false hV]
  have cl : W.cell? ⟨gl, 0, none⟩ = some (.slice (some ⟨lb, 0, none⟩) n n) := by rw [H.led.cell]; rfl
  have fq := H.lv.frozen q
  have H1 := H.mark hf hx h0
  clear hn hf hx hE hV h0
  go_enter Tryz.func170, Tryz.ntmps170
  go_upto_region 4 with fail
  obtain ⟨w1, hw1⟩ : ∃ w1, W.setCell ⟨lb, q, none⟩ (.bool true) = w1 := ⟨_, rfl⟩
  rw [hw1] at H1 ⊢
  clear H hw1 cq cl fq
  go_wp2
  go_loopg [12, 26] lv (fun gg v12 v26 wr => ∃ i : Nat, i + gg = lv ∧ v12 = .int .i64 ((8 ^ i : Nat) : Int) ∧ v26 = .int .i64 i ∧ CK w gl gt gh gm gc lb m r b n c ns N (VS 0) wr)
  case atStart => exact ⟨0, by omega, rfl, rfl, H1⟩
  case round =>
    clear H1
    obtain ⟨i, hi, rfl, rfl, H2⟩ := hrel
    have hp8 : 8 ^ i ≤ 64 := by
      have : 8 ^ i ≤ 8 ^ 2 := Nat.pow_le_pow_right (by decide) (by omega)
      exact this
    have HPW := Lib.hid (show 8 ^ (i + 1) = 8 ^ i * 8 from Nat.pow_succ 8 i)
    obtain ⟨P, hP⟩ : ∃ P, 8 ^ i = P := ⟨_, rfl⟩
    rw [hP] at hp8 HPW ⊢
    clear hP
    cases gk with
    | succ gg =>
      have hin : i < lv := by omega
      have HI := Lib.hid hi
      clear hi
      go_wp2
      go_roundg gg
      case rel => exact ⟨i + 1, by have := HI.out; omega, by rw [HPW.out]; go_num, by go_num, H2⟩
      case measure => omega
    | zero =>
      obtain rfl : lv = i := by omega
      have hin : ¬ lv < lv := by omega
      clear hi HPW
      go_wp2
      go_loopg [31] 8 (fun gg v31 wr => ∃ j : Nat, j + gg = 8 ∧ v31 = .int .i64 j ∧ CK w gl gt gh gm gc lb m r b n c ns N (VS j) wr)
      case atStart => exact ⟨0, by omega, rfl, H2⟩
      case round =>
        clear H2 hin
        obtain ⟨j, hj, rfl, H3⟩ := hrel
        cases gk with
        | zero =>
          obtain rfl : j = 8 := by omega
          clear hj
          go_wp2
          go_ret
          exact ⟨rfl, H3⟩
        | succ gg =>
          have hj8 : j < 8 := by omega
          have HJ := Lib.hid hj
          obtain ⟨hve, hcase⟩ := HE.out j hj8
          have cw := H3.nv.word HX.out hj8
          have ct : wr.cell? ⟨gt, 1, none⟩ = some (.slice (some ⟨b, 0, none⟩) n c) := by rw [H3.tab.cell]; rfl
          obtain ⟨E, hEe⟩ : ∃ E, x.e j = E := ⟨_, rfl⟩
          rw [hEe] at cw hve hcase
          have HDE := Lib.hid (fun u => decE hve u)
          obtain ⟨W0, hW0⟩ : ∃ q, wd E = q := ⟨_, rfl⟩
          rw [hW0] at cw HDE
          have HC := Lib.hid hcase; have HVE := Lib.hid hve
          clear hj hEe hW0 hve hcase
          go_wp2_with fail
          refine (HDE.out wr).mono ?_
          rintro e w4 ⟨rfl, b4⟩
          have H4 := H3.below b4
          have hz := Blk.new w4 131 #[.int .i64 0, .int .i64 0, .bool false, .bool false, .bool false, .bool false] _ rfl
          have bz := below_box w4 (.cells #[.int .i64 0, .int .i64 0, .bool false, .bool false, .bool false, .bool false] 131)
          clear H3 b4 cw ct HDE
          go_upto_region 13 with ((with_reducible refine stE (k := E.k) (n := E.n) (b := E.b) ?_ ?_ hz rfl ?_); (focus rfl); (focus rfl); intro w5 hB5 hg5)
          have H5 := H4.below (bz.grown hg5 bz.size (fun q hq => by cases hq; exact Nat.le_refl _))
          obtain ⟨g5, hg5'⟩ : ∃ q, w4.heap.size = q := ⟨_, rfl⟩
          rw [hg5'] at hB5 ⊢
          clear H4 hz bz hg5 hg5'
          have d0 : w5.cell? ⟨g5, 0, none⟩ = some (.int .i64 E.k) := by rw [hB5.cell]; rfl
          have d1 : w5.cell? ⟨g5, 1, none⟩ = some (.int .i64 E.n) := by rw [hB5.cell]; rfl
          have d5 : w5.cell? ⟨g5, 5, none⟩ = some (.bool false) := by rw [hB5.cell]; rfl
          rcases HC.out with ⟨hk, hs⟩ | ⟨hk, hl0, hs⟩ | ⟨hk, hkb, hl0, q', y, hy, hyf, hrec⟩
          · rw [HVE.out.enC0 hk] at hB5
            rw [hk] at d0
            have HS := Lib.hid (fun W => suits0 lv W)
            have HVS := Lib.hid hs
            clear hk hs HC
            go_wp2_with ((with_reducible refine ldEg ?_ ?_ hB5 ?_); (focus rfl); (focus rfl))
            refine (HS.out _).mono ?_
            rintro e w6 ⟨rfl, b6⟩
            have H6 := H5.below b6
            have d0 := cell_later b6 d0; have d1 := cell_later b6 d1; have d5 := cell_later b6 d5
            clear H5 hB5 HS
            go_wp2
            go_roundg gg
            case rel => exact ⟨j + 1, by have := HJ.out; omega, by go_num, by rw [HVS.out]; exact H6⟩
            case measure => omega
          · rw [hk] at hB5
            rw [hk] at d0
            have HS := Lib.hid (fun W => suits1L E.n E.b lv hl0 W)
            have HVS := Lib.hid hs
            clear hk hl0 hs HC
            go_wp2_with ((with_reducible refine ldEg ?_ ?_ hB5 ?_); (focus rfl); (focus rfl))
            refine (HS.out _).mono ?_
            rintro e w6 ⟨rfl, b6⟩
            have H6 := H5.below b6
            have d0 := cell_later b6 d0; have d1 := cell_later b6 d1; have d5 := cell_later b6 d5
            clear H5 hB5 HS
            go_wp2
            go_roundg gg
            case rel => exact ⟨j + 1, by have := HJ.out; omega, by go_num, by rw [HVS.out]; exact H6⟩
            case measure => omega
          · rw [hk] at d0 hB5
            rw [hkb] at hB5
            have HS := Lib.hid (fun W => suits4 E.n lv hl0 W)
            have HR := Lib.hid hrec
            have hkv : Go.Grow.kv (prs N n) E.n = some (q' : Int) := by rw [← HN.out, ← hyf]; exact prs_kv HF.out.nd hy
            have hrg := HF.out.rg q' y hy
            rw [hyf] at hrg
            clear hk hkb hy hyf hrec HC
            go_wp2_with ((with_reducible refine ldEg ?_ ?_ hB5 ?_); (focus rfl); (focus rfl))
            refine (HS.out _).mono ?_
            rintro e w6 ⟨rfl, b6⟩
            have H6 := H5.below b6
            have d0' := cell_later b6 d0; have d1' := cell_later b6 d1
            have cm : w6.cell? ⟨gm, 0, none⟩ = some (.map (some m)) := by rw [H6.mp.cell]; rfl
            have cc : w6.cell? ⟨gc, 0, none⟩ = some (.func (.func 170) #[] #[.pointer (some ⟨gl, 0, none⟩), .pointer (some ⟨gt, 0, none⟩), .pointer (some ⟨gh, 0, none⟩), .pointer (some ⟨gm, 0, none⟩), .pointer (some ⟨gc, 0, none⟩)]) := by rw [H6.cl.cell]; rfl
            have hlk := MapI.look true H6.pm Tryz.underlying228 Tryz.underlying3 (by kernel_rfl) (i64_wf hrg.1 hrg.2)
            rw [hkv] at hlk
            simp only [if_true, Option.getD_some, Option.isSome_some] at hlk
            clear H5 hB5 HS b6 d0 d1 d5 hkv hrg
            have hl1 : (1 : Int) ≤ (lv : Int) := by omega
            go_wp2_with fail
            refine (HR.out _ _ H6).mono ?_
            rintro e w7 ⟨rfl, H7⟩
            clear H6 d0' d1' cm cc hlk
            go_wp2
            go_roundg gg
            case rel => exact ⟨j + 1, by have := HJ.out; omega, by go_num, H7⟩
            case measure => omega
end Go.Proofs.YtdddkfpcbfgocaaGreat
namespace Go.Grow
open Go.RowKit Go.Over
section
variable {P : Program} {ops : Array Oper} {rest : List Oper} {d i j : Nat} {ty : TypeId} {pos : String} {af : Array Edge} {a : Act} {w : World} {Q : Exit → Act → World → Prop}
theorem madeRep (z : Value) (n : Nat) : (madeCells #[z] n).toList = List.replicate n z := by
  apply List.ext_getElem?
  intro k
  by_cases hk : k < n
  · simp [madeCells, hk, Nat.mod_one]
  · simp [madeCells, hk]
/-- A row of zero values is made. -/
theorem wpList_mkr {t e : TypeId} (z : Value) {bytes : Nat} {o o' : Operand} (ht : P.underlying t = some (.slice e)) (hinfo : (P.info? e).map (fun i => (i.zero, i.size, i.bytes)) = some (some z, 1, bytes)) (hz1 : z.cells = #[z]) {n c : Nat}
    (hl : a.eval o = .int .i64 (n : Int)) (hc : a.eval o' = .int .i64 (c : Int)) (hnc : n ≤ c) (hb : bytes * c ≤ 281474976710656) (h63 : c ≤ 1000000)
    (hK : ∀ W, Blk W w.heap.size e (List.replicate c z) → Below w.heap.size w W → W.heap.size = w.heap.size + 1 → wpList P ops Q rest (a.put (some d) (.slice (some ⟨w.heap.size, 0, none⟩) n c)) W) :
    wpList P ops Q ({ dst := some d, op := .makeSlice t o o', type := ty, pos := pos, after := af, guard := none } :: rest) a w := by
  obtain ⟨inf, hi, hzz⟩ := Option.map_eq_some_iff.1 hinfo
  simp only [Prod.mk.injEq] at hzz
  obtain ⟨hz, hs, hby⟩ := hzz
  have hr := run_make (P := P) w t e inf z ht hi hz .i64 .i64 (n : Int) (c : Int) (by omega) (by omega) (by rw [hby]; omega) (by omega)
  simp only [Int.toNat_natCast, hs, Nat.mul_one, hz1] at hr
  refine wpList_plain rfl fun K hK' => ?_
  unfold Oper.wp
  simp only [execOp, hl, hc, Sem.run_bind, hr, Result.andThen_ok, Sem.run_pure]
  exact hK' _ _ (hK _ (Blk.new _ _ _ _ (by rw [← madeRep, Array.toArray_toList])) (below_alloc (Below.refl _ _) _) (by simp))
end
end Go.Grow
namespace Go.Pt
theorem len_le {α : Type} [DecidableEq α] : ∀ {l m : List α}, l.Nodup → (∀ x ∈ l, x ∈ m) → l.length ≤ m.length
  | [], m, _, _ => Nat.zero_le _
  | x :: l, m, h, hs => by
    rw [List.nodup_cons] at h
    have hx := hs x (by simp)
    have := len_le (l := l) (m := m.erase x) h.2 fun y hy => by
      rw [List.mem_erase_of_ne (fun e : y = x => h.1 (by rw [← e]; exact hy))]
      exact hs y (by simp [hy])
    rw [List.length_erase_of_mem hx] at this
    have : 0 < m.length := List.length_pos_of_mem hx
    simp only [List.length_cons]
    omega
section
variable {r : Int} {N : List Nd} {mid low : Nat → Option Int} {ent : Nat → En}
theorem Tr.len (h : Tr r N mid low ent) : N.length ≤ 73 := by
  have h1 := len_le (l := N.map (·.f)) (m := r :: ((List.range 8).filterMap mid ++ (List.range 64).filterMap low)) h.fo.nd fun f hf => by
    obtain ⟨x, hx, rfl⟩ := List.mem_map.1 hf
    rcases h.all x hx with e | ⟨i, hi, e⟩ | ⟨k, hk, e⟩
    · rw [e]; simp
    · simp only [List.mem_cons, List.mem_append, List.mem_filterMap, List.mem_range]; exact .inr (.inl ⟨i, hi, e⟩)
    · simp only [List.mem_cons, List.mem_append, List.mem_filterMap, List.mem_range]; exact .inr (.inr ⟨k, hk, e⟩)
  have h2 := List.length_filterMap_le mid (List.range 8)
  have h3 := List.length_filterMap_le low (List.range 64)
  simp only [List.length_map, List.length_cons, List.length_append, List.length_range] at h1 h2 h3
  omega
end
end Go.Pt
namespace Go.Proofs.YtdddkfpcbfgocaaGreat
open Go.RowKit Go.Over Go.Seg Go.Grow Go.Pt
section
variable {w : World} {gl gt gh gm gc lb m : Nat} {r : Int} {b n c : Nat} {ns : List Value} {N : List Nd} {mid low : Nat → Option Int} {ent : Nat → En}
theorem walk0 (hn : N.length = n) (hT : Tr r N mid low ent) {k : Nat} (hk : k < 64) {q : Nat} {x : Nd} (hx : N[q]? = some x) (hl : low k = some x.f) {V : Int → Prop} (hV : ¬ V x.f) (z : Int) (W : World) (H : CK w gl gt gh gm gc lb m r b n c ns N V W) :
    Calls Tryz.prog 170 #[.int .i64 q, .int .i64 0, .int .i64 z, .pointer (some ⟨gl, 0, none⟩), .pointer (some ⟨gt, 0, none⟩), .pointer (some ⟨gh, 0, none⟩), .pointer (some ⟨gm, 0, none⟩), .pointer (some ⟨gc, 0, none⟩)] W (CkPost w gl gt gh gm gc lb m r b n c ns N (fun f => V f ∨ f = x.f)) := by
  refine walkN w gl gt gh gm gc lb m r b n c ns N hn hT.fo 0 (by omega) q x hx V (fun _ f => V f ∨ f = x.f) hV (fun f => Iff.rfl) (fun j hj => ?_) z W H
  have he := hT.lowAt hk hx hl hj
  have hp : 8 * k + j < 512 := by omega
  unfold CkEnt
  rw [he]
  refine ⟨hT.ve _ hp, ?_⟩
  rcases hT.pg _ hp with h | h
  · exact .inl ⟨h, rfl⟩
  · exact .inr (.inl ⟨h, rfl, rfl⟩)
theorem walk1 (hn : N.length = n) (hT : Tr r N mid low ent) {i : Nat} (hi : i < 8) {q : Nat} {x : Nd} (hx : N[q]? = some x) (hl : mid i = some x.f) {V : Int → Prop} (hV : ¬ V x.f) (hV2 : ∀ j f, j < 8 → low (8 * i + j) = some f → ¬ V f) (z : Int) (W : World) (H : CK w gl gt gh gm gc lb m r b n c ns N V W) :
    Calls Tryz.prog 170 #[.int .i64 q, .int .i64 1, .int .i64 z, .pointer (some ⟨gl, 0, none⟩), .pointer (some ⟨gt, 0, none⟩), .pointer (some ⟨gh, 0, none⟩), .pointer (some ⟨gm, 0, none⟩), .pointer (some ⟨gc, 0, none⟩)] W (CkPost w gl gt gh gm gc lb m r b n c ns N (fun f => V f ∨ f = x.f ∨ ∃ j', j' < 8 ∧ low (8 * i + j') = some f)) := by
  refine walkN w gl gt gh gm gc lb m r b n c ns N hn hT.fo 1 (by omega) q x hx V (fun j f => V f ∨ f = x.f ∨ ∃ j', j' < j ∧ low (8 * i + j') = some f) hV (fun f => ?_) (fun j hj => ?_) z W H
  · constructor
    · rintro (h | h | ⟨j', h, _⟩)
      · exact .inl h
      · exact .inr h
      · omega
    · rintro (h | h)
      · exact .inl h
      · exact .inr (.inl h)
  have he := hT.midAt hi hx hl hj
  have hp : 8 * i + j < 64 := by omega
  unfold CkEnt
  rw [he]
  refine ⟨hT.veL hp, ?_⟩
  cases hf : low (8 * i + j) with
  | none =>
    refine .inl ⟨rfl, funext fun f => propext ⟨?_, ?_⟩⟩
    · rintro (h | h | ⟨j', h1, h2⟩)
      · exact .inl h
      · exact .inr (.inl h)
      · rcases Nat.lt_or_ge j' j with h3 | h3
        · exact .inr (.inr ⟨j', h3, h2⟩)
        · obtain rfl : j' = j := by omega
          rw [hf] at h2; cases h2
    · rintro (h | h | ⟨j', h1, h2⟩)
      · exact .inl h
      · exact .inr (.inl h)
      · exact .inr (.inr ⟨j', by omega, h2⟩)
  | some f =>
    obtain ⟨q', y, hy, rfl⟩ := hT.lowNode hp hf
    refine .inr (.inr ⟨rfl, rfl, by omega, q', y, hy, rfl, fun z W H => ?_⟩)
    have hnv : ¬ (V y.f ∨ y.f = x.f ∨ ∃ j', j' < j ∧ low (8 * i + j') = some y.f) := by
      rintro (h | h | ⟨j', h1, h2⟩)
      · exact hV2 j _ hj hf h
      · exact hT.d3 i (8 * i + j) x.f hi hp hl (by rw [← h]; exact hf)
      · have := hT.d2 _ _ _ (by omega) hp h2 hf; omega
    refine (walk0 hn hT hp hy hf hnv z W H).mono ?_
    rintro e w' ⟨rfl, H'⟩
    refine ⟨rfl, H'.ext fun u _ => ?_⟩
    constructor
    · rintro ((h | h | ⟨j', h1, h2⟩) | h)
      · exact .inl h
      · exact .inr (.inl h)
      · exact .inr (.inr ⟨j', by omega, h2⟩)
      · exact .inr (.inr ⟨j, by omega, by rw [h]; exact hf⟩)
    · rintro (h | h | ⟨j', h1, h2⟩)
      · exact .inl (.inl h)
      · exact .inl (.inr (.inl h))
      · rcases Nat.lt_or_ge j' j with h3 | h3
        · exact .inl (.inr (.inr ⟨j', h3, h2⟩))
        · obtain rfl : j' = j := by omega
          rw [hf] at h2; exact .inr (Option.some.inj h2).symm
theorem walk2 (hn : N.length = n) (hT : Tr r N mid low ent) {q : Nat} {x : Nd} (hx : N[q]? = some x) (hl : x.f = r) (z : Int) (W : World) (H : CK w gl gt gh gm gc lb m r b n c ns N (fun _ => False) W) :
    Calls Tryz.prog 170 #[.int .i64 q, .int .i64 2, .int .i64 z, .pointer (some ⟨gl, 0, none⟩), .pointer (some ⟨gt, 0, none⟩), .pointer (some ⟨gh, 0, none⟩), .pointer (some ⟨gm, 0, none⟩), .pointer (some ⟨gc, 0, none⟩)] W (CkPost w gl gt gh gm gc lb m r b n c ns N (fun _ => True)) := by
  have key : ∀ (i : Nat), i < 8 → mid i = none → ∀ j, j < 8 → low (8 * i + j) = none := fun i hi hm j hj => by
    cases hf : low (8 * i + j) with
    | none => rfl
    | some f => exact absurd hm (by rw [show i = (8 * i + j) / 8 by omega]; exact hT.up1 _ (by omega) (by rw [hf]; simp))
  refine (walkN w gl gt gh gm gc lb m r b n c ns N hn hT.fo 2 (by omega) q x hx (fun _ => False) (fun i f => f = r ∨ (∃ i', i' < i ∧ mid i' = some f) ∨ ∃ k, k < 8 * i ∧ low k = some f) (fun h => h) (fun f => ?_) (fun i hi => ?_) z W H).mono ?_
  · constructor
    · rintro (h | ⟨i', h, _⟩ | ⟨k, h, _⟩)
      · exact .inr (by rw [hl]; exact h)
      · omega
      · omega
    · rintro (h | h)
      · exact h.elim
      · exact .inl (by rw [← hl]; exact h)
  · have he := hT.rootAt hx hl hi
    unfold CkEnt
    rw [he]
    refine ⟨hT.veM hi, ?_⟩
    cases hf : mid i with
    | none =>
      refine .inl ⟨rfl, funext fun f => propext ⟨?_, ?_⟩⟩
      · rintro (h | ⟨i', h1, h2⟩ | ⟨k, h1, h2⟩)
        · exact .inl h
        · rcases Nat.lt_or_ge i' i with h3 | h3
          · exact .inr (.inl ⟨i', h3, h2⟩)
          · obtain rfl : i' = i := by omega
            rw [hf] at h2; cases h2
        · rcases Nat.lt_or_ge k (8 * i) with h3 | h3
          · exact .inr (.inr ⟨k, h3, h2⟩)
          · have := key i hi hf (k - 8 * i) (by omega)
            rw [show 8 * i + (k - 8 * i) = k by omega, h2] at this; cases this
      · rintro (h | ⟨i', h1, h2⟩ | ⟨k, h1, h2⟩)
        · exact .inl h
        · exact .inr (.inl ⟨i', by omega, h2⟩)
        · exact .inr (.inr ⟨k, by omega, h2⟩)
    | some f =>
      obtain ⟨q', y, hy, rfl⟩ := hT.midNode hi hf
      refine .inr (.inr ⟨rfl, rfl, by omega, q', y, hy, rfl, fun z W H => ?_⟩)
      refine (walk1 hn hT hi hy hf (V := fun f => f = r ∨ (∃ i', i' < i ∧ mid i' = some f) ∨ ∃ k, k < 8 * i ∧ low k = some f) ?_ ?_ z W H).mono ?_
      · rintro (h | ⟨i', h1, h2⟩ | ⟨k, h1, h2⟩)
        · exact hT.d4 i hi (by rw [← h]; exact hf)
        · have := hT.d1 i' i _ (by omega) hi h2 hf; omega
        · exact hT.d3 i k _ hi (by omega) hf h2
      · rintro j f hj hlf (h | ⟨i', h1, h2⟩ | ⟨k, h1, h2⟩)
        · exact hT.d5 (8 * i + j) (by omega) (by rw [← h]; exact hlf)
        · exact hT.d3 i' (8 * i + j) f (by omega) (by omega) h2 hlf
        · have := hT.d2 k (8 * i + j) f (by omega) (by omega) h2 hlf; omega
      · rintro e w' ⟨rfl, H'⟩
        refine ⟨rfl, H'.ext fun u _ => ?_⟩
        constructor
        · rintro ((h | ⟨i', h1, h2⟩ | ⟨k, h1, h2⟩) | h | ⟨j', h1, h2⟩)
          · exact .inl h
          · exact .inr (.inl ⟨i', by omega, h2⟩)
          · exact .inr (.inr ⟨k, by omega, h2⟩)
          · exact .inr (.inl ⟨i, by omega, by rw [h]; exact hf⟩)
          · exact .inr (.inr ⟨8 * i + j', by omega, h2⟩)
        · rintro (h | ⟨i', h1, h2⟩ | ⟨k, h1, h2⟩)
          · exact .inl (.inl h)
          · rcases Nat.lt_or_ge i' i with h3 | h3
            · exact .inl (.inr (.inl ⟨i', h3, h2⟩))
            · obtain rfl : i' = i := by omega
              rw [hf] at h2; exact .inr (.inl (Option.some.inj h2).symm)
          · rcases Nat.lt_or_ge k (8 * i) with h3 | h3
            · exact .inl (.inr (.inr ⟨k, h3, h2⟩))
            · exact .inr (.inr ⟨k - 8 * i, by omega, by rw [show 8 * i + (k - 8 * i) = k by omega]; exact h2⟩)
  · rintro e w' ⟨rfl, H'⟩
    refine ⟨rfl, H'.ext fun u hu => ⟨fun _ => trivial, fun _ => ?_⟩⟩
    rcases hT.all u hu with h | ⟨i, h1, h2⟩ | ⟨k, h1, h2⟩
    · exact .inl h
    · exact .inr (.inl ⟨i, by omega, h2⟩)
    · exact .inr (.inr ⟨k, by omega, h2⟩)
end
set_option maxRecDepth 100000 in set_option maxHeartbeats 3200000 in
theorem indexB (lb n : Nat) (hn : n ≤ 100000) (w : World) (H : Blk w lb 4 (List.replicate n (.bool true))) : Calls Tryz.prog 83 #[.slice (some ⟨lb, 0, none⟩) n n, .bool false] w fun e w' => e = .returned (.int .i64 (-1)) ∧ w = w' := by
  go_enter Tryz.func83, Tryz.ntmps83
  go_wp2
  go_loopg [8] n (fun gg v8 wr => ∃ i : Nat, i + gg = n ∧ v8 = .int .i64 i ∧ w = wr)
  case atStart => exact ⟨0, by omega, rfl, rfl⟩
  case round =>
    obtain ⟨i, hi, rfl, rfl⟩ := hrel
    cases gk with
    | zero =>
      have hin : ¬ i < n := by omega
      clear hi
      go_wp2
      go_ret
      exact ⟨rfl, rfl⟩
    | succ gg =>
      have hin : i < n := by omega
      have HI := Lib.hid hi
      have ci : w.cell? ⟨lb, i, none⟩ = some (.bool true) := by rw [H.cell]; simp [hin]
      clear hi
      go_wp2
      go_roundg gg
      case rel => exact ⟨i + 1, by have := HI.out; omega, by go_num, rfl⟩
      case measure => omega
set_option maxRecDepth 100000 in set_option maxHeartbeats 3200000 in
theorem containsB (lb n : Nat) (hn : n ≤ 100000) (w : World) (H : Blk w lb 4 (List.replicate n (.bool true))) : Calls Tryz.prog 35 #[.slice (some ⟨lb, 0, none⟩) n n, .bool false] w fun e w' => e = .returned (.bool false) ∧ w = w' := by
  have HI := Lib.hid (indexB lb n hn w H)
  go_enter Tryz.func35, Tryz.ntmps35
  go_wp2_with fail
  refine HI.out.mono ?_
  rintro e w2 ⟨rfl, rfl⟩
  go_wp2
  go_ret
  exact ⟨rfl, rfl⟩
end Go.Proofs.YtdddkfpcbfgocaaGreat
