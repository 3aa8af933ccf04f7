/- Walks: a search, slices.Insert, slices.Delete, slices.Clone of numbers. -/
import Derived.Test.YtkiiifmofmbniaaDoorM2
import Derived.Test.YtkiiifmofmbniaaDoorRows2
namespace Go.Mob
theorem pos_eq : ∀ {l : List Int} {x : Int} {i : Nat}, i ≤ l.length → (∀ k s, k < i → l[k]? = some s → s < x) → (∀ k s, i ≤ k → l[k]? = some s → x ≤ s) → pos l x = i
  | [], x, i, h, _, _ => by simp at h; subst h; rfl
  | y :: r, x, 0, _, _, h => by
    have := h 0 y (Nat.le_refl _) rfl
    unfold pos
    rw [List.takeWhile_cons, if_neg (by simp; omega)]; rfl
  | y :: r, x, i + 1, hl, h1, h2 => by
    have := h1 0 y (by omega) rfl
    have ih := pos_eq (l := r) (x := x) (i := i) (by simpa using hl) (fun k s hk hs => h1 (k + 1) s (by omega) (by simpa using hs)) (fun k s hk hs => h2 (k + 1) s (by omega) (by simpa using hs))
    unfold pos at ih ⊢
    rw [List.takeWhile_cons, if_pos (by simpa using this), List.length_cons, ih]
theorem pos_le {l : List Int} {x : Int} : pos l x ≤ l.length := by
  unfold pos
  exact (List.takeWhile_sublist _).length_le
end Go.Mob
namespace Go.Proofs.YtkiiifmofmbniaaDoor
open Go.RowKit Go.Over Go.Mob Go.Can Go.Seg Go.Grow
theorem K22 : Kind Tryd.prog 22 3 1 8 := Kind.mk' Tryd.underlying22 (z := .int .i64 0) (by kernel_rfl) rfl (by decide) (by decide)
theorem ret_ib {a c : Int} {b d : Bool} (h : c = a) (h2 : d = b) : Ending.returned (.tuple #[.int .i64 a, .bool b]) = .returned (.tuple #[.int .i64 c, .bool d]) := by rw [h, h2]
theorem pair_get : ∀ {l : List Int}, List.Pairwise (· < ·) l → ∀ {i j : Nat} {s t : Int}, l[i]? = some s → l[j]? = some t → i < j → s < t
  | [], _, i, j, s, t, h, _, _ => by simp at h
  | x :: r, h, i, j, s, t, hi, hj, hij => by
    rw [List.pairwise_cons] at h
    cases j with
    | zero => omega
    | succ j =>
      rw [List.getElem?_cons_succ] at hj
      cases i with
      | zero =>
        simp at hi; subst hi
        exact h.1 t (List.mem_of_getElem? hj)
      | succ i =>
        rw [List.getElem?_cons_succ] at hi
        exact pair_get h.2 hi hj (by omega)
set_option maxRecDepth 100000 in set_option maxHeartbeats 1600000 in
theorem nan_55 (x : Int) (w : World) : Calls Tryd.prog 55 #[.int .i64 x] w fun e w' => e = .returned (.bool false) ∧ w = w' := by
  have t1 : (x != x) = false := by simp
  go_enter Tryd.func55, Tryd.ntmps55
  go_wp2
  go_ret
  exact ⟨rfl, rfl⟩
set_option maxRecDepth 100000 in set_option maxHeartbeats 1600000 in
theorem nan_60 (x : Int) (w : World) : Calls Tryd.prog 60 #[.int .i64 x] w fun e w' => e = .returned (.bool false) ∧ w = w' := by
  have t1 : (x != x) = false := by simp
  go_enter Tryd.func60, Tryd.ntmps60
  go_wp2
  go_ret
  exact ⟨rfl, rfl⟩
set_option maxRecDepth 100000 in set_option maxHeartbeats 1600000 in
theorem less_54 (x y : Int) (w : World) : Calls Tryd.prog 54 #[.int .i64 x, .int .i64 y] w fun e w' => e = .returned (.bool (decide (x < y))) ∧ w = w' := by
  go_enter Tryd.func54, Tryd.ntmps54
  go_wp2_with (go_at_call 60; refine (nan_60 _ _).mono ?_; rintro e w' ⟨rfl, rfl⟩)
  go_ret
  exact ⟨rfl, rfl⟩
set_option maxRecDepth 100000 in set_option maxHeartbeats 1600000 in
theorem search_35 (a : Option Addr) (l : List Int) (n c : Nat) (x : Int) (w : World) (H : Ints w a l) (hn : l.length = n) (hm : n ≤ 1000000) (hs : List.Pairwise (· < ·) l) :
    Calls Tryd.prog 35 #[.slice a n c, .int .i64 x] w (fun e w' => e = .returned (.tuple #[.int .i64 (pos l x), .bool (l.contains x)]) ∧ w = w') := by
  have HN := Lib.hid hn
  have HS := Lib.hid hs
  clear hn hs
  go_enter Tryd.func35, Tryd.ntmps35
  go_wp2
  go_loopg [7, 8] n (fun g i0 j0 wr => ∃ (i j : Nat), i ≤ j ∧ j ≤ n ∧ j ≤ i + g ∧ i0 = .int .i64 i ∧ j0 = .int .i64 j ∧ (∀ k s, k < i → l[k]? = some s → s < x) ∧ (∀ k s, j ≤ k → l[k]? = some s → x ≤ s) ∧ w = wr)
  case atStart => exact ⟨0, n, by omega, by omega, by omega, rfl, rfl, fun k s hk => absurd hk (by omega), fun k s hk hs => by
    have h2 : k < l.length := by rw [List.getElem?_eq_some_iff] at hs; exact hs.1
    have := HN.out
    omega, rfl⟩
  case round =>
    obtain ⟨i, j, hij, hjn, hg, rfl, rfl, h1, h2, rfl⟩ := hrel
    by_cases hlt : i < j
    · obtain ⟨m, hmid⟩ : ∃ m, (i + j) / 2 = m := ⟨_, rfl⟩
      have hm1 : i ≤ m := by omega
      have hm2 : m < j := by omega
      obtain ⟨y, hs⟩ := get_some HN.out (show m < n by omega)
      obtain ⟨b, off, rfl, c0⟩ := H.at hs
      have HY := Lib.hid hs; have HM := Lib.hid hmid
      have H1 := Lib.hid h1; have H2 := Lib.hid h2; have HG := Lib.hid hg
      clear hs h1 h2 hg
      have hl := Lib.hid (less_54 y x w)
      go_wp2_with fail
      refine (hl.out).mono ?_
      rintro e w2 ⟨rfl, rfl⟩
      by_cases hxf : y < x
      · go_wp2
        obtain ⟨g, rfl⟩ : ∃ g, gk = g + 1 := ⟨gk - 1, by have := HG.out; omega⟩
        go_roundg g
        case rel =>
          refine ⟨m + 1, j, by omega, by omega, by have := HG.out; omega, by go_num, rfl, fun k s hk hs => ?_, H2.out, rfl⟩
          rcases Nat.lt_or_ge k m with h | h
          · have := pair_get HS.out hs HY.out h; omega
          · obtain rfl : k = m := by omega
            rw [HY.out] at hs; cases hs; exact hxf
        case measure => omega
      · go_wp2
        obtain ⟨g, rfl⟩ : ∃ g, gk = g + 1 := ⟨gk - 1, by have := HG.out; omega⟩
        go_roundg g
        case rel =>
          refine ⟨i, m, by omega, by omega, by have := HG.out; omega, rfl, by go_num, H1.out, fun k s hk hs => ?_, rfl⟩
          rcases Nat.lt_or_ge m k with h | h
          · have := pair_get HS.out HY.out hs h; omega
          · obtain rfl : k = m := by omega
            rw [HY.out] at hs; cases hs; omega
        case measure => omega
    · obtain rfl : i = j := by omega
      have HP := Lib.hid (show pos l x = i from pos_eq (by have := HN.out; omega) h1 h2)
      by_cases hin : i < n
      · obtain ⟨y, hs⟩ := get_some HN.out hin
        obtain ⟨b, off, rfl, c0⟩ := H.at hs
        have hh := Lib.hid (show l.contains x = (y == x) by
          by_cases hxf : y = x
          · have e : (y == x) = true := by simpa using hxf
            rw [e]
            have := List.mem_of_getElem? hs
            rw [hxf] at this
            simpa using this
          · have e : (y == x) = false := by simpa using hxf
            rw [e]
            simp only [List.contains_eq_mem, decide_eq_false_iff_not]
            intro hm
            obtain ⟨k, hk⟩ := List.getElem?_of_mem hm
            rcases Nat.lt_or_ge k i with h | h
            · have := h1 k x h hk; omega
            · rcases Nat.lt_or_ge i k with h' | h'
              · have h3 := pair_get HS.out hs hk h'
                have h4 := h2 i y (Nat.le_refl _) hs
                omega
              · obtain rfl : k = i := by omega
                rw [hs] at hk; cases hk; exact hxf rfl)
        have HH1 := Lib.hid h1; have HH2 := Lib.hid h2
        clear hs h1 h2 hg
        by_cases hyx : y = x
        · subst hyx
          have t1 : (y == y) = true := by simp
          go_wp2
          go_ret2
          exact ⟨ret_ib (by rw [HP.out]) (by rw [hh.out, t1]), rfl⟩
        · have t1 : (y == x) = false := by simpa using hyx
          have hl := Lib.hid (nan_55 y w)
          go_wp2_with (go_at_call 55; refine (hl.out).mono ?_; rintro e w' ⟨rfl, rfl⟩)
          go_ret2
          exact ⟨ret_ib (by rw [HP.out]) (by rw [hh.out, t1]), rfl⟩
      · obtain rfl : i = n := by omega
        have hh := Lib.hid (show l.contains x = false by
          simp only [List.contains_eq_mem, decide_eq_false_iff_not]
          intro hm
          obtain ⟨k, hk⟩ := List.getElem?_of_mem hm
          have h3 : k < l.length := by rw [List.getElem?_eq_some_iff] at hk; exact hk.1
          have := h1 k x (by have := HN.out; omega) hk
          omega)
        clear h1 h2 hg
        go_wp2
        go_ret2
        exact ⟨ret_ib (by rw [HP.out]) (by rw [hh.out]), rfl⟩
theorem ins_here (cur xs : List Value) (i n : Nat) (x1 : Value) (hi : i < n) (hx : xs.length = n) (ht : cur.take n = xs) :
    (lay (lay cur (i + 1) (xs.drop i)) i [x1]).take (n + 1) = xs.take i ++ [x1] ++ xs.drop i := by
  have h1 : cur = xs ++ cur.drop n := by rw [← ht, List.take_append_drop]
  have h2 : xs = xs.take i ++ xs.drop i := (List.take_append_drop _ _).symm
  obtain ⟨p, hp⟩ : ∃ p, xs.take i = p := ⟨_, rfl⟩
  obtain ⟨q, hq⟩ : ∃ q, xs.drop i = q := ⟨_, rfl⟩
  obtain ⟨r, hr⟩ : ∃ r, cur.drop n = r := ⟨_, rfl⟩
  have lp : p.length = i := by rw [← hp, List.length_take]; omega
  have lq : q.length = (n - i) := by rw [← hq, List.length_drop]; omega
  rw [hp, hq] at h2 ⊢
  rw [h2, hr] at h1
  have e1 : lay cur (i + 1) q = p ++ q.take 1 ++ q ++ r.drop 1 := by
    unfold lay
    rw [h1]
    have a1 : (p ++ q ++ r).take (i + 1) = p ++ q.take 1 := by
      rw [List.append_assoc, List.take_append, List.take_of_length_le (by omega), List.take_append_of_le_length (by omega)]
      congr 2; omega
    have a2 : (p ++ q ++ r).drop ((i + 1) + q.length) = r.drop 1 := by
      rw [List.drop_append, List.drop_eq_nil_of_le (by simp; omega), List.nil_append]
      congr 1; simp; omega
    rw [a1, a2]
  have e2 : lay (p ++ q.take 1 ++ q ++ r.drop 1) i [x1] = p ++ [x1] ++ q ++ r.drop 1 := by
    unfold lay
    have lq2 : (q.take 1).length = 1 := by rw [List.length_take]; omega
    have a1 : (p ++ q.take 1 ++ q ++ r.drop 1).take i = p := by
      rw [List.append_assoc, List.append_assoc, List.take_append_of_le_length (by omega), List.take_of_length_le (by omega)]
    have a2 : (p ++ q.take 1 ++ q ++ r.drop 1).drop (i + [x1].length) = q ++ r.drop 1 := by
      rw [List.append_assoc (p ++ q.take 1), List.drop_append, List.drop_eq_nil_of_le (by simp only [List.length_append, List.length_cons, List.length_nil]; omega), List.nil_append]
      rw [show i + [x1].length - (p ++ q.take 1).length = 0 by simp only [List.length_append, List.length_cons, List.length_nil]; omega, List.drop_zero]
    rw [a1, a2]
    simp
  rw [e1, e2, List.append_assoc (p ++ [x1]), ← List.append_assoc (p ++ [x1]), List.take_append_of_le_length (by simp; omega), List.take_of_length_le (by simp; omega)]
theorem ins_there (xs zs : List Value) (i n : Nat) (x1 : Value) (hi : i < n) (hx : xs.length = n) :
    (lay (lay (xs.take i ++ zs) i [x1]) (i + 1) (xs.drop i)).take (n + 1) = xs.take i ++ [x1] ++ xs.drop i := by
  obtain ⟨p, hp⟩ : ∃ p, xs.take i = p := ⟨_, rfl⟩
  obtain ⟨q, hq⟩ : ∃ q, xs.drop i = q := ⟨_, rfl⟩
  have lp : p.length = i := by rw [← hp, List.length_take]; omega
  have lq : q.length = (n - i) := by rw [← hq, List.length_drop]; omega
  rw [hp]
  rw [hq]
  have e1 : lay (p ++ zs) i [x1] = p ++ [x1] ++ zs.drop 1 := by
    unfold lay
    rw [List.take_append_of_le_length (by omega), List.take_of_length_le (by omega), List.drop_append, List.drop_eq_nil_of_le (by simp; omega), List.nil_append]
    congr 2; simp; omega
  have e2 : lay (p ++ [x1] ++ zs.drop 1) (i + 1) q = p ++ [x1] ++ q ++ (zs.drop 1).drop q.length := by
    unfold lay
    rw [List.take_append_of_le_length (by simp; omega), List.take_of_length_le (by simp; omega), List.drop_append, List.drop_eq_nil_of_le (by simp; omega), List.nil_append]
    congr 2; simp; omega
  rw [e1, e2, List.take_append_of_le_length (by simp; omega), List.take_of_length_le (by simp; omega)]
/-- What Insert gives. -/
def InsAns (w : World) (base : Nat) (V : Value) (n : Nat) (ys : List Value) (e : Ending) (w' : World) : Prop :=
  ∃ V', e = .returned V' ∧ w'.ownsRow base 3 1 V' (n + 1) ys ∧ w.grownBy w' V.ownBlock ∧ (∀ k, V'.ownBlock = some k → V.ownBlock = some k ∨ w.heap.size ≤ k)
set_option maxRecDepth 100000 in set_option maxHeartbeats 1600000 in
theorem insert_end (base : Nat) (V : Value) (n : Nat) (xs : List Value) (x1 : Value) (vb : Nat) (w : World) (hown : w.ownsRow base 3 1 V n xs) (hv : Blk w vb 3 [x1]) (h1 : x1.oneCell' = true) (hn : n ≤ 100000) (hb : base ≤ w.heap.size) :
    Calls Tryd.prog 57 #[V, .int .i64 n, .slice (some ⟨vb, 0, none⟩) 1 1] w (InsAns w base V n (xs ++ [x1])) := by
  obtain ⟨a, c, rfl, hnc, hcm, hz⟩ := own_form hown
  unfold maxLen at hcm
  have hsrc : Grow.Src w 1 (some ⟨vb, 0, none⟩) 1 1 [x1] := by
    refine ⟨rfl, by simp [h1], .inr ⟨_, rfl, fun j u hj => ?_⟩⟩
    rw [show (⟨vb, 0, none⟩ : Addr).add j = ⟨vb, j, none⟩ by unfold Addr.add; split <;> simp_all, hv.cell]
    exact hj
  have t0 : ((n : Int) == (n : Int)) = true := by simp
  go_enter Tryd.func57, Tryd.ntmps57
  go_wp2_with (at_builtin; refine wpList_append_k K22 rfl (.tmp 23) (.tmp 24) rfl _ n xs rfl hown _ 1 1 [x1] rfl hsrc (by omega) hb ?_)
  all_goals
    intro V' w' ho hg hw
    go_wp2
    go_ret
    exact ⟨_, rfl, ho, by cases a <;> exact hg, by cases a <;> exact hw⟩
theorem row_open {w : World} {base n : Nat} {V : Value} {xs : List Value} (h : w.ownsRow base 3 1 V n xs) (hn : 0 < n) :
    ∃ g cap cur, V = .slice (some ⟨g, 0, none⟩) n cap ∧ base ≤ g ∧ Blk w g 3 cur ∧ n ≤ cap ∧ cap ≤ maxLen ∧ cur.length = cap ∧ cur.take n = xs ∧ xs.length = n := by
  rcases h.2 with ⟨_, rfl⟩ | ⟨g, cap, cur, rfl, h1, h2, h3, h4, h5, h6⟩
  · omega
  · exact ⟨g, cap, cur.toList, rfl, h1, by unfold Blk; simpa using h2, h3, h4, by simpa using h5, by simpa using h6, by simpa using h.1⟩
theorem row_shut {w : World} {base n g cap : Nat} {cur xs : List Value} (hg : base ≤ g) (hb : Blk w g 3 cur) (hn : n ≤ cap) (hc : cap ≤ maxLen) (hl : cur.length = cap) (ht : cur.take n = xs) : w.ownsRow base 3 1 (.slice (some ⟨g, 0, none⟩) n cap) n xs := by
  refine ⟨by rw [← ht, List.length_take, hl]; omega, .inr ⟨g, cap, cur.toArray, rfl, hg, hb, hn, hc, by simpa using hl, by simpa using ht⟩⟩
theorem add_row (g o j : Nat) : (⟨g, o, none⟩ : Addr).add j = ⟨g, o + j, none⟩ := by unfold Addr.add; split <;> simp_all
theorem blk_src {w : World} {g o : Nat} {T : TypeId} {cur cs : List Value} (h : Blk w g T cur) (hc : ∀ j u, cs[j]? = some u → cur[o + j]? = some u) : ∀ j u, cs[j]? = some u → w.cell? ((⟨g, o, none⟩ : Addr).add j) = some u := by
  intro j u hj
  rw [add_row, h.cell]
  exact hc j u hj
theorem drop_src {cur xs : List Value} {k m : Nat} (ht : cur.take m = xs) : ∀ j u, (xs.drop k)[j]? = some u → cur[k + j]? = some u := by
  intro j u hj
  rw [List.getElem?_drop, ← ht, List.getElem?_take] at hj
  split at hj
  · exact hj
  · cases hj
theorem grown_trans {w w1 w2 : World} {row : Option Nat} (h : w.grownBy w1 row) (h' : w1.grownBy w2 row) : w.grownBy w2 row :=
  ⟨h'.os.trans h.os, h'.tape.trans h.tape, h'.output.trans h.output, Nat.le_trans h.size h'.size, fun k hk hne => (h'.block k (Nat.lt_of_lt_of_le hk h.size) hne).trans (h.block k hk hne)⟩
set_option maxRecDepth 100000 in set_option maxHeartbeats 1600000 in
theorem insert_room (base : Nat) (g n cap i : Nat) (cur xs : List Value) (x1 : Value) (vb : Nat) (w : World) (hg : base ≤ g) (hB : Blk w g 3 cur) (hcl : cur.length = cap) (hcm : cap ≤ maxLen) (ht : cur.take n = xs) (hx : xs.length = n) (h1c : ∀ u ∈ xs, u.oneCell' = true)
    (hv : Blk w vb 3 [x1]) (h1 : x1.oneCell' = true) (hne : vb ≠ g) (hi : i < n) (hroom : n + 1 ≤ cap) (hn : n ≤ 100000) :
    Calls Tryd.prog 57 #[.slice (some ⟨g, 0, none⟩) n cap, .int .i64 i, .slice (some ⟨vb, 0, none⟩) 1 1] w (InsAns w base (.slice (some ⟨g, 0, none⟩) n cap) n (xs.take i ++ [x1] ++ xs.drop i)) := by
  unfold maxLen at hcm
  have hfin := Lib.hid (ins_here cur xs i n x1 hi hx ht)
  have hcs := Lib.hid (show (xs.drop i).length = (n - i) by rw [List.length_drop, hx])
  have hsrc := drop_src (k := i) ht
  obtain ⟨q, hq⟩ : ∃ q, xs.drop i = q := ⟨_, rfl⟩
  have h1q : ∀ u ∈ q, u.oneCell' = true := fun u hu => h1c u (by rw [← hq] at hu; exact List.mem_of_mem_drop hu)
  have hov : ∀ lb cb, (callFunc 61 #[.slice (some ⟨vb, 0, none⟩) 1 1, .slice (some ⟨g, (i + 1), none⟩) lb cb]).run Tryd.prog w = .ok (.value (.bool false)) w := fun lb cb => by
    have hs1 : w.shape? vb = some (3, 1) := by unfold Blk at hv; simp [World.shape?, hv]
    have hs2 : w.shape? g = some (3, cur.length) := by unfold Blk at hB; simp [World.shape?, hB]
    rw [run_callFunc_extern Tryd.func61 (by kernel_rfl) (by kernel_rfl) (by kernel_rfl) (e := Extern.SlicesOverlaps.overlaps #[22, 22] #[4]) (by kernel_rfl),
      Lib.run_overlaps_apart w 22 4 3 Tryd.underlying22 1 (by intro w; kernel_rfl) ⟨vb, 0, none⟩ ⟨g, (i + 1), none⟩ 1 1 lb cb hne 3 3 1 cur.length hs1 hs2 (by omega) (hv.frozen 0) (hv.frozen 1)]
    rfl
  have HSRC := Lib.hid hsrc
  have HT := Lib.hid ht; have HX := Lib.hid hx; have HQ := Lib.hid hq; have HCL := Lib.hid hcl; have H1C := Lib.hid h1c
  have t1 : ((i : Int) == (n : Int)) = false := by simp; omega
  have t2 : ¬ ((cap : Int) < (n : Int) + 1) := by omega
  clear hsrc ht hx hq hcl h1c
  go_enter Tryd.func57, Tryd.ntmps57
  go_wp2_with fail
  refine wp_region_segs (fun _ => True) [(true, 8), (false, 1)] (by kernel_rfl) (by kernel_rfl) trivial ?_
  intro W _ hWe
  have hBW : Blk W g 3 cur := by rw [hWe]; exact hB
  have hvW : Blk W vb 3 [x1] := by rw [hWe]; exact hv
  have hgW : w.grownBy W (some g) := by rw [hWe]; exact ⟨rfl, rfl, rfl, Nat.le_refl _, fun _ _ _ => rfl⟩
  clear hWe hov
  simp only [wpSegs, List.take_succ_cons, List.take_zero, List.drop_succ_cons, List.drop_zero]
  have e1 : IntKind.i64.wrap ((i : Int) + 1) = (i : Int) + 1 := IntWalk.i64_in _ (by omega)
  have e3 : ((i : Int) + 1).toNat = i + 1 := by omega
  have e4 : (0 : Int) ≤ (i : Int) + 1 := by omega
  have e5 : (i : Int) + 1 ≤ (n : Int) + 1 := by omega
  have e6 : (i : Int) ≤ (n : Int) + 1 := by omega
  have e7 : ¬ cap = i + 1 := by omega
  have e8 : ¬ cap = i := by omega
  repeat (go_big_quiet_step (fail))
  refine wpQuiet_nil ?_
  clear e1 e3 e4 e5 e6
  refine wpList_copy_k K22 rfl (.tmp 73) (.tmp 76) rfl g (i + 1) _ _ ⟨g, i, none⟩ _ _ rfl rfl cur 3 (xs.drop i) hBW ?c1 (blk_src hBW HSRC.out) ?c2 (by rw [HQ.out]; exact h1q) ?_
  case c1 => rw [hcs.out, Nat.mul_one]; simp only [Nat.min_def]; split <;> omega
  case c2 => rw [hcs.out, HCL.out]; omega
  intro w2 hB2 hg2
  have hv2 : Blk w2 vb 3 [x1] := hvW.grown hg2 (by simpa using Ne.symm hne)
  have hgw2 : w.grownBy w2 (some g) := grown_trans hgW hg2
  refine wpList_nil ⟨hold_of (S0 := fun _ => True) trivial, NoPanic.normal ?_⟩
  simp only [Act.put, List.setIfInBounds_toArray, List.set_cons_succ, List.set_cons_zero]
  have hl2 := Lib.hid (show (lay cur (i + 1) (xs.drop i)).length = cap by rw [lay_len (by rw [hcs.out, HCL.out]; omega), HCL.out])
  clear hBW hvW hgW hg2 hB hv
  go_wp2_with (refine wpList_copy_k K22 rfl (.tmp 80) (.tmp 81) rfl g i _ _ ⟨vb, 0, none⟩ _ _ rfl rfl _ 3 [x1] hB2 ?d1 (blk_src hv2 (by intro j u h; simpa using h)) ?d2 (by simp [h1]) ?_)
  case d1 => simp only [Nat.min_def, List.length_cons, List.length_nil]; split <;> omega
  case d2 => rw [hl2.out]; simp; omega
  intro w3 hB3 hg3
  have hgw3 : w.grownBy w3 (some g) := grown_trans hgw2 hg3
  have hl3 := lay_len (L := lay cur (i + 1) (xs.drop i)) (o := i) (cs := [x1]) (by rw [hl2.out]; simp; omega)
  have hown := row_shut (n := n + 1) hg hB3 (by omega) (by unfold maxLen; omega) (by rw [hl3, hl2.out]) hfin.out
  clear hB2 hg3 hgw2 hB3 hl3
  go_wp2
  go_ret
  exact ⟨_, rfl, hown, hgw3, fun k hk => .inl hk⟩
set_option maxRecDepth 100000 in set_option maxHeartbeats 1600000 in
theorem insert_grow (base : Nat) (g n cap i : Nat) (cur xs : List Value) (x1 : Value) (vb : Nat) (w : World) (hg : base ≤ w.heap.size) (hB : Blk w g 3 cur) (hcm : cap ≤ maxLen) (ht : cur.take n = xs) (hx : xs.length = n) (h1c : ∀ u ∈ xs, u.oneCell' = true)
    (hv : Blk w vb 3 [x1]) (h1 : x1.oneCell' = true) (hi : i < n) (hnc : n ≤ cap) (hroom : cap < n + 1) (hn : n ≤ 100000) :
    Calls Tryd.prog 57 #[.slice (some ⟨g, 0, none⟩) n cap, .int .i64 i, .slice (some ⟨vb, 0, none⟩) 1 1] w (InsAns w base (.slice (some ⟨g, 0, none⟩) n cap) n (xs.take i ++ [x1] ++ xs.drop i)) := by
  unfold maxLen at hcm
  have hfin := Lib.hid (fun zs => ins_there xs zs i n x1 hi hx)
  have hcs := Lib.hid (show (xs.drop i).length = (n - i) by rw [List.length_drop, hx])
  have htl := Lib.hid (show (xs.take i).length = i by rw [List.length_take, hx]; omega)
  have HSRC := Lib.hid (drop_src (k := i) ht)
  have HSRC0 := Lib.hid (show ∀ j u, (xs.take i)[j]? = some u → cur[0 + j]? = some u by
    intro j u hj
    rw [List.getElem?_take] at hj
    split at hj
    · have := drop_src (k := 0) ht j u (by simpa using hj)
      exact this
    · cases hj)
  have HX := Lib.hid hx; have H1C := Lib.hid h1c
  have t1 : ((i : Int) == (n : Int)) = false := by simp; omega
  have t2 : (cap : Int) < (n : Int) + 1 := by omega
  have e1 : IntKind.i64.wrap ((n : Int) + 1 - (i : Int)) = ((n + 1 - i : Nat) : Int) := by rw [IntWalk.i64_in _ (by omega)]; omega
  have e2 : (n : Int) + 1 - (i : Int) = ((n + 1 - i : Nat) : Int) := by omega
  have e8 : ¬ cap = i := by omega
  clear ht hx h1c
  go_enter Tryd.func57, Tryd.ntmps57
  go_wp2_with (at_builtin; refine wpList_append_zeros_k K22 rfl (.tmp 34) (.tmp 39) 3 Tryd.underlying3 rfl ⟨g, 0, none⟩ i cap (n + 1 - i) rfl rfl (xs.take i) (by rw [htl.out, Nat.mul_one]) (blk_src hB HSRC0.out) (by omega) (by omega) (by omega) ?_)
  intro w2 zs hB2 hG1 hG2 hg2 hsz
  obtain ⟨G, hGe⟩ : ∃ G, min i xs.length + zs.length = G := ⟨_, rfl⟩
  rw [hGe] at hG1 hG2 ⊢
  have hlz : (xs.take i).length + zs.length = G := by rw [List.length_take]; exact hGe
  clear hGe
  have hv2 : Blk w2 vb 3 [x1] := hv.grown hg2 (by simp)
  have hO2 : Blk w2 g 3 cur := hB.grown hg2 (by simp)
  have hgne : g ≠ w.heap.size := by have := hB.lt; omega
  have hLZ := Lib.hid hlz
  have hbig : (xs.take i ++ zs).length = G := by rw [List.length_append]; first | exact hlz | (rw [List.length_take]; exact hlz)
  have HBIG := Lib.hid hbig
  have eG1 : ¬ G = i := by omega
  have eG2 : ¬ G = i + 1 := by omega
  have en : i + (n + 1 - i) = n + 1 := by omega
  unfold maxLen at hG2
  clear hlz hbig hB hv
  rw [en]
  clear e1 e2 en
  go_wp2_with (refine wpList_copy_k K22 rfl (.tmp 43) (.tmp 44) rfl w.heap.size i _ _ ⟨vb, 0, none⟩ _ _ rfl rfl _ 3 [x1] hB2 ?d1 (blk_src hv2 (by intro j u h; simpa using h)) ?d2 (by simp [h1]) ?_)
  case d1 => simp only [Nat.min_def, List.length_cons, List.length_nil]; split <;> omega
  case d2 => rw [HBIG.out]; simp; omega
  intro w3 hB3 hg3
  have hO3 : Blk w3 g 3 cur := hO2.grown hg3 (by simpa using Ne.symm hgne)
  have hl3 := Lib.hid (show (lay (xs.take i ++ zs) i [x1]).length = G by rw [lay_len (by rw [HBIG.out]; simp; omega), HBIG.out])
  have hgw3 : ∀ k, k < w.heap.size → w3.heap[k]? = w.heap[k]? := fun k hk => (hg3.block k (by omega) (by simp; omega)).trans (hg2.block k hk (by simp))
  have hos3 : w3.os = w.os ∧ w3.tape = w.tape ∧ w3.output = w.output ∧ w.heap.size < w3.heap.size := ⟨hg3.os.trans hg2.os, hg3.tape.trans hg2.tape, hg3.output.trans hg2.output, by have := hg3.size; omega⟩
  clear hB2 hg3 hg2 hO2 hv2 hsz
  go_wp2
  refine wp_region_segs (fun _ => True) [(true, 8), (false, 1)] (by kernel_rfl) (by kernel_rfl) trivial ?_
  intro W _ hWe
  have hBW : Blk W w.heap.size 3 (lay (xs.take i ++ zs) i [x1]) := by rw [hWe]; exact hB3
  have hOW : Blk W g 3 cur := by rw [hWe]; exact hO3
  have hgW : ∀ k, k < w.heap.size → W.heap[k]? = w.heap[k]? := fun k hk => by rw [hWe]; exact hgw3 k hk
  have hosW : W.os = w.os ∧ W.tape = w.tape ∧ W.output = w.output ∧ w.heap.size < W.heap.size := by rw [hWe]; exact hos3
  clear hWe hB3 hO3 hgw3 hos3
  simp only [wpSegs, List.take_succ_cons, List.take_zero, List.drop_succ_cons, List.drop_zero]
  have e1 : IntKind.i64.wrap ((i : Int) + 1) = (i : Int) + 1 := IntWalk.i64_in _ (by omega)
  have e3 : ((i : Int) + 1).toNat = i + 1 := by omega
  have e4 : (0 : Int) ≤ (i : Int) + 1 := by omega
  have e5 : (i : Int) + 1 ≤ (n : Int) + 1 := by omega
  have e6 : (i : Int) ≤ (n : Int) := by omega
  repeat (go_big_quiet_step (fail))
  refine wpQuiet_nil ?_
  clear e1 e3 e4 e5 e6
  refine wpList_copy_k K22 rfl (.tmp 50) (.tmp 53) rfl w.heap.size (i + 1) _ _ ⟨g, i, none⟩ _ _ rfl rfl _ 3 (xs.drop i) hBW ?c1 (blk_src hOW HSRC.out) ?c2 (fun u hu => H1C.out u (List.mem_of_mem_drop hu)) ?_
  case c1 => rw [hcs.out, Nat.mul_one]; simp only [Nat.min_def]; split <;> omega
  case c2 => rw [hcs.out, hl3.out]; omega
  intro w4 hB4 hg4
  have hl4 := lay_len (L := lay (xs.take i ++ zs) i [x1]) (o := (i + 1)) (cs := xs.drop i) (by rw [hcs.out, hl3.out]; omega)
  have hown := row_shut (base := base) (n := n + 1) (cap := G) hg hB4 (by omega) (by unfold maxLen; omega) (by rw [hl4, hl3.out]) (hfin.out zs)
  have hfinal : w.grownBy w4 (some g) := ⟨hg4.os.trans hosW.1, hg4.tape.trans hosW.2.1, hg4.output.trans hosW.2.2.1, by have := hg4.size; omega, fun k hk _ => (hg4.block k (by omega) (by simp; omega)).trans (hgW k hk)⟩
  refine wpList_nil ⟨hold_of (S0 := fun _ => True) trivial, NoPanic.normal ?_⟩
  simp only [Act.put, List.setIfInBounds_toArray, List.set_cons_succ, List.set_cons_zero]
  clear hBW hOW hgW hosW hB4 hg4 hl4
  go_wp2
  go_ret
  exact ⟨_, rfl, hown, hfinal, fun k hk => .inr (by simp [Value.ownBlock] at hk; omega)⟩
theorem insert_57 (base : Nat) (V : Value) (n i : Nat) (xs : List Value) (x1 : Value) (vb : Nat) (w : World) (hown : w.ownsRow base 3 1 V n xs) (h1c : ∀ u ∈ xs, u.oneCell' = true) (hv : Blk w vb 3 [x1]) (h1 : x1.oneCell' = true) (hne : V.ownBlock ≠ some vb) (hi : i ≤ n) (hn : n ≤ 100000) (hb : base ≤ w.heap.size) :
    Calls Tryd.prog 57 #[V, .int .i64 i, .slice (some ⟨vb, 0, none⟩) 1 1] w (InsAns w base V n (xs.take i ++ [x1] ++ xs.drop i)) := by
  rcases Nat.eq_or_lt_of_le hi with rfl | hlt
  · have := insert_end base V i xs x1 vb w hown hv h1 hn hb
    have hl := hown.1
    rw [List.take_of_length_le (by omega), List.drop_eq_nil_of_le (by omega), List.append_nil]
    exact this
  · obtain ⟨g, cap, cur, rfl, hg, hB, h3, h4, h5, h6, h7⟩ := row_open hown (by omega)
    by_cases hr : n + 1 ≤ cap
    · exact insert_room base g n cap i cur xs x1 vb w hg hB h5 h4 h6 h7 h1c hv h1 (fun e => hne (by rw [e]; rfl)) hlt hr hn
    · exact insert_grow base g n cap i cur xs x1 vb w hb hB h4 h6 h7 h1c hv h1 hlt h3 (by omega) hn
theorem del_here (cur xs new : List Value) (i n : Nat) (hi : i < n) (hx : xs.length = n) (ht : cur.take n = xs) (hnew : new.take (n - 1) = (lay cur i (xs.drop (i + 1))).take (n - 1)) :
    new.take (n - 1) = xs.take i ++ xs.drop (i + 1) := by
  have hle : n ≤ cur.length := by
    have := congrArg List.length ht
    rw [List.length_take, hx] at this; omega
  rw [hnew]
  unfold lay
  have a1 : cur.take i = xs.take i := by rw [← ht, List.take_take]; congr 1; omega
  rw [a1]
  have l1 : (xs.take i).length = i := by rw [List.length_take]; omega
  have l2 : (xs.drop (i + 1)).length = (n - 1 - i) := by rw [List.length_drop]; omega
  rw [List.take_append_of_le_length (by rw [List.length_append]; omega), List.take_of_length_le (by rw [List.length_append]; omega)]
def DelAns (w : World) (base : Nat) (V : Value) (n : Nat) (ys : List Value) (e : Ending) (w' : World) : Prop :=
  ∃ V', e = .returned V' ∧ w'.ownsRow base 3 1 V' (n - 1) ys ∧ w.grownBy w' V.ownBlock ∧ V'.ownBlock = V.ownBlock
set_option maxRecDepth 100000 in set_option maxHeartbeats 1600000 in
theorem delete_47 (base : Nat) (V : Value) (n i : Nat) (xs : List Value) (w : World) (hown : w.ownsRow base 3 1 V n xs) (h1c : ∀ u ∈ xs, u.oneCell' = true) (hi : i < n) (hn : n ≤ 100000) :
    Calls Tryd.prog 47 #[V, .int .i64 i, .int .i64 ((i + 1 : Nat) : Int)] w (DelAns w base V n (xs.take i ++ xs.drop (i + 1))) := by
  obtain ⟨g, cap, cur, rfl, hg, hB, hnc, hcm, hcl, ht, hx⟩ := row_open hown (by omega)
  unfold maxLen at hcm
  have hfin := Lib.hid (fun new => del_here cur xs new i n hi hx ht)
  have hcs := Lib.hid (show (xs.drop (i + 1)).length = (n - (i + 1)) by rw [List.length_drop, hx])
  have HSRC := Lib.hid (drop_src (k := (i + 1)) ht)
  have HX := Lib.hid hx; have H1C := Lib.hid h1c; have HCL := Lib.hid hcl
  have t1 : ((i : Int) == ((i + 1 : Nat) : Int)) = false := by simp; omega
  have hclr : ∃ i z, Tryd.prog.info? 3 = some i ∧ i.zero = some z ∧ z.cells.size = 1 ∧ ∀ v ∈ z.cells.toList, v.oneCell' = true := by
    obtain ⟨i, hi, hz0, hz1, hz2⟩ := info_parts (show (Tryd.prog.info? 3).map (fun i => (i.zero, i.size, i.bytes)) = some (some (.int .i64 0), 1, 8) by kernel_rfl)
    exact ⟨i, _, hi, hz0, rfl, by intro v hv; simp [Value.cells] at hv; subst hv; rfl⟩
  have HC := Lib.hid hclr
  clear ht hx h1c hcl hclr hown
  have e0 : ((i + 1 : Nat) : Int) ≤ (n : Int) := by omega
  have e2 : (i : Int) ≤ ((i + 1 : Nat) : Int) := by omega
  by_cases hci : cap = i + 1
  · have hni : n = i + 1 := by omega
    subst hci
    have HNI := Lib.hid hni; clear hni
    go_enter Tryd.func47, Tryd.ntmps47
    go_wp2_with fail
    have HS2 := Lib.hid (show ∀ j u, (xs.drop (i + 1))[j]? = some u → cur[0 + j]? = some u by
      intro j u hj
      rw [List.eq_nil_of_length_eq_zero (l := xs.drop (i + 1)) (by rw [hcs.out]; omega)] at hj
      simp at hj)
    refine wp_region_segs (fun _ => True) [(true, 6), (false, 1), (true, 1)] (by kernel_rfl) (by kernel_rfl) trivial ?_
    intro W _ hWe
    have hBW : Blk W g 3 cur := by rw [hWe]; exact hB
    have hgW : w.grownBy W (some g) := by rw [hWe]; exact ⟨rfl, rfl, rfl, Nat.le_refl _, fun _ _ _ => rfl⟩
    clear hWe hB
    simp only [wpSegs, List.take_succ_cons, List.take_zero, List.drop_succ_cons, List.drop_zero]
    repeat (go_big_quiet_step (fail))
    refine wpQuiet_nil ?_
    refine wpList_append_room_k K22 rfl (.tmp 22) (.tmp 25) rfl g i (i + 1) ⟨g, 0, none⟩ _ _ rfl rfl cur hBW (xs.drop (i + 1)) ?c1 (blk_src hBW HS2.out) (fun u hu => H1C.out u (List.mem_of_mem_drop hu)) ?c2 (by rw [HCL.out, Nat.mul_one]) ?_
    case c1 => have := hcs.out; omega
    case c2 => omega
    intro w2 hB2 hg2
    rw [Nat.mul_one] at hB2
    rw [show i + 0 = i from by omega]
    have hgw2 := grown_trans hgW hg2
    have hl2 := Lib.hid (show (lay cur i (xs.drop (i + 1))).length = (i + 1) by rw [lay_len (by rw [hcs.out, HCL.out]; omega), HCL.out])
    clear hBW hgW hg2
    refine wpList_nil ⟨hold_of (S0 := fun _ => True) trivial, ?_⟩
    simp only [Act.put, List.setIfInBounds_toArray, List.set_cons_succ, List.set_cons_zero]
    repeat (go_big_quiet_step (fail))
    refine wpQuiet_nil ?_
    refine NoPanic.normal ?_
    have z1 : ¬ (i + 1) = i := by omega
    have z2 : ((i : Nat) : Int) ≤ (n : Int) := by omega
    have z3 : ¬ ((n : Int) = 0) := by omega
    go_wp2_with (refine wpList_clear_k Tryd.underlying22 HC.out rfl (.tmp 31) rfl g i _ _ rfl ?d0 _ 3 hB2 ?d1 ?_)
    case d0 => omega
    case d1 => rw [hl2.out]; omega
    intro w3 new hB3 hln htk hg3
    have hgw3 := grown_trans hgw2 hg3
    have hfq : ∀ new : List Value, new.take i = (lay cur i (xs.drop (i + 1))).take i → new.take i = xs.take i ++ xs.drop (i + 1) := by
      have hq : n - 1 = i := by exact (congrArg (· - 1) HNI.out)
      have := hfin.out
      rw [hq] at this
      exact this
    have hown := row_shut (base := base) (n := i) (cap := (i + 1)) hg hB3 (by omega) (by unfold maxLen; omega) (by rw [hln, hl2.out]) (hfq new htk)
    clear hB2 hg3 hgw2 hB3 htk
    go_wp2
    go_ret
    exact ⟨_, rfl, by have hq : n - 1 = i := by exact (congrArg (· - 1) HNI.out)
                      rw [hq]; exact hown, hgw3, rfl⟩
  · go_enter Tryd.func47, Tryd.ntmps47
    go_wp2_with fail
    have HS2 := HSRC
    refine wp_region_segs (fun _ => True) [(true, 6), (false, 1), (true, 1)] (by kernel_rfl) (by kernel_rfl) trivial ?_
    intro W _ hWe
    have hBW : Blk W g 3 cur := by rw [hWe]; exact hB
    have hgW : w.grownBy W (some g) := by rw [hWe]; exact ⟨rfl, rfl, rfl, Nat.le_refl _, fun _ _ _ => rfl⟩
    clear hWe hB
    simp only [wpSegs, List.take_succ_cons, List.take_zero, List.drop_succ_cons, List.drop_zero]
    repeat (go_big_quiet_step (fail))
    refine wpQuiet_nil ?_
    refine wpList_append_room_k K22 rfl (.tmp 22) (.tmp 25) rfl g i cap ⟨g, (i + 1), none⟩ _ _ rfl rfl cur hBW (xs.drop (i + 1)) ?c1 (blk_src hBW HS2.out) (fun u hu => H1C.out u (List.mem_of_mem_drop hu)) ?c2 (by rw [HCL.out, Nat.mul_one]) ?_
    case c1 => have := hcs.out; omega
    case c2 => omega
    intro w2 hB2 hg2
    rw [Nat.mul_one] at hB2
    rw [show i + (n - (i + 1)) = (n - 1) from by omega]
    have hgw2 := grown_trans hgW hg2
    have hl2 := Lib.hid (show (lay cur i (xs.drop (i + 1))).length = cap by rw [lay_len (by rw [hcs.out, HCL.out]; omega), HCL.out])
    clear hBW hgW hg2
    refine wpList_nil ⟨hold_of (S0 := fun _ => True) trivial, ?_⟩
    simp only [Act.put, List.setIfInBounds_toArray, List.set_cons_succ, List.set_cons_zero]
    repeat (go_big_quiet_step (fail))
    refine wpQuiet_nil ?_
    refine NoPanic.normal ?_
    have z1 : ¬ cap = (n - 1) := by omega
    have z2 : (((n - 1) : Nat) : Int) ≤ (n : Int) := by omega
    have z3 : ¬ ((n : Int) = 0) := by omega
    go_wp2_with (refine wpList_clear_k Tryd.underlying22 HC.out rfl (.tmp 31) rfl g (n - 1) _ _ rfl ?d0 _ 3 hB2 ?d1 ?_)
    case d0 => omega
    case d1 => rw [hl2.out]; omega
    intro w3 new hB3 hln htk hg3
    have hgw3 := grown_trans hgw2 hg3
    have hfq : ∀ new : List Value, new.take (n - 1) = (lay cur i (xs.drop (i + 1))).take (n - 1) → new.take (n - 1) = xs.take i ++ xs.drop (i + 1) := by
      have hq : n - 1 = (n - 1) := by rfl
      have := hfin.out
      rw [hq] at this
      exact this
    have hown := row_shut (base := base) (n := (n - 1)) (cap := cap) hg hB3 (by omega) (by unfold maxLen; omega) (by rw [hln, hl2.out]) (hfq new htk)
    clear hB2 hg3 hgw2 hB3 htk
    go_wp2
    go_ret
    exact ⟨_, rfl, by have hq : n - 1 = (n - 1) := by rfl
                      rw [hq]; exact hown, hgw3, rfl⟩

/-- The cells of numbers. -/
def nums (l : List Int) : List Value := l.map (Value.int .i64)
theorem nums_one {l : List Int} : ∀ u ∈ nums l, u.oneCell' = true := by
  intro u hu
  obtain ⟨x, _, rfl⟩ := List.mem_map.1 hu
  rfl
/-- A row of numbers of a call's own. -/
def Own (w : World) (B : Nat) (v : Value) (l : List Int) : Prop := w.ownsRow B 3 1 v l.length (nums l)
theorem Own.sl {w : World} {B : Nat} {v : Value} {l : List Int} (h : Own w B v l) : Sl w v l := by
  obtain ⟨a, c, h1, h2, h3, h4⟩ := own_form h
  refine ⟨a, c, h1, h2, h3, h4, fun h0 => ?_⟩
  obtain ⟨g, c', hV, _⟩ := own_pos h h0
  rw [h1] at hV
  cases hV
  refine ⟨g, 0, rfl, fun i hi => ?_⟩
  have := World.ownsRow.cells (g := g) h (by rw [h1]; rfl) i (.int .i64 (l.getD i 0)) (by simp [nums, List.getElem?_eq_getElem hi, List.getD_eq_getElem?_getD])
  rw [add_row] at this
  exact this
theorem Own.later {w w' : World} {B : Nat} {v : Value} {l : List Int} (h : Own w B v l) (hb : Below w.heap.size w w') : Own w' B v l := own_later h hb
theorem Own.nil (w : World) (B : Nat) : Own w B (.slice none 0 0) [] := World.ownsRow_nil _ _ _ _
theorem ints_src {w : World} {a : Option Addr} {l : List Int} {n c : Nat} (H : Ints w a l) (hn : l.length = n) (hz : a = none → c = 0) (hnc : n ≤ c) : Grow.Src w 1 a n c (nums l) := by
  refine ⟨by simp [nums, hn], nums_one, ?_⟩
  cases a with
  | none =>
    have := hz rfl
    exact .inl ⟨rfl, by omega, this⟩
  | some ad =>
    refine .inr ⟨ad, rfl, fun j u hj => ?_⟩
    have hjl : j < l.length := by
      rw [List.getElem?_eq_some_iff] at hj
      obtain ⟨h, _⟩ := hj
      simpa [nums] using h
    obtain ⟨b, off, ha, hc⟩ := H (by omega)
    cases ha
    rw [add_row, hc j hjl]
    rw [← hj]
    simp [nums, List.getElem?_eq_getElem hjl, List.getD_eq_getElem?_getD]
set_option maxRecDepth 100000 in set_option maxHeartbeats 1600000 in
theorem clone_39 (v : Value) (l : List Int) (w : World) (H : Sl w v l) (hm : l.length ≤ 100000) :
    Calls Tryd.prog 39 #[v] w fun e w' => ∃ v', e = .returned v' ∧ Own w' w.heap.size v' l ∧ Below w.heap.size w w' := by
  obtain ⟨a, c, rfl, h1, h2, hz, H⟩ := H
  obtain ⟨n, hn⟩ : ∃ n, l.length = n := ⟨_, rfl⟩
  rw [hn] at h1 hm ⊢
  cases a with
  | none =>
    obtain rfl : c = 0 := hz rfl
    obtain rfl : n = 0 := by omega
    obtain rfl : l = [] := List.eq_nil_of_length_eq_zero hn
    have k1 := fun w' => Lib.run_eql_slice_nil (P := Tryd.prog) w' 22 3 none 0 0 0 0 Tryd.underlying22
    go_enter Tryd.func39, Tryd.ntmps39
    go_wp2
    go_ret
    exact ⟨_, rfl, Own.nil _ _, Below.refl _ _⟩
  | some ad =>
    have hsrc : Grow.Src (w.alloc (.cells #[] 3)) 1 (some ad) n c (nums l) := ints_src (H.below (below_box _ _)) hn (fun h => by cases h) h1
    have k1 := fun w' => Lib.run_eql_slice_nil (P := Tryd.prog) w' 22 3 (some ad) n c 0 0 Tryd.underlying22
    have hmade : (w.alloc (.cells #[] 3)).ownsRow w.heap.size 3 1 (.slice (some ⟨w.heap.size, 0, none⟩) 0 0) 0 [] := World.ownsRow_made w #[] 0 (Nat.le_refl _) (Nat.zero_le _) rfl
    have HS := Lib.hid hsrc
    clear hsrc
    go_enter Tryd.func39, Tryd.ntmps39
    go_wp2_with (at_builtin; refine wpList_append_k K22 rfl (.tmp 5) (.tmp 6) rfl _ 0 [] rfl hmade _ n c _ rfl HS.out ?c1 ?c2 ?_)
    case c1 => omega
    case c2 => simp
    intro v' w' hown hg _
    have hb : Below w.heap.size w w' := (below_box w _).grown hg (by simp) (fun k hk => by simp [Value.ownBlock] at hk; omega)
    have hown : Own w' w.heap.size v' l := by unfold Own; rw [hn]; first | exact hown | simpa using hown
    clear hg
    go_wp2
    go_ret
    exact ⟨_, rfl, hown, hb⟩
/-- What a call that changes a row of its own gives. -/
def RowAns (w : World) (base : Nat) (V : Value) (l : List Int) (e : Ending) (w' : World) : Prop :=
  ∃ V', e = .returned V' ∧ Own w' base V' l ∧ w.grownBy w' V.ownBlock ∧ (∀ k, V'.ownBlock = some k → V.ownBlock = some k ∨ w.heap.size ≤ k)
theorem del_nums {l : List Int} {i : Nat} : (nums l).take i ++ (nums l).drop (i + 1) = nums (l.eraseIdx i) := by
  simp [nums, List.eraseIdx_eq_take_drop_succ]
theorem Own.del {w w' : World} {base : Nat} {V : Value} {l : List Int} {i : Nat} {e : Ending} (hi : i < l.length) (h : DelAns w base V l.length ((nums l).take i ++ (nums l).drop (i + 1)) e w') : RowAns w base V (l.eraseIdx i) e w' := by
  obtain ⟨V', h1, h2, h3, h4⟩ := h
  rw [del_nums] at h2
  refine ⟨V', h1, ?_, h3, fun k hk => .inl (by rw [← h4]; exact hk)⟩
  unfold Own
  rw [List.length_eraseIdx, if_pos hi]
  exact h2
theorem Own.ins {w w' : World} {base : Nat} {V : Value} {l : List Int} {i : Nat} {x : Int} {e : Ending} (hi : i ≤ l.length) (h : InsAns w base V l.length ((nums l).take i ++ [.int .i64 x] ++ (nums l).drop i) e w') : RowAns w base V (l.take i ++ [x] ++ l.drop i) e w' := by
  obtain ⟨V', h1, h2, h3, h4⟩ := h
  refine ⟨V', h1, ?_, h3, h4⟩
  unfold Own
  have e1 : (l.take i ++ [x] ++ l.drop i).length = l.length + 1 := by simp; omega
  rw [e1]
  have e2 : nums (l.take i ++ [x] ++ l.drop i) = (nums l).take i ++ [.int .i64 x] ++ (nums l).drop i := by simp [nums]
  rw [e2]
  exact h2
set_option maxRecDepth 100000 in set_option maxHeartbeats 1600000 in
theorem add_48 (base : Nat) (V : Value) (l : List Int) (x : Int) (w : World) (H : Own w base V l) (hs : List.Pairwise (· < ·) l) (hm : l.length ≤ 100000) (hb : base ≤ w.heap.size) :
    Calls Tryd.prog 48 #[V, .int .i64 x] w (RowAns w base V (ins l x)) := by
  obtain ⟨a, c, rfl, h1, h2, hz, hI⟩ := H.sl
  obtain ⟨i, hi⟩ : ∃ i, pos l x = i := ⟨_, rfl⟩
  have hil : i ≤ l.length := by rw [← hi]; exact pos_le
  have HS := search_35 a l l.length c x w hI rfl (by omega) hs
  unfold ins
  rw [hi] at HS ⊢
  have hO2 : Own (w.alloc (.cells #[.int .i64 x] 3)) base (.slice a l.length c) l := H.later (below_box _ _)
  have HI := insert_57 base (.slice a l.length c) l.length i (nums l) (.int .i64 x) w.heap.size (w.alloc (.cells #[.int .i64 x] 3)) hO2 nums_one (Blk.new w 3 #[.int .i64 x] _ rfl) rfl (fun h => by have := (World.ownsRow.lt H _ h).2; omega) hil hm (by simp; omega)
  obtain ⟨n, hn⟩ : ∃ n, l.length = n := ⟨_, rfl⟩
  rw [hn] at HS HI
  have HH := Lib.hid HS; have HHI := Lib.hid HI
  have HL := Lib.hid hn; have HIL := Lib.hid hil
  have HO := Lib.hid H
  rw [hn]
  clear HS HI h1 h2 hz hI hi hil hO2 H hn
  go_enter Tryd.func48, Tryd.ntmps48
  go_wp2_with (go_at_call 35; refine HH.out.mono ?_; rintro e w' ⟨rfl, rfl⟩)
  refine HHI.out.mono ?_
  intro e w' h
  have h2 : InsAns (w.alloc (.cells #[.int .i64 x] 3)) base (.slice a n c) l.length ((nums l).take i ++ [.int .i64 x] ++ (nums l).drop i) e w' := by rw [HL.out]; exact h
  obtain ⟨V', rfl, hO, hg, hk⟩ := Own.ins HIL.out h2
  have hb2 := below_box w (.cells #[.int .i64 x] 3)
  have hg0 : w.grownBy w' (Value.slice a n c).ownBlock := grown_trans ⟨hb2.os, hb2.tape, hb2.output, hb2.size, fun k hk _ => hb2.block k hk⟩ hg
  have hk0 : ∀ k, V'.ownBlock = some k → (Value.slice a n c).ownBlock = some k ∨ w.heap.size ≤ k := fun k h => by
    rcases hk k h with h | h
    · exact .inl h
    · exact .inr (by have := hb2.size; omega)
  clear hg hk h h2 hb2
  go_wp2
  go_ret
  exact ⟨V', rfl, by simpa using hO, hg0, hk0⟩
end Go.Proofs.YtkiiifmofmbniaaDoor
