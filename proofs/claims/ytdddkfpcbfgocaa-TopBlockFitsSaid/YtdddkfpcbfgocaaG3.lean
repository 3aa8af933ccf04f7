/- Walks: the rank of a zone, and the comparison of two. Walks: a stable sort of few numbers. Walks: the insertion sort by a comparison, and the stable sort of few numbers. Walks: the stable sort of a row of few numbers. Walks: the order in which zones are tried. The plain mathematics of an allocator: caches, counts, the zone of a frame. An allocator in memory; walks: the zone of a frame, the parameters of a machine. Walks: the zone of a frame; the check of a valid allocator. Walks: how many frames of a zone are free, and how many may be taken. Walks: is a frame in a cache; is it free? A region that draws its order, walked along a plan of two stages: before the first operation that breaks the class, and behind it. Walks: copies of rows. Walks: a copy of an allocator, whose zones and caches can be replaced. -/
import Derived.Laws.EntriesVeiled
import Derived.Test.YtdddkfpcbfgocaaG2
import Derived.Test.YtdddkfpcbfgocaaG1
namespace Go.Zn
def cmpI (a b : Int) : Int := if a < b then -1 else if b < a then 1 else 0
theorem cmpI_lt {a b : Int} : cmpI a b < 0 ↔ a < b := by
  unfold cmpI
  split
  · omega
  · split <;> omega
theorem keyP_le {a b : Int} (ha0 : 0 ≤ a) (ha : a < 4) (hb0 : 0 ≤ b) (hb : b < 4) : 0 ≤ keyP a b ∧ keyP a b ≤ 7 := by
  unfold keyP
  split <;> omega
end Go.Zn
namespace Go.Proofs.Ytdddkfpcbfgocaa
open Go.RowKit Go.Over Go.Zn Go.Can Go.Seg Go.Grow
/-- What the closures read. -/
structure KO (w : World) (g4 g3 bz n c : Nat) (node : Int) (zc : List Value) (zs : List Z) : Prop where
  n4 : Blk w g4 3 [.int .i64 node]
  n3 : Blk w g3 29 [.slice (some ⟨bz, 0, none⟩) n c]
  x : Blk w bz 39 zc
  hd : ∀ (i : Nat) (z : Z), zs[i]? = some z → Hd5 (seg zc (i * 10) 10) z
section
variable {w w' : World} {g4 g3 bz n c : Nat} {node : Int} {zc : List Value} {zs : List Z}
theorem KO.below (h : KO w g4 g3 bz n c node zc zs) (hb : Below w.heap.size w w') : KO w' g4 g3 bz n c node zc zs := ⟨h.n4.later hb, h.n3.later hb, h.x.later hb, h.hd⟩
theorem KO.grown {ob : Nat} {cs : List Value} (h : KO w g4 g3 bz n c node zc zs) (hB : Blk w ob 3 cs) (hne : ob ≠ g4) (hg : w.grownBy w' (some ob)) : KO w' g4 g3 bz n c node zc zs :=
  ⟨h.n4.grown hg (by simpa using hne), h.n3.grown hg (by simpa using hB.ne_type h.n3 (by decide)), h.x.grown hg (by simpa using hB.ne_type h.x (by decide)), h.hd⟩
theorem KO.cell (h : KO w g4 g3 bz n c node zc zs) {i j : Nat} {z : Z} {v : Value} (hz : zs[i]? = some z) (hv : (seg zc (i * 10) 10)[j]? = some v) : w.cell? ⟨bz, i * 10 + j, none⟩ = some v := by
  have hlen := (h.hd i z hz).len
  have hj10 : j < 10 := by rw [List.getElem?_eq_some_iff] at hv; obtain ⟨h, _⟩ := hv; omega
  rw [seg_get hj10] at hv
  rw [h.x.cell]; exact hv
end
set_option maxRecDepth 100000 in set_option maxHeartbeats 3200000 in
theorem compare (x y : Int) (w : World) : Calls Try.prog 56 #[.int .i64 x, .int .i64 y] w fun e w' => e = .returned (.int .i64 (cmpI x y)) ∧ w = w' := by
  rcases (show x < y ∨ (¬ x < y ∧ y < x) ∨ (¬ x < y ∧ ¬ y < x) by omega) with h | ⟨h, h2⟩ | ⟨h, h2⟩
  · have HE := Lib.hid (show cmpI x y = -1 by unfold cmpI; rw [if_pos h])
    go_enter Try.func56, Try.ntmps56
    go_wp2_with (go_at_call 80; refine (cnan _ _).mono ?_; rintro e w' ⟨rfl, rfl⟩)
    go_ret
    exact ⟨ret_int (by rw [HE.out]), rfl⟩
  · have HE := Lib.hid (show cmpI x y = 1 by unfold cmpI; rw [if_neg h, if_pos h2])
    go_enter Try.func56, Try.ntmps56
    go_wp2_with (go_at_call 80; refine (cnan _ _).mono ?_; rintro e w' ⟨rfl, rfl⟩)
    go_ret
    exact ⟨ret_int (by rw [HE.out]), rfl⟩
  · have HE := Lib.hid (show cmpI x y = 0 by unfold cmpI; rw [if_neg h, if_neg h2])
    go_enter Try.func56, Try.ntmps56
    go_wp2_with (go_at_call 80; refine (cnan _ _).mono ?_; rintro e w' ⟨rfl, rfl⟩)
    go_ret
    exact ⟨ret_int (by rw [HE.out]), rfl⟩
set_option maxRecDepth 100000 in set_option maxHeartbeats 3200000 in
theorem rank (g4 g3 bz n c : Nat) (node : Int) (zc : List Value) (zs : List Z) (i : Nat) (w : World) (H : KO w g4 g3 bz n c node zc zs) (hG : ZG zs) (hn : zs.length = n) (hi : i < n) (h0 : 0 ≤ node) (h4 : node < 4) :
    Calls Try.prog 52 #[.int .i64 i, .pointer (some ⟨g4, 0, none⟩), .pointer (some ⟨g3, 0, none⟩)] w fun e w' => e = .returned (.int .i64 (rkP zs node i)) ∧ Below w.heap.size w w' := by
  obtain ⟨z, hz⟩ := get_some hn hi
  have hr := hG.r z (List.mem_of_getElem? hz)
  have r1 := hr.nd0; have r2 := hr.nd1; have r3 := hr.kd
  have h6 := hG.l6
  rw [hn] at h6
  have c4 : w.cell? ⟨g4, 0, none⟩ = some (.int .i64 node) := by rw [H.n4.cell]; rfl
  have c3 : w.cell? ⟨g3, 0, none⟩ = some (.slice (some ⟨bz, 0, none⟩) n c) := by rw [H.n3.cell]; rfl
  have cn : w.cell? ⟨bz, i * 10, none⟩ = some (.int .i64 z.nd) := H.cell (j := 0) hz (H.hd i z hz).nd
  have ck : w.cell? ⟨bz, i * 10 + 1, none⟩ = some (.int .i64 z.kd) := H.cell hz (H.hd i z hz).kd
  have hzd : zs.getD ((i : Int)).toNat noZ = z := by rw [Int.toNat_natCast, List.getD_eq_getElem?_getD, hz]; rfl
  have hkp := keyP_le h0 h4 r1 r2
  have HE := Lib.hid (show rkP zs node i = 2 * keyP node z.nd + (if z.kd = 0 then 1 else 0) by unfold rkP; rw [hzd])
  obtain ⟨nd, hnd⟩ : ∃ x, z.nd = x := ⟨_, rfl⟩
  obtain ⟨K, hK⟩ : ∃ x, keyP node nd = x := ⟨_, rfl⟩
  rw [hnd] at cn r1 r2 hkp HE
  rw [hK] at hkp HE
  have hkey : ∀ W, Calls Try.prog 53 #[.int .i64 node, .int .i64 nd] W fun e w' => e = .returned (.int .i64 K) ∧ W = w' := fun W => by
    have := key node nd W h0 h4 r1 r2
    rw [hK] at this
    exact this
  have HKEY := Lib.hid hkey
  have d4 := over_cell c4; have d3 := over_cell c3; have dn := over_cell cn
  clear hkey hnd hK hzd hz hr hG hn H
  go_enter Try.func52, Try.ntmps52
  go_upto_region 1 with fail
  refine wp_region_over (by kernel_rfl) (by kernel_rfl) ?_
  repeat (go_big_quiet_step ((go_at_call 53; exact calls_over_same (HKEY.out _))))
  refine wpQuiet_nil ?_
  rintro _ ⟨u, rfl⟩
  have d4 := over_cell c4 u; have d3 := over_cell c3 u; have dk := over_cell ck u
  have hfin := below_over w u
  rcases r3 with e | e
  · rw [e] at dk
    rw [e, if_pos rfl] at HE
    clear e ck
    go_wp2
    go_ret
    exact ⟨ret_int (by rw [HE.out]), hfin⟩
  · rw [e] at dk
    rw [e, if_neg (by decide)] at HE
    clear e ck
    go_wp2
    go_ret
    exact ⟨ret_int (by rw [HE.out]; omega), hfin⟩
set_option maxRecDepth 100000 in set_option maxHeartbeats 3200000 in
theorem zcmp (g4 g3 g12 bz n c : Nat) (node : Int) (zc : List Value) (zs : List Z) (i j : Nat) (w : World) (H : KO w g4 g3 bz n c node zc zs) (h12 : Blk w g12 106 [.func (.func 52) #[] #[.pointer (some ⟨g4, 0, none⟩), .pointer (some ⟨g3, 0, none⟩)]]) (hG : ZG zs) (hn : zs.length = n) (hi : i < n) (hj : j < n) (h0 : 0 ≤ node) (h4 : node < 4) :
    Calls Try.prog 55 #[.int .i64 i, .int .i64 j, .pointer (some ⟨g12, 0, none⟩)] w fun e w' => e = .returned (.int .i64 (cmpI (rkP zs node i) (rkP zs node j))) ∧ Below w.heap.size w w' := by
  have c12 : w.cell? ⟨g12, 0, none⟩ = some (.func (.func 52) #[] #[.pointer (some ⟨g4, 0, none⟩), .pointer (some ⟨g3, 0, none⟩)]) := by rw [h12.cell]; rfl
  have HR := Lib.hid (fun u => rank g4 g3 bz n c node zc zs i (over w u) (H.below (below_over w u)) hG hn hi h0 h4)
  have HS := Lib.hid (fun u => rank g4 g3 bz n c node zc zs j (over w u) (H.below (below_over w u)) hG hn hj h0 h4)
  have HC := Lib.hid (fun u => compare (rkP zs node i) (rkP zs node j) (over w u))
  obtain ⟨a, ha⟩ : ∃ x, rkP zs node i = x := ⟨_, rfl⟩
  obtain ⟨b, hb⟩ : ∃ x, rkP zs node j = x := ⟨_, rfl⟩
  rw [ha] at HR HC ⊢
  rw [hb] at HS HC ⊢
  have d12 := over_cell c12
  clear ha hb H h12 hG hn hi hj h0 h4
  go_enter Try.func55, Try.ntmps55
  go_upto_region 1 with fail
  refine wp_region_over (by kernel_rfl) (by kernel_rfl) ?_
  repeat (go_big_quiet_step ((first | (go_at_call 52; first | (with_reducible exact calls_over (HR.out _)) | (with_reducible exact calls_over (HS.out _))) | (go_at_call 56; exact calls_over_same (HC.out _)))))
  refine wpQuiet_nil ?_
  rintro _ ⟨u, rfl⟩
  have hfin := below_over w u
  go_wp2
  go_ret
  exact ⟨rfl, hfin⟩
end Go.Proofs.Ytdddkfpcbfgocaa
namespace Go.Zn
theorem tw_len {α : Type} {p : α → Bool} : ∀ {L : List α} {m : Nat}, m ≤ L.length → (∀ k y, k < m → L[k]? = some y → p y = true) → (∀ y, L[m]? = some y → p y = false) → (L.takeWhile p).length = m
  | [], m, h, _, _ => by simp at h; subst h; rfl
  | z :: r, 0, _, _, h2 => by rw [List.takeWhile_cons, if_neg (by rw [h2 z rfl]; decide)]; rfl
  | z :: r, m + 1, h, h1, h2 => by
    rw [List.takeWhile_cons, if_pos (h1 0 z (by omega) rfl), List.length_cons, tw_len (m := m) (by simpa using h) (fun k y hk hy => h1 (k + 1) y (by omega) (by simpa using hy)) (fun y hy => h2 y (by simpa using hy))]
def cutR (rk : Int → Int) (x : Int) (A : List Int) : Nat := A.length - (A.reverse.takeWhile fun y => decide (rk x < rk y)).length
def insR (rk : Int → Int) (x : Int) (A : List Int) : List Int := A.take (cutR rk x A) ++ x :: A.drop (cutR rk x A)
def isort (rk : Int → Int) (l : List Int) : List Int := l.foldl (fun A x => insR rk x A) []
theorem cut_eq {rk : Int → Int} {x : Int} {A : List Int} {j : Nat} (hj : j ≤ A.length) (h1 : ∀ k y, j ≤ k → A[k]? = some y → rk x < rk y) (h2 : ∀ y, 0 < j → A[j - 1]? = some y → ¬ rk x < rk y) : cutR rk x A = j := by
  unfold cutR
  rw [tw_len (m := A.length - j) (by rw [List.length_reverse]; omega)]
  · omega
  · intro k y hk hy
    rw [List.getElem?_reverse (by omega)] at hy
    exact decide_eq_true (h1 _ y (by omega) hy)
  · intro y hy
    rcases Nat.eq_zero_or_pos j with h0 | h0
    · subst h0
      rw [List.getElem?_eq_none (by simp)] at hy
      cases hy
    · rw [List.getElem?_reverse (by omega)] at hy
      exact decide_eq_false (h2 y h0 (by rw [show j - 1 = A.length - 1 - (A.length - j) by omega]; exact hy))
theorem mem_insR {rk : Int → Int} {x y : Int} {A : List Int} : y ∈ insR rk x A ↔ y = x ∨ y ∈ A := by
  unfold insR
  conv => rhs; rw [← List.take_append_drop (cutR rk x A) A]
  simp only [List.mem_append, List.mem_cons]
  constructor
  · rintro (h | h | h)
    · exact .inr (.inl h)
    · exact .inl h
    · exact .inr (.inr h)
  · rintro (h | h | h)
    · exact .inr (.inl h)
    · exact .inl h
    · exact .inr (.inr h)
theorem insR_len {rk : Int → Int} {x : Int} {A : List Int} : (insR rk x A).length = A.length + 1 := by
  unfold insR
  conv => rhs; rw [← List.take_append_drop (cutR rk x A) A]
  simp only [List.length_append, List.length_cons]
  omega
theorem isort_snoc {rk : Int → Int} {l : List Int} {x : Int} : isort rk (l ++ [x]) = insR rk x (isort rk l) := by simp [isort]
theorem isort_len {rk : Int → Int} : ∀ {n : Nat} {l : List Int}, l.length = n → (isort rk l).length = n
  | 0, l, h => by rw [List.eq_nil_of_length_eq_zero h]; rfl
  | n + 1, l, h => by
    have hd : l = l.dropLast ++ [l.getLast (by intro e; rw [e] at h; simp at h)] := (List.dropLast_concat_getLast _).symm
    rw [hd, isort_snoc, insR_len, isort_len (n := n) (by rw [List.length_dropLast, h]; rfl)]
theorem mem_isort {rk : Int → Int} {y : Int} : ∀ {n : Nat} {l : List Int}, l.length = n → (y ∈ isort rk l ↔ y ∈ l)
  | 0, l, h => by rw [List.eq_nil_of_length_eq_zero h]; simp [isort]
  | n + 1, l, h => by
    have hd : l = l.dropLast ++ [l.getLast (by intro e; rw [e] at h; simp at h)] := (List.dropLast_concat_getLast _).symm
    have ih := mem_isort (rk := rk) (y := y) (n := n) (l := l.dropLast) (by rw [List.length_dropLast, h]; rfl)
    rw [hd, isort_snoc, mem_insR, ih]
    simp only [List.mem_append, List.mem_singleton]
    exact ⟨fun h => h.symm, fun h => h.symm⟩
/-- Two neighbours change places. -/
theorem swap_step {A R : List Int} {x y : Int} {j : Nat} (hj : j + 1 ≤ A.length) (hy : A[j]? = some y) : ((A.take (j + 1) ++ x :: (A.drop (j + 1) ++ R)).set (j + 1) y).set j x = A.take j ++ x :: (A.drop j ++ R) := by
  have h1 : A.take (j + 1) = A.take j ++ [y] := by rw [List.take_add_one, hy]; rfl
  have h2 : A.drop j = y :: A.drop (j + 1) := by
    have hlt : j < A.length := by omega
    rw [List.drop_eq_getElem_cons hlt]
    rw [List.getElem?_eq_getElem hlt] at hy
    rw [Option.some.inj hy]
  have l1 : (A.take j).length = j := by rw [List.length_take]; omega
  rw [h1, h2]
  obtain ⟨p, hp⟩ : ∃ p, A.take j = p := ⟨_, rfl⟩
  rw [hp] at l1 ⊢
  rw [List.append_assoc, List.set_append, if_neg (by omega), l1, show j + 1 - j = 1 by omega]
  simp only [List.cons_append, List.nil_append, List.set_cons_succ, List.set_cons_zero]
  rw [List.set_append, if_neg (by omega), l1, Nat.sub_self]
  simp
theorem mid_get {A R : List Int} {x : Int} {j : Nat} (hj : j ≤ A.length) : (A.take j ++ x :: (A.drop j ++ R))[j]? = some x ∧ ∀ k, k < j → (A.take j ++ x :: (A.drop j ++ R))[k]? = A[k]? := by
  have l1 : (A.take j).length = j := by rw [List.length_take]; omega
  refine ⟨by rw [List.getElem?_append_right (by omega), l1, Nat.sub_self]; rfl, fun k hk => ?_⟩
  rw [List.getElem?_append_left (by omega), List.getElem?_take, if_pos hk]
end Go.Zn
namespace Go.Proofs.Ytdddkfpcbfgocaa
open Go.RowKit Go.Over Go.Zn Go.Can Go.Seg Go.Grow
end Go.Proofs.Ytdddkfpcbfgocaa
namespace Go.Proofs.Ytdddkfpcbfgocaa
open Go.RowKit Go.Over Go.Zn Go.Can Go.Seg Go.Grow
/-- What a sort reads besides its row. -/
structure SK (rk : Int → Int) (l : List Int) (ob g12 : Nat) (K : World → Prop) : Prop where
  k1 : ∀ W W', K W → Below W.heap.size W W' → K W'
  k2 : ∀ W W' cs, K W → Blk W ob 3 cs → W.grownBy W' (some ob) → K W'
  c : ∀ x ∈ l, ∀ y ∈ l, ∀ W, K W → Calls Try.prog 55 #[.int .i64 x, .int .i64 y, .pointer (some ⟨g12, 0, none⟩)] W fun e w' => e = .returned (.int .i64 (cmpI (rk x) (rk y))) ∧ Below W.heap.size W w'
theorem grown_cell {w w' : World} {ob i : Nat} {u : Value} (h : w.grownBy w' (some ob)) : w.grownBy (w'.setCell ⟨ob, i, none⟩ u) (some ob) :=
  grown_trans h ⟨rfl, rfl, rfl, by simp [World.setCell], fun k _ hk => Below.heap_setCell w' ⟨ob, i, none⟩ u k (fun e => hk (by rw [e]))⟩
theorem grown_below {w w' : World} {ob : Nat} (h : Below w.heap.size w w') : w.grownBy w' (some ob) := ⟨h.os, h.tape, h.output, h.size, fun k hk _ => h.block k hk⟩
theorem nums_set {l : List Int} {E : List Value} {i : Nat} {x : Int} (hi : i < l.length) : (nums l ++ E).set i (.int .i64 x) = nums (l.set i x) ++ E := by
  rw [List.set_append, if_pos (by simpa [nums] using hi)]
  simp [nums, List.map_set]
theorem nums_at {l : List Int} {E : List Value} {i : Nat} {x : Int} (h : l[i]? = some x) : (nums l ++ E)[i]? = some (.int .i64 x) := by
  have hi : i < l.length := by rw [List.getElem?_eq_some_iff] at h; exact h.1
  rw [List.getElem?_append_left (by simpa [nums] using hi)]
  simp [nums, h]
set_option maxRecDepth 100000 in set_option maxHeartbeats 3200000 in
theorem isorted (rk : Int → Int) (l : List Int) (n cap ob g12 : Nat) (E : List Value) (K : World → Prop) (w : World) (hB : Blk w ob 3 (nums l ++ E)) (hn : l.length = n) (hn6 : n ≤ 1000) (hK : K w) (HS : SK rk l ob g12 K) :
    Calls Try.prog 85 #[.slice (some ⟨ob, 0, none⟩) n cap, .int .i64 0, .int .i64 n, .func (.func 55) #[] #[.pointer (some ⟨g12, 0, none⟩)]] w fun e w' =>
      e = .returned (.tuple #[]) ∧ Blk w' ob 3 (nums (isort rk l) ++ E) ∧ w.grownBy w' (some ob) ∧ K w' := by
  have HN := Lib.hid hn
  have hg0 : w.grownBy w (some ob) := grown_below (Below.refl _ _)
  have hst : (n = 0 ∧ Blk w ob 3 (nums (isort rk l) ++ E)) ∨ (1 ≤ n ∧ Blk w ob 3 (nums (isort rk (l.take 1) ++ l.drop 1) ++ E)) := by
    rcases Nat.eq_zero_or_pos n with h | h
    · refine .inl ⟨h, ?_⟩
      rw [List.eq_nil_of_length_eq_zero (hn.trans h)] at hB ⊢
      exact hB
    · refine .inr ⟨h, ?_⟩
      cases l with
      | nil => simp at hn; omega
      | cons x r => exact hB
  have HST := Lib.hid hst
  clear hn hst hB
  go_enter Try.func85, Try.ntmps85
  go_wp2
  go_loopg [8] (n - 1) (fun gg v8 wr => ∃ i : Nat, v8 = .int .i64 i ∧ 1 ≤ i ∧ (gg = 0 → n ≤ i) ∧ (0 < gg → i + gg = n) ∧ w.grownBy wr (some ob) ∧ K wr ∧ ((n ≤ i ∧ Blk wr ob 3 (nums (isort rk l) ++ E)) ∨ (i < n ∧ Blk wr ob 3 (nums (isort rk (l.take i) ++ l.drop i) ++ E))))
  case atStart =>
    refine ⟨1, rfl, Nat.le_refl _, fun h => by omega, fun h => by omega, hg0, hK, ?_⟩
    rcases HST.out with ⟨h1, h2⟩ | ⟨h1, h2⟩
    · exact .inl ⟨by omega, h2⟩
    · rcases Nat.lt_or_ge 1 n with h3 | h3
      · exact .inr ⟨h3, h2⟩
      · refine .inl ⟨h3, ?_⟩
        rw [List.take_of_length_le (by rw [HN.out]; exact h3), List.drop_eq_nil_of_le (by rw [HN.out]; exact h3), List.append_nil] at h2
        exact h2
  case round =>
    clear HST hg0 hK
    obtain ⟨i, rfl, hi1, hi2, hi3, hg, hK, hst⟩ := hrel
    cases gk with
    | zero =>
      have hin : ¬ i < n := by have := hi2 rfl; omega
      have hB : Blk wr ob 3 (nums (isort rk l) ++ E) := by
        rcases hst with ⟨_, h⟩ | ⟨h, _⟩
        · exact h
        · exact absurd h hin
      clear hst hi2 hi3
      go_wp2
      exact bodyPost_end (results_none rfl _ _ _) rfl ⟨rfl, hB, hg, hK⟩
    | succ gg =>
      have hin : i < n := by have := hi3 (by omega); omega
      have HI := Lib.hid (hi3 (by omega))
      have hB : Blk wr ob 3 (nums (isort rk (l.take i) ++ l.drop i) ++ E) := by
        rcases hst with ⟨h, _⟩ | ⟨_, h⟩
        · omega
        · exact h
      obtain ⟨x, hx⟩ := get_some HN.out hin
      obtain ⟨A, hA⟩ : ∃ A, isort rk (l.take i) = A := ⟨_, rfl⟩
      obtain ⟨R, hR⟩ : ∃ R, l.drop (i + 1) = R := ⟨_, rfl⟩
      have htl : (l.take i).length = i := by rw [List.length_take, HN.out]; omega
      have hAl : A.length = i := by rw [← hA]; exact isort_len htl
      have hAm : ∀ y ∈ A, y ∈ l := fun y hy => by rw [← hA] at hy; exact List.mem_of_mem_take ((mem_isort htl).1 hy)
      have hB2 : Blk wr ob 3 (nums (A.take i ++ x :: (A.drop i ++ R)) ++ E) := by
        rw [List.take_of_length_le (Nat.le_of_eq hAl), List.drop_eq_nil_of_le (Nat.le_of_eq hAl), List.nil_append, ← hA, ← hR, ← drop_get hx]; exact hB
      have HNX := Lib.hid (show ∀ A', A' = insR rk x A → (n ≤ i + 1 → A' ++ R = isort rk l) ∧ (A' ++ R = isort rk (l.take (i + 1)) ++ l.drop (i + 1)) from fun A' hA' => by
        have e1 : isort rk (l.take (i + 1)) = A' := by rw [List.take_add_one, hx, hA', ← hA]; exact isort_snoc
        refine ⟨fun h => ?_, by rw [e1, hR]⟩
        rw [← hR, List.drop_eq_nil_of_le (by rw [HN.out]; exact h), List.append_nil, ← e1, List.take_of_length_le (by rw [HN.out]; exact h)])
      have HX := Lib.hid (List.mem_of_getElem? hx); have HAL := Lib.hid hAl; have HAM := Lib.hid hAm
      clear hst hi2 hi3 hB hx hA hR htl hAl hAm
      go_wp2
      go_loopg [9] i (fun g2 v9 wj => v9 = .int .i64 g2 ∧ g2 ≤ i ∧ Blk wj ob 3 (nums (A.take g2 ++ x :: (A.drop g2 ++ R)) ++ E) ∧ w.grownBy wj (some ob) ∧ K wj ∧ (∀ k y, g2 ≤ k → A[k]? = some y → rk x < rk y))
      case atStart => exact ⟨rfl, Nat.le_refl _, hB2, hg, hK, fun k y h1 h2 => by
        rw [List.getElem?_eq_none (by rw [HAL.out]; exact h1)] at h2; cases h2⟩
      case round =>
        clear hB2 hg hK
        obtain ⟨rfl, hj, hB3, hg3, hK3, hgt⟩ := hrel
        have HGT := Lib.hid hgt
        clear hgt
        cases gk with
        | zero =>
          have hcut := HNX.out _ (show insR rk x A = insR rk x A from rfl)
          have hct := cut_eq (rk := rk) (x := x) (A := A) (j := 0) (Nat.zero_le _) HGT.out (fun _ h => absurd h (by omega))
          have HE := Lib.hid (show A.take 0 ++ x :: (A.drop 0 ++ R) = insR rk x A ++ R by unfold insR; rw [hct]; simp)
          have HCUT := Lib.hid hcut
          rw [HE.out] at hB3
          clear hcut hct
          go_wp2_with fail
          refine wp_region_over (by kernel_rfl) (by kernel_rfl) ?_
          repeat (go_big_quiet_step (fail))
          refine wpQuiet_nil ?_
          rintro _ ⟨u, rfl⟩
          have hW := below_over wr u
          have hB4 := hB3.later hW
          have hg4 := grown_trans hg3 (grown_below (ob := ob) hW)
          have hK4 := HS.k1 _ _ hK3 hW
          obtain ⟨w4, hw4⟩ : ∃ W, W = over wr u := ⟨_, rfl⟩
          rw [← hw4] at hB4 hg4 hK4 ⊢
          clear hw4 hW hB3 hg3 hK3
          go_wp2
          go_roundg gg
          case rel =>
              have hi := HI.out
              refine ⟨i + 1, by go_num, by omega, fun h => by omega, fun h => by omega, hg4, hK4, ?_⟩
              rcases Nat.lt_or_ge (i + 1) n with h | h
              · refine .inr ⟨h, ?_⟩
                rw [← HCUT.out.2]; exact hB4
              · refine .inl ⟨h, ?_⟩
                rw [← HCUT.out.1 h]; exact hB4
          case measure => omega
        | succ j =>
          have hAl := HAL.out
          obtain ⟨y, hy⟩ := get_some (l := A) (i := j) hAl (by omega)
          have hm := mid_get (A := A) (R := R) (x := x) (j := j + 1) (by omega)
          have cx : wr.cell? ⟨ob, j + 1, none⟩ = some (.int .i64 x) := by rw [hB3.cell]; exact nums_at hm.1
          have cy : wr.cell? ⟨ob, j, none⟩ = some (.int .i64 y) := by rw [hB3.cell]; exact nums_at ((hm.2 j (by omega)).trans hy)
          have dx := over_cell cx; have dy := over_cell cy
          have ej : ((j + 1 : Nat) : Int) - 1 = (j : Int) := by omega
          have tj : decide ((0 : Int) < ((j + 1 : Nat) : Int)) = true := by simp
          have HC := Lib.hid (fun u => HS.c x HX.out y (HAM.out y (List.mem_of_getElem? hy)) (over wr u) (HS.k1 _ _ hK3 (below_over wr u)))
          have hjn : j + 1 < n := by omega
          have HY := Lib.hid hy
          clear hAl hm hy
          by_cases hlt : rk x < rk y
          · have hcm : cmpI (rk x) (rk y) = -1 := by unfold cmpI; rw [if_pos hlt]
            rw [hcm] at HC
            clear hcm
            go_wp2_with fail
            refine wp_region_over (by kernel_rfl) (by kernel_rfl) ?_
            repeat (go_big_quiet_step (exact calls_over (HC.out _)))
            refine wpQuiet_nil ?_
            rintro _ ⟨u, rfl⟩
            have hW := below_over wr u
            have hB4 := hB3.later hW
            have hg4 := grown_trans hg3 (grown_below (ob := ob) hW)
            have hK4 := HS.k1 _ _ hK3 hW
            have cx := dx u; have cy := dy u
            obtain ⟨w4, hw4⟩ : ∃ W, W = over wr u := ⟨_, rfl⟩
            rw [← hw4] at hB4 hg4 hK4 cx cy ⊢
            clear hw4 hW hB3 hg3 hK3 dx dy HC
            go_wp2_with fail
            refine wp_region_plan (fun _ => True) (.quiet [0, 1, 2, 3, 4, 5, 6, 7, 8, 10, 11, 12] (.fork 9 (.only 13 (.quiet [14] (.only 15 (.quiet [16] (.only 17 .done))))) 13 (.only 9 (.quiet [14] (.only 15 (.quiet [16] (.only 17 .done))))))) 99 (by kernel_rfl) (by kernel_rfl) trivial ?_
            intro U _ hWe
            have bW : Below w4.heap.size w4 U := by rw [hWe]; exact (Below.refl _ _).drew
            have hB5 := hB4.later bW
            have hg5 := grown_trans hg4 (grown_below (ob := ob) bW)
            have hK5 := HS.k1 _ _ hK4 bW
            have cx := cell_later bW cx
            have cy := cell_later bW cy
            clear hWe bW hB4 hg4 hK4
            have hfz := hB5.frozen (j + 1)
            have hsw := Lib.hid (swap_step (A := A) (R := R) (x := x) (y := y) (j := j) (by rw [HAL.out]; exact hj) HY.out)
            have hl1 := Lib.hid (show j + 1 < (A.take (j + 1) ++ x :: (A.drop (j + 1) ++ R)).length by rw [List.length_append, List.length_take, HAL.out, List.length_cons]; omega)
            have B5 := hB5.set (j + 1) (.int .i64 y)
            rw [nums_set hl1.out] at B5
            have B6 := B5.set j (.int .i64 x)
            rw [nums_set (by rw [List.length_set]; have := hl1.out; omega), hsw.out] at B6
            have f6 := B5.frozen j
            have c6 : (U.setCell ⟨ob, j + 1, none⟩ (.int .i64 y)).cell? ⟨ob, j, none⟩ = some (.int .i64 y) := by
              have hm := mid_get (A := A) (R := R) (x := x) (j := j + 1) (by rw [HAL.out]; exact hj)
              rw [B5.cell]
              exact nums_at (by rw [List.getElem?_set_ne (by omega)]; exact (hm.2 j (by omega)).trans HY.out)
            have K6 := HS.k2 _ _ _ (HS.k2 _ _ _ hK5 hB5 (grown_cell (i := j + 1) (u := .int .i64 y) (grown_below (Below.refl _ _)))) B5 (grown_cell (i := j) (u := .int .i64 x) (grown_below (Below.refl _ _)))
            have G6 := grown_cell (i := j) (u := .int .i64 x) (grown_cell (i := j + 1) (u := .int .i64 y) hg5)
            clear hB5 hg5 hK5 B5 hsw hl1
            simp only [wpPlan, inOrder, List.filterMap_cons, List.filterMap_nil, List.getElem?_cons_zero, List.getElem?_cons_succ]
            show wpQuiet _ _ _ _ (_ :: _ :: _ :: _ :: _ :: _ :: _ :: _ :: _ :: _ :: _ :: [_]) _
            repeat (go_big_quiet_step (fail))
            refine wpQuiet_nil ?_
            refine ⟨?_, ?_⟩
            · show wpList _ _ _ [_] _ _
              go_wp2
              refine ⟨hold_of (S0 := fun _ => True) trivial, ?_⟩
              show wpList _ _ _ [_] _ _
              go_wp2
              refine ⟨hold_of (S0 := fun _ => True) trivial, ?_⟩
              show wpQuiet _ _ _ _ ([_]) _
              repeat (go_big_quiet_step (fail))
              refine wpQuiet_nil ?_
              show wpList _ _ _ [_] _ _
              go_wp2
              refine ⟨hold_of (S0 := fun _ => True) trivial, ?_⟩
              show wpQuiet _ _ _ _ ([_]) _
              repeat (go_big_quiet_step (fail))
              refine wpQuiet_nil ?_
              show wpList _ _ _ [_] _ _
              go_wp2
              refine ⟨hold_of (S0 := fun _ => True) trivial, NoPanic.normal ?_⟩
              obtain ⟨w7, hw7⟩ : ∃ W, W = (U.setCell ⟨ob, j + 1, none⟩ (.int .i64 y)).setCell ⟨ob, j, none⟩ (.int .i64 x) := ⟨_, rfl⟩
              rw [← hw7] at B6 K6 G6 ⊢
              clear hw7 c6 f6 hfz
              go_wp2
              go_roundg j
              case rel => exact ⟨rfl, by omega, B6, G6, K6, fun k y' h1 h2 => by
                by_cases e : k = j
                · subst e; rw [HY.out] at h2; cases h2; exact hlt
                · exact HGT.out k y' (by omega) h2⟩
              case measure => omega
            · show wpList _ _ _ [_] _ _
              go_wp2
              refine ⟨hold_of (S0 := fun _ => True) trivial, ?_⟩
              show wpList _ _ _ [_] _ _
              go_wp2
              refine ⟨hold_of (S0 := fun _ => True) trivial, ?_⟩
              show wpQuiet _ _ _ _ ([_]) _
              repeat (go_big_quiet_step (fail))
              refine wpQuiet_nil ?_
              show wpList _ _ _ [_] _ _
              go_wp2
              refine ⟨hold_of (S0 := fun _ => True) trivial, ?_⟩
              show wpQuiet _ _ _ _ ([_]) _
              repeat (go_big_quiet_step (fail))
              refine wpQuiet_nil ?_
              show wpList _ _ _ [_] _ _
              go_wp2
              refine ⟨hold_of (S0 := fun _ => True) trivial, NoPanic.normal ?_⟩
              obtain ⟨w7, hw7⟩ : ∃ W, W = (U.setCell ⟨ob, j + 1, none⟩ (.int .i64 y)).setCell ⟨ob, j, none⟩ (.int .i64 x) := ⟨_, rfl⟩
              rw [← hw7] at B6 K6 G6 ⊢
              clear hw7 c6 f6 hfz
              go_wp2
              go_roundg j
              case rel => exact ⟨rfl, by omega, B6, G6, K6, fun k y' h1 h2 => by
                by_cases e : k = j
                · subst e; rw [HY.out] at h2; cases h2; exact hlt
                · exact HGT.out k y' (by omega) h2⟩
              case measure => omega
          · have hcm : ∃ q, cmpI (rk x) (rk y) = q ∧ decide (q < 0) = false := ⟨_, rfl, by rw [decide_eq_false_iff_not]; exact fun h => hlt (cmpI_lt.1 h)⟩
            obtain ⟨q, hq, tq⟩ := hcm
            rw [hq] at HC
            have hct := cut_eq (rk := rk) (x := x) (A := A) (j := j + 1) (by rw [HAL.out]; omega) HGT.out (fun y' _ h => by
              rw [show j + 1 - 1 = j by omega, HY.out] at h; cases h; exact hlt)
            have HE := Lib.hid (show A.take (j + 1) ++ x :: (A.drop (j + 1) ++ R) = insR rk x A ++ R by unfold insR; rw [hct]; simp)
            have HCUT := Lib.hid (HNX.out _ (show insR rk x A = insR rk x A from rfl))
            rw [HE.out] at hB3
            clear hq hct hlt
            go_wp2_with fail
            refine wp_region_over (by kernel_rfl) (by kernel_rfl) ?_
            repeat (go_big_quiet_step (exact calls_over (HC.out _)))
            refine wpQuiet_nil ?_
            rintro _ ⟨u, rfl⟩
            have hW := below_over wr u
            have hB4 := hB3.later hW
            have hg4 := grown_trans hg3 (grown_below (ob := ob) hW)
            have hK4 := HS.k1 _ _ hK3 hW
            obtain ⟨w4, hw4⟩ : ∃ W, W = over wr u := ⟨_, rfl⟩
            rw [← hw4] at hB4 hg4 hK4 ⊢
            clear hw4 hW hB3 hg3 hK3 dx dy HC cx cy
            go_wp2
            go_roundg gg
            case rel =>
              have hi := HI.out
              refine ⟨i + 1, by go_num, by omega, fun h => by omega, fun h => by omega, hg4, hK4, ?_⟩
              rcases Nat.lt_or_ge (i + 1) n with h | h
              · refine .inr ⟨h, ?_⟩
                rw [← HCUT.out.2]; exact hB4
              · refine .inl ⟨h, ?_⟩
                rw [← HCUT.out.1 h]; exact hB4
            case measure => omega
end Go.Proofs.Ytdddkfpcbfgocaa
namespace Go.Proofs.Ytdddkfpcbfgocaa
open Go.RowKit Go.Over Go.Zn Go.Can Go.Seg Go.Grow
/-- What a sort of a row gives. -/
def SortAns (rk : Int → Int) (l : List Int) (B : Nat) (v : Value) (K : World → Prop) (w : World) (e : Ending) (w' : World) : Prop :=
  e = .returned (.tuple #[]) ∧ Own w' B v (isort rk l) ∧ w.grownBy w' v.ownBlock ∧ K w'
set_option maxRecDepth 100000 in set_option maxHeartbeats 3200000 in
theorem isort0 (v : Value) (g12 : Nat) (w : World) : Calls Try.prog 85 #[v, .int .i64 0, .int .i64 0, .func (.func 55) #[] #[.pointer (some ⟨g12, 0, none⟩)]] w fun e w' => e = .returned (.tuple #[]) ∧ w = w' := by
  go_enter Try.func85, Try.ntmps85
  go_wp2
  go_loopg [8] 0 (fun gg v8 wr => v8 = .int .i64 1 ∧ gg = 0 ∧ w = wr)
  case atStart => exact ⟨rfl, rfl, rfl⟩
  case round =>
    obtain ⟨rfl, rfl, rfl⟩ := hrel
    go_wp2
    exact bodyPost_end (results_none rfl _ _ _) rfl ⟨rfl, rfl⟩
theorem isorts (rk : Int → Int) (l : List Int) (n B g12 : Nat) (v : Value) (K : World → Prop) (w : World) (hO : Own w B v l) (hn : l.length = n) (hn6 : n ≤ 1000) (hK : K w) (HS : ∀ ob, v.ownBlock = some ob → SK rk l ob g12 K) :
    Calls Try.prog 85 #[v, .int .i64 0, .int .i64 n, .func (.func 55) #[] #[.pointer (some ⟨g12, 0, none⟩)]] w (SortAns rk l B v K w) := by
  rcases Nat.eq_zero_or_pos n with h0 | h0
  · subst h0
    obtain rfl := List.eq_nil_of_length_eq_zero hn
    exact (isort0 v g12 w).mono fun e w' ⟨h1, h2⟩ => by subst h2; exact ⟨h1, hO, ⟨rfl, rfl, rfl, Nat.le_refl _, fun _ _ _ => rfl⟩, hK⟩
  · obtain ⟨g, cap, cur, rfl, hg, hB, hnc, hcm, hcl, htk, _⟩ := row_open hO (by omega)
    rw [hn] at htk hnc ⊢
    have hcur : nums l ++ cur.drop n = cur := by rw [← htk, List.take_append_drop]
    rw [← hcur] at hB
    refine (isorted rk l n cap g g12 (cur.drop n) K w hB hn hn6 hK (HS g rfl)).mono fun e w' ⟨h1, h2, h3, h4⟩ => ⟨h1, ?_, h3, h4⟩
    have hil : (isort rk l).length = n := isort_len hn
    unfold Own
    rw [hil]
    exact row_shut hg h2 hnc hcm (by simp [nums, hil, hcl]; omega) (by rw [List.take_append_of_le_length (by simp [nums, hil]), List.take_of_length_le (by simp [nums, hil])])
set_option maxRecDepth 100000 in set_option maxHeartbeats 3200000 in
theorem stable (rk : Int → Int) (l : List Int) (n B g12 : Nat) (v : Value) (K : World → Prop) (w : World) (hO : Own w B v l) (hn : l.length = n) (hn6 : n ≤ 19) (hK : K w) (HS : ∀ ob, v.ownBlock = some ob → SK rk l ob g12 K) :
    Calls Try.prog 79 #[v, .int .i64 n, .func (.func 55) #[] #[.pointer (some ⟨g12, 0, none⟩)]] w (SortAns rk l B v K w) := by
  have HC := Lib.hid (isorts rk l n B g12 v K w hO hn (by omega) hK HS)
  clear hO hn hK HS
  go_enter Try.func79, Try.ntmps79
  go_wp2
  go_loopg [7, 8] 0 (fun gg v7 v8 wr => v7 = .int .i64 0 ∧ v8 = .int .i64 20 ∧ gg = 0 ∧ w = wr)
  case atStart => exact ⟨rfl, rfl, rfl, rfl⟩
  case round =>
    obtain ⟨rfl, rfl, rfl, rfl⟩ := hrel
    go_wp2_with fail
    refine HC.out.mono ?_
    rintro e w2 ⟨rfl, hO, hg, hK⟩
    have HP := Lib.hid (show SortAns rk l B v K w (.returned (.tuple #[])) w2 from ⟨rfl, hO, hg, hK⟩)
    clear hO hg hK HC
    go_wp2
    go_loopg [6] 0 (fun gg v6 wr => v6 = .int .i64 20 ∧ gg = 0 ∧ w2 = wr)
    case atStart => exact ⟨rfl, rfl, rfl⟩
    case round =>
      obtain ⟨rfl, rfl, rfl⟩ := hrel
      go_wp2
      exact bodyPost_end (results_none rfl _ _ _) rfl HP.out
set_option maxRecDepth 100000 in set_option maxHeartbeats 3200000 in
theorem sorts (rk : Int → Int) (l : List Int) (B g12 : Nat) (v : Value) (K : World → Prop) (w : World) (hO : Own w B v l) (hn6 : l.length ≤ 19) (hK : K w) (HS : ∀ ob, v.ownBlock = some ob → SK rk l ob g12 K) :
    Calls Try.prog 54 #[v, .func (.func 55) #[] #[.pointer (some ⟨g12, 0, none⟩)]] w (SortAns rk l B v K w) := by
  obtain ⟨n, hn⟩ : ∃ n, l.length = n := ⟨_, rfl⟩
  rw [hn] at hn6
  have HC := Lib.hid (stable rk l n B g12 v K w hO hn hn6 hK HS)
  obtain ⟨a, c, hv, _⟩ := own_form hO
  rw [hn] at hv
  subst hv
  clear hO hK HS hn
  go_enter Try.func54, Try.ntmps54
  go_wp2_with fail
  refine HC.out.mono ?_
  rintro e w2 ⟨rfl, hO, hg, hK⟩
  have HP := Lib.hid (show SortAns rk l B (.slice a n c) K w (.returned (.tuple #[])) w2 from ⟨rfl, hO, hg, hK⟩)
  clear hO hg hK HC
  go_wp2
  exact bodyPost_end (results_none rfl _ _ _) rfl HP.out
end Go.Proofs.Ytdddkfpcbfgocaa
namespace Go.Zn
def suit (zs : List Z) (kernel : Bool) (i : Nat) : Bool := !kernel || decide ((zs.getD i noZ).kd = 0)
def outP (zs : List Z) (kernel : Bool) : Nat → List Int
  | 0 => []
  | n + 1 => if suit zs kernel n then outP zs kernel n ++ [(n : Int)] else outP zs kernel n
def ordP (zs : List Z) (node : Int) (kernel : Bool) : List Int := isort (rkP zs node) (outP zs kernel zs.length)
theorem mem_outP {zs : List Z} {kernel : Bool} {x : Int} : ∀ {n : Nat}, x ∈ outP zs kernel n ↔ ∃ i : Nat, i < n ∧ x = i ∧ suit zs kernel i = true
  | 0 => by
    constructor
    · intro h; simp [outP] at h
    · rintro ⟨i, h, _⟩; omega
  | n + 1 => by
    unfold outP
    split
    · rename_i hs
      rw [List.mem_append, mem_outP (n := n), List.mem_singleton]
      constructor
      · rintro (⟨i, h1, h2⟩ | h)
        · exact ⟨i, by omega, h2⟩
        · exact ⟨n, by omega, h, hs⟩
      · rintro ⟨i, h1, h2, h3⟩
        by_cases e : i = n
        · subst e; exact .inr h2
        · exact .inl ⟨i, by omega, h2, h3⟩
    · rename_i hs
      rw [mem_outP (n := n)]
      constructor
      · rintro ⟨i, h1, h2⟩; exact ⟨i, by omega, h2⟩
      · rintro ⟨i, h1, h2, h3⟩
        by_cases e : i = n
        · subst e; exact absurd h3 hs
        · exact ⟨i, by omega, h2, h3⟩
theorem outP_len {zs : List Z} {kernel : Bool} : ∀ {n : Nat}, (outP zs kernel n).length ≤ n
  | 0 => Nat.le_refl _
  | n + 1 => by
    unfold outP
    split
    · rw [List.length_append]; have := outP_len (zs := zs) (kernel := kernel) (n := n); simp; omega
    · have := outP_len (zs := zs) (kernel := kernel) (n := n); omega
theorem mem_ordP {zs : List Z} {node x : Int} {kernel : Bool} : x ∈ ordP zs node kernel ↔ ∃ i : Nat, i < zs.length ∧ x = i ∧ suit zs kernel i = true := by
  unfold ordP
  rw [mem_isort rfl, mem_outP]
theorem ordP_len {zs : List Z} {node : Int} {kernel : Bool} : (ordP zs node kernel).length ≤ zs.length := by
  unfold ordP
  rw [isort_len rfl]
  exact outP_len
end Go.Zn
namespace Go.Proofs.Ytdddkfpcbfgocaa
open Go.RowKit Go.Over Go.Zn Go.Can Go.Seg Go.Grow
theorem KO.of {w : World} {g4 g3 bz n c : Nat} {node : Int} {zc : List Value} {zs : List Z} (h4 : Blk w g4 3 [.int .i64 node]) (h3 : Blk w g3 29 [.slice (some ⟨bz, 0, none⟩) n c]) (q : QV w bz zc zs) : KO w g4 g3 bz n c node zc zs :=
  ⟨h4, h3, q.x, fun i z hz => by have h := q.row i z hz; exact ⟨h.len, h.nd, h.kd, h.st, h.ct, h.mn⟩⟩
def RK (g4 g3 : Nat) : Value := .func (.func 52) #[] #[.pointer (some ⟨g4, 0, none⟩), .pointer (some ⟨g3, 0, none⟩)]
theorem sk_of {g4 g3 g12 bz n c ob : Nat} {node : Int} {kernel : Bool} {zc : List Value} {zs : List Z} (hG : ZG zs) (hn : zs.length = n) (h0 : 0 ≤ node) (h4 : node < 4) (hne : ob ≠ g4) :
    SK (rkP zs node) (outP zs kernel n) ob g12 (fun W => KO W g4 g3 bz n c node zc zs ∧ Blk W g12 106 [RK g4 g3]) :=
  ⟨fun W W' h hb => ⟨h.1.below hb, h.2.later hb⟩, fun W W' cs h hB hg => ⟨h.1.grown hB hne hg, h.2.grown hg (by simpa using hB.ne_type h.2 (by decide))⟩, fun x hx y hy W h => by
    obtain ⟨i, hi, rfl, _⟩ := mem_outP.1 hx
    obtain ⟨j, hj, rfl, _⟩ := mem_outP.1 hy
    exact zcmp g4 g3 g12 bz n c node zc zs i j W h.1 h.2 hG hn hi hj h0 h4⟩
set_option maxRecDepth 100000 in set_option maxHeartbeats 3200000 in
theorem zorder (bz n c : Nat) (zc : List Value) (zs : List Z) (node : Int) (kernel : Bool) (w : World) (H : QV w bz zc zs) (hn : zs.length = n) (hnc : n ≤ c) (hG : ZG zs) (h0 : 0 ≤ node) (h4 : node < 4) :
    Calls Try.prog 23 #[.slice (some ⟨bz, 0, none⟩) n c, .int .i64 node, .bool kernel] w fun e w' => ∃ v, e = .returned (.tuple #[v, .int .i64 0]) ∧ Sl w' v (ordP zs node kernel) ∧ Below w.heap.size w w' := by
  have HN := Lib.hid hn; have HG := Lib.hid hG
  have h6 := hG.l6
  rw [hn] at h6
  have hs : (w.alloc (.cells #[.slice (some ⟨bz, 0, none⟩) n c] 29)).heap.size = w.heap.size + 1 := by simp
  have b1 := below_then (below_box w (.cells #[.slice (some ⟨bz, 0, none⟩) n c] 29)) (below_box (w.alloc (.cells #[.slice (some ⟨bz, 0, none⟩) n c] 29)) (.cells #[.int .i64 node] 3))
  have N3 := (Blk.new w 29 #[.slice (some ⟨bz, 0, none⟩) n c] [.slice (some ⟨bz, 0, none⟩) n c] rfl).later (below_box _ (.cells #[.int .i64 node] 3))
  have N4 := Blk.new (w.alloc (.cells #[.slice (some ⟨bz, 0, none⟩) n c] 29)) 3 #[.int .i64 node] [.int .i64 node] rfl
  rw [hs] at N4
  have Q1 := H.below b1
  clear hn hG hs H
  go_enter Try.func23, Try.ntmps23
  go_upto_region 1 with fail
  obtain ⟨w1, hw1⟩ : ∃ W, W = (w.alloc (.cells #[.slice (some ⟨bz, 0, none⟩) n c] 29)).alloc (.cells #[.int .i64 node] 3) := ⟨_, rfl⟩
  rw [← hw1] at b1 N3 N4 Q1 ⊢
  have hb4 : w.heap.size + 1 < w1.heap.size := N4.lt
  obtain ⟨g4, hg4⟩ : ∃ z, w.heap.size + 1 = z := ⟨_, rfl⟩
  rw [hg4] at N4 hb4 ⊢
  obtain ⟨g3, hg3⟩ : ∃ z, w.heap.size = z := ⟨_, rfl⟩
  rw [show Blk w1 w.heap.size 29 [.slice (some ⟨bz, 0, none⟩) n c] = Blk w1 g3 29 [.slice (some ⟨bz, 0, none⟩) n c] by rw [hg3]] at N3
  rw [hg3]
  have B1 : Below w.heap.size w w1 := b1
  clear hw1 hg4 hg3 b1
  have c3 : w1.cell? ⟨g3, 0, none⟩ = some (.slice (some ⟨bz, 0, none⟩) n c) := by rw [N3.cell]; rfl
  have c4 : w1.cell? ⟨g4, 0, none⟩ = some (.int .i64 node) := by rw [N4.cell]; rfl
  have HC := Lib.hid (zlcheck2 bz n c zc zs node w1 Q1 HN.out HG.out h0 h4)
  go_wp2_with fail
  refine HC.out.mono ?_
  rintro e w2 ⟨rfl, b2⟩
  have O2 : Own w2 w1.heap.size (.slice none 0 0) (outP zs kernel 0) := Own.nil _ _
  clear HC
  have c3 := cell_later b2 c3
  go_wp2
  go_loopg [21, 9] n (fun gg v21 v9 wr => ∃ i : Nat, i + gg = n ∧ v21 = .int .i64 i ∧ Own wr w1.heap.size v9 (outP zs kernel i) ∧ Below w1.heap.size w1 wr)
  case atStart => exact ⟨0, by omega, rfl, O2, b2⟩
  case round =>
    clear O2 b2 c3
    obtain ⟨i, hi, rfl, O3, b3⟩ := hrel
    cases gk with
    | succ gg =>
      have hin : i < n := by omega
      have HI := Lib.hid hi
      obtain ⟨z, hz⟩ := get_some HN.out hin
      have Q3 := Q1.below b3
      have hZ := Q3.row i z hz
      have hr := HG.out.r z (List.mem_of_getElem? hz)
      have r3 := hr.kd
      have h1c := hZ.one
      have hzl := hZ.len
      have hz2 := Blk.new wr 39 #[.int .i64 0, .int .i64 0, .int .i64 0, .int .i64 0, .int .i64 0, .slice none 0 0, .slice none 0 0, .slice none 0 0, .slice none 0 0, .slice none 0 0] zP rfl
      have B2 := below_then b3 (below_box wr (.cells #[.int .i64 0, .int .i64 0, .int .i64 0, .int .i64 0, .int .i64 0, .slice none 0 0, .slice none 0 0, .slice none 0 0, .slice none 0 0, .slice none 0 0] 39))
      have HZV := Lib.hid hZ; have HZ := Lib.hid hz
      have hzd : zs.getD i noZ = z := by rw [List.getD_eq_getElem?_getD, hz]; rfl
      have O2 := O3.later (below_box wr (.cells #[.int .i64 0, .int .i64 0, .int .i64 0, .int .i64 0, .int .i64 0, .slice none 0 0, .slice none 0 0, .slice none 0 0, .slice none 0 0, .slice none 0 0] 39))
      have hsz := b3.size
      clear hi hz hr hZ
      go_upto_region 8 with first | ((with_reducible refine ldq ?_ Q3 HZ.out ?_); (focus rfl)) | ((with_reducible refine stZ (cs := seg zc (i * 10) 10) ?_ ?_ hz2 zP_len hzl h1c ?_); (focus rfl); (focus rfl); intro w4 hB3 hg3)
      have O4 := O2.kept hg3 (.inr (hz2.not_own O2 (by decide)))
      have b14 : Below w1.heap.size w1 w4 := B2.grown hg3 B2.size (fun k hk => by cases hk; exact hsz)
      have B4 := b14
      have ck : w4.cell? ⟨wr.heap.size, 1, none⟩ = some (.int .i64 z.kd) := by rw [hB3.cell]; exact HZV.out.kd
      clear hg3 O2 O3 B2 b3 Q3 hz2 h1c hzl HZV
      cases kernel with
      | false =>
        have HSU := Lib.hid (show suit zs false i = true from rfl)
        clear hzd ck
        have hB8 := Blk.new w4 3 #[.int .i64 i] [.int .i64 i] rfl
        have bN := below_box w4 (.cells #[.int .i64 i] 3)
        have O8 := O4.later bN
        have B8 := below_then B4 bN
        have hb8 := below_then b14 bN
        have hl9 : (outP zs false i).length ≤ 900000 := by have := outP_len (zs := zs) (kernel := false) (n := i); omega
        have HE := Lib.hid (show outP zs false (i + 1) = outP zs false i ++ [(i : Int)] by rw [outP, if_pos HSU.out])
        have hsz := hb8.size
        clear O4 bN hB3
        go_wp2_with ((with_reducible refine wpList_app1 (base := w1.heap.size) (b := w4.heap.size) (x := (i : Int)) ?_ ?_ O8 hB8 hl9 hsz ?_); (focus rfl); (focus rfl); intro v9 w9 O9 hg9)
        rw [← HE.out] at O9
        have b19 : Below w1.heap.size w1 w9 := hb8.grown hg9 hsz (fun k hk => (World.ownsRow.lt O8 k hk).1)
        clear B4 B8 b14 hb8 hg9 O8 hB8
        go_roundg gg
        case rel => exact ⟨i + 1, by have := HI.out; omega, by go_num, O9, b19⟩
        case measure => omega
      | true =>
        rcases r3 with e | e
        · have HSU := Lib.hid (show suit zs true i = true by unfold suit; rw [hzd, e]; rfl)
          rw [e] at ck
          clear hzd e
          have hB8 := Blk.new w4 3 #[.int .i64 i] [.int .i64 i] rfl
          have bN := below_box w4 (.cells #[.int .i64 i] 3)
          have O8 := O4.later bN
          have B8 := below_then B4 bN
          have hb8 := below_then b14 bN
          have hl9 : (outP zs true i).length ≤ 900000 := by have := outP_len (zs := zs) (kernel := true) (n := i); omega
          have HE := Lib.hid (show outP zs true (i + 1) = outP zs true i ++ [(i : Int)] by rw [outP, if_pos HSU.out])
          have hsz := hb8.size
          clear O4 bN hB3
          go_wp2_with ((with_reducible refine wpList_app1 (base := w1.heap.size) (b := w4.heap.size) (x := (i : Int)) ?_ ?_ O8 hB8 hl9 hsz ?_); (focus rfl); (focus rfl); intro v9 w9 O9 hg9)
          rw [← HE.out] at O9
          have b19 : Below w1.heap.size w1 w9 := hb8.grown hg9 hsz (fun k hk => (World.ownsRow.lt O8 k hk).1)
          clear B4 B8 b14 hb8 hg9 O8 hB8
          go_roundg gg
          case rel => exact ⟨i + 1, by have := HI.out; omega, by go_num, O9, b19⟩
          case measure => omega
        · have HE := Lib.hid (show outP zs true (i + 1) = outP zs true i by rw [outP, if_neg (by unfold suit; rw [hzd, e]; decide)])
          rw [e] at ck
          clear hzd e hB3
          go_wp2
          go_roundg gg
          case rel => exact ⟨i + 1, by have := HI.out; omega, by go_num, by rw [HE.out]; exact O4, b14⟩
          case measure => omega
    | zero =>
      obtain rfl : i = n := by omega
      have hin : ¬ i < i := by omega
      have hlen : (outP zs kernel i).length ≤ 19 := by have := outP_len (zs := zs) (kernel := kernel) (n := i); omega
      clear hi
      go_upto_region 12 with fail
      have b5 := below_box wr (.cells #[RK g4 g3] 106)
      have R5 := Blk.new wr 106 #[RK g4 g3] [RK g4 g3] rfl
      have O5 := O3.later b5
      have B5 := below_then b3 b5
      have hst := sorts (rkP zs node) (outP zs kernel i) w1.heap.size wr.heap.size u9 (fun W => KO W g4 g3 bz i c node zc zs ∧ Blk W wr.heap.size 106 [RK g4 g3]) _ O5 hlen ⟨KO.of (N4.later B5) (N3.later B5) (Q1.below B5), R5⟩ (fun ob hob => sk_of HG.out HN.out h0 h4 (by have := (World.ownsRow.lt O5 ob hob).1; omega))
      have HST := Lib.hid hst
      have HO5 := Lib.hid O5; have HB5 := Lib.hid B5
      have HF := Lib.hid (show ordP zs node kernel = isort (rkP zs node) (outP zs kernel i) by unfold ordP; rw [HN.out])
      clear hst O5 B5 R5 b5 O3 b3 N3 N4 c3 c4 hlen
      go_wp2_with fail
      refine HST.out.mono ?_
      rintro e w6 ⟨rfl, O6, hg6, _⟩
      have B6 : Below w.heap.size w w6 := (below_then B1 HB5.out).grown hg6 (below_then B1 HB5.out).size (fun k hk => Nat.le_trans B1.size (World.ownsRow.lt HO5.out k hk).1)
      have HS6 := Lib.hid O6.sl
      clear O6 hg6 HST HO5 HB5
      go_wp2
      go_ret2
      exact ⟨_, rfl, by rw [HF.out]; exact HS6.out, B6⟩
end Go.Proofs.Ytdddkfpcbfgocaa
namespace Go.Zn
open Go.Can
section
variable {a : A}
theorem VA.end_le (h : VA a) : ∀ {z y : Nat}, z < y → y < a.zs.length → (zn a z).st + (zn a z).ct ≤ (zn a y).st
  | z, 0, h1, _ => by omega
  | z, y + 1, h1, h2 => by
    have e := h.ss y h2
    by_cases e2 : z = y
    · subst e2; omega
    · have := h.end_le (z := z) (y := y) (by omega) (by omega)
      have := (h.vz y (by omega)).r.ct0
      omega
theorem VA.zdis (h : VA a) {z y : Nat} {x : Int} (hz : z < a.zs.length) (hy : y < a.zs.length) (h1 : inZ (zn a z) x) (h2 : inZ (zn a y) x) : z = y := by
  unfold inZ at h1 h2
  rcases Nat.lt_trichotomy z y with e | e | e
  · have := h.end_le e hy; omega
  · exact e
  · have := h.end_le e hz; omega
theorem VA.inr (h : VA a) {z : Nat} {x : Int} (hz : z < a.zs.length) (h1 : inZ (zn a z) x) : 0 ≤ x ∧ x < 256 := by
  unfold inZ at h1
  have := (h.vz z hz).r.st0; have := (h.vz z hz).r.ct1
  omega
theorem getD_of {α : Type} {l : List α} {i : Nat} {x d : α} (h : l[i]? = some x) : l.getD i d = x := by rw [List.getD_eq_getElem?_getD, h]; rfl
theorem lst_of {c z : Nat} {L : List (List Int)} {l : List Int} (h1 : a.cs[c]? = some L) (h2 : L[z]? = some l) : lst a c z = l := by
  unfold lst
  rw [getD_of h1, getD_of h2]
theorem zn_of {z : Nat} {y : Z} (h : a.zs[z]? = some y) : zn a z = y := getD_of h
theorem lt_of {α : Type} {l : List α} {i : Nat} {x : α} (h : l[i]? = some x) : i < l.length := by rw [List.getElem?_eq_some_iff] at h; exact h.1
theorem VA.cl (h : VA a) {c : Nat} {L : List (List Int)} (hL : a.cs[c]? = some L) : L.length = a.zs.length := by
  have := h.nl c (lt_of hL)
  rw [getD_of hL] at this
  exact this
theorem VA.at_ (h : VA a) {c z : Nat} {L : List (List Int)} {l : List Int} (hL : a.cs[c]? = some L) (hl : L[z]? = some l) : z < a.zs.length ∧ l.length ≤ a.hi ∧ l.Nodup ∧ ∀ x ∈ l, inZ (zn a z) x ∧ ¬ Cov (F (zn a z).fr) x := by
  have hc := lt_of hL
  have hz : z < a.zs.length := by rw [← h.cl hL]; exact lt_of hl
  have e := lst_of hL hl
  exact ⟨hz, by rw [← e]; exact h.le c z hc hz, by rw [← e]; exact h.nd c z hc hz, fun x hx => h.rg c z hc hz x (by rw [e]; exact hx)⟩
theorem mem_flat {L : List (List Int)} {x : Int} : x ∈ L.flatten ↔ ∃ (z : Nat) (l : List Int), L[z]? = some l ∧ x ∈ l := by
  rw [List.mem_flatten]
  constructor
  · rintro ⟨l, h1, h2⟩
    obtain ⟨z, hz⟩ := List.getElem?_of_mem h1
    exact ⟨z, l, hz, h2⟩
  · rintro ⟨z, l, h1, h2⟩
    exact ⟨l, List.mem_of_getElem? h1, h2⟩
/-- Lists of which no two meet, flattened. -/
theorem flat_nodup : ∀ {L : List (List Int)}, (∀ (z : Nat) (l : List Int), L[z]? = some l → l.Nodup) → (∀ (z y : Nat) (l m : List Int) (x : Int), L[z]? = some l → L[y]? = some m → x ∈ l → x ∈ m → z = y) → L.flatten.Nodup
  | [], _, _ => by simp
  | l :: r, h1, h2 => by
    rw [List.flatten_cons, List.nodup_append]
    refine ⟨h1 0 l rfl, flat_nodup (fun z m hz => h1 (z + 1) m hz) (fun z y m k x hz hy a b => by have := h2 (z + 1) (y + 1) m k x hz hy a b; omega), fun x hx y hy e => ?_⟩
    subst e
    obtain ⟨z, m, hz, hm⟩ := mem_flat.1 hy
    have := h2 0 (z + 1) l m x rfl hz hx hm
    omega
theorem VA.vc (h : VA a) {c : Nat} {L : List (List Int)} (hL : a.cs[c]? = some L) : VC L := by
  refine ⟨by rw [h.cl hL]; exact h.z1, by rw [h.cl hL]; exact h.z6, flat_nodup (fun z l hl => (h.at_ hL hl).2.2.1) (fun z y l m x hl hm hx hy => ?_), fun x hx => ?_⟩
  · obtain ⟨q1, _, _, q2⟩ := h.at_ hL hl
    obtain ⟨p1, _, _, p2⟩ := h.at_ hL hm
    exact h.zdis q1 p1 (q2 x hx).1 (p2 x hy).1
  · obtain ⟨z, l, hl, hxl⟩ := mem_flat.1 hx
    obtain ⟨q1, _, _, q2⟩ := h.at_ hL hl
    exact h.inr q1 (q2 x hxl).1
/-- The frames of all caches. -/
def allF (a : A) : List (List Int) := a.cs.map List.flatten
theorem allF_at {c : Nat} {L : List (List Int)} (h : a.cs[c]? = some L) : (allF a)[c]? = some L.flatten := by simp [allF, h]
theorem allF_inv {c : Nat} {m : List Int} (h : (allF a)[c]? = some m) : ∃ L, a.cs[c]? = some L ∧ m = L.flatten := by
  unfold allF at h
  rw [List.getElem?_map] at h
  cases hc : a.cs[c]? with
  | none => rw [hc] at h; cases h
  | some L => rw [hc] at h; exact ⟨L, rfl, (Option.some.inj h).symm⟩
theorem VA.all_nodup (h : VA a) : (allF a).flatten.Nodup := by
  refine flat_nodup (fun c m hm => ?_) (fun c d m k x hm hk hx hy => ?_)
  · obtain ⟨L, hL, rfl⟩ := allF_inv hm
    exact (h.vc hL).nd
  · obtain ⟨L, hL, rfl⟩ := allF_inv hm
    obtain ⟨M, hM, rfl⟩ := allF_inv hk
    obtain ⟨z, l, hl, hxl⟩ := mem_flat.1 hx
    obtain ⟨y, m, hm, hxm⟩ := mem_flat.1 hy
    obtain ⟨q1, _, _, q2⟩ := h.at_ hL hl
    obtain ⟨p1, _, _, p2⟩ := h.at_ hM hm
    obtain rfl := h.zdis q1 p1 (q2 x hxl).1 (p2 x hxm).1
    by_cases e : c = d
    · exact e
    · exact absurd (by rw [lst_of hM hm]; exact hxm) (h.ap c d z (lt_of hL) (lt_of hM) q1 e x (by rw [lst_of hL hl]; exact hxl))
/-- What the check has seen. -/
theorem VA.seen (h : VA a) {c z j : Nat} {L : List (List Int)} {l : List Int} {x : Int} (hL : a.cs[c]? = some L) (hl : L[z]? = some l) (hx : l[j]? = some x) :
    x ∉ ((allF a).take c).flatten ++ ((L.take z).flatten ++ l.take j) ∧ (((allF a).take c).flatten ++ ((L.take z).flatten ++ l.take j)).length < 256 := by
  obtain ⟨r, hr⟩ := flat_at hl hx
  obtain ⟨k, hk⟩ : ∃ k, ((L.take z).flatten ++ l.take j).length = k := ⟨_, rfl⟩
  have e1 : L.flatten[k]? = some x := by rw [hr, List.getElem?_append_right (by omega), hk, Nat.sub_self]; rfl
  have e2 : L.flatten.take k = (L.take z).flatten ++ l.take j := by rw [hr, List.take_append_of_le_length (by omega), List.take_of_length_le (by omega)]
  obtain ⟨s, hs⟩ := flat_at (allF_at hL) e1
  rw [e2] at hs
  have hn := h.all_nodup
  have hl2 : (allF a).flatten.length ≤ 256 := by
    have := nodup_len hn (cov_nodup (n := 256) (f := 0)) fun y hy => mem_cov.2 (by
      obtain ⟨d, m, hm, hym⟩ := mem_flat.1 hy
      obtain ⟨M, hM, rfl⟩ := allF_inv hm
      have := (h.vc hM).rg y hym
      omega)
    rw [cov_len] at this
    exact this
  rw [hs] at hn hl2
  refine ⟨fun hm => ?_, by rw [List.length_append] at hl2; simp only [List.length_cons] at hl2; omega⟩
  rw [List.nodup_append] at hn
  exact hn.2.2 x hm x (by simp) rfl
theorem all_take {c : Nat} {L : List (List Int)} (hL : a.cs[c]? = some L) : ((allF a).take (c + 1)).flatten = ((allF a).take c).flatten ++ L.flatten := flat_take (allF_at hL)
/-- The zone of a frame. -/
def zoneI : List Z → Int → Nat → Int
  | [], _, _ => -1
  | z :: r, x, i => if z.st ≤ x ∧ x < z.st + z.ct then (i : Int) else zoneI r x (i + 1)
theorem zoneI_in {x : Int} : ∀ {zs : List Z} {i k : Nat} {z : Z}, zs[k]? = some z → inZ z x → (∀ j y, j < k → zs[j]? = some y → ¬ inZ y x) → zoneI zs x i = ((i + k : Nat) : Int)
  | [], _, _, _, h, _, _ => by simp at h
  | y :: r, i, 0, z, h, h1, _ => by
    simp at h
    subst h
    unfold zoneI
    rw [if_pos (show y.st ≤ x ∧ x < y.st + y.ct from h1)]
    simp
  | y :: r, i, k + 1, z, h, h1, h2 => by
    unfold zoneI
    rw [if_neg (show ¬ (y.st ≤ x ∧ x < y.st + y.ct) from h2 0 y (by omega) rfl)]
    rw [zoneI_in (zs := r) (i := i + 1) (k := k) (z := z) (by simpa using h) h1 (fun j y' hj hy => h2 (j + 1) y' (by omega) (by simpa using hy))]
    congr 1
    omega
theorem zoneI_out {x : Int} : ∀ {zs : List Z} {i : Nat}, (∀ y ∈ zs, ¬ inZ y x) → zoneI zs x i = -1
  | [], _, _ => rfl
  | y :: r, i, h => by
    unfold zoneI
    rw [if_neg (show ¬ (y.st ≤ x ∧ x < y.st + y.ct) from h y (by simp)), zoneI_out fun y' hy => h y' (by simp [hy])]
theorem VA.zoneI (h : VA a) {z : Nat} {x : Int} (hz : z < a.zs.length) (hx : inZ (zn a z) x) : zoneI a.zs x 0 = z := by
  have e : a.zs[z]? = some (zn a z) := by unfold zn; rw [List.getD_eq_getElem?_getD, List.getElem?_eq_getElem hz]; rfl
  have := zoneI_in (i := 0) e hx (fun j y hj hy hc => by
    have := h.zdis (z := j) (y := z) (by omega) hz (by rw [zn_of hy]; exact hc) hx
    omega)
  rw [this]
  simp
theorem zoneI_no {x : Int} (h : ∀ z, z < a.zs.length → ¬ inZ (zn a z) x) : Zn.zoneI a.zs x 0 = -1 := by
  refine zoneI_out fun y hy => ?_
  obtain ⟨i, hi⟩ := List.getElem?_of_mem hy
  have := h i (lt_of hi)
  rw [zn_of hi] at this
  exact this
theorem zoneI_cases (h : VA a) (x : Int) : (∃ z, z < a.zs.length ∧ inZ (zn a z) x ∧ Zn.zoneI a.zs x 0 = z) ∨ ((∀ z, z < a.zs.length → ¬ inZ (zn a z) x) ∧ Zn.zoneI a.zs x 0 = -1) := by
  by_cases hc : ∃ z, z < a.zs.length ∧ inZ (zn a z) x
  · obtain ⟨z, h1, h2⟩ := hc
    exact .inl ⟨z, h1, h2, h.zoneI h1 h2⟩
  · have : ∀ z, z < a.zs.length → ¬ inZ (zn a z) x := fun z h1 h2 => hc ⟨z, h1, h2⟩
    exact .inr ⟨this, zoneI_no this⟩
/-- How many frames of a zone are free. -/
def sumC (cs : List (List (List Int))) (z : Nat) : Nat := (cs.flatMap fun L => L.getD z []).length
def cntA (a : A) (z : Nat) : Nat := cntN (zn a z).fr 5 + sumC a.cs z
theorem sumC_take {cs : List (List (List Int))} {z c : Nat} {L : List (List Int)} (h : cs[c]? = some L) : sumC (cs.take (c + 1)) z = sumC (cs.take c) z + (L.getD z []).length := by
  unfold sumC
  rw [List.take_add_one, h]
  simp
theorem cnt_fr (h : VA a) {z : Nat} (hz : z < a.zs.length) : cntA a z = nS (Fr a z) (zn a z).st (zn a z).ct.toNat := by
  unfold cntA sumC
  rw [← covN_len, ← List.length_append]
  have hmem : ∀ x, x ∈ (a.cs.flatMap fun L => L.getD z []) ↔ Ca a z x := fun x => by
    rw [List.mem_flatMap]
    constructor
    · rintro ⟨L, hL, hx⟩
      obtain ⟨c, hc⟩ := List.getElem?_of_mem hL
      exact ⟨c, lt_of hc, by unfold lst; rw [getD_of hc]; exact hx⟩
    · rintro ⟨c, hc, hx⟩
      have e : a.cs[c]? = some (a.cs.getD c []) := by rw [List.getD_eq_getElem?_getD, List.getElem?_eq_getElem hc]; rfl
      exact ⟨_, List.mem_of_getElem? e, hx⟩
  refine nS_of ?_ (fun x => ?_) (fun x hx => ?_)
  · rw [List.nodup_append]
    refine ⟨covN_nodup (h.vz z hz).l (Nat.le_refl _), ?_, fun x hx y hy e => ?_⟩
    · have : (a.cs.flatMap fun L => L.getD z []) = (a.cs.map fun L => L.getD z []).flatten := by rw [List.flatMap_def]
      rw [this]
      refine flat_nodup (fun c l hl => ?_) (fun c d l m x hl hm hx hy => ?_)
      · rw [List.getElem?_map] at hl
        cases hc : a.cs[c]? with
        | none => rw [hc] at hl; cases hl
        | some L =>
          rw [hc] at hl
          simp only [Option.map_some, Option.some.injEq] at hl
          have := h.nd c z (lt_of hc) hz
          unfold lst at this
          rw [getD_of hc, hl] at this
          exact this
      · rw [List.getElem?_map] at hl hm
        cases hc : a.cs[c]? with
        | none => rw [hc] at hl; cases hl
        | some L =>
          cases hd : a.cs[d]? with
          | none => rw [hd] at hm; cases hm
          | some M =>
            rw [hc] at hl
            rw [hd] at hm
            simp only [Option.map_some, Option.some.injEq] at hl hm
            by_cases e : c = d
            · exact e
            · have := h.ap c d z (lt_of hc) (lt_of hd) hz e x (by unfold lst; rw [getD_of hc, hl]; exact hx)
              unfold lst at this
              rw [getD_of hd, hm] at this
              exact absurd hy this
    · subst e
      obtain ⟨c, hc, hx2⟩ := (hmem x).1 hy
      exact (h.rg c z hc hz x hx2).2 (mem_cov5.1 hx)
  · rw [List.mem_append, mem_cov5, hmem]
    exact Iff.rfl
  · have := h.fr_in hz hx
    have := (h.vz z hz).r.ct0
    unfold inZ at *
    omega
theorem cntA_le (h : VA a) {z : Nat} (hz : z < a.zs.length) : cntA a z ≤ 256 := by
  rw [cnt_fr h hz]
  have h1 : nS (Fr a z) (zn a z).st (zn a z).ct.toNat ≤ (zn a z).ct.toNat := by
    unfold nS
    have := nodup_len (l := cset (Fr a z) (zn a z).st (zn a z).ct.toNat) (m := cov (zn a z).st (zn a z).ct.toNat) cset_nodup cov_nodup fun x hx => mem_cov.2 (mem_cset.1 hx).1
    rw [cov_len] at this
    exact this
  have := (h.vz z hz).r.ct1; have := (h.vz z hz).r.st0
  omega
end
end Go.Zn
namespace Go.Proofs.Ytdddkfpcbfgocaa
open Go.RowKit Go.Over Go.Zn Go.Can Go.Seg Go.Grow
/-- Caches in a block. -/
structure CV (w : World) (b : Nat) (cc : List Value) (cs : List (List (List Int))) : Prop where
  x : Blk w b 77 cc
  n : cs.length ≤ cc.length
  row : ∀ (c : Nat) (L : List (List Int)), cs[c]? = some L → ∃ v, cc[c]? = some v ∧ Lc w v L
theorem CV.below {w w' : World} {b : Nat} {cc : List Value} {cs : List (List (List Int))} (h : CV w b cc cs) (hb : Below w.heap.size w w') : CV w' b cc cs :=
  ⟨h.x.later hb, h.n, fun c L hL => by obtain ⟨v, h1, h2⟩ := h.row c L hL; exact ⟨v, h1, h2.below hb⟩⟩
/-- Where an allocator lies. -/
structure Sh where
  an : Option Addr
  nn : Nat
  cn : Nat
  bz : Nat
  nz : Nat
  cz : Nat
  bc : Nat
  nc : Nat
  cc : Nat
def Sh.cells (s : Sh) (bt hi : Nat) : List Value := [.slice s.an s.nn s.cn, .int .i64 bt, .int .i64 hi, .slice (some ⟨s.bz, 0, none⟩) s.nz s.cz, .slice (some ⟨s.bc, 0, none⟩) s.nc s.cc]
structure AW (w : World) (s : Sh) (zc ccs : List Value) (a : A) : Prop where
  en : a.nodes.length = s.nn
  ez : a.zs.length = s.nz
  ec : a.cs.length = s.nc
  nd : Sl w (.slice s.an s.nn s.cn) a.nodes
  q : QV w s.bz zc a.zs
  zl : s.nz ≤ s.cz
  zm : s.cz ≤ maxLen
  c : CV w s.bc ccs a.cs
  cl : s.nc ≤ s.cc
  cm : s.cc ≤ maxLen
theorem AW.below {w w' : World} {s : Sh} {zc ccs : List Value} {a : A} (h : AW w s zc ccs a) (hb : Below w.heap.size w w') : AW w' s zc ccs a :=
  ⟨h.en, h.ez, h.ec, h.nd.below hb, h.q.below hb, h.zl, h.zm, h.c.below hb, h.cl, h.cm⟩
/-- The value of an allocator. -/
def Ra (w : World) (v : Value) (a : A) : Prop := ∃ s zc ccs, v = .agg (s.cells a.bt a.hi).toArray ∧ AW w s zc ccs a
theorem Ra.below {w w' : World} {v : Value} {a : A} (h : Ra w v a) (hb : Below w.heap.size w w') : Ra w' v a := by
  obtain ⟨s, zc, ccs, h1, h2⟩ := h
  exact ⟨s, zc, ccs, h1, h2.below hb⟩
/-- A variable that holds an allocator, in a call that makes new memory alone. -/
structure AX (w : World) (g : Nat) (s : Sh) (zc ccs : List Value) (a : A) (W : World) : Prop where
  b : Below w.heap.size w W
  l : w.heap.size ≤ g
  x : Blk W g 32 (s.cells a.bt a.hi)
  v : AW W s zc ccs a
section
variable {w W W' : World} {g : Nat} {s : Sh} {zc ccs : List Value} {a : A}
theorem AX.below (h : AX w g s zc ccs a W) (hb : Below W.heap.size W W') : AX w g s zc ccs a W' := ⟨below_then h.b hb, h.l, h.x.later hb, h.v.below hb⟩
theorem AX.ra (h : AX w g s zc ccs a W) : Ra W (.agg (s.cells a.bt a.hi).toArray) a := ⟨s, zc, ccs, rfl, h.v⟩
theorem AX.c0 (h : AX w g s zc ccs a W) : W.cell? ⟨g, 0, none⟩ = some (.slice s.an s.nn s.cn) := by rw [h.x.cell]; rfl
theorem AX.c1 (h : AX w g s zc ccs a W) : W.cell? ⟨g, 1, none⟩ = some (.int .i64 a.bt) := by rw [h.x.cell]; rfl
theorem AX.c2 (h : AX w g s zc ccs a W) : W.cell? ⟨g, 2, none⟩ = some (.int .i64 a.hi) := by rw [h.x.cell]; rfl
theorem AX.c3 (h : AX w g s zc ccs a W) : W.cell? ⟨g, 3, none⟩ = some (.slice (some ⟨s.bz, 0, none⟩) s.nz s.cz) := by rw [h.x.cell]; rfl
theorem AX.c4 (h : AX w g s zc ccs a W) : W.cell? ⟨g, 4, none⟩ = some (.slice (some ⟨s.bc, 0, none⟩) s.nc s.cc) := by rw [h.x.cell]; rfl
theorem CV.past {b : Nat} {cc : List Value} {cs : List (List (List Int))} (h : CV W b cc cs) (hx : Blk W' b 77 cc) (hk : ∀ b bs, Blk W b 3 bs → Blk W' b 3 bs) (hi : ∀ b bs, Blk W b 28 bs → Blk W' b 28 bs) : CV W' b cc cs :=
  ⟨hx, h.n, fun c L hL => by
    obtain ⟨v, h1, b', c', bs, h2, h3, h4, h5⟩ := h.row c L hL
    exact ⟨v, h1, b', c', bs, h2, h3, h4, hi b' bs h5.x, h5.n, fun i l hl => by obtain ⟨u, q1, q2⟩ := h5.row i l hl; exact ⟨u, q1, q2.past hk⟩⟩⟩
theorem QV.past {b : Nat} {zc : List Value} {zs : List Z} (h : QV W b zc zs) (hx : Blk W' b 39 zc) (hk : ∀ b bs, Blk W b 3 bs → Blk W' b 3 bs) : QV W' b zc zs :=
  ⟨hx, h.n, fun i z hz => (h.row i z hz).past hk⟩
theorem AW.past (h : AW W s zc ccs a) (hx : Blk W' s.bz 39 zc) (hc : Blk W' s.bc 77 ccs) (hk : ∀ b bs, Blk W b 3 bs → Blk W' b 3 bs) (hi : ∀ b bs, Blk W b 28 bs → Blk W' b 28 bs) : AW W' s zc ccs a :=
  ⟨h.en, h.ez, h.ec, h.nd.past hk, h.q.past hx hk, h.zl, h.zm, h.c.past hc hk hi, h.cl, h.cm⟩
/-- A block that is new changes. -/
theorem AX.kept {t : Nat} {bs : List Value} (h0 : AX w g s zc ccs a W) (hg : (W.alloc (.cells bs.toArray t)).grownBy W' (some W.heap.size)) : AX w g s zc ccs a W' := by
  have b1 := below_box W (.cells bs.toArray t)
  have hb : Below W.heap.size W W' := b1.grown hg b1.size (fun k hk => by cases hk; exact Nat.le_refl _)
  exact h0.below hb
theorem AX.new (h : AW w s zc ccs a) : AX w w.heap.size s zc ccs a (w.alloc (.cells (s.cells a.bt a.hi).toArray 32)) := ⟨below_box _ _, Nat.le_refl _, Blk.new _ _ _ _ rfl, h.below (below_box _ _)⟩
end
theorem infoA : (Try.prog.info? 32).map (·.size) = some 5 := by kernel_rfl
section
variable {ops : Array Oper} {rest : List Oper} {d i : Nat} {ty : TypeId} {pos : String} {af : Array Edge} {a : Act} {w : World} {Q : Exit → Act → World → Prop} {g bt hi : Nat} {s : Sh}
/-- An allocator is loaded whole. -/
theorem lda (hx : a.eval (.tmp i) = .pointer (some ⟨g, 0, none⟩)) (hB : Blk w g 32 (s.cells bt hi)) (h : wpList Try.prog ops Q rest (a.put (some d) (.agg (s.cells bt hi).toArray)) w) :
    wpList Try.prog ops Q ({ dst := some d, op := .load 32 (.tmp i), type := ty, pos := pos, after := af, guard := none } :: rest) a w :=
  wpList_load_row rfl 32 (.tmp i) rfl g hx 32 (s.cells bt hi).toArray (0, 0) _ hB Try.underlying32 rfl (by rw [infoA]; rfl) h
end
set_option maxRecDepth 100000 in set_option maxHeartbeats 3200000 in
theorem inzone (v : Value) (z : Z) (x : Int) (g : Nat) (w : World) (H : Rz w v z) (hr : Rng z) (hx : Blk w g 3 [.int .i64 x]) : Calls Try.prog 65 #[v, .pointer (some ⟨g, 0, none⟩)] w fun e w' => e = .returned (.bool (decide (z.st ≤ x ∧ x < z.st + z.ct))) ∧ Below w.heap.size w w' := by
  obtain ⟨cs, rfl, hV⟩ := H
  have X0 := ZX.new hV
  have cx := (hx.later (below_box w (.cells cs.toArray 39))).cell 0
  have r1 := hr.st0; have r2 := hr.ct0; have r3 := hr.ct1
  simp only [List.getElem?_cons_zero] at cx
  clear hV hr hx
  go_enter Try.func65, Try.ntmps65
  go_upto_region 1 with fail
  obtain ⟨w1, hw1⟩ : ∃ W, W = w.alloc (.cells cs.toArray 39) := ⟨_, rfl⟩
  rw [← hw1] at X0 cx ⊢
  obtain ⟨g2, hg0⟩ : ∃ g, w.heap.size = g := ⟨_, rfl⟩
  have q2 := X0.v.c2 X0.x
  have q3 := X0.v.c3 X0.x
  have hb := X0.b
  rw [hg0] at q2 q3 ⊢
  clear hw1 X0 hg0
  by_cases h1 : z.st ≤ x
  · have t1 : decide (z.st ≤ x) = true := decide_eq_true h1
    go_wp2
    go_ret
    refine ⟨ret_bool ?_, hb⟩
    rw [Bool.eq_iff_iff]
    simp [h1]
  · have t1 : decide (z.st ≤ x) = false := decide_eq_false h1
    go_wp2
    go_ret
    refine ⟨ret_bool ?_, hb⟩
    rw [Bool.eq_iff_iff]
theorem zoneI_drop {zs : List Z} {x : Int} {i : Nat} {z : Z} (h : zs[i]? = some z) : zoneI (zs.drop i) x i = if z.st ≤ x ∧ x < z.st + z.ct then (i : Int) else zoneI (zs.drop (i + 1)) x (i + 1) := by
  rw [drop_get h]
  rfl
set_option maxRecDepth 100000 in set_option maxHeartbeats 3200000 in
theorem idxZ (bz n c : Nat) (zc : List Value) (zs : List Z) (x : Int) (g : Nat) (w : World) (H : QV w bz zc zs) (hn : zs.length = n) (hn6 : n ≤ 6) (hr : ∀ z ∈ zs, Rng z) (hx : Blk w g 3 [.int .i64 x]) :
    Calls Try.prog 64 #[.slice (some ⟨bz, 0, none⟩) n c, .func (.func 65) #[] #[.pointer (some ⟨g, 0, none⟩)]] w fun e w' => e = .returned (.int .i64 (zoneI zs x 0)) ∧ Below w.heap.size w w' := by
  have HN := Lib.hid hn; have HR := Lib.hid hr; have HX := Lib.hid hx; have HQ := Lib.hid H
  have H0 := Lib.hid (show zoneI zs x 0 = zoneI (zs.drop 0) x 0 from rfl)
  clear hn hr hx H
  go_enter Try.func64, Try.ntmps64
  go_wp2
  go_loopg [8] n (fun gg v8 wr => ∃ i : Nat, i + gg = n ∧ v8 = .int .i64 i ∧ Below w.heap.size w wr ∧ zoneI zs x 0 = zoneI (zs.drop i) x i)
  case atStart => exact ⟨0, by omega, rfl, Below.refl _ _, rfl⟩
  case round =>
    clear H0
    obtain ⟨i, hi, rfl, B1, hz0⟩ := hrel
    have HZ0 := Lib.hid hz0
    clear hz0
    cases gk with
    | zero =>
      have hin : ¬ i < n := by omega
      have HE := Lib.hid (show zoneI zs x 0 = -1 by rw [HZ0.out, List.drop_eq_nil_of_le (by rw [HN.out]; omega)]; rfl)
      clear hi
      go_wp2
      go_ret
      exact ⟨ret_int (by rw [HE.out]), B1⟩
    | succ gg =>
      have hin : i < n := by omega
      have HI := Lib.hid hi
      obtain ⟨z, hz⟩ := get_some HN.out hin
      have Q1 := HQ.out.below B1
      have hC := inzone (.agg (seg zc (i * 10) 10).toArray) z x g wr ⟨_, rfl, Q1.row i z hz⟩ (HR.out z (List.mem_of_getElem? hz)) (HX.out.later B1)
      obtain ⟨b, hb⟩ : ∃ b, decide (z.st ≤ x ∧ x < z.st + z.ct) = b := ⟨_, rfl⟩
      have hd := zoneI_drop (x := x) hz
      rw [hb] at hC
      have HC := Lib.hid hC; have HZ := Lib.hid hz; have HB := Lib.hid hb; have HD := Lib.hid hd
      clear hi hz hC hb hd
      go_wp2_with ((with_reducible refine ldq ?_ Q1 HZ.out ?_); (focus rfl))
      refine HC.out.mono ?_
      rintro e w2 ⟨rfl, b2⟩
      have B2 := below_then B1 b2
      clear Q1 B1 b2
      cases b with
      | true =>
        have HE := Lib.hid (show zoneI zs x 0 = (i : Int) by rw [HZ0.out, HD.out, if_pos (of_decide_eq_true HB.out)])
        go_wp2
        go_ret
        exact ⟨ret_int (by rw [HE.out]), B2⟩
      | false =>
        have HE := Lib.hid (show zoneI zs x 0 = zoneI (zs.drop (i + 1)) x (i + 1) by rw [HZ0.out, HD.out, if_neg (of_decide_eq_false HB.out)])
        go_wp2
        go_roundg gg
        case rel => exact ⟨i + 1, by have := HI.out; omega, by go_num, B2, HE.out⟩
        case measure => omega
set_option maxRecDepth 100000 in set_option maxHeartbeats 3200000 in
theorem nodeok (x : Int) (w : World) (h0 : 0 ≤ x) (h4 : x < 4) : Calls Try.prog 59 #[.int .i64 x] w fun e w' => e = .returned (.bool false) ∧ w = w' := by
  go_enter Try.func59, Try.ntmps59
  go_wp2
  go_ret
  exact ⟨ret_bool (by simp; omega), rfl⟩
set_option maxRecDepth 100000 in set_option maxHeartbeats 3200000 in
theorem idxN (v : Value) (l : List Int) (w : World) (H : Sl w v l) (hl : l.length ≤ 4) (hr : ∀ x ∈ l, 0 ≤ x ∧ x < 4) : Calls Try.prog 72 #[v, .func (.func 59) #[] #[]] w fun e w' => e = .returned (.int .i64 (-1)) ∧ w = w' := by
  obtain ⟨a, c, rfl, h1, h2, h3, hI⟩ := H
  obtain ⟨n, hn⟩ : ∃ n, l.length = n := ⟨_, rfl⟩
  rw [hn] at h1 hl ⊢
  have HN := Lib.hid hn; have HR := Lib.hid hr
  clear hn hr h1 h2 h3
  go_enter Try.func72, Try.ntmps72
  go_wp2
  go_loopg [8] n (fun gg v8 wr => ∃ i : Nat, i + gg = n ∧ v8 = .int .i64 i ∧ w = wr)
  case atStart => exact ⟨0, by omega, rfl, rfl⟩
  case round =>
    obtain ⟨i, hi, rfl, rfl⟩ := hrel
    cases gk with
    | zero =>
      have hin : ¬ i < n := by omega
      clear hi
      go_wp2
      go_ret
      exact ⟨rfl, rfl⟩
    | succ gg =>
      have hin : i < n := by omega
      have HI := Lib.hid hi
      obtain ⟨x, hx⟩ := get_some HN.out hin
      obtain ⟨q1, q2⟩ := HR.out x (List.mem_of_getElem? hx)
      obtain ⟨b, off, rfl, cx⟩ := hI.at hx
      clear hi hx
      go_wp2_with fail
      refine (nodeok x w q1 q2).mono ?_
      rintro e w2 ⟨rfl, rfl⟩
      go_wp2
      go_roundg gg
      case rel => exact ⟨i + 1, by have := HI.out; omega, by go_num, rfl⟩
      case measure => omega
set_option maxRecDepth 100000 in set_option maxHeartbeats 3200000 in
theorem anyN (v : Value) (l : List Int) (w : World) (H : Sl w v l) (hl : l.length ≤ 4) (hr : ∀ x ∈ l, 0 ≤ x ∧ x < 4) : Calls Try.prog 58 #[v, .func (.func 59) #[] #[]] w fun e w' => e = .returned (.bool false) ∧ w = w' := by
  have HC := Lib.hid (idxN v l w H hl hr)
  clear H hl hr
  go_enter Try.func58, Try.ntmps58
  go_wp2_with fail
  refine HC.out.mono ?_
  rintro e w2 ⟨rfl, rfl⟩
  go_wp2
  go_ret
  exact ⟨rfl, rfl⟩
/-- The parameters of a machine, and as many zones as there may be. -/
structure MG (a : A) : Prop where
  n0 : 1 ≤ a.nodes.length
  n4 : a.nodes.length ≤ 4
  nr : ∀ x ∈ a.nodes, 0 ≤ x ∧ x < 4
  b1 : 1 ≤ a.bt
  bh : a.bt ≤ a.hi
  h64 : a.hi ≤ 64
  z1 : 1 ≤ a.zs.length
  z6 : a.zs.length ≤ 6
theorem _root_.Go.Zn.VA.mg {a : A} (h : VA a) : MG a := ⟨h.n0, h.n4, h.nr, h.b1, h.bh, h.h64, h.z1, h.z6⟩
set_option maxRecDepth 100000 in set_option maxHeartbeats 3200000 in
theorem machineOk (vn : Value) (nodes : List Int) (bt hi : Nat) (bz nz cz : Nat) (v4 : Value) (w : World) (hn : Sl w vn nodes) (n0 : 1 ≤ nodes.length) (n4 : nodes.length ≤ 4) (nr : ∀ x ∈ nodes, 0 ≤ x ∧ x < 4) (b1 : 1 ≤ bt) (bh : bt ≤ hi) (h64 : hi ≤ 64) (z1 : 1 ≤ nz) (z6 : nz ≤ 6) :
    Calls Try.prog 27 #[.agg #[vn, .int .i64 bt, .int .i64 hi, .slice (some ⟨bz, 0, none⟩) nz cz, v4]] w fun e w' => e = .returned (.bool true) ∧ Below w.heap.size w w' := by
  obtain ⟨an, cn, rfl, _⟩ := id hn
  obtain ⟨nn, hnn⟩ : ∃ n, nodes.length = n := ⟨_, rfl⟩
  rw [hnn] at hn n0 ⊢
  have b1' := below_box w (.cells #[.slice an nn cn, .int .i64 bt, .int .i64 hi, .slice (some ⟨bz, 0, none⟩) nz cz, v4] 32)
  have hB := Blk.new w 32 #[.slice an nn cn, .int .i64 bt, .int .i64 hi, .slice (some ⟨bz, 0, none⟩) nz cz, v4] _ rfl
  have HC := Lib.hid (anyN (.slice an nn cn) nodes _ (hn.below b1') n4 nr)
  rw [hnn] at n4
  clear hn nr hnn
  go_enter Try.func27, Try.ntmps27
  go_upto_region 1 with fail
  obtain ⟨w1, hw1⟩ : ∃ W, W = w.alloc (.cells #[.slice an nn cn, .int .i64 bt, .int .i64 hi, .slice (some ⟨bz, 0, none⟩) nz cz, v4] 32) := ⟨_, rfl⟩
  rw [← hw1] at b1' hB HC ⊢
  obtain ⟨g, hg0⟩ : ∃ g, w.heap.size = g := ⟨_, rfl⟩
  rw [hg0] at hB ⊢
  have c0 := hB.cell 0; have c1 := hB.cell 1; have c2 := hB.cell 2; have c3 := hB.cell 3
  simp only [List.getElem?_cons_zero, List.getElem?_cons_succ] at c0 c1 c2 c3
  clear hw1 hg0 hB
  have t1 : decide (nn < 1) = false := by simp; omega
  have t2 : decide (4 < nn) = false := by simp; omega
  have t3 : decide ((64 : Int) < (hi : Int)) = false := by simp; omega
  have t4 : decide ((bt : Int) < 1) = false := by simp; omega
  have t5 : decide ((hi : Int) < (bt : Int)) = false := by simp; omega
  have t6 : decide ((nz : Int) < 1) = false := by simp; omega
  have t7 : decide ((6 : Int) < (nz : Int)) = false := by simp; omega
  have t8 : decide ((nn : Int) < 1) = false := by simp; omega
  have t9 : decide ((4 : Int) < (nn : Int)) = false := by simp; omega
  clear t1 t2
  go_wp2_with fail
  refine HC.out.mono ?_
  rintro e w2 ⟨rfl, rfl⟩
  go_wp2
  go_ret
  exact ⟨rfl, b1'⟩
end Go.Proofs.Ytdddkfpcbfgocaa
namespace Go.Proofs.Ytdddkfpcbfgocaa
open Go.RowKit Go.Over Go.Zn Go.Can Go.Seg Go.Grow
section
variable {ops : Array Oper} {rest : List Oper} {d i : Nat} {ty : TypeId} {pos : String} {af : Array Edge} {a : Act} {w : World} {Q : Exit → Act → World → Prop} {b k : Nat} {zc : List Value} {zs : List Z} {z : Z}
/-- A zone is loaded out of a row, behind a guard. -/
theorem ldqg {gd : Nat × Bool} (hw : Region.wanted { dst := some d, op := .load 39 (.tmp i), type := ty, pos := pos, after := af, guard := some gd } (yielded ops a.tmps) = true) (hx : a.eval (.tmp i) = .pointer (some ⟨b, k * 10, none⟩)) (h : QV w b zc zs) (hz : zs[k]? = some z)
    (hK : wpList Try.prog ops Q rest (a.put (some d) (.agg (seg zc (k * 10) 10).toArray)) w) :
    wpList Try.prog ops Q ({ dst := some d, op := .load 39 (.tmp i), type := ty, pos := pos, after := af, guard := some gd } :: rest) a w :=
  wpList_load_part_g Try.underlying39 rfl (by rw [infoZ, (h.row k z hz).len]) hw hx h.x (h.get hz) hK
end
theorem AX.mapped {w W W' : World} {g m : Nat} {s : Sh} {zc ccs : List Value} {a : A} {l : List Int} (h : AX w g s zc ccs a W) (hm : Ms W m l) (hl : w.heap.size ≤ m) (hg : W.grownBy W' (some m)) : AX w g s zc ccs a W' := by
  have kp : ∀ {q t : Nat} {bs : List Value}, Blk W q t bs → Blk W' q t bs := fun hq => hq.grown hg (by simpa using hm.ne hq)
  exact ⟨h.b.grown hg h.b.size (fun k hk => by cases hk; exact hl), h.l, kp h.x, h.v.past (kp h.v.q.x) (kp h.v.c.x) (fun _ _ => kp) (fun _ _ => kp)⟩
theorem Lc.mapped {W W' : World} {m : Nat} {v : Value} {L : List (List Int)} {l : List Int} (h : Lc W v L) (hm : Ms W m l) (hg : W.grownBy W' (some m)) : Lc W' v L := by
  obtain ⟨b, c, bs, h1, h2, h3, h4⟩ := h
  exact ⟨b, c, bs, h1, h2, h3, h4.kept hg hm⟩
set_option maxRecDepth 100000 in set_option maxHeartbeats 3200000 in
theorem zoneof (v : Value) (a : A) (x : Int) (w : World) (H : Ra w v a) (hr : ∀ z ∈ a.zs, Rng z) (h6 : a.zs.length ≤ 6) : Calls Try.prog 33 #[v, .int .i64 x] w fun e w' => e = .returned (.int .i64 (zoneI a.zs x 0)) ∧ Below w.heap.size w w' := by
  obtain ⟨s, zc, ccs, rfl, hV⟩ := H
  have X0 := (AX.new hV).below (below_box _ (.cells #[.int .i64 x] 3))
  have hs : (w.alloc (.cells (s.cells a.bt a.hi).toArray 32)).heap.size = w.heap.size + 1 := by simp
  have N0 := Blk.new (w.alloc (.cells (s.cells a.bt a.hi).toArray 32)) 3 #[.int .i64 x] [.int .i64 x] rfl
  rw [hs] at N0
  rw [hV.ez] at h6
  have HR := Lib.hid hr
  clear hV hs hr
  go_enter Try.func33, Try.ntmps33
  go_upto_region 1 with fail
  obtain ⟨w1, hw1⟩ : ∃ W, W = (w.alloc (.cells (s.cells a.bt a.hi).toArray 32)).alloc (.cells #[.int .i64 x] 3) := ⟨_, rfl⟩
  rw [← hw1] at X0 N0 ⊢
  obtain ⟨g3, hg3⟩ : ∃ g, w.heap.size + 1 = g := ⟨_, rfl⟩
  rw [hg3] at N0 ⊢
  obtain ⟨g, hg0⟩ : ∃ g, w.heap.size = g := ⟨_, rfl⟩
  have X1 : AX w g s zc ccs a w1 := by rw [← hg0]; exact X0
  rw [hg0]
  clear hw1 X0 hg0 hg3
  have c3 := X1.c3
  have HC := Lib.hid (idxZ s.bz s.nz s.cz zc a.zs x g3 w1 X1.v.q X1.v.ez h6 HR.out N0)
  have hb := X1.b
  clear X1 N0
  go_wp2_with fail
  refine HC.out.mono ?_
  rintro e w2 ⟨rfl, b2⟩
  have hb2 := below_then hb b2
  go_wp2
  go_ret
  exact ⟨rfl, hb2⟩
set_option maxRecDepth 100000 in set_option maxHeartbeats 3200000 in
theorem acheck (v : Value) (a : A) (w : World) (H : Ra w v a) (hV : VA a) : Calls Try.prog 16 #[v] w fun e w' => e = .returned (.int .i64 0) ∧ Below w.heap.size w w' := by
  have HV := Lib.hid hV
  clear hV
  obtain ⟨s, zc, ccs, rfl, hV⟩ := H
  have X0 := AX.new hV
  clear hV
  go_enter Try.func16, Try.ntmps16
  go_upto_region 1 with fail
  obtain ⟨w1, hw1⟩ : ∃ W, W = w.alloc (.cells (s.cells a.bt a.hi).toArray 32) := ⟨_, rfl⟩
  have X1 : AX w w.heap.size s zc ccs a w1 := by rw [hw1]; exact X0
  rw [← hw1]
  obtain ⟨g, hg0⟩ : ∃ g, w.heap.size = g := ⟨_, rfl⟩
  rw [hg0] at X1 ⊢
  clear hw1 X0 hg0
  have HMA := Lib.hid (fun W (h : AW W s zc ccs a) => machineOk (.slice s.an s.nn s.cn) a.nodes a.bt a.hi s.bz s.nz s.cz (.slice (some ⟨s.bc, 0, none⟩) s.nc s.cc) W h.nd HV.out.n0 HV.out.n4 HV.out.nr HV.out.b1 HV.out.bh HV.out.h64 (by rw [← h.ez]; exact HV.out.z1) (by rw [← h.ez]; exact HV.out.z6))
  have HN := Lib.hid X1.v.ez
  have z6 : s.nz ≤ 6 := by rw [← X1.v.ez]; exact HV.out.z6
  have z1 : 1 ≤ s.nz := by rw [← X1.v.ez]; exact HV.out.z1
  go_wp2_with ((with_reducible refine lda ?_ X1.x ?_); (focus rfl))
  refine (HMA.out _ X1.v).mono ?_
  rintro e w2 ⟨rfl, b2⟩
  have X2 := X1.below b2
  have c3 := X2.c3
  clear X1 b2 HMA
  go_wp2
  go_loopg [25, 3] s.nz (fun gg v25 v3 wr => ∃ (i : Nat) (E : Int), i + gg = s.nz ∧ v25 = .int .i64 i ∧ v3 = .int .i64 E ∧ 0 ≤ E ∧ E ≤ 256 ∧ (i < s.nz → E = (zn a i).st) ∧ AX w g s zc ccs a wr)
  case atStart => exact ⟨0, 0, by omega, rfl, rfl, by omega, by omega, fun _ => HV.out.s0.symm, X2⟩
  case round =>
    clear X2 c3
    obtain ⟨i, E, hi, rfl, rfl, hE0, hE1, hE, X3⟩ := hrel
    cases gk with
    | succ gg =>
      have hin : i < s.nz := by omega
      have HI := Lib.hid hi
      obtain ⟨z, hz⟩ := get_some HN.out hin
      have hzn := zn_of hz
      have hvz : VZ z := by have := HV.out.vz i (by rw [HN.out]; exact hin); rw [hzn] at this; exact this
      have hE' := hE hin
      rw [hzn] at hE'
      have hnx : i + 1 < s.nz → (zn a (i + 1)).st = z.st + z.ct := fun h => by have := HV.out.ss i (by rw [HN.out]; exact h); rw [hzn] at this; exact this
      have HNX := Lib.hid hnx
      have Q3 := X3.v.q
      have hZ := Q3.row i z hz
      have h1c := hZ.one
      have hzl := hZ.len
      have hz2 := Blk.new wr 39 #[.int .i64 0, .int .i64 0, .int .i64 0, .int .i64 0, .int .i64 0, .slice none 0 0, .slice none 0 0, .slice none 0 0, .slice none 0 0, .slice none 0 0] zP rfl
      have hsz := X3.b.size
      have HZV := Lib.hid (hZ.below (below_box wr (.cells #[.int .i64 0, .int .i64 0, .int .i64 0, .int .i64 0, .int .i64 0, .slice none 0 0, .slice none 0 0, .slice none 0 0, .slice none 0 0, .slice none 0 0] 39))); have HZ := Lib.hid hz; have HVZ := Lib.hid hvz
      have r1 := hvz.r.st0; have r2 := hvz.r.ct0; have r3 := hvz.r.ct1
      clear hi hz hZ hE hzn hvz hnx
      go_upto_region 7 with first | ((with_reducible refine ldq ?_ Q3 HZ.out ?_); (focus rfl)) | ((with_reducible refine stZ (cs := seg zc (i * 10) 10) ?_ ?_ hz2 zP_len hzl h1c ?_); (focus rfl); (focus rfl); intro w5 hB5 hg5)
      have X5 : AX w g s zc ccs a w5 := X3.kept (bs := zP) hg5
      have HZ5 := Lib.hid (show ZV w5 (seg zc (i * 10) 10) z from HZV.out.past fun b bs hb => hb.grown hg5 (by simpa using Ne.symm (hb.ne_type hz2 (by decide))))
      clear X3 hz2 h1c hg5 Q3 HZV
      go_wp2_with ((with_reducible refine ld ?_ hB5 hzl ?_); (focus rfl))
      refine (check _ z w5 ⟨_, rfl, HZ5.out⟩ HVZ.out).mono ?_
      rintro e w6 ⟨rfl, b6⟩
      have X6 := X5.below b6
      have hB6 := hB5.later b6
      have q2 : w6.cell? ⟨wr.heap.size, 2, none⟩ = some (.int .i64 z.st) := by rw [hB6.cell]; exact HZ5.out.st
      have q3 : w6.cell? ⟨wr.heap.size, 3, none⟩ = some (.int .i64 z.ct) := by rw [hB6.cell]; exact HZ5.out.ct
      clear X5 hB5 b6 hB6 hzl
      subst hE'
      go_wp2
      go_roundg gg
      case rel => exact ⟨i + 1, z.st + z.ct, by have := HI.out; omega, by go_num, by go_num, by omega, by omega, fun h => (HNX.out h).symm, X6⟩
      case measure => omega
    | zero =>
      have hin : ¬ i < s.nz := by omega
      have hcn : s.nc = s.nn := by rw [← X3.v.ec, ← X3.v.en]; exact HV.out.nc
      have c0 := X3.c0
      have c4 := X3.c4
      rw [← hcn] at c0
      have HC := Lib.hid X3.v.ec
      have hnc4 : s.nc ≤ 4 := by rw [hcn, ← X3.v.en]; exact HV.out.n4
      clear hi hE hE0 hE1 hcn
      go_wp2
      go_loopg [53] s.nc (fun gg v53 wr => ∃ c : Nat, c + gg = s.nc ∧ v53 = .int .i64 c ∧ AX w g s zc ccs a wr)
      case atStart => exact ⟨0, by omega, rfl, X3⟩
      case round =>
        clear X3 c0 c4 hin
        obtain ⟨c, hc, rfl, X4⟩ := hrel
        cases gk with
        | succ gg =>
          have hcl : c < s.nc := by omega
          have HI := Lib.hid hc
          obtain ⟨L, hL⟩ := get_some HC.out hcl
          obtain ⟨v, hv, hLc⟩ := X4.v.c.row c L hL
          obtain ⟨b, cap, hvf, q1, q2⟩ := hLc.form
          have hvc := HV.out.vc hL
          have hLn : L.length = s.nz := by rw [HV.out.cl hL]; exact HN.out
          have dv : wr.cell? ⟨s.bc, c, none⟩ = some v := by rw [X4.v.c.x.cell]; exact hv
          rw [hLn] at hvf q1
          subst hvf
          have hpc := fun W (h : Lc W (.slice (some ⟨b, 0, none⟩) s.nz cap) L) => pcheck (.agg #[.slice (some ⟨b, 0, none⟩) s.nz cap]) L W ⟨_, rfl, h⟩ hvc
          rw [hLn] at hpc
          have HPC := Lib.hid hpc; have HLN := Lib.hid hLn; have HL := Lib.hid hL; have HLC := Lib.hid hLc
          have bN := below_box wr (.cells #[.slice (some ⟨b, 0, none⟩) s.nz cap] 77)
          have c4 := X4.c4
          clear hc hL hv hLc hLn hpc hvc
          go_upto_region 19 with fail
          have X5 := X4.below bN
          have L5 := HLC.out.below bN
          have d8 := (Blk.new wr 77 #[.slice (some ⟨b, 0, none⟩) s.nz cap] [.slice (some ⟨b, 0, none⟩) s.nz cap] rfl).cell 0
          simp only [List.getElem?_cons_zero] at d8
          obtain ⟨w5, hw5⟩ : ∃ W, W = wr.alloc (.cells #[.slice (some ⟨b, 0, none⟩) s.nz cap] 77) := ⟨_, rfl⟩
          obtain ⟨g8, hg8⟩ : ∃ g, wr.heap.size = g := ⟨_, rfl⟩
          rw [← hw5, hg8] at d8
          rw [← hw5] at X5 L5
          rw [hg8, ← hw5]
          clear hw5 hg8 bN X4 c4 dv HLC
          have c3 := X5.c3
          have HC5 := Lib.hid (HPC.out w5 L5)
          have HL5 := Lib.hid L5
          clear L5 HPC
          go_wp2_with fail
          refine HC5.out.mono ?_
          rintro e w6 ⟨rfl, b6⟩
          have X6 := X5.below b6
          have d8 := cell_later b6 d8
          have HL6 := Lib.hid (HL5.out.below b6)
          clear X5 b6 c3 HC5 HL5
          go_wp2
          go_loopg [68] s.nz (fun g2 v68 wj => ∃ z : Nat, z + g2 = s.nz ∧ v68 = .int .i64 z ∧ w6 = wj)
          case atStart => exact ⟨0, by omega, rfl, rfl⟩
          case round =>
            obtain ⟨z, hz, rfl, rfl⟩ := hrel
            cases gk with
            | succ g2 =>
              have hzl : z < s.nz := by omega
              have HZ := Lib.hid hz
              obtain ⟨l, hl⟩ := get_some HLN.out hzl
              obtain ⟨al, m, cl, dl, hm, _⟩ := HL6.out.at hl
              have hm2 := (HV.out.at_ HL.out hl).2.1
              rw [hm] at hm2
              have c2 := X6.c2
              have tm : decide (((a.hi : Nat) : Int) < (m : Int)) = false := by simp; omega
              clear hz hl hm
              go_wp2
              go_roundg g2
              case rel => exact ⟨z + 1, by have := HZ.out; omega, by go_num, rfl⟩
              case measure => omega
            | zero =>
              have hzl : ¬ z < s.nz := by omega
              clear hz
              go_wp2
              go_roundg gg
              case rel => exact ⟨c + 1, by have := HI.out; omega, by go_num, X6⟩
              case measure => omega
        | zero =>
          have hcl : ¬ c < s.nc := by omega
          clear hc
          have hmk := fun W => run_makeMap (P := Try.prog) 94 W
          have c4 := X4.c4
          go_upto_region 30 with fail
          have bN := below_box wr (.map #[] 0)
          have X5 := X4.below bN
          have M5 : Ms (wr.alloc (.map #[] 0)) wr.heap.size (((allF a).take 0).flatten) := MapS.made _ _ _ _
          have hlm : w.heap.size ≤ wr.heap.size := X4.b.size
          obtain ⟨w5, hw5⟩ : ∃ W, W = wr.alloc (.map #[] 0) := ⟨_, rfl⟩
          obtain ⟨m, hm⟩ : ∃ g, wr.heap.size = g := ⟨_, rfl⟩
          rw [← hw5] at X5 M5
          rw [hm] at M5 hlm
          rw [hm, ← hw5]
          clear hw5 hm bN X4 c4 hcl hmk
          have c4 := X5.c4
          go_wp2
          go_loopg [83] s.nc (fun gg v83 wr => ∃ c : Nat, c + gg = s.nc ∧ v83 = .int .i64 c ∧ AX w g s zc ccs a wr ∧ Ms wr m (((allF a).take c).flatten))
          case atStart => exact ⟨0, by omega, rfl, X5, M5⟩
          case round =>
            clear X5 M5 c4
            obtain ⟨c, hc, rfl, X6, M6⟩ := hrel
            cases gk with
            | zero =>
              have hcl : ¬ c < s.nc := by omega
              clear hc
              go_wp2
              go_ret
              exact ⟨rfl, X6.b⟩
            | succ gg =>
              have hcl : c < s.nc := by omega
              have HI := Lib.hid hc
              obtain ⟨L, hL⟩ := get_some HC.out hcl
              obtain ⟨v, hv, hLc⟩ := X6.v.c.row c L hL
              obtain ⟨b, cap, hvf, q1, q2⟩ := hLc.form
              have hLn : L.length = s.nz := by rw [HV.out.cl hL]; exact HN.out
              have dv : wr.cell? ⟨s.bc, c, none⟩ = some v := by rw [X6.v.c.x.cell]; exact hv
              rw [hLn] at hvf q1
              subst hvf
              have HLN := Lib.hid hLn; have HL := Lib.hid hL
              have bN := below_box wr (.cells #[.slice (some ⟨b, 0, none⟩) s.nz cap] 77)
              have c4 := X6.c4
              have X7 := X6.below bN
              have M7 : Ms (wr.alloc (.cells #[.slice (some ⟨b, 0, none⟩) s.nz cap] 77)) m (((allF a).take c).flatten ++ (L.take 0).flatten) := by simpa using M6.later bN
              have L7 := hLc.below bN
              have d8 := (Blk.new wr 77 #[.slice (some ⟨b, 0, none⟩) s.nz cap] [.slice (some ⟨b, 0, none⟩) s.nz cap] rfl).cell 0
              simp only [List.getElem?_cons_zero] at d8
              clear hc hL hv hLc hLn X6 M6
              go_upto_region 33 with fail
              obtain ⟨w7, hw7⟩ : ∃ W, W = wr.alloc (.cells #[.slice (some ⟨b, 0, none⟩) s.nz cap] 77) := ⟨_, rfl⟩
              rw [← hw7] at d8 X7 M7 L7 ⊢
              obtain ⟨g8, hg8⟩ : ∃ g, wr.heap.size = g := ⟨_, rfl⟩
              rw [hg8] at d8 ⊢
              clear hw7 hg8 bN c4 dv
              go_wp2
              go_loopg [90] s.nz (fun g2 v90 wj => ∃ z : Nat, z + g2 = s.nz ∧ v90 = .int .i64 z ∧ AX w g s zc ccs a wj ∧ Lc wj (.slice (some ⟨b, 0, none⟩) s.nz cap) L ∧ Ms wj m (((allF a).take c).flatten ++ (L.take z).flatten))
              case atStart => exact ⟨0, by omega, rfl, X7, L7, M7⟩
              case round =>
                clear X7 L7 M7 d8
                obtain ⟨z, hz, rfl, X8, L8, M8⟩ := hrel
                cases gk with
                | zero =>
                  have hzl : ¬ z < s.nz := by omega
                  have HE := Lib.hid (show ((allF a).take (c + 1)).flatten = ((allF a).take c).flatten ++ (L.take z).flatten by
                    rw [all_take HL.out, List.take_of_length_le (l := L) (by rw [HLN.out]; omega)])
                  clear hz
                  go_wp2
                  go_roundg gg
                  case rel => exact ⟨c + 1, by have := HI.out; omega, by go_num, X8, by rw [HE.out]; exact M8⟩
                  case measure => omega
                | succ g2 =>
                  have hzl : z < s.nz := by omega
                  have HZ := Lib.hid hz
                  obtain ⟨l, hl⟩ := get_some HLN.out hzl
                  obtain ⟨al, q, cl, dl, hm, hsl⟩ := L8.at hl
                  have hq256 := (HV.out.vc HL.out).len hl
                  rw [hm] at hq256
                  have M80 : Ms wr m (((allF a).take c).flatten ++ ((L.take z).flatten ++ l.take 0)) := by simpa using M8
                  have HM := Lib.hid hm; have HLL := Lib.hid hl; have HSL := Lib.hid hsl
                  have S80 := hsl
                  clear hz hl hm hsl M8
                  go_wp2
                  go_loopg [97] q (fun g3 v97 wk => ∃ j : Nat, j + g3 = q ∧ v97 = .int .i64 j ∧ AX w g s zc ccs a wk ∧ Lc wk (.slice (some ⟨b, 0, none⟩) s.nz cap) L ∧ Sl wk (.slice al q cl) l ∧ Ms wk m (((allF a).take c).flatten ++ ((L.take z).flatten ++ l.take j)))
                  case atStart => exact ⟨0, by omega, rfl, X8, L8, S80, M80⟩
                  case round =>
                    clear X8 L8 S80 M80 dl HSL
                    obtain ⟨j, hj, rfl, X9, L9, S9, M9⟩ := hrel
                    cases gk with
                    | zero =>
                      have hjl : ¬ j < q := by omega
                      have HE := Lib.hid (show ((allF a).take c).flatten ++ (L.take (z + 1)).flatten = ((allF a).take c).flatten ++ ((L.take z).flatten ++ l.take j) by
                        rw [flat_take HLL.out, List.take_of_length_le (l := l) (by rw [HM.out]; omega)])
                      clear hj
                      go_wp2
                      go_roundg g2
                      case rel => exact ⟨z + 1, by have := HZ.out; omega, by go_num, X9, L9, by rw [HE.out]; exact M9⟩
                      case measure => omega
                    | succ g3 =>
                      have hjl : j < q := by omega
                      have HJ := Lib.hid hj
                      obtain ⟨x, hx⟩ := get_some HM.out hjl
                      obtain ⟨_, _, _, hat⟩ := HV.out.at_ HL.out HLL.out
                      obtain ⟨hinz, hnc⟩ := hat x (List.mem_of_getElem? hx)
                      obtain ⟨p1, p2⟩ := HV.out.seen HL.out HLL.out hx
                      obtain ⟨hx0, hx1⟩ := HV.out.inr (by rw [HN.out]; exact hzl) hinz
                      obtain ⟨y, hy⟩ := get_some HN.out hzl
                      have hzn := zn_of hy
                      have hvz : VZ y := by have := HV.out.vz z (by rw [HN.out]; exact hzl); rw [hzn] at this; exact this
                      have hzi := HV.out.zoneI (by rw [HN.out]; exact hzl) hinz
                      rw [hzn] at hinz hnc
                      obtain ⟨a1, c1, e1, _, _, _, hI⟩ := S9
                      have hS9 : Sl wr (.slice al q cl) l := ⟨a1, c1, e1, by assumption, by assumption, by assumption, hI⟩
                      rw [HM.out] at e1
                      cases e1
                      obtain ⟨bb, off, rfl, cx⟩ := hI.at hx
                      have hlk := Ms.run M9 hx0 hx1
                      rw [show (((allF a).take c).flatten ++ ((L.take z).flatten ++ l.take j)).contains x = false by simpa using p1] at hlk
                      have HZO := Lib.hid (zoneof _ a x wr X9.ra (fun z' hz' => by
                        obtain ⟨i', hi'⟩ := List.getElem?_of_mem hz'
                        have := HV.out.vz i' (lt_of hi'); rw [zn_of hi'] at this; exact this.r) HV.out.z6)
                      rw [hzi] at HZO
                      have HY := Lib.hid hy; have HVZ := Lib.hid hvz; have HNC := Lib.hid hnc; have HP := Lib.hid p1
                      have HR0 := Lib.hid (show R y.st y.ct x 0 from by unfold inZ at hinz; exact ⟨by omega, hinz.1, by rw [pw_zero]; omega, by rw [pw_zero]; omega⟩)
                      have hwf := wf_small hx0 hx1
                      have hln : (((allF a).take c).flatten ++ ((L.take z).flatten ++ l.take j)).length < maxLen := by unfold maxLen; omega
                      have HE := Lib.hid (show ((allF a).take c).flatten ++ ((L.take z).flatten ++ l.take (j + 1)) = (((allF a).take c).flatten ++ ((L.take z).flatten ++ l.take j)) ++ [x] by
                        rw [List.take_add_one, hx]; simp)
                      clear hj hx hat hinz hnc hzn hvz hzi hy p1 p2 hI
                      go_wp2_with ((with_reducible refine lda ?_ X9.x ?_); (focus rfl))
                      refine HZO.out.mono ?_
                      rintro e w10 ⟨rfl, b10⟩
                      have X10 := X9.below b10
                      have L10 := L9.below b10
                      have S10 := hS9.below b10
                      have M10 := M9.later b10
                      have hlk := Ms.run M10 hx0 hx1
                      rw [show (((allF a).take c).flatten ++ ((L.take z).flatten ++ l.take j)).contains x = false by simpa using HP.out] at hlk
                      have Q10 := X10.v.q
                      have c3 := X10.c3
                      clear X9 L9 hS9 M9 b10 HZO cx
                      go_wp2_with ((with_reducible refine ldqg ?_ ?_ Q10 HY.out ?_); (focus rfl); (focus rfl))
                      refine (isfree _ y x w10 ⟨_, rfl, Q10.row z y HY.out⟩ HVZ.out HR0.out).mono ?_
                      rintro e w11 ⟨⟨b', rfl, hb'⟩, b11⟩
                      have hbf : b' = false := by
                        cases b' with
                        | false => rfl
                        | true => exact absurd (hb'.1 rfl) HNC.out
                      subst hbf
                      have X11 := X10.below b11
                      have L11 := L10.below b11
                      have S11 := S10.below b11
                      have M11 := M10.later b11
                      have p1 := HP.out
                      clear X10 L10 S10 M10 b11 Q10 c3 hlk hb'
                      go_wp2_with ((with_reducible refine wpList_add Try.underlying94 Try.underlying3 Try.underlying4 ?_ ?_ M11 hwf p1 hln ?_); (focus rfl); (focus rfl); intro w12 M12 hg12)
                      have X12 := X11.mapped M11 hlm hg12
                      have L12 := L11.mapped M11 hg12
                      have S12 := S11.past fun b0 bs0 hb0 => hb0.grown hg12 (by simpa using Ms.ne M11 hb0)
                      rw [← HE.out] at M12
                      clear X11 L11 S11 M11 hg12 p1
                      go_wp2
                      go_roundg g3
                      case rel => exact ⟨j + 1, by have := HJ.out; omega, by go_num, X12, L12, S12, M12⟩
                      case measure => omega
end Go.Proofs.Ytdddkfpcbfgocaa
namespace Go.Proofs.Ytdddkfpcbfgocaa
open Go.RowKit Go.Over Go.Zn Go.Can Go.Seg Go.Grow
set_option maxRecDepth 100000 in set_option maxHeartbeats 3200000 in
theorem acount (v : Value) (a : A) (z : Nat) (w : World) (H : Ra w v a) (hV : VA a) (hz : z < a.zs.length) : Calls Try.prog 30 #[v, .int .i64 z] w fun e w' => e = .returned (.int .i64 ((cntA a z : Nat) : Int)) ∧ Below w.heap.size w w' := by
  have HV := Lib.hid hV
  clear hV
  obtain ⟨s, zc, ccs, rfl, hV⟩ := H
  have X0 := AX.new hV
  clear hV
  go_enter Try.func30, Try.ntmps30
  go_upto_region 1 with fail
  obtain ⟨w1, hw1⟩ : ∃ W, W = w.alloc (.cells (s.cells a.bt a.hi).toArray 32) := ⟨_, rfl⟩
  have X1 : AX w w.heap.size s zc ccs a w1 := by rw [hw1]; exact X0
  rw [← hw1]
  obtain ⟨g, hg0⟩ : ∃ g, w.heap.size = g := ⟨_, rfl⟩
  rw [hg0] at X1 ⊢
  clear hw1 X0 hg0
  have HN := Lib.hid X1.v.ez
  rw [HN.out] at hz
  obtain ⟨y, hy⟩ := get_some HN.out hz
  have hzn := zn_of hy
  have hvz : VZ y := by have := HV.out.vz z (by rw [HN.out]; exact hz); rw [hzn] at this; exact this
  have Q1 := X1.v.q
  have c3 := X1.c3
  have hcn := cnt_le hvz (Nat.le_refl 5)
  have HY := Lib.hid hy; have HVZ := Lib.hid hvz
  obtain ⟨N, hN⟩ : ∃ N, cntN y.fr 5 = N := ⟨_, rfl⟩
  have hA := HV.out
  have HA := Lib.hid (show cntA a z = N + sumC a.cs z by unfold cntA; rw [hzn, hN])
  have hle := cntA_le HV.out (z := z) (by rw [HN.out]; exact hz)
  rw [HA.out] at hle
  have HCN := Lib.hid (fun W (h : QV W s.bz zc a.zs) => by have := count (.agg (seg zc (z * 10) 10).toArray) y W ⟨_, rfl, h.row z y HY.out⟩ HVZ.out; rw [hN] at this; exact this)
  rw [hN] at hcn
  clear hy hzn hvz hN hA
  go_wp2_with ((with_reducible refine ldq ?_ Q1 HY.out ?_); (focus rfl))
  refine (HCN.out _ Q1).mono ?_
  rintro e w2 ⟨rfl, b2⟩
  have X2 := X1.below b2
  have c4 := X2.c4
  have HC := Lib.hid X2.v.ec
  have hnc4 : s.nc ≤ 4 := by rw [← X2.v.ec, HV.out.nc]; exact HV.out.n4
  have HLE := Lib.hid hle
  clear X1 b2 Q1 c3 HCN hle
  go_wp2
  go_loopg [17, 5] s.nc (fun gg v17 v5 wr => ∃ c : Nat, c + gg = s.nc ∧ v17 = .int .i64 c ∧ v5 = .int .i64 ((N + sumC (a.cs.take c) z : Nat) : Int) ∧ AX w g s zc ccs a wr)
  case atStart => exact ⟨0, by omega, rfl, by simp [sumC], X2⟩
  case round =>
    clear X2 c4
    obtain ⟨c, hc, rfl, rfl, X3⟩ := hrel
    cases gk with
    | zero =>
      have hcl : ¬ c < s.nc := by omega
      have HE := Lib.hid (show N + sumC (a.cs.take c) z = cntA a z by rw [HA.out, List.take_of_length_le (by rw [HC.out]; omega)])
      obtain ⟨T, hT⟩ : ∃ T, N + sumC (a.cs.take c) z = T := ⟨_, rfl⟩
      rw [hT] at HE ⊢
      clear hc hT
      go_wp2
      go_ret
      exact ⟨ret_int (by rw [HE.out]), X3.b⟩
    | succ gg =>
      have hcl : c < s.nc := by omega
      have HI := Lib.hid hc
      obtain ⟨L, hL⟩ := get_some HC.out hcl
      obtain ⟨v, hv, hLc⟩ := X3.v.c.row c L hL
      obtain ⟨b, cap, hvf, q1, q2⟩ := hLc.form
      have hLn : L.length = s.nz := by rw [HV.out.cl hL]; exact HN.out
      have dv : wr.cell? ⟨s.bc, c, none⟩ = some v := by rw [X3.v.c.x.cell]; exact hv
      rw [hLn] at hvf q1
      subst hvf
      obtain ⟨l, hl⟩ := get_some hLn hz
      have hsum := sumC_take (z := z) hL
      rw [getD_of hl] at hsum
      have hmono : sumC (a.cs.take (c + 1)) z ≤ sumC a.cs z := by
        unfold sumC
        conv => rhs; rw [← List.take_append_drop (c + 1) a.cs]
        rw [List.flatMap_append, List.length_append]; omega
      have hle := HLE.out
      have bN := below_box wr (.cells #[.slice (some ⟨b, 0, none⟩) s.nz cap] 77)
      obtain ⟨al, m, cl, dl, hm, _⟩ := (hLc.below bN).at hl
      rw [hm] at hsum
      have c4 := X3.c4
      have X4 := X3.below bN
      obtain ⟨T, hT⟩ : ∃ T, N + sumC (a.cs.take c) z = T := ⟨_, rfl⟩
      have hTm : T + m ≤ 256 := by omega
      have HE := Lib.hid (show N + sumC (a.cs.take (c + 1)) z = T + m by omega)
      rw [hT]
      clear hc hL hv hLc hLn hl hsum hmono hle hm hT
      go_wp2
      go_roundg gg
      case rel => exact ⟨c + 1, by have := HI.out; omega, by go_num, by rw [HE.out]; go_num, X4⟩
      case measure => omega
set_option maxRecDepth 100000 in set_option maxHeartbeats 3200000 in
theorem aroom (v : Value) (a : A) (z : Nat) (w : World) (H : Ra w v a) (hV : VA a) (hz : z < a.zs.length) : Calls Try.prog 24 #[v, .int .i64 z] w fun e w' => e = .returned (.int .i64 (((cntA a z : Nat) : Int) - (zn a z).mn)) ∧ Below w.heap.size w w' := by
  have HV := Lib.hid hV
  have HZ0 := Lib.hid hz
  obtain ⟨y, hy⟩ := get_some (l := a.zs) rfl hz
  have hzn := zn_of hy
  have hle := cntA_le hV hz
  have hmn := (hV.vz z hz).r
  have m0 := hmn.mn0; have m1 := hmn.mn1; have m2 := hmn.ct1; have m3 := hmn.st0
  rw [hzn] at m0 m1 m2 m3 ⊢
  obtain ⟨N, hN⟩ : ∃ N, cntA a z = N := ⟨_, rfl⟩
  obtain ⟨M, hM⟩ : ∃ M, y.mn = M := ⟨_, rfl⟩
  rw [hM] at m0 m1 ⊢
  rw [hN] at hle ⊢
  have HY := Lib.hid hy; have HNN := Lib.hid hN; have HMM := Lib.hid hM
  clear hV hy hzn hN hM hmn
  obtain ⟨s, zc, ccs, rfl, hV⟩ := H
  have X0 := AX.new hV
  clear hV
  go_enter Try.func24, Try.ntmps24
  go_upto_region 1 with fail
  obtain ⟨w1, hw1⟩ : ∃ W, W = w.alloc (.cells (s.cells a.bt a.hi).toArray 32) := ⟨_, rfl⟩
  have X1 : AX w w.heap.size s zc ccs a w1 := by rw [hw1]; exact X0
  rw [← hw1]
  obtain ⟨g, hg0⟩ : ∃ g, w.heap.size = g := ⟨_, rfl⟩
  rw [hg0] at X1 ⊢
  clear hw1 X0 hg0
  rw [X1.v.ez] at hz
  have C := fun u => calls_over (acount _ a z _ (X1.below (below_over w1 u)).ra HV.out HZ0.out)
  rw [HNN.out] at C
  have HC := Lib.hid C
  have c3 := over_cell X1.c3
  have c4 := over_cell (show w1.cell? ⟨s.bz, z * 10 + 4, none⟩ = some (.int .i64 M) from by
    rw [X1.v.q.x.cell, ← HMM.out]; exact X1.v.q.get HY.out 4 _ (X1.v.q.row z y HY.out).mn)
  clear C
  go_wp2_with fail
  refine wp_region_over (by kernel_rfl) (by kernel_rfl) ?_
  go_big_quiet_want
  rename_i K hK
  refine quiet_run (v := .agg (s.cells a.bt a.hi).toArray) (fun w' hw' => ?_) ?_
  · obtain ⟨u, rfl⟩ := hw'
    exact run_load_row rfl g rfl 32 (s.cells a.bt a.hi).toArray (0, 0) _ (X1.x.later (below_over w1 u)) Try.underlying32 rfl (by rw [infoA]; rfl)
  refine hK _ ?_
  clear hK K
  simp only [Act.put, List.setIfInBounds_toArray, List.set_cons_succ, List.set_cons_zero]
  repeat (go_big_quiet_step ((go_at_call 30; exact HC.out _)))
  refine wpQuiet_nil ?_
  rintro _ ⟨u, rfl⟩
  have hfin := (X1.below (below_over w1 u)).b
  go_wp2
  go_ret
  exact ⟨rfl, hfin⟩
end Go.Proofs.Ytdddkfpcbfgocaa
namespace Go.Proofs.Ytdddkfpcbfgocaa
open Go.RowKit Go.Over Go.Zn Go.Can Go.Seg Go.Grow
theorem contains_drop {l : List Int} {x y : Int} {i : Nat} (h : l[i]? = some y) : (l.drop i).contains x = (x == y || (l.drop (i + 1)).contains x) := by
  rw [drop_get h, List.contains_cons]
set_option maxRecDepth 100000 in set_option maxHeartbeats 3200000 in
theorem indexOf (v : Value) (l : List Int) (x : Int) (w : World) (H : Sl w v l) (hl : l.length ≤ 256) : Calls Try.prog 83 #[v, .int .i64 x] w fun e w' => (∃ r : Int, e = .returned (.int .i64 r) ∧ decide (0 ≤ r) = l.contains x) ∧ w = w' := by
  obtain ⟨a, c, rfl, h1, h2, h3, hI⟩ := H
  obtain ⟨n, hn⟩ : ∃ n, l.length = n := ⟨_, rfl⟩
  rw [hn] at h1 hl ⊢
  have HN := Lib.hid hn
  have H0 := Lib.hid (show l.contains x = (l.drop 0).contains x from rfl)
  clear hn h1 h2 h3
  go_enter Try.func83, Try.ntmps83
  go_wp2
  go_loopg [8] n (fun gg v8 wr => ∃ i : Nat, i + gg = n ∧ v8 = .int .i64 i ∧ l.contains x = (l.drop i).contains x ∧ w = wr)
  case atStart => exact ⟨0, by omega, rfl, H0.out, rfl⟩
  case round =>
    clear H0
    obtain ⟨i, hi, rfl, hc, rfl⟩ := hrel
    have HC := Lib.hid hc
    clear hc
    cases gk with
    | zero =>
      have hin : ¬ i < n := by omega
      have HE := Lib.hid (show l.contains x = false by rw [HC.out, List.drop_eq_nil_of_le (by rw [HN.out]; omega)]; rfl)
      clear hi
      go_wp2
      go_ret
      exact ⟨⟨_, rfl, by rw [HE.out]; rfl⟩, rfl⟩
    | succ gg =>
      have hin : i < n := by omega
      have HI := Lib.hid hi
      obtain ⟨y, hy⟩ := get_some HN.out hin
      obtain ⟨b, off, rfl, cx⟩ := hI.at hy
      have hd := contains_drop (x := x) hy
      by_cases hxy : x = y
      · have HE := Lib.hid (show l.contains x = true by rw [HC.out, hd, hxy]; simp)
        have t1 : (x == y) = true := by rw [hxy]; simp
        clear hi hy hd hxy
        go_wp2
        go_ret
        exact ⟨⟨_, rfl, by rw [HE.out]; simp⟩, rfl⟩
      · have t1 : (x == y) = false := by simpa using hxy
        have HE := Lib.hid (show l.contains x = (l.drop (i + 1)).contains x by rw [HC.out, hd, t1]; rfl)
        clear hi hy hd hxy
        go_wp2
        go_roundg gg
        case rel => exact ⟨i + 1, by have := HI.out; omega, by go_num, HE.out, rfl⟩
        case measure => omega
set_option maxRecDepth 100000 in set_option maxHeartbeats 3200000 in
theorem containsOf (v : Value) (l : List Int) (x : Int) (w : World) (H : Sl w v l) (hl : l.length ≤ 256) : Calls Try.prog 71 #[v, .int .i64 x] w fun e w' => e = .returned (.bool (l.contains x)) ∧ w = w' := by
  have HC := Lib.hid (indexOf v l x w H hl)
  clear H hl
  go_enter Try.func71, Try.ntmps71
  go_wp2_with fail
  refine HC.out.mono ?_
  rintro e w2 ⟨⟨r, rfl, hr⟩, rfl⟩
  have HR := Lib.hid hr
  clear hr HC
  go_wp2
  go_ret
  exact ⟨ret_bool HR.out, rfl⟩
set_option maxRecDepth 100000 in set_option maxHeartbeats 3200000 in
theorem incache (v : Value) (L : List (List Int)) (z : Nat) (x : Int) (l : List Int) (g4 g5 : Nat) (w : World) (H : Rc w v L) (hl : L[z]? = some l) (hl6 : l.length ≤ 256) (h4 : Blk w g4 3 [.int .i64 z]) (h5 : Blk w g5 3 [.int .i64 x]) :
    Calls Try.prog 70 #[v, .pointer (some ⟨g4, 0, none⟩), .pointer (some ⟨g5, 0, none⟩)] w fun e w' => e = .returned (.bool (l.contains x)) ∧ Below w.heap.size w w' := by
  obtain ⟨v0, rfl, hLc⟩ := H
  obtain ⟨b, c, hvf, hlc, _⟩ := hLc.form
  obtain ⟨n, hn⟩ : ∃ n, L.length = n := ⟨_, rfl⟩
  have hzn := lt_of hl
  rw [hn] at hvf hlc hzn
  subst hvf
  have b1 := below_box w (.cells #[.slice (some ⟨b, 0, none⟩) n c] 77)
  have d1 := (Blk.new w 77 #[.slice (some ⟨b, 0, none⟩) n c] [.slice (some ⟨b, 0, none⟩) n c] rfl).cell 0
  have d4 := (h4.later b1).cell 0
  have d5 := (h5.later b1).cell 0
  simp only [List.getElem?_cons_zero] at d1 d4 d5
  obtain ⟨al, m, cl, dl, hm, hsl⟩ := (hLc.below b1).at hl
  have HSL := Lib.hid hsl
  clear hn hl h4 h5 hLc hm hsl
  go_enter Try.func70, Try.ntmps70
  go_upto_region 1 with fail
  obtain ⟨w1, hw1⟩ : ∃ W, W = w.alloc (.cells #[.slice (some ⟨b, 0, none⟩) n c] 77) := ⟨_, rfl⟩
  rw [← hw1] at b1 d1 d4 d5 dl HSL ⊢
  obtain ⟨g, hg0⟩ : ∃ g, w.heap.size = g := ⟨_, rfl⟩
  rw [hg0] at d1 ⊢
  clear hw1 hg0
  have HC := Lib.hid (fun u => calls_over_same (containsOf (.slice al m cl) l x (over w1 u) (HSL.out.below (below_over w1 u)) hl6))
  have d1 := over_cell d1; have d4 := over_cell d4; have d5 := over_cell d5; have dl := over_cell dl
  refine wp_region_over (by kernel_rfl) (by kernel_rfl) ?_
  repeat (go_big_quiet_step ((go_at_call 71; exact HC.out _)))
  refine wpQuiet_nil ?_
  rintro _ ⟨u, rfl⟩
  have hfin := below_then b1 (below_over w1 u)
  go_wp2
  go_ret
  exact ⟨rfl, hfin⟩
/-- The cache that a frame is in. -/
def CacheAns (a : A) (z : Nat) (x : Int) (e : Ending) : Prop :=
  (∃ c : Nat, c < a.cs.length ∧ x ∈ lst a c z ∧ e = .returned (.int .i64 c)) ∨ (¬ Ca a z x ∧ e = .returned (.int .i64 (-1)))
set_option maxRecDepth 100000 in set_option maxHeartbeats 3200000 in
theorem idxC (s : Sh) (zc ccs : List Value) (a : A) (z : Nat) (x : Int) (g4 g5 : Nat) (w : World) (H : AW w s zc ccs a) (hV : VA a) (hz : z < a.zs.length) (h4 : Blk w g4 3 [.int .i64 z]) (h5 : Blk w g5 3 [.int .i64 x]) :
    Calls Try.prog 69 #[.slice (some ⟨s.bc, 0, none⟩) s.nc s.cc, .func (.func 70) #[] #[.pointer (some ⟨g4, 0, none⟩), .pointer (some ⟨g5, 0, none⟩)]] w fun e w' => CacheAns a z x e ∧ Below w.heap.size w w' := by
  have HV := Lib.hid hV; have HW := Lib.hid H; have HZ := Lib.hid hz; have H4 := Lib.hid h4; have H5 := Lib.hid h5
  have HC := Lib.hid H.ec
  have hnc4 : s.nc ≤ 4 := by rw [← H.ec, hV.nc]; exact hV.n4
  clear hV H hz h4 h5
  go_enter Try.func69, Try.ntmps69
  go_wp2
  go_loopg [8] s.nc (fun gg v8 wr => ∃ c : Nat, c + gg = s.nc ∧ v8 = .int .i64 c ∧ Below w.heap.size w wr ∧ ∀ d, d < c → x ∉ lst a d z)
  case atStart => exact ⟨0, by omega, rfl, Below.refl _ _, fun d hd => by omega⟩
  case round =>
    obtain ⟨c, hc, rfl, B1, hno⟩ := hrel
    have HNO := Lib.hid hno
    clear hno
    cases gk with
    | zero =>
      have hcl : ¬ c < s.nc := by omega
      have HE := Lib.hid (show ¬ Ca a z x from fun ⟨d, hd, hx⟩ => HNO.out d (by rw [HC.out] at hd; omega) hx)
      clear hc
      go_wp2
      go_ret
      exact ⟨.inr ⟨HE.out, rfl⟩, B1⟩
    | succ gg =>
      have hcl : c < s.nc := by omega
      have HI := Lib.hid hc
      obtain ⟨L, hL⟩ := get_some HC.out hcl
      have W1 := HW.out.below B1
      obtain ⟨v, hv, hLc⟩ := W1.c.row c L hL
      have dv : wr.cell? ⟨s.bc, c, none⟩ = some v := by rw [W1.c.x.cell]; exact hv
      obtain ⟨l, hl⟩ := get_some (l := L) (HV.out.cl hL) HZ.out
      have hC := incache (.agg #[v]) L z x l g4 g5 wr ⟨_, rfl, hLc⟩ hl ((HV.out.vc hL).len hl) (H4.out.later B1) (H5.out.later B1)
      obtain ⟨b, hb⟩ : ∃ b, l.contains x = b := ⟨_, rfl⟩
      rw [hb] at hC
      have hle := lst_of hL hl
      have HCC := Lib.hid hC; have HB := Lib.hid hb; have HLE := Lib.hid hle
      have hBc := W1.c.x
      clear hc hL hv hLc hl hC hb hle W1
      go_wp2_with fail
      refine HCC.out.mono ?_
      rintro e w2 ⟨rfl, b2⟩
      have B2 := below_then B1 b2
      clear B1 b2 dv hBc HCC
      cases b with
      | true =>
        have HE := Lib.hid (show x ∈ lst a c z by rw [HLE.out]; have := HB.out; simpa using this)
        go_wp2
        go_ret
        exact ⟨.inl ⟨c, by rw [HC.out]; exact hcl, HE.out, rfl⟩, B2⟩
      | false =>
        have HE := Lib.hid (show x ∉ lst a c z by rw [HLE.out]; have := HB.out; simpa using this)
        go_wp2
        go_roundg gg
        case rel => exact ⟨c + 1, by have := HI.out; omega, by go_num, B2, fun d hd => by
          by_cases e : d = c
          · subst e; exact HE.out
          · exact HNO.out d (by omega)⟩
        case measure => omega
set_option maxRecDepth 100000 in set_option maxHeartbeats 3200000 in
theorem cachedof (v : Value) (a : A) (z : Nat) (x : Int) (w : World) (H : Ra w v a) (hV : VA a) (hz : z < a.zs.length) : Calls Try.prog 37 #[v, .int .i64 z, .int .i64 x] w fun e w' => CacheAns a z x e ∧ Below w.heap.size w w' := by
  obtain ⟨s, zc, ccs, rfl, hW⟩ := H
  have X0 := ((AX.new hW).below (below_box _ (.cells #[.int .i64 z] 3))).below (below_box _ (.cells #[.int .i64 x] 3))
  have hs : (w.alloc (.cells (s.cells a.bt a.hi).toArray 32)).heap.size = w.heap.size + 1 := by simp
  have hs2 : ((w.alloc (.cells (s.cells a.bt a.hi).toArray 32)).alloc (.cells #[.int .i64 z] 3)).heap.size = w.heap.size + 2 := by simp
  have N4 := (Blk.new (w.alloc (.cells (s.cells a.bt a.hi).toArray 32)) 3 #[.int .i64 z] [.int .i64 z] rfl).later (below_box _ (.cells #[.int .i64 x] 3))
  have N5 := Blk.new ((w.alloc (.cells (s.cells a.bt a.hi).toArray 32)).alloc (.cells #[.int .i64 z] 3)) 3 #[.int .i64 x] [.int .i64 x] rfl
  rw [hs] at N4
  rw [hs2] at N5
  have HV := Lib.hid hV; have HZ := Lib.hid hz
  clear hW hs hs2 hV hz
  go_enter Try.func37, Try.ntmps37
  go_upto_region 1 with fail
  obtain ⟨w1, hw1⟩ : ∃ W, W = ((w.alloc (.cells (s.cells a.bt a.hi).toArray 32)).alloc (.cells #[.int .i64 z] 3)).alloc (.cells #[.int .i64 x] 3) := ⟨_, rfl⟩
  rw [← hw1] at X0 N4 N5 ⊢
  obtain ⟨g5, hg5⟩ : ∃ g, w.heap.size + 2 = g := ⟨_, rfl⟩
  obtain ⟨g4, hg4⟩ : ∃ g, w.heap.size + 1 = g := ⟨_, rfl⟩
  simp only [Nat.add_assoc, Nat.reduceAdd] at N4 N5 ⊢
  rw [hg5] at N5 ⊢
  rw [hg4] at N4 ⊢
  obtain ⟨g, hg0⟩ : ∃ g, w.heap.size = g := ⟨_, rfl⟩
  have X1 : AX w g s zc ccs a w1 := by rw [← hg0]; exact X0
  rw [hg0]
  clear hw1 X0 hg0 hg4 hg5
  have c4 := X1.c4
  have HC := Lib.hid (idxC s zc ccs a z x g4 g5 w1 X1.v HV.out HZ.out N4 N5)
  have hb := X1.b
  clear X1 N4 N5
  go_wp2_with fail
  refine HC.out.mono ?_
  rintro e w2 ⟨hA, b2⟩
  have hb2 := below_then hb b2
  rcases hA with ⟨c, h1, h2, rfl⟩ | ⟨h1, rfl⟩
  · have HE := Lib.hid (show CacheAns a z x (.returned (.int .i64 c)) from .inl ⟨c, h1, h2, rfl⟩)
    clear h1 h2 HC
    go_wp2
    go_ret
    exact ⟨HE.out, hb2⟩
  · have HE := Lib.hid (show CacheAns a z x (.returned (.int .i64 (-1))) from .inr ⟨h1, rfl⟩)
    clear h1 HC
    go_wp2
    go_ret
    exact ⟨HE.out, hb2⟩
section
variable {ops : Array Oper} {rest : List Oper} {d i : Nat} {ty : TypeId} {pos : String} {af : Array Edge} {a : Act} {w : World} {Q : Exit → Act → World → Prop} {g bt hi : Nat} {s : Sh}
theorem ldag {gd : Nat × Bool} (hw : Region.wanted { dst := some d, op := .load 32 (.tmp i), type := ty, pos := pos, after := af, guard := some gd } (yielded ops a.tmps) = true)
    (hx : a.eval (.tmp i) = .pointer (some ⟨g, 0, none⟩)) (hB : Blk w g 32 (s.cells bt hi)) (h : wpList Try.prog ops Q rest (a.put (some d) (.agg (s.cells bt hi).toArray)) w) :
    wpList Try.prog ops Q ({ dst := some d, op := .load 32 (.tmp i), type := ty, pos := pos, after := af, guard := some gd } :: rest) a w := by
  refine wpList_step fun K hK => ?_
  simp only [hw, if_true]
  exact wp_load_row 32 (.tmp i) rfl g hx 32 (s.cells bt hi).toArray (0, 0) _ hB Try.underlying32 rfl (by rw [infoA]; rfl) (hK _ _ h)
end
set_option maxRecDepth 100000 in set_option maxHeartbeats 3200000 in
theorem afree (v : Value) (a : A) (z : Nat) (x : Int) (w : World) (H : Ra w v a) (hV : VA a) (hz : z < a.zs.length) (hx : inZ (zn a z) x) : Calls Try.prog 34 #[v, .int .i64 z, .int .i64 x] w fun e w' => (∃ b, e = .returned (.bool b) ∧ (b = true ↔ Fr a z x)) ∧ Below w.heap.size w w' := by
  have HV := Lib.hid hV; have HZ := Lib.hid hz; have HX := Lib.hid hx
  obtain ⟨y, hy⟩ := get_some (l := a.zs) rfl hz
  have hzn := zn_of hy
  have hvz : VZ y := by have := hV.vz z hz; rw [hzn] at this; exact this
  have HVZ := Lib.hid hvz; have HY := Lib.hid hy; have HZN := Lib.hid hzn
  rw [hzn] at hx
  have HR0 := Lib.hid (show R y.st y.ct x 0 from by unfold inZ at hx; exact ⟨by omega, hx.1, by rw [pw_zero]; omega, by rw [pw_zero]; omega⟩)
  clear hV hx hy hzn hvz
  obtain ⟨s, zc, ccs, rfl, hV⟩ := H
  have X0 := AX.new hV
  clear hV
  go_enter Try.func34, Try.ntmps34
  go_upto_region 1 with fail
  obtain ⟨w1, hw1⟩ : ∃ W, W = w.alloc (.cells (s.cells a.bt a.hi).toArray 32) := ⟨_, rfl⟩
  have X1 : AX w w.heap.size s zc ccs a w1 := by rw [hw1]; exact X0
  rw [← hw1]
  obtain ⟨g, hg0⟩ : ∃ g, w.heap.size = g := ⟨_, rfl⟩
  rw [hg0] at X1 ⊢
  clear hw1 X0 hg0
  rw [X1.v.ez] at hz
  have Q1 := X1.v.q
  have c3 := X1.c3
  go_wp2_with ((with_reducible refine ldq ?_ Q1 HY.out ?_); (focus rfl))
  refine (isfree _ y x w1 ⟨_, rfl, Q1.row z y HY.out⟩ HVZ.out HR0.out).mono ?_
  rintro e w2 ⟨⟨b, rfl, hb⟩, b2⟩
  have X2 := X1.below b2
  clear X1 b2 Q1 c3
  cases b with
  | true =>
    have HE := Lib.hid (show Fr a z x from .inl (by rw [HZN.out]; exact hb.1 rfl))
    clear hb
    go_wp2
    go_ret
    exact ⟨⟨_, rfl, fun _ => HE.out, fun _ => rfl⟩, X2.b⟩
  | false =>
    have HNC := Lib.hid (show ¬ Cov (F (zn a z).fr) x from fun h => by rw [HZN.out] at h; have := hb.2 h; cases this)
    clear hb
    go_wp2_with ((with_reducible refine ldag ?_ ?_ X2.x ?_); (focus rfl); (focus rfl))
    refine (cachedof _ a z x w2 X2.ra HV.out HZ.out).mono ?_
    rintro e w3 ⟨hA, b3⟩
    have X3 := X2.below b3
    clear X2 b3
    rcases hA with ⟨c, h1, h2, rfl⟩ | ⟨h1, rfl⟩
    · have HE := Lib.hid (show Fr a z x from .inr ⟨c, h1, h2⟩)
      have tc : decide (0 ≤ (c : Int)) = true := by simp
      clear h1 h2
      go_wp2
      go_ret
      exact ⟨⟨_, rfl, fun _ => HE.out, fun _ => rfl⟩, X3.b⟩
    · have HE := Lib.hid (show ¬ Fr a z x from fun h => h.elim HNC.out h1)
      clear h1
      go_wp2
      go_ret
      exact ⟨⟨_, rfl, fun h => (by cases h), fun h => absurd h HE.out⟩, X3.b⟩
end Go.Proofs.Ytdddkfpcbfgocaa
namespace Go.Seg
section
variable {P : Program} {ops : Array Oper} {md : Region.Mode} {S : World → Prop} {Q : Exit → Act → World → Prop} {brks : List Nat}
/-- The class is kept, until one of some operations breaks it. -/
def wpAnyB (P : Program) (md : Region.Mode) (ops : Array Oper) (brks : List Nat) (S : World → Prop) (Q : Exit → Act → World → Prop) : Nat → Array Bool → Act → World → Prop
  | 0, listed, a, w => Region.ready md ops listed = [] ∧ Q .normal a w
  | f + 1, listed, a, w =>
    (Region.ready md ops listed = [] → Q .normal a w) ∧
    ∀ i ∈ Region.ready md ops listed, wpOp P ops Q i (fun a' w' => (i ∈ brks → wpAny P md ops Q f (listed.setIfInBounds i true) a' w') ∧ (i ∉ brks → S w' ∧ wpAnyB P md ops brks S Q f (listed.setIfInBounds i true) a' w')) a w
theorem wpAnyB_any : ∀ (f : Nat) (listed : Array Bool) (a : Act) (w : World), wpAnyB P md ops brks S Q f listed a w → wpAny P md ops Q f listed a w
  | 0, _, _, _, h => h
  | f + 1, _, _, _, h => ⟨h.1, fun i hi => wpOp_mono (fun a' w' h' => by
    by_cases e : i ∈ brks
    · exact h'.1 e
    · exact wpAnyB_any f _ a' w' (h'.2 e).2) (h.2 i hi)⟩
/-- Those operations wait for operation i. -/
def Waits (md : Region.Mode) (ops : Array Oper) (brks : List Nat) (i : Nat) : Prop := ∀ j ∈ brks, ∀ o, ops[j]? = some o → ∃ e ∈ o.after, Region.binds md e = true ∧ e.on = i
theorem firstB {i : Nat} {oi : Oper} {v : Value} (hi : ops[i]? = some oi) (hwt : Waits md ops brks i) (hil : i ∉ brks) (hsel : ∀ (j : Nat) (o : Oper) cs b, ops[j]? = some o → o.op ≠ .select cs b)
    (hQ : ∀ c a d v w, Q (.panic c) (Act.put a d v) w → Q (.panic c) a w) :
    ∀ (fuel : Nat) (listed : Array Bool) (a : Act) (w : World), S w →
      (∀ j oj, ops[j]? = some oj → j ≠ i → listed.getD j true = false → (∀ e ∈ oj.after, Region.binds md e = true → e.on ≠ i) → oi.apart ops oj = true) →
      i ∈ Region.ready md ops listed → (∀ w, S w → YieldsAt P ops w oi v a) →
      wpAnyB P md ops brks S Q fuel (listed.setIfInBounds i true) (a.put oi.dst v) w → wpAnyB P md ops brks S Q (fuel + 1) listed a w := by
  intro fuel
  induction fuel with
  | zero =>
    intro listed a w hS _ hr hy H
    refine ⟨fun h => (by rw [h] at hr; cases hr), fun j hj => ?_⟩
    by_cases hji : j = i
    · subst hji; exact wpOp_of_yields hi (hy w hS) ⟨fun h => absurd h hil, fun _ => ⟨hS, H⟩⟩
    · have := ready_mono hj hji
      rw [H.1] at this
      cases this
  | succ fuel ih =>
    intro listed a w hS hfree hr hy H
    refine ⟨fun h => (by rw [h] at hr; cases hr), fun j hj => ?_⟩
    by_cases hji : j = i
    · subst hji; exact wpOp_of_yields hi (hy w hS) ⟨fun h => absurd h hil, fun _ => ⟨hS, H⟩⟩
    · have h1 := H.2 j (ready_mono hj hji)
      obtain ⟨hjun, oj, hoj, hall⟩ := mem_ready.1 hj
      have hnot : ∀ e ∈ oj.after, Region.binds md e = true → e.on ≠ i := fun e he hb heq => by
        have h1 := hall e he hb
        have h0 := (mem_ready.1 hr).1
        rw [heq] at h1
        rcases Nat.lt_or_ge i listed.size with h' | h'
        · simp [h'] at h0 h1; rw [h0] at h1; cases h1
        · simp [Array.getElem?_eq_none h'] at h1
      have hjl : j ∉ brks := fun hm => by
        obtain ⟨e, he, hb, heq⟩ := hwt j hm oj hoj
        exact hnot e he hb heq
      have h2 := wpOp_put hoj (hfree j oj hoj hji hjun hnot) (fun cs b => hsel i oi cs b hi) (fun cs b => hsel j oj cs b hoj) hQ hy h1
      have hfree' : ∀ k ok, ops[k]? = some ok → k ≠ i → (listed.setIfInBounds j true).getD k true = false →
          (∀ e ∈ ok.after, Region.binds md e = true → e.on ≠ i) → oi.apart ops ok = true := fun k ok hk hki hun hno => by
        refine hfree k ok hk hki ?_ hno
        by_cases hjk : j = k
        · subst hjk; exact hjun
        · rw [getD_set_ne true hjk] at hun; exact hun
      refine wpOp_mono (fun a' w' h3 => ⟨fun h => absurd h hjl, fun _ => ?_⟩) h2
      obtain ⟨q1, q2⟩ := h3.2.2 hjl
      refine ⟨q1, ih (listed.setIfInBounds j true) a' w' q1 hfree' (ready_mono hr (Ne.symm hji)) h3.1 ?_⟩
      rw [Array.setIfInBounds_comm _ _ hji]
      exact q2
theorem anyB_of_quiets (hs : Region.noSelect ops = true) (hQ : ∀ c a d v w, Q (.panic c) (Act.put a d v) w → Q (.panic c) a w) {f : Nat} :
    ∀ (l : List Oper) (ks : List Nat) (listed : Array Bool) (a : Act) (w : World), (ks.map fun k => ops[k]?) = l.map some → quietB md ops ks listed = true → (∀ k ∈ ks, Waits md ops brks k ∧ k ∉ brks) → S w →
      wpEachF P ops S (fun a' w' => wpAnyB P md ops brks S Q f (setAll listed ks) a' w') l a w → wpAnyB P md ops brks S Q (f + l.length) listed a w
  | [], [], _, _, _, _, _, _, _, h => h
  | [], _ :: _, _, _, _, hl, _, _, _, _ => by simp at hl
  | _ :: _, [], _, _, _, hl, _, _, _, _ => by simp at hl
  | o :: l, k :: ks, listed, a, w, hl, hB, hk, hS, h => by
    simp only [List.map_cons, List.cons.injEq] at hl
    simp only [quietB, Bool.and_eq_true] at hB
    obtain ⟨⟨hr, hf⟩, hB'⟩ := hB
    obtain ⟨v, hy, hK⟩ := h
    obtain ⟨k1, k2⟩ := hk k (by simp)
    exact firstB hl.1 k1 k2 (Region.noSelect_spec hs) hQ (f + l.length) listed a w hS (Region.free_spec hl.1 hf) (by simpa using hr) hy
      (anyB_of_quiets hs hQ l ks _ _ _ hl.2 hB' (fun j hj => hk j (by simp [hj])) hS hK)
inductive Plan2 where
  | quiet (ks : List Nat) (p : Plan2)
  | only (k : Nat) (p : Plan2)
  | brk (k : Nat) (p : Plan)
def Plan2.size : Plan2 → Nat
  | .quiet ks p => p.size + ks.length
  | .only _ p => p.size + 1
  | .brk _ p => p.size + 1
def waitsB (md : Region.Mode) (ops : Array Oper) (brks : List Nat) (i : Nat) : Bool := brks.all fun j => match ops[j]? with
  | none => true
  | some o => o.after.any fun e => Region.binds md e && decide (e.on = i)
theorem waitsB_spec {i : Nat} (h : waitsB md ops brks i = true) : Waits md ops brks i := by
  intro j hj o ho
  have := List.all_eq_true.1 h j hj
  simp only [ho, Array.any_eq_true, Bool.and_eq_true, decide_eq_true_eq] at this
  obtain ⟨q, hq, h2, h3⟩ := this
  exact ⟨_, Array.getElem_mem hq, h2, h3⟩
def planB2 (md : Region.Mode) (l : List Oper) (brks : List Nat) : Plan2 → Array Bool → Bool
  | .quiet ks p, listed => quietB md l.toArray ks listed && (inOrder l ks).all (fun o => valueOp o.op) && ks.all (fun k => decide (k < l.length)) && ks.all (fun k => waitsB md l.toArray brks k && decide (k ∉ brks)) && planB2 md l brks p (setAll listed ks)
  | .only k p, listed => decide (Region.ready md l.toArray listed = [k]) && decide (k < l.length) && decide (k ∉ brks) && planB2 md l brks p (listed.setIfInBounds k true)
  | .brk k p, listed => decide (Region.ready md l.toArray listed = [k]) && decide (k < l.length) && decide (k ∈ brks) && planB md l l.toArray.size p (listed.setIfInBounds k true)
def wpPlan2 (P : Program) (l : List Oper) (S : World → Prop) (Q : Exit → Act → World → Prop) : Plan2 → Act → World → Prop
  | .quiet ks p, a, w => wpQuiet P l.toArray S (fun a' => wpPlan2 P l S Q p a' w) (inOrder l ks) a
  | .only k p, a, w => wpList P l.toArray (Kept S fun a' w' => wpPlan2 P l S Q p a' w') (inOrder l [k]) a w
  | .brk k p, a, w => wpList P l.toArray (Kept (fun _ => True) fun a' w' => wpPlan P l (fun _ => True) Q p a' w') (inOrder l [k]) a w
theorem anyB_plan {l : List Oper} (hs : Region.noSelect l.toArray = true) (hQ : ∀ c a d v w, Q (.panic c) (Act.put a d v) w → Q (.panic c) a w) :
    ∀ (p : Plan2) (x : Nat) (listed : Array Bool) (a : Act) (w : World), planB2 md l brks p listed = true → S w → wpPlan2 P l S Q p a w → wpAnyB P md l.toArray brks S Q (p.size + x) listed a w
  | .quiet ks p, x, listed, a, w, hB, hS, h => by
    simp only [planB2, Bool.and_eq_true] at hB
    obtain ⟨⟨⟨⟨b1, b2⟩, b3⟩, b4⟩, b5⟩ := hB
    obtain ⟨i0, j0⟩ := inOrder_map ks b3
    have g := anyB_of_quiets (P := P) (S := S) (Q := Q) (brks := brks) hs hQ (f := p.size + x) (inOrder l ks) ks listed a w i0 b1 (fun k hk => by
        have := List.all_eq_true.1 b4 k hk
        simp only [Bool.and_eq_true, decide_eq_true_eq] at this
        exact ⟨waitsB_spec this.1, this.2⟩) hS
      (eachF_of_quiet (inOrder l ks) a (fun o ho => List.all_eq_true.1 b2 o ho) (wpQuiet_imp (fun a' hh => anyB_plan hs hQ p x _ a' w b5 hS hh) _ _ h))
    rw [j0] at g
    show wpAnyB P md l.toArray brks S Q (p.size + ks.length + x) listed a w
    rw [show p.size + ks.length + x = p.size + x + ks.length by omega]
    exact g
  | .only k p, x, listed, a, w, hB, hS, h => by
    simp only [planB2, Bool.and_eq_true, decide_eq_true_eq] at hB
    obtain ⟨⟨⟨b1, b2⟩, b4⟩, b3⟩ := hB
    obtain ⟨o, m1, m2⟩ := one_of b2
    simp only [wpPlan2, m1] at h
    show wpAnyB P md l.toArray brks S Q (p.size + 1 + x) listed a w
    rw [show p.size + 1 + x = p.size + x + 1 by omega]
    refine ⟨fun h1 => (by rw [b1] at h1; cases h1), fun i hi => ?_⟩
    rw [b1] at hi
    obtain rfl := List.mem_singleton.1 hi
    exact op_of_list m2 hS h fun a' w' hs' hk => ⟨fun hm => absurd hm b4, fun _ => ⟨hs', anyB_plan hs hQ p x _ a' w' b3 hs' hk⟩⟩
  | .brk k p, x, listed, a, w, hB, hS, h => by
    simp only [planB2, Bool.and_eq_true, decide_eq_true_eq] at hB
    obtain ⟨⟨⟨b1, b2⟩, b4⟩, b3⟩ := hB
    obtain ⟨o, m1, m2⟩ := one_of b2
    simp only [wpPlan2, m1] at h
    show wpAnyB P md l.toArray brks S Q (p.size + 1 + x) listed a w
    rw [show p.size + 1 + x = p.size + x + 1 by omega]
    refine ⟨fun h1 => (by rw [b1] at h1; cases h1), fun i hi => ?_⟩
    rw [b1] at hi
    obtain rfl := List.mem_singleton.1 hi
    exact op_of_list m2 trivial h fun a' w' _ hk => ⟨fun _ => wpAnyL_any _ _ _ _ (anyL_plan (S := fun _ => True) lasts_none hs hQ p x _ a' w' b3 trivial hk), fun hm => absurd b4 hm⟩
def planRB2 (l : List Oper) (brks : List Nat) (p : Plan2) : Bool := Region.noSelect l.toArray && decide (p.size ≤ l.length) && planB2 .any l brks p (Array.replicate l.toArray.size false)
/-- THE REGION, ALONG A PLAN OF TWO STAGES. -/
theorem wp_region_stages {id : Nat} {a : Act} {w : World} {l : List Oper} (S0 : World → Prop) (p : Plan2) (brks : List Nat) (hm : P.follows .mixedOrders = true) (hB : planRB2 l brks p = true) (h0 : S0 { w with drawn := w.drawn + 1 })
    (h : ∀ W, S0 W → W = { w with drawn := w.drawn + 1 } → wpPlan2 P l (fun w' => ∃ u, w' = hold S0 W u) (NoPanic Q) p a W) : (Code.region id l.toArray true).wp P Q a w := by
  refine wp_region_noPanic (wp_region_any hm ?_)
  simp only [planRB2, Bool.and_eq_true, decide_eq_true_eq] at hB
  obtain ⟨⟨b1, b3⟩, b4⟩ := hB
  have g := anyB_plan (md := .any) b1 (fun c a d v w h => h) p (l.length - p.size) _ a _ b4 (hold_of h0) (h _ h0 rfl)
  rw [show p.size + (l.length - p.size) = l.length by omega] at g
  have g4 := wpAnyB_any _ _ _ _ g
  simpa using g4
end
end Go.Seg
namespace Go.Proofs.Ytdddkfpcbfgocaa
open Go.RowKit Go.Over Go.Zn Go.Can Go.Seg Go.Grow
theorem KZ : Kind Try.prog 29 39 10 160 := Kind.mk' Try.underlying29 (z := .agg #[.int .i64 0, .int .i64 0, .int .i64 0, .int .i64 0, .int .i64 0, .slice none 0 0, .slice none 0 0, .slice none 0 0, .slice none 0 0, .slice none 0 0]) (by kernel_rfl) rfl (by decide) (by decide)
theorem KC : Kind Try.prog 30 77 1 24 := Kind.mk' Try.underlying30 (z := .agg #[.slice none 0 0]) (by kernel_rfl) rfl (by decide) (by decide)
theorem KL : Kind Try.prog 75 28 1 24 := Kind.mk' Try.underlying75 (z := .slice none 0 0) (by kernel_rfl) rfl (by decide) (by decide)
theorem own_open {w : World} {base e size n : Nat} {v : Value} {xs : List Value} (h : w.ownsRow base e size v n xs) (hn : 0 < n) :
    ∃ g cap cur, v = .slice (some ⟨g, 0, none⟩) n cap ∧ base ≤ g ∧ Blk w g e cur ∧ n ≤ cap ∧ cap ≤ maxLen ∧ cur.length = cap * size ∧ cur.take (n * size) = xs := by
  rcases h.2 with ⟨_, rfl⟩ | ⟨g, cap, cur, rfl, h1, h2, h3, h4, h5, h6⟩
  · omega
  · exact ⟨g, cap, cur.toList, rfl, h1, by unfold Blk; simpa using h2, h3, h4, by simpa using h5, by simpa using h6⟩
/-- What a copy of a row gives. -/
def RowCopy (w : World) (e n size : Nat) (zs : List Value) (en : Ending) (w' : World) : Prop :=
  ∃ g cap cur, en = .returned (.slice (some ⟨g, 0, none⟩) n cap) ∧ w.heap.size ≤ g ∧ Blk w' g e cur ∧ n ≤ cap ∧ cap ≤ maxLen ∧ n * size ≤ cur.length ∧ (∀ j, j < n * size → cur[j]? = zs[j]?) ∧ Below w.heap.size w w'
set_option maxRecDepth 100000 in set_option maxHeartbeats 3200000 in
theorem copyZ (b n c : Nat) (zs : List Value) (w : World) (hB : Blk w b 39 zs) (hl : n * 10 ≤ zs.length) (h1 : ∀ u ∈ zs.take (n * 10), u.oneCell' = true) (hn : 1 ≤ n) (hn6 : n ≤ 100) :
    Calls Try.prog 44 #[.slice (some ⟨b, 0, none⟩) n c] w (RowCopy w 39 n 10 zs) := by
  have hsrc : Grow.Src (w.alloc (.cells #[] 39)) 10 (some ⟨b, 0, none⟩) n c (zs.take (n * 10)) := ⟨by rw [List.length_take]; omega, h1, .inr ⟨_, rfl, fun j u hj => by
    rw [add_off, Nat.zero_add, (hB.later (below_box w _)).cell]
    rw [List.getElem?_take] at hj
    split at hj
    · exact hj
    · cases hj⟩⟩
  have k1 := fun w' => Lib.run_eql_slice_nil (P := Try.prog) w' 29 39 (some ⟨b, 0, none⟩) n c 0 0 Try.underlying29
  have hmade : (w.alloc (.cells #[] 39)).ownsRow w.heap.size 39 10 (.slice (some ⟨w.heap.size, 0, none⟩) 0 0) 0 [] := World.ownsRow_made w #[] 0 (Nat.le_refl _) (Nat.zero_le _) rfl
  have HS := Lib.hid hsrc
  clear hsrc hB hl h1
  go_enter Try.func44, Try.ntmps44
  go_wp2_with (at_builtin; refine wpList_append_k KZ rfl (.tmp 5) (.tmp 6) rfl _ 0 [] rfl hmade _ n c _ rfl HS.out ?c1 ?c2 ?_)
  case c1 => omega
  case c2 => simp
  intro v' w' hown hg _
  have hb : Below w.heap.size w w' := (below_box w _).grown hg (by simp) (fun k hk => by simp [Value.ownBlock] at hk; omega)
  obtain ⟨g, cap, cur, hv, q1, q2, q3, q4, q5, q6⟩ := own_open hown (by omega)
  subst hv
  have HR := Lib.hid (show RowCopy w 39 n 10 zs (.returned (.slice (some ⟨g, 0, none⟩) n cap)) w' from ⟨g, cap, cur, rfl, q1, q2, q3, q4, by rw [q5]; exact Nat.mul_le_mul_right _ q3, fun j hj => by
    have h2 : (cur.take (n * 10))[j]? = (zs.take (n * 10))[j]? := by rw [q6]; try rw [Nat.mul_one]
    rwa [List.getElem?_take, List.getElem?_take, if_pos hj, if_pos hj] at h2, hb⟩)
  clear hown hg q1 q2 q3 q4 q5 q6 hb
  go_wp2
  go_ret
  exact HR.out
set_option maxRecDepth 100000 in set_option maxHeartbeats 3200000 in
theorem copyC (b n c : Nat) (zs : List Value) (w : World) (hB : Blk w b 77 zs) (hl : n * 1 ≤ zs.length) (h1 : ∀ u ∈ zs.take (n * 1), u.oneCell' = true) (hn : 1 ≤ n) (hn6 : n ≤ 100) :
    Calls Try.prog 45 #[.slice (some ⟨b, 0, none⟩) n c] w (RowCopy w 77 n 1 zs) := by
  have hsrc : Grow.Src (w.alloc (.cells #[] 77)) 1 (some ⟨b, 0, none⟩) n c (zs.take (n * 1)) := ⟨by rw [List.length_take]; omega, h1, .inr ⟨_, rfl, fun j u hj => by
    rw [add_off, Nat.zero_add, (hB.later (below_box w _)).cell]
    rw [List.getElem?_take] at hj
    split at hj
    · exact hj
    · cases hj⟩⟩
  have k1 := fun w' => Lib.run_eql_slice_nil (P := Try.prog) w' 30 77 (some ⟨b, 0, none⟩) n c 0 0 Try.underlying30
  have hmade : (w.alloc (.cells #[] 77)).ownsRow w.heap.size 77 1 (.slice (some ⟨w.heap.size, 0, none⟩) 0 0) 0 [] := World.ownsRow_made w #[] 0 (Nat.le_refl _) (Nat.zero_le _) rfl
  have HS := Lib.hid hsrc
  clear hsrc hB hl h1
  go_enter Try.func45, Try.ntmps45
  go_wp2_with (at_builtin; refine wpList_append_k KC rfl (.tmp 5) (.tmp 6) rfl _ 0 [] rfl hmade _ n c _ rfl HS.out ?c1 ?c2 ?_)
  case c1 => omega
  case c2 => simp
  intro v' w' hown hg _
  have hb : Below w.heap.size w w' := (below_box w _).grown hg (by simp) (fun k hk => by simp [Value.ownBlock] at hk; omega)
  obtain ⟨g, cap, cur, hv, q1, q2, q3, q4, q5, q6⟩ := own_open hown (by omega)
  subst hv
  have HR := Lib.hid (show RowCopy w 77 n 1 zs (.returned (.slice (some ⟨g, 0, none⟩) n cap)) w' from ⟨g, cap, cur, rfl, q1, q2, q3, q4, by rw [q5]; exact Nat.mul_le_mul_right _ q3, fun j hj => by
    have h2 : (cur.take (n * 1))[j]? = (zs.take (n * 1))[j]? := by rw [q6]; try rw [Nat.mul_one]
    rwa [List.getElem?_take, List.getElem?_take, if_pos hj, if_pos hj] at h2, hb⟩)
  clear hown hg q1 q2 q3 q4 q5 q6 hb
  go_wp2
  go_ret
  exact HR.out
set_option maxRecDepth 100000 in set_option maxHeartbeats 3200000 in
theorem copyL (b n c : Nat) (zs : List Value) (w : World) (hB : Blk w b 28 zs) (hl : n * 1 ≤ zs.length) (h1 : ∀ u ∈ zs.take (n * 1), u.oneCell' = true) (hn : 1 ≤ n) (hn6 : n ≤ 100) :
    Calls Try.prog 46 #[.slice (some ⟨b, 0, none⟩) n c] w (RowCopy w 28 n 1 zs) := by
  have hsrc : Grow.Src (w.alloc (.cells #[] 28)) 1 (some ⟨b, 0, none⟩) n c (zs.take (n * 1)) := ⟨by rw [List.length_take]; omega, h1, .inr ⟨_, rfl, fun j u hj => by
    rw [add_off, Nat.zero_add, (hB.later (below_box w _)).cell]
    rw [List.getElem?_take] at hj
    split at hj
    · exact hj
    · cases hj⟩⟩
  have k1 := fun w' => Lib.run_eql_slice_nil (P := Try.prog) w' 75 28 (some ⟨b, 0, none⟩) n c 0 0 Try.underlying75
  have hmade : (w.alloc (.cells #[] 28)).ownsRow w.heap.size 28 1 (.slice (some ⟨w.heap.size, 0, none⟩) 0 0) 0 [] := World.ownsRow_made w #[] 0 (Nat.le_refl _) (Nat.zero_le _) rfl
  have HS := Lib.hid hsrc
  clear hsrc hB hl h1
  go_enter Try.func46, Try.ntmps46
  go_wp2_with (at_builtin; refine wpList_append_k KL rfl (.tmp 5) (.tmp 6) rfl _ 0 [] rfl hmade _ n c _ rfl HS.out ?c1 ?c2 ?_)
  case c1 => omega
  case c2 => simp
  intro v' w' hown hg _
  have hb : Below w.heap.size w w' := (below_box w _).grown hg (by simp) (fun k hk => by simp [Value.ownBlock] at hk; omega)
  obtain ⟨g, cap, cur, hv, q1, q2, q3, q4, q5, q6⟩ := own_open hown (by omega)
  subst hv
  have HR := Lib.hid (show RowCopy w 28 n 1 zs (.returned (.slice (some ⟨g, 0, none⟩) n cap)) w' from ⟨g, cap, cur, rfl, q1, q2, q3, q4, by rw [q5]; exact Nat.mul_le_mul_right _ q3, fun j hj => by
    have h2 : (cur.take (n * 1))[j]? = (zs.take (n * 1))[j]? := by rw [q6]; try rw [Nat.mul_one]
    rwa [List.getElem?_take, List.getElem?_take, if_pos hj, if_pos hj] at h2, hb⟩)
  clear hown hg q1 q2 q3 q4 q5 q6 hb
  go_wp2
  go_ret
  exact HR.out
end Go.Proofs.Ytdddkfpcbfgocaa
namespace Go.Proofs.Ytdddkfpcbfgocaa
open Go.RowKit Go.Over Go.Zn Go.Can Go.Seg Go.Grow
/-- A variable that holds an allocator whose zones and caches are the call's own. -/
structure AP (w0 : World) (g : Nat) (s : Sh) (zc ccs : List Value) (a : A) (W : World) : Prop where
  b : Below w0.heap.size w0 W
  lg : w0.heap.size ≤ g
  lz : w0.heap.size ≤ s.bz
  lc : w0.heap.size ≤ s.bc
  x : Blk W g 32 (s.cells a.bt a.hi)
  v : AW W s zc ccs a
theorem seg_in {zs : List Value} {o n j : Nat} {v : Value} (hj : j < n) : seg (zs.set (o + j) v) o n = (seg zs o n).set j v := by
  apply List.ext_getElem?
  intro k
  rcases Nat.lt_or_ge k n with hk | hk
  · rw [seg_get hk]
    by_cases e : k = j
    · subst e
      by_cases hl : o + k < zs.length
      · rw [List.getElem?_set_self hl, List.getElem?_set_self (by simp [seg]; omega)]
      · rw [List.getElem?_eq_none (by simp; omega), List.getElem?_eq_none (by simp [seg]; omega)]
    · rw [List.getElem?_set_ne (by omega), List.getElem?_set_ne (by omega), seg_get hk]
  · rw [List.getElem?_eq_none (by simp [seg]; omega), List.getElem?_eq_none (by simp [seg]; omega)]
theorem seg_out {zs : List Value} {o n j : Nat} {v : Value} (hj : j < o ∨ o + n ≤ j) : seg (zs.set j v) o n = seg zs o n := by
  apply List.ext_getElem?
  intro k
  rcases Nat.lt_or_ge k n with hk | hk
  · rw [seg_get hk, seg_get hk, List.getElem?_set_ne (by omega)]
  · rw [List.getElem?_eq_none (by simp [seg]; omega), List.getElem?_eq_none (by simp [seg]; omega)]
section
variable {w0 W W' : World} {g : Nat} {s : Sh} {zc ccs : List Value} {a : A}
theorem AP.below (h : AP w0 g s zc ccs a W) (hb : Below W.heap.size W W') : AP w0 g s zc ccs a W' := ⟨below_then h.b hb, h.lg, h.lz, h.lc, h.x.later hb, h.v.below hb⟩
theorem AP.c0 (h : AP w0 g s zc ccs a W) : W.cell? ⟨g, 0, none⟩ = some (.slice s.an s.nn s.cn) := by rw [h.x.cell]; rfl
theorem AP.c1 (h : AP w0 g s zc ccs a W) : W.cell? ⟨g, 1, none⟩ = some (.int .i64 a.bt) := by rw [h.x.cell]; rfl
theorem AP.c2 (h : AP w0 g s zc ccs a W) : W.cell? ⟨g, 2, none⟩ = some (.int .i64 a.hi) := by rw [h.x.cell]; rfl
theorem AP.c3 (h : AP w0 g s zc ccs a W) : W.cell? ⟨g, 3, none⟩ = some (.slice (some ⟨s.bz, 0, none⟩) s.nz s.cz) := by rw [h.x.cell]; rfl
theorem AP.c4 (h : AP w0 g s zc ccs a W) : W.cell? ⟨g, 4, none⟩ = some (.slice (some ⟨s.bc, 0, none⟩) s.nc s.cc) := by rw [h.x.cell]; rfl
theorem set_grown {g i : Nat} {u : Value} : W.grownBy (W.setCell ⟨g, i, none⟩ u) (some g) := grown_cell (grown_below (Below.refl _ _))
theorem ZV.set_row {cs : List Value} {z : Z} {k : Nat} {v : Value} (h : ZV W cs z) (hk : k < 5) (hv : Sl W v (z.fr k)) : ZV W (cs.set (5 + k) v) z := by
  have hl := h.len
  refine ⟨by rw [List.length_set]; exact hl, by rw [List.getElem?_set_ne (by omega)]; exact h.nd, by rw [List.getElem?_set_ne (by omega)]; exact h.kd, by rw [List.getElem?_set_ne (by omega)]; exact h.st, by rw [List.getElem?_set_ne (by omega)]; exact h.ct, by rw [List.getElem?_set_ne (by omega)]; exact h.mn, fun j hj => ?_⟩
  by_cases e : j = k
  · subst e
    exact ⟨v, List.getElem?_set_self (by omega), hv⟩
  · obtain ⟨u, q1, q2⟩ := h.fr j hj
    exact ⟨u, by rw [List.getElem?_set_ne (by omega)]; exact q1, q2⟩
/-- A row of a zone is replaced by one of the same numbers. -/
theorem AP.zrow {i k : Nat} {z : Z} {v : Value} (h : AP w0 g s zc ccs a W) (hz : a.zs[i]? = some z) (hk : k < 5) (hv : Sl W v (z.fr k)) :
    AP w0 g s (zc.set (i * 10 + (5 + k)) v) ccs a (W.setCell ⟨s.bz, i * 10 + (5 + k), none⟩ v) := by
  have hx := h.v.q.x
  have hg : W.grownBy (W.setCell ⟨s.bz, i * 10 + (5 + k), none⟩ v) (some s.bz) := set_grown
  have kp : ∀ {q t : Nat} {bs : List Value}, t ≠ 39 → Blk W q t bs → Blk (W.setCell ⟨s.bz, i * 10 + (5 + k), none⟩ v) q t bs := fun ht hq => hq.far (p := ⟨s.bz, i * 10 + (5 + k), none⟩) (hq.ne_type hx ht) v
  refine ⟨h.b.setCell (p := ⟨s.bz, i * 10 + (5 + k), none⟩) h.lz v, h.lg, h.lz, h.lc, kp (by decide) h.x, ⟨h.v.en, h.v.ez, h.v.ec, h.v.nd.past fun _ _ => kp (by decide), ⟨hx.set _ _, by rw [List.length_set]; exact h.v.q.n, fun j y hy => ?_⟩, h.v.zl, h.v.zm, h.v.c.past (kp (by decide) h.v.c.x) (fun _ _ => kp (by decide)) (fun _ _ => kp (by decide)), h.v.cl, h.v.cm⟩⟩
  by_cases e : j = i
  · subst e
    rw [hz] at hy
    cases hy
    rw [seg_in (by omega)]
    exact ((h.v.q.row j z hz).set_row hk hv).past fun _ _ => kp (by decide)
  · rw [seg_out (by omega)]
    exact (h.v.q.row j y hy).past fun _ _ => kp (by decide)
/-- A cache is replaced. -/
theorem AP.cset {c : Nat} {L' : List (List Int)} {v : Value} (h : AP w0 g s zc ccs a W) (hg : W.grownBy W' (some s.bc)) (hB : Blk W' s.bc 77 (ccs.set c v)) (hc : c < s.nc) (hv : Lc W v L') :
    AP w0 g s zc (ccs.set c v) { a with cs := a.cs.set c L' } W' := by
  have hx := h.v.c.x
  have kp : ∀ {q t : Nat} {bs : List Value}, t ≠ 77 → Blk W q t bs → Blk W' q t bs := fun ht hq => hq.grown hg (by simpa using Ne.symm (hq.ne_type hx ht))
  have kl : ∀ {u : Value} {L : List (List Int)}, Lc W u L → Lc W' u L := fun ⟨b, cc, bs, h2, h3, h4, h5⟩ => ⟨b, cc, bs, h2, h3, h4, kp (by decide) h5.x, h5.n, fun i l hl => by obtain ⟨u, q1, q2⟩ := h5.row i l hl; exact ⟨u, q1, q2.past fun _ _ => kp (by decide)⟩⟩
  refine ⟨h.b.grown hg h.b.size (fun q hq => by cases hq; exact h.lc), h.lg, h.lz, h.lc, kp (by decide) h.x, ⟨h.v.en, h.v.ez, by show (a.cs.set c L').length = _; rw [List.length_set]; exact h.v.ec, h.v.nd.past fun _ _ => kp (by decide), h.v.q.past (kp (by decide) h.v.q.x) (fun _ _ => kp (by decide)), h.v.zl, h.v.zm, ⟨hB, by show (a.cs.set c L').length ≤ _; rw [List.length_set, List.length_set]; exact h.v.c.n, fun d L hL => ?_⟩, h.v.cl, h.v.cm⟩⟩
  have hcl : c < ccs.length := by have := h.v.c.n; rw [h.v.ec] at this; omega
  by_cases e : d = c
  · subst e
    rw [List.getElem?_set_self (by rw [h.v.ec]; exact hc)] at hL
    cases hL
    exact ⟨v, List.getElem?_set_self hcl, kl hv⟩
  · rw [List.getElem?_set_ne (Ne.symm e)] at hL
    obtain ⟨u, q1, q2⟩ := h.v.c.row d L hL
    exact ⟨u, by rw [List.getElem?_set_ne (Ne.symm e)]; exact q1, kl q2⟩
theorem AP.ra (h : AP w0 g s zc ccs a W) : Ra W (.agg (s.cells a.bt a.hi).toArray) a := ⟨s, zc, ccs, rfl, h.v⟩
end
theorem QV.copy {w w' : World} {b b' n : Nat} {zc zc' : List Value} {zs : List Z} (h : QV w b zc zs) (hb : Below w.heap.size w w') (hB : Blk w' b' 39 zc') (hn : zs.length = n) (hl : n * 10 ≤ zc'.length) (hc : ∀ j, j < n * 10 → zc'[j]? = zc[j]?) : QV w' b' zc' zs := by
  refine ⟨hB, by omega, fun i z hz => ?_⟩
  have hi := lt_of hz
  have e : seg zc' (i * 10) 10 = seg zc (i * 10) 10 := by
    apply List.ext_getElem?
    intro j
    rcases Nat.lt_or_ge j 10 with hj | hj
    · rw [seg_get hj, seg_get hj, hc _ (by omega)]
    · rw [List.getElem?_eq_none (by simp [seg]; omega), List.getElem?_eq_none (by simp [seg]; omega)]
  rw [e]
  exact (h.row i z hz).below hb
theorem CV.copy {w w' : World} {b b' n : Nat} {cc cc' : List Value} {cs : List (List (List Int))} (h : CV w b cc cs) (hb : Below w.heap.size w w') (hB : Blk w' b' 77 cc') (hn : cs.length = n) (hl : n ≤ cc'.length) (hc : ∀ j, j < n → cc'[j]? = cc[j]?) : CV w' b' cc' cs := by
  refine ⟨hB, by omega, fun c L hL => ?_⟩
  obtain ⟨v, h1, h2⟩ := h.row c L hL
  exact ⟨v, by rw [hc c (by have := lt_of hL; omega)]; exact h1, h2.below hb⟩
theorem QV.one {w : World} {b n : Nat} {zc : List Value} {zs : List Z} (h : QV w b zc zs) (hn : zs.length = n) : ∀ u ∈ zc.take (n * 10), u.oneCell' = true := by
  intro u hu
  obtain ⟨j, hj⟩ := List.getElem?_of_mem hu
  rw [List.getElem?_take] at hj
  split at hj
  · rename_i hjn
    obtain ⟨z, hz⟩ := get_some hn (show j / 10 < n by omega)
    have h1 := (h.row _ z hz).one
    have : (seg zc (j / 10 * 10) 10)[j % 10]? = some u := by rw [seg_get (by omega), show j / 10 * 10 + j % 10 = j by omega]; exact hj
    exact h1 u (List.mem_of_getElem? this)
  · cases hj
theorem CV.one {w : World} {b n : Nat} {cc : List Value} {cs : List (List (List Int))} (h : CV w b cc cs) (hn : cs.length = n) : ∀ u ∈ cc.take (n * 1), u.oneCell' = true := by
  intro u hu
  obtain ⟨j, hj⟩ := List.getElem?_of_mem hu
  rw [List.getElem?_take] at hj
  split at hj
  · rename_i hjn
    obtain ⟨L, hL⟩ := get_some hn (show j < n by omega)
    obtain ⟨v, h1, h2⟩ := h.row j L hL
    rw [hj] at h1
    cases h1
    obtain ⟨_, _, h3, _⟩ := h2.form
    rw [h3]; rfl
  · cases hj
end Go.Proofs.Ytdddkfpcbfgocaa
