/- Walks: a copy of an allocator (continued). Walks: frames are given to a zone; the list of a cache is drained. Walks: a batch of frames is taken from a zone into a cache. Walks: all caches are drained. Walks: a frame is given back through the cache of a processor. -/
import Derived.Test.YtdddkfpcbfgocaaG3
namespace Go.Proofs.Ytdddkfpcbfgocaa
open Go.RowKit Go.Over Go.Zn Go.Can Go.Seg Go.Grow
/-- What the region reads. -/
def CS (g : Nat) (s : Sh) (U : World) : Prop := U.cell? ⟨g, 0, none⟩ = some (.slice s.an s.nn s.cn) ∧ U.cell? ⟨g, 3, none⟩ = some (.slice (some ⟨s.bz, 0, none⟩) s.nz s.cz) ∧ U.cell? ⟨g, 4, none⟩ = some (.slice (some ⟨s.bc, 0, none⟩) s.nc s.cc)
def nilA : List Value := [.slice none 0 0, .int .i64 0, .int .i64 0, .slice none 0 0, .slice none 0 0]
/-- Lists whose rows are a call's own. -/
structure LO (W : World) (B b : Nat) (bs : List Value) (L : List (List Int)) : Prop where
  x : Blk W b 28 bs
  n : L.length ≤ bs.length
  row : ∀ (y : Nat) (l : List Int), L[y]? = some l → ∃ v, bs[y]? = some v ∧ Own W B v l
  lo : B ≤ b
def CO (W : World) (B : Nat) (ccs : List Value) (cs : List (List (List Int))) (m : Nat) : Prop :=
  ∀ (c : Nat) (L : List (List Int)), c < m → cs[c]? = some L → ∃ b k bs, ccs[c]? = some (.slice (some ⟨b, 0, none⟩) L.length k) ∧ L.length ≤ k ∧ k ≤ maxLen ∧ LO W B b bs L
theorem LO.later {W W' : World} {B b : Nat} {bs : List Value} {L : List (List Int)} (h : LO W B b bs L) (hb : Below W.heap.size W W') : LO W' B b bs L :=
  ⟨h.x.later hb, h.n, fun y l hl => by obtain ⟨v, h1, h2⟩ := h.row y l hl; exact ⟨v, h1, h2.later hb⟩, h.lo⟩
theorem LO.grown {W W' : World} {B b g t : Nat} {bs cs : List Value} {L : List (List Int)} (h : LO W B b bs L) (hB : Blk W g t cs) (ht : t ≠ 28) (h3 : t ≠ 3) (hg : W.grownBy W' (some g)) : LO W' B b bs L :=
  ⟨h.x.grown hg (by simpa using hB.ne_type h.x ht), h.n, fun y l hl => by obtain ⟨v, h1, h2⟩ := h.row y l hl; exact ⟨v, h1, h2.kept hg (.inr (hB.not_own h2 (Ne.symm h3)))⟩, h.lo⟩
theorem CO.later {W W' : World} {B m : Nat} {ccs : List Value} {cs : List (List (List Int))} (h : CO W B ccs cs m) (hb : Below W.heap.size W W') : CO W' B ccs cs m := fun c L hc hL => by
  obtain ⟨b, k, bs, h1, h2, h3, h4⟩ := h c L hc hL
  exact ⟨b, k, bs, h1, h2, h3, h4.later hb⟩
/-- What is known of the rows of a copy: those of the zones lie in an earlier world. -/
structure OA (W1 W : World) (s : Sh) (zc ccs : List Value) (a : A) (m : Nat) : Prop where
  k : ∀ b bs, Blk W1 b 3 bs → Blk W b 3 bs
  q : ∀ (i : Nat) (z : Z), a.zs[i]? = some z → ZV W1 (seg zc (i * 10) 10) z
  n : Sl W1 (.slice s.an s.nn s.cn) a.nodes
  c : CO W W1.heap.size ccs a.cs m
/-- What a copy gives. -/
def CloneAns (w : World) (a : A) (e : Ending) (w' : World) : Prop :=
  ∃ s zc ccs W1, e = .returned (.agg (s.cells a.bt a.hi).toArray) ∧ AW w' s zc ccs a ∧ w.heap.size ≤ s.bz ∧ w.heap.size ≤ s.bc ∧ Below w.heap.size w w' ∧ OA W1 w' s zc ccs a s.nc ∧ w.heap.size ≤ W1.heap.size
theorem CO.grown {W W' : World} {B m g t : Nat} {ccs cs : List Value} {css : List (List (List Int))} (h : CO W B ccs css m) (hB : Blk W g t cs) (ht : t ≠ 28) (h3 : t ≠ 3) (hg : W.grownBy W' (some g)) : CO W' B ccs css m := fun c L hc hL => by
  obtain ⟨b, k, bs, h1, h2, h4, h5⟩ := h c L hc hL
  exact ⟨b, k, bs, h1, h2, h4, h5.grown hB ht h3 hg⟩
/-- The lists of a cache under way: those below m are copied. -/
structure LX (w : World) (r : Nat) (bs : List Value) (L : List (List Int)) (B m : Nat) (W : World) : Prop where
  b : Below w.heap.size w W
  l : w.heap.size ≤ r
  x : Blk W r 28 bs
  n : L.length ≤ bs.length
  own : ∀ (y : Nat) (l : List Int), y < m → L[y]? = some l → ∃ v, bs[y]? = some v ∧ Own W B v l
  rest : ∀ (y : Nat) (l : List Int), m ≤ y → L[y]? = some l → ∃ v, bs[y]? = some v ∧ Sl W v l
theorem LX.below {w W W' : World} {b B m : Nat} {bs : List Value} {L : List (List Int)} (h : LX w b bs L B m W) (hb : Below W.heap.size W W') : LX w b bs L B m W' :=
  ⟨below_then h.b hb, h.l, h.x.later hb, h.n, fun y l hy hl => by obtain ⟨v, h1, h2⟩ := h.own y l hy hl; exact ⟨v, h1, h2.later hb⟩, fun y l hy hl => by obtain ⟨v, h1, h2⟩ := h.rest y l hy hl; exact ⟨v, h1, h2.below hb⟩⟩
theorem LX.next {w W : World} {b B m : Nat} {bs : List Value} {L : List (List Int)} {v : Value} {l : List Int} (h : LX w b bs L B m W) (hl : L[m]? = some l) (hv : Own W B v l) : LX w b (bs.set m v) L B (m + 1) (W.setCell ⟨b, m, none⟩ v) := by
  have hm : m < bs.length := Nat.lt_of_lt_of_le (lt_of hl) h.n
  refine ⟨h.b.setCell (p := ⟨b, m, none⟩) h.l v, h.l, h.x.set _ _, by rw [List.length_set]; exact h.n, fun y l' hy hl' => ?_, fun y l' hy hl' => ?_⟩
  · by_cases e : y = m
    · subst e
      rw [hl] at hl'
      cases hl'
      exact ⟨v, List.getElem?_set_self hm, hv.far h.x (by decide) _ _⟩
    · obtain ⟨u, q1, q2⟩ := h.own y l' (by omega) hl'
      exact ⟨u, by rw [List.getElem?_set_ne (Ne.symm e)]; exact q1, q2.far h.x (by decide) _ _⟩
  · obtain ⟨u, q1, q2⟩ := h.rest y l' (by omega) hl'
    exact ⟨u, by rw [List.getElem?_set_ne (by omega)]; exact q1, q2.far h.x (by decide) _ _⟩
section
variable {ops : Array Oper} {rest : List Oper} {i j : Nat} {ty : TypeId} {pos : String} {af : Array Edge} {a : Act} {w : World} {Q : Exit → Act → World → Prop} {g bt hi : Nat} {s : Sh}
/-- An allocator is stored whole. -/
theorem stA {zs : List Value} (hx : a.eval (.tmp i) = .pointer (some ⟨g, 0, none⟩)) (hy : a.eval (.tmp j) = .agg (s.cells bt hi).toArray) (hB : Blk w g 32 zs) (hz : zs.length = 5)
    (h : ∀ W, Blk W g 32 (s.cells bt hi) → w.grownBy W (some g) → wpList Try.prog ops Q rest (a.put none undef) W) :
    wpList Try.prog ops Q ({ dst := none, op := .store 32 (.tmp i) (.tmp j), type := ty, pos := pos, after := af, guard := none } :: rest) a w := by
  have e : lay zs 0 (s.cells bt hi) = s.cells bt hi := by
    have hl : (s.cells bt hi).length = 5 := rfl
    unfold lay
    rw [hl, List.take_zero, List.nil_append, List.drop_eq_nil_of_le (by omega), List.append_nil]
  refine wpList_store_part (cs := s.cells bt hi) infoA hx hy hB (by rw [hz]; exact Nat.le_refl _) (by intro u hu; simp [Sh.cells] at hu; rcases hu with rfl | rfl | rfl | rfl | rfl <;> rfl) fun W q1 q2 => h W (by rw [← e]; exact q1) q2
theorem resA {fn : Func} {p : Tmp} (h : fn.results = #[.cell p 32]) (tmps : Array Value) (w : World) (g : Nat) (cs : List Value) (hp : tmps.getD p undef = .pointer (some ⟨g, 0, none⟩)) (hg : Blk w g 32 cs) (hl : cs.length = 5) :
    (results fn tmps).run Try.prog w = .ok (.agg cs.toArray) w :=
  results_cell_row h tmps w g 32 cs.toArray (0, 0) _ hp hg Try.underlying32 rfl (by rw [infoA]; simp [hl])
theorem resA1 {fn : Func} {p q : Tmp} (h : fn.results = #[.cell p 32, .tmp q]) (tmps : Array Value) (w : World) (g : Nat) (cs : List Value) (v : Value) (hp : tmps.getD p undef = .pointer (some ⟨g, 0, none⟩)) (hg : Blk w g 32 cs) (hl : cs.length = 5) (hv : tmps.getD q undef = v) :
    (results fn tmps).run Try.prog w = .ok (.tuple #[.agg cs.toArray, v]) w := by
  have hp' : tmps[p]?.getD undef = .pointer (some ⟨g, 0, none⟩) := by simpa using hp
  have hv' : tmps[q]?.getD undef = v := by simpa using hv
  have hl := run_loadVar_row (P := Try.prog) w g 32 32 cs.toArray (0, 0) _ hg Try.underlying32 rfl (by rw [infoA]; simp [hl])
  simp [results, h, hp', hv', asAddr, hl]
theorem resA2 {fn : Func} {p q r : Tmp} (h : fn.results = #[.cell p 32, .tmp q, .tmp r]) (tmps : Array Value) (w : World) (g : Nat) (cs : List Value) (v z : Value) (hp : tmps.getD p undef = .pointer (some ⟨g, 0, none⟩)) (hg : Blk w g 32 cs) (hl : cs.length = 5) (hv : tmps.getD q undef = v) (hz : tmps.getD r undef = z) :
    (results fn tmps).run Try.prog w = .ok (.tuple #[.agg cs.toArray, v, z]) w := by
  have hp' : tmps[p]?.getD undef = .pointer (some ⟨g, 0, none⟩) := by simpa using hp
  have hv' : tmps[q]?.getD undef = v := by simpa using hv
  have hz' : tmps[r]?.getD undef = z := by simpa using hz
  have hl := run_loadVar_row (P := Try.prog) w g 32 32 cs.toArray (0, 0) _ hg Try.underlying32 rfl (by rw [infoA]; simp [hl])
  simp [results, h, hp', hv', hz', asAddr, hl]
end
theorem set_same {α : Type} {l : List α} {i : Nat} {x : α} (h : l[i]? = some x) : l.set i x = l := by
  apply List.ext_getElem?
  intro j
  by_cases e : j = i
  · subst e
    rw [List.getElem?_set_self (lt_of h), h]
  · rw [List.getElem?_set_ne (Ne.symm e)]
set_option maxRecDepth 100000 in set_option maxHeartbeats 3200000 in
theorem aclone (v : Value) (a : A) (w : World) (H : Ra w v a) (hV : VA a) : Calls Try.prog 17 #[v] w (CloneAns w a) := by
  obtain ⟨s, zc, ccs, rfl, hW⟩ := H
  have X0 := (AX.new hW).below (below_box _ (.cells #[.slice none 0 0, .int .i64 0, .int .i64 0, .slice none 0 0, .slice none 0 0] 32))
  have hs : (w.alloc (.cells (s.cells a.bt a.hi).toArray 32)).heap.size = w.heap.size + 1 := by simp
  have Z0 := Blk.new (w.alloc (.cells (s.cells a.bt a.hi).toArray 32)) 32 #[.slice none 0 0, .int .i64 0, .int .i64 0, .slice none 0 0, .slice none 0 0] nilA rfl
  rw [hs] at Z0
  have HV := Lib.hid hV
  have HN := Lib.hid hW.ez; have HC := Lib.hid hW.ec
  have hnn := hV.n4
  rw [hW.en] at hnn
  have hnz6 : s.nz ≤ 6 := by rw [← hW.ez]; exact hV.z6
  have hnz1 : 1 ≤ s.nz := by rw [← hW.ez]; exact hV.z1
  have hnc4 : s.nc ≤ 4 := by rw [← hW.ec, hV.nc]; exact hV.n4
  have hnc1 : 1 ≤ s.nc := by rw [← hW.ec, hV.nc]; exact hV.n0
  clear hV hW hs
  go_enter Try.func17, Try.ntmps17
  go_upto_region 1 with fail
  obtain ⟨w1, hw1⟩ : ∃ W, W = (w.alloc (.cells (s.cells a.bt a.hi).toArray 32)).alloc (.cells #[.slice none 0 0, .int .i64 0, .int .i64 0, .slice none 0 0, .slice none 0 0] 32) := ⟨_, rfl⟩
  rw [← hw1] at X0 Z0 ⊢
  have hgg : w.heap.size + 1 ≠ w.heap.size := by omega
  have hlr : w.heap.size ≤ w.heap.size + 1 := by omega
  obtain ⟨gr, hgr⟩ : ∃ g, w.heap.size + 1 = g := ⟨_, rfl⟩
  rw [hgr] at Z0 hgg hlr
  obtain ⟨g, hg0⟩ : ∃ g, w.heap.size = g := ⟨_, rfl⟩
  have hgg : gr ≠ g := by rw [← hg0]; exact hgg
  have X1 : AX w g s zc ccs a w1 := by rw [← hg0]; exact X0
  rw [hgr, hg0]
  clear hw1 X0 hg0 hgr
  refine wp_region_stages (CS g s)
    (.quiet [0, 1, 3, 4, 6, 7] (.only 2 (.quiet [9] (.only 5 (.only 8 (.brk 10 (.quiet [11] (.only 12 (.quiet [13] (.only 14 .done)))))))))) [10, 12, 14] (by kernel_rfl) (by kernel_rfl) ⟨X1.c0, X1.c3, X1.c4⟩ ?_
  intro W hWW hWe
  have bW : Below w1.heap.size w1 W := by rw [hWe]; exact (Below.refl _ _).drew
  clear hWe
  have X2 := X1.below bW
  have Z2 := Z0.later bW
  have hbase : w.heap.size ≤ W.heap.size := X2.b.size
  clear X1 Z0 bW
  simp only [wpPlan2, inOrder, List.filterMap_cons, List.filterMap_nil, List.getElem?_cons_zero, List.getElem?_cons_succ]
  have q0 := fun z => (hold_ok (S0 := CS g s) hWW z).1
  have q3 := fun z => (hold_ok (S0 := CS g s) hWW z).2.1
  have q4 := fun z => (hold_ok (S0 := CS g s) hWW z).2.2
  show wpQuiet _ _ _ _ (_ :: _ :: _ :: _ :: _ :: [_]) _
  repeat (go_big_quiet_step (fail))
  refine wpQuiet_nil ?_
  clear q0 q3 q4 hWW
  show wpList _ _ _ [_] _ _
  go_wp2_with fail
  refine (clone _ _ W X2.v.nd (by have := HV.out.n4; omega)).mono ?_
  rintro e w3 ⟨vn, rfl, On, b3⟩
  have X3 := X2.below b3
  have Z3 := Z2.later b3
  clear X2 Z2 b3
  go_wp2
  refine ⟨hold_of ⟨X3.c0, X3.c3, X3.c4⟩, ?_⟩
  show wpQuiet _ _ _ _ ([_]) _
  repeat (go_big_quiet_step (fail))
  refine wpQuiet_nil ?_
  have c3 := X3.c3
  show wpList _ _ _ [_] _ _
  go_wp2_with fail
  refine (copyZ s.bz s.nz s.cz zc w3 X3.v.q.x (by have := X3.v.q.n; rw [HN.out] at this; omega) (X3.v.q.one HN.out) hnz1 (by omega)).mono ?_
  rintro e w4 ⟨bz', cz', zc', rfl, lz, BZ, z1, z2, z3, z4, b4⟩
  have X4 := X3.below b4
  have Z4 := Z3.later b4
  have On4 := On.later b4
  have Q4 := X3.v.q.copy b4 BZ HN.out z3 z4
  have hlz : w.heap.size ≤ bz' := Nat.le_trans X3.b.size lz
  clear X3 Z3 On b4 c3 BZ lz z3 z4
  go_wp2
  refine ⟨hold_of ⟨X4.c0, X4.c3, X4.c4⟩, ?_⟩
  have c4 := X4.c4
  show wpList _ _ _ [_] _ _
  go_wp2_with fail
  refine (copyC s.bc s.nc s.cc ccs w4 X4.v.c.x (by have := X4.v.c.n; rw [HC.out] at this; omega) (X4.v.c.one HC.out) hnc1 (by omega)).mono ?_
  rintro e w5 ⟨bc', cc', ccs', rfl, lc, BC, k1, k2, k3, k4, b5⟩
  have X5 := X4.below b5
  have Z5 := Z4.later b5
  have On5 := On4.later b5
  have Q5 := Q4.below b5
  have C5 := X4.v.c.copy b5 BC HC.out (by omega) (fun j hj => k4 j (by omega))
  have hlc : w.heap.size ≤ bc' := Nat.le_trans X4.b.size lc
  clear X4 Z4 On4 Q4 b5 c4 BC lc k3 k4
  go_wp2
  refine ⟨hold_of ⟨X5.c0, X5.c3, X5.c4⟩, ?_⟩
  obtain ⟨an', cn', hvn, _⟩ := own_form On5
  rw [X5.v.en] at hvn
  subst hvn
  have N5 := On5.sl
  have c0 := X5.c0
  have c3 := X5.c3
  have c4 := X5.c4
  have f0 := X5.x.frozen 0
  have f3 := X5.x.frozen 3
  have f4 := X5.x.frozen 4
  show wpList _ _ _ [_] _ _
  go_wp2
  refine ⟨trivial, ?_⟩
  show wpQuiet _ _ _ _ ([_]) _
  repeat (go_big_quiet_step (fail))
  refine wpQuiet_nil ?_
  show wpList _ _ _ [_] _ _
  go_wp2
  refine ⟨trivial, ?_⟩
  show wpQuiet _ _ _ _ ([_]) _
  repeat (go_big_quiet_step (fail))
  refine wpQuiet_nil ?_
  show wpList _ _ _ [_] _ _
  go_wp2
  refine ⟨trivial, ?_⟩
  refine NoPanic.normal ?_
  have B6 : Blk (((w5.setCell ⟨g, 0, none⟩ (.slice an' s.nn cn')).setCell ⟨g, 3, none⟩ (.slice (some ⟨bz', 0, none⟩) s.nz cz')).setCell ⟨g, 4, none⟩ (.slice (some ⟨bc', 0, none⟩) s.nc cc')) g 32 ((Sh.mk an' s.nn cn' bz' s.nz cz' bc' s.nc cc').cells a.bt a.hi) :=
    ((X5.x.set 0 (.slice an' s.nn cn')).set 3 (.slice (some ⟨bz', 0, none⟩) s.nz cz')).set 4 (.slice (some ⟨bc', 0, none⟩) s.nc cc')
  have g6 : w5.grownBy (((w5.setCell ⟨g, 0, none⟩ (.slice an' s.nn cn')).setCell ⟨g, 3, none⟩ (.slice (some ⟨bz', 0, none⟩) s.nz cz')).setCell ⟨g, 4, none⟩ (.slice (some ⟨bc', 0, none⟩) s.nc cc')) (some g) := grown_cell (grown_cell (grown_cell (grown_below (Below.refl _ _))))
  obtain ⟨w6, hw6⟩ : ∃ W, W = (((w5.setCell ⟨g, 0, none⟩ (.slice an' s.nn cn')).setCell ⟨g, 3, none⟩ (.slice (some ⟨bz', 0, none⟩) s.nz cz')).setCell ⟨g, 4, none⟩ (.slice (some ⟨bc', 0, none⟩) s.nc cc')) := ⟨_, rfl⟩
  rw [← hw6] at B6 g6 ⊢
  have Z6 := Z5.grown g6 (by simpa using Ne.symm hgg)
  have kp : ∀ {q t : Nat} {bs : List Value}, t ≠ 32 → Blk w5 q t bs → Blk w6 q t bs := fun ht hq => hq.grown g6 (by simpa using X5.x.ne_type hq (Ne.symm ht))
  obtain ⟨t, ht⟩ : ∃ t, t = Sh.mk an' s.nn cn' bz' s.nz cz' bc' s.nc cc' := ⟨_, rfl⟩
  have P6 : AP w g t zc' ccs' a w6 := by
    rw [ht]
    exact ⟨X5.b.grown g6 X5.b.size (fun q hq => by cases hq; exact X5.l), X5.l, hlz, hlc, B6, ⟨X5.v.en, HN.out, HC.out, N5.past fun _ _ => kp (by decide), Q5.past (kp (by decide) Q5.x) (fun _ _ => kp (by decide)), z1, z2, C5.past (kp (by decide) C5.x) (fun _ _ => kp (by decide)) (fun _ _ => kp (by decide)), k1, k2⟩⟩
  have tz6 : t.nz ≤ 6 := by rw [ht]; exact hnz6
  have tc4 : t.nc ≤ 4 := by rw [ht]; exact hnc4
  have HTN := Lib.hid (show a.zs.length = t.nz by rw [ht]; exact HN.out)
  have HTC := Lib.hid (show a.cs.length = t.nc by rw [ht]; exact HC.out)
  clear hw6 B6 g6 Z5 kp ht X5 N5 Q5 C5 On5 c0 c3 c4 f0 f3 f4 hlz hlc z1 z2 k1 k2 hnn hnz6 hnz1 hnc4 hnc1 HN HC hbase
  have c3 := P6.c3
  go_wp2
  go_loopg [23] t.nz (fun gg v23 wr => ∃ (i : Nat) (zc : List Value), i + gg = t.nz ∧ v23 = .int .i64 i ∧ AP w g t zc ccs' a wr ∧ Blk wr gr 32 nilA)
  case atStart => exact ⟨0, _, by omega, rfl, P6, Z6⟩
  case round =>
    clear P6 Z6 c3
    obtain ⟨i, zc, hi, rfl, P7, Z7⟩ := hrel
    cases gk with
    | succ gg =>
      have hin : i < t.nz := by omega
      have HI := Lib.hid hi
      obtain ⟨z, hz⟩ := get_some HTN.out hin
      have HZ := Lib.hid hz
      have hvz : VZ z := by have := HV.out.vz i (lt_of hz); rw [zn_of hz] at this; exact this
      have HVZ := Lib.hid hvz
      clear hi hz hvz
      go_wp2
      go_loopg [26] 5 (fun g2 v26 wj => ∃ (k : Nat) (zc : List Value), k + g2 = 5 ∧ v26 = .int .i64 k ∧ AP w g t zc ccs' a wj ∧ Blk wj gr 32 nilA)
      case atStart => exact ⟨0, _, by omega, rfl, P7, Z7⟩
      case round =>
        clear P7 Z7
        obtain ⟨k, zc, hk, rfl, P8, Z8⟩ := hrel
        cases gk with
        | zero =>
          have hk5 : ¬ k < 5 := by omega
          clear hk
          go_wp2
          go_roundg gg
          case rel => exact ⟨i + 1, zc, by have := HI.out; omega, by go_num, P8, Z8⟩
          case measure => omega
        | succ g2 =>
          have hk5 : k < 5 := by omega
          have HK := Lib.hid hk
          have tk : decide ((k : Int) < 5) = true := by simp; omega
          obtain ⟨v, hv, hsl⟩ := (P8.v.q.row i z HZ.out).fr k hk5
          have hvl := HVZ.out.len hk5
          have d8 : wr.cell? ⟨t.bz, i * 10 + (5 + k), none⟩ = some v := P8.v.q.cell HZ.out hv
          have e8 : i * 10 + 5 + k = i * 10 + (5 + k) := by omega
          have HS := Lib.hid hsl
          clear hk hv hsl
          have c3 := P8.c3
          go_wp2_with fail
          refine wp_region_plan (fun U => U.cell? ⟨g, 3, none⟩ = some (.slice (some ⟨t.bz, 0, none⟩) t.nz t.cz)) (.quiet [0, 1, 2, 3, 4, 5, 6, 7, 8, 9, 10, 13, 14] (.only 11 (.only 12 (.quiet [15] (.only 16 .done))))) 99 (by kernel_rfl) (by kernel_rfl) c3 ?_
          intro W hWW hWe
          have bW : Below wr.heap.size wr W := by rw [hWe]; exact (Below.refl _ _).drew
          clear hWe
          have P9 := P8.below bW
          have Z9 := Z8.later bW
          have S9 := HS.out.below bW
          have d9 := cell_later bW d8
          clear P8 Z8 bW c3 d8
          simp only [wpPlan, inOrder, List.filterMap_cons, List.filterMap_nil, List.getElem?_cons_zero, List.getElem?_cons_succ]
          have q3 := fun z => hold_ok (S0 := fun U => U.cell? ⟨g, 3, none⟩ = some (.slice (some ⟨t.bz, 0, none⟩) t.nz t.cz)) hWW z
          show wpQuiet _ _ _ _ (_ :: _ :: _ :: _ :: _ :: _ :: _ :: _ :: _ :: _ :: _ :: _ :: [_]) _
          repeat (go_big_quiet_step (fail))
          refine wpQuiet_nil ?_
          clear q3 hWW
          show wpList _ _ _ [_] _ _
          go_wp2
          refine ⟨hold_of P9.c3, ?_⟩
          show wpList _ _ _ [_] _ _
          go_wp2_with fail
          refine (clone v (z.fr k) W S9 (by omega)).mono ?_
          rintro e w10 ⟨v', rfl, O10, b10⟩
          have P10 := P9.below b10
          have Z10 := Z9.later b10
          have c3 := P10.c3
          obtain ⟨v2, hv2, hsl2⟩ := (P10.v.q.row i z HZ.out).fr k hk5
          have d10 := P10.v.q.cell HZ.out hv2
          have f10 := P10.v.q.x.frozen (i * 10 + (5 + k))
          have P11 := P10.zrow HZ.out hk5 O10.sl
          have Z11 := Z10.far (p := ⟨t.bz, i * 10 + (5 + k), none⟩) (Z10.ne_type P10.v.q.x (by decide)) v'
          have c11 := P11.c3
          obtain ⟨a', c', hv', _⟩ := own_form O10
          subst hv'
          clear P9 Z9 S9 d9 P10 Z10 b10 hsl2 hv2 O10
          go_wp2
          refine ⟨hold_of c3, ?_⟩
          show wpQuiet _ _ _ _ ([_]) _
          repeat (go_big_quiet_step (fail))
          refine wpQuiet_nil ?_
          show wpList _ _ _ [_] _ _
          go_wp2
          refine ⟨hold_of c11, NoPanic.normal ?_⟩
          obtain ⟨w11, hw11⟩ : ∃ W, W = w10.setCell ⟨t.bz, i * 10 + (5 + k), none⟩ (.slice a' (z.fr k).length c') := ⟨_, rfl⟩
          rw [← hw11] at P11 Z11 ⊢
          clear hw11 c3 d10 f10 c11
          go_wp2
          go_roundg g2
          case rel => exact ⟨k + 1, _, by have := HK.out; omega, by go_num, P11, Z11⟩
          case measure => omega
    | zero =>
      have hin : ¬ i < t.nz := by omega
      have c4 := P7.c4
      have O7 : OA wr wr t zc ccs' a 0 := ⟨fun _ _ h => h, P7.v.q.row, P7.v.nd, fun c L hc => absurd hc (by omega)⟩
      have hsz : wr.heap.size ≤ wr.heap.size := Nat.le_refl _
      have hw1 := P7.b.size
      obtain ⟨W1, hW1⟩ : ∃ W1, W1 = wr := ⟨_, rfl⟩
      rw [show OA wr wr t zc ccs' a 0 = OA W1 wr t zc ccs' a 0 by rw [hW1]] at O7
      rw [show (wr.heap.size ≤ wr.heap.size) = (W1.heap.size ≤ wr.heap.size) by rw [hW1]] at hsz
      rw [← hW1] at hw1
      clear hi hW1
      go_wp2
      go_loopg [50] t.nc (fun gg v50 wr => ∃ (c : Nat) (ccs : List Value), c + gg = t.nc ∧ v50 = .int .i64 c ∧ AP w g t zc ccs a wr ∧ Blk wr gr 32 nilA ∧ OA W1 wr t zc ccs a c ∧ W1.heap.size ≤ wr.heap.size)
      case atStart => exact ⟨0, _, by omega, rfl, P7, Z7, O7, hsz⟩
      case round =>
        clear P7 Z7 O7 c4 hsz hin
        obtain ⟨c, ccs, hc, rfl, P8, Z8, O8, hsz⟩ := hrel
        cases gk with
        | zero =>
          obtain rfl : c = t.nc := by omega
          have hcl : ¬ t.nc < t.nc := by omega
          clear hc
          go_wp2_with first | ((with_reducible refine lda ?_ P8.x ?_); (focus rfl)) | ((with_reducible refine stA (s := t) (bt := a.bt) (hi := a.hi) ?_ ?_ Z8 ?_ ?_); (focus rfl); (focus rfl); (focus rfl); intro w9 hB9 hg9)
          refine bodyPost_ret (resA rfl _ _ gr _ rfl hB9 rfl) rfl ?_
          have kp : ∀ {q t : Nat} {bs : List Value}, t ≠ 32 → Blk wr q t bs → Blk w9 q t bs := fun ht hq => hq.grown hg9 (by simpa using Z8.ne_type hq (Ne.symm ht))
          exact ⟨t, zc, ccs, W1, rfl, P8.v.past (kp (by decide) P8.v.q.x) (kp (by decide) P8.v.c.x) (fun _ _ => kp (by decide)) (fun _ _ => kp (by decide)), P8.lz, P8.lc, P8.b.grown hg9 P8.b.size (fun q hq => by cases hq; exact hlr), ⟨fun b bs hb => kp (by decide) (O8.k b bs hb), O8.q, O8.n, O8.c.grown Z8 (by decide) (by decide) hg9⟩, hw1⟩
        | succ gg =>
          have hcl : c < t.nc := by omega
          have HI := Lib.hid hc
          obtain ⟨L, hL⟩ := get_some HTC.out hcl
          have HL := Lib.hid hL
          obtain ⟨v, hv, hLc⟩ := P8.v.c.row c L hL
          obtain ⟨b, cap, bs, hvf, q1, q2, q3⟩ := hLc
          have hLn : L.length = t.nz := by rw [HV.out.cl hL]; exact HTN.out
          have hnz1 : 1 ≤ t.nz := by rw [← HTN.out]; exact HV.out.z1
          have dv : wr.cell? ⟨t.bc, c, none⟩ = some v := by rw [P8.v.c.x.cell]; exact hv
          rw [hLn] at hvf q1
          subst hvf
          have HLN := Lib.hid hLn
          have hcp := copyL b t.nz cap bs wr q3.x (by have := q3.n; rw [hLn] at this; omega) (fun u hu => by
            obtain ⟨j, hj⟩ := List.getElem?_of_mem hu
            rw [List.getElem?_take] at hj
            split at hj
            · rename_i hjn
              obtain ⟨l, hl⟩ := get_some hLn (show j < t.nz by omega)
              obtain ⟨v2, p1, a2, c2, p2, _⟩ := q3.row j l hl
              rw [hj] at p1
              cases p1
              rw [p2]; rfl
            · cases hj) hnz1 (by omega)
          have HCP := Lib.hid hcp; have HQ3 := Lib.hid q3
          have c4 := P8.c4
          clear hc hL hv hcp q3 hLn
          go_wp2_with fail
          refine HCP.out.mono ?_
          rintro e w9 ⟨g6, cap6, cur, rfl, lg6, B6, r1, r2, r3, r4, b9⟩
          have L9 : LX wr g6 cur L W1.heap.size 0 w9 := ⟨b9, lg6, B6, by rw [HLN.out]; omega, fun y l hy => absurd hy (by omega), fun y l _ hl => by
            obtain ⟨v2, p1, p2⟩ := HQ3.out.row y l hl
            exact ⟨v2, by rw [r4 y (by have := lt_of hl; rw [HLN.out] at this; omega)]; exact p1, p2.below b9⟩⟩
          clear HCP B6 r3 r4 b9 dv c4
          go_wp2
          go_loopg [62] t.nz (fun g2 v62 wj => ∃ (z : Nat) (bs : List Value), z + g2 = t.nz ∧ v62 = .int .i64 z ∧ LX wr g6 bs L W1.heap.size z wj)
          case atStart => exact ⟨0, _, by omega, rfl, L9⟩
          case round =>
            clear L9
            obtain ⟨z, bs, hz, rfl, LA⟩ := hrel
            cases gk with
            | succ g2 =>
              have hzl : z < t.nz := by omega
              have HZ := Lib.hid hz
              obtain ⟨l, hl⟩ := get_some HLN.out hzl
              obtain ⟨v, hv, hsl⟩ := LA.rest z l (Nat.le_refl _) hl
              have dz : wr.cell? ⟨g6, z, none⟩ = some v := by rw [LA.x.cell]; exact hv
              have hl256 := (HV.out.vc HL.out).len hl
              have HLL := Lib.hid hl
              have HCL := Lib.hid (clone v l wr hsl (by omega))
              clear hz hl hv hsl
              go_wp2_with fail
              refine HCL.out.mono ?_
              rintro e wB ⟨v', rfl, OB, bB⟩
              have LB := LA.below bB
              have OB2 := own_weaken OB (Nat.le_trans hsz LA.b.size)
              have fz := LB.x.frozen z
              have dB := cell_later bB dz
              have LC := LB.next HLL.out OB2
              obtain ⟨aB, cB, hvB, _⟩ := own_form OB
              subst hvB
              clear LA LB OB OB2 bB dz HCL
              go_wp2
              go_roundg g2
              case rel => exact ⟨z + 1, _, by have := HZ.out; omega, by go_num, LC⟩
              case measure => omega
            | zero =>
              obtain rfl : z = t.nz := by omega
              have hzl : ¬ t.nz < t.nz := by omega
              have P9 := P8.below LA.b
              have Z9 := Z8.later LA.b
              have C9 := O8.c.later LA.b
              have c4 := P9.c4
              obtain ⟨v, hv, hLc⟩ := P9.v.c.row c L HL.out
              have dv : wr.cell? ⟨t.bc, c, none⟩ = some v := by rw [P9.v.c.x.cell]; exact hv
              have fv := P9.v.c.x.frozen c
              have hset := P9.v.c.x.set c (.slice (some ⟨g6, 0, none⟩) t.nz cap6)
              have hgr : wr.grownBy (wr.setCell ⟨t.bc, c, none⟩ (.slice (some ⟨g6, 0, none⟩) t.nz cap6)) (some t.bc) := set_grown
              have hLC : Lc wr (.slice (some ⟨g6, 0, none⟩) t.nz cap6) L := ⟨g6, cap6, bs, by rw [HLN.out], by rw [HLN.out]; exact r1, r2, LA.x, LA.n, fun y l hl => by
                obtain ⟨u, p1, p2⟩ := LA.own y l (by have := lt_of hl; rw [HLN.out] at this; exact this) hl
                exact ⟨u, p1, p2.sl⟩⟩
              have PA := P9.cset hgr hset hcl hLC
              have ha : ({ a with cs := a.cs.set c L } : A) = a := by rw [set_same HL.out]
              rw [ha] at PA
              have ZA := Z9.grown hgr (by simpa using P9.v.c.x.ne_type Z9 (by decide))
              have kp : ∀ {q tt : Nat} {bs : List Value}, tt ≠ 77 → Blk wr q tt bs → Blk (wr.setCell ⟨t.bc, c, none⟩ (.slice (some ⟨g6, 0, none⟩) t.nz cap6)) q tt bs := fun ht hq => hq.grown hgr (by simpa using P9.v.c.x.ne_type hq (Ne.symm ht))
              have OA' : OA W1 (wr.setCell ⟨t.bc, c, none⟩ (.slice (some ⟨g6, 0, none⟩) t.nz cap6)) t zc (ccs.set c (.slice (some ⟨g6, 0, none⟩) t.nz cap6)) a (c + 1) := by
                refine ⟨fun b0 bs0 hb0 => kp (by decide) ((O8.k b0 bs0 hb0).later LA.b), O8.q, O8.n, fun d M hd hM => ?_⟩
                by_cases e : d = c
                · subst e
                  rw [HL.out] at hM
                  cases hM
                  refine ⟨g6, cap6, bs, ?_, by rw [HLN.out]; exact r1, r2, ⟨kp (by decide) LA.x, LA.n, fun y l hl => ?_, Nat.le_trans hsz LA.l⟩⟩
                  · rw [List.getElem?_set_self (lt_of hv), HLN.out]
                  · obtain ⟨u, p1, p2⟩ := LA.own y l (by have := lt_of hl; rw [HLN.out] at this; exact this) hl
                    exact ⟨u, p1, p2.kept hgr (.inr (P9.v.c.x.not_own p2 (by decide)))⟩
                · obtain ⟨b0, k0, bs0, p1, p2, p3, p4⟩ := C9 d M (by omega) hM
                  exact ⟨b0, k0, bs0, by rw [List.getElem?_set_ne (Ne.symm e)]; exact p1, p2, p3, p4.grown P9.v.c.x (by decide) (by decide) hgr⟩
              have hszA : W1.heap.size ≤ (wr.setCell ⟨t.bc, c, none⟩ (.slice (some ⟨g6, 0, none⟩) t.nz cap6)).heap.size := Nat.le_trans (Nat.le_trans hsz LA.b.size) hgr.size
              clear hz P8 Z8 O8 hsz LA P9 Z9 C9 hv hLc hset hgr hLC ha kp HQ3
              go_wp2
              obtain ⟨wD, hwD⟩ : ∃ W, W = wr.setCell ⟨t.bc, c, none⟩ (.slice (some ⟨g6, 0, none⟩) t.nz cap6) := ⟨_, rfl⟩
              rw [← hwD] at PA ZA OA' hszA ⊢
              clear hwD c4 dv fv
              go_roundg gg
              case rel => exact ⟨c + 1, _, by have := HI.out; omega, by go_num, PA, ZA, OA', hszA⟩
              case measure => omega
end Go.Proofs.Ytdddkfpcbfgocaa
namespace Go.Proofs.Ytdddkfpcbfgocaa
open Go.RowKit Go.Over Go.Zn Go.Can Go.Seg Go.Grow
/-- Blocks besides those of the zones and the caches are as they were. -/
def KB (s : Sh) (w w' : World) : Prop := ∀ q t bs, q ≠ s.bz → q ≠ s.bc → Blk w q t bs → Blk w' q t bs
theorem KB.refl (s : Sh) (w : World) : KB s w w := fun _ _ _ _ _ h => h
theorem KB.trans {s : Sh} {w1 w2 w3 : World} (h : KB s w1 w2) (h' : KB s w2 w3) : KB s w1 w3 := fun q t bs h1 h2 h3 => h' q t bs h1 h2 (h q t bs h1 h2 h3)
theorem KB.below {s : Sh} {w w' : World} (hb : Below w.heap.size w w') : KB s w w' := fun _ _ _ _ _ h => h.later hb
theorem KB.grownZ {s : Sh} {w w' : World} (hg : w.grownBy w' (some s.bz)) : KB s w w' := fun q t bs h1 _ h => h.grown hg (by simpa using Ne.symm h1)
theorem KB.grownC {s : Sh} {w w' : World} (hg : w.grownBy w' (some s.bc)) : KB s w w' := fun q t bs _ h1 h => h.grown hg (by simpa using Ne.symm h1)
section
variable {w0 W W' : World} {g : Nat} {s : Sh} {zc ccs : List Value} {a : A}
theorem AP.b3 (h : AP w0 g s zc ccs a W) (hk : KB s W W') : ∀ b bs, Blk W b 3 bs → Blk W' b 3 bs := fun b bs hb => hk b 3 bs (hb.ne_type h.v.q.x (by decide)) (hb.ne_type h.v.c.x (by decide)) hb
/-- A zone is replaced. -/
theorem AP.zset {z : Nat} {y : Z} {cs : List Value} (h : AP w0 g s zc ccs a W) (hz : z < s.nz) (hg : W.grownBy W' (some s.bz)) (hB : Blk W' s.bz 39 (lay zc (z * 10) cs)) (hy : ZV W cs y) :
    AP w0 g s (lay zc (z * 10) cs) ccs (setZ a z y) W' := by
  have hx := h.v.q.x
  have hl := hy.len
  have hn := h.v.q.n
  rw [h.v.ez] at hn
  have hfit : z * 10 + cs.length ≤ zc.length := by omega
  have kp : ∀ {q t : Nat} {bs : List Value}, t ≠ 39 → Blk W q t bs → Blk W' q t bs := fun ht hq => hq.grown hg (by simpa using Ne.symm (hq.ne_type hx ht))
  refine ⟨h.b.grown hg h.b.size (fun q hq => by cases hq; exact h.lz), h.lg, h.lz, h.lc, kp (by decide) h.x, ⟨h.v.en, by show (a.zs.set z y).length = _; rw [List.length_set]; exact h.v.ez, h.v.ec, h.v.nd.past fun _ _ => kp (by decide), ⟨hB, by show 10 * (a.zs.set z y).length ≤ _; rw [List.length_set, lay_len hfit, h.v.ez]; exact hn, fun i u hu => ?_⟩, h.v.zl, h.v.zm, h.v.c.past (kp (by decide) h.v.c.x) (fun _ _ => kp (by decide)) (fun _ _ => kp (by decide)), h.v.cl, h.v.cm⟩⟩
  by_cases e : i = z
  · subst e
    rw [show (setZ a i y).zs = a.zs.set i y from rfl, List.getElem?_set_self (by rw [h.v.ez]; exact hz)] at hu
    cases hu
    have := lay_same hfit
    rw [hl] at this
    rw [this]
    exact hy.past fun _ _ => kp (by decide)
  · rw [show (setZ a z y).zs = a.zs.set z y from rfl, List.getElem?_set_ne (Ne.symm e)] at hu
    rw [lay_other hfit (by omega)]
    exact (h.v.q.row i u hu).past fun _ _ => kp (by decide)
end
theorem setZ_cs {a : A} {z : Nat} {y : Z} : (setZ a z y).cs = a.cs := rfl
/-- What giving frames gives. -/
def GiveAns (w0 : World) (g : Nat) (s : Sh) (ccs : List Value) (a : A) (z : Nat) (l : List Int) (w : World) (e : Ending) (w' : World) : Prop :=
  e = .returned (.tuple #[]) ∧ (∃ zc' a', AP w0 g s zc' ccs a' w' ∧ VA a' ∧ Sa a a' ∧ a'.cs = a.cs ∧ ∀ y x, Fr a' y x ↔ Fr a y x ∨ (y = z ∧ x ∈ l)) ∧ KB s w w'
set_option maxRecDepth 100000 in set_option maxHeartbeats 3200000 in
theorem give (w0 : World) (g : Nat) (s : Sh) (zc ccs : List Value) (a : A) (z : Nat) (l : List Int) (vl : Value) (w : World) (P : AP w0 g s zc ccs a w) (hV : VA a) (hz : z < a.zs.length) (hH : Hand a z l) (hl : Sl w vl l) (hl6 : l.length ≤ 256) :
    Calls Try.prog 36 #[.pointer (some ⟨g, 0, none⟩), .int .i64 z, vl] w (GiveAns w0 g s ccs a z l w) := by
  obtain ⟨al, cl, rfl, _⟩ := id hl
  obtain ⟨n, hn⟩ : ∃ n, l.length = n := ⟨_, rfl⟩
  rw [hn] at hl hl6 ⊢
  have HN := Lib.hid hn
  rw [P.v.ez] at hz
  have HS0 := Lib.hid hl
  have HVV := Lib.hid hV; have HH0 := Lib.hid hH
  clear hn hV hH hl
  go_enter Try.func36, Try.ntmps36
  go_wp2
  go_loopg [12] n (fun gg v12 wr => ∃ (i : Nat) (zc : List Value) (a' : A), i + gg = n ∧ v12 = .int .i64 i ∧ AP w0 g s zc ccs a' wr ∧ KB s w wr ∧ Sl wr (.slice al n cl) l ∧ VA a' ∧ Hand a' z (l.drop i) ∧ Sa a a' ∧ a'.cs = a.cs ∧ ∀ y x, Fr a' y x ↔ Fr a y x ∨ (y = z ∧ x ∈ l.take i))
  case atStart => exact ⟨0, zc, a, by omega, rfl, P, KB.refl _ _, HS0.out, HVV.out, HH0.out, Sa.refl a, rfl, fun y x => by simp⟩
  case round =>
    clear P HS0 HVV HH0
    obtain ⟨i, zc, b, hi, rfl, P1, K1, S1, V1, H1, A1, E1, F1⟩ := hrel
    have HV := Lib.hid V1; have HH := Lib.hid H1; have HA := Lib.hid A1; have HE := Lib.hid E1; have HF := Lib.hid F1
    clear V1 H1 A1 E1 F1
    cases gk with
    | zero =>
      have hin : ¬ i < n := by omega
      have HF2 := Lib.hid (show ∀ y x, Fr b y x ↔ Fr a y x ∨ (y = z ∧ x ∈ l) from fun y x => by
        rw [HF.out, List.take_of_length_le (by rw [HN.out]; omega)])
      clear hi
      go_wp2
      exact bodyPost_end (results_none rfl _ _ _) rfl ⟨rfl, ⟨zc, b, P1, HV.out, HA.out, HE.out, HF2.out⟩, K1⟩
    | succ gg =>
      have hin : i < n := by omega
      have HI := Lib.hid hi
      obtain ⟨f, hf⟩ := get_some HN.out hin
      have hdr := drop_get hf
      have hh := HH.out
      rw [hdr] at hh
      obtain ⟨hfz, hfn⟩ := hh.rg f (by simp)
      have hzb : z < b.zs.length := by rw [P1.v.ez]; exact hz
      obtain ⟨y, hy⟩ := get_some P1.v.ez hz
      have hzn := zn_of hy
      have hvz : VZ y := by have := HV.out.vz z hzb; rw [hzn] at this; exact this
      have hzst := hvz.r.st0; have hz256 := hvz.r.ct1
      rw [hzn] at hfz
      have hR0 : R y.st y.ct f 0 := by unfold inZ at hfz; exact ⟨by omega, hfz.1, by rw [pw_zero]; omega, by rw [pw_zero]; omega⟩
      have hnc : ¬ Cov (F y.fr) f := fun h => hfn (.inl (by rw [hzn]; exact h))
      obtain ⟨a1, c1, e1, k1, k2, k3, hI⟩ := S1
      have S1 : Sl wr (.slice al n cl) l := ⟨a1, c1, e1, k1, k2, k3, hI⟩
      rw [HN.out] at e1
      cases e1
      obtain ⟨bb, off, rfl, cx⟩ := hI.at hf
      have Q1 := P1.v.q
      have c3 := P1.c3
      have HFC := Lib.hid (free (.agg (seg zc (z * 10) 10).toArray) y f wr ⟨_, rfl, Q1.row z y hy⟩ hvz hR0 hnc)
      have HY := Lib.hid hy; have HZN := Lib.hid hzn; have HHH := Lib.hid hh
      have HTK := Lib.hid (show ∀ x, x ∈ l.take (i + 1) ↔ x ∈ l.take i ∨ x = f from fun x => take_mem hf)
      clear hi hf hdr hh hfz hfn hy hzn hvz hR0 hnc hI k1 k2 k3
      go_wp2_with ((with_reducible refine ldq ?_ Q1 HY.out ?_); (focus rfl))
      refine HFC.out.mono ?_
      rintro e w2 ⟨cs, fr, rfl, hO, hvd, hcv, b2⟩
      have P2 := P1.below b2
      have K2 := K1.trans (KB.below b2)
      have S2 := S1.below b2
      have HVD := Lib.hid hvd; have HCV := Lib.hid hcv
      have hcl := hO.h.len
      have h1c := hO.zv.one
      have hz3 := Blk.new w2 39 #[.int .i64 0, .int .i64 0, .int .i64 0, .int .i64 0, .int .i64 0, .slice none 0 0, .slice none 0 0, .slice none 0 0, .slice none 0 0, .slice none 0 0] zP rfl
      have hz2 : ZV w2 cs { y with fr := fr } := hO.zv
      clear P1 K1 S1 b2 Q1 c3 cx hvd hcv hO HFC
      go_upto_region 4 with ((with_reducible refine stZ (cs := cs) ?_ ?_ hz3 zP_len hcl h1c ?_); (focus rfl); (focus rfl); intro w4 hB4 hg4)
      have b4 : Below w2.heap.size w2 w4 := (below_box w2 (.cells #[.int .i64 0, .int .i64 0, .int .i64 0, .int .i64 0, .int .i64 0, .slice none 0 0, .slice none 0 0, .slice none 0 0, .slice none 0 0, .slice none 0 0] 39)).grown hg4 (below_box w2 _).size (fun k hk => by cases hk; exact Nat.le_refl _)
      have P4 := P2.below b4
      have K4 := K2.trans (KB.below b4)
      have S4 := S2.below b4
      have ZV4 := hz2.below b4
      have hg8 : w2.heap.size ≠ s.bz := by have := P2.v.q.x.lt; omega
      have c3 := P4.c3
      obtain ⟨g8, hg8e⟩ : ∃ z, w2.heap.size = z := ⟨_, rfl⟩
      rw [hg8e] at hB4 hg8 ⊢
      clear hg8e P2 K2 S2 b4 hg4 hz3 hz2
      go_wp2_with fail
      refine wp_region_plan (fun U => U.cell? ⟨g, 3, none⟩ = some (.slice (some ⟨s.bz, 0, none⟩) s.nz s.cz) ∧ Blk U g8 39 cs) (.quiet [0, 1, 2, 3, 4, 5, 6] (.last 7)) 7 (by kernel_rfl) (by kernel_rfl) ⟨c3, hB4⟩ ?_
      intro W hWW hWe
      have bW : Below w4.heap.size w4 W := by rw [hWe]; exact (Below.refl _ _).drew
      clear hWe
      have P5 := P4.below bW
      have K5 := K4.trans (KB.below bW)
      have S5 := S4.below bW
      have ZV5 := ZV4.below bW
      simp only [wpPlan, inOrder, List.filterMap_cons, List.filterMap_nil, List.getElem?_cons_zero, List.getElem?_cons_succ]
      have q3 := fun z => (hold_ok (S0 := fun U => U.cell? ⟨g, 3, none⟩ = some (.slice (some ⟨s.bz, 0, none⟩) s.nz s.cz) ∧ Blk U g8 39 cs) hWW z).1
      have q4 := fun z => (hold_ok (S0 := fun U => U.cell? ⟨g, 3, none⟩ = some (.slice (some ⟨s.bz, 0, none⟩) s.nz s.cz) ∧ Blk U g8 39 cs) hWW z).2
      clear P4 K4 S4 ZV4 bW c3 hB4
      show wpQuiet _ _ _ _ (_ :: _ :: _ :: _ :: _ :: _ :: [_]) _
      repeat (go_big_quiet_step (fail))
      go_big_quiet_want
      rename_i K hK
      refine quiet_run (v := .agg cs.toArray) (fun w' hw' => ?_) ?_
      · obtain ⟨u, rfl⟩ := hw'
        exact run_load_row rfl g8 rfl 39 cs.toArray (0, 0) _ (q4 u) Try.underlying39 rfl (by rw [infoZ]; simp [hcl])
      refine hK _ ?_
      clear hK K
      simp only [Act.put, List.setIfInBounds_toArray, List.set_cons_succ, List.set_cons_zero]
      repeat (go_big_quiet_step (fail))
      refine wpQuiet_nil ?_
      have hiz : (Try.prog.info? 39).map (·.size) = some cs.length := by rw [infoZ, hcl]
      have hxz := P5.v.q.x
      have hfit : z * 10 + cs.length ≤ zc.length := by have := P5.v.q.n; rw [P5.v.ez] at this; omega
      clear q3 q4 hWW
      show wpList _ _ _ [_] _ _
      go_wp2_with ((with_reducible refine wpList_store_part (off := z * 10) (cs := cs) hiz ?_ ?_ hxz hfit h1c ?_); (focus rfl); (focus rfl); intro w6 hB6 hg6)
      have P6 := P5.zset hz hg6 hB6 ZV5
      have K6 := K5.trans (KB.grownZ hg6)
      have S6 := S5.past (P5.b3 (KB.grownZ hg6))
      have hzb : z < b.zs.length := by rw [P5.v.ez]; exact hz
      have hpar : Par (zn b z) { y with fr := fr } := by rw [HZN.out]; exact ⟨rfl, rfl, rfl, rfl, rfl⟩
      have hg1 := give_one HV.out hzb HHH.out hpar HVD.out (fun x => by rw [HZN.out]; exact HCV.out x)
      have HG := Lib.hid hg1
      have HA2 := Lib.hid (HA.out.trans (Sa.setZ (a := b) hzb hpar))
      have HF2 := Lib.hid (show ∀ y' x, Fr (setZ b z { y with fr := fr }) y' x ↔ Fr a y' x ∨ (y' = z ∧ x ∈ l.take (i + 1)) from fun y' x => by
        rw [hg1.2.2, HF.out, HTK.out]
        constructor
        · rintro ((h | h) | h)
          · exact .inl h
          · exact .inr ⟨h.1, .inl h.2⟩
          · exact .inr ⟨h.1, .inr h.2⟩
        · rintro (h | ⟨h1, h2 | h2⟩)
          · exact .inl (.inl h)
          · exact .inl (.inr ⟨h1, h2⟩)
          · exact .inr ⟨h1, h2⟩)
      clear P5 K5 S5 ZV5 hiz hxz hfit hB6 hg6 hpar hg1 hzb h1c hcl HVD HCV HHH HZN HY HTK
      refine ⟨trivial, NoPanic.normal ?_⟩
      simp only [Act.put]
      go_wp2
      go_roundg gg
      case rel => exact ⟨i + 1, _, _, by have := HI.out; omega, by go_num, P6, K6, S6, HG.out.1, HG.out.2.1, HA2.out, HE.out, HF2.out⟩
      case measure => omega
theorem lay_one {L : List Value} {c : Nat} {v : Value} (hc : c < L.length) : lay L c [v] = L.set c v := by
  unfold lay
  apply List.ext_getElem?
  intro j
  have h1 : (L.take c).length = c := by rw [List.length_take]; omega
  rcases Nat.lt_trichotomy j c with h | h | h
  · rw [List.append_assoc, List.getElem?_append_left (by omega), List.getElem?_take, if_pos h, List.getElem?_set_ne (by omega)]
  · subst h
    rw [List.append_assoc, List.getElem?_append_right (by omega), h1, Nat.sub_self, List.getElem?_set_self hc]
    rfl
  · rw [List.getElem?_append_right (by simp; omega), List.getElem?_drop, List.getElem?_set_ne (by omega)]
    congr 1
    simp; omega
theorem setC_of {a : A} {c z : Nat} {L : List (List Int)} {l : List Int} (h : a.cs[c]? = some L) : ({ a with cs := a.cs.set c (L.set z l) } : A) = setC a c z l := by
  unfold setC
  rw [getD_of h]
/-- What draining a list gives. -/
def DrainAns (w0 : World) (g : Nat) (s : Sh) (a : A) (c z : Nat) (w : World) (e : Ending) (w' : World) : Prop :=
  e = .returned (.tuple #[]) ∧ (∃ zc' ccs' a', AP w0 g s zc' ccs' a' w' ∧ VA a' ∧ Sa a a' ∧ a'.cs = (setC a c z []).cs ∧ ∀ y x, Fr a' y x ↔ Fr a y x) ∧ KB s w w'
set_option maxRecDepth 100000 in set_option maxHeartbeats 3200000 in
theorem drain (w0 : World) (g : Nat) (s : Sh) (zc ccs : List Value) (a : A) (c z : Nat) (w : World) (P : AP w0 g s zc ccs a w) (hV : VA a) (hc : c < a.cs.length) (hz : z < a.zs.length) :
    Calls Try.prog 18 #[.pointer (some ⟨g, 0, none⟩), .int .i64 c, .int .i64 z] w (DrainAns w0 g s a c z w) := by
  have HV := Lib.hid hV; have HZ := Lib.hid hz; have HCL := Lib.hid hc
  rw [P.v.ec] at hc
  obtain ⟨L, hL⟩ := get_some P.v.ec hc
  have hLn : L.length = a.zs.length := hV.cl hL
  obtain ⟨l, hl⟩ := get_some hLn hz
  obtain ⟨v, hv, hLc⟩ := P.v.c.row c L hL
  have dv : w.cell? ⟨s.bc, c, none⟩ = some v := by rw [P.v.c.x.cell]; exact hv
  have hle := lst_of hL hl
  have hl256 := (hV.vc hL).len hl
  have HD := Lib.hid (pcdrain (.agg #[v]) L z l w ⟨_, rfl, hLc⟩ (hV.vc hL) hl)
  have HDL := Lib.hid (drain_list hV HCL.out hz)
  have HL := Lib.hid hL; have HLE := Lib.hid hle; have HLV := Lib.hid (lt_of hv)
  have c4 := P.c4
  clear hV hz hL hLn hl hv hLc hle
  go_enter Try.func18, Try.ntmps18
  go_wp2_with fail
  refine HD.out.mono ?_
  rintro e w2 ⟨_, vl, rfl, ⟨v', rfl, hv'⟩, hsl, b2⟩
  have P2 := P.below b2
  have K2 : KB s w w2 := KB.below b2
  have hsz : w0.heap.size ≤ w2.heap.size := P2.b.size
  obtain ⟨_, _, hvf, _⟩ := hv'.form
  have h1v : v'.oneCell' = true := by rw [hvf]; rfl
  have HS := Lib.hid hsl; have HVC := Lib.hid hv'
  have hz3 := Blk.new w2 77 #[.slice none 0 0] [.slice none 0 0] rfl
  clear P b2 dv c4 HD hvf hsl hv'
  go_upto_region 1 with ((with_reducible refine stC (u := .slice none 0 0) (v := v') ?_ ?_ hz3 h1v ?_); (focus rfl); (focus rfl); intro w4 hB4 hg4)
  have b4 : Below w2.heap.size w2 w4 := (below_box w2 (.cells #[.slice none 0 0] 77)).grown hg4 (below_box w2 _).size (fun k hk => by cases hk; exact Nat.le_refl _)
  have P4 := P2.below b4
  have K4 := K2.trans (KB.below b4)
  have HS4 := Lib.hid (HS.out.below b4)
  have HVC4 := Lib.hid (HVC.out.below b4)
  have hg6 : w2.heap.size ≠ s.bc := by have := P2.v.c.x.lt; omega
  have c4 := P4.c4
  obtain ⟨g6, hg6e⟩ : ∃ z, w2.heap.size = z := ⟨_, rfl⟩
  rw [hg6e] at hB4 hg6 ⊢
  have d6 : w4.cell? ⟨g6, 0, none⟩ = some v' := by rw [hB4.cell]; rfl
  clear hg6e P2 K2 HS HVC b4 hg4 hz3 hB4 hsz
  go_upto_region 2 with fail
  refine wp_region_plan (fun U => U.cell? ⟨g, 4, none⟩ = some (.slice (some ⟨s.bc, 0, none⟩) s.nc s.cc) ∧ U.cell? ⟨g6, 0, none⟩ = some v') (.quiet [0, 1, 2, 3, 4, 5, 6] (.last 7)) 7 (by kernel_rfl) (by kernel_rfl) ⟨c4, d6⟩ ?_
  intro W hWW hWe
  have bW : Below w4.heap.size w4 W := by rw [hWe]; exact (Below.refl _ _).drew
  clear hWe
  have P5 := P4.below bW
  have K5 := K4.trans (KB.below bW)
  have HS5 := Lib.hid (HS4.out.below bW)
  have HVC5 := Lib.hid (HVC4.out.below bW)
  simp only [wpPlan, inOrder, List.filterMap_cons, List.filterMap_nil, List.getElem?_cons_zero, List.getElem?_cons_succ]
  have q3 := fun z => (hold_ok (S0 := fun U => U.cell? ⟨g, 4, none⟩ = some (.slice (some ⟨s.bc, 0, none⟩) s.nc s.cc) ∧ U.cell? ⟨g6, 0, none⟩ = some v') hWW z).1
  have q4 := fun z => (hold_ok (S0 := fun U => U.cell? ⟨g, 4, none⟩ = some (.slice (some ⟨s.bc, 0, none⟩) s.nc s.cc) ∧ U.cell? ⟨g6, 0, none⟩ = some v') hWW z).2
  clear P4 K4 HS4 HVC4 bW c4 d6
  show wpQuiet _ _ _ _ (_ :: _ :: _ :: _ :: _ :: _ :: [_]) _
  repeat (go_big_quiet_step (fail))
  refine wpQuiet_nil ?_
  clear q3 q4 hWW
  have hiz : (Try.prog.info? 77).map (·.size) = some [v'].length := infoC
  have hxz := P5.v.c.x
  have hfit : c + [v'].length ≤ ccs.length := by have := HLV.out; simp; omega
  have h1c : ∀ u ∈ [v'], u.oneCell' = true := fun u hu => by simp at hu; subst hu; exact h1v
  show wpList _ _ _ [_] _ _
  go_wp2_with ((with_reducible refine wpList_store_part (off := c) (cs := [v']) hiz ?_ ?_ hxz hfit h1c ?_); (focus rfl); (focus rfl); intro w6 hB6 hg6c)
  rw [lay_one HLV.out] at hB6
  have P6 := P5.cset hg6c hB6 hc HVC5.out
  rw [setC_of HL.out] at P6
  have K6 := K5.trans (KB.grownC hg6c)
  have S6 := HS5.out.past (P5.b3 (KB.grownC hg6c))
  have hdl := HDL.out
  rw [HLE.out] at hdl
  have HG := Lib.hid (give w0 g s zc _ (setC a c z []) z l vl w6 P6 hdl.1 HZ.out hdl.2.1 S6 hl256)
  have HDF := Lib.hid hdl
  have HMEM := Lib.hid (show ∀ x, x ∈ l → Fr a z x from fun x hx => .inr ⟨c, HCL.out, by rw [HLE.out]; exact hx⟩)
  clear P5 K5 HS5 HVC5 hiz hxz hfit h1c hB6 hg6c P6 S6 hdl HDL
  refine ⟨trivial, NoPanic.normal ?_⟩
  simp only [Act.put]
  go_wp2_with fail
  refine HG.out.mono ?_
  rintro e w7 ⟨rfl, ⟨zc', a', P7, V7, A7, E7, F7⟩, K7⟩
  have HR := Lib.hid (show DrainAns w0 g s a c z w (.returned (.tuple #[])) w7 from ⟨rfl, ⟨zc', _, a', P7, V7, Sa.setC.trans A7, E7, fun y x => by
    rw [F7, HDF.out.2.2]
    constructor
    · rintro (h | ⟨h1, h2⟩)
      · exact h.1
      · subst h1; exact HMEM.out x h2
    · intro h
      by_cases hc : y = z ∧ x ∈ l
      · exact .inr hc
      · exact .inl ⟨h, hc⟩⟩, K6.trans K7⟩)
  clear P7 V7 A7 E7 F7 K7 K6 HG
  go_wp2
  exact bodyPost_end (results_none rfl _ _ _) rfl HR.out
end Go.Proofs.Ytdddkfpcbfgocaa
namespace Go.Proofs.Ytdddkfpcbfgocaa
open Go.RowKit Go.Over Go.Zn Go.Can Go.Seg Go.Grow
section
variable {ops : Array Oper} {rest : List Oper} {d i j : Nat} {ty : TypeId} {pos : String} {af : Array Edge} {a : Act} {w : World} {Q : Exit → Act → World → Prop}
/-- One number is appended to a row of a call's own; where the row lies then. -/
theorem wpList_app2 {base b : Nat} {v : Value} {l : List Int} {x : Int} (hs : a.eval (.tmp i) = v) (hx : a.eval (.tmp j) = .slice (some ⟨b, 0, none⟩) 1 1) (hO : Own w base v l) (hB : Blk w b 3 [.int .i64 x]) (hl : l.length ≤ 900000) (hb : base ≤ w.heap.size)
    (h : ∀ v' w', Own w' base v' (l ++ [x]) → w.grownBy w' v.ownBlock → (∀ k, v'.ownBlock = some k → v.ownBlock = some k ∨ w.heap.size ≤ k) → wpList Try.prog ops Q rest (a.put (some d) v') w') :
    wpList Try.prog ops Q ({ dst := some d, op := .call { callee := .builtin .append, args := #[.tmp i, .tmp j], argTypes := #[28, 28] }, type := ty, pos := pos, after := af, guard := none } :: rest) a w := by
  refine wpList_append_k K22 rfl (.tmp i) (.tmp j) rfl v l.length (nums l) hs hO (some ⟨b, 0, none⟩) 1 1 [.int .i64 x] hx ⟨rfl, by simp [Value.oneCell'], .inr ⟨_, rfl, fun k u hk => ?_⟩⟩ (by omega) hb fun v' w' q1 q2 q3 => h v' w' ?_ q2 q3
  · rw [add_off, Nat.zero_add, hB.cell]; exact hk
  · unfold Own
    have e1 : (l ++ [x]).length = l.length + 1 := by simp
    have e2 : nums (l ++ [x]) = nums l ++ [.int .i64 x] := by simp [nums]
    rw [e1, e2]
    exact q1
end
theorem lay_self {L : List Value} {o n : Nat} (h : o + n ≤ L.length) : lay L o (seg L o n) = L := by
  apply List.ext_getElem?
  intro j
  have hl := seg_len h
  rcases (show (j < o ∨ o + n ≤ j) ∨ (o ≤ j ∧ j < o + n) by omega) with hj | ⟨h1, h2⟩
  · exact lay_get (by omega) (by omega)
  · have := lay_same (L := L) (cs := seg L o n) (o := o) (by omega)
    rw [hl] at this
    have h3 : (seg (lay L o (seg L o n)) o n)[j - o]? = (seg L o n)[j - o]? := by rw [this]
    rwa [seg_get (by omega), seg_get (by omega), show o + (j - o) = j by omega] at h3
theorem lay_lay {L cs ds : List Value} {o : Nat} (h : o + cs.length ≤ L.length) (he : ds.length = cs.length) : lay (lay L o cs) o ds = lay L o ds := by
  apply List.ext_getElem?
  intro j
  have hl := lay_len h
  rcases (show (j < o ∨ o + ds.length ≤ j) ∨ (o ≤ j ∧ j < o + ds.length) by omega) with hj | ⟨h1, h2⟩
  · rw [lay_get (by omega) hj, lay_get (by omega) hj, lay_get (by omega) (by omega)]
  · have p1 := lay_same (L := lay L o cs) (cs := ds) (o := o) (by omega)
    have p2 := lay_same (L := L) (cs := ds) (o := o) (by omega)
    have p3 : (seg (lay (lay L o cs) o ds) o ds.length)[j - o]? = (seg (lay L o ds) o ds.length)[j - o]? := by rw [p1, p2]
    rwa [seg_get (by omega), seg_get (by omega), show o + (j - o) = j by omega] at p3
/-- Old blocks but those of the zones are as they were: one zone is another. -/
theorem AP.zone {w0 W W' : World} {g : Nat} {s : Sh} {zc ccs : List Value} {a : A} {z : Nat} {y : Z} {cs : List Value} (h : AP w0 g s zc ccs a W) (hz : z < s.nz) (hg : W.grownBy W' (some s.bz)) (hB : Blk W' s.bz 39 (lay zc (z * 10) cs)) (hy : ZV W' cs y) :
    AP w0 g s (lay zc (z * 10) cs) ccs (setZ a z y) W' := by
  have hx := h.v.q.x
  have hl := hy.len
  have hn := h.v.q.n
  rw [h.v.ez] at hn
  have hfit : z * 10 + cs.length ≤ zc.length := by omega
  have kp : ∀ {q t : Nat} {bs : List Value}, t ≠ 39 → Blk W q t bs → Blk W' q t bs := fun ht hq => hq.grown hg (by simpa using Ne.symm (hq.ne_type hx ht))
  refine ⟨h.b.grown hg h.b.size (fun q hq => by cases hq; exact h.lz), h.lg, h.lz, h.lc, kp (by decide) h.x, ⟨h.v.en, by show (a.zs.set z y).length = _; rw [List.length_set]; exact h.v.ez, h.v.ec, h.v.nd.past fun _ _ => kp (by decide), ⟨hB, by show 10 * (a.zs.set z y).length ≤ _; rw [List.length_set, lay_len hfit, h.v.ez]; exact hn, fun i u hu => ?_⟩, h.v.zl, h.v.zm, h.v.c.past (kp (by decide) h.v.c.x) (fun _ _ => kp (by decide)) (fun _ _ => kp (by decide)), h.v.cl, h.v.cm⟩⟩
  by_cases e : i = z
  · subst e
    rw [show (setZ a i y).zs = a.zs.set i y from rfl, List.getElem?_set_self (by rw [h.v.ez]; exact hz)] at hu
    cases hu
    have := lay_same hfit
    rw [hl] at this
    rw [this]
    exact hy
  · rw [show (setZ a z y).zs = a.zs.set z y from rfl, List.getElem?_set_ne (Ne.symm e)] at hu
    rw [lay_other hfit (by omega)]
    exact (h.v.q.row i u hu).past fun _ _ => kp (by decide)
/-- The rows of a zone lie outside of a block. -/
def Sx (cs : List Value) (y : Z) (ob : Option Nat) : Prop := ∀ (k : Nat) (a : Addr) (n c : Nat), k < 5 → cs[5 + k]? = some (.slice (some a) n c) → 0 < (y.fr k).length → some a.block ≠ ob
theorem ZV.away {W W' : World} {cs : List Value} {y : Z} {ob : Option Nat} (h : ZV W cs y) (hx : Sx cs y ob) (hg : W.grownBy W' ob) : ZV W' cs y :=
  ⟨h.len, h.nd, h.kd, h.st, h.ct, h.mn, fun k hk5 => by
    obtain ⟨v, h1, a, c, rfl, h2, h3, h4, h5⟩ := h.fr k hk5
    refine ⟨_, h1, a, c, rfl, h2, h3, h4, fun h0 => ?_⟩
    obtain ⟨b, off, ha, ⟨ds, hcs⟩, hc⟩ := h5 h0
    subst ha
    have h6 := hcs.grown hg (Ne.symm (hx k _ _ _ hk5 h1 h0))
    exact ⟨b, off, rfl, ⟨ds, h6⟩, fun i hi => by rw [h6.cell, ← hcs.cell]; exact hc i hi⟩⟩
theorem ZV.row_lt {W : World} {cs : List Value} {y : Z} (h : ZV W cs y) {k : Nat} (hk : k < 5) {a : Addr} {n c : Nat} (h1 : cs[5 + k]? = some (.slice (some a) n c)) (h0 : 0 < (y.fr k).length) : a.block < W.heap.size := by
  obtain ⟨v, q1, a', c', rfl, _, _, _, h5⟩ := h.fr k hk
  rw [h1] at q1
  cases q1
  obtain ⟨b, off, ha, ⟨ds, hcs⟩, _⟩ := h5 h0
  cases ha
  exact hcs.lt
theorem set_set {α : Type} {l : List α} {i : Nat} {x y : α} : (l.set i x).set i y = l.set i y := by
  apply List.ext_getElem?
  intro j
  by_cases e : j = i
  · subst e
    by_cases hl : j < l.length
    · rw [List.getElem?_set_self (by simpa using hl), List.getElem?_set_self hl]
    · rw [List.getElem?_eq_none (by simp; omega), List.getElem?_eq_none (by simp; omega)]
  · rw [List.getElem?_set_ne (Ne.symm e), List.getElem?_set_ne (Ne.symm e), List.getElem?_set_ne (Ne.symm e)]
theorem setZ_setZ {a : A} {z : Nat} {x y : Z} : setZ (setZ a z x) z y = setZ a z y := by
  unfold setZ
  rw [set_set]
theorem setZ_self {a : A} {z : Nat} {x : Z} (h : a.zs[z]? = some x) : setZ a z x = a := by
  unfold setZ
  rw [set_same h]
/-- What a refill gives. -/
def RefillAns (w0 : World) (g : Nat) (s : Sh) (a : A) (c z : Nat) (w : World) (e : Ending) (w' : World) : Prop :=
  ∃ b, e = .returned (.bool b) ∧ (∃ zc' ccs' a', AP w0 g s zc' ccs' a' w' ∧ VA a' ∧ Sa a a' ∧ (∀ d y, ¬ (d = c ∧ y = z) → lst a' d y = lst a d y) ∧ (∀ y x, Fr a' y x ↔ Fr a y x) ∧
    (b = true → lst a' c z ≠ []) ∧ (b = false → (∀ x, ¬ Cov (F (zn a z).fr) x) ∧ lst a' c z = []) ∧ (b = true → ∃ l0 f0, lst a' c z = l0 ++ [f0] ∧ First (zn a z).fr 0 f0)) ∧ KB s w w'
/-- Frames taken from a zone. -/
structure Taken (a b : A) (z : Nat) (l : List Int) : Prop where
  v : VA b
  h : Hand b z l
  s : Sa a b
  cs : b.cs = a.cs
  fr : ∀ y x, Fr b y x ↔ Fr a y x ∧ ¬ (y = z ∧ x ∈ l)
  fa : ∀ x ∈ l, Fr a z x
  hd : ((zn b z).fr = (zn a z).fr ∧ l = []) ∨ ∃ f r, l = f :: r ∧ First (zn a z).fr 0 f
theorem In0 {f x : Int} : In f 0 x ↔ x = f := by
  unfold In
  rw [pw_zero]
  omega
theorem Taken.next {a b : A} {z : Nat} {l : List Int} {f : Int} {y : Z} {fr : Nat → List Int} (h : Taken a b z l) (hz : z < b.zs.length) (hy : zn b z = y) (hv : Vd y.st y.ct fr) (hf : Cov (F y.fr) f) (hc : ∀ x, Cov (F fr) x ↔ Cov (F y.fr) x ∧ ¬ In f 0 x) (hfi : First y.fr 0 f) :
    Taken a (setZ b z { y with fr := fr }) z (l ++ [f]) := by
  have hpar : Par (zn b z) { y with fr := fr } := by rw [hy]; exact ⟨rfl, rfl, rfl, rfl, rfl⟩
  obtain ⟨q1, q2, q3⟩ := take_one h.v hz h.h hpar hv (by rw [hy]; exact hf) (fun x => by rw [hy]; show Cov (F fr) x ↔ _; rw [hc, In0])
  refine ⟨q1, q2, h.s.trans (Sa.setZ hz hpar), h.cs, fun y' x => ?_, fun x hx => ?_, ?_⟩
  case refine_3 =>
    rcases h.hd with ⟨e, rfl⟩ | ⟨f', r, rfl, hp⟩
    · exact .inr ⟨f, [], rfl, by rw [← e, hy]; exact hfi⟩
    · exact .inr ⟨f', r ++ [f], rfl, hp⟩
  case refine_2 =>
    rcases List.mem_append.1 hx with h1 | h1
    · exact h.fa x h1
    · obtain rfl := List.mem_singleton.1 h1
      exact ((h.fr z x).1 (.inl (by rw [hy]; exact hf))).1
  rw [q3, h.fr]
  simp only [List.mem_append, List.mem_singleton]
  constructor
  · rintro ⟨⟨h1, h2⟩, h3⟩
    exact ⟨h1, fun h4 => h4.2.elim (fun h5 => h2 ⟨h4.1, h5⟩) (fun h5 => h3 ⟨h4.1, h5⟩)⟩
  · rintro ⟨h1, h2⟩
    exact ⟨⟨h1, fun h3 => h2 ⟨h3.1, .inl h3.2⟩⟩, fun h3 => h2 ⟨h3.1, .inr h3.2⟩⟩
theorem Taken.adds {a b : A} {c z : Nat} {l : List Int} {L : List (List Int)} (h : Taken a b z l) (hz : z < b.zs.length) (hL : b.cs[c]? = some L) : Adds L l := by
  refine ⟨h.h.nd, fun x hx => h.v.inr hz (h.h.rg x hx).1, fun x hx hm => ?_⟩
  obtain ⟨y, m, hm1, hm2⟩ := mem_flat.1 hm
  obtain ⟨q1, _, _, q2⟩ := h.v.at_ hL hm1
  obtain rfl := h.v.zdis q1 hz (q2 x hm2).1 (h.h.rg x hx).1
  exact (h.h.rg x hx).2 (.inr ⟨c, lt_of hL, by rw [lst_of hL hm1]; exact hm2⟩)
/-- What is taken goes into an empty list of a cache. -/
theorem Taken.put {a b : A} {c z : Nat} {l : List Int} (h : Taken a b z l) (hz : z < b.zs.length) (hc : c < b.cs.length) (he : lst b c z = []) (hl : l.length ≤ b.hi) :
    VA (setC b c z l.reverse) ∧ Sa a (setC b c z l.reverse) ∧ (∀ d y, ¬ (d = c ∧ y = z) → lst (setC b c z l.reverse) d y = lst a d y) ∧ (∀ y x, Fr (setC b c z l.reverse) y x ↔ Fr a y x) ∧ lst (setC b c z l.reverse) c z = l.reverse := by
  have hlz := h.v.lz hc hz
  obtain ⟨q1, q2⟩ := cache_list h.v hc hz h.h (l := l.reverse) (List.pairwise_reverse.2 (h.h.nd.imp Ne.symm)) (fun x => by rw [he]; simp) (by rw [List.length_reverse]; exact hl)
  have hfa := h.fa
  refine ⟨q1, h.s.trans Sa.setC, fun d y hd => ?_, fun y x => ?_, ?_⟩
  · rw [lst_setC hc hlz, if_neg hd]
    unfold lst
    rw [h.cs]
  · rw [q2, h.fr]
    constructor
    · rintro (h1 | ⟨h1, h2⟩)
      · exact h1.1
      · subst h1; exact hfa x h2
    · intro h1
      by_cases hh : y = z ∧ x ∈ l
      · exact .inr hh
      · exact .inl ⟨h1, hh⟩
  · rw [lst_setC hc hlz, if_pos ⟨rfl, rfl⟩]
set_option maxRecDepth 100000 in set_option maxHeartbeats 3200000 in
theorem refill (w0 : World) (g : Nat) (s : Sh) (zc ccs : List Value) (a : A) (c z : Nat) (w : World) (P : AP w0 g s zc ccs a w) (hV : VA a) (hc : c < a.cs.length) (hz : z < a.zs.length) (he : lst a c z = []) :
    Calls Try.prog 31 #[.pointer (some ⟨g, 0, none⟩), .int .i64 c, .int .i64 z] w (RefillAns w0 g s a c z w) := by
  have HV := Lib.hid hV; have HZ := Lib.hid hz; have HCL := Lib.hid hc; have HE := Lib.hid he
  rw [P.v.ez] at hz
  have c1 := P.c1
  have hb64 : a.bt ≤ 64 := by have := hV.bh; have := hV.h64; omega
  have hb1 := hV.b1
  obtain ⟨y0, hy0⟩ := get_some P.v.ez hz
  have hzl : z * 10 + 10 ≤ zc.length := by have := P.v.q.n; rw [P.v.ez] at this; omega
  have O0 : Own w w.heap.size (.slice none 0 0) [] := Own.nil _ _
  have B0 : Blk w s.bz 39 (lay zc (z * 10) (seg zc (z * 10) 10)) := by rw [lay_self hzl]; exact P.v.q.x
  have Z0 := P.v.q.row z y0 hy0
  have T0 := Lib.hid (show Taken a (setZ a z y0) z [] from by
    rw [setZ_self hy0]
    exact ⟨hV, ⟨List.nodup_nil, fun x hx => by simp at hx⟩, Sa.refl a, rfl, fun y x => by simp, fun x hx => by simp at hx, .inl ⟨rfl, rfl⟩⟩)
  have HP0 := Lib.hid P
  have HZL := Lib.hid hzl
  clear hV hc he hzl hy0 P
  go_enter Try.func31, Try.ntmps31
  go_wp2
  go_loopg [17, 7] a.bt (fun gg v17 v7 wr => ∃ (i : Nat) (cs : List Value) (y : Z) (l : List Int), i + gg = a.bt ∧ v17 = .int .i64 i ∧ l.length = i ∧ Own wr w.heap.size v7 l ∧ w.grownBy wr (some s.bz) ∧ Blk wr s.bz 39 (lay zc (z * 10) cs) ∧ ZV wr cs y ∧ Sx cs y v7.ownBlock ∧ Taken a (setZ a z y) z l)
  case atStart => exact ⟨0, _, y0, [], by omega, rfl, rfl, O0, grown_below (Below.refl _ _), B0, Z0, fun k a n c _ _ _ h => (by cases h), T0.out⟩
  case round =>
    clear O0 B0 Z0 T0 c1
    obtain ⟨i, cs0, y, l, hi, rfl, hli, O1, G1, B1, Z1, X1, T1⟩ := hrel
    have P1 := HP0.out.zone hz G1 B1 Z1
    have K1 : KB s w wr := KB.grownZ G1
    have hc0 := Z1.len
    have HX := Lib.hid X1; have HG := Lib.hid G1
    have hzy : zn (setZ a z y) z = y := by rw [zn_setZ HZ.out, if_pos rfl]
    have hya : (setZ a z y).zs[z]? = some y := by
      show (a.zs.set z y)[z]? = some y
      rw [List.getElem?_set_self HZ.out]
    have HSS := Lib.hid (fun (y' : Z) => show setZ (setZ a z y) z y' = setZ a z y' from setZ_setZ)
    obtain ⟨b, hb⟩ : ∃ b, setZ a z y = b := ⟨_, rfl⟩
    rw [hb] at P1 T1 hzy hya HSS
    have HT := Lib.hid T1; have HZN := Lib.hid hzy; have HY := Lib.hid hya; have HC0 := Lib.hid hc0
    clear T1 X1 G1 B1 Z1 hb hzy hya hc0
    cases gk with
    | zero =>
      have hin : ¬ i < a.bt := by omega
      have HLB := Lib.hid (show l.length ≤ a.bt by omega)
      have HNO := Lib.hid (show l = [] → ∀ x, ¬ Cov (F (zn a z).fr) x from fun h => by rw [h] at hli; simp at hli; omega)
      clear hi hli
      have hcb : c < b.cs.length := by rw [HT.out.cs]; exact HCL.out
      have hcs : c < s.nc := by rw [← P1.v.ec]; exact hcb
      obtain ⟨L, hL⟩ := get_some (l := b.cs) rfl hcb
      have hLn : L.length = b.zs.length := HT.out.v.cl hL
      have hzb : z < b.zs.length := by rw [P1.v.ez]; exact hz
      obtain ⟨m, hm⟩ := get_some hLn hzb
      have hlst := lst_of hL hm
      have hlab : lst b c z = [] := by unfold lst; rw [HT.out.cs]; exact HE.out
      rw [hlab] at hlst
      subst hlst
      obtain ⟨v, hv, hLc⟩ := P1.v.c.row c L hL
      have dv : wr.cell? ⟨s.bc, c, none⟩ = some v := by rw [P1.v.c.x.cell]; exact hv
      have c4 := P1.c4
      have HLV := Lib.hid (lt_of hv); have HLL := Lib.hid hL
      have HPR := Lib.hid (pcrefill (.agg #[v]) L z [] u7 l wr ⟨_, rfl, hLc⟩ (HT.out.v.vc hL) hm O1.sl (HT.out.adds hzb hL))
      have HPUT := Lib.hid (HT.out.put hzb hcb hlab (by rw [HT.out.s.hi]; have := HLB.out; have := HV.out.bh; omega))
      obtain ⟨a7, c7, hv7, _⟩ := own_form O1
      obtain ⟨nl, hnl⟩ : ∃ n, l.length = n := ⟨_, rfl⟩
      rw [hnl] at hv7
      subst hv7
      have hnl64 : nl ≤ 64 := by have := HLB.out; have := HV.out.bh; have := HV.out.h64; omega
      have HNL := Lib.hid hnl
      clear hLn hlab hL hm hv hLc O1 hnl hcb hzb
      go_wp2_with fail
      refine HPR.out.mono ?_
      rintro e w2 ⟨_, rfl, ⟨v', rfl, hv'⟩, b2⟩
      have P2 := P1.below b2
      have K2 := K1.trans (KB.below b2)
      obtain ⟨_, _, hvf, _⟩ := hv'.form
      have h1v : v'.oneCell' = true := by rw [hvf]; rfl
      have HVC := Lib.hid hv'
      have hz3 := Blk.new w2 77 #[.slice none 0 0] [.slice none 0 0] rfl
      clear P1 K1 b2 dv c4 HPR hvf hv'
      go_upto_region 10 with ((with_reducible refine stC (u := .slice none 0 0) (v := v') ?_ ?_ hz3 h1v ?_); (focus rfl); (focus rfl); intro w4 hB4 hg4)
      have b4 : Below w2.heap.size w2 w4 := (below_box w2 (.cells #[.slice none 0 0] 77)).grown hg4 (below_box w2 _).size (fun k hk => by cases hk; exact Nat.le_refl _)
      have P4 := P2.below b4
      have K4 := K2.trans (KB.below b4)
      have HVC4 := Lib.hid (HVC.out.below b4)
      have hg6 : w2.heap.size ≠ s.bc := by have := P2.v.c.x.lt; omega
      have c4 := P4.c4
      obtain ⟨g6, hg6e⟩ : ∃ z, w2.heap.size = z := ⟨_, rfl⟩
      rw [hg6e] at hB4 hg6 ⊢
      have d6 : w4.cell? ⟨g6, 0, none⟩ = some v' := by rw [hB4.cell]; rfl
      clear hg6e P2 K2 HVC b4 hg4 hz3 hB4
      go_upto_region 11 with fail
      refine wp_region_plan (fun U => U.cell? ⟨g, 4, none⟩ = some (.slice (some ⟨s.bc, 0, none⟩) s.nc s.cc) ∧ U.cell? ⟨g6, 0, none⟩ = some v') (.quiet [0, 1, 2, 3, 4, 5, 6] (.last 7)) 7 (by kernel_rfl) (by kernel_rfl) ⟨c4, d6⟩ ?_
      intro W hWW hWe
      have bW : Below w4.heap.size w4 W := by rw [hWe]; exact (Below.refl _ _).drew
      clear hWe
      have P5 := P4.below bW
      have K5 := K4.trans (KB.below bW)
      have HVC5 := Lib.hid (HVC4.out.below bW)
      simp only [wpPlan, inOrder, List.filterMap_cons, List.filterMap_nil, List.getElem?_cons_zero, List.getElem?_cons_succ]
      have q3 := fun z => (hold_ok (S0 := fun U => U.cell? ⟨g, 4, none⟩ = some (.slice (some ⟨s.bc, 0, none⟩) s.nc s.cc) ∧ U.cell? ⟨g6, 0, none⟩ = some v') hWW z).1
      have q4 := fun z => (hold_ok (S0 := fun U => U.cell? ⟨g, 4, none⟩ = some (.slice (some ⟨s.bc, 0, none⟩) s.nc s.cc) ∧ U.cell? ⟨g6, 0, none⟩ = some v') hWW z).2
      clear P4 K4 HVC4 bW c4 d6
      show wpQuiet _ _ _ _ (_ :: _ :: _ :: _ :: _ :: _ :: [_]) _
      repeat (go_big_quiet_step (fail))
      refine wpQuiet_nil ?_
      clear q3 q4 hWW
      have hiz : (Try.prog.info? 77).map (·.size) = some [v'].length := infoC
      have hxz := P5.v.c.x
      have hfit : c + [v'].length ≤ ccs.length := by have := HLV.out; simp; omega
      have h1c : ∀ u ∈ [v'], u.oneCell' = true := fun u hu => by simp at hu; subst hu; exact h1v
      show wpList _ _ _ [_] _ _
      go_wp2_with ((with_reducible refine wpList_store_part (off := c) (cs := [v']) hiz ?_ ?_ hxz hfit h1c ?_); (focus rfl); (focus rfl); intro w6 hB6 hg6c)
      rw [lay_one HLV.out] at hB6
      have P6 := P5.cset hg6c hB6 hcs HVC5.out
      rw [List.nil_append, setC_of HLL.out] at P6
      have K6 := K5.trans (KB.grownC hg6c)
      have HR := Lib.hid (show RefillAns w0 g s a c z w (.returned (.bool (decide (0 < nl)))) w6 from by
        obtain ⟨p1, p2, p3, p4, p5⟩ := HPUT.out
        refine ⟨_, rfl, ⟨_, _, _, P6, p1, p2, p3, p4, fun hb hc => ?_, fun hb => ?_, fun hb => ?_⟩, K6⟩
        · rw [p5] at hc
          have := of_decide_eq_true hb
          have h2 := HNL.out
          rw [List.reverse_eq_nil_iff.1 hc] at h2
          simp at h2
          omega
        · have h1 := of_decide_eq_false hb
          have h2 := HNL.out
          obtain rfl : l = [] := List.eq_nil_of_length_eq_zero (by omega)
          exact ⟨HNO.out rfl, by rw [p5]; rfl⟩
        · have h1 := of_decide_eq_true hb
          have h2 := HNL.out
          rcases HT.out.hd with ⟨_, e⟩ | ⟨f, r, e, hp⟩
          · subst e; simp at h2; omega
          · exact ⟨r.reverse, f, by rw [p5, e, List.reverse_cons], hp⟩)
      clear P5 K5 HVC5 hiz hxz hfit h1c hB6 hg6c P6 K6 HPUT HNL HNO
      refine ⟨trivial, NoPanic.normal ?_⟩
      simp only [Act.put]
      go_wp2
      go_ret
      exact HR.out
    | succ gg =>
      have hin : i < a.bt := by omega
      have HI := Lib.hid hi; have HLI := Lib.hid hli
      have hzb : z < b.zs.length := by rw [P1.v.ez]; exact hz
      have hvz : VZ y := by have := HT.out.v.vz z hzb; rw [HZN.out] at this; exact this
      have Q1 := P1.v.q
      have c3 := P1.c3
      have hal : Calls Try.prog 25 #[.agg (seg (lay zc (z * 10) cs0) (z * 10) 10).toArray, .int .i64 0] wr (AllocAns wr y 0) := alloc (.agg (seg (lay zc (z * 10) cs0) (z * 10) 10).toArray) y 0 wr ⟨_, rfl, Q1.row z y HY.out⟩ hvz (by omega)
      have HAL := Lib.hid hal
      have HVZ := Lib.hid hvz
      clear hi hli hvz hal
      go_wp2_with ((with_reducible refine ldq ?_ Q1 HY.out ?_); (focus rfl))
      refine HAL.out.mono ?_
      rintro e w2 ⟨b2, hA⟩
      have P2 := P1.below b2
      have K2 := K1.trans (KB.below b2)
      have O2 := O1.later b2
      have G2 := Lib.hid (grown_trans HG.out (grown_below b2))
      have HOB := Lib.hid (show ∀ k, u7.ownBlock = some k → k < wr.heap.size from fun k hk => (World.ownsRow.lt O1 k hk).2)
      clear P1 K1 O1 Q1 c3 HAL HG
      rcases hA with ⟨cs, f, fr, rfl, ⟨hzv, hlo⟩, hvd, _, hcf, hcv, hfi⟩ | ⟨hno, rfl⟩
      · have HVD := Lib.hid hvd; have HFI := Lib.hid hfi; have HCV := Lib.hid hcv; have HCF := Lib.hid (hcf f (In0.2 rfl)); have HLO := Lib.hid hlo
        have hcl := hzv.len
        have h1c := hzv.one
        have hz3 := Blk.new w2 39 #[.int .i64 0, .int .i64 0, .int .i64 0, .int .i64 0, .int .i64 0, .slice none 0 0, .slice none 0 0, .slice none 0 0, .slice none 0 0, .slice none 0 0] zP rfl
        clear b2 hvd hcf hcv hlo hfi
        go_upto_region 5 with ((with_reducible refine stZ (cs := cs) ?_ ?_ hz3 zP_len hcl h1c ?_); (focus rfl); (focus rfl); intro w4 hB4 hg4)
        have b4 : Below w2.heap.size w2 w4 := (below_box w2 (.cells #[.int .i64 0, .int .i64 0, .int .i64 0, .int .i64 0, .int .i64 0, .slice none 0 0, .slice none 0 0, .slice none 0 0, .slice none 0 0, .slice none 0 0] 39)).grown hg4 (below_box w2 _).size (fun k hk => by cases hk; exact Nat.le_refl _)
        have P4 := P2.below b4
        have O4 := O2.later b4
        have G4 := Lib.hid (grown_trans G2.out (grown_below b4))
        have ZV4 := hzv.below b4
        have hg8 : w2.heap.size ≠ s.bz := by have := P2.v.q.x.lt; omega
        have c3 := P4.c3
        obtain ⟨g8, hg8e⟩ : ∃ z, w2.heap.size = z := ⟨_, rfl⟩
        rw [hg8e] at hB4 hg8 ⊢
        clear hg8e P2 K2 O2 b4 hg4 hz3 hzv G2
        go_wp2_with fail
        refine wp_region_plan (fun U => U.cell? ⟨g, 3, none⟩ = some (.slice (some ⟨s.bz, 0, none⟩) s.nz s.cz) ∧ Blk U g8 39 cs) (.quiet [0, 1, 2, 3, 4, 5, 6] (.last 7)) 7 (by kernel_rfl) (by kernel_rfl) ⟨c3, hB4⟩ ?_
        intro W hWW hWe
        have bW : Below w4.heap.size w4 W := by rw [hWe]; exact (Below.refl _ _).drew
        clear hWe
        have P5 := P4.below bW
        have O5 := O4.later bW
        have G5 := Lib.hid (grown_trans G4.out (grown_below bW))
        have ZV5 := ZV4.below bW
        simp only [wpPlan, inOrder, List.filterMap_cons, List.filterMap_nil, List.getElem?_cons_zero, List.getElem?_cons_succ]
        have q3 := fun z => (hold_ok (S0 := fun U => U.cell? ⟨g, 3, none⟩ = some (.slice (some ⟨s.bz, 0, none⟩) s.nz s.cz) ∧ Blk U g8 39 cs) hWW z).1
        have q4 := fun z => (hold_ok (S0 := fun U => U.cell? ⟨g, 3, none⟩ = some (.slice (some ⟨s.bz, 0, none⟩) s.nz s.cz) ∧ Blk U g8 39 cs) hWW z).2
        clear P4 O4 ZV4 bW c3 hB4 G4
        show wpQuiet _ _ _ _ (_ :: _ :: _ :: _ :: _ :: _ :: [_]) _
        repeat (go_big_quiet_step (fail))
        go_big_quiet_want
        rename_i K hK
        refine quiet_run (v := .agg cs.toArray) (fun w' hw' => ?_) ?_
        · obtain ⟨u, rfl⟩ := hw'
          exact run_load_row rfl g8 rfl 39 cs.toArray (0, 0) _ (q4 u) Try.underlying39 rfl (by rw [infoZ]; simp [hcl])
        refine hK _ ?_
        clear hK K
        simp only [Act.put, List.setIfInBounds_toArray, List.set_cons_succ, List.set_cons_zero]
        repeat (go_big_quiet_step (fail))
        refine wpQuiet_nil ?_
        have hiz : (Try.prog.info? 39).map (·.size) = some cs.length := by rw [infoZ, hcl]
        have hxz := P5.v.q.x
        have hfit : z * 10 + cs.length ≤ (lay zc (z * 10) cs0).length := by rw [hcl, lay_len (by rw [HC0.out]; exact HZL.out)]; exact HZL.out
        clear q3 q4 hWW
        show wpList _ _ _ [_] _ _
        go_wp2_with ((with_reducible refine wpList_store_part (off := z * 10) (cs := cs) hiz ?_ ?_ hxz hfit h1c ?_); (focus rfl); (focus rfl); intro w6 hB6 hg6)
        rw [lay_lay (by rw [HC0.out]; exact HZL.out) (by rw [hcl, HC0.out])] at hB6
        have O6 := O5.kept hg6 (.inr (hxz.not_own O5 (by decide)))
        have ZV6 : ZV w6 cs { y with fr := fr } := ZV5.past fun q bs hq => hq.grown hg6 (by simpa using hxz.ne_type hq (by decide))
        have G6 := Lib.hid (grown_trans G5.out hg6)
        have ht6 := HT.out.next (by rw [P5.v.ez]; exact hz) HZN.out HVD.out HCF.out HCV.out HFI.out
        rw [HSS.out] at ht6
        have HT6 := Lib.hid ht6
        have bN := below_box w6 (.cells #[.int .i64 f] 3)
        have O7 := O6.later bN
        have B7 := hB6.later bN
        have ZV7 := ZV6.below bN
        have G7 := Lib.hid (grown_trans G6.out (grown_below bN))
        have hB7 := Blk.new w6 3 #[.int .i64 f] [.int .i64 f] rfl
        have hb7 := G7.out.size
        have hl9 : l.length ≤ 900000 := by rw [HLI.out]; omega
        have HSX := Lib.hid (show Sx cs { y with fr := fr } u7.ownBlock from fun k a0 n0 c0 hk h1 _ h3 => by
          have := HLO.out k a0 n0 c0 hk h1
          have := HOB.out a0.block h3.symm
          omega)
        clear P5 O5 ZV5 hiz hfit hB6 hg6 h1c hcl HVD HCV HCF HZN HY O6 bN hxz ZV6 G5 G6 ht6 HT HLO HOB HX HSS
        refine ⟨trivial, NoPanic.normal ?_⟩
        simp only [Act.put]
        go_wp2_with ((with_reducible refine wpList_app2 (base := w.heap.size) (b := w6.heap.size) (x := f) ?_ ?_ O7 hB7 hl9 hb7 ?_); (focus rfl); (focus rfl); intro v8 w8 O8 hg8o hk8)
        have ZV8 := ZV7.away HSX.out hg8o
        have B8 := B7.grown hg8o (B7.not_own O7 (by decide))
        have G8 : w.grownBy w8 (some s.bz) := ⟨hg8o.os.trans G7.out.os, hg8o.tape.trans G7.out.tape, hg8o.output.trans G7.out.output, Nat.le_trans G7.out.size hg8o.size, fun k hk hne => (hg8o.block k (Nat.lt_of_lt_of_le hk G7.out.size) (fun e => by have := (World.ownsRow.lt O7 k e.symm).1; omega)).trans (G7.out.block k hk hne)⟩
        have X8 : Sx cs { y with fr := fr } v8.ownBlock := fun k a0 n0 c0 hk h1 h0 h3 => by
          rcases hk8 a0.block h3.symm with h4 | h4
          · exact HSX.out k a0 n0 c0 hk h1 h0 h4.symm
          · have := ZV7.row_lt hk h1 h0; omega
        clear O7 B7 ZV7 G7 hB7 hb7 hl9 HSX hg8o hk8
        go_roundg gg
        case rel => exact ⟨i + 1, cs, _, l ++ [f], by have := HI.out; omega, by go_num, by rw [List.length_append, HLI.out]; rfl, O8, G8, B8, ZV8, X8, HT6.out⟩
        case measure => omega
      · have hncb : ∀ x, ¬ Cov (F y.fr) x := fun x hx => by
          obtain ⟨k, hk, hm⟩ := (cov_at HVZ.out.l).1 hx
          rw [hno k (Nat.zero_le _) hk] at hm
          simp at hm
        have HLB := Lib.hid (show l.length ≤ a.bt by rw [HLI.out]; omega)
        have HNO := Lib.hid (show l = [] → ∀ x, ¬ Cov (F (zn a z).fr) x from fun h x hx => by
          have h1 := (HT.out.fr z x).2 ⟨.inl hx, fun h2 => by rw [h] at h2; simp at h2⟩
          rcases h1 with h1 | ⟨d, hd, hd2⟩
          · rw [HZN.out] at h1; exact hncb x h1
          · rw [HT.out.cs] at hd
            unfold lst at hd2
            rw [HT.out.cs] at hd2
            exact (HV.out.rg d z hd HZ.out x hd2).2 hx)
        have h1c := (ownZ_new w2 0 noZ).zv.one
        have hzl : (newC noZ).length = 10 := rfl
        have hz3 := Blk.new w2 39 #[.int .i64 0, .int .i64 0, .int .i64 0, .int .i64 0, .int .i64 0, .slice none 0 0, .slice none 0 0, .slice none 0 0, .slice none 0 0, .slice none 0 0] zP rfl
        clear b2 hno hncb G2
        go_upto_region 5 with ((with_reducible refine stZ (cs := newC noZ) ?_ ?_ hz3 zP_len hzl h1c ?_); (focus rfl); (focus rfl); intro w4 hB4 hg4)
        have b4 : Below w2.heap.size w2 w4 := (below_box w2 (.cells #[.int .i64 0, .int .i64 0, .int .i64 0, .int .i64 0, .int .i64 0, .slice none 0 0, .slice none 0 0, .slice none 0 0, .slice none 0 0, .slice none 0 0] 39)).grown hg4 (below_box w2 _).size (fun k hk => by cases hk; exact Nat.le_refl _)
        have P1 := P2.below b4
        have K1 := K2.trans (KB.below b4)
        have O1 := O2.later b4
        clear P2 K2 O2 b4 hB4 hg4 hz3 h1c hzl HY HZN HVZ HLI HI hzb HOB HX HSS
        have hcb : c < b.cs.length := by rw [HT.out.cs]; exact HCL.out
        have hcs : c < s.nc := by rw [← P1.v.ec]; exact hcb
        obtain ⟨L, hL⟩ := get_some (l := b.cs) rfl hcb
        have hLn : L.length = b.zs.length := HT.out.v.cl hL
        have hzb : z < b.zs.length := by rw [P1.v.ez]; exact hz
        obtain ⟨m, hm⟩ := get_some hLn hzb
        have hlst := lst_of hL hm
        have hlab : lst b c z = [] := by unfold lst; rw [HT.out.cs]; exact HE.out
        rw [hlab] at hlst
        subst hlst
        obtain ⟨v, hv, hLc⟩ := P1.v.c.row c L hL
        have dv : w4.cell? ⟨s.bc, c, none⟩ = some v := by rw [P1.v.c.x.cell]; exact hv
        have c4 := P1.c4
        have HLV := Lib.hid (lt_of hv); have HLL := Lib.hid hL
        have HPR := Lib.hid (pcrefill (.agg #[v]) L z [] u7 l w4 ⟨_, rfl, hLc⟩ (HT.out.v.vc hL) hm O1.sl (HT.out.adds hzb hL))
        have HPUT := Lib.hid (HT.out.put hzb hcb hlab (by rw [HT.out.s.hi]; have := HLB.out; have := HV.out.bh; omega))
        obtain ⟨a7, c7, hv7, _⟩ := own_form O1
        obtain ⟨nl, hnl⟩ : ∃ n, l.length = n := ⟨_, rfl⟩
        rw [hnl] at hv7
        subst hv7
        have hnl64 : nl ≤ 64 := by have := HLB.out; have := HV.out.bh; have := HV.out.h64; omega
        have HNL := Lib.hid hnl
        clear hLn hlab hL hm hv hLc O1 hnl hcb hzb
        go_wp2_with fail
        refine HPR.out.mono ?_
        rintro e w2 ⟨_, rfl, ⟨v', rfl, hv'⟩, b2⟩
        have P2 := P1.below b2
        have K2 := K1.trans (KB.below b2)
        obtain ⟨_, _, hvf, _⟩ := hv'.form
        have h1v : v'.oneCell' = true := by rw [hvf]; rfl
        have HVC := Lib.hid hv'
        have hz3 := Blk.new w2 77 #[.slice none 0 0] [.slice none 0 0] rfl
        clear P1 K1 b2 dv c4 HPR hvf hv'
        go_upto_region 10 with ((with_reducible refine stC (u := .slice none 0 0) (v := v') ?_ ?_ hz3 h1v ?_); (focus rfl); (focus rfl); intro w4 hB4 hg4)
        have b4 : Below w2.heap.size w2 w4 := (below_box w2 (.cells #[.slice none 0 0] 77)).grown hg4 (below_box w2 _).size (fun k hk => by cases hk; exact Nat.le_refl _)
        have P4 := P2.below b4
        have K4 := K2.trans (KB.below b4)
        have HVC4 := Lib.hid (HVC.out.below b4)
        have hg6 : w2.heap.size ≠ s.bc := by have := P2.v.c.x.lt; omega
        have c4 := P4.c4
        obtain ⟨g6, hg6e⟩ : ∃ z, w2.heap.size = z := ⟨_, rfl⟩
        rw [hg6e] at hB4 hg6 ⊢
        have d6 : w4.cell? ⟨g6, 0, none⟩ = some v' := by rw [hB4.cell]; rfl
        clear hg6e P2 K2 HVC b4 hg4 hz3 hB4
        go_upto_region 11 with fail
        refine wp_region_plan (fun U => U.cell? ⟨g, 4, none⟩ = some (.slice (some ⟨s.bc, 0, none⟩) s.nc s.cc) ∧ U.cell? ⟨g6, 0, none⟩ = some v') (.quiet [0, 1, 2, 3, 4, 5, 6] (.last 7)) 7 (by kernel_rfl) (by kernel_rfl) ⟨c4, d6⟩ ?_
        intro W hWW hWe
        have bW : Below w4.heap.size w4 W := by rw [hWe]; exact (Below.refl _ _).drew
        clear hWe
        have P5 := P4.below bW
        have K5 := K4.trans (KB.below bW)
        have HVC5 := Lib.hid (HVC4.out.below bW)
        simp only [wpPlan, inOrder, List.filterMap_cons, List.filterMap_nil, List.getElem?_cons_zero, List.getElem?_cons_succ]
        have q3 := fun z => (hold_ok (S0 := fun U => U.cell? ⟨g, 4, none⟩ = some (.slice (some ⟨s.bc, 0, none⟩) s.nc s.cc) ∧ U.cell? ⟨g6, 0, none⟩ = some v') hWW z).1
        have q4 := fun z => (hold_ok (S0 := fun U => U.cell? ⟨g, 4, none⟩ = some (.slice (some ⟨s.bc, 0, none⟩) s.nc s.cc) ∧ U.cell? ⟨g6, 0, none⟩ = some v') hWW z).2
        clear P4 K4 HVC4 bW c4 d6
        show wpQuiet _ _ _ _ (_ :: _ :: _ :: _ :: _ :: _ :: [_]) _
        repeat (go_big_quiet_step (fail))
        refine wpQuiet_nil ?_
        clear q3 q4 hWW
        have hiz : (Try.prog.info? 77).map (·.size) = some [v'].length := infoC
        have hxz := P5.v.c.x
        have hfit : c + [v'].length ≤ ccs.length := by have := HLV.out; simp; omega
        have h1c : ∀ u ∈ [v'], u.oneCell' = true := fun u hu => by simp at hu; subst hu; exact h1v
        show wpList _ _ _ [_] _ _
        go_wp2_with ((with_reducible refine wpList_store_part (off := c) (cs := [v']) hiz ?_ ?_ hxz hfit h1c ?_); (focus rfl); (focus rfl); intro w6 hB6 hg6c)
        rw [lay_one HLV.out] at hB6
        have P6 := P5.cset hg6c hB6 hcs HVC5.out
        rw [List.nil_append, setC_of HLL.out] at P6
        have K6 := K5.trans (KB.grownC hg6c)
        have HR := Lib.hid (show RefillAns w0 g s a c z w (.returned (.bool (decide (0 < nl)))) w6 from by
          obtain ⟨p1, p2, p3, p4, p5⟩ := HPUT.out
          refine ⟨_, rfl, ⟨_, _, _, P6, p1, p2, p3, p4, fun hb hc => ?_, fun hb => ?_, fun hb => ?_⟩, K6⟩
          · rw [p5] at hc
            have := of_decide_eq_true hb
            have h2 := HNL.out
            rw [List.reverse_eq_nil_iff.1 hc] at h2
            simp at h2
            omega
          · have h1 := of_decide_eq_false hb
            have h2 := HNL.out
            obtain rfl : l = [] := List.eq_nil_of_length_eq_zero (by omega)
            exact ⟨HNO.out rfl, by rw [p5]; rfl⟩
          · have h1 := of_decide_eq_true hb
            have h2 := HNL.out
            rcases HT.out.hd with ⟨_, e⟩ | ⟨f, r, e, hp⟩
            · subst e; simp at h2; omega
            · exact ⟨r.reverse, f, by rw [p5, e, List.reverse_cons], hp⟩)
        clear P5 K5 HVC5 hiz hxz hfit h1c hB6 hg6c P6 K6 HPUT HNL HNO
        refine ⟨trivial, NoPanic.normal ?_⟩
        simp only [Act.put]
        go_wp2
        go_ret
        exact HR.out
end Go.Proofs.Ytdddkfpcbfgocaa
namespace Go.Proofs.Ytdddkfpcbfgocaa
open Go.RowKit Go.Over Go.Zn Go.Can Go.Seg Go.Grow
/-- An allocator in a variable, beside a variable for the result. -/
structure AZ (w : World) (g gr : Nat) (s : Sh) (zc ccs : List Value) (a : A) (W : World) : Prop where
  x : AX w g s zc ccs a W
  z : Blk W gr 32 nilA
  l : w.heap.size ≤ gr
theorem AZ.below {w W W' : World} {g gr : Nat} {s : Sh} {zc ccs : List Value} {a : A} (h : AZ w g gr s zc ccs a W) (hb : Below W.heap.size W W') : AZ w g gr s zc ccs a W' := ⟨h.x.below hb, h.z.later hb, h.l⟩
theorem AZ.new {w : World} {s : Sh} {zc ccs : List Value} {a : A} (h : AW w s zc ccs a) : AZ w w.heap.size (w.heap.size + 1) s zc ccs a ((w.alloc (.cells (s.cells a.bt a.hi).toArray 32)).alloc (.cells #[.slice none 0 0, .int .i64 0, .int .i64 0, .slice none 0 0, .slice none 0 0] 32)) := by
  have hs : (w.alloc (.cells (s.cells a.bt a.hi).toArray 32)).heap.size = w.heap.size + 1 := by simp
  have hz := Blk.new (w.alloc (.cells (s.cells a.bt a.hi).toArray 32)) 32 #[.slice none 0 0, .int .i64 0, .int .i64 0, .slice none 0 0, .slice none 0 0] nilA rfl
  rw [hs] at hz
  exact ⟨(AX.new h).below (below_box _ _), hz, by omega⟩
/-- The copy of an allocator in a variable of its own. -/
theorem AP.start {w0 w W : World} {s : Sh} {zc ccs : List Value} {a : A} (hb : Below w0.heap.size w0 w) (hv : AW w s zc ccs a) (hlz : w0.heap.size ≤ s.bz) (hlc : w0.heap.size ≤ s.bc) (hB : Blk W w.heap.size 32 (s.cells a.bt a.hi)) (hg : (w.alloc (.cells #[.slice none 0 0, .int .i64 0, .int .i64 0, .slice none 0 0, .slice none 0 0] 32)).grownBy W (some w.heap.size)) :
    AP w0 w.heap.size s zc ccs a W ∧ Below w.heap.size w W := by
  have b1 := below_box w (.cells #[.slice none 0 0, .int .i64 0, .int .i64 0, .slice none 0 0, .slice none 0 0] 32)
  have b4 : Below w.heap.size w W := b1.grown hg b1.size (fun k hk => by cases hk; exact Nat.le_refl _)
  exact ⟨⟨below_then hb b4, hb.size, hlz, hlc, hB, hv.below b4⟩, b4⟩
/-- What a call gives that makes an allocator. -/
def AnsA (w : World) (R : A → Prop) (e : Ending) (w' : World) : Prop := ∃ v a', e = .returned v ∧ Ra w' v a' ∧ R a' ∧ Below w.heap.size w w'
/-- All caches are empty. -/
structure Drained (a b : A) : Prop where
  v : VA b
  s : Sa a b
  e : ∀ c z, c < a.cs.length → z < a.zs.length → lst b c z = []
  f : ∀ y x, Fr b y x ↔ Fr a y x
/-- .. up to a place. -/
structure Drd (a b : A) (c z : Nat) : Prop where
  v : VA b
  s : Sa a b
  e : ∀ d y, d < a.cs.length → y < a.zs.length → (d < c ∨ (d = c ∧ y < z)) → lst b d y = []
  f : ∀ y x, Fr b y x ↔ Fr a y x
theorem lst_cs {a b : A} (h : b.cs = a.cs) {c z : Nat} : lst b c z = lst a c z := by unfold lst; rw [h]
theorem Drd.next {a b d : A} {c z : Nat} (h : Drd a b c z) (hc : c < b.cs.length) (hz : z < b.zs.length) (hv : VA d) (hs : Sa b d) (he : d.cs = (setC b c z []).cs) (hf : ∀ y x, Fr d y x ↔ Fr b y x) : Drd a d c (z + 1) :=
  ⟨hv, h.s.trans hs, fun e y h1 h2 h3 => by
    rw [lst_cs he, lst_setC hc (h.v.lz hc hz)]
    by_cases e1 : e = c ∧ y = z
    · rw [if_pos e1]
    · rw [if_neg e1]
      refine h.e e y h1 h2 ?_
      rcases h3 with h3 | ⟨h3, h4⟩
      · exact .inl h3
      · exact .inr ⟨h3, by
          have : y ≠ z := fun h5 => e1 ⟨h3, h5⟩
          omega⟩, fun y x => (hf y x).trans (h.f y x)⟩
set_option maxRecDepth 100000 in set_option maxHeartbeats 3200000 in
theorem drainA (v : Value) (a : A) (w : World) (H : Ra w v a) (hV : VA a) : Calls Try.prog 7 #[v] w (AnsA w (Drained a)) := by
  have HV := Lib.hid hV
  clear hV
  obtain ⟨s, zc, ccs, rfl, hW⟩ := H
  have X0 := AZ.new hW
  clear hW
  go_enter Try.func7, Try.ntmps7
  go_upto_region 1 with fail
  obtain ⟨w1, hw1⟩ : ∃ W, W = (w.alloc (.cells (s.cells a.bt a.hi).toArray 32)).alloc (.cells #[.slice none 0 0, .int .i64 0, .int .i64 0, .slice none 0 0, .slice none 0 0] 32) := ⟨_, rfl⟩
  rw [← hw1] at X0 ⊢
  obtain ⟨gr, hgr⟩ : ∃ g, w.heap.size + 1 = g := ⟨_, rfl⟩
  obtain ⟨g, hg0⟩ : ∃ g, w.heap.size = g := ⟨_, rfl⟩
  have X1 : AZ w g gr s zc ccs a w1 := by rw [← hgr, ← hg0]; exact X0
  rw [hgr, hg0]
  clear hw1 X0 hg0 hgr
  have hnz6 : a.zs.length ≤ 6 := HV.out.z6
  have hnc4 : a.cs.length ≤ 4 := by rw [HV.out.nc]; exact HV.out.n4
  go_wp2_with ((with_reducible refine lda ?_ X1.x.x ?_); (focus rfl))
  refine (acheck _ a w1 X1.x.ra HV.out).mono ?_
  rintro e w2 ⟨rfl, b2⟩
  have X2 := X1.below b2
  clear X1 b2
  go_wp2_with ((with_reducible refine lda ?_ X2.x.x ?_); (focus rfl))
  refine (aclone _ a w2 X2.x.ra HV.out).mono ?_
  rintro e w5 ⟨t, zc5, ccs5, W5, rfl, hW5, hlz, hlc, b5, _, _⟩
  have X5 := X2.below b5
  have hz5 := Blk.new w5 32 #[.slice none 0 0, .int .i64 0, .int .i64 0, .slice none 0 0, .slice none 0 0] nilA rfl
  have hlz := Nat.le_trans X2.x.b.size hlz
  have hlc := Nat.le_trans X2.x.b.size hlc
  clear X2 b5
  go_upto_region 4 with ((with_reducible refine stA (s := t) (bt := a.bt) (hi := a.hi) ?_ ?_ hz5 ?_ ?_); (focus rfl); (focus rfl); (focus rfl); intro w6 hB6 hg6)
  obtain ⟨P6, b6⟩ := AP.start X5.x.b hW5 hlz hlc hB6 hg6
  have Z6 := X5.z.later b6
  have hlr := X5.l
  obtain ⟨gp, hgp⟩ : ∃ z, w5.heap.size = z := ⟨_, rfl⟩
  rw [hgp] at P6 ⊢
  have D6 := Lib.hid (show Drd a a 0 0 from ⟨HV.out, Sa.refl a, fun d y _ _ h => by omega, fun _ _ => Iff.rfl⟩)
  clear hgp X5 hz5 hW5 hlz hlc hB6 hg6 b6
  have htc := Lib.hid P6.v.ec
  have htz := Lib.hid P6.v.ez
  rw [P6.v.ec] at hnc4
  rw [P6.v.ez] at hnz6
  have c4 := P6.c4
  go_wp2
  go_loopg [15] t.nc (fun gg v15 wr => ∃ (c : Nat) (zc ccs : List Value) (b : A), c + gg = t.nc ∧ v15 = .int .i64 c ∧ AP w gp t zc ccs b wr ∧ Blk wr gr 32 nilA ∧ Drd a b c 0)
  case atStart => exact ⟨0, _, _, a, by omega, rfl, P6, Z6, D6.out⟩
  case round =>
    clear P6 Z6 D6 c4
    obtain ⟨c, zc, ccs, b, hc, rfl, P7, Z7, D7⟩ := hrel
    have HD := Lib.hid D7
    clear D7
    cases gk with
    | zero =>
      have hcl : ¬ c < t.nc := by omega
      have HR := Lib.hid (show Drained a b from ⟨HD.out.v, HD.out.s, fun d y h1 h2 => HD.out.e d y h1 h2 (.inl (by rw [htc.out] at h1; omega)), HD.out.f⟩)
      clear hc
      go_wp2_with first | ((with_reducible refine lda ?_ P7.x ?_); (focus rfl)) | ((with_reducible refine stA (s := t) (bt := b.bt) (hi := b.hi) ?_ ?_ Z7 ?_ ?_); (focus rfl); (focus rfl); (focus rfl); intro w9 hB9 hg9)
      refine bodyPost_ret (resA rfl _ _ gr _ rfl hB9 rfl) rfl ?_
      have kp : ∀ {q t : Nat} {bs : List Value}, t ≠ 32 → Blk wr q t bs → Blk w9 q t bs := fun ht hq => hq.grown hg9 (by simpa using Z7.ne_type hq (Ne.symm ht))
      exact ⟨_, b, rfl, ⟨t, zc, ccs, rfl, P7.v.past (kp (by decide) P7.v.q.x) (kp (by decide) P7.v.c.x) (fun _ _ => kp (by decide)) (fun _ _ => kp (by decide))⟩, HR.out, P7.b.grown hg9 P7.b.size (fun q hq => by cases hq; exact hlr)⟩
    | succ gg =>
      have hcl : c < t.nc := by omega
      have HI := Lib.hid hc
      have c3 := P7.c3
      clear hc
      go_wp2
      go_loopg [21] t.nz (fun g2 v21 wj => ∃ (z : Nat) (zc ccs : List Value) (b : A), z + g2 = t.nz ∧ v21 = .int .i64 z ∧ AP w gp t zc ccs b wj ∧ Blk wj gr 32 nilA ∧ Drd a b c z)
      case atStart => exact ⟨0, zc, ccs, b, by omega, rfl, P7, Z7, HD.out⟩
      case round =>
        clear P7 Z7 HD c3
        obtain ⟨z, zc, ccs, b, hz, rfl, P8, Z8, D8⟩ := hrel
        have HD := Lib.hid D8
        clear D8
        cases gk with
        | zero =>
          have hzl : ¬ z < t.nz := by omega
          have HD2 := Lib.hid (show Drd a b (c + 1) 0 from ⟨HD.out.v, HD.out.s, fun d y h1 h2 h3 => HD.out.e d y h1 h2 (by
            rcases h3 with h3 | ⟨_, h3⟩
            · rcases Nat.lt_or_ge d c with h4 | h4
              · exact .inl h4
              · exact .inr ⟨by omega, by rw [htz.out] at h2; omega⟩
            · omega), HD.out.f⟩)
          clear hz
          go_wp2
          go_roundg gg
          case rel => exact ⟨c + 1, zc, ccs, b, by have := HI.out; omega, by go_num, P8, Z8, HD2.out⟩
          case measure => omega
        | succ g2 =>
          have hzl : z < t.nz := by omega
          have HZ := Lib.hid hz
          have hcb : c < b.cs.length := by rw [HD.out.s.nc, htc.out]; exact hcl
          have hzb : z < b.zs.length := by rw [HD.out.s.nz, htz.out]; exact hzl
          have HDR := Lib.hid (drain w gp t zc ccs b c z wr P8 HD.out.v hcb hzb)
          have HNX := Lib.hid (fun d => HD.out.next (d := d) hcb hzb)
          have n1 := Z8.ne_type P8.v.q.x (by decide)
          have n2 := Z8.ne_type P8.v.c.x (by decide)
          clear hz hcb hzb
          go_wp2_with fail
          refine HDR.out.mono ?_
          rintro e w9 ⟨rfl, ⟨zc', ccs', b', P9, V9, S9, E9, F9⟩, K9⟩
          have Z9 := K9 gr 32 nilA n1 n2 Z8
          have HD9 := Lib.hid (HNX.out b' V9 S9 E9 F9)
          clear P8 Z8 V9 S9 E9 F9 K9 HDR HNX HD
          go_wp2
          go_roundg g2
          case rel => exact ⟨z + 1, zc', ccs', b', by have := HZ.out; omega, by go_num, P9, Z9, HD9.out⟩
          case measure => omega
end Go.Proofs.Ytdddkfpcbfgocaa
namespace Go.Zn
open Go.Can
theorem setC_setC {a : A} {c z : Nat} {l m : List Int} (hc : c < a.cs.length) : setC (setC a c z l) c z m = setC a c z m := by
  have e : (setC a c z l).cs.getD c [] = (a.cs.getD c []).set z l := by
    show (a.cs.set c ((a.cs.getD c []).set z l)).getD c [] = _
    rw [getD_set hc, if_pos rfl]
  unfold setC at e ⊢
  simp only at e ⊢
  rw [e]
  congr 1
  apply List.ext_getElem?
  intro j
  by_cases h : j = c
  · subst h
    rw [List.getElem?_set_self (by simpa using hc), List.getElem?_set_self hc]
    congr 1
    apply List.ext_getElem?
    intro k
    by_cases h2 : k = z
    · subst h2
      by_cases hl : k < (a.cs.getD j []).length
      · rw [List.getElem?_set_self (by simpa using hl), List.getElem?_set_self hl]
      · rw [List.getElem?_eq_none (by simp at hl ⊢; omega), List.getElem?_eq_none (by simp at hl ⊢; omega)]
    · rw [List.getElem?_set_ne (Ne.symm h2), List.getElem?_set_ne (Ne.symm h2), List.getElem?_set_ne (Ne.symm h2)]
  · rw [List.getElem?_set_ne (Ne.symm h), List.getElem?_set_ne (Ne.symm h), List.getElem?_set_ne (Ne.symm h)]
/-- A frame is put into a list: some frames are kept, others are in hand. -/
theorem put_plain {a : A} {c z : Nat} {x : Int} {sp keep : List Int} (h : VA a) (hc : c < a.cs.length) (hz : z < a.zs.length) (hx : inZ (zn a z) x) (hn : ¬ Fr a z x) (he : lst a c z ++ [x] = sp ++ keep) (hk : keep.length ≤ a.hi) :
    VA (setC a c z keep) ∧ Sa a (setC a c z keep) ∧ Hand (setC a c z keep) z sp ∧ ∀ b, (∀ y q, Fr b y q ↔ Fr (setC a c z keep) y q ∨ (y = z ∧ q ∈ sp)) → ∀ y q, Fr b y q ↔ Fr a y q ∨ (y = z ∧ q = x) := by
  obtain ⟨v1, h1, f1⟩ := drain_list h hc hz
  have hc1 : c < (setC a c z []).cs.length := by simpa [setC] using hc
  have hl1 : lst (setC a c z []) c z = [] := by rw [lst_setC hc (h.lz hc hz), if_pos ⟨rfl, rfl⟩]
  have hx1 : ¬ Fr (setC a c z []) z x := fun hf => hn ((f1 z x).1 hf).1
  have hxl : x ∉ lst a c z := fun hm => hn (.inr ⟨c, hc, hm⟩)
  have hh : Hand (setC a c z []) z (sp ++ keep) := by
    rw [← he]
    refine ⟨List.nodup_append.2 ⟨h1.nd, by simp, fun u hu v hv e => ?_⟩, fun u hu => ?_⟩
    · obtain rfl := List.mem_singleton.1 hv
      subst e
      exact hxl hu
    · rcases List.mem_append.1 hu with hu | hu
      · exact h1.rg u hu
      · obtain rfl := List.mem_singleton.1 hu
        exact ⟨hx, hx1⟩
  have hnd := List.nodup_append.1 hh.nd
  have hk2 : Hand (setC a c z []) z keep := ⟨hnd.2.1, fun u hu => hh.rg u (List.mem_append.2 (.inr hu))⟩
  obtain ⟨v2, f2⟩ := cache_list v1 hc1 hz hk2 (l := keep) hnd.2.1 (fun q => by rw [hl1]; simp) hk
  rw [setC_setC hc] at v2 f2
  have hmem : ∀ q, q ∈ lst a c z ∨ q = x ↔ q ∈ sp ∨ q ∈ keep := fun q => by
    have : q ∈ lst a c z ++ [x] ↔ q ∈ sp ++ keep := by rw [he]
    simpa using this
  refine ⟨v2, Sa.setC, ⟨hnd.1, fun u hu => ⟨(hh.rg u (List.mem_append.2 (.inl hu))).1, fun hf => ?_⟩⟩, fun b hb y q => ?_⟩
  · rcases (f2 z u).1 hf with h3 | ⟨_, h3⟩
    · exact (hh.rg u (List.mem_append.2 (.inl hu))).2 h3
    · exact hnd.2.2 u hu u h3 rfl
  · rw [hb, f2, f1]
    constructor
    · rintro ((h3 | ⟨h3, h4⟩) | ⟨h3, h4⟩)
      · exact .inl h3.1
      · rcases (hmem q).2 (.inr h4) with h5 | h5
        · exact .inl (.inr ⟨c, hc, by rw [h3]; exact h5⟩)
        · exact .inr ⟨h3, h5⟩
      · rcases (hmem q).2 (.inl h4) with h5 | h5
        · exact .inl (.inr ⟨c, hc, by rw [h3]; exact h5⟩)
        · exact .inr ⟨h3, h5⟩
    · rintro (h3 | ⟨h3, h4⟩)
      · by_cases h5 : y = z ∧ q ∈ lst a c z
        · rcases (hmem q).1 (.inl h5.2) with h6 | h6
          · exact .inr ⟨h5.1, h6⟩
          · exact .inl (.inr ⟨h5.1, h6⟩)
        · exact .inl (.inl ⟨h3, h5⟩)
      · rcases (hmem q).1 (.inr h4) with h6 | h6
        · exact .inr ⟨h3, h6⟩
        · exact .inl (.inr ⟨h3, h6⟩)
end Go.Zn
namespace Go.Proofs.Ytdddkfpcbfgocaa
open Go.RowKit Go.Over Go.Zn Go.Can Go.Seg Go.Grow
/-- What a call gives that makes an allocator, and no error. -/
def AnsE (w : World) (R : A → Prop) (e : Ending) (w' : World) : Prop := ∃ v a', e = .returned (.tuple #[v, .int .i64 0]) ∧ Ra w' v a' ∧ R a' ∧ Below w.heap.size w w'
/-- One frame more is free. -/
structure More (a : A) (z : Nat) (x : Int) (b : A) : Prop where
  v : VA b
  s : Sa a b
  f : ∀ y q, Fr b y q ↔ Fr a y q ∨ (y = z ∧ q = x)
/-- What the call of Put reads. -/
def CF (g : Nat) (s : Sh) (c bt hi : Nat) (v : Value) (U : World) : Prop := U.cell? ⟨g, 4, none⟩ = some (.slice (some ⟨s.bc, 0, none⟩) s.nc s.cc) ∧ U.cell? ⟨s.bc, c, none⟩ = some v ∧ U.cell? ⟨g, 1, none⟩ = some (.int .i64 bt) ∧ U.cell? ⟨g, 2, none⟩ = some (.int .i64 hi)
theorem AP.cf {w0 W : World} {g : Nat} {s : Sh} {zc ccs : List Value} {a : A} {c : Nat} {v : Value} (h : AP w0 g s zc ccs a W) (hv : ccs[c]? = some v) : CF g s c a.bt a.hi v W := ⟨h.c4, by rw [h.v.c.x.cell]; exact hv, h.c1, h.c2⟩
set_option maxRecDepth 100000 in set_option maxHeartbeats 3200000 in
theorem freeA (v : Value) (a : A) (c z : Nat) (x : Int) (w : World) (H : Ra w v a) (hV : VA a) (hc : c < a.cs.length) (hz : z < a.zs.length) (hx : inZ (zn a z) x) (hn : ¬ Fr a z x) : Calls Try.prog 14 #[v, .int .i64 c, .int .i64 x] w (AnsE w (More a z x)) := by
  have HV := Lib.hid hV; have HC := Lib.hid hc; have HZ := Lib.hid hz; have HX := Lib.hid hx; have HN := Lib.hid hn
  have hzi := hV.zoneI hz hx
  have hx01 := hV.inr hz hx
  have HZO := Lib.hid (fun W v' (h : Ra W v' a) => by
    have := zoneof v' a x W h (fun z' hz' => by
      obtain ⟨i', hi'⟩ := List.getElem?_of_mem hz'
      have := hV.vz i' (lt_of hi'); rw [zn_of hi'] at this; exact this.r) hV.z6
    rw [hzi] at this
    exact this)
  have hnc := hV.nc
  clear hV hx hn hzi
  obtain ⟨s, zc, ccs, rfl, hW⟩ := H
  have X0 := AZ.new hW
  clear hW
  go_enter Try.func14, Try.ntmps14
  go_upto_region 1 with fail
  obtain ⟨w1, hw1⟩ : ∃ W, W = (w.alloc (.cells (s.cells a.bt a.hi).toArray 32)).alloc (.cells #[.slice none 0 0, .int .i64 0, .int .i64 0, .slice none 0 0, .slice none 0 0] 32) := ⟨_, rfl⟩
  rw [← hw1] at X0 ⊢
  obtain ⟨gr, hgr⟩ : ∃ g, w.heap.size + 1 = g := ⟨_, rfl⟩
  obtain ⟨g, hg0⟩ : ∃ g, w.heap.size = g := ⟨_, rfl⟩
  have X1 : AZ w g gr s zc ccs a w1 := by rw [← hgr, ← hg0]; exact X0
  rw [hgr, hg0]
  clear hw1 X0 hg0 hgr
  go_wp2_with ((with_reducible refine lda ?_ X1.x.x ?_); (focus rfl))
  refine (acheck _ a w1 X1.x.ra HV.out).mono ?_
  rintro e w2 ⟨rfl, b2⟩
  have X2 := X1.below b2
  clear X1 b2
  go_wp2_with ((with_reducible refine lda ?_ X2.x.x ?_); (focus rfl))
  refine (HZO.out w2 _ X2.x.ra).mono ?_
  rintro e w3 ⟨rfl, b3⟩
  have X3 := X2.below b3
  have c0 := X3.x.c0
  have hcn : c < s.nn := by rw [← X3.x.v.en, ← hnc]; exact HC.out
  have t1 : decide ((s.nn : Int) ≤ (c : Int)) = false := by simp; omega
  have t2 : decide ((z : Int) < 0) = false := by simp
  clear X2 b3 HZO hnc
  go_wp2_with ((with_reducible refine lda ?_ X3.x.x ?_); (focus rfl))
  refine (afree _ a z x w3 X3.x.ra HV.out HZ.out HX.out).mono ?_
  rintro e w4 ⟨⟨b, rfl, hb⟩, b4⟩
  have hbf : b = false := by
    cases b with
    | false => rfl
    | true => exact absurd (hb.1 rfl) HN.out
  subst hbf
  have X4 := X3.below b4
  clear X3 b4 c0 t1 t2 hb hcn
  go_wp2_with ((with_reducible refine lda ?_ X4.x.x ?_); (focus rfl))
  refine (aclone _ a w4 X4.x.ra HV.out).mono ?_
  rintro e w5 ⟨t, zc5, ccs5, W5, rfl, hW5, hlz, hlc, b5, _, _⟩
  have X5 := X4.below b5
  have hz5 := Blk.new w5 32 #[.slice none 0 0, .int .i64 0, .int .i64 0, .slice none 0 0, .slice none 0 0] nilA rfl
  have hlz := Nat.le_trans X4.x.b.size hlz
  have hlc := Nat.le_trans X4.x.b.size hlc
  clear X4 b5
  go_upto_region 10 with ((with_reducible refine stA (s := t) (bt := a.bt) (hi := a.hi) ?_ ?_ hz5 ?_ ?_); (focus rfl); (focus rfl); (focus rfl); intro w6 hB6 hg6)
  obtain ⟨P6, b6⟩ := AP.start X5.x.b hW5 hlz hlc hB6 hg6
  have Z6 := X5.z.later b6
  have hlr := X5.l
  obtain ⟨gp, hgp⟩ : ∃ z, w5.heap.size = z := ⟨_, rfl⟩
  rw [hgp] at P6 ⊢
  clear hgp X5 hz5 hW5 hlz hlc hB6 hg6 b6
  simp only [Act.put]
  have hct : c < t.nc := by rw [← P6.v.ec]; exact HC.out
  obtain ⟨L, hL⟩ := get_some P6.v.ec hct
  have hLn : L.length = a.zs.length := HV.out.cl hL
  obtain ⟨l, hl⟩ := get_some hLn HZ.out
  have hle := lst_of hL hl
  obtain ⟨v6, hv6, hLc⟩ := P6.v.c.row c L hL
  have HPP := Lib.hid (fun W (h : Lc W v6 L) => pcput (.agg #[v6]) L z l x a.bt a.hi W ⟨_, rfl, h⟩ (HV.out.vc hL) hl hx01.1 hx01.2 (fun hm => by
    obtain ⟨y, m, hm1, hm2⟩ := mem_flat.1 hm
    obtain ⟨q1, _, _, q2⟩ := HV.out.at_ hL hm1
    obtain rfl := HV.out.zdis q1 HZ.out (q2 x hm2).1 HX.out
    exact HN.out (.inr ⟨c, HC.out, by rw [lst_of hL hm1]; exact hm2⟩)) HV.out.b1 HV.out.bh HV.out.h64 (HV.out.at_ hL hl).2.1)
  have HLV := Lib.hid (lt_of hv6); have HLl := Lib.hid hl; have HV6 := Lib.hid hv6; have HLL := Lib.hid hL; have HLE := Lib.hid hle; have HLC := Lib.hid hLc
  clear hLn hL hl hle hv6 hLc
  refine wp_region_plan (CF gp t c a.bt a.hi v6) (.quiet [0, 1, 2, 3, 4, 5, 6, 7, 8, 9, 10] (.fork 11 (.quiet [12, 13, 14, 15] (.only 16 (.only 17 (.quiet [18, 19] .done)))) 16 (.only 11 (.quiet [12, 13, 14, 15] (.only 17 (.quiet [18, 19] .done)))))) 99 (by kernel_rfl) (by kernel_rfl) (P6.cf HV6.out) ?_
  intro W hWW hWe
  have bW : Below w6.heap.size w6 W := by rw [hWe]; exact (Below.refl _ _).drew
  clear hWe
  have P7 := P6.below bW
  have Z7 := Z6.later bW
  have HLC7 := Lib.hid (HLC.out.below bW)
  simp only [wpPlan, inOrder, List.filterMap_cons, List.filterMap_nil, List.getElem?_cons_zero, List.getElem?_cons_succ]
  have q1 := fun z => (hold_ok (S0 := CF gp t c a.bt a.hi v6) hWW z).1
  have q2 := fun z => (hold_ok (S0 := CF gp t c a.bt a.hi v6) hWW z).2.1
  have q3 := fun z => (hold_ok (S0 := CF gp t c a.bt a.hi v6) hWW z).2.2.1
  have q4 := fun z => (hold_ok (S0 := CF gp t c a.bt a.hi v6) hWW z).2.2.2
  clear P6 Z6 bW HLC
  show wpQuiet _ _ _ _ (_ :: _ :: _ :: _ :: _ :: _ :: _ :: _ :: _ :: _ :: [_]) _
  repeat (go_big_quiet_step (fail))
  refine wpQuiet_nil ?_
  clear q1 q2 q3 q4 hWW
  refine ⟨?_, ?_⟩
  · show wpList _ _ _ [_] _ _
    go_wp2_with fail
    refine (HPP.out W HLC7.out).mono ?_
    rintro e w8 ⟨_, vs, sp, keep, rfl, ⟨v', rfl, hv'⟩, hsp, hk1, hk2, b8⟩
    have P8 := P7.below b8
    have hz9 := Blk.new w8 77 #[.slice none 0 0] [.slice none 0 0] rfl
    have b9 := below_box w8 (.cells #[.slice none 0 0] 77)
    have P9 := P8.below b9
    have hv9 := hv'.below b9
    have hsp9 := hsp.below b9
    have bb := below_then b8 b9
    have hgW := b8.size
    go_wp2
    refine ⟨hold_of (P8.cf HV6.out), ?_⟩
    show wpQuiet _ _ _ _ (_ :: _ :: _ :: [_]) _
    repeat (go_big_quiet_step (fail))
    refine wpQuiet_nil ?_
    show wpList _ _ _ [_] _ _
    go_wp2
    refine ⟨hold_of (P9.cf HV6.out), ?_⟩
    obtain ⟨w9, hw9⟩ : ∃ W, W = w8.alloc (.cells #[.slice none 0 0] 77) := ⟨_, rfl⟩
    obtain ⟨gk, hgk⟩ : ∃ g, w8.heap.size = g := ⟨_, rfl⟩
    rw [← hw9] at hz9 hv9 hsp9 bb ⊢
    rw [hgk] at hz9 hgW ⊢
    clear hw9 hgk P8 P9 hv' hsp b8 b9 HLC7 HPP
    obtain ⟨_, _, hvf, _⟩ := hv9.form
    have h1v : v'.oneCell' = true := by rw [hvf]; rfl
    clear hvf
    show wpList _ _ _ [_] _ _
    go_wp2_with ((with_reducible refine stC (u := .slice none 0 0) (v := v') ?_ ?_ hz9 h1v ?_); (focus rfl); (focus rfl); intro w10 hB10 hg10)
    have kp : ∀ {q t : Nat} {bs : List Value}, t ≠ 77 → Blk w9 q t bs → Blk w10 q t bs := fun ht hq => hq.grown hg10 (by simpa using hz9.ne_type hq (Ne.symm ht))
    have hsp10 := hsp9.past fun _ _ => kp (by decide)
    have hv10 : Lc w10 v' (L.set z keep) := by
      obtain ⟨b, cc, bs, h2, h3, h4, h5⟩ := hv9
      exact ⟨b, cc, bs, h2, h3, h4, kp (by decide) h5.x, h5.n, fun i l hl => by obtain ⟨u, q1, q2⟩ := h5.row i l hl; exact ⟨u, q1, q2.past fun _ _ => kp (by decide)⟩⟩
    have b10 : Below W.heap.size W w10 := bb.grown hg10 bb.size (fun k hk => by cases hk; exact hgW)
    have P10 := P7.below b10
    have Z10 := Z7.later b10
    have hgc : gk ≠ t.bc := by have := P7.v.c.x.lt; omega
    have d10 : w10.cell? ⟨gk, 0, none⟩ = some v' := by rw [hB10.cell]; rfl
    clear kp hg10 bb b10 P7 Z7 hz9 hv9 hsp9 hgW hgc
    refine ⟨hold_of (P10.cf HV6.out), ?_⟩
    simp only [Act.put]
    show wpQuiet _ _ _ _ (_ :: [_]) _
    repeat (go_big_quiet_step (fail))
    refine wpQuiet_nil ?_
    refine NoPanic.normal ?_
    have hiz : (Try.prog.info? 77).map (·.size) = some [v'].length := infoC
    have hxz := P10.v.c.x
    have hfit : c + [v'].length ≤ ccs5.length := by have := HLV.out; simp; omega
    have h1c : ∀ u ∈ [v'], u.oneCell' = true := fun u hu => by simp at hu; subst hu; exact h1v
    have c4 := P10.c4
    have HH := Lib.hid hv10; have HSP := Lib.hid hsp10
    have HK := Lib.hid (And.intro hk1 hk2)
    clear hv10 hsp10 hk1 hk2
    go_wp2_with ((with_reducible refine wpList_store_part (off := c) (cs := [v']) hiz ?_ ?_ hxz hfit h1c ?_); (focus rfl); (focus rfl); intro w11 hB11 hg11)
    rw [lay_one HLV.out] at hB11
    have P11 := P10.cset hg11 hB11 hct HH.out
    rw [setC_of HLL.out] at P11
    have S11 := HSP.out.past (P10.b3 (KB.grownC hg11))
    have Z11 : Blk w11 gr 32 nilA := Z10.grown hg11 (by simpa using Ne.symm (Z10.ne_type hxz (by decide)))
    have hsl : sp.length ≤ 256 := by
      have h1 := (HV.out.vc HLL.out).len HLl.out
      have h2 := congrArg List.length HK.out.1
      have h3 := HV.out.bh; have h4 := HV.out.h64; have h5 := (HV.out.at_ HLL.out HLl.out).2.1
      simp at h2; omega
    obtain ⟨v1, s1, h1, f1⟩ := put_plain HV.out HC.out HZ.out HX.out HN.out (sp := sp) (keep := keep) (by rw [HLE.out]; exact HK.out.1) HK.out.2
    have HG := Lib.hid (give w gp t _ _ (setC a c z keep) z sp vs w11 P11 v1 (by rw [s1.nz]; exact HZ.out) h1 S11 hsl)
    have n1 := Z11.ne_type P11.v.q.x (by decide)
    have n2 := Z11.ne_type P11.v.c.x (by decide)
    have HF := Lib.hid f1; have HS := Lib.hid s1
    clear P10 Z10 hiz hxz hfit h1c hB11 hg11 P11 S11 v1 s1 h1 f1 HH HSP HK d10 c4
    go_wp2_with fail
    refine HG.out.mono ?_
    rintro e w12 ⟨rfl, ⟨zc12, a12, P12, V12, A12, E12, F12⟩, K12⟩
    have Z12 := K12 gr 32 nilA n1 n2 Z11
    have HR := Lib.hid (show More a z x a12 from ⟨V12, HS.out.trans A12, HF.out a12 F12⟩)
    clear V12 A12 E12 F12 HG Z11 n1 n2 K12
    go_wp2_with first | ((with_reducible refine lda ?_ P12.x ?_); (focus rfl)) | ((with_reducible refine stA (s := t) (bt := a12.bt) (hi := a12.hi) ?_ ?_ Z12 ?_ ?_); (focus rfl); (focus rfl); (focus rfl); intro w13 hB13 hg13)
    refine bodyPost_ret (resA1 rfl _ _ gr _ _ rfl hB13 rfl rfl) rfl ?_
    have kp : ∀ {q t : Nat} {bs : List Value}, t ≠ 32 → Blk w12 q t bs → Blk w13 q t bs := fun ht hq => hq.grown hg13 (by simpa using Z12.ne_type hq (Ne.symm ht))
    exact ⟨_, a12, rfl, ⟨t, _, _, rfl, P12.v.past (kp (by decide) P12.v.q.x) (kp (by decide) P12.v.c.x) (fun _ _ => kp (by decide)) (fun _ _ => kp (by decide))⟩, HR.out, P12.b.grown hg13 P12.b.size (fun q hq => by cases hq; exact hlr)⟩
  · show wpList _ _ _ [_] _ _
    have hz9 := Blk.new W 77 #[.slice none 0 0] [.slice none 0 0] rfl
    have b9 := below_box W (.cells #[.slice none 0 0] 77)
    have P9 := P7.below b9
    have hv9 := HLC7.out.below b9
    go_wp2
    refine ⟨hold_of (P9.cf HV6.out), ?_⟩
    obtain ⟨w8, hw8⟩ : ∃ U, U = W.alloc (.cells #[.slice none 0 0] 77) := ⟨_, rfl⟩
    obtain ⟨gk, hgk⟩ : ∃ g, W.heap.size = g := ⟨_, rfl⟩
    have hgW : W.heap.size ≤ gk := by omega
    rw [← hw8] at hz9 hv9 b9 P9 ⊢
    rw [hgk] at hz9 ⊢
    clear hw8 hgk
    show wpList _ _ _ [_] _ _
    go_wp2_with fail
    refine (HPP.out w8 hv9).mono ?_
    rintro e w9 ⟨_, vs, sp, keep, rfl, ⟨v', rfl, hv'⟩, hsp9, hk1, hk2, b8⟩
    have P8 := P9.below b8
    have bb := below_then b9 b8
    have hz9 := hz9.later b8
    go_wp2
    refine ⟨hold_of (P8.cf HV6.out), ?_⟩
    show wpQuiet _ _ _ _ (_ :: _ :: _ :: [_]) _
    repeat (go_big_quiet_step (fail))
    refine wpQuiet_nil ?_
    have hv9 := hv'
    clear P8 P9 hv' b8 b9 HLC7 HPP
    obtain ⟨_, _, hvf, _⟩ := hv9.form
    have h1v : v'.oneCell' = true := by rw [hvf]; rfl
    clear hvf
    show wpList _ _ _ [_] _ _
    go_wp2_with ((with_reducible refine stC (u := .slice none 0 0) (v := v') ?_ ?_ hz9 h1v ?_); (focus rfl); (focus rfl); intro w10 hB10 hg10)
    have kp : ∀ {q t : Nat} {bs : List Value}, t ≠ 77 → Blk w9 q t bs → Blk w10 q t bs := fun ht hq => hq.grown hg10 (by simpa using hz9.ne_type hq (Ne.symm ht))
    have hsp10 := hsp9.past fun _ _ => kp (by decide)
    have hv10 : Lc w10 v' (L.set z keep) := by
      obtain ⟨b, cc, bs, h2, h3, h4, h5⟩ := hv9
      exact ⟨b, cc, bs, h2, h3, h4, kp (by decide) h5.x, h5.n, fun i l hl => by obtain ⟨u, q1, q2⟩ := h5.row i l hl; exact ⟨u, q1, q2.past fun _ _ => kp (by decide)⟩⟩
    have b10 : Below W.heap.size W w10 := bb.grown hg10 bb.size (fun k hk => by cases hk; exact hgW)
    have P10 := P7.below b10
    have Z10 := Z7.later b10
    have hgc : gk ≠ t.bc := by have := P7.v.c.x.lt; omega
    have d10 : w10.cell? ⟨gk, 0, none⟩ = some v' := by rw [hB10.cell]; rfl
    clear kp hg10 bb b10 P7 Z7 hz9 hv9 hsp9 hgW hgc
    refine ⟨hold_of (P10.cf HV6.out), ?_⟩
    simp only [Act.put]
    show wpQuiet _ _ _ _ (_ :: [_]) _
    repeat (go_big_quiet_step (fail))
    refine wpQuiet_nil ?_
    refine NoPanic.normal ?_
    have hiz : (Try.prog.info? 77).map (·.size) = some [v'].length := infoC
    have hxz := P10.v.c.x
    have hfit : c + [v'].length ≤ ccs5.length := by have := HLV.out; simp; omega
    have h1c : ∀ u ∈ [v'], u.oneCell' = true := fun u hu => by simp at hu; subst hu; exact h1v
    have c4 := P10.c4
    have HH := Lib.hid hv10; have HSP := Lib.hid hsp10
    have HK := Lib.hid (And.intro hk1 hk2)
    clear hv10 hsp10 hk1 hk2
    go_wp2_with ((with_reducible refine wpList_store_part (off := c) (cs := [v']) hiz ?_ ?_ hxz hfit h1c ?_); (focus rfl); (focus rfl); intro w11 hB11 hg11)
    rw [lay_one HLV.out] at hB11
    have P11 := P10.cset hg11 hB11 hct HH.out
    rw [setC_of HLL.out] at P11
    have S11 := HSP.out.past (P10.b3 (KB.grownC hg11))
    have Z11 : Blk w11 gr 32 nilA := Z10.grown hg11 (by simpa using Ne.symm (Z10.ne_type hxz (by decide)))
    have hsl : sp.length ≤ 256 := by
      have h1 := (HV.out.vc HLL.out).len HLl.out
      have h2 := congrArg List.length HK.out.1
      have h3 := HV.out.bh; have h4 := HV.out.h64; have h5 := (HV.out.at_ HLL.out HLl.out).2.1
      simp at h2; omega
    obtain ⟨v1, s1, h1, f1⟩ := put_plain HV.out HC.out HZ.out HX.out HN.out (sp := sp) (keep := keep) (by rw [HLE.out]; exact HK.out.1) HK.out.2
    have HG := Lib.hid (give w gp t _ _ (setC a c z keep) z sp vs w11 P11 v1 (by rw [s1.nz]; exact HZ.out) h1 S11 hsl)
    have n1 := Z11.ne_type P11.v.q.x (by decide)
    have n2 := Z11.ne_type P11.v.c.x (by decide)
    have HF := Lib.hid f1; have HS := Lib.hid s1
    clear P10 Z10 hiz hxz hfit h1c hB11 hg11 P11 S11 v1 s1 h1 f1 HH HSP HK d10 c4
    go_wp2_with fail
    refine HG.out.mono ?_
    rintro e w12 ⟨rfl, ⟨zc12, a12, P12, V12, A12, E12, F12⟩, K12⟩
    have Z12 := K12 gr 32 nilA n1 n2 Z11
    have HR := Lib.hid (show More a z x a12 from ⟨V12, HS.out.trans A12, HF.out a12 F12⟩)
    clear V12 A12 E12 F12 HG Z11 n1 n2 K12
    go_wp2_with first | ((with_reducible refine lda ?_ P12.x ?_); (focus rfl)) | ((with_reducible refine stA (s := t) (bt := a12.bt) (hi := a12.hi) ?_ ?_ Z12 ?_ ?_); (focus rfl); (focus rfl); (focus rfl); intro w13 hB13 hg13)
    refine bodyPost_ret (resA1 rfl _ _ gr _ _ rfl hB13 rfl rfl) rfl ?_
    have kp : ∀ {q t : Nat} {bs : List Value}, t ≠ 32 → Blk w12 q t bs → Blk w13 q t bs := fun ht hq => hq.grown hg13 (by simpa using Z12.ne_type hq (Ne.symm ht))
    exact ⟨_, a12, rfl, ⟨t, _, _, rfl, P12.v.past (kp (by decide) P12.v.q.x) (kp (by decide) P12.v.c.x) (fun _ _ => kp (by decide)) (fun _ _ => kp (by decide))⟩, HR.out, P12.b.grown hg13 P12.b.size (fun q hq => by cases hq; exact hlr)⟩
end Go.Proofs.Ytdddkfpcbfgocaa
