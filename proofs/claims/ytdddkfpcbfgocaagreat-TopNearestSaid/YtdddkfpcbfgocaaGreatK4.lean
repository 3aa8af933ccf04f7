/- Walks: a copy of a cache with another list for a zone. Walks: the list of a zone is taken out of a cache; the frame that was freed last is taken. Walks: frames are added to a cache. Walks: a freed frame is put into a cache. Zones in a row; walks: the check of zones, the distance of nodes. Walks: the rank of a zone, and the comparison of two. Walks: a stable sort of few numbers. Walks: the insertion sort by a comparison, and the stable sort of few numbers. Walks: the stable sort of a row of few numbers. Walks: the order in which zones are tried. The plain mathematics of an allocator: caches, counts, the zone of a frame. An allocator in memory; walks: the zone of a frame, the parameters of a machine. -/
import Derived.Laws.EntriesVeiled
import Derived.Test.YtdddkfpcbfgocaaGreatK3
namespace Go.Proofs.YtdddkfpcbfgocaaGreat
open Go.RowKit Go.Over Go.Zn Go.Can Go.Seg Go.Grow
/-- Numbers stay where blocks of numbers stay. -/
theorem Sl.past {w w' : World} {v : Value} {l : List Int} (h : Sl w v l) (hk : ∀ b bs, Blk w b 3 bs → Blk w' b 3 bs) : Sl w' v l := by
  obtain ⟨a, c, h1, h2, h3, h4, h5⟩ := h
  refine ⟨a, c, h1, h2, h3, h4, fun h0 => ?_⟩
  obtain ⟨b, off, ha, ⟨cs, hcs⟩, hc⟩ := h5 h0
  have h6 := hk b cs hcs
  exact ⟨b, off, ha, ⟨cs, h6⟩, fun i hi => by rw [h6.cell, ← hcs.cell]; exact hc i hi⟩
/-- A whole row of numbers. -/
theorem Sl.row {w : World} {b n c : Nat} {l : List Int} {zs : List Value} (hB : Blk w b 3 zs) (hl : l.length = n) (hnc : n ≤ c) (hc : c ≤ maxLen) (hz : ∀ i, i < n → zs[i]? = (nums l)[i]?) : Sl w (.slice (some ⟨b, 0, none⟩) n c) l := by
  refine ⟨some ⟨b, 0, none⟩, c, by rw [hl], by omega, hc, fun h => (by cases h), fun h0 => ⟨b, 0, rfl, ⟨zs, hB⟩, fun i hi => ?_⟩⟩
  rw [hB.cell, Nat.zero_add, hz i (by omega)]
  simp [nums, List.getElem?_eq_getElem hi, List.getD_eq_getElem?_getD]
/-- A copy under way: the lists below k are there. -/
structure RX (w : World) (g gr g7 rb n : Nat) (v0 : Value) (T : List (List Int)) (k : Nat) (ns : List Value) (W : World) : Prop where
  b : Below w.heap.size w W
  x : Blk W g 93 [v0]
  z : Blk W gr 93 [.slice none 0 0]
  r : Blk W g7 93 [.slice (some ⟨rb, 0, none⟩) n n]
  y : Blk W rb 24 ns
  ny : ns.length = n
  row : ∀ (i : Nat) (l : List Int), i < k → T[i]? = some l → ∃ v, ns[i]? = some v ∧ Sl W v l ∧ LoV w.heap.size v
section
variable {w W W' W0 : World} {g gr g7 rb n k : Nat} {v0 : Value} {T : List (List Int)} {ns : List Value}
theorem RX.below (h : RX w g gr g7 rb n v0 T k ns W) (hb : Below W.heap.size W W') : RX w g gr g7 rb n v0 T k ns W' :=
  ⟨below_then h.b hb, h.x.later hb, h.z.later hb, h.r.later hb, h.y.later hb, h.ny, fun i l hi hl => by obtain ⟨v, h1, h2, h3⟩ := h.row i l hi hl; exact ⟨v, h1, h2.below hb, h3⟩⟩
/-- A slice is put, and its row filled. -/
theorem RX.next {nb m : Nat} {l : List Int} {zs : List Value} (h0 : RX w g gr g7 rb n v0 T k ns W0) (hb0 : Below W0.heap.size W0 W) (hlr : w.heap.size ≤ rb) (hk : k < n) (hnb : Blk W nb 3 zs) (hlb : W0.heap.size ≤ nb) (hl : T[k]? = some l) (hm : l.length = m) (hm6 : m ≤ 256)
    (hg : (W.setCell ⟨rb, k, none⟩ (.slice (some ⟨nb, 0, none⟩) m m)).grownBy W' (some nb)) (hB : Blk W' nb 3 (nums l)) : RX w g gr g7 rb n v0 T (k + 1) (ns.set k (.slice (some ⟨nb, 0, none⟩) m m)) W' := by
  have h := h0.below hb0
  have e1 : rb ≠ nb := h.y.ne_type hnb (by decide)
  have kp : ∀ {g t : Nat} {bs : List Value}, Blk W g t bs → g ≠ rb → g ≠ nb → Blk W' g t bs := fun hq h1 h2 => (hq.far (p := ⟨rb, k, none⟩) h1 _).grown hg (by simpa using Ne.symm h2)
  have kt : ∀ {g : Nat} {bs : List Value}, Blk W g 93 bs → Blk W' g 93 bs := fun hq => kp hq (hq.ne_type h.y (by decide)) (hq.ne_type hnb (by decide))
  refine ⟨(h.b.setCell (p := ⟨rb, k, none⟩) hlr _).grown hg (by have := h.b.size; simpa [World.setCell] using this) (fun q hq => by cases hq; exact Nat.le_trans h0.b.size hlb), kt h.x, kt h.z, kt h.r, (h.y.set k _).grown hg (by simpa using Ne.symm e1), by simp [h.ny], fun i l' hi hl' => ?_⟩
  by_cases e : i = k
  · subst e
    rw [hl] at hl'
    cases hl'
    refine ⟨_, List.getElem?_set_self (by rw [h.ny]; exact hk), Sl.row hB hm (Nat.le_refl _) (by unfold maxLen; omega) (fun _ _ => rfl), fun a n c e => by cases e; exact Nat.le_trans h0.b.size hlb⟩
  · obtain ⟨v, h1, h2, h3⟩ := h0.row i l' (by omega) hl'
    refine ⟨v, by rw [List.getElem?_set_ne (Ne.symm e)]; exact h1, h2.past fun b cs hcs => ?_, h3⟩
    have hlt := hcs.lt
    have hcs := hcs.later hb0
    exact kp hcs (Ne.symm (h.y.ne_type hcs (by decide))) (by omega)
theorem RX.done (h : RX w g gr g7 rb n v0 T n ns W) (hn : T.length = n) (hn6 : n ≤ 6) : Lc W (.slice (some ⟨rb, 0, none⟩) n n) T :=
  ⟨rb, n, ns, by rw [hn], by omega, by unfold maxLen; omega, h.y, by rw [h.ny, hn]; exact Nat.le_refl _, fun i l hl => by
    obtain ⟨v, h1, h2, _⟩ := h.row i l (by rw [← hn]; rw [List.getElem?_eq_some_iff] at hl; exact hl.1) hl
    exact ⟨v, h1, h2⟩⟩
theorem RX.lo (h : RX w g gr g7 rb n v0 T n ns W) (hn : T.length = n) : LoL W w.heap.size (.slice (some ⟨rb, 0, none⟩) n n) := by
  refine ⟨rb, n, n, ns, rfl, h.y, fun y u hy hu => ?_⟩
  obtain ⟨l, hl⟩ := get_some hn hy
  obtain ⟨v, h1, _, h3⟩ := h.row y l hy hl
  rw [hu] at h1
  cases h1
  exact h3
end
/-- A cache whose lists lie in blocks from B on. -/
structure LF (w : World) (B : Nat) (v : Value) (L : List (List Int)) : Prop where
  c : Lc w v L
  lo : LoL w B v
theorem LF.weaken {w : World} {B B' : Nat} {v : Value} {L : List (List Int)} (h : LF w B v L) (hb : B' ≤ B) : LF w B' v L := ⟨h.c, h.lo.weaken hb⟩
theorem LF.below {w w' : World} {B : Nat} {v : Value} {L : List (List Int)} (h : LF w B v L) (hb : Below w.heap.size w w') : LF w' B v L := ⟨h.c.below hb, h.lo.past fun _ _ hq => hq.later hb⟩
def RcF (w : World) (B : Nat) (v : Value) (L : List (List Int)) : Prop := ∃ v0, v = .agg #[v0] ∧ LF w B v0 L
theorem set_get {L : List (List Int)} {z : Nat} {l' : List Int} (hz : z < L.length) {i : Nat} {l : List Int} (h : (L.set z l')[i]? = some l) : (i = z ∧ l = l') ∨ (i ≠ z ∧ L[i]? = some l) := by
  by_cases e : i = z
  · subst e
    rw [List.getElem?_set_self hz] at h
    exact .inl ⟨rfl, (Option.some.inj h).symm⟩
  · rw [List.getElem?_set_ne (Ne.symm e)] at h
    exact .inr ⟨e, h⟩
set_option maxRecDepth 100000 in set_option maxHeartbeats 3200000 in
theorem replace (v : Value) (L : List (List Int)) (z : Nat) (vl : Value) (l' : List Int) (w : World) (H : Rc w v L) (hL : VC L) (hz : z < L.length) (hl : Sl w vl l') (hl6 : l'.length ≤ 256) :
    Calls Tryz.prog 96 #[v, .int .i64 z, vl] w fun e w' => ∃ v', e = .returned v' ∧ RcF w' w.heap.size v' (L.set z l') ∧ Below w.heap.size w w' := by
  obtain ⟨_, rfl, b, c, bs, rfl, hlc, hcm, hV⟩ := H
  obtain ⟨n, hn⟩ : ∃ n, L.length = n := ⟨_, rfl⟩
  have hn1 := hL.l1
  have hn6 := hL.l6
  obtain ⟨al, ml, cl, hvl, hml⟩ : ∃ a m c, vl = .slice a m c ∧ l'.length = m := by obtain ⟨a, c, h, _⟩ := hl; exact ⟨a, _, c, h, rfl⟩
  subst hvl
  rw [hn] at hlc hn6 hn1 hz ⊢
  have HN := Lib.hid hn; have HL := Lib.hid hL; have HV := Lib.hid hV; have HA := Lib.hid hl; have HML := Lib.hid hml
  rw [hml] at hl6
  clear hn hL hV hl hml
  have b1 := below_box w (.cells #[.slice (some ⟨b, 0, none⟩) n c] 93)
  have b2 := below_then b1 (below_box (w.alloc (.cells #[.slice (some ⟨b, 0, none⟩) n c] 93)) (.cells #[.slice none 0 0] 93))
  have X0 := (Blk.new w 93 #[.slice (some ⟨b, 0, none⟩) n c] [.slice (some ⟨b, 0, none⟩) n c] rfl).later (below_box (w.alloc (.cells #[.slice (some ⟨b, 0, none⟩) n c] 93)) (.cells #[.slice none 0 0] 93))
  have Z0 := Blk.new (w.alloc (.cells #[.slice (some ⟨b, 0, none⟩) n c] 93)) 93 #[.slice none 0 0] [.slice none 0 0] rfl
  have hs : (w.alloc (.cells #[.slice (some ⟨b, 0, none⟩) n c] 93)).heap.size = w.heap.size + 1 := by simp
  rw [hs] at Z0
  clear hs b1
  go_enter Tryz.func96, Tryz.ntmps96
  go_upto_region 1 with fail
  obtain ⟨w1, hw1⟩ : ∃ W, W = (w.alloc (.cells #[.slice (some ⟨b, 0, none⟩) n c] 93)).alloc (.cells #[.slice none 0 0] 93) := ⟨_, rfl⟩
  have hgg : w.heap.size + 1 ≠ w.heap.size := by omega
  rw [← hw1] at b2 X0 Z0 ⊢
  obtain ⟨gr, hgr⟩ : ∃ g, w.heap.size + 1 = g := ⟨_, rfl⟩
  have hlgr : w.heap.size ≤ gr := by omega
  rw [hgr] at Z0 hgg ⊢
  have hlg : w.heap.size ≤ w.heap.size := Nat.le_refl _
  obtain ⟨g, hg0⟩ : ∃ g, w.heap.size = g := ⟨_, rfl⟩
  rw [show Blk w1 w.heap.size 93 [.slice (some ⟨b, 0, none⟩) n c] = Blk w1 g 93 [.slice (some ⟨b, 0, none⟩) n c] by rw [hg0]] at X0
  rw [show (gr ≠ w.heap.size) = (gr ≠ g) by rw [hg0]] at hgg
  rw [hg0]
  clear hw1 hgr hlg hg0
  have c1 : w1.cell? ⟨g, 0, none⟩ = some (.slice (some ⟨b, 0, none⟩) n c) := by rw [X0.cell]; rfl
  go_upto_region 2 with ((with_reducible refine wpList_mk (.slice none 0 0) Tryz.underlying91 infoL rfl ?_ ?_ (Nat.le_refl n) (by omega) (by omega) ?_); (focus rfl); (focus rfl); intro w2 hB2 bb2 hs2)
  have b3 := below_box w2 (.cells #[.slice (some ⟨w1.heap.size, 0, none⟩) n n] 93)
  have R3 := Blk.new w2 93 #[.slice (some ⟨w1.heap.size, 0, none⟩) n n] [.slice (some ⟨w1.heap.size, 0, none⟩) n n] rfl
  rw [hs2] at R3
  have B3 := below_then (below_then b2 bb2) b3
  have X3 := (X0.later bb2).later b3
  have Z3 := (Z0.later bb2).later b3
  have Y3 := hB2.later b3
  have hlr := b2.size
  have hn7 : gr ≠ w1.heap.size + 1 := by have := Z0.lt; omega
  obtain ⟨w3, hw3⟩ : ∃ W, W = w2.alloc (.cells #[.slice (some ⟨w1.heap.size, 0, none⟩) n n] 93) := ⟨_, rfl⟩
  rw [← hw3] at B3 R3 X3 Z3 Y3 ⊢
  obtain ⟨g7, hg7⟩ : ∃ z, w1.heap.size + 1 = z := ⟨_, rfl⟩
  rw [hg7] at R3 hn7 ⊢
  obtain ⟨rb, hrb⟩ : ∃ z, w1.heap.size = z := ⟨_, rfl⟩
  rw [hrb] at R3 Y3 hlr ⊢
  have RX0 : RX w g gr g7 rb n (.slice (some ⟨b, 0, none⟩) n c) (L.set z l') 0 (List.replicate n (.slice none 0 0)) w3 := ⟨B3, X3, Z3, R3, Y3, by simp, fun i l hi => by omega⟩
  have HTN := Lib.hid (show (L.set z l').length = n by rw [List.length_set, HN.out])
  clear b2 Z0 X0 c1 hB2 bb2 hs2 hw3 b3 B3 R3 X3 Z3 Y3 hg7 hrb
  have c3 : w3.cell? ⟨g, 0, none⟩ = some (.slice (some ⟨b, 0, none⟩) n c) := by rw [RX0.x.cell]; rfl
  go_wp2
  go_loopg [18] n (fun gg v18 wr => ∃ (k : Nat) (ns : List Value), k + gg = n ∧ v18 = .int .i64 k ∧ RX w g gr g7 rb n (.slice (some ⟨b, 0, none⟩) n c) (L.set z l') k ns wr)
  case atStart => exact ⟨0, _, by omega, rfl, RX0⟩
  case round =>
    clear RX0 c3
    obtain ⟨k, ns, hi, rfl, R4⟩ := hrel
    cases gk with
    | zero =>
      obtain rfl : k = n := by omega
      have hD := R4.done HTN.out hn6
      have hLO := R4.lo HTN.out
      have hin : ¬ k < k := by omega
      have hz4 := R4.z
      have hr4 := R4.r
      clear hi
      go_wp2_with first | ((with_reducible refine ldC ?_ hr4 ?_); (focus rfl)) | ((with_reducible refine stC (u := .slice none 0 0) (v := .slice (some ⟨rb, 0, none⟩) k k) ?_ ?_ hz4 ?_ ?_); (focus rfl); (focus rfl); (focus rfl); intro w5 hB5 hg5)
      refine bodyPost_ret (resC rfl _ _ gr _ rfl hB5) rfl ?_
      refine ⟨_, rfl, ⟨_, rfl, ?_⟩, R4.b.grown hg5 R4.b.size (fun q hq => by cases hq; exact hlgr)⟩
      obtain ⟨b', c', bs', q1, q2, q3, q4⟩ := hD
      exact ⟨⟨b', c', bs', q1, q2, q3, q4.grown hz4 (by decide) (hz4.ne_type q4.x (by decide)) hg5⟩, hLO.past fun _ _ hq => hq.grown hg5 (by simpa using hz4.ne_type hq (by decide))⟩
    | succ gg =>
      have hk : k < n := by omega
      have HK := Lib.hid hi
      obtain ⟨l, hTl⟩ := get_some HTN.out hk
      obtain ⟨lk, hLk⟩ := get_some HN.out hk
      have hVk := HV.out.below R4.b
      obtain ⟨ak, mk, ck, dk, hmk, _, _, _, hIk⟩ := hVk.at hLk
      have d0 : wr.cell? ⟨g, 0, none⟩ = some (.slice (some ⟨b, 0, none⟩) n c) := by rw [R4.x.cell]; rfl
      have d7 : wr.cell? ⟨g7, 0, none⟩ = some (.slice (some ⟨rb, 0, none⟩) n n) := by rw [R4.r.cell]; rfl
      rcases set_get (by rw [HN.out]; exact hz) hTl with ⟨hkz, hll⟩ | ⟨hkz, hll⟩
      · rw [hll] at hTl
        have tkz : ((k : Int) == (z : Int)) = true := by rw [hkz]; simp
        have HSL := Lib.hid (HA.out.below R4.b)
        have HM := Lib.hid HML.out
        have hm6 := hl6
        have HTL := Lib.hid hTl; have HR := Lib.hid R4
        clear hi hTl hLk hVk hmk hIk R4 hkz hll
        go_wp2_with fail
        refine wp_region_plan (fun U => U.cell? ⟨g7, 0, none⟩ = some (.slice (some ⟨rb, 0, none⟩) n n)) (.quiet [0, 1, 2, 3, 4] (.only 5 (.quiet [6] (.last 7)))) 7 (by kernel_rfl) (by kernel_rfl) d7 ?_
        intro W hW hWe
        have bW : Below wr.heap.size wr W := by rw [hWe]; exact (Below.refl _ _).drew
        clear hWe
        simp only [wpPlan, inOrder, List.filterMap_cons, List.filterMap_nil, List.getElem?_cons_zero, List.getElem?_cons_succ]
        have q0 := fun z => hold_ok (S0 := fun U => U.cell? ⟨g7, 0, none⟩ = some (.slice (some ⟨rb, 0, none⟩) n n)) hW z
        show wpQuiet _ _ _ _ (_ :: _ :: _ :: _ :: [_]) _
        repeat (go_big_quiet_step (fail))
        refine wpQuiet_nil ?_
        show wpList _ _ _ [_] _ _
        go_wp2_with ((with_reducible refine wpList_mk (.int .i64 0) Tryz.underlying24 infoI rfl ?_ ?_ (Nat.le_refl ml) (by omega) (by omega) ?_); (focus rfl); (focus rfl); intro w5 hB5 b5 hs5)
        have hlb : wr.heap.size ≤ W.heap.size := bW.size
        have b05 := below_then bW b5
        refine ⟨hold_of (cell_later b05 d7), ?_⟩
        obtain ⟨nb, hnb⟩ : ∃ z, W.heap.size = z := ⟨_, rfl⟩
        rw [hnb] at hB5 hlb ⊢
        clear hnb hs5 b5 bW
        simp only [Act.put, List.setIfInBounds_toArray, List.set_cons_succ, List.set_cons_zero]
        show wpQuiet _ _ _ _ ([_]) _
        repeat (go_big_quiet_step (fail))
        refine wpQuiet_nil ?_
        clear q0 hW
        have RR := fun (w6 : World) (hg : (w5.setCell ⟨rb, k, none⟩ (.slice (some ⟨nb, 0, none⟩) ml ml)).grownBy w6 (some nb)) (hB : Blk w6 nb 3 (nums l')) => HR.out.next b05 hlr hk hB5 hlb HTL.out HM.out hm6 hg hB
        have X5 := HR.out.below b05
        have HSL5 := Lib.hid (HSL.out.below b05)
        have e5 := X5.y.frozen k
        obtain ⟨u, hu⟩ := get_some X5.ny hk
        have f5 : w5.cell? ⟨rb, k, none⟩ = some u := by rw [X5.y.cell]; exact hu
        have x5 := X5.y.set k (.slice (some ⟨nb, 0, none⟩) ml ml)
        have y5 := hB5.far (p := ⟨rb, k, none⟩) (Ne.symm (X5.y.ne_type hB5 (by decide))) (.slice (some ⟨nb, 0, none⟩) ml ml)
        have s5 := HSL5.out.far X5.y (by decide) k (.slice (some ⟨nb, 0, none⟩) ml ml)
        have r5 : (w5.setCell ⟨rb, k, none⟩ (.slice (some ⟨nb, 0, none⟩) ml ml)).cell? ⟨g7, 0, none⟩ = some (.slice (some ⟨rb, 0, none⟩) n n) := by
          have := X5.r.far (p := ⟨rb, k, none⟩) (X5.r.ne_type X5.y (by decide)) (.slice (some ⟨nb, 0, none⟩) ml ml)
          rw [this.cell]; rfl
        have k5 : (w5.setCell ⟨rb, k, none⟩ (.slice (some ⟨nb, 0, none⟩) ml ml)).cell? ⟨rb, k, none⟩ = some (.slice (some ⟨nb, 0, none⟩) ml ml) := by
          rw [x5.cell, List.getElem?_set_self (by rw [X5.ny]; exact hk)]
        have HRR := Lib.hid RR
        clear RR hB5 X5 HR HSL HSL5 d7 hu
        show wpList _ _ _ [_] _ _
        go_wp2
        refine ⟨trivial, NoPanic.normal ?_⟩
        obtain ⟨w6, hw6⟩ : ∃ W, W = w5.setCell ⟨rb, k, none⟩ (.slice (some ⟨nb, 0, none⟩) ml ml) := ⟨_, rfl⟩
        rw [← hw6] at HRR y5 s5 r5 k5 ⊢
        clear hw6 x5 e5 f5
        have hmm := Lib.hid (show ml = Nat.min l'.length ml by rw [HM.out]; exact (Nat.min_self ml).symm)
        have hfit : 0 + ml ≤ (List.replicate ml (Value.int IntKind.i64 0)).length := by simp
        go_wp2_with ((with_reducible refine wpList_cp (g := nb) (off := 0) (n := ml) (c := ml) (m := ml) (v := .slice al ml cl) (l := l') ?_ ?_ s5 y5 hmm.out hfit ?_); (focus rfl); (focus rfl); intro w7 hB7 hg7)
        have hB7' : Blk w7 nb 3 (nums l') := by
          have e : lay (List.replicate ml (Value.int IntKind.i64 0)) 0 (nums (l'.take ml)) = nums l' := by
            rw [List.take_of_length_le (by rw [HM.out]; exact Nat.le_refl _)]
            simp [lay, nums, HM.out]
          rw [← e]; exact hB7
        have R7 := HRR.out w7 hg7 hB7'
        clear HRR hB7 hg7 hB7' y5 s5 r5 k5 hmm hfit
        go_wp2
        go_roundg gg
        case rel => exact ⟨k + 1, _, by have := HK.out; omega, by go_num, R7⟩
        case measure => omega
      · have tkz : ((k : Int) == (z : Int)) = false := by simp; omega
        rw [hLk] at hll
        cases hll
        have hsl : Sl wr (.slice ak mk ck) l := by
          obtain ⟨v, q1, q2⟩ := hVk.row k l hLk
          have := hVk.x.cell k
          rw [dk, q1] at this
          cases this
          exact q2
        have hm6 := HL.out.len hLk
        rw [hmk] at hm6
        have HSL := Lib.hid hsl; have HM := Lib.hid hmk
        have HTL := Lib.hid hTl; have HR := Lib.hid R4
        clear hi hTl hLk hVk hmk hIk R4 hkz hsl
        go_wp2_with fail
        refine wp_region_plan (fun U => U.cell? ⟨g7, 0, none⟩ = some (.slice (some ⟨rb, 0, none⟩) n n)) (.quiet [0, 1, 2, 3, 4] (.only 5 (.quiet [6] (.last 7)))) 7 (by kernel_rfl) (by kernel_rfl) d7 ?_
        intro W hW hWe
        have bW : Below wr.heap.size wr W := by rw [hWe]; exact (Below.refl _ _).drew
        clear hWe
        simp only [wpPlan, inOrder, List.filterMap_cons, List.filterMap_nil, List.getElem?_cons_zero, List.getElem?_cons_succ]
        have q0 := fun z => hold_ok (S0 := fun U => U.cell? ⟨g7, 0, none⟩ = some (.slice (some ⟨rb, 0, none⟩) n n)) hW z
        show wpQuiet _ _ _ _ (_ :: _ :: _ :: _ :: [_]) _
        repeat (go_big_quiet_step (fail))
        refine wpQuiet_nil ?_
        show wpList _ _ _ [_] _ _
        go_wp2_with ((with_reducible refine wpList_mk (.int .i64 0) Tryz.underlying24 infoI rfl ?_ ?_ (Nat.le_refl mk) (by omega) (by omega) ?_); (focus rfl); (focus rfl); intro w5 hB5 b5 hs5)
        have hlb : wr.heap.size ≤ W.heap.size := bW.size
        have b05 := below_then bW b5
        refine ⟨hold_of (cell_later b05 d7), ?_⟩
        obtain ⟨nb, hnb⟩ : ∃ z, W.heap.size = z := ⟨_, rfl⟩
        rw [hnb] at hB5 hlb ⊢
        clear hnb hs5 b5 bW
        simp only [Act.put, List.setIfInBounds_toArray, List.set_cons_succ, List.set_cons_zero]
        show wpQuiet _ _ _ _ ([_]) _
        repeat (go_big_quiet_step (fail))
        refine wpQuiet_nil ?_
        clear q0 hW
        have RR := fun (w6 : World) (hg : (w5.setCell ⟨rb, k, none⟩ (.slice (some ⟨nb, 0, none⟩) mk mk)).grownBy w6 (some nb)) (hB : Blk w6 nb 3 (nums l)) => HR.out.next b05 hlr hk hB5 hlb HTL.out HM.out hm6 hg hB
        have X5 := HR.out.below b05
        have HSL5 := Lib.hid (HSL.out.below b05)
        have e5 := X5.y.frozen k
        obtain ⟨u, hu⟩ := get_some X5.ny hk
        have f5 : w5.cell? ⟨rb, k, none⟩ = some u := by rw [X5.y.cell]; exact hu
        have x5 := X5.y.set k (.slice (some ⟨nb, 0, none⟩) mk mk)
        have y5 := hB5.far (p := ⟨rb, k, none⟩) (Ne.symm (X5.y.ne_type hB5 (by decide))) (.slice (some ⟨nb, 0, none⟩) mk mk)
        have s5 := HSL5.out.far X5.y (by decide) k (.slice (some ⟨nb, 0, none⟩) mk mk)
        have r5 : (w5.setCell ⟨rb, k, none⟩ (.slice (some ⟨nb, 0, none⟩) mk mk)).cell? ⟨g7, 0, none⟩ = some (.slice (some ⟨rb, 0, none⟩) n n) := by
          have := X5.r.far (p := ⟨rb, k, none⟩) (X5.r.ne_type X5.y (by decide)) (.slice (some ⟨nb, 0, none⟩) mk mk)
          rw [this.cell]; rfl
        have k5 : (w5.setCell ⟨rb, k, none⟩ (.slice (some ⟨nb, 0, none⟩) mk mk)).cell? ⟨rb, k, none⟩ = some (.slice (some ⟨nb, 0, none⟩) mk mk) := by
          rw [x5.cell, List.getElem?_set_self (by rw [X5.ny]; exact hk)]
        have HRR := Lib.hid RR
        clear RR hB5 X5 HR HSL HSL5 d7 hu
        show wpList _ _ _ [_] _ _
        go_wp2
        refine ⟨trivial, NoPanic.normal ?_⟩
        obtain ⟨w6, hw6⟩ : ∃ W, W = w5.setCell ⟨rb, k, none⟩ (.slice (some ⟨nb, 0, none⟩) mk mk) := ⟨_, rfl⟩
        rw [← hw6] at HRR y5 s5 r5 k5 ⊢
        clear hw6 x5 e5 f5
        have hmm := Lib.hid (show mk = Nat.min l.length mk by rw [HM.out]; exact (Nat.min_self mk).symm)
        have hfit : 0 + mk ≤ (List.replicate mk (Value.int IntKind.i64 0)).length := by simp
        go_wp2_with ((with_reducible refine wpList_cp (g := nb) (off := 0) (n := mk) (c := mk) (m := mk) (v := .slice ak mk ck) (l := l) ?_ ?_ s5 y5 hmm.out hfit ?_); (focus rfl); (focus rfl); intro w7 hB7 hg7)
        have hB7' : Blk w7 nb 3 (nums l) := by
          have e : lay (List.replicate mk (Value.int IntKind.i64 0)) 0 (nums (l.take mk)) = nums l := by
            rw [List.take_of_length_le (by rw [HM.out]; exact Nat.le_refl _)]
            simp [lay, nums, HM.out]
          rw [← e]; exact hB7
        have R7 := HRR.out w7 hg7 hB7'
        clear HRR hB7 hg7 hB7' y5 s5 r5 k5 hmm hfit
        go_wp2
        go_roundg gg
        case rel => exact ⟨k + 1, _, by have := HK.out; omega, by go_num, R7⟩
        case measure => omega
end Go.Proofs.YtdddkfpcbfgocaaGreat
namespace Go.Proofs.YtdddkfpcbfgocaaGreat
open Go.RowKit Go.Over Go.Zn Go.Can Go.Seg Go.Grow
/-- A variable that holds a cache, beside one for the result. -/
structure CC (w : World) (g gr : Nat) (v0 : Value) (W : World) : Prop where
  b : Below w.heap.size w W
  x : Blk W g 93 [v0]
  z : Blk W gr 93 [.slice none 0 0]
  lr : w.heap.size ≤ gr
theorem CC.below {w W W' : World} {g gr : Nat} {v0 : Value} (h : CC w g gr v0 W) (hb : Below W.heap.size W W') : CC w g gr v0 W' := ⟨below_then h.b hb, h.x.later hb, h.z.later hb, h.lr⟩
theorem CC.c0 {w W : World} {g gr : Nat} {v0 : Value} (h : CC w g gr v0 W) : W.cell? ⟨g, 0, none⟩ = some v0 := by rw [h.x.cell]; rfl
theorem CC.new (w : World) (v0 : Value) : CC w w.heap.size (w.heap.size + 1) v0 ((w.alloc (.cells #[v0] 93)).alloc (.cells #[.slice none 0 0] 93)) := by
  have hs : (w.alloc (.cells #[v0] 93)).heap.size = w.heap.size + 1 := by simp
  have hz := Blk.new (w.alloc (.cells #[v0] 93)) 93 #[.slice none 0 0] [.slice none 0 0] rfl
  rw [hs] at hz
  exact ⟨below_then (below_box w _) (below_box _ _), (Blk.new w 93 #[v0] [v0] rfl).later (below_box _ _), hz, by omega⟩
/-- The list of a zone, in a value of a cache. -/
theorem Lc.at {w : World} {b n c : Nat} {L : List (List Int)} (h : Lc w (.slice (some ⟨b, 0, none⟩) n c) L) {i : Nat} {l : List Int} (hl : L[i]? = some l) :
    ∃ a m c, w.cell? ⟨b, i, none⟩ = some (.slice a m c) ∧ l.length = m ∧ Sl w (.slice a m c) l := by
  obtain ⟨b', c', bs, h1, h2, h3, h4⟩ := h
  cases h1
  obtain ⟨v, q1, q2⟩ := h4.row i l hl
  obtain ⟨a, cc, rfl, _⟩ := id q2
  exact ⟨a, _, cc, by rw [h4.x.cell]; exact q1, rfl, q2⟩
theorem Lc.form {w : World} {v : Value} {L : List (List Int)} (h : Lc w v L) : ∃ b c, v = .slice (some ⟨b, 0, none⟩) L.length c ∧ L.length ≤ c ∧ c ≤ maxLen := by
  obtain ⟨b, c, _, h1, h2, h3, _⟩ := h
  exact ⟨b, c, h1, h2, h3⟩
theorem Lc.grown {w w' : World} {v : Value} {L : List (List Int)} {g t : Nat} {cs : List Value} (h : Lc w v L) (hB : Blk w g t cs) (ht : 3 ≠ t) (hi : 24 ≠ t) (hg : w.grownBy w' (some g)) : Lc w' v L := by
  obtain ⟨b, c, bs, h1, h2, h3, h4⟩ := h
  exact ⟨b, c, bs, h1, h2, h3, h4.grown hB ht (hB.ne_type h4.x (Ne.symm hi)) hg⟩
theorem LF.form {w : World} {B : Nat} {v : Value} {L : List (List Int)} (h : LF w B v L) : ∃ b c, v = .slice (some ⟨b, 0, none⟩) L.length c ∧ L.length ≤ c ∧ c ≤ maxLen := h.c.form
theorem LF.grown {w w' : World} {B : Nat} {v : Value} {L : List (List Int)} {g t : Nat} {cs : List Value} (h : LF w B v L) (hB : Blk w g t cs) (ht : 3 ≠ t) (hi : 24 ≠ t) (hg : w.grownBy w' (some g)) : LF w' B v L :=
  ⟨h.c.grown hB ht hi hg, h.lo.past fun _ _ hq => hq.grown hg (by simpa using hB.ne_type hq (Ne.symm hi))⟩
set_option maxRecDepth 100000 in set_option maxHeartbeats 3200000 in
theorem pcdrain (v : Value) (L : List (List Int)) (z : Nat) (l : List Int) (w : World) (H : Rc w v L) (hL : VC L) (hzl : L[z]? = some l) : Calls Tryz.prog 103 #[v, .int .i64 z] w fun e w' => ∃ v' vl, e = .returned (.tuple #[v', vl, .int .i64 0]) ∧ RcF w' w.heap.size v' (L.set z []) ∧ Sl w' vl l ∧ Below w.heap.size w w' := by
  have HL := Lib.hid hL; have HZL := Lib.hid hzl
  have hn6 := hL.l6
  have hz : z < L.length := by rw [List.getElem?_eq_some_iff] at hzl; exact hzl.1
  clear hL hzl
  obtain ⟨v0, rfl, hLc⟩ := H
  obtain ⟨b, c, hv0, hlc, hcm⟩ := hLc.form
  obtain ⟨n, hn⟩ : ∃ n, L.length = n := ⟨_, rfl⟩
  rw [hn] at hv0 hlc hz hn6
  subst hv0
  have HN := Lib.hid hn; have HLC := Lib.hid hLc
  clear hn hLc
  have X0 := CC.new w (.slice (some ⟨b, 0, none⟩) n c)
  go_enter Tryz.func103, Tryz.ntmps103
  go_upto_region 1 with fail
  obtain ⟨w1, hw1⟩ : ∃ W, W = (w.alloc (.cells #[.slice (some ⟨b, 0, none⟩) n c] 93)).alloc (.cells #[.slice none 0 0] 93) := ⟨_, rfl⟩
  rw [← hw1] at X0 ⊢
  have hgg : w.heap.size + 1 ≠ w.heap.size := by omega
  obtain ⟨gr, hgr⟩ : ∃ g, w.heap.size + 1 = g := ⟨_, rfl⟩
  rw [hgr] at hgg
  obtain ⟨g, hg0⟩ : ∃ g, w.heap.size = g := ⟨_, rfl⟩
  have hgg : gr ≠ g := by rw [← hg0]; exact hgg
  have X1 : CC w g gr (.slice (some ⟨b, 0, none⟩) n c) w1 := by rw [← hgr, ← hg0]; exact X0
  rw [hgr, hg0]
  clear hw1 X0 hg0 hgr
  have c1 := X1.c0
  have hpe := pcerr (.agg #[.slice (some ⟨b, 0, none⟩) n c]) L z w1 ⟨_, rfl, HLC.out.below X1.b⟩ HL.out (by rw [HN.out]; exact hz)
  have HPE := Lib.hid hpe
  clear hpe
  go_wp2_with fail
  refine HPE.out.mono ?_
  rintro e w2 ⟨rfl, b2⟩
  have X2 := X1.below b2
  have c2 := X2.c0
  clear X1 c1 b2 HPE
  obtain ⟨a', m, c', d2, hm, hsl⟩ := (HLC.out.below X2.b).at HZL.out
  have hm6 := HL.out.len HZL.out
  rw [hm] at hm6
  have HM := Lib.hid hm; have HSL := Lib.hid hsl
  clear hm hsl
  go_upto_region 5 with ((with_reducible refine wpList_mk (.int .i64 0) Tryz.underlying24 infoI rfl ?_ ?_ (Nat.le_refl m) (by omega) (by omega) ?_); (focus rfl); (focus rfl); intro w3 hB3 b3 hs3)
  have X3 := X2.below b3
  have c3 := X3.c0
  have d3 := cell_later b3 d2
  have s3 := HSL.out.below b3
  have hlb : w.heap.size ≤ w2.heap.size := X2.b.size
  obtain ⟨nb, hnb⟩ : ∃ z, w2.heap.size = z := ⟨_, rfl⟩
  rw [hnb] at hB3 hlb ⊢
  clear hnb hs3 b3 X2 c2 d2 HSL
  have hmm := Lib.hid (show m = Nat.min l.length m by rw [HM.out]; exact (Nat.min_self m).symm)
  have hfit : 0 + m ≤ (List.replicate m (Value.int IntKind.i64 0)).length := by simp
  go_upto_region 6 with ((with_reducible refine wpList_cp (g := nb) (off := 0) (n := m) (c := m) (m := m) (v := .slice a' m c') (l := l) ?_ ?_ s3 hB3 hmm.out hfit ?_); (focus rfl); (focus rfl); intro w4 hB4 hg4)
  have hB4' : Blk w4 nb 3 (nums l) := by
    have e : lay (List.replicate m (Value.int IntKind.i64 0)) 0 (nums (l.take m)) = nums l := by
      rw [List.take_of_length_le (by rw [HM.out]; exact Nat.le_refl _)]
      simp [lay, nums, HM.out]
    rw [← e]; exact hB4
  have X4 : CC w g gr (.slice (some ⟨b, 0, none⟩) n c) w4 := ⟨X3.b.grown hg4 X3.b.size (fun q hq => by cases hq; exact hlb), X3.x.grown hg4 (by simpa using hB3.ne_type X3.x (by decide)), X3.z.grown hg4 (by simpa using hB3.ne_type X3.z (by decide)), X3.lr⟩
  have S4 : Sl w4 (.slice (some ⟨nb, 0, none⟩) m m) l := Sl.row hB4' HM.out (Nat.le_refl _) (by unfold maxLen; omega) (fun _ _ => rfl)
  have c4 := X4.c0
  have HSZ := Lib.hid X4.b.size
  have HRE := Lib.hid (replace (.agg #[.slice (some ⟨b, 0, none⟩) n c]) L z (.slice none 0 0) [] w4 ⟨_, rfl, HLC.out.below X4.b⟩ HL.out (by rw [HN.out]; exact hz) (Sl.nil _) (by simp))
  clear hB4 hg4 hB4' s3 d3 c3 X3 hB3 hfit hmm
  go_wp2_with fail
  refine HRE.out.mono ?_
  rintro e w5 ⟨v', rfl, ⟨v5, rfl, hv5⟩, b5⟩
  have X5 := X4.below b5
  have S5 := S4.below b5
  obtain ⟨b', cc', hv5f, _, _⟩ := hv5.form
  have h1v : v5.oneCell' = true := by rw [hv5f]; rfl
  have z5 := X5.z
  clear X4 S4 b5 c4 HRE hv5f
  go_wp2_with ((with_reducible refine stC (u := .slice none 0 0) (v := v5) ?_ ?_ z5 h1v ?_); (focus rfl); (focus rfl); intro w6 hB6 hg6)
  refine bodyPost_ret (resC2 rfl _ _ gr _ _ _ rfl hB6 rfl rfl) rfl ?_
  refine ⟨_, _, rfl, ⟨_, rfl, (hv5.grown z5 (by decide) (by decide) hg6).weaken HSZ.out⟩, S5.grown z5 (by decide) hg6, X5.b.grown hg6 X5.b.size (fun q hq => by cases hq; exact X5.lr)⟩
theorem Sl.init {w : World} {a : Option Addr} {q c : Nat} {l : List Int} {x : Int} (h : Sl w (.slice a (q + 1) c) (l ++ [x])) (hq : l.length = q) : Sl w (.slice a q c) l ∧ ∃ bb off, a = some ⟨bb, off, none⟩ ∧ w.cell? ⟨bb, off + q, none⟩ = some (.int .i64 x) ∧ ∃ bs, Blk w bb 3 bs := by
  obtain ⟨a', c', h1, h2, h3, h4, h5⟩ := h
  have hll : (l ++ [x]).length = q + 1 := by simp [hq]
  rw [hll] at h1
  cases h1
  rw [hll] at h2
  obtain ⟨bb, off, ha, hb, hc⟩ := h5 (by rw [hll]; omega)
  refine ⟨⟨a, c, by rw [hq], by omega, h3, h4, fun h0 => ⟨bb, off, ha, hb, fun i hi => ?_⟩⟩, bb, off, ha, ?_, hb⟩
  · rw [hc i (by rw [hll]; omega)]
    simp [List.getD_eq_getElem?_getD, List.getElem?_append_left hi]
  · rw [hc q (by rw [hll]; omega)]
    simp [List.getD_eq_getElem?_getD, hq]
set_option maxRecDepth 100000 in set_option maxHeartbeats 3200000 in
theorem pctake (v : Value) (L : List (List Int)) (z : Nat) (l : List Int) (x : Int) (w : World) (H : Rc w v L) (hL : VC L) (hzl : L[z]? = some (l ++ [x])) : Calls Tryz.prog 60 #[v, .int .i64 z] w fun e w' => ∃ v', e = .returned (.tuple #[v', .int .i64 x, .int .i64 0]) ∧ RcF w' w.heap.size v' (L.set z l) ∧ Below w.heap.size w w' := by
  have HL := Lib.hid hL; have HZL := Lib.hid hzl
  have hn6 := hL.l6
  have hz : z < L.length := by rw [List.getElem?_eq_some_iff] at hzl; exact hzl.1
  clear hL hzl
  obtain ⟨v0, rfl, hLc⟩ := H
  obtain ⟨b, c, hv0, hlc, hcm⟩ := hLc.form
  obtain ⟨n, hn⟩ : ∃ n, L.length = n := ⟨_, rfl⟩
  rw [hn] at hv0 hlc hz hn6
  subst hv0
  have HN := Lib.hid hn; have HLC := Lib.hid hLc
  clear hn hLc
  have X0 := CC.new w (.slice (some ⟨b, 0, none⟩) n c)
  go_enter Tryz.func60, Tryz.ntmps60
  go_upto_region 1 with fail
  obtain ⟨w1, hw1⟩ : ∃ W, W = (w.alloc (.cells #[.slice (some ⟨b, 0, none⟩) n c] 93)).alloc (.cells #[.slice none 0 0] 93) := ⟨_, rfl⟩
  rw [← hw1] at X0 ⊢
  have hgg : w.heap.size + 1 ≠ w.heap.size := by omega
  obtain ⟨gr, hgr⟩ : ∃ g, w.heap.size + 1 = g := ⟨_, rfl⟩
  rw [hgr] at hgg
  obtain ⟨g, hg0⟩ : ∃ g, w.heap.size = g := ⟨_, rfl⟩
  have hgg : gr ≠ g := by rw [← hg0]; exact hgg
  have X1 : CC w g gr (.slice (some ⟨b, 0, none⟩) n c) w1 := by rw [← hgr, ← hg0]; exact X0
  rw [hgr, hg0]
  clear hw1 X0 hg0 hgr
  have c1 := X1.c0
  have hpe := pcerr (.agg #[.slice (some ⟨b, 0, none⟩) n c]) L z w1 ⟨_, rfl, HLC.out.below X1.b⟩ HL.out (by rw [HN.out]; exact hz)
  have HPE := Lib.hid hpe
  clear hpe
  go_wp2_with fail
  refine HPE.out.mono ?_
  rintro e w2 ⟨rfl, b2⟩
  have X2 := X1.below b2
  have c2 := X2.c0
  clear X1 c1 b2 HPE
  obtain ⟨q, hq⟩ : ∃ q, l.length = q := ⟨_, rfl⟩
  obtain ⟨a', m, c', d2, hm, hsl⟩ := (HLC.out.below X2.b).at HZL.out
  have hm6 := HL.out.len HZL.out
  have hmq : (l ++ [x]).length = q + 1 := by simp [hq]
  rw [hmq] at hm hm6
  subst hm
  obtain ⟨hsi, bb, off, rfl, cx, bsb, hbb⟩ := hsl.init hq
  have hqc : q + 1 ≤ c' := by obtain ⟨_, _, e1, e2, _⟩ := hsl; rw [hmq] at e1 e2; cases e1; exact e2
  have HQ := Lib.hid hq; have HSI := Lib.hid hsi
  have eq : ((q + 1 : Nat) : Int) - 1 = (q : Int) := by omega
  have hq6 : l.length ≤ 256 := by omega
  clear hsl hsi hq hmq
  have tq : (((q + 1 : Nat) : Int) == 0) = false := by simp; omega
  go_wp2
  refine wp_region_plan (fun U => U.cell? ⟨g, 0, none⟩ = some (.slice (some ⟨b, 0, none⟩) n c) ∧ U.cell? ⟨bb, off + q, none⟩ = some (.int .i64 x)) (.quiet [0, 1, 2, 3, 4, 6, 7, 8, 9] (.only 5 (.only 10 (.quiet [11, 12] .done)))) 99 (by kernel_rfl) (by kernel_rfl) ⟨c2, cx⟩ ?_
  intro W hW hWe
  have bW : Below w2.heap.size w2 W := by rw [hWe]; exact (Below.refl _ _).drew
  clear hWe
  have X3 := X2.below bW
  have hbb3 := hbb.later bW
  have HSZ := Lib.hid X3.b.size
  have HRE := Lib.hid (replace (.agg #[.slice (some ⟨b, 0, none⟩) n c]) L z (.slice (some ⟨bb, off, none⟩) q c') l W ⟨_, rfl, HLC.out.below X3.b⟩ HL.out (by rw [HN.out]; exact hz) (HSI.out.below bW) hq6)
  have cx3 := cell_later bW cx
  simp only [wpPlan, inOrder, List.filterMap_cons, List.filterMap_nil, List.getElem?_cons_zero, List.getElem?_cons_succ]
  have q0 := fun z => (hold_ok (S0 := fun U => U.cell? ⟨g, 0, none⟩ = some (.slice (some ⟨b, 0, none⟩) n c) ∧ U.cell? ⟨bb, off + q, none⟩ = some (.int .i64 x)) hW z).1
  have q1 := fun z => (hold_ok (S0 := fun U => U.cell? ⟨g, 0, none⟩ = some (.slice (some ⟨b, 0, none⟩) n c) ∧ U.cell? ⟨bb, off + q, none⟩ = some (.int .i64 x)) hW z).2
  show wpQuiet _ _ _ _ (_ :: _ :: _ :: _ :: _ :: _ :: _ :: _ :: [_]) _
  repeat (go_big_quiet_step (fail))
  refine wpQuiet_nil ?_
  clear q0 q1 X2 c2 cx HSI bW hbb
  show wpList _ _ _ [_] _ _
  go_wp2_with fail
  refine HRE.out.mono ?_
  rintro e w5 ⟨v', rfl, ⟨v5, rfl, hv5⟩, b5⟩
  have X5 := X3.below b5
  have cx5 := cell_later b5 cx3
  have hbb5 := hbb3.later b5
  obtain ⟨b', cc', hv5f, _, _⟩ := hv5.form
  have h1v : v5.oneCell' = true := by rw [hv5f]; rfl
  have z5 := X5.z
  clear X3 b5 HRE hv5f cx3 hW hbb3
  go_wp2
  refine ⟨hold_of ⟨X5.c0, cx5⟩, ?_⟩
  show wpList _ _ _ [_] _ _
  go_wp2_with ((with_reducible refine stC (u := .slice none 0 0) (v := v5) ?_ ?_ z5 h1v ?_); (focus rfl); (focus rfl); intro w6 hB6 hg6)
  have x6 := X5.x.grown hg6 (by simpa using hgg)
  have cx6 := hg6.cell cx5 (by simpa using hbb5.ne_type z5 (by decide))
  refine ⟨hold_of ⟨by rw [x6.cell]; rfl, cx6⟩, ?_⟩
  simp only [Act.put]
  show wpQuiet _ _ _ _ (_ :: [_]) _
  repeat (go_big_quiet_step (fail))
  refine wpQuiet_nil ?_
  refine NoPanic.normal ?_
  go_wp2
  refine bodyPost_ret (resC2 rfl _ _ gr _ _ _ rfl hB6 rfl rfl) rfl ?_
  exact ⟨_, rfl, ⟨_, rfl, (hv5.grown z5 (by decide) (by decide) hg6).weaken HSZ.out⟩, X5.b.grown hg6 X5.b.size (fun q hq => by cases hq; exact X5.lr)⟩
end Go.Proofs.YtdddkfpcbfgocaaGreat
namespace Go.Proofs.YtdddkfpcbfgocaaGreat
open Go.RowKit Go.Over Go.Zn Go.Can Go.Seg Go.Grow
section
variable {ops : Array Oper} {rest : List Oper} {d i j : Nat} {ty : TypeId} {pos : String} {af : Array Edge} {a : Act} {w : World} {Q : Exit → Act → World → Prop}
/-- One number is appended to a row of a call's own. -/
theorem wpList_app1 {base b : Nat} {v : Value} {l : List Int} {x : Int} (hs : a.eval (.tmp i) = v) (hx : a.eval (.tmp j) = .slice (some ⟨b, 0, none⟩) 1 1) (hO : Own w base v l) (hB : Blk w b 3 [.int .i64 x]) (hl : l.length ≤ 900000) (hb : base ≤ w.heap.size)
    (h : ∀ v' w', Own w' base v' (l ++ [x]) → w.grownBy w' v.ownBlock → wpList Tryz.prog ops Q rest (a.put (some d) v') w') :
    wpList Tryz.prog ops Q ({ dst := some d, op := .call { callee := .builtin .append, args := #[.tmp i, .tmp j], argTypes := #[24, 24] }, type := ty, pos := pos, after := af, guard := none } :: rest) a w := by
  refine wpList_append_k K22 rfl (.tmp i) (.tmp j) rfl v l.length (nums l) hs hO (some ⟨b, 0, none⟩) 1 1 [.int .i64 x] hx ⟨rfl, by simp [Value.oneCell'], .inr ⟨_, rfl, fun k u hk => ?_⟩⟩ (by omega) hb fun v' w' q1 q2 _ => h v' w' ?_ q2
  · rw [add_off, Nat.zero_add, hB.cell]; exact hk
  · unfold Own
    have e1 : (l ++ [x]).length = l.length + 1 := by simp
    have e2 : nums (l ++ [x]) = nums l ++ [.int .i64 x] := by simp [nums]
    rw [e1, e2]
    exact q1
end
theorem CC.grown {w W W' : World} {g gr : Nat} {v0 : Value} {q t : Nat} {cs : List Value} (h : CC w g gr v0 W) (hB : Blk W q t cs) (ht : t ≠ 93) (hq : w.heap.size ≤ q) (hg : W.grownBy W' (some q)) : CC w g gr v0 W' :=
  ⟨h.b.grown hg h.b.size (fun k hk => by cases hk; exact hq), h.x.grown hg (by simpa using hB.ne_type h.x ht), h.z.grown hg (by simpa using hB.ne_type h.z ht), h.lr⟩
theorem CC.mapped {w W W' : World} {g gr m : Nat} {v0 : Value} {s : List Int} (h : CC w g gr v0 W) (hm : Ms W m s) (hq : w.heap.size ≤ m) (hg : W.grownBy W' (some m)) : CC w g gr v0 W' :=
  ⟨h.b.grown hg h.b.size (fun k hk => by cases hk; exact hq), h.x.grown hg (by simpa using hm.ne h.x), h.z.grown hg (by simpa using hm.ne h.z), h.lr⟩
theorem CC.own {w W W' : World} {g gr : Nat} {v0 v : Value} {l : List Int} (h : CC w g gr v0 W) (hO : Own W w.heap.size v l) (hg : W.grownBy W' v.ownBlock) : CC w g gr v0 W' :=
  ⟨h.b.grown hg h.b.size (fun k hk => (World.ownsRow.lt hO k hk).1), h.x.grown hg (h.x.not_own hO (by decide)), h.z.grown hg (h.z.not_own hO (by decide)), h.lr⟩
/-- What is added to a cache. -/
structure Adds (L : List (List Int)) (add : List Int) : Prop where
  nd : add.Nodup
  rg : ∀ x ∈ add, 0 ≤ x ∧ x < 256
  ap : ∀ x ∈ add, x ∉ L.flatten
theorem Adds.len {L : List (List Int)} {add : List Int} (h : Adds L add) (hL : VC L) : L.flatten.length + add.length ≤ 256 := by
  have := nodup_len (l := L.flatten ++ add) (m := cov 0 256) (List.nodup_append.2 ⟨hL.nd, h.nd, fun a ha b hb e => h.ap b hb (e ▸ ha)⟩) cov_nodup fun x hx => mem_cov.2 (by
    rcases List.mem_append.1 hx with h1 | h1
    · have := hL.rg x h1; omega
    · have := h.rg x h1; omega)
  rw [cov_len, List.length_append] at this
  exact this
theorem Adds.new {L : List (List Int)} {add : List Int} (h : Adds L add) {i : Nat} {x : Int} (hx : add[i]? = some x) : x ∉ L.flatten ++ add.take i ∧ 0 ≤ x ∧ x < 256 := by
  have hm := List.mem_of_getElem? hx
  refine ⟨fun hc => ?_, h.rg x hm⟩
  rcases List.mem_append.1 hc with h1 | h1
  · exact h.ap x hm h1
  · obtain ⟨r, hr⟩ : ∃ r, add = add.take i ++ x :: r := ⟨_, by rw [← drop_get hx, List.take_append_drop]⟩
    have hnd := h.nd
    rw [hr, List.nodup_append] at hnd
    exact hnd.2.2 x h1 x (by simp) rfl
set_option maxRecDepth 100000 in set_option maxHeartbeats 3200000 in
theorem pcrefill (v : Value) (L : List (List Int)) (z : Nat) (l : List Int) (va : Value) (add : List Int) (w : World) (H : Rc w v L) (hL : VC L) (hzl : L[z]? = some l) (ha : Sl w va add) (hA : Adds L add) :
    Calls Tryz.prog 109 #[v, .int .i64 z, va] w fun e w' => ∃ v', e = .returned (.tuple #[v', .int .i64 0]) ∧ RcF w' w.heap.size v' (L.set z (l ++ add.reverse)) ∧ Below w.heap.size w w' := by
  have HL := Lib.hid hL; have HZL := Lib.hid hzl; have HAA := Lib.hid hA; have HA := Lib.hid ha
  have hn6 := hL.l6
  have hz : z < L.length := by rw [List.getElem?_eq_some_iff] at hzl; exact hzl.1
  have hsum := hA.len hL
  have hll := hL.len hzl
  have hlf : l.length ≤ L.flatten.length := (List.sublist_flatten_of_mem (List.mem_of_getElem? hzl)).length_le
  obtain ⟨ad, na, ca, hva, hna⟩ : ∃ a m c, va = .slice a m c ∧ add.length = m := by obtain ⟨a, c, h, _⟩ := ha; exact ⟨a, _, c, h, rfl⟩
  subst hva
  have hla : l.length + na ≤ 256 := by omega
  rw [hna] at hsum
  have HNA := Lib.hid hna
  clear hL hzl hA ha hna hlf hll
  obtain ⟨v0, rfl, hLc⟩ := H
  obtain ⟨b, c, hv0, hlc, hcm⟩ := hLc.form
  obtain ⟨n, hn⟩ : ∃ n, L.length = n := ⟨_, rfl⟩
  rw [hn] at hv0 hlc hz hn6
  subst hv0
  have HN := Lib.hid hn; have HLC := Lib.hid hLc
  clear hn hLc
  have X0 := CC.new w (.slice (some ⟨b, 0, none⟩) n c)
  go_enter Tryz.func109, Tryz.ntmps109
  go_upto_region 1 with fail
  obtain ⟨w1, hw1⟩ : ∃ W, W = (w.alloc (.cells #[.slice (some ⟨b, 0, none⟩) n c] 93)).alloc (.cells #[.slice none 0 0] 93) := ⟨_, rfl⟩
  rw [← hw1] at X0 ⊢
  have hgg : w.heap.size + 1 ≠ w.heap.size := by omega
  obtain ⟨gr, hgr⟩ : ∃ g, w.heap.size + 1 = g := ⟨_, rfl⟩
  rw [hgr] at hgg
  obtain ⟨g, hg0⟩ : ∃ g, w.heap.size = g := ⟨_, rfl⟩
  have hgg : gr ≠ g := by rw [← hg0]; exact hgg
  have X1 : CC w g gr (.slice (some ⟨b, 0, none⟩) n c) w1 := by rw [← hgr, ← hg0]; exact X0
  rw [hgr, hg0]
  clear hw1 X0 hg0 hgr
  have c1 := X1.c0
  have hpe := pcerr (.agg #[.slice (some ⟨b, 0, none⟩) n c]) L z w1 ⟨_, rfl, HLC.out.below X1.b⟩ HL.out (by rw [HN.out]; exact hz)
  have HPE := Lib.hid hpe
  clear hpe
  go_wp2_with fail
  refine HPE.out.mono ?_
  rintro e w2 ⟨rfl, b2⟩
  have X2 := X1.below b2
  have c2 := X2.c0
  clear X1 c1 b2 HPE
  have HFR := Lib.hid (frames (.agg #[.slice (some ⟨b, 0, none⟩) n c]) L w2 ⟨_, rfl, HLC.out.below X2.b⟩ HL.out)
  go_wp2_with fail
  refine HFR.out.mono ?_
  rintro e w3 ⟨m, rfl, M3, b3, hlm⟩
  have hlm : w.heap.size ≤ m := Nat.le_trans X2.b.size hlm
  have X3 := X2.below b3
  have M30 : Ms w3 m (L.flatten ++ add.take 0) := by simpa using M3
  clear X2 c2 b3 HFR M3
  go_wp2
  go_loopg [25] na (fun gg v25 wr => ∃ i : Nat, i + gg = na ∧ v25 = .int .i64 i ∧ CC w g gr (.slice (some ⟨b, 0, none⟩) n c) wr ∧ Ms wr m (L.flatten ++ add.take i))
  case atStart => exact ⟨0, by omega, rfl, X3, M30⟩
  case round =>
    clear X3 M30
    obtain ⟨i, hi, rfl, X4, M4⟩ := hrel
    cases gk with
    | succ gg =>
      have hin : i < na := by omega
      have HI := Lib.hid hi
      obtain ⟨x, hx⟩ := get_some HNA.out hin
      obtain ⟨q1, q3, q4⟩ := HAA.out.new hx
      obtain ⟨a', c', hva, _, _, _, hI⟩ := HA.out.below X4.b
      rw [HNA.out] at hva
      obtain ⟨b', off, hab, cx⟩ := hI.at hx
      cases hva
      subst hab
      have hwf := wf_small q3 q4
      have hlk := Ms.run M4 q3 q4
      have hct : (L.flatten ++ add.take i).contains x = false := by simpa using q1
      rw [hct] at hlk
      have hln : (L.flatten ++ add.take i).length < maxLen := by rw [List.length_append, List.length_take]; unfold maxLen; omega
      have HE := Lib.hid (show L.flatten ++ add.take (i + 1) = (L.flatten ++ add.take i) ++ [x] by
        rw [List.take_add_one, hx, List.append_assoc]; rfl)
      have HQ := Lib.hid q1
      clear hi hx hI hct q1
      go_wp2_with fail
      refine (isframe x _ q3 q4).mono ?_
      rintro e w5 ⟨rfl, rfl⟩
      have q1 := HQ.out
      go_wp2_with ((with_reducible refine wpList_add Tryz.underlying160 Tryz.underlying3 Tryz.underlying4 ?_ ?_ M4 hwf q1 hln ?_); (focus rfl); (focus rfl); intro w5 M5 hg5)
      have X5 := X4.mapped M4 hlm hg5
      rw [← HE.out] at M5
      clear M4 hg5 X4 cx hlk q1
      go_wp2
      go_roundg gg
      case rel => exact ⟨i + 1, by have := HI.out; omega, by go_num, X5, M5⟩
      case measure => omega
    | zero =>
      have hin : ¬ i < na := by omega
      clear hi M4
      obtain ⟨a', q, c', d4, hq, hsl⟩ := (HLC.out.below X4.b).at HZL.out
      have c4 := X4.c0
      have HQ := Lib.hid hq; have HSL := Lib.hid hsl
      rw [hq] at hla
      clear hq hsl
      go_upto_region 15 with ((with_reducible refine wpList_mk (.int .i64 0) Tryz.underlying24 infoI rfl ?_ ?_ (Nat.le_refl q) (by omega) (by omega) ?_); (focus rfl); (focus rfl); intro w5 hB5 b5 hs5)
      have X5 := X4.below b5
      have c5 := X5.c0
      have d5 := cell_later b5 d4
      have s5 := HSL.out.below b5
      have hlb : w.heap.size ≤ wr.heap.size := X4.b.size
      obtain ⟨nb, hnb⟩ : ∃ z, wr.heap.size = z := ⟨_, rfl⟩
      rw [hnb] at hB5 hlb ⊢
      clear hnb hs5 b5 X4 c4 d4 HSL
      have hmm := Lib.hid (show q = Nat.min l.length q by rw [HQ.out]; exact (Nat.min_self q).symm)
      have hfit : 0 + q ≤ (List.replicate q (Value.int IntKind.i64 0)).length := by simp
      go_upto_region 16 with ((with_reducible refine wpList_cp (g := nb) (off := 0) (n := q) (c := q) (m := q) (v := .slice a' q c') (l := l) ?_ ?_ s5 hB5 hmm.out hfit ?_); (focus rfl); (focus rfl); intro w6 hB6 hg6)
      have hB6' : Blk w6 nb 3 (nums l) := by
        have e : lay (List.replicate q (Value.int IntKind.i64 0)) 0 (nums (l.take q)) = nums l := by
          rw [List.take_of_length_le (by rw [HQ.out]; exact Nat.le_refl _)]
          simp [lay, nums, HQ.out]
        rw [← e]; exact hB6
      have X6 := X5.grown hB5 (by decide) hlb hg6
      have O6 : Own w6 w.heap.size (.slice (some ⟨nb, 0, none⟩) q q) (l ++ add.reverse.take 0) := by
        rw [List.take_zero, List.append_nil]
        unfold Own
        rw [HQ.out]
        exact row_shut hlb hB6' (Nat.le_refl _) (by unfold maxLen; omega) (by simp [nums, HQ.out]) (by rw [List.take_of_length_le (by simp [nums, HQ.out])])
      have HRN := Lib.hid (show add.reverse.length = na by rw [List.length_reverse, HNA.out])
      clear hB6 hg6 hB6' s5 d5 c5 X5 hB5 hfit hmm
      go_wp2
      go_loopg [56, 12] na (fun gg v56 v12 wr => ∃ i : Nat, i + gg = na ∧ v56 = .int .i64 i ∧ CC w g gr (.slice (some ⟨b, 0, none⟩) n c) wr ∧ Own wr w.heap.size v12 (l ++ add.reverse.take i))
      case atStart => exact ⟨0, by omega, rfl, X6, O6⟩
      case round =>
        clear X6 O6
        obtain ⟨j, hj, rfl, X7, O7⟩ := hrel
        cases gk with
        | succ gg =>
          have hjn : j < na := by omega
          have HJ := Lib.hid hj
          obtain ⟨r, hr⟩ : ∃ r, na = j + r + 1 := ⟨na - j - 1, by omega⟩
          have hrn : r < na := by omega
          have er : (na : Int) - 1 - (j : Int) = (r : Int) := by omega
          obtain ⟨x, hx⟩ := get_some HNA.out hrn
          have hxr : add.reverse[j]? = some x := by
            rw [List.getElem?_reverse (by rw [HNA.out]; exact hjn), HNA.out, show na - 1 - j = r by omega]; exact hx
          obtain ⟨a', c', hva, _, _, _, hI⟩ := HA.out.below X7.b
          rw [HNA.out] at hva
          obtain ⟨b', off, hab, cx⟩ := hI.at hx
          cases hva
          subst hab
          have HE := Lib.hid (show l ++ add.reverse.take (j + 1) = (l ++ add.reverse.take j) ++ [x] by
            rw [List.take_add_one, hxr, List.append_assoc]; rfl)
          have hlen : (l ++ add.reverse.take j).length ≤ 900000 := by rw [List.length_append, HQ.out, List.length_take, HRN.out]; omega
          have bN := below_box wr (.cells #[.int .i64 x] 3)
          have O8 := O7.later bN
          have X8 := X7.below bN
          have hB8 := Blk.new wr 3 #[.int .i64 x] [.int .i64 x] rfl
          have hb8 := X8.b.size
          clear hj hx hxr hI hr
          go_wp2_with ((with_reducible refine wpList_app1 (base := w.heap.size) (b := wr.heap.size) (x := x) ?_ ?_ O8 hB8 hlen hb8 ?_); (focus rfl); (focus rfl); intro v9 w9 O9 hg9)
          have X9 := X8.own O8 hg9
          rw [← HE.out] at O9
          clear X7 X8 O7 O8 bN hB8 hb8 hg9 cx hlen
          go_roundg gg
          case rel => exact ⟨j + 1, by have := HJ.out; omega, by go_num, X9, O9⟩
          case measure => omega
        | zero =>
          have hjn : ¬ j < na := by omega
          rw [List.take_of_length_le (by rw [HRN.out]; omega)] at O7
          have hl8 : (l ++ add.reverse).length ≤ 256 := by rw [List.length_append, HQ.out, HRN.out]; exact hla
          have HSZ := Lib.hid X7.b.size
          have HRE := Lib.hid (replace (.agg #[.slice (some ⟨b, 0, none⟩) n c]) L z _ (l ++ add.reverse) wr ⟨_, rfl, HLC.out.below X7.b⟩ HL.out (by rw [HN.out]; exact hz) O7.sl hl8)
          obtain ⟨a', c', hv12, _⟩ := own_form O7
          obtain ⟨nl, hnl⟩ : ∃ q, (l ++ add.reverse).length = q := ⟨_, rfl⟩
          rw [hnl] at hv12
          subst hv12
          have c7 := X7.c0
          clear hj hl8 O7 hnl
          go_wp2_with fail
          refine HRE.out.mono ?_
          rintro e w8 ⟨v', rfl, ⟨v8, rfl, hv8⟩, b8⟩
          have X8 := X7.below b8
          obtain ⟨_, _, hv8f, _, _⟩ := hv8.form
          have h1v : v8.oneCell' = true := by rw [hv8f]; rfl
          have z8 := X8.z
          clear X7 b8 c7 HRE hv8f
          go_wp2_with ((with_reducible refine stC (u := .slice none 0 0) (v := v8) ?_ ?_ z8 h1v ?_); (focus rfl); (focus rfl); intro w9 hB9 hg9)
          refine bodyPost_ret (resC1 rfl _ _ gr _ _ rfl hB9 rfl) rfl ?_
          exact ⟨_, rfl, ⟨_, rfl, (hv8.grown z8 (by decide) (by decide) hg9).weaken HSZ.out⟩, X8.b.grown hg9 X8.b.size (fun q hq => by cases hq; exact X8.lr)⟩
end Go.Proofs.YtdddkfpcbfgocaaGreat
namespace Go.Proofs.YtdddkfpcbfgocaaGreat
open Go.RowKit Go.Over Go.Zn Go.Can Go.Seg Go.Grow
theorem Sl.drop {w : World} {b n c k : Nat} {l : List Int} (h : Sl w (.slice (some ⟨b, 0, none⟩) n c) l) (hn : l.length = n) (hk : k ≤ n) : Sl w (.slice (some ⟨b, k, none⟩) (n - k) (c - k)) (l.drop k) := by
  obtain ⟨a', c', h1, h2, h3, h4, h5⟩ := h
  cases h1
  refine ⟨some ⟨b, k, none⟩, c - k, by rw [List.length_drop], by rw [List.length_drop]; omega, by unfold maxLen at h3 ⊢; omega, fun h => (by cases h), fun h0 => ⟨b, k, rfl, ?_, fun i hi => ?_⟩⟩
  · rw [List.length_drop] at h0
    obtain ⟨b', off, ha, hb, _⟩ := h5 (by omega)
    cases ha
    exact hb
  · rw [List.length_drop] at hi
    obtain ⟨b', off, ha, _, hc⟩ := h5 (by omega)
    cases ha
    have := hc (k + i) (by omega)
    rw [Nat.zero_add] at this
    rw [this]
    simp [List.getD_eq_getElem?_getD]
/-- What a put gives: what is kept, and what is spilled. -/
def PutRes (w : World) (L : List (List Int)) (z : Nat) (l : List Int) (x : Int) (hi : Nat) (e : Ending) (w' : World) : Prop :=
  ∃ v' vs sp keep, e = .returned (.tuple #[v', vs, .int .i64 0]) ∧ RcF w' w.heap.size v' (L.set z keep) ∧ Sl w' vs sp ∧ l ++ [x] = sp ++ keep ∧ keep.length ≤ hi ∧ Below w.heap.size w w'
set_option maxRecDepth 100000 in set_option maxHeartbeats 3200000 in
theorem pcput (v : Value) (L : List (List Int)) (z : Nat) (l : List Int) (x : Int) (bt hi : Nat) (w : World) (H : Rc w v L) (hL : VC L) (hzl : L[z]? = some l) (h0 : 0 ≤ x) (h1 : x < 256) (hx : x ∉ L.flatten) (hb1 : 1 ≤ bt) (hbh : bt ≤ hi) (hh : hi ≤ 64) (hlh : l.length ≤ hi) :
    Calls Tryz.prog 41 #[v, .int .i64 z, .int .i64 x, .int .i64 bt, .int .i64 hi] w (PutRes w L z l x hi) := by
  have HL := Lib.hid hL; have HZL := Lib.hid hzl; have HX := Lib.hid hx
  have hn6 := hL.l6
  have hz : z < L.length := by rw [List.getElem?_eq_some_iff] at hzl; exact hzl.1
  clear hL hzl hx
  obtain ⟨v0, rfl, hLc⟩ := H
  obtain ⟨b, c, hv0, hlc, hcm⟩ := hLc.form
  obtain ⟨n, hn⟩ : ∃ n, L.length = n := ⟨_, rfl⟩
  rw [hn] at hv0 hlc hz hn6
  subst hv0
  have HN := Lib.hid hn; have HLC := Lib.hid hLc
  clear hn hLc
  have X0 := CC.new w (.slice (some ⟨b, 0, none⟩) n c)
  go_enter Tryz.func41, Tryz.ntmps41
  go_upto_region 1 with fail
  obtain ⟨w1, hw1⟩ : ∃ W, W = (w.alloc (.cells #[.slice (some ⟨b, 0, none⟩) n c] 93)).alloc (.cells #[.slice none 0 0] 93) := ⟨_, rfl⟩
  rw [← hw1] at X0 ⊢
  have hgg : w.heap.size + 1 ≠ w.heap.size := by omega
  obtain ⟨gr, hgr⟩ : ∃ g, w.heap.size + 1 = g := ⟨_, rfl⟩
  rw [hgr] at hgg
  obtain ⟨g, hg0⟩ : ∃ g, w.heap.size = g := ⟨_, rfl⟩
  have hgg : gr ≠ g := by rw [← hg0]; exact hgg
  have X1 : CC w g gr (.slice (some ⟨b, 0, none⟩) n c) w1 := by rw [← hgr, ← hg0]; exact X0
  rw [hgr, hg0]
  clear hw1 X0 hg0 hgr
  have c1 := X1.c0
  have hpe := pcerr (.agg #[.slice (some ⟨b, 0, none⟩) n c]) L z w1 ⟨_, rfl, HLC.out.below X1.b⟩ HL.out (by rw [HN.out]; exact hz)
  have HPE := Lib.hid hpe
  clear hpe
  go_wp2_with fail
  refine HPE.out.mono ?_
  rintro e w2 ⟨rfl, b2⟩
  have X2 := X1.below b2
  have c2 := X2.c0
  clear X1 c1 b2 HPE
  go_wp2_with fail
  refine (isframe x _ h0 h1).mono ?_
  rintro e w3 ⟨rfl, rfl⟩
  have tb : decide ((bt : Int) < 1) = false := by simp; omega
  have th : decide ((bt : Int) > (hi : Int)) = false := by simp; omega
  have HFR := Lib.hid (frames (.agg #[.slice (some ⟨b, 0, none⟩) n c]) L w2 ⟨_, rfl, HLC.out.below X2.b⟩ HL.out)
  go_wp2_with fail
  refine HFR.out.mono ?_
  rintro e w3 ⟨m, rfl, M3, b3, _⟩
  have hlk := Ms.run M3 h0 h1
  rw [show L.flatten.contains x = false by simpa using HX.out] at hlk
  have X3 := X2.below b3
  have c3 := X3.c0
  obtain ⟨a', q, c', d3, hq, hsl⟩ := (HLC.out.below X3.b).at HZL.out
  have HQ := Lib.hid hq; have HSL := Lib.hid hsl
  rw [hq] at hlh
  clear X2 c2 b3 HFR M3 hq hsl
  go_upto_region 10 with fail
  clear hlk
  refine wp_region_plan (fun U => U.cell? ⟨g, 0, none⟩ = some (.slice (some ⟨b, 0, none⟩) n c) ∧ U.cell? ⟨b, z, none⟩ = some (.slice a' q c')) (.quiet [0, 1, 2, 3, 4, 5, 6, 7, 8, 9, 10, 11, 12] (.only 13 (.quiet [14] .done))) 99 (by kernel_rfl) (by kernel_rfl) ⟨c3, d3⟩ ?_
  intro W hW hWe
  have bW : Below w3.heap.size w3 W := by rw [hWe]; exact (Below.refl _ _).drew
  clear hWe
  simp only [wpPlan, inOrder, List.filterMap_cons, List.filterMap_nil, List.getElem?_cons_zero, List.getElem?_cons_succ]
  have q0 := fun z' => (hold_ok (S0 := fun U => U.cell? ⟨g, 0, none⟩ = some (.slice (some ⟨b, 0, none⟩) n c) ∧ U.cell? ⟨b, z, none⟩ = some (.slice a' q c')) hW z').1
  have q1 := fun z' => (hold_ok (S0 := fun U => U.cell? ⟨g, 0, none⟩ = some (.slice (some ⟨b, 0, none⟩) n c) ∧ U.cell? ⟨b, z, none⟩ = some (.slice a' q c')) hW z').2
  show wpQuiet _ _ _ _ (_ :: _ :: _ :: _ :: _ :: _ :: _ :: _ :: _ :: _ :: _ :: _ :: [_]) _
  repeat (go_big_quiet_step (fail))
  refine wpQuiet_nil ?_
  clear q0 q1
  have X4 := X3.below bW
  have s4 := HSL.out.below bW
  have d4 := cell_later bW d3
  have hlb : w.heap.size ≤ W.heap.size := X4.b.size
  clear X3 c3 d3 bW HSL hW
  show wpList _ _ _ [_] _ _
  go_wp2_with ((with_reducible refine wpList_mk (n := q) (c := q + 1) (.int .i64 0) Tryz.underlying24 infoI rfl ?_ ?_ (by omega) (by omega) (by omega) ?_); (focus rfl); (focus rfl); intro w5 hB5 b5 hs5)
  have X5 := X4.below b5
  have s5 := s4.below b5
  have d5 := cell_later b5 d4
  refine ⟨hold_of ⟨X5.c0, d5⟩, ?_⟩
  simp only [Act.put, List.setIfInBounds_toArray, List.set_cons_succ, List.set_cons_zero]
  show wpQuiet _ _ _ _ ([_]) _
  repeat (go_big_quiet_step (fail))
  refine wpQuiet_nil ?_
  refine NoPanic.normal ?_
  have c5 := X5.c0
  obtain ⟨nb, hnb⟩ : ∃ z, W.heap.size = z := ⟨_, rfl⟩
  rw [hnb] at hB5 hlb ⊢
  clear hnb hs5 b5 X4 d4 s4
  have hmm := Lib.hid (show q = Nat.min l.length q by rw [HQ.out]; exact (Nat.min_self q).symm)
  have hfit : 0 + q ≤ (List.replicate (q + 1) (Value.int IntKind.i64 0)).length := by simp
  go_upto_region 12 with ((with_reducible refine wpList_cp (g := nb) (off := 0) (n := q) (c := q + 1) (m := q) (v := .slice a' q c') (l := l) ?_ ?_ s5 hB5 hmm.out hfit ?_); (focus rfl); (focus rfl); intro w6 hB6 hg6)
  have hB6' : Blk w6 nb 3 (nums l ++ [.int .i64 0]) := by
    have e : lay (List.replicate (q + 1) (Value.int IntKind.i64 0)) 0 (nums (l.take q)) = nums l ++ [.int .i64 0] := by
      rw [List.take_of_length_le (by rw [HQ.out]; exact Nat.le_refl _)]
      simp [lay, nums, HQ.out]
    rw [← e]; exact hB6
  have X6 := X5.grown hB5 (by decide) hlb hg6
  have O6 : Own w6 w.heap.size (.slice (some ⟨nb, 0, none⟩) q (q + 1)) l := by
    unfold Own
    rw [HQ.out]
    exact row_shut hlb hB6' (by omega) (by unfold maxLen; omega) (by simp [nums, HQ.out]) (by simp [nums, HQ.out])
  clear hB6 hg6 hB6' s5 d5 c5 X5 hB5 hfit hmm
  have bN := below_box w6 (.cells #[.int .i64 x] 3)
  have O7 := O6.later bN
  have X7 := X6.below bN
  have hB7 := Blk.new w6 3 #[.int .i64 x] [.int .i64 x] rfl
  have hb7 := X7.b.size
  have hl9 : l.length ≤ 900000 := by rw [HQ.out]; omega
  go_upto_region 13 with ((with_reducible refine wpList_app1 (base := w.heap.size) (b := w6.heap.size) (x := x) ?_ ?_ O7 hB7 hl9 hb7 ?_); (focus rfl); (focus rfl); intro v8 w8 O8 hg8)
  have X8 := X7.own O7 hg8
  have hlq : (l ++ [x]).length = q + 1 := by simp [HQ.out]
  have HLQ := Lib.hid hlq
  clear X6 X7 O6 O7 bN hB7 hb7 hg8 hl9
  obtain ⟨ob, cap, hv8, hqc, hcm8⟩ : ∃ ob cap, v8 = .slice (some ⟨ob, 0, none⟩) (q + 1) cap ∧ q + 1 ≤ cap ∧ cap ≤ maxLen := by
    obtain ⟨g', cap, cur, e, _, _, e3, e4, _⟩ := row_open O8 (by omega)
    rw [hlq] at e e3
    exact ⟨g', cap, e, e3, e4⟩
  subst hv8
  have s8 := Lib.hid O8.sl
  have c8 := X8.c0
  clear O8 hlq
  by_cases hle : q + 1 ≤ hi
  · have tl : decide (((q : Int) + 1) ≤ (hi : Int)) = true := by simp; omega
    have hkl : (l ++ [x]).length ≤ 256 := by rw [HLQ.out]; omega
    have HSZ := Lib.hid X8.b.size
    have HRE := Lib.hid (replace (.agg #[.slice (some ⟨b, 0, none⟩) n c]) L z (.slice (some ⟨ob, 0, none⟩) (q + 1) cap) (l ++ [x]) w8 ⟨_, rfl, HLC.out.below X8.b⟩ HL.out (by rw [HN.out]; exact hz) s8.out hkl)
    clear hkl s8
    go_wp2_with fail
    refine HRE.out.mono ?_
    rintro e w9 ⟨v', rfl, ⟨v9, rfl, hv9⟩, b9⟩
    have X9 := X8.below b9
    obtain ⟨_, _, hv9f, _, _⟩ := hv9.form
    have h1v : v9.oneCell' = true := by rw [hv9f]; rfl
    have z9 := X9.z
    clear X8 b9 c8 HRE hv9f
    go_wp2_with ((with_reducible refine stC (u := .slice none 0 0) (v := v9) ?_ ?_ z9 h1v ?_); (focus rfl); (focus rfl); intro wA hBA hgA)
    refine bodyPost_ret (resC2 rfl _ _ gr _ _ _ rfl hBA rfl rfl) rfl ?_
    exact ⟨_, _, [], l ++ [x], rfl, ⟨_, rfl, (hv9.grown z9 (by decide) (by decide) hgA).weaken HSZ.out⟩, Sl.nil _, rfl, by rw [HLQ.out]; exact hle, X9.b.grown hgA X9.b.size (fun q hq => by cases hq; exact X9.lr)⟩
  · have tl : decide (((q : Int) + 1) ≤ (hi : Int)) = false := by simp; omega
    obtain rfl : q = hi := by omega
    have hcb : ¬ cap = bt := by omega
    have HSD := Lib.hid (s8.out.drop HLQ.out (k := bt) (by omega))
    go_upto_region 16 with ((with_reducible refine wpList_mk (n := bt) (c := bt) (.int .i64 0) Tryz.underlying24 infoI rfl ?_ ?_ (by omega) (by omega) (by omega) ?_); (focus rfl); (focus rfl); intro w9 hB9 b9 hs9)
    have X9 := X8.below b9
    have s9 := s8.out.below b9
    have HSD9 := Lib.hid (HSD.out.below b9)
    have hlb : w.heap.size ≤ w8.heap.size := X8.b.size
    have hold : ∀ (bb : Nat) (bs : List Value), Blk w8 bb 3 bs → bb < w8.heap.size := fun _ _ h => h.lt
    obtain ⟨sb, hsb⟩ : ∃ z, w8.heap.size = z := ⟨_, rfl⟩
    rw [hsb] at hB9 hlb hold ⊢
    have hmm := Lib.hid (show bt = Nat.min (l ++ [x]).length bt by rw [HLQ.out]; exact (Nat.min_eq_right (by omega)).symm)
    have hfit : 0 + bt ≤ (List.replicate bt (Value.int IntKind.i64 0)).length := by simp
    go_upto_region 17 with ((with_reducible refine wpList_cp (g := sb) (off := 0) (n := bt) (c := bt) (m := bt) (v := .slice (some ⟨ob, 0, none⟩) (q + 1) cap) (l := l ++ [x]) ?_ ?_ s9 hB9 hmm.out hfit ?_); (focus rfl); (focus rfl); intro wA hBA hgA)
    have hBA' : Blk wA sb 3 (nums ((l ++ [x]).take bt)) := by
      have e : lay (List.replicate bt (Value.int IntKind.i64 0)) 0 (nums ((l ++ [x]).take bt)) = nums ((l ++ [x]).take bt) := by
        have hh : (nums ((l ++ [x]).take bt)).length = bt := by
          unfold nums
          rw [List.length_map, List.length_take, HLQ.out]; omega
        simp [lay, hh]
      rw [← e]; exact hBA
    have XA := X9.grown hB9 (by decide) hlb hgA
    have SA : Sl wA (.slice (some ⟨sb, 0, none⟩) bt bt) ((l ++ [x]).take bt) := Sl.row hBA' (by rw [List.length_take, HLQ.out]; omega) (Nat.le_refl _) (by unfold maxLen; omega) (fun _ _ => rfl)
    have HSDA := Lib.hid (HSD.out.past fun b' bs' hB' => (hB'.later b9).grown hgA (by have := hold b' bs' hB'; simp; omega))
    have cA := XA.c0
    clear hBA hgA hBA' s9 hB9 hfit hmm X9 HSD HSD9 b9 hold hs9 hsb X8 c8 s8
    simp only [Act.put, List.setIfInBounds_toArray, List.set_cons_succ, List.set_cons_zero]
    refine wp_region_plan (fun U => U.cell? ⟨g, 0, none⟩ = some (.slice (some ⟨b, 0, none⟩) n c)) (.quiet [0, 1, 2, 3, 4, 6] (.only 5 (.only 7 (.quiet [8, 9] .done)))) 99 (by kernel_rfl) (by kernel_rfl) cA ?_
    intro W hW hWe
    have bW : Below wA.heap.size wA W := by rw [hWe]; exact (Below.refl _ _).drew
    clear hWe
    have XB := XA.below bW
    have HSZ := Lib.hid XB.b.size
    have HRE := Lib.hid (replace (.agg #[.slice (some ⟨b, 0, none⟩) n c]) L z (.slice (some ⟨ob, bt, none⟩) (q + 1 - bt) (cap - bt)) ((l ++ [x]).drop bt) W ⟨_, rfl, HLC.out.below XB.b⟩ HL.out (by rw [HN.out]; exact hz) (HSDA.out.below bW) (by rw [List.length_drop, HLQ.out]; omega))
    have SB := SA.below bW
    simp only [wpPlan, inOrder, List.filterMap_cons, List.filterMap_nil, List.getElem?_cons_zero, List.getElem?_cons_succ]
    have q0 := fun z' => hold_ok (S0 := fun U => U.cell? ⟨g, 0, none⟩ = some (.slice (some ⟨b, 0, none⟩) n c)) hW z'
    show wpQuiet _ _ _ _ (_ :: _ :: _ :: _ :: _ :: [_]) _
    repeat (go_big_quiet_step (fail))
    refine wpQuiet_nil ?_
    clear q0 XA cA SA HSDA bW hW
    show wpList _ _ _ [_] _ _
    go_wp2_with fail
    refine HRE.out.mono ?_
    rintro e wC ⟨v', rfl, ⟨vC, rfl, hvC⟩, bC⟩
    have XC := XB.below bC
    have SC := SB.below bC
    obtain ⟨_, _, hvCf, _, _⟩ := hvC.form
    have h1v : vC.oneCell' = true := by rw [hvCf]; rfl
    have zC := XC.z
    clear XB SB bC HRE hvCf
    go_wp2
    refine ⟨hold_of XC.c0, ?_⟩
    show wpList _ _ _ [_] _ _
    go_wp2_with ((with_reducible refine stC (u := .slice none 0 0) (v := vC) ?_ ?_ zC h1v ?_); (focus rfl); (focus rfl); intro wD hBD hgD)
    have xD := XC.x.grown hgD (by simpa using hgg)
    refine ⟨hold_of (by rw [xD.cell]; rfl), ?_⟩
    simp only [Act.put]
    show wpQuiet _ _ _ _ (_ :: [_]) _
    repeat (go_big_quiet_step (fail))
    refine wpQuiet_nil ?_
    refine NoPanic.normal ?_
    go_wp2
    refine bodyPost_ret (resC2 rfl _ _ gr _ _ _ rfl hBD rfl rfl) rfl ?_
    exact ⟨_, _, (l ++ [x]).take bt, (l ++ [x]).drop bt, rfl, ⟨_, rfl, (hvC.grown zC (by decide) (by decide) hgD).weaken HSZ.out⟩, SC.grown zC (by decide) hgD, (List.take_append_drop _ _).symm, by rw [List.length_drop, HLQ.out]; omega, XC.b.grown hgD XC.b.size (fun q hq => by cases hq; exact XC.lr)⟩
end Go.Proofs.YtdddkfpcbfgocaaGreat
namespace Go.Zn
def keyP (a b : Int) : Int := if b < a then 2 * (a - b) else 2 * (b - a) + 1
def rkP (zs : List Z) (node i : Int) : Int := 2 * keyP node (zs.getD i.toNat noZ).nd + (if (zs.getD i.toNat noZ).kd = 0 then 1 else 0)
/-- Zones whose parameters are in range. -/
structure ZG (zs : List Z) : Prop where
  l1 : 1 ≤ zs.length
  l6 : zs.length ≤ 6
  r : ∀ z ∈ zs, Rng z
end Go.Zn
namespace Go.Proofs.YtdddkfpcbfgocaaGreat
open Go.RowKit Go.Over Go.Zn Go.Can Go.Seg Go.Grow
/-- Zones in a block. -/
structure QV (w : World) (b : Nat) (zc : List Value) (zs : List Z) : Prop where
  x : Blk w b 102 zc
  n : 10 * zs.length ≤ zc.length
  row : ∀ (i : Nat) (z : Z), zs[i]? = some z → ZV w (seg zc (i * 10) 10) z
section
variable {w w' : World} {b : Nat} {zc : List Value} {zs : List Z}
theorem QV.below (h : QV w b zc zs) (hb : Below w.heap.size w w') : QV w' b zc zs := ⟨h.x.later hb, h.n, fun i z hz => (h.row i z hz).below hb⟩
theorem ZV.past {cs : List Value} {z : Z} (h : ZV w cs z) (hk : ∀ b bs, Blk w b 3 bs → Blk w' b 3 bs) : ZV w' cs z :=
  ⟨h.len, h.nd, h.kd, h.st, h.ct, h.mn, fun k hk' => by obtain ⟨v, h1, h2⟩ := h.fr k hk'; exact ⟨v, h1, h2.past hk⟩⟩
theorem QV.get (h : QV w b zc zs) {i : Nat} {z : Z} (hz : zs[i]? = some z) : ∀ (j : Nat) (v : Value), (seg zc (i * 10) 10)[j]? = some v → zc[i * 10 + j]? = some v := fun j v hj => by
  have hlen := (h.row i z hz).len
  have hj10 : j < 10 := by rw [List.getElem?_eq_some_iff] at hj; obtain ⟨h, _⟩ := hj; omega
  rw [seg_get hj10] at hj
  exact hj
theorem QV.c0 (h : QV w b zc zs) {i : Nat} {z : Z} (hz : zs[i]? = some z) : w.cell? ⟨b, i * 10, none⟩ = some (.int .i64 z.nd) := by rw [h.x.cell]; exact h.get hz 0 _ (h.row i z hz).nd
theorem QV.cell (h : QV w b zc zs) {i j : Nat} {z : Z} {v : Value} (hz : zs[i]? = some z) (hv : (seg zc (i * 10) 10)[j]? = some v) : w.cell? ⟨b, i * 10 + j, none⟩ = some v := by rw [h.x.cell]; exact h.get hz j _ hv
end
section
variable {ops : Array Oper} {rest : List Oper} {d i : Nat} {ty : TypeId} {pos : String} {af : Array Edge} {a : Act} {w : World} {Q : Exit → Act → World → Prop} {b k : Nat} {zc : List Value} {zs : List Z} {z : Z}
/-- A zone is loaded out of a row. -/
theorem ldq (hx : a.eval (.tmp i) = .pointer (some ⟨b, k * 10, none⟩)) (h : QV w b zc zs) (hz : zs[k]? = some z) (hK : wpList Tryz.prog ops Q rest (a.put (some d) (.agg (seg zc (k * 10) 10).toArray)) w) :
    wpList Tryz.prog ops Q ({ dst := some d, op := .load 102 (.tmp i), type := ty, pos := pos, after := af, guard := none } :: rest) a w :=
  wpList_load_part Tryz.underlying102 rfl (by rw [infoZ, (h.row k z hz).len]) hx h.x (h.get hz) hK
end
set_option maxRecDepth 100000 in set_option maxHeartbeats 3200000 in
theorem key (a b : Int) (w : World) (ha0 : 0 ≤ a) (ha : a < 4) (hb0 : 0 ≤ b) (hb : b < 4) : Calls Tryz.prog 55 #[.int .i64 a, .int .i64 b] w fun e w' => e = .returned (.int .i64 (keyP a b)) ∧ w = w' := by
  by_cases h : b < a
  · have HE := Lib.hid (show keyP a b = 2 * (a - b) by unfold keyP; rw [if_pos h])
    go_enter Tryz.func55, Tryz.ntmps55
    go_wp2
    go_ret
    exact ⟨ret_int (by rw [HE.out]), rfl⟩
  · have HE := Lib.hid (show keyP a b = 2 * (b - a) + 1 by unfold keyP; rw [if_neg h])
    go_enter Tryz.func55, Tryz.ntmps55
    go_wp2
    go_ret
    exact ⟨ret_int (by rw [HE.out]), rfl⟩
set_option maxRecDepth 100000 in set_option maxHeartbeats 3200000 in
theorem zlcheck (b n c : Nat) (zc : List Value) (zs : List Z) (w : World) (H : QV w b zc zs) (hn : zs.length = n) (hG : ZG zs) : Calls Tryz.prog 105 #[.slice (some ⟨b, 0, none⟩) n c] w fun e w' => e = .returned (.int .i64 0) ∧ Below w.heap.size w w' := by
  have h6 := hG.l6
  rw [hn] at h6
  have HN := Lib.hid hn; have HG := Lib.hid hG; have HH := Lib.hid H
  clear hn hG H
  go_enter Tryz.func105, Tryz.ntmps105
  go_wp2
  go_loopg [10] n (fun gg v10 wr => ∃ i : Nat, i + gg = n ∧ v10 = .int .i64 i ∧ Below w.heap.size w wr)
  case atStart => exact ⟨0, by omega, rfl, Below.refl _ _⟩
  case round =>
    obtain ⟨i, hi, rfl, B1⟩ := hrel
    cases gk with
    | zero =>
      have hin : ¬ i < n := by omega
      clear hi
      go_wp2
      go_ret
      exact ⟨rfl, B1⟩
    | succ gg =>
      have hin : i < n := by omega
      have HI := Lib.hid hi
      obtain ⟨z, hz⟩ := get_some HN.out hin
      have Q1 := HH.out.below B1
      have hZ := Q1.row i z hz
      have hr := HG.out.r z (List.mem_of_getElem? hz)
      have r1 := hr.nd0; have r2 := hr.nd1; have r3 := hr.kd
      have h1c := hZ.one
      have hzl := hZ.len
      have hz2 := Blk.new wr 102 #[.int .i64 0, .int .i64 0, .int .i64 0, .int .i64 0, .int .i64 0, .slice none 0 0, .slice none 0 0, .slice none 0 0, .slice none 0 0, .slice none 0 0] zP rfl
      have B2 := below_then B1 (below_box wr (.cells #[.int .i64 0, .int .i64 0, .int .i64 0, .int .i64 0, .int .i64 0, .slice none 0 0, .slice none 0 0, .slice none 0 0, .slice none 0 0, .slice none 0 0] 102))
      have HZV := Lib.hid hZ; have HZ := Lib.hid hz
      have hsz := B1.size
      clear hi hz hr hZ
      go_upto_region 6 with first | ((with_reducible refine ldq ?_ Q1 HZ.out ?_); (focus rfl)) | ((with_reducible refine stZ (cs := seg zc (i * 10) 10) ?_ ?_ hz2 zP_len hzl h1c ?_); (focus rfl); (focus rfl); intro w3 hB3 hg3)
      have q0 : w3.cell? ⟨wr.heap.size, 0, none⟩ = some (.int .i64 z.nd) := by rw [hB3.cell]; exact HZV.out.nd
      have q1 : w3.cell? ⟨wr.heap.size, 1, none⟩ = some (.int .i64 z.kd) := by rw [hB3.cell]; exact HZV.out.kd
      have B3 : Below w.heap.size w w3 := B2.grown hg3 B2.size (fun k hk => by cases hk; exact hsz)
      clear hB3 hg3 B1 B2 Q1 hz2 h1c hzl
      rcases r3 with e | e
      · rw [e] at q1
        clear e
        go_wp2
        go_roundg gg
        case rel => exact ⟨i + 1, by have := HI.out; omega, by go_num, B3⟩
        case measure => omega
      · rw [e] at q1
        clear e
        go_wp2
        go_roundg gg
        case rel => exact ⟨i + 1, by have := HI.out; omega, by go_num, B3⟩
        case measure => omega
set_option maxRecDepth 100000 in set_option maxHeartbeats 3200000 in
theorem zlcheck2 (b n c : Nat) (zc : List Value) (zs : List Z) (node : Int) (w : World) (H : QV w b zc zs) (hn : zs.length = n) (hG : ZG zs) (h0 : 0 ≤ node) (h4 : node < 4) : Calls Tryz.prog 53 #[.slice (some ⟨b, 0, none⟩) n c, .int .i64 node] w fun e w' => e = .returned (.int .i64 0) ∧ Below w.heap.size w w' := by
  have HC := Lib.hid (zlcheck b n c zc zs w H hn hG)
  clear hn hG H
  go_enter Tryz.func53, Tryz.ntmps53
  go_wp2_with fail
  refine HC.out.mono ?_
  rintro e w5 ⟨rfl, b5⟩
  go_wp2
  go_ret
  exact ⟨rfl, b5⟩
end Go.Proofs.YtdddkfpcbfgocaaGreat
namespace Go.Zn
def cmpI (a b : Int) : Int := if a < b then -1 else if b < a then 1 else 0
theorem cmpI_lt {a b : Int} : cmpI a b < 0 ↔ a < b := by
  unfold cmpI
  split
  · omega
  · split <;> omega
theorem keyP_le {a b : Int} (ha0 : 0 ≤ a) (ha : a < 4) (hb0 : 0 ≤ b) (hb : b < 4) : 0 ≤ keyP a b ∧ keyP a b ≤ 7 := by
  unfold keyP
  split <;> omega
end Go.Zn
namespace Go.Proofs.YtdddkfpcbfgocaaGreat
open Go.RowKit Go.Over Go.Zn Go.Can Go.Seg Go.Grow
/-- What the closures read. -/
structure KO (w : World) (g4 g3 bz n c : Nat) (node : Int) (zc : List Value) (zs : List Z) : Prop where
  n4 : Blk w g4 3 [.int .i64 node]
  n3 : Blk w g3 25 [.slice (some ⟨bz, 0, none⟩) n c]
  x : Blk w bz 102 zc
  hd : ∀ (i : Nat) (z : Z), zs[i]? = some z → Hd5 (seg zc (i * 10) 10) z
section
variable {w w' : World} {g4 g3 bz n c : Nat} {node : Int} {zc : List Value} {zs : List Z}
theorem KO.below (h : KO w g4 g3 bz n c node zc zs) (hb : Below w.heap.size w w') : KO w' g4 g3 bz n c node zc zs := ⟨h.n4.later hb, h.n3.later hb, h.x.later hb, h.hd⟩
theorem KO.grown {ob : Nat} {cs : List Value} (h : KO w g4 g3 bz n c node zc zs) (hB : Blk w ob 3 cs) (hne : ob ≠ g4) (hg : w.grownBy w' (some ob)) : KO w' g4 g3 bz n c node zc zs :=
  ⟨h.n4.grown hg (by simpa using hne), h.n3.grown hg (by simpa using hB.ne_type h.n3 (by decide)), h.x.grown hg (by simpa using hB.ne_type h.x (by decide)), h.hd⟩
theorem KO.cell (h : KO w g4 g3 bz n c node zc zs) {i j : Nat} {z : Z} {v : Value} (hz : zs[i]? = some z) (hv : (seg zc (i * 10) 10)[j]? = some v) : w.cell? ⟨bz, i * 10 + j, none⟩ = some v := by
  have hlen := (h.hd i z hz).len
  have hj10 : j < 10 := by rw [List.getElem?_eq_some_iff] at hv; obtain ⟨h, _⟩ := hv; omega
  rw [seg_get hj10] at hv
  rw [h.x.cell]; exact hv
end
set_option maxRecDepth 100000 in set_option maxHeartbeats 3200000 in
theorem compare (x y : Int) (w : World) : Calls Tryz.prog 58 #[.int .i64 x, .int .i64 y] w fun e w' => e = .returned (.int .i64 (cmpI x y)) ∧ w = w' := by
  rcases (show x < y ∨ (¬ x < y ∧ y < x) ∨ (¬ x < y ∧ ¬ y < x) by omega) with h | ⟨h, h2⟩ | ⟨h, h2⟩
  · have HE := Lib.hid (show cmpI x y = -1 by unfold cmpI; rw [if_pos h])
    go_enter Tryz.func58, Tryz.ntmps58
    go_wp2_with (go_at_call 107; refine (cnan _ _).mono ?_; rintro e w' ⟨rfl, rfl⟩)
    go_ret
    exact ⟨ret_int (by rw [HE.out]), rfl⟩
  · have HE := Lib.hid (show cmpI x y = 1 by unfold cmpI; rw [if_neg h, if_pos h2])
    go_enter Tryz.func58, Tryz.ntmps58
    go_wp2_with (go_at_call 107; refine (cnan _ _).mono ?_; rintro e w' ⟨rfl, rfl⟩)
    go_ret
    exact ⟨ret_int (by rw [HE.out]), rfl⟩
  · have HE := Lib.hid (show cmpI x y = 0 by unfold cmpI; rw [if_neg h, if_neg h2])
    go_enter Tryz.func58, Tryz.ntmps58
    go_wp2_with (go_at_call 107; refine (cnan _ _).mono ?_; rintro e w' ⟨rfl, rfl⟩)
    go_ret
    exact ⟨ret_int (by rw [HE.out]), rfl⟩
set_option maxRecDepth 100000 in set_option maxHeartbeats 3200000 in
theorem rank (g4 g3 bz n c : Nat) (node : Int) (zc : List Value) (zs : List Z) (i : Nat) (w : World) (H : KO w g4 g3 bz n c node zc zs) (hG : ZG zs) (hn : zs.length = n) (hi : i < n) (h0 : 0 ≤ node) (h4 : node < 4) :
    Calls Tryz.prog 54 #[.int .i64 i, .pointer (some ⟨g4, 0, none⟩), .pointer (some ⟨g3, 0, none⟩)] w fun e w' => e = .returned (.int .i64 (rkP zs node i)) ∧ Below w.heap.size w w' := by
  obtain ⟨z, hz⟩ := get_some hn hi
  have hr := hG.r z (List.mem_of_getElem? hz)
  have r1 := hr.nd0; have r2 := hr.nd1; have r3 := hr.kd
  have h6 := hG.l6
  rw [hn] at h6
  have c4 : w.cell? ⟨g4, 0, none⟩ = some (.int .i64 node) := by rw [H.n4.cell]; rfl
  have c3 : w.cell? ⟨g3, 0, none⟩ = some (.slice (some ⟨bz, 0, none⟩) n c) := by rw [H.n3.cell]; rfl
  have cn : w.cell? ⟨bz, i * 10, none⟩ = some (.int .i64 z.nd) := H.cell (j := 0) hz (H.hd i z hz).nd
  have ck : w.cell? ⟨bz, i * 10 + 1, none⟩ = some (.int .i64 z.kd) := H.cell hz (H.hd i z hz).kd
  have hzd : zs.getD ((i : Int)).toNat noZ = z := by rw [Int.toNat_natCast, List.getD_eq_getElem?_getD, hz]; rfl
  have hkp := keyP_le h0 h4 r1 r2
  have HE := Lib.hid (show rkP zs node i = 2 * keyP node z.nd + (if z.kd = 0 then 1 else 0) by unfold rkP; rw [hzd])
  obtain ⟨nd, hnd⟩ : ∃ x, z.nd = x := ⟨_, rfl⟩
  obtain ⟨K, hK⟩ : ∃ x, keyP node nd = x := ⟨_, rfl⟩
  rw [hnd] at cn r1 r2 hkp HE
  rw [hK] at hkp HE
  have hkey : ∀ W, Calls Tryz.prog 55 #[.int .i64 node, .int .i64 nd] W fun e w' => e = .returned (.int .i64 K) ∧ W = w' := fun W => by
    have := key node nd W h0 h4 r1 r2
    rw [hK] at this
    exact this
  have HKEY := Lib.hid hkey
  have d4 := over_cell c4; have d3 := over_cell c3; have dn := over_cell cn
  clear hkey hnd hK hzd hz hr hG hn H
  go_enter Tryz.func54, Tryz.ntmps54
  go_upto_region 1 with fail
  refine wp_region_over (by kernel_rfl) (by kernel_rfl) ?_
  repeat (go_big_quiet_step ((go_at_call 55; exact calls_over_same (HKEY.out _))))
  refine wpQuiet_nil ?_
  rintro _ ⟨u, rfl⟩
  have d4 := over_cell c4 u; have d3 := over_cell c3 u; have dk := over_cell ck u
  have hfin := below_over w u
  rcases r3 with e | e
  · rw [e] at dk
    rw [e, if_pos rfl] at HE
    clear e ck
    go_wp2
    go_ret
    exact ⟨ret_int (by rw [HE.out]), hfin⟩
  · rw [e] at dk
    rw [e, if_neg (by decide)] at HE
    clear e ck
    go_wp2
    go_ret
    exact ⟨ret_int (by rw [HE.out]; omega), hfin⟩
set_option maxRecDepth 100000 in set_option maxHeartbeats 3200000 in
theorem zcmp (g4 g3 g12 bz n c : Nat) (node : Int) (zc : List Value) (zs : List Z) (i j : Nat) (w : World) (H : KO w g4 g3 bz n c node zc zs) (h12 : Blk w g12 112 [.func (.func 54) #[] #[.pointer (some ⟨g4, 0, none⟩), .pointer (some ⟨g3, 0, none⟩)]]) (hG : ZG zs) (hn : zs.length = n) (hi : i < n) (hj : j < n) (h0 : 0 ≤ node) (h4 : node < 4) :
    Calls Tryz.prog 57 #[.int .i64 i, .int .i64 j, .pointer (some ⟨g12, 0, none⟩)] w fun e w' => e = .returned (.int .i64 (cmpI (rkP zs node i) (rkP zs node j))) ∧ Below w.heap.size w w' := by
  have c12 : w.cell? ⟨g12, 0, none⟩ = some (.func (.func 54) #[] #[.pointer (some ⟨g4, 0, none⟩), .pointer (some ⟨g3, 0, none⟩)]) := by rw [h12.cell]; rfl
  have HR := Lib.hid (fun u => rank g4 g3 bz n c node zc zs i (over w u) (H.below (below_over w u)) hG hn hi h0 h4)
  have HS := Lib.hid (fun u => rank g4 g3 bz n c node zc zs j (over w u) (H.below (below_over w u)) hG hn hj h0 h4)
  have HC := Lib.hid (fun u => compare (rkP zs node i) (rkP zs node j) (over w u))
  obtain ⟨a, ha⟩ : ∃ x, rkP zs node i = x := ⟨_, rfl⟩
  obtain ⟨b, hb⟩ : ∃ x, rkP zs node j = x := ⟨_, rfl⟩
  rw [ha] at HR HC ⊢
  rw [hb] at HS HC ⊢
  have d12 := over_cell c12
  clear ha hb H h12 hG hn hi hj h0 h4
  go_enter Tryz.func57, Tryz.ntmps57
  go_upto_region 1 with fail
  refine wp_region_over (by kernel_rfl) (by kernel_rfl) ?_
  repeat (go_big_quiet_step ((first | (go_at_call 54; first | (with_reducible exact calls_over (HR.out _)) | (with_reducible exact calls_over (HS.out _))) | (go_at_call 58; exact calls_over_same (HC.out _)))))
  refine wpQuiet_nil ?_
  rintro _ ⟨u, rfl⟩
  have hfin := below_over w u
  go_wp2
  go_ret
  exact ⟨rfl, hfin⟩
end Go.Proofs.YtdddkfpcbfgocaaGreat
namespace Go.Zn
theorem tw_len {α : Type} {p : α → Bool} : ∀ {L : List α} {m : Nat}, m ≤ L.length → (∀ k y, k < m → L[k]? = some y → p y = true) → (∀ y, L[m]? = some y → p y = false) → (L.takeWhile p).length = m
  | [], m, h, _, _ => by simp at h; subst h; rfl
  | z :: r, 0, _, _, h2 => by rw [List.takeWhile_cons, if_neg (by rw [h2 z rfl]; decide)]; rfl
  | z :: r, m + 1, h, h1, h2 => by
    rw [List.takeWhile_cons, if_pos (h1 0 z (by omega) rfl), List.length_cons, tw_len (m := m) (by simpa using h) (fun k y hk hy => h1 (k + 1) y (by omega) (by simpa using hy)) (fun y hy => h2 y (by simpa using hy))]
def cutR (rk : Int → Int) (x : Int) (A : List Int) : Nat := A.length - (A.reverse.takeWhile fun y => decide (rk x < rk y)).length
def insR (rk : Int → Int) (x : Int) (A : List Int) : List Int := A.take (cutR rk x A) ++ x :: A.drop (cutR rk x A)
def isort (rk : Int → Int) (l : List Int) : List Int := l.foldl (fun A x => insR rk x A) []
theorem cut_eq {rk : Int → Int} {x : Int} {A : List Int} {j : Nat} (hj : j ≤ A.length) (h1 : ∀ k y, j ≤ k → A[k]? = some y → rk x < rk y) (h2 : ∀ y, 0 < j → A[j - 1]? = some y → ¬ rk x < rk y) : cutR rk x A = j := by
  unfold cutR
  rw [tw_len (m := A.length - j) (by rw [List.length_reverse]; omega)]
  · omega
  · intro k y hk hy
    rw [List.getElem?_reverse (by omega)] at hy
    exact decide_eq_true (h1 _ y (by omega) hy)
  · intro y hy
    rcases Nat.eq_zero_or_pos j with h0 | h0
    · subst h0
      rw [List.getElem?_eq_none (by simp)] at hy
      cases hy
    · rw [List.getElem?_reverse (by omega)] at hy
      exact decide_eq_false (h2 y h0 (by rw [show j - 1 = A.length - 1 - (A.length - j) by omega]; exact hy))
theorem mem_insR {rk : Int → Int} {x y : Int} {A : List Int} : y ∈ insR rk x A ↔ y = x ∨ y ∈ A := by
  unfold insR
  conv => rhs; rw [← List.take_append_drop (cutR rk x A) A]
  simp only [List.mem_append, List.mem_cons]
  constructor
  · rintro (h | h | h)
    · exact .inr (.inl h)
    · exact .inl h
    · exact .inr (.inr h)
  · rintro (h | h | h)
    · exact .inr (.inl h)
    · exact .inl h
    · exact .inr (.inr h)
theorem insR_len {rk : Int → Int} {x : Int} {A : List Int} : (insR rk x A).length = A.length + 1 := by
  unfold insR
  conv => rhs; rw [← List.take_append_drop (cutR rk x A) A]
  simp only [List.length_append, List.length_cons]
  omega
theorem isort_snoc {rk : Int → Int} {l : List Int} {x : Int} : isort rk (l ++ [x]) = insR rk x (isort rk l) := by simp [isort]
theorem isort_len {rk : Int → Int} : ∀ {n : Nat} {l : List Int}, l.length = n → (isort rk l).length = n
  | 0, l, h => by rw [List.eq_nil_of_length_eq_zero h]; rfl
  | n + 1, l, h => by
    have hd : l = l.dropLast ++ [l.getLast (by intro e; rw [e] at h; simp at h)] := (List.dropLast_concat_getLast _).symm
    rw [hd, isort_snoc, insR_len, isort_len (n := n) (by rw [List.length_dropLast, h]; rfl)]
theorem mem_isort {rk : Int → Int} {y : Int} : ∀ {n : Nat} {l : List Int}, l.length = n → (y ∈ isort rk l ↔ y ∈ l)
  | 0, l, h => by rw [List.eq_nil_of_length_eq_zero h]; simp [isort]
  | n + 1, l, h => by
    have hd : l = l.dropLast ++ [l.getLast (by intro e; rw [e] at h; simp at h)] := (List.dropLast_concat_getLast _).symm
    have ih := mem_isort (rk := rk) (y := y) (n := n) (l := l.dropLast) (by rw [List.length_dropLast, h]; rfl)
    rw [hd, isort_snoc, mem_insR, ih]
    simp only [List.mem_append, List.mem_singleton]
    exact ⟨fun h => h.symm, fun h => h.symm⟩
/-- Two neighbours change places. -/
theorem swap_step {A R : List Int} {x y : Int} {j : Nat} (hj : j + 1 ≤ A.length) (hy : A[j]? = some y) : ((A.take (j + 1) ++ x :: (A.drop (j + 1) ++ R)).set (j + 1) y).set j x = A.take j ++ x :: (A.drop j ++ R) := by
  have h1 : A.take (j + 1) = A.take j ++ [y] := by rw [List.take_add_one, hy]; rfl
  have h2 : A.drop j = y :: A.drop (j + 1) := by
    have hlt : j < A.length := by omega
    rw [List.drop_eq_getElem_cons hlt]
    rw [List.getElem?_eq_getElem hlt] at hy
    rw [Option.some.inj hy]
  have l1 : (A.take j).length = j := by rw [List.length_take]; omega
  rw [h1, h2]
  obtain ⟨p, hp⟩ : ∃ p, A.take j = p := ⟨_, rfl⟩
  rw [hp] at l1 ⊢
  rw [List.append_assoc, List.set_append, if_neg (by omega), l1, show j + 1 - j = 1 by omega]
  simp only [List.cons_append, List.nil_append, List.set_cons_succ, List.set_cons_zero]
  rw [List.set_append, if_neg (by omega), l1, Nat.sub_self]
  simp
theorem mid_get {A R : List Int} {x : Int} {j : Nat} (hj : j ≤ A.length) : (A.take j ++ x :: (A.drop j ++ R))[j]? = some x ∧ ∀ k, k < j → (A.take j ++ x :: (A.drop j ++ R))[k]? = A[k]? := by
  have l1 : (A.take j).length = j := by rw [List.length_take]; omega
  refine ⟨by rw [List.getElem?_append_right (by omega), l1, Nat.sub_self]; rfl, fun k hk => ?_⟩
  rw [List.getElem?_append_left (by omega), List.getElem?_take, if_pos hk]
end Go.Zn
namespace Go.Proofs.YtdddkfpcbfgocaaGreat
open Go.RowKit Go.Over Go.Zn Go.Can Go.Seg Go.Grow
end Go.Proofs.YtdddkfpcbfgocaaGreat
namespace Go.Proofs.YtdddkfpcbfgocaaGreat
open Go.RowKit Go.Over Go.Zn Go.Can Go.Seg Go.Grow
/-- What a sort reads besides its row. -/
structure SK (rk : Int → Int) (l : List Int) (ob g12 : Nat) (K : World → Prop) : Prop where
  k1 : ∀ W W', K W → Below W.heap.size W W' → K W'
  k2 : ∀ W W' cs, K W → Blk W ob 3 cs → W.grownBy W' (some ob) → K W'
  c : ∀ x ∈ l, ∀ y ∈ l, ∀ W, K W → Calls Tryz.prog 57 #[.int .i64 x, .int .i64 y, .pointer (some ⟨g12, 0, none⟩)] W fun e w' => e = .returned (.int .i64 (cmpI (rk x) (rk y))) ∧ Below W.heap.size W w'
theorem grown_cell {w w' : World} {ob i : Nat} {u : Value} (h : w.grownBy w' (some ob)) : w.grownBy (w'.setCell ⟨ob, i, none⟩ u) (some ob) :=
  grown_trans h ⟨rfl, rfl, rfl, by simp [World.setCell], fun k _ hk => Below.heap_setCell w' ⟨ob, i, none⟩ u k (fun e => hk (by rw [e]))⟩
theorem grown_below {w w' : World} {ob : Nat} (h : Below w.heap.size w w') : w.grownBy w' (some ob) := ⟨h.os, h.tape, h.output, h.size, fun k hk _ => h.block k hk⟩
theorem nums_set {l : List Int} {E : List Value} {i : Nat} {x : Int} (hi : i < l.length) : (nums l ++ E).set i (.int .i64 x) = nums (l.set i x) ++ E := by
  rw [List.set_append, if_pos (by simpa [nums] using hi)]
  simp [nums, List.map_set]
theorem nums_at {l : List Int} {E : List Value} {i : Nat} {x : Int} (h : l[i]? = some x) : (nums l ++ E)[i]? = some (.int .i64 x) := by
  have hi : i < l.length := by rw [List.getElem?_eq_some_iff] at h; exact h.1
  rw [List.getElem?_append_left (by simpa [nums] using hi)]
  simp [nums, h]
set_option maxRecDepth 100000 in set_option maxHeartbeats 3200000 in
theorem isorted (rk : Int → Int) (l : List Int) (n cap ob g12 : Nat) (E : List Value) (K : World → Prop) (w : World) (hB : Blk w ob 3 (nums l ++ E)) (hn : l.length = n) (hn6 : n ≤ 1000) (hK : K w) (HS : SK rk l ob g12 K) :
    Calls Tryz.prog 152 #[.slice (some ⟨ob, 0, none⟩) n cap, .int .i64 0, .int .i64 n, .func (.func 57) #[] #[.pointer (some ⟨g12, 0, none⟩)]] w fun e w' =>
      e = .returned (.tuple #[]) ∧ Blk w' ob 3 (nums (isort rk l) ++ E) ∧ w.grownBy w' (some ob) ∧ K w' := by
  have HN := Lib.hid hn
  have hg0 : w.grownBy w (some ob) := grown_below (Below.refl _ _)
  have hst : (n = 0 ∧ Blk w ob 3 (nums (isort rk l) ++ E)) ∨ (1 ≤ n ∧ Blk w ob 3 (nums (isort rk (l.take 1) ++ l.drop 1) ++ E)) := by
    rcases Nat.eq_zero_or_pos n with h | h
    · refine .inl ⟨h, ?_⟩
      rw [List.eq_nil_of_length_eq_zero (hn.trans h)] at hB ⊢
      exact hB
    · refine .inr ⟨h, ?_⟩
      cases l with
      | nil => simp at hn; omega
      | cons x r => exact hB
  have HST := Lib.hid hst
  clear hn hst hB
  go_enter Tryz.func152, Tryz.ntmps152
  go_wp2
  go_loopg [8] (n - 1) (fun gg v8 wr => ∃ i : Nat, v8 = .int .i64 i ∧ 1 ≤ i ∧ (gg = 0 → n ≤ i) ∧ (0 < gg → i + gg = n) ∧ w.grownBy wr (some ob) ∧ K wr ∧ ((n ≤ i ∧ Blk wr ob 3 (nums (isort rk l) ++ E)) ∨ (i < n ∧ Blk wr ob 3 (nums (isort rk (l.take i) ++ l.drop i) ++ E))))
  case atStart =>
    refine ⟨1, rfl, Nat.le_refl _, fun h => by omega, fun h => by omega, hg0, hK, ?_⟩
    rcases HST.out with ⟨h1, h2⟩ | ⟨h1, h2⟩
    · exact .inl ⟨by omega, h2⟩
    · rcases Nat.lt_or_ge 1 n with h3 | h3
      · exact .inr ⟨h3, h2⟩
      · refine .inl ⟨h3, ?_⟩
        rw [List.take_of_length_le (by rw [HN.out]; exact h3), List.drop_eq_nil_of_le (by rw [HN.out]; exact h3), List.append_nil] at h2
        exact h2
  case round =>
    clear HST hg0 hK
    obtain ⟨i, rfl, hi1, hi2, hi3, hg, hK, hst⟩ := hrel
    cases gk with
    | zero =>
      have hin : ¬ i < n := by have := hi2 rfl; omega
      have hB : Blk wr ob 3 (nums (isort rk l) ++ E) := by
        rcases hst with ⟨_, h⟩ | ⟨h, _⟩
        · exact h
        · exact absurd h hin
      clear hst hi2 hi3
      go_wp2
      exact bodyPost_end (results_none rfl _ _ _) rfl ⟨rfl, hB, hg, hK⟩
    | succ gg =>
      have hin : i < n := by have := hi3 (by omega); omega
      have HI := Lib.hid (hi3 (by omega))
      have hB : Blk wr ob 3 (nums (isort rk (l.take i) ++ l.drop i) ++ E) := by
        rcases hst with ⟨h, _⟩ | ⟨_, h⟩
        · omega
        · exact h
      obtain ⟨x, hx⟩ := get_some HN.out hin
      obtain ⟨A, hA⟩ : ∃ A, isort rk (l.take i) = A := ⟨_, rfl⟩
      obtain ⟨R, hR⟩ : ∃ R, l.drop (i + 1) = R := ⟨_, rfl⟩
      have htl : (l.take i).length = i := by rw [List.length_take, HN.out]; omega
      have hAl : A.length = i := by rw [← hA]; exact isort_len htl
      have hAm : ∀ y ∈ A, y ∈ l := fun y hy => by rw [← hA] at hy; exact List.mem_of_mem_take ((mem_isort htl).1 hy)
      have hB2 : Blk wr ob 3 (nums (A.take i ++ x :: (A.drop i ++ R)) ++ E) := by
        rw [List.take_of_length_le (Nat.le_of_eq hAl), List.drop_eq_nil_of_le (Nat.le_of_eq hAl), List.nil_append, ← hA, ← hR, ← drop_get hx]; exact hB
      have HNX := Lib.hid (show ∀ A', A' = insR rk x A → (n ≤ i + 1 → A' ++ R = isort rk l) ∧ (A' ++ R = isort rk (l.take (i + 1)) ++ l.drop (i + 1)) from fun A' hA' => by
        have e1 : isort rk (l.take (i + 1)) = A' := by rw [List.take_add_one, hx, hA', ← hA]; exact isort_snoc
        refine ⟨fun h => ?_, by rw [e1, hR]⟩
        rw [← hR, List.drop_eq_nil_of_le (by rw [HN.out]; exact h), List.append_nil, ← e1, List.take_of_length_le (by rw [HN.out]; exact h)])
      have HX := Lib.hid (List.mem_of_getElem? hx); have HAL := Lib.hid hAl; have HAM := Lib.hid hAm
      clear hst hi2 hi3 hB hx hA hR htl hAl hAm
      go_wp2
      go_loopg [9] i (fun g2 v9 wj => v9 = .int .i64 g2 ∧ g2 ≤ i ∧ Blk wj ob 3 (nums (A.take g2 ++ x :: (A.drop g2 ++ R)) ++ E) ∧ w.grownBy wj (some ob) ∧ K wj ∧ (∀ k y, g2 ≤ k → A[k]? = some y → rk x < rk y))
      case atStart => exact ⟨rfl, Nat.le_refl _, hB2, hg, hK, fun k y h1 h2 => by
        rw [List.getElem?_eq_none (by rw [HAL.out]; exact h1)] at h2; cases h2⟩
      case round =>
        clear hB2 hg hK
        obtain ⟨rfl, hj, hB3, hg3, hK3, hgt⟩ := hrel
        have HGT := Lib.hid hgt
        clear hgt
        cases gk with
        | zero =>
          have hcut := HNX.out _ (show insR rk x A = insR rk x A from rfl)
          have hct := cut_eq (rk := rk) (x := x) (A := A) (j := 0) (Nat.zero_le _) HGT.out (fun _ h => absurd h (by omega))
          have HE := Lib.hid (show A.take 0 ++ x :: (A.drop 0 ++ R) = insR rk x A ++ R by unfold insR; rw [hct]; simp)
          have HCUT := Lib.hid hcut
          rw [HE.out] at hB3
          clear hcut hct
          go_wp2_with fail
          refine wp_region_over (by kernel_rfl) (by kernel_rfl) ?_
          repeat (go_big_quiet_step (fail))
          refine wpQuiet_nil ?_
          rintro _ ⟨u, rfl⟩
          have hW := below_over wr u
          have hB4 := hB3.later hW
          have hg4 := grown_trans hg3 (grown_below (ob := ob) hW)
          have hK4 := HS.k1 _ _ hK3 hW
          obtain ⟨w4, hw4⟩ : ∃ W, W = over wr u := ⟨_, rfl⟩
          rw [← hw4] at hB4 hg4 hK4 ⊢
          clear hw4 hW hB3 hg3 hK3
          go_wp2
          go_roundg gg
          case rel =>
              have hi := HI.out
              refine ⟨i + 1, by go_num, by omega, fun h => by omega, fun h => by omega, hg4, hK4, ?_⟩
              rcases Nat.lt_or_ge (i + 1) n with h | h
              · refine .inr ⟨h, ?_⟩
                rw [← HCUT.out.2]; exact hB4
              · refine .inl ⟨h, ?_⟩
                rw [← HCUT.out.1 h]; exact hB4
          case measure => omega
        | succ j =>
          have hAl := HAL.out
          obtain ⟨y, hy⟩ := get_some (l := A) (i := j) hAl (by omega)
          have hm := mid_get (A := A) (R := R) (x := x) (j := j + 1) (by omega)
          have cx : wr.cell? ⟨ob, j + 1, none⟩ = some (.int .i64 x) := by rw [hB3.cell]; exact nums_at hm.1
          have cy : wr.cell? ⟨ob, j, none⟩ = some (.int .i64 y) := by rw [hB3.cell]; exact nums_at ((hm.2 j (by omega)).trans hy)
          have dx := over_cell cx; have dy := over_cell cy
          have ej : ((j + 1 : Nat) : Int) - 1 = (j : Int) := by omega
          have tj : decide ((0 : Int) < ((j + 1 : Nat) : Int)) = true := by simp
          have HC := Lib.hid (fun u => HS.c x HX.out y (HAM.out y (List.mem_of_getElem? hy)) (over wr u) (HS.k1 _ _ hK3 (below_over wr u)))
          have hjn : j + 1 < n := by omega
          have HY := Lib.hid hy
          clear hAl hm hy
          by_cases hlt : rk x < rk y
          · have hcm : cmpI (rk x) (rk y) = -1 := by unfold cmpI; rw [if_pos hlt]
            rw [hcm] at HC
            clear hcm
            go_wp2_with fail
            refine wp_region_over (by kernel_rfl) (by kernel_rfl) ?_
            repeat (go_big_quiet_step (exact calls_over (HC.out _)))
            refine wpQuiet_nil ?_
            rintro _ ⟨u, rfl⟩
            have hW := below_over wr u
            have hB4 := hB3.later hW
            have hg4 := grown_trans hg3 (grown_below (ob := ob) hW)
            have hK4 := HS.k1 _ _ hK3 hW
            have cx := dx u; have cy := dy u
            obtain ⟨w4, hw4⟩ : ∃ W, W = over wr u := ⟨_, rfl⟩
            rw [← hw4] at hB4 hg4 hK4 cx cy ⊢
            clear hw4 hW hB3 hg3 hK3 dx dy HC
            go_wp2_with fail
            refine wp_region_plan (fun _ => True) (.quiet [0, 1, 2, 3, 4, 5, 6, 7, 8, 10, 11, 12] (.fork 9 (.only 13 (.quiet [14] (.only 15 (.quiet [16] (.only 17 .done))))) 13 (.only 9 (.quiet [14] (.only 15 (.quiet [16] (.only 17 .done))))))) 99 (by kernel_rfl) (by kernel_rfl) trivial ?_
            intro U _ hWe
            have bW : Below w4.heap.size w4 U := by rw [hWe]; exact (Below.refl _ _).drew
            have hB5 := hB4.later bW
            have hg5 := grown_trans hg4 (grown_below (ob := ob) bW)
            have hK5 := HS.k1 _ _ hK4 bW
            have cx := cell_later bW cx
            have cy := cell_later bW cy
            clear hWe bW hB4 hg4 hK4
            have hfz := hB5.frozen (j + 1)
            have hsw := Lib.hid (swap_step (A := A) (R := R) (x := x) (y := y) (j := j) (by rw [HAL.out]; exact hj) HY.out)
            have hl1 := Lib.hid (show j + 1 < (A.take (j + 1) ++ x :: (A.drop (j + 1) ++ R)).length by rw [List.length_append, List.length_take, HAL.out, List.length_cons]; omega)
            have B5 := hB5.set (j + 1) (.int .i64 y)
            rw [nums_set hl1.out] at B5
            have B6 := B5.set j (.int .i64 x)
            rw [nums_set (by rw [List.length_set]; have := hl1.out; omega), hsw.out] at B6
            have f6 := B5.frozen j
            have c6 : (U.setCell ⟨ob, j + 1, none⟩ (.int .i64 y)).cell? ⟨ob, j, none⟩ = some (.int .i64 y) := by
              have hm := mid_get (A := A) (R := R) (x := x) (j := j + 1) (by rw [HAL.out]; exact hj)
              rw [B5.cell]
              exact nums_at (by rw [List.getElem?_set_ne (by omega)]; exact (hm.2 j (by omega)).trans HY.out)
            have K6 := HS.k2 _ _ _ (HS.k2 _ _ _ hK5 hB5 (grown_cell (i := j + 1) (u := .int .i64 y) (grown_below (Below.refl _ _)))) B5 (grown_cell (i := j) (u := .int .i64 x) (grown_below (Below.refl _ _)))
            have G6 := grown_cell (i := j) (u := .int .i64 x) (grown_cell (i := j + 1) (u := .int .i64 y) hg5)
            clear hB5 hg5 hK5 B5 hsw hl1
            simp only [wpPlan, inOrder, List.filterMap_cons, List.filterMap_nil, List.getElem?_cons_zero, List.getElem?_cons_succ]
            show wpQuiet _ _ _ _ (_ :: _ :: _ :: _ :: _ :: _ :: _ :: _ :: _ :: _ :: _ :: [_]) _
            repeat (go_big_quiet_step (fail))
            refine wpQuiet_nil ?_
            refine ⟨?_, ?_⟩
            · show wpList _ _ _ [_] _ _
              go_wp2
              refine ⟨hold_of (S0 := fun _ => True) trivial, ?_⟩
              show wpList _ _ _ [_] _ _
              go_wp2
              refine ⟨hold_of (S0 := fun _ => True) trivial, ?_⟩
              show wpQuiet _ _ _ _ ([_]) _
              repeat (go_big_quiet_step (fail))
              refine wpQuiet_nil ?_
              show wpList _ _ _ [_] _ _
              go_wp2
              refine ⟨hold_of (S0 := fun _ => True) trivial, ?_⟩
              show wpQuiet _ _ _ _ ([_]) _
              repeat (go_big_quiet_step (fail))
              refine wpQuiet_nil ?_
              show wpList _ _ _ [_] _ _
              go_wp2
              refine ⟨hold_of (S0 := fun _ => True) trivial, NoPanic.normal ?_⟩
              obtain ⟨w7, hw7⟩ : ∃ W, W = (U.setCell ⟨ob, j + 1, none⟩ (.int .i64 y)).setCell ⟨ob, j, none⟩ (.int .i64 x) := ⟨_, rfl⟩
              rw [← hw7] at B6 K6 G6 ⊢
              clear hw7 c6 f6 hfz
              go_wp2
              go_roundg j
              case rel => exact ⟨rfl, by omega, B6, G6, K6, fun k y' h1 h2 => by
                by_cases e : k = j
                · subst e; rw [HY.out] at h2; cases h2; exact hlt
                · exact HGT.out k y' (by omega) h2⟩
              case measure => omega
            · show wpList _ _ _ [_] _ _
              go_wp2
              refine ⟨hold_of (S0 := fun _ => True) trivial, ?_⟩
              show wpList _ _ _ [_] _ _
              go_wp2
              refine ⟨hold_of (S0 := fun _ => True) trivial, ?_⟩
              show wpQuiet _ _ _ _ ([_]) _
              repeat (go_big_quiet_step (fail))
              refine wpQuiet_nil ?_
              show wpList _ _ _ [_] _ _
              go_wp2
              refine ⟨hold_of (S0 := fun _ => True) trivial, ?_⟩
              show wpQuiet _ _ _ _ ([_]) _
              repeat (go_big_quiet_step (fail))
              refine wpQuiet_nil ?_
              show wpList _ _ _ [_] _ _
              go_wp2
              refine ⟨hold_of (S0 := fun _ => True) trivial, NoPanic.normal ?_⟩
              obtain ⟨w7, hw7⟩ : ∃ W, W = (U.setCell ⟨ob, j + 1, none⟩ (.int .i64 y)).setCell ⟨ob, j, none⟩ (.int .i64 x) := ⟨_, rfl⟩
              rw [← hw7] at B6 K6 G6 ⊢
              clear hw7 c6 f6 hfz
              go_wp2
              go_roundg j
              case rel => exact ⟨rfl, by omega, B6, G6, K6, fun k y' h1 h2 => by
                by_cases e : k = j
                · subst e; rw [HY.out] at h2; cases h2; exact hlt
                · exact HGT.out k y' (by omega) h2⟩
              case measure => omega
          · have hcm : ∃ q, cmpI (rk x) (rk y) = q ∧ decide (q < 0) = false := ⟨_, rfl, by rw [decide_eq_false_iff_not]; exact fun h => hlt (cmpI_lt.1 h)⟩
            obtain ⟨q, hq, tq⟩ := hcm
            rw [hq] at HC
            have hct := cut_eq (rk := rk) (x := x) (A := A) (j := j + 1) (by rw [HAL.out]; omega) HGT.out (fun y' _ h => by
              rw [show j + 1 - 1 = j by omega, HY.out] at h; cases h; exact hlt)
            have HE := Lib.hid (show A.take (j + 1) ++ x :: (A.drop (j + 1) ++ R) = insR rk x A ++ R by unfold insR; rw [hct]; simp)
            have HCUT := Lib.hid (HNX.out _ (show insR rk x A = insR rk x A from rfl))
            rw [HE.out] at hB3
            clear hq hct hlt
            go_wp2_with fail
            refine wp_region_over (by kernel_rfl) (by kernel_rfl) ?_
            repeat (go_big_quiet_step (exact calls_over (HC.out _)))
            refine wpQuiet_nil ?_
            rintro _ ⟨u, rfl⟩
            have hW := below_over wr u
            have hB4 := hB3.later hW
            have hg4 := grown_trans hg3 (grown_below (ob := ob) hW)
            have hK4 := HS.k1 _ _ hK3 hW
            obtain ⟨w4, hw4⟩ : ∃ W, W = over wr u := ⟨_, rfl⟩
            rw [← hw4] at hB4 hg4 hK4 ⊢
            clear hw4 hW hB3 hg3 hK3 dx dy HC cx cy
            go_wp2
            go_roundg gg
            case rel =>
              have hi := HI.out
              refine ⟨i + 1, by go_num, by omega, fun h => by omega, fun h => by omega, hg4, hK4, ?_⟩
              rcases Nat.lt_or_ge (i + 1) n with h | h
              · refine .inr ⟨h, ?_⟩
                rw [← HCUT.out.2]; exact hB4
              · refine .inl ⟨h, ?_⟩
                rw [← HCUT.out.1 h]; exact hB4
            case measure => omega
end Go.Proofs.YtdddkfpcbfgocaaGreat
namespace Go.Proofs.YtdddkfpcbfgocaaGreat
open Go.RowKit Go.Over Go.Zn Go.Can Go.Seg Go.Grow
/-- What a sort of a row gives. -/
def SortAns (rk : Int → Int) (l : List Int) (B : Nat) (v : Value) (K : World → Prop) (w : World) (e : Ending) (w' : World) : Prop :=
  e = .returned (.tuple #[]) ∧ Own w' B v (isort rk l) ∧ w.grownBy w' v.ownBlock ∧ K w'
set_option maxRecDepth 100000 in set_option maxHeartbeats 3200000 in
theorem isort0 (v : Value) (g12 : Nat) (w : World) : Calls Tryz.prog 152 #[v, .int .i64 0, .int .i64 0, .func (.func 57) #[] #[.pointer (some ⟨g12, 0, none⟩)]] w fun e w' => e = .returned (.tuple #[]) ∧ w = w' := by
  go_enter Tryz.func152, Tryz.ntmps152
  go_wp2
  go_loopg [8] 0 (fun gg v8 wr => v8 = .int .i64 1 ∧ gg = 0 ∧ w = wr)
  case atStart => exact ⟨rfl, rfl, rfl⟩
  case round =>
    obtain ⟨rfl, rfl, rfl⟩ := hrel
    go_wp2
    exact bodyPost_end (results_none rfl _ _ _) rfl ⟨rfl, rfl⟩
theorem isorts (rk : Int → Int) (l : List Int) (n B g12 : Nat) (v : Value) (K : World → Prop) (w : World) (hO : Own w B v l) (hn : l.length = n) (hn6 : n ≤ 1000) (hK : K w) (HS : ∀ ob, v.ownBlock = some ob → SK rk l ob g12 K) :
    Calls Tryz.prog 152 #[v, .int .i64 0, .int .i64 n, .func (.func 57) #[] #[.pointer (some ⟨g12, 0, none⟩)]] w (SortAns rk l B v K w) := by
  rcases Nat.eq_zero_or_pos n with h0 | h0
  · subst h0
    obtain rfl := List.eq_nil_of_length_eq_zero hn
    exact (isort0 v g12 w).mono fun e w' ⟨h1, h2⟩ => by subst h2; exact ⟨h1, hO, ⟨rfl, rfl, rfl, Nat.le_refl _, fun _ _ _ => rfl⟩, hK⟩
  · obtain ⟨g, cap, cur, rfl, hg, hB, hnc, hcm, hcl, htk, _⟩ := row_open hO (by omega)
    rw [hn] at htk hnc ⊢
    have hcur : nums l ++ cur.drop n = cur := by rw [← htk, List.take_append_drop]
    rw [← hcur] at hB
    refine (isorted rk l n cap g g12 (cur.drop n) K w hB hn hn6 hK (HS g rfl)).mono fun e w' ⟨h1, h2, h3, h4⟩ => ⟨h1, ?_, h3, h4⟩
    have hil : (isort rk l).length = n := isort_len hn
    unfold Own
    rw [hil]
    exact row_shut hg h2 hnc hcm (by simp [nums, hil, hcl]; omega) (by rw [List.take_append_of_le_length (by simp [nums, hil]), List.take_of_length_le (by simp [nums, hil])])
set_option maxRecDepth 100000 in set_option maxHeartbeats 3200000 in
theorem stable (rk : Int → Int) (l : List Int) (n B g12 : Nat) (v : Value) (K : World → Prop) (w : World) (hO : Own w B v l) (hn : l.length = n) (hn6 : n ≤ 19) (hK : K w) (HS : ∀ ob, v.ownBlock = some ob → SK rk l ob g12 K) :
    Calls Tryz.prog 106 #[v, .int .i64 n, .func (.func 57) #[] #[.pointer (some ⟨g12, 0, none⟩)]] w (SortAns rk l B v K w) := by
  have HC := Lib.hid (isorts rk l n B g12 v K w hO hn (by omega) hK HS)
  clear hO hn hK HS
  go_enter Tryz.func106, Tryz.ntmps106
  go_wp2
  go_loopg [7, 8] 0 (fun gg v7 v8 wr => v7 = .int .i64 0 ∧ v8 = .int .i64 20 ∧ gg = 0 ∧ w = wr)
  case atStart => exact ⟨rfl, rfl, rfl, rfl⟩
  case round =>
    obtain ⟨rfl, rfl, rfl, rfl⟩ := hrel
    go_wp2_with fail
    refine HC.out.mono ?_
    rintro e w2 ⟨rfl, hO, hg, hK⟩
    have HP := Lib.hid (show SortAns rk l B v K w (.returned (.tuple #[])) w2 from ⟨rfl, hO, hg, hK⟩)
    clear hO hg hK HC
    go_wp2
    go_loopg [6] 0 (fun gg v6 wr => v6 = .int .i64 20 ∧ gg = 0 ∧ w2 = wr)
    case atStart => exact ⟨rfl, rfl, rfl⟩
    case round =>
      obtain ⟨rfl, rfl, rfl⟩ := hrel
      go_wp2
      exact bodyPost_end (results_none rfl _ _ _) rfl HP.out
set_option maxRecDepth 100000 in set_option maxHeartbeats 3200000 in
theorem sorts (rk : Int → Int) (l : List Int) (B g12 : Nat) (v : Value) (K : World → Prop) (w : World) (hO : Own w B v l) (hn6 : l.length ≤ 19) (hK : K w) (HS : ∀ ob, v.ownBlock = some ob → SK rk l ob g12 K) :
    Calls Tryz.prog 56 #[v, .func (.func 57) #[] #[.pointer (some ⟨g12, 0, none⟩)]] w (SortAns rk l B v K w) := by
  obtain ⟨n, hn⟩ : ∃ n, l.length = n := ⟨_, rfl⟩
  rw [hn] at hn6
  have HC := Lib.hid (stable rk l n B g12 v K w hO hn hn6 hK HS)
  obtain ⟨a, c, hv, _⟩ := own_form hO
  rw [hn] at hv
  subst hv
  clear hO hK HS hn
  go_enter Tryz.func56, Tryz.ntmps56
  go_wp2_with fail
  refine HC.out.mono ?_
  rintro e w2 ⟨rfl, hO, hg, hK⟩
  have HP := Lib.hid (show SortAns rk l B (.slice a n c) K w (.returned (.tuple #[])) w2 from ⟨rfl, hO, hg, hK⟩)
  clear hO hg hK HC
  go_wp2
  exact bodyPost_end (results_none rfl _ _ _) rfl HP.out
end Go.Proofs.YtdddkfpcbfgocaaGreat
namespace Go.Zn
def suit (zs : List Z) (kernel : Bool) (i : Nat) : Bool := !kernel || decide ((zs.getD i noZ).kd = 0)
def outP (zs : List Z) (kernel : Bool) : Nat → List Int
  | 0 => []
  | n + 1 => if suit zs kernel n then outP zs kernel n ++ [(n : Int)] else outP zs kernel n
def ordP (zs : List Z) (node : Int) (kernel : Bool) : List Int := isort (rkP zs node) (outP zs kernel zs.length)
theorem mem_outP {zs : List Z} {kernel : Bool} {x : Int} : ∀ {n : Nat}, x ∈ outP zs kernel n ↔ ∃ i : Nat, i < n ∧ x = i ∧ suit zs kernel i = true
  | 0 => by
    constructor
    · intro h; simp [outP] at h
    · rintro ⟨i, h, _⟩; omega
  | n + 1 => by
    unfold outP
    split
    · rename_i hs
      rw [List.mem_append, mem_outP (n := n), List.mem_singleton]
      constructor
      · rintro (⟨i, h1, h2⟩ | h)
        · exact ⟨i, by omega, h2⟩
        · exact ⟨n, by omega, h, hs⟩
      · rintro ⟨i, h1, h2, h3⟩
        by_cases e : i = n
        · subst e; exact .inr h2
        · exact .inl ⟨i, by omega, h2, h3⟩
    · rename_i hs
      rw [mem_outP (n := n)]
      constructor
      · rintro ⟨i, h1, h2⟩; exact ⟨i, by omega, h2⟩
      · rintro ⟨i, h1, h2, h3⟩
        by_cases e : i = n
        · subst e; exact absurd h3 hs
        · exact ⟨i, by omega, h2, h3⟩
theorem outP_len {zs : List Z} {kernel : Bool} : ∀ {n : Nat}, (outP zs kernel n).length ≤ n
  | 0 => Nat.le_refl _
  | n + 1 => by
    unfold outP
    split
    · rw [List.length_append]; have := outP_len (zs := zs) (kernel := kernel) (n := n); simp; omega
    · have := outP_len (zs := zs) (kernel := kernel) (n := n); omega
theorem mem_ordP {zs : List Z} {node x : Int} {kernel : Bool} : x ∈ ordP zs node kernel ↔ ∃ i : Nat, i < zs.length ∧ x = i ∧ suit zs kernel i = true := by
  unfold ordP
  rw [mem_isort rfl, mem_outP]
theorem ordP_len {zs : List Z} {node : Int} {kernel : Bool} : (ordP zs node kernel).length ≤ zs.length := by
  unfold ordP
  rw [isort_len rfl]
  exact outP_len
end Go.Zn
namespace Go.Proofs.YtdddkfpcbfgocaaGreat
open Go.RowKit Go.Over Go.Zn Go.Can Go.Seg Go.Grow
theorem KO.of {w : World} {g4 g3 bz n c : Nat} {node : Int} {zc : List Value} {zs : List Z} (h4 : Blk w g4 3 [.int .i64 node]) (h3 : Blk w g3 25 [.slice (some ⟨bz, 0, none⟩) n c]) (q : QV w bz zc zs) : KO w g4 g3 bz n c node zc zs :=
  ⟨h4, h3, q.x, fun i z hz => by have h := q.row i z hz; exact ⟨h.len, h.nd, h.kd, h.st, h.ct, h.mn⟩⟩
def RK (g4 g3 : Nat) : Value := .func (.func 54) #[] #[.pointer (some ⟨g4, 0, none⟩), .pointer (some ⟨g3, 0, none⟩)]
theorem sk_of {g4 g3 g12 bz n c ob : Nat} {node : Int} {kernel : Bool} {zc : List Value} {zs : List Z} (hG : ZG zs) (hn : zs.length = n) (h0 : 0 ≤ node) (h4 : node < 4) (hne : ob ≠ g4) :
    SK (rkP zs node) (outP zs kernel n) ob g12 (fun W => KO W g4 g3 bz n c node zc zs ∧ Blk W g12 112 [RK g4 g3]) :=
  ⟨fun W W' h hb => ⟨h.1.below hb, h.2.later hb⟩, fun W W' cs h hB hg => ⟨h.1.grown hB hne hg, h.2.grown hg (by simpa using hB.ne_type h.2 (by decide))⟩, fun x hx y hy W h => by
    obtain ⟨i, hi, rfl, _⟩ := mem_outP.1 hx
    obtain ⟨j, hj, rfl, _⟩ := mem_outP.1 hy
    exact zcmp g4 g3 g12 bz n c node zc zs i j W h.1 h.2 hG hn hi hj h0 h4⟩
set_option maxRecDepth 100000 in set_option maxHeartbeats 3200000 in
theorem zorder (bz n c : Nat) (zc : List Value) (zs : List Z) (node : Int) (kernel : Bool) (w : World) (H : QV w bz zc zs) (hn : zs.length = n) (hnc : n ≤ c) (hG : ZG zs) (h0 : 0 ≤ node) (h4 : node < 4) :
    Calls Tryz.prog 21 #[.slice (some ⟨bz, 0, none⟩) n c, .int .i64 node, .bool kernel] w fun e w' => ∃ v, e = .returned (.tuple #[v, .int .i64 0]) ∧ Sl w' v (ordP zs node kernel) ∧ Below w.heap.size w w' := by
  have HN := Lib.hid hn; have HG := Lib.hid hG
  have h6 := hG.l6
  rw [hn] at h6
  have hs : (w.alloc (.cells #[.slice (some ⟨bz, 0, none⟩) n c] 25)).heap.size = w.heap.size + 1 := by simp
  have b1 := below_then (below_box w (.cells #[.slice (some ⟨bz, 0, none⟩) n c] 25)) (below_box (w.alloc (.cells #[.slice (some ⟨bz, 0, none⟩) n c] 25)) (.cells #[.int .i64 node] 3))
  have N3 := (Blk.new w 25 #[.slice (some ⟨bz, 0, none⟩) n c] [.slice (some ⟨bz, 0, none⟩) n c] rfl).later (below_box _ (.cells #[.int .i64 node] 3))
  have N4 := Blk.new (w.alloc (.cells #[.slice (some ⟨bz, 0, none⟩) n c] 25)) 3 #[.int .i64 node] [.int .i64 node] rfl
  rw [hs] at N4
  have Q1 := H.below b1
  clear hn hG hs H
  go_enter Tryz.func21, Tryz.ntmps21
  go_upto_region 1 with fail
  obtain ⟨w1, hw1⟩ : ∃ W, W = (w.alloc (.cells #[.slice (some ⟨bz, 0, none⟩) n c] 25)).alloc (.cells #[.int .i64 node] 3) := ⟨_, rfl⟩
  rw [← hw1] at b1 N3 N4 Q1 ⊢
  have hb4 : w.heap.size + 1 < w1.heap.size := N4.lt
  obtain ⟨g4, hg4⟩ : ∃ z, w.heap.size + 1 = z := ⟨_, rfl⟩
  rw [hg4] at N4 hb4 ⊢
  obtain ⟨g3, hg3⟩ : ∃ z, w.heap.size = z := ⟨_, rfl⟩
  rw [show Blk w1 w.heap.size 25 [.slice (some ⟨bz, 0, none⟩) n c] = Blk w1 g3 25 [.slice (some ⟨bz, 0, none⟩) n c] by rw [hg3]] at N3
  rw [hg3]
  have B1 : Below w.heap.size w w1 := b1
  clear hw1 hg4 hg3 b1
  have c3 : w1.cell? ⟨g3, 0, none⟩ = some (.slice (some ⟨bz, 0, none⟩) n c) := by rw [N3.cell]; rfl
  have c4 : w1.cell? ⟨g4, 0, none⟩ = some (.int .i64 node) := by rw [N4.cell]; rfl
  have HC := Lib.hid (zlcheck2 bz n c zc zs node w1 Q1 HN.out HG.out h0 h4)
  go_wp2_with fail
  refine HC.out.mono ?_
  rintro e w2 ⟨rfl, b2⟩
  have O2 : Own w2 w1.heap.size (.slice none 0 0) (outP zs kernel 0) := Own.nil _ _
  clear HC
  have c3 := cell_later b2 c3
  go_wp2
  go_loopg [21, 9] n (fun gg v21 v9 wr => ∃ i : Nat, i + gg = n ∧ v21 = .int .i64 i ∧ Own wr w1.heap.size v9 (outP zs kernel i) ∧ Below w1.heap.size w1 wr)
  case atStart => exact ⟨0, by omega, rfl, O2, b2⟩
  case round =>
    clear O2 b2 c3
    obtain ⟨i, hi, rfl, O3, b3⟩ := hrel
    cases gk with
    | succ gg =>
      have hin : i < n := by omega
      have HI := Lib.hid hi
      obtain ⟨z, hz⟩ := get_some HN.out hin
      have Q3 := Q1.below b3
      have hZ := Q3.row i z hz
      have hr := HG.out.r z (List.mem_of_getElem? hz)
      have r3 := hr.kd
      have h1c := hZ.one
      have hzl := hZ.len
      have hz2 := Blk.new wr 102 #[.int .i64 0, .int .i64 0, .int .i64 0, .int .i64 0, .int .i64 0, .slice none 0 0, .slice none 0 0, .slice none 0 0, .slice none 0 0, .slice none 0 0] zP rfl
      have B2 := below_then b3 (below_box wr (.cells #[.int .i64 0, .int .i64 0, .int .i64 0, .int .i64 0, .int .i64 0, .slice none 0 0, .slice none 0 0, .slice none 0 0, .slice none 0 0, .slice none 0 0] 102))
      have HZV := Lib.hid hZ; have HZ := Lib.hid hz
      have hzd : zs.getD i noZ = z := by rw [List.getD_eq_getElem?_getD, hz]; rfl
      have O2 := O3.later (below_box wr (.cells #[.int .i64 0, .int .i64 0, .int .i64 0, .int .i64 0, .int .i64 0, .slice none 0 0, .slice none 0 0, .slice none 0 0, .slice none 0 0, .slice none 0 0] 102))
      have hsz := b3.size
      clear hi hz hr hZ
      go_upto_region 8 with first | ((with_reducible refine ldq ?_ Q3 HZ.out ?_); (focus rfl)) | ((with_reducible refine stZ (cs := seg zc (i * 10) 10) ?_ ?_ hz2 zP_len hzl h1c ?_); (focus rfl); (focus rfl); intro w4 hB3 hg3)
      have O4 := O2.kept hg3 (.inr (hz2.not_own O2 (by decide)))
      have b14 : Below w1.heap.size w1 w4 := B2.grown hg3 B2.size (fun k hk => by cases hk; exact hsz)
      have B4 := b14
      have ck : w4.cell? ⟨wr.heap.size, 1, none⟩ = some (.int .i64 z.kd) := by rw [hB3.cell]; exact HZV.out.kd
      clear hg3 O2 O3 B2 b3 Q3 hz2 h1c hzl HZV
      cases kernel with
      | false =>
        have HSU := Lib.hid (show suit zs false i = true from rfl)
        clear hzd ck
        have hB8 := Blk.new w4 3 #[.int .i64 i] [.int .i64 i] rfl
        have bN := below_box w4 (.cells #[.int .i64 i] 3)
        have O8 := O4.later bN
        have B8 := below_then B4 bN
        have hb8 := below_then b14 bN
        have hl9 : (outP zs false i).length ≤ 900000 := by have := outP_len (zs := zs) (kernel := false) (n := i); omega
        have HE := Lib.hid (show outP zs false (i + 1) = outP zs false i ++ [(i : Int)] by rw [outP, if_pos HSU.out])
        have hsz := hb8.size
        clear O4 bN hB3
        go_wp2_with ((with_reducible refine wpList_app1 (base := w1.heap.size) (b := w4.heap.size) (x := (i : Int)) ?_ ?_ O8 hB8 hl9 hsz ?_); (focus rfl); (focus rfl); intro v9 w9 O9 hg9)
        rw [← HE.out] at O9
        have b19 : Below w1.heap.size w1 w9 := hb8.grown hg9 hsz (fun k hk => (World.ownsRow.lt O8 k hk).1)
        clear B4 B8 b14 hb8 hg9 O8 hB8
        go_roundg gg
        case rel => exact ⟨i + 1, by have := HI.out; omega, by go_num, O9, b19⟩
        case measure => omega
      | true =>
        rcases r3 with e | e
        · have HSU := Lib.hid (show suit zs true i = true by unfold suit; rw [hzd, e]; rfl)
          rw [e] at ck
          clear hzd e
          have hB8 := Blk.new w4 3 #[.int .i64 i] [.int .i64 i] rfl
          have bN := below_box w4 (.cells #[.int .i64 i] 3)
          have O8 := O4.later bN
          have B8 := below_then B4 bN
          have hb8 := below_then b14 bN
          have hl9 : (outP zs true i).length ≤ 900000 := by have := outP_len (zs := zs) (kernel := true) (n := i); omega
          have HE := Lib.hid (show outP zs true (i + 1) = outP zs true i ++ [(i : Int)] by rw [outP, if_pos HSU.out])
          have hsz := hb8.size
          clear O4 bN hB3
          go_wp2_with ((with_reducible refine wpList_app1 (base := w1.heap.size) (b := w4.heap.size) (x := (i : Int)) ?_ ?_ O8 hB8 hl9 hsz ?_); (focus rfl); (focus rfl); intro v9 w9 O9 hg9)
          rw [← HE.out] at O9
          have b19 : Below w1.heap.size w1 w9 := hb8.grown hg9 hsz (fun k hk => (World.ownsRow.lt O8 k hk).1)
          clear B4 B8 b14 hb8 hg9 O8 hB8
          go_roundg gg
          case rel => exact ⟨i + 1, by have := HI.out; omega, by go_num, O9, b19⟩
          case measure => omega
        · have HE := Lib.hid (show outP zs true (i + 1) = outP zs true i by rw [outP, if_neg (by unfold suit; rw [hzd, e]; decide)])
          rw [e] at ck
          clear hzd e hB3
          go_wp2
          go_roundg gg
          case rel => exact ⟨i + 1, by have := HI.out; omega, by go_num, by rw [HE.out]; exact O4, b14⟩
          case measure => omega
    | zero =>
      obtain rfl : i = n := by omega
      have hin : ¬ i < i := by omega
      have hlen : (outP zs kernel i).length ≤ 19 := by have := outP_len (zs := zs) (kernel := kernel) (n := i); omega
      clear hi
      go_upto_region 12 with fail
      have b5 := below_box wr (.cells #[RK g4 g3] 112)
      have R5 := Blk.new wr 112 #[RK g4 g3] [RK g4 g3] rfl
      have O5 := O3.later b5
      have B5 := below_then b3 b5
      have hst := sorts (rkP zs node) (outP zs kernel i) w1.heap.size wr.heap.size u9 (fun W => KO W g4 g3 bz i c node zc zs ∧ Blk W wr.heap.size 112 [RK g4 g3]) _ O5 hlen ⟨KO.of (N4.later B5) (N3.later B5) (Q1.below B5), R5⟩ (fun ob hob => sk_of HG.out HN.out h0 h4 (by have := (World.ownsRow.lt O5 ob hob).1; omega))
      have HST := Lib.hid hst
      have HO5 := Lib.hid O5; have HB5 := Lib.hid B5
      have HF := Lib.hid (show ordP zs node kernel = isort (rkP zs node) (outP zs kernel i) by unfold ordP; rw [HN.out])
      clear hst O5 B5 R5 b5 O3 b3 N3 N4 c3 c4 hlen
      go_wp2_with fail
      refine HST.out.mono ?_
      rintro e w6 ⟨rfl, O6, hg6, _⟩
      have B6 : Below w.heap.size w w6 := (below_then B1 HB5.out).grown hg6 (below_then B1 HB5.out).size (fun k hk => Nat.le_trans B1.size (World.ownsRow.lt HO5.out k hk).1)
      have HS6 := Lib.hid O6.sl
      clear O6 hg6 HST HO5 HB5
      go_wp2
      go_ret2
      exact ⟨_, rfl, by rw [HF.out]; exact HS6.out, B6⟩
end Go.Proofs.YtdddkfpcbfgocaaGreat
namespace Go.Zn
open Go.Can
section
variable {a : A}
theorem VA.end_le (h : VA a) : ∀ {z y : Nat}, z < y → y < a.zs.length → (zn a z).st + (zn a z).ct ≤ (zn a y).st
  | z, 0, h1, _ => by omega
  | z, y + 1, h1, h2 => by
    have e := h.ss y h2
    by_cases e2 : z = y
    · subst e2; omega
    · have := h.end_le (z := z) (y := y) (by omega) (by omega)
      have := (h.vz y (by omega)).r.ct0
      omega
theorem VA.zdis (h : VA a) {z y : Nat} {x : Int} (hz : z < a.zs.length) (hy : y < a.zs.length) (h1 : inZ (zn a z) x) (h2 : inZ (zn a y) x) : z = y := by
  unfold inZ at h1 h2
  rcases Nat.lt_trichotomy z y with e | e | e
  · have := h.end_le e hy; omega
  · exact e
  · have := h.end_le e hz; omega
theorem VA.inr (h : VA a) {z : Nat} {x : Int} (hz : z < a.zs.length) (h1 : inZ (zn a z) x) : 0 ≤ x ∧ x < 256 := by
  unfold inZ at h1
  have := (h.vz z hz).r.st0; have := (h.vz z hz).r.ct1
  omega
theorem getD_of {α : Type} {l : List α} {i : Nat} {x d : α} (h : l[i]? = some x) : l.getD i d = x := by rw [List.getD_eq_getElem?_getD, h]; rfl
theorem lst_of {c z : Nat} {L : List (List Int)} {l : List Int} (h1 : a.cs[c]? = some L) (h2 : L[z]? = some l) : lst a c z = l := by
  unfold lst
  rw [getD_of h1, getD_of h2]
theorem zn_of {z : Nat} {y : Z} (h : a.zs[z]? = some y) : zn a z = y := getD_of h
theorem lt_of {α : Type} {l : List α} {i : Nat} {x : α} (h : l[i]? = some x) : i < l.length := by rw [List.getElem?_eq_some_iff] at h; exact h.1
theorem VA.cl (h : VA a) {c : Nat} {L : List (List Int)} (hL : a.cs[c]? = some L) : L.length = a.zs.length := by
  have := h.nl c (lt_of hL)
  rw [getD_of hL] at this
  exact this
theorem VA.at_ (h : VA a) {c z : Nat} {L : List (List Int)} {l : List Int} (hL : a.cs[c]? = some L) (hl : L[z]? = some l) : z < a.zs.length ∧ l.length ≤ a.hi ∧ l.Nodup ∧ ∀ x ∈ l, inZ (zn a z) x ∧ ¬ Cov (F (zn a z).fr) x := by
  have hc := lt_of hL
  have hz : z < a.zs.length := by rw [← h.cl hL]; exact lt_of hl
  have e := lst_of hL hl
  exact ⟨hz, by rw [← e]; exact h.le c z hc hz, by rw [← e]; exact h.nd c z hc hz, fun x hx => h.rg c z hc hz x (by rw [e]; exact hx)⟩
theorem mem_flat {L : List (List Int)} {x : Int} : x ∈ L.flatten ↔ ∃ (z : Nat) (l : List Int), L[z]? = some l ∧ x ∈ l := by
  rw [List.mem_flatten]
  constructor
  · rintro ⟨l, h1, h2⟩
    obtain ⟨z, hz⟩ := List.getElem?_of_mem h1
    exact ⟨z, l, hz, h2⟩
  · rintro ⟨z, l, h1, h2⟩
    exact ⟨l, List.mem_of_getElem? h1, h2⟩
/-- Lists of which no two meet, flattened. -/
theorem flat_nodup : ∀ {L : List (List Int)}, (∀ (z : Nat) (l : List Int), L[z]? = some l → l.Nodup) → (∀ (z y : Nat) (l m : List Int) (x : Int), L[z]? = some l → L[y]? = some m → x ∈ l → x ∈ m → z = y) → L.flatten.Nodup
  | [], _, _ => by simp
  | l :: r, h1, h2 => by
    rw [List.flatten_cons, List.nodup_append]
    refine ⟨h1 0 l rfl, flat_nodup (fun z m hz => h1 (z + 1) m hz) (fun z y m k x hz hy a b => by have := h2 (z + 1) (y + 1) m k x hz hy a b; omega), fun x hx y hy e => ?_⟩
    subst e
    obtain ⟨z, m, hz, hm⟩ := mem_flat.1 hy
    have := h2 0 (z + 1) l m x rfl hz hx hm
    omega
theorem VA.vc (h : VA a) {c : Nat} {L : List (List Int)} (hL : a.cs[c]? = some L) : VC L := by
  refine ⟨by rw [h.cl hL]; exact h.z1, by rw [h.cl hL]; exact h.z6, flat_nodup (fun z l hl => (h.at_ hL hl).2.2.1) (fun z y l m x hl hm hx hy => ?_), fun x hx => ?_⟩
  · obtain ⟨q1, _, _, q2⟩ := h.at_ hL hl
    obtain ⟨p1, _, _, p2⟩ := h.at_ hL hm
    exact h.zdis q1 p1 (q2 x hx).1 (p2 x hy).1
  · obtain ⟨z, l, hl, hxl⟩ := mem_flat.1 hx
    obtain ⟨q1, _, _, q2⟩ := h.at_ hL hl
    exact h.inr q1 (q2 x hxl).1
/-- The frames of all caches. -/
def allF (a : A) : List (List Int) := a.cs.map List.flatten
theorem allF_at {c : Nat} {L : List (List Int)} (h : a.cs[c]? = some L) : (allF a)[c]? = some L.flatten := by simp [allF, h]
theorem allF_inv {c : Nat} {m : List Int} (h : (allF a)[c]? = some m) : ∃ L, a.cs[c]? = some L ∧ m = L.flatten := by
  unfold allF at h
  rw [List.getElem?_map] at h
  cases hc : a.cs[c]? with
  | none => rw [hc] at h; cases h
  | some L => rw [hc] at h; exact ⟨L, rfl, (Option.some.inj h).symm⟩
theorem VA.all_nodup (h : VA a) : (allF a).flatten.Nodup := by
  refine flat_nodup (fun c m hm => ?_) (fun c d m k x hm hk hx hy => ?_)
  · obtain ⟨L, hL, rfl⟩ := allF_inv hm
    exact (h.vc hL).nd
  · obtain ⟨L, hL, rfl⟩ := allF_inv hm
    obtain ⟨M, hM, rfl⟩ := allF_inv hk
    obtain ⟨z, l, hl, hxl⟩ := mem_flat.1 hx
    obtain ⟨y, m, hm, hxm⟩ := mem_flat.1 hy
    obtain ⟨q1, _, _, q2⟩ := h.at_ hL hl
    obtain ⟨p1, _, _, p2⟩ := h.at_ hM hm
    obtain rfl := h.zdis q1 p1 (q2 x hxl).1 (p2 x hxm).1
    by_cases e : c = d
    · exact e
    · exact absurd (by rw [lst_of hM hm]; exact hxm) (h.ap c d z (lt_of hL) (lt_of hM) q1 e x (by rw [lst_of hL hl]; exact hxl))
/-- What the check has seen. -/
theorem VA.seen (h : VA a) {c z j : Nat} {L : List (List Int)} {l : List Int} {x : Int} (hL : a.cs[c]? = some L) (hl : L[z]? = some l) (hx : l[j]? = some x) :
    x ∉ ((allF a).take c).flatten ++ ((L.take z).flatten ++ l.take j) ∧ (((allF a).take c).flatten ++ ((L.take z).flatten ++ l.take j)).length < 256 := by
  obtain ⟨r, hr⟩ := flat_at hl hx
  obtain ⟨k, hk⟩ : ∃ k, ((L.take z).flatten ++ l.take j).length = k := ⟨_, rfl⟩
  have e1 : L.flatten[k]? = some x := by rw [hr, List.getElem?_append_right (by omega), hk, Nat.sub_self]; rfl
  have e2 : L.flatten.take k = (L.take z).flatten ++ l.take j := by rw [hr, List.take_append_of_le_length (by omega), List.take_of_length_le (by omega)]
  obtain ⟨s, hs⟩ := flat_at (allF_at hL) e1
  rw [e2] at hs
  have hn := h.all_nodup
  have hl2 : (allF a).flatten.length ≤ 256 := by
    have := nodup_len hn (cov_nodup (n := 256) (f := 0)) fun y hy => mem_cov.2 (by
      obtain ⟨d, m, hm, hym⟩ := mem_flat.1 hy
      obtain ⟨M, hM, rfl⟩ := allF_inv hm
      have := (h.vc hM).rg y hym
      omega)
    rw [cov_len] at this
    exact this
  rw [hs] at hn hl2
  refine ⟨fun hm => ?_, by rw [List.length_append] at hl2; simp only [List.length_cons] at hl2; omega⟩
  rw [List.nodup_append] at hn
  exact hn.2.2 x hm x (by simp) rfl
theorem all_take {c : Nat} {L : List (List Int)} (hL : a.cs[c]? = some L) : ((allF a).take (c + 1)).flatten = ((allF a).take c).flatten ++ L.flatten := flat_take (allF_at hL)
/-- The zone of a frame. -/
def zoneI : List Z → Int → Nat → Int
  | [], _, _ => -1
  | z :: r, x, i => if z.st ≤ x ∧ x < z.st + z.ct then (i : Int) else zoneI r x (i + 1)
theorem zoneI_in {x : Int} : ∀ {zs : List Z} {i k : Nat} {z : Z}, zs[k]? = some z → inZ z x → (∀ j y, j < k → zs[j]? = some y → ¬ inZ y x) → zoneI zs x i = ((i + k : Nat) : Int)
  | [], _, _, _, h, _, _ => by simp at h
  | y :: r, i, 0, z, h, h1, _ => by
    simp at h
    subst h
    unfold zoneI
    rw [if_pos (show y.st ≤ x ∧ x < y.st + y.ct from h1)]
    simp
  | y :: r, i, k + 1, z, h, h1, h2 => by
    unfold zoneI
    rw [if_neg (show ¬ (y.st ≤ x ∧ x < y.st + y.ct) from h2 0 y (by omega) rfl)]
    rw [zoneI_in (zs := r) (i := i + 1) (k := k) (z := z) (by simpa using h) h1 (fun j y' hj hy => h2 (j + 1) y' (by omega) (by simpa using hy))]
    congr 1
    omega
theorem zoneI_out {x : Int} : ∀ {zs : List Z} {i : Nat}, (∀ y ∈ zs, ¬ inZ y x) → zoneI zs x i = -1
  | [], _, _ => rfl
  | y :: r, i, h => by
    unfold zoneI
    rw [if_neg (show ¬ (y.st ≤ x ∧ x < y.st + y.ct) from h y (by simp)), zoneI_out fun y' hy => h y' (by simp [hy])]
theorem VA.zoneI (h : VA a) {z : Nat} {x : Int} (hz : z < a.zs.length) (hx : inZ (zn a z) x) : zoneI a.zs x 0 = z := by
  have e : a.zs[z]? = some (zn a z) := by unfold zn; rw [List.getD_eq_getElem?_getD, List.getElem?_eq_getElem hz]; rfl
  have := zoneI_in (i := 0) e hx (fun j y hj hy hc => by
    have := h.zdis (z := j) (y := z) (by omega) hz (by rw [zn_of hy]; exact hc) hx
    omega)
  rw [this]
  simp
theorem zoneI_no {x : Int} (h : ∀ z, z < a.zs.length → ¬ inZ (zn a z) x) : Zn.zoneI a.zs x 0 = -1 := by
  refine zoneI_out fun y hy => ?_
  obtain ⟨i, hi⟩ := List.getElem?_of_mem hy
  have := h i (lt_of hi)
  rw [zn_of hi] at this
  exact this
theorem zoneI_cases (h : VA a) (x : Int) : (∃ z, z < a.zs.length ∧ inZ (zn a z) x ∧ Zn.zoneI a.zs x 0 = z) ∨ ((∀ z, z < a.zs.length → ¬ inZ (zn a z) x) ∧ Zn.zoneI a.zs x 0 = -1) := by
  by_cases hc : ∃ z, z < a.zs.length ∧ inZ (zn a z) x
  · obtain ⟨z, h1, h2⟩ := hc
    exact .inl ⟨z, h1, h2, h.zoneI h1 h2⟩
  · have : ∀ z, z < a.zs.length → ¬ inZ (zn a z) x := fun z h1 h2 => hc ⟨z, h1, h2⟩
    exact .inr ⟨this, zoneI_no this⟩
/-- How many frames of a zone are free. -/
def sumC (cs : List (List (List Int))) (z : Nat) : Nat := (cs.flatMap fun L => L.getD z []).length
def cntA (a : A) (z : Nat) : Nat := cntN (zn a z).fr 5 + sumC a.cs z
theorem sumC_take {cs : List (List (List Int))} {z c : Nat} {L : List (List Int)} (h : cs[c]? = some L) : sumC (cs.take (c + 1)) z = sumC (cs.take c) z + (L.getD z []).length := by
  unfold sumC
  rw [List.take_add_one, h]
  simp
theorem cnt_fr (h : VA a) {z : Nat} (hz : z < a.zs.length) : cntA a z = nS (Fr a z) (zn a z).st (zn a z).ct.toNat := by
  unfold cntA sumC
  rw [← covN_len, ← List.length_append]
  have hmem : ∀ x, x ∈ (a.cs.flatMap fun L => L.getD z []) ↔ Ca a z x := fun x => by
    rw [List.mem_flatMap]
    constructor
    · rintro ⟨L, hL, hx⟩
      obtain ⟨c, hc⟩ := List.getElem?_of_mem hL
      exact ⟨c, lt_of hc, by unfold lst; rw [getD_of hc]; exact hx⟩
    · rintro ⟨c, hc, hx⟩
      have e : a.cs[c]? = some (a.cs.getD c []) := by rw [List.getD_eq_getElem?_getD, List.getElem?_eq_getElem hc]; rfl
      exact ⟨_, List.mem_of_getElem? e, hx⟩
  refine nS_of ?_ (fun x => ?_) (fun x hx => ?_)
  · rw [List.nodup_append]
    refine ⟨covN_nodup (h.vz z hz).l (Nat.le_refl _), ?_, fun x hx y hy e => ?_⟩
    · have : (a.cs.flatMap fun L => L.getD z []) = (a.cs.map fun L => L.getD z []).flatten := by rw [List.flatMap_def]
      rw [this]
      refine flat_nodup (fun c l hl => ?_) (fun c d l m x hl hm hx hy => ?_)
      · rw [List.getElem?_map] at hl
        cases hc : a.cs[c]? with
        | none => rw [hc] at hl; cases hl
        | some L =>
          rw [hc] at hl
          simp only [Option.map_some, Option.some.injEq] at hl
          have := h.nd c z (lt_of hc) hz
          unfold lst at this
          rw [getD_of hc, hl] at this
          exact this
      · rw [List.getElem?_map] at hl hm
        cases hc : a.cs[c]? with
        | none => rw [hc] at hl; cases hl
        | some L =>
          cases hd : a.cs[d]? with
          | none => rw [hd] at hm; cases hm
          | some M =>
            rw [hc] at hl
            rw [hd] at hm
            simp only [Option.map_some, Option.some.injEq] at hl hm
            by_cases e : c = d
            · exact e
            · have := h.ap c d z (lt_of hc) (lt_of hd) hz e x (by unfold lst; rw [getD_of hc, hl]; exact hx)
              unfold lst at this
              rw [getD_of hd, hm] at this
              exact absurd hy this
    · subst e
      obtain ⟨c, hc, hx2⟩ := (hmem x).1 hy
      exact (h.rg c z hc hz x hx2).2 (mem_cov5.1 hx)
  · rw [List.mem_append, mem_cov5, hmem]
    exact Iff.rfl
  · have := h.fr_in hz hx
    have := (h.vz z hz).r.ct0
    unfold inZ at *
    omega
theorem cntA_le (h : VA a) {z : Nat} (hz : z < a.zs.length) : cntA a z ≤ 256 := by
  rw [cnt_fr h hz]
  have h1 : nS (Fr a z) (zn a z).st (zn a z).ct.toNat ≤ (zn a z).ct.toNat := by
    unfold nS
    have := nodup_len (l := cset (Fr a z) (zn a z).st (zn a z).ct.toNat) (m := cov (zn a z).st (zn a z).ct.toNat) cset_nodup cov_nodup fun x hx => mem_cov.2 (mem_cset.1 hx).1
    rw [cov_len] at this
    exact this
  have := (h.vz z hz).r.ct1; have := (h.vz z hz).r.st0
  omega
end
end Go.Zn
namespace Go.Proofs.YtdddkfpcbfgocaaGreat
open Go.RowKit Go.Over Go.Zn Go.Can Go.Seg Go.Grow
/-- Caches in a block. -/
structure CV (w : World) (b : Nat) (cc : List Value) (cs : List (List (List Int))) : Prop where
  x : Blk w b 93 cc
  n : cs.length ≤ cc.length
  row : ∀ (c : Nat) (L : List (List Int)), cs[c]? = some L → ∃ v, cc[c]? = some v ∧ Lc w v L
theorem CV.below {w w' : World} {b : Nat} {cc : List Value} {cs : List (List (List Int))} (h : CV w b cc cs) (hb : Below w.heap.size w w') : CV w' b cc cs :=
  ⟨h.x.later hb, h.n, fun c L hL => by obtain ⟨v, h1, h2⟩ := h.row c L hL; exact ⟨v, h1, h2.below hb⟩⟩
/-- Where an allocator lies. -/
structure Sh where
  an : Option Addr
  nn : Nat
  cn : Nat
  bz : Nat
  nz : Nat
  cz : Nat
  bc : Nat
  nc : Nat
  cc : Nat
def Sh.cells (s : Sh) (bt hi : Nat) : List Value := [.slice s.an s.nn s.cn, .int .i64 bt, .int .i64 hi, .slice (some ⟨s.bz, 0, none⟩) s.nz s.cz, .slice (some ⟨s.bc, 0, none⟩) s.nc s.cc]
structure AW (w : World) (s : Sh) (zc ccs : List Value) (a : A) : Prop where
  en : a.nodes.length = s.nn
  ez : a.zs.length = s.nz
  ec : a.cs.length = s.nc
  nd : Sl w (.slice s.an s.nn s.cn) a.nodes
  q : QV w s.bz zc a.zs
  zl : s.nz ≤ s.cz
  zm : s.cz ≤ maxLen
  c : CV w s.bc ccs a.cs
  cl : s.nc ≤ s.cc
  cm : s.cc ≤ maxLen
theorem AW.below {w w' : World} {s : Sh} {zc ccs : List Value} {a : A} (h : AW w s zc ccs a) (hb : Below w.heap.size w w') : AW w' s zc ccs a :=
  ⟨h.en, h.ez, h.ec, h.nd.below hb, h.q.below hb, h.zl, h.zm, h.c.below hb, h.cl, h.cm⟩
/-- The value of an allocator. -/
def Ra (w : World) (v : Value) (a : A) : Prop := ∃ s zc ccs, v = .agg (s.cells a.bt a.hi).toArray ∧ AW w s zc ccs a
theorem Ra.below {w w' : World} {v : Value} {a : A} (h : Ra w v a) (hb : Below w.heap.size w w') : Ra w' v a := by
  obtain ⟨s, zc, ccs, h1, h2⟩ := h
  exact ⟨s, zc, ccs, h1, h2.below hb⟩
/-- A variable that holds an allocator, in a call that makes new memory alone. -/
structure AX (w : World) (g : Nat) (s : Sh) (zc ccs : List Value) (a : A) (W : World) : Prop where
  b : Below w.heap.size w W
  l : w.heap.size ≤ g
  x : Blk W g 28 (s.cells a.bt a.hi)
  v : AW W s zc ccs a
section
variable {w W W' : World} {g : Nat} {s : Sh} {zc ccs : List Value} {a : A}
theorem AX.below (h : AX w g s zc ccs a W) (hb : Below W.heap.size W W') : AX w g s zc ccs a W' := ⟨below_then h.b hb, h.l, h.x.later hb, h.v.below hb⟩
theorem AX.ra (h : AX w g s zc ccs a W) : Ra W (.agg (s.cells a.bt a.hi).toArray) a := ⟨s, zc, ccs, rfl, h.v⟩
theorem AX.c0 (h : AX w g s zc ccs a W) : W.cell? ⟨g, 0, none⟩ = some (.slice s.an s.nn s.cn) := by rw [h.x.cell]; rfl
theorem AX.c1 (h : AX w g s zc ccs a W) : W.cell? ⟨g, 1, none⟩ = some (.int .i64 a.bt) := by rw [h.x.cell]; rfl
theorem AX.c2 (h : AX w g s zc ccs a W) : W.cell? ⟨g, 2, none⟩ = some (.int .i64 a.hi) := by rw [h.x.cell]; rfl
theorem AX.c3 (h : AX w g s zc ccs a W) : W.cell? ⟨g, 3, none⟩ = some (.slice (some ⟨s.bz, 0, none⟩) s.nz s.cz) := by rw [h.x.cell]; rfl
theorem AX.c4 (h : AX w g s zc ccs a W) : W.cell? ⟨g, 4, none⟩ = some (.slice (some ⟨s.bc, 0, none⟩) s.nc s.cc) := by rw [h.x.cell]; rfl
theorem CV.past {b : Nat} {cc : List Value} {cs : List (List (List Int))} (h : CV W b cc cs) (hx : Blk W' b 93 cc) (hk : ∀ b bs, Blk W b 3 bs → Blk W' b 3 bs) (hi : ∀ b bs, Blk W b 24 bs → Blk W' b 24 bs) : CV W' b cc cs :=
  ⟨hx, h.n, fun c L hL => by
    obtain ⟨v, h1, b', c', bs, h2, h3, h4, h5⟩ := h.row c L hL
    exact ⟨v, h1, b', c', bs, h2, h3, h4, hi b' bs h5.x, h5.n, fun i l hl => by obtain ⟨u, q1, q2⟩ := h5.row i l hl; exact ⟨u, q1, q2.past hk⟩⟩⟩
theorem QV.past {b : Nat} {zc : List Value} {zs : List Z} (h : QV W b zc zs) (hx : Blk W' b 102 zc) (hk : ∀ b bs, Blk W b 3 bs → Blk W' b 3 bs) : QV W' b zc zs :=
  ⟨hx, h.n, fun i z hz => (h.row i z hz).past hk⟩
theorem AW.past (h : AW W s zc ccs a) (hx : Blk W' s.bz 102 zc) (hc : Blk W' s.bc 93 ccs) (hk : ∀ b bs, Blk W b 3 bs → Blk W' b 3 bs) (hi : ∀ b bs, Blk W b 24 bs → Blk W' b 24 bs) : AW W' s zc ccs a :=
  ⟨h.en, h.ez, h.ec, h.nd.past hk, h.q.past hx hk, h.zl, h.zm, h.c.past hc hk hi, h.cl, h.cm⟩
/-- A block that is new changes. -/
theorem AX.kept {t : Nat} {bs : List Value} (h0 : AX w g s zc ccs a W) (hg : (W.alloc (.cells bs.toArray t)).grownBy W' (some W.heap.size)) : AX w g s zc ccs a W' := by
  have b1 := below_box W (.cells bs.toArray t)
  have hb : Below W.heap.size W W' := b1.grown hg b1.size (fun k hk => by cases hk; exact Nat.le_refl _)
  exact h0.below hb
theorem AX.new (h : AW w s zc ccs a) : AX w w.heap.size s zc ccs a (w.alloc (.cells (s.cells a.bt a.hi).toArray 28)) := ⟨below_box _ _, Nat.le_refl _, Blk.new _ _ _ _ rfl, h.below (below_box _ _)⟩
end
theorem infoA : (Tryz.prog.info? 28).map (·.size) = some 5 := by kernel_rfl
section
variable {ops : Array Oper} {rest : List Oper} {d i : Nat} {ty : TypeId} {pos : String} {af : Array Edge} {a : Act} {w : World} {Q : Exit → Act → World → Prop} {g bt hi : Nat} {s : Sh}
/-- An allocator is loaded whole. -/
theorem lda (hx : a.eval (.tmp i) = .pointer (some ⟨g, 0, none⟩)) (hB : Blk w g 28 (s.cells bt hi)) (h : wpList Tryz.prog ops Q rest (a.put (some d) (.agg (s.cells bt hi).toArray)) w) :
    wpList Tryz.prog ops Q ({ dst := some d, op := .load 28 (.tmp i), type := ty, pos := pos, after := af, guard := none } :: rest) a w :=
  wpList_load_row rfl 28 (.tmp i) rfl g hx 28 (s.cells bt hi).toArray (0, 0) _ hB Tryz.underlying28 rfl (by rw [infoA]; rfl) h
end
set_option maxRecDepth 100000 in set_option maxHeartbeats 3200000 in
theorem inzone (v : Value) (z : Z) (x : Int) (g : Nat) (w : World) (H : Rz w v z) (hr : Rng z) (hx : Blk w g 3 [.int .i64 x]) : Calls Tryz.prog 88 #[v, .pointer (some ⟨g, 0, none⟩)] w fun e w' => e = .returned (.bool (decide (z.st ≤ x ∧ x < z.st + z.ct))) ∧ Below w.heap.size w w' := by
  obtain ⟨cs, rfl, hV⟩ := H
  have X0 := ZX.new hV
  have cx := (hx.later (below_box w (.cells cs.toArray 102))).cell 0
  have r1 := hr.st0; have r2 := hr.ct0; have r3 := hr.ct1
  simp only [List.getElem?_cons_zero] at cx
  clear hV hr hx
  go_enter Tryz.func88, Tryz.ntmps88
  go_upto_region 1 with fail
  obtain ⟨w1, hw1⟩ : ∃ W, W = w.alloc (.cells cs.toArray 102) := ⟨_, rfl⟩
  rw [← hw1] at X0 cx ⊢
  obtain ⟨g2, hg0⟩ : ∃ g, w.heap.size = g := ⟨_, rfl⟩
  have q2 := X0.v.c2 X0.x
  have q3 := X0.v.c3 X0.x
  have hb := X0.b
  rw [hg0] at q2 q3 ⊢
  clear hw1 X0 hg0
  by_cases h1 : z.st ≤ x
  · have t1 : decide (z.st ≤ x) = true := decide_eq_true h1
    go_wp2
    go_ret
    refine ⟨ret_bool ?_, hb⟩
    rw [Bool.eq_iff_iff]
    simp [h1]
  · have t1 : decide (z.st ≤ x) = false := decide_eq_false h1
    go_wp2
    go_ret
    refine ⟨ret_bool ?_, hb⟩
    rw [Bool.eq_iff_iff]
theorem zoneI_drop {zs : List Z} {x : Int} {i : Nat} {z : Z} (h : zs[i]? = some z) : zoneI (zs.drop i) x i = if z.st ≤ x ∧ x < z.st + z.ct then (i : Int) else zoneI (zs.drop (i + 1)) x (i + 1) := by
  rw [drop_get h]
  rfl
set_option maxRecDepth 100000 in set_option maxHeartbeats 3200000 in
theorem idxZ (bz n c : Nat) (zc : List Value) (zs : List Z) (x : Int) (g : Nat) (w : World) (H : QV w bz zc zs) (hn : zs.length = n) (hn6 : n ≤ 6) (hr : ∀ z ∈ zs, Rng z) (hx : Blk w g 3 [.int .i64 x]) :
    Calls Tryz.prog 87 #[.slice (some ⟨bz, 0, none⟩) n c, .func (.func 88) #[] #[.pointer (some ⟨g, 0, none⟩)]] w fun e w' => e = .returned (.int .i64 (zoneI zs x 0)) ∧ Below w.heap.size w w' := by
  have HN := Lib.hid hn; have HR := Lib.hid hr; have HX := Lib.hid hx; have HQ := Lib.hid H
  have H0 := Lib.hid (show zoneI zs x 0 = zoneI (zs.drop 0) x 0 from rfl)
  clear hn hr hx H
  go_enter Tryz.func87, Tryz.ntmps87
  go_wp2
  go_loopg [8] n (fun gg v8 wr => ∃ i : Nat, i + gg = n ∧ v8 = .int .i64 i ∧ Below w.heap.size w wr ∧ zoneI zs x 0 = zoneI (zs.drop i) x i)
  case atStart => exact ⟨0, by omega, rfl, Below.refl _ _, rfl⟩
  case round =>
    clear H0
    obtain ⟨i, hi, rfl, B1, hz0⟩ := hrel
    have HZ0 := Lib.hid hz0
    clear hz0
    cases gk with
    | zero =>
      have hin : ¬ i < n := by omega
      have HE := Lib.hid (show zoneI zs x 0 = -1 by rw [HZ0.out, List.drop_eq_nil_of_le (by rw [HN.out]; omega)]; rfl)
      clear hi
      go_wp2
      go_ret
      exact ⟨ret_int (by rw [HE.out]), B1⟩
    | succ gg =>
      have hin : i < n := by omega
      have HI := Lib.hid hi
      obtain ⟨z, hz⟩ := get_some HN.out hin
      have Q1 := HQ.out.below B1
      have hC := inzone (.agg (seg zc (i * 10) 10).toArray) z x g wr ⟨_, rfl, Q1.row i z hz⟩ (HR.out z (List.mem_of_getElem? hz)) (HX.out.later B1)
      obtain ⟨b, hb⟩ : ∃ b, decide (z.st ≤ x ∧ x < z.st + z.ct) = b := ⟨_, rfl⟩
      have hd := zoneI_drop (x := x) hz
      rw [hb] at hC
      have HC := Lib.hid hC; have HZ := Lib.hid hz; have HB := Lib.hid hb; have HD := Lib.hid hd
      clear hi hz hC hb hd
      go_wp2_with ((with_reducible refine ldq ?_ Q1 HZ.out ?_); (focus rfl))
      refine HC.out.mono ?_
      rintro e w2 ⟨rfl, b2⟩
      have B2 := below_then B1 b2
      clear Q1 B1 b2
      cases b with
      | true =>
        have HE := Lib.hid (show zoneI zs x 0 = (i : Int) by rw [HZ0.out, HD.out, if_pos (of_decide_eq_true HB.out)])
        go_wp2
        go_ret
        exact ⟨ret_int (by rw [HE.out]), B2⟩
      | false =>
        have HE := Lib.hid (show zoneI zs x 0 = zoneI (zs.drop (i + 1)) x (i + 1) by rw [HZ0.out, HD.out, if_neg (of_decide_eq_false HB.out)])
        go_wp2
        go_roundg gg
        case rel => exact ⟨i + 1, by have := HI.out; omega, by go_num, B2, HE.out⟩
        case measure => omega
set_option maxRecDepth 100000 in set_option maxHeartbeats 3200000 in
theorem nodeok (x : Int) (w : World) (h0 : 0 ≤ x) (h4 : x < 4) : Calls Tryz.prog 99 #[.int .i64 x] w fun e w' => e = .returned (.bool false) ∧ w = w' := by
  go_enter Tryz.func99, Tryz.ntmps99
  go_wp2
  go_ret
  exact ⟨ret_bool (by simp; omega), rfl⟩
set_option maxRecDepth 100000 in set_option maxHeartbeats 3200000 in
theorem idxN (v : Value) (l : List Int) (w : World) (H : Sl w v l) (hl : l.length ≤ 4) (hr : ∀ x ∈ l, 0 ≤ x ∧ x < 4) : Calls Tryz.prog 147 #[v, .func (.func 99) #[] #[]] w fun e w' => e = .returned (.int .i64 (-1)) ∧ w = w' := by
  obtain ⟨a, c, rfl, h1, h2, h3, hI⟩ := H
  obtain ⟨n, hn⟩ : ∃ n, l.length = n := ⟨_, rfl⟩
  rw [hn] at h1 hl ⊢
  have HN := Lib.hid hn; have HR := Lib.hid hr
  clear hn hr h1 h2 h3
  go_enter Tryz.func147, Tryz.ntmps147
  go_wp2
  go_loopg [8] n (fun gg v8 wr => ∃ i : Nat, i + gg = n ∧ v8 = .int .i64 i ∧ w = wr)
  case atStart => exact ⟨0, by omega, rfl, rfl⟩
  case round =>
    obtain ⟨i, hi, rfl, rfl⟩ := hrel
    cases gk with
    | zero =>
      have hin : ¬ i < n := by omega
      clear hi
      go_wp2
      go_ret
      exact ⟨rfl, rfl⟩
    | succ gg =>
      have hin : i < n := by omega
      have HI := Lib.hid hi
      obtain ⟨x, hx⟩ := get_some HN.out hin
      obtain ⟨q1, q2⟩ := HR.out x (List.mem_of_getElem? hx)
      obtain ⟨b, off, rfl, cx⟩ := hI.at hx
      clear hi hx
      go_wp2_with fail
      refine (nodeok x w q1 q2).mono ?_
      rintro e w2 ⟨rfl, rfl⟩
      go_wp2
      go_roundg gg
      case rel => exact ⟨i + 1, by have := HI.out; omega, by go_num, rfl⟩
      case measure => omega
set_option maxRecDepth 100000 in set_option maxHeartbeats 3200000 in
theorem anyN (v : Value) (l : List Int) (w : World) (H : Sl w v l) (hl : l.length ≤ 4) (hr : ∀ x ∈ l, 0 ≤ x ∧ x < 4) : Calls Tryz.prog 98 #[v, .func (.func 99) #[] #[]] w fun e w' => e = .returned (.bool false) ∧ w = w' := by
  have HC := Lib.hid (idxN v l w H hl hr)
  clear H hl hr
  go_enter Tryz.func98, Tryz.ntmps98
  go_wp2_with fail
  refine HC.out.mono ?_
  rintro e w2 ⟨rfl, rfl⟩
  go_wp2
  go_ret
  exact ⟨rfl, rfl⟩
/-- The parameters of a machine, and as many zones as there may be. -/
structure MG (a : A) : Prop where
  n0 : 1 ≤ a.nodes.length
  n4 : a.nodes.length ≤ 4
  nr : ∀ x ∈ a.nodes, 0 ≤ x ∧ x < 4
  b1 : 1 ≤ a.bt
  bh : a.bt ≤ a.hi
  h64 : a.hi ≤ 64
  z1 : 1 ≤ a.zs.length
  z6 : a.zs.length ≤ 6
theorem _root_.Go.Zn.VA.mg {a : A} (h : VA a) : MG a := ⟨h.n0, h.n4, h.nr, h.b1, h.bh, h.h64, h.z1, h.z6⟩
set_option maxRecDepth 100000 in set_option maxHeartbeats 3200000 in
theorem machineOk (vn : Value) (nodes : List Int) (bt hi : Nat) (bz nz cz : Nat) (v4 : Value) (w : World) (hn : Sl w vn nodes) (n0 : 1 ≤ nodes.length) (n4 : nodes.length ≤ 4) (nr : ∀ x ∈ nodes, 0 ≤ x ∧ x < 4) (b1 : 1 ≤ bt) (bh : bt ≤ hi) (h64 : hi ≤ 64) (z1 : 1 ≤ nz) (z6 : nz ≤ 6) :
    Calls Tryz.prog 44 #[.agg #[vn, .int .i64 bt, .int .i64 hi, .slice (some ⟨bz, 0, none⟩) nz cz, v4]] w fun e w' => e = .returned (.bool true) ∧ Below w.heap.size w w' := by
  obtain ⟨an, cn, rfl, _⟩ := id hn
  obtain ⟨nn, hnn⟩ : ∃ n, nodes.length = n := ⟨_, rfl⟩
  rw [hnn] at hn n0 ⊢
  have b1' := below_box w (.cells #[.slice an nn cn, .int .i64 bt, .int .i64 hi, .slice (some ⟨bz, 0, none⟩) nz cz, v4] 28)
  have hB := Blk.new w 28 #[.slice an nn cn, .int .i64 bt, .int .i64 hi, .slice (some ⟨bz, 0, none⟩) nz cz, v4] _ rfl
  have HC := Lib.hid (anyN (.slice an nn cn) nodes _ (hn.below b1') n4 nr)
  rw [hnn] at n4
  clear hn nr hnn
  go_enter Tryz.func44, Tryz.ntmps44
  go_upto_region 1 with fail
  obtain ⟨w1, hw1⟩ : ∃ W, W = w.alloc (.cells #[.slice an nn cn, .int .i64 bt, .int .i64 hi, .slice (some ⟨bz, 0, none⟩) nz cz, v4] 28) := ⟨_, rfl⟩
  rw [← hw1] at b1' hB HC ⊢
  obtain ⟨g, hg0⟩ : ∃ g, w.heap.size = g := ⟨_, rfl⟩
  rw [hg0] at hB ⊢
  have c0 := hB.cell 0; have c1 := hB.cell 1; have c2 := hB.cell 2; have c3 := hB.cell 3
  simp only [List.getElem?_cons_zero, List.getElem?_cons_succ] at c0 c1 c2 c3
  clear hw1 hg0 hB
  have t1 : decide (nn < 1) = false := by simp; omega
  have t2 : decide (4 < nn) = false := by simp; omega
  have t3 : decide ((64 : Int) < (hi : Int)) = false := by simp; omega
  have t4 : decide ((bt : Int) < 1) = false := by simp; omega
  have t5 : decide ((hi : Int) < (bt : Int)) = false := by simp; omega
  have t6 : decide ((nz : Int) < 1) = false := by simp; omega
  have t7 : decide ((6 : Int) < (nz : Int)) = false := by simp; omega
  have t8 : decide ((nn : Int) < 1) = false := by simp; omega
  have t9 : decide ((4 : Int) < (nn : Int)) = false := by simp; omega
  clear t1 t2
  go_wp2_with fail
  refine HC.out.mono ?_
  rintro e w2 ⟨rfl, rfl⟩
  go_wp2
  go_ret
  exact ⟨rfl, b1'⟩
end Go.Proofs.YtdddkfpcbfgocaaGreat
