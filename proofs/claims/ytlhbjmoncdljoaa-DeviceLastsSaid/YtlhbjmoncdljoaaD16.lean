/- Rows of a call's own: an entry is stored, taken out, put in; three cells of a completion. -/
import Derived.Test.YtlhbjmoncdljoaaD14
import Derived.Test.YtlhbjmoncdljoaaI2
namespace Go.Dev
theorem aq_lt : ∀ {l : List Rq} {p : Int}, AscQ p l → ∀ c ∈ l, p < c.1
  | [], _, _, _, h => by simp at h
  | x :: r, p, ha, c, h => by
    rcases List.mem_cons.1 h with rfl | h
    · exact ha.1
    · have := aq_lt ha.2 c h
      have := ha.1
      omega
theorem aq_mono : ∀ {l : List Rq} {p p' : Int}, AscQ p l → p' ≤ p → AscQ p' l
  | [], _, _, _, _ => trivial
  | x :: r, p, p', h, hp => ⟨by have := h.1; omega, h.2⟩
theorem aq_erase : ∀ {l : List Rq} {p : Int} (i : Nat), AscQ p l → AscQ p (l.eraseIdx i)
  | [], _, _, _ => by simp [AscQ]
  | x :: r, p, 0, h => by simpa using aq_mono h.2 (by have := h.1; omega)
  | x :: r, p, i + 1, h => by simpa [AscQ] using ⟨h.1, aq_erase i h.2⟩
theorem ok_erase {d : D} (h : Ok d) (i : Nat) : Ok ⟨d.dp, d.nx, d.bl, d.ca, d.qu.eraseIdx i⟩ :=
  ⟨h.d1, h.d2, h.n1, h.n2, h.b1, h.b2, h.bl, h.asc, h.cb, h.cd, by have := h.q1; simp only [List.length_eraseIdx]; split <;> omega, aq_erase i h.aq, fun q hq => h.qu q (List.mem_of_mem_eraseIdx hq)⟩
end Go.Dev
namespace Go.Proofs.Ytlhbjmoncdljoaa
open Go.RowKit Go.Over Go.Dev Go.Seg Go.Grow
section
variable {α β : Type} {R : β → α → Prop}
theorem All2.set : ∀ {xs : List β} {l : List α} {x : β} {s : α} (i : Nat), All2 R xs l → R x s → All2 R (xs.set i x) (l.set i s)
  | [], [], _, _, _, _, _ => by simp [All2]
  | _ :: _, _ :: _, _, _, 0, h, hr => ⟨hr, h.2⟩
  | _ :: _, _ :: _, _, _, i + 1, h, hr => ⟨h.1, All2.set i h.2 hr⟩
  | [], _ :: _, _, _, _, h, _ => h.elim
  | _ :: _, [], _, _, _, h, _ => h.elim
theorem All2.erase : ∀ {xs : List β} {l : List α} (i : Nat), All2 R xs l → All2 R (xs.eraseIdx i) (l.eraseIdx i)
  | [], [], _, _ => by simp [All2]
  | _ :: _, _ :: _, 0, h => h.2
  | _ :: _, _ :: _, i + 1, h => ⟨h.1, All2.erase i h.2⟩
  | [], _ :: _, _, h => h.elim
  | _ :: _, [], _, h => h.elim
end
theorem flat_set1 : ∀ {xs : List (List Value)} {i : Nat} {a : Value}, (∀ x ∈ xs, x.length = 1) → i < xs.length → xs.flatten.set i a = (xs.set i [a]).flatten
  | [], _, _, _, h => by simp at h
  | [b] :: xs, 0, a, _, _ => by simp
  | [b] :: xs, i + 1, a, h, hi => by
    have ih := flat_set1 (xs := xs) (i := i) (a := a) (fun x hx => h x (by simp [hx])) (by simpa using hi)
    simp [ih]
  | [] :: xs, _, _, h, _ => by have := h [] (by simp); simp at this
  | (b :: c :: r) :: xs, _, _, h, _ => by have := h (b :: c :: r) (by simp); simp at this
theorem flat_set2 : ∀ {xs : List (List Value)} {i : Nat} {a b : Value}, (∀ x ∈ xs, x.length = 2) → i < xs.length → (xs.flatten.set (i * 2) a).set (i * 2 + 1) b = (xs.set i [a, b]).flatten
  | [], _, _, _, _, h => by simp at h
  | [c, d] :: xs, 0, a, b, _, _ => by simp
  | [c, d] :: xs, i + 1, a, b, h, hi => by
    have ih := flat_set2 (xs := xs) (i := i) (a := a) (b := b) (fun x hx => h x (by simp [hx])) (by simpa using hi)
    rw [show (i + 1) * 2 = i * 2 + 1 + 1 by omega]
    simp [ih]
  | [] :: xs, _, _, _, h, _ => by have := h [] (by simp); simp at this
  | [c] :: xs, _, _, _, h, _ => by have := h [c] (by simp); simp at this
  | (c :: d :: e :: r) :: xs, _, _, _, h, _ => by have := h (c :: d :: e :: r) (by simp); simp at this
theorem set_take {L xs : List Value} {m i : Nat} {a : Value} (h : L.take m = xs) : (L.set i a).take m = xs.set i a := by
  rw [List.take_set, h]
section
variable {α : Type} {e size B : Nat} {R : World → List Value → α → Prop} {w : World} {V : Value} {l : List α}
theorem own_open {n : Nat} {xs : List Value} (h : w.ownsRow B e size V n xs) (hn : 0 < n) :
    ∃ g cap cur, V = .slice (some ⟨g, 0, none⟩) n cap ∧ B ≤ g ∧ Blk w g e cur ∧ n ≤ cap ∧ cap ≤ maxLen ∧ cur.length = cap * size ∧ cur.take (n * size) = xs ∧ xs.length = n * size := by
  rcases h.2 with ⟨_, rfl⟩ | ⟨g, cap, cur, rfl, h1, h2, h3, h4, h5, h6⟩
  · omega
  · exact ⟨g, cap, cur.toList, rfl, h1, by unfold Blk; simpa using h2, h3, h4, by simpa using h5, h6, h.1⟩
theorem own_shut {n g cap : Nat} {cur xs : List Value} (hg : B ≤ g) (hb : Blk w g e cur) (hn : n ≤ cap) (hc : cap ≤ maxLen) (hl : cur.length = cap * size) (ht : cur.take (n * size) = xs) : w.ownsRow B e size (.slice (some ⟨g, 0, none⟩) n cap) n xs := by
  refine ⟨by rw [← ht, List.length_take, hl]; exact Nat.min_eq_left (Nat.mul_le_mul_right _ hn), .inr ⟨g, cap, cur.toArray, rfl, hg, hb, hn, hc, by simpa using hl, by simpa using ht⟩⟩
/-- The block of a row, and what it is to store an entry there. -/
theorem Row.store1 {R : World → List Value → α → Prop} (E : Ent 1 R) (h : Row e 1 R w B V l) (he : e ≠ 5) {i : Nat} (hi : i < l.length) {u : Value} {s : α} (hr : R w [u] s) :
    ∃ g c cur, V = .slice (some ⟨g, 0, none⟩) l.length c ∧ B ≤ g ∧ Blk w g e cur ∧ i < cur.length ∧ Row e 1 R (w.setCell ⟨g, i, none⟩ u) B V (l.set i s) := by
  obtain ⟨xs, ho, ha⟩ := h
  obtain ⟨g, cap, cur, rfl, hg, hB, h1, h2, h3, h4, h5⟩ := own_open ho (by omega)
  have hk : K5 w (w.setCell ⟨g, i, none⟩ u) := K5.set hB he i u
  have hlen := ha.all (p := fun x => x.length = 1) (fun x s hr => E.len _ _ _ hr)
  refine ⟨g, cap, cur, rfl, hg, hB, by rw [h3]; omega, xs.set i [u], ?_, ?_⟩
  · rw [List.length_set, ← flat_set1 hlen (by rw [ha.length]; exact hi)]
    exact own_shut hg (hB.set i u) h1 h2 (by rw [List.length_set]; exact h3) (set_take h4)
  · exact All2.set i (ha.mono fun x s h => E.k5 _ _ _ _ hk h) (E.k5 _ _ _ _ hk hr)
theorem Row.store2 {R : World → List Value → α → Prop} (E : Ent 2 R) (h : Row e 2 R w B V l) (he : e ≠ 5) {i : Nat} (hi : i < l.length) {u v : Value} {s : α} (hr : R w [u, v] s) :
    ∃ g c cur, V = .slice (some ⟨g, 0, none⟩) l.length c ∧ B ≤ g ∧ Blk w g e cur ∧ i * 2 + 1 < cur.length ∧ Row e 2 R ((w.setCell ⟨g, i * 2, none⟩ u).setCell ⟨g, i * 2 + 1, none⟩ v) B V (l.set i s) := by
  obtain ⟨xs, ho, ha⟩ := h
  obtain ⟨g, cap, cur, rfl, hg, hB, h1, h2, h3, h4, h5⟩ := own_open ho (by omega)
  have hk : K5 w ((w.setCell ⟨g, i * 2, none⟩ u).setCell ⟨g, i * 2 + 1, none⟩ v) := (K5.set hB he (i * 2) u).trans (K5.set (hB.set (i * 2) u) he (i * 2 + 1) v)
  have hlen := ha.all (p := fun x => x.length = 2) (fun x s hr => E.len _ _ _ hr)
  refine ⟨g, cap, cur, rfl, hg, hB, by rw [h3]; omega, xs.set i [u, v], ?_, ?_⟩
  · rw [List.length_set, ← flat_set2 hlen (by rw [ha.length]; exact hi)]
    refine own_shut hg ((hB.set (i * 2) u).set (i * 2 + 1) v) h1 h2 (by rw [List.length_set, List.length_set]; exact h3) (set_take (set_take h4))
  · exact All2.set i (ha.mono fun x s h => E.k5 _ _ _ _ hk h) (E.k5 _ _ _ _ hk hr)
/-- Cells in a row's own block are changed: other rows, other blocks. -/
theorem Row.ownEq (h : Row e size R w B V l) (h0 : 0 < l.length) : ∃ g c, V = .slice (some ⟨g, 0, none⟩) l.length c ∧ V.ownBlock = some g := by
  obtain ⟨xs, ho, ha⟩ := h
  obtain ⟨g, c, rfl, _⟩ := own_pos ho h0
  exact ⟨g, c, rfl, rfl⟩
end
theorem erase_flat : ∀ {xs : List (List Value)} {size i : Nat}, (∀ x ∈ xs, x.length = size) → xs.flatten.take (i * size) ++ xs.flatten.drop ((i + 1) * size) = (xs.eraseIdx i).flatten := by
  intro xs size i h
  rw [flat_take i h, flat_drop (i + 1) h, List.eraseIdx_eq_take_drop_succ, List.flatten_append]
/-- A request is taken out of a queue. -/
theorem Row.del {w w' : World} {B : Nat} {V : Value} {l : List Rq} {xs : List (List Value)} {i : Nat} {e : Ending} (ho : w.ownsRow B 39 4 V l.length xs.flatten) (ha : All2 (RQ w) xs l) (hi : i < l.length) (h : DelAns w B V l.length (xs.flatten.take (i * 4) ++ xs.flatten.drop ((i + 1) * 4)) e w') :
    ∃ V', e = .returned V' ∧ Row 39 4 RQ w' B V' (l.eraseIdx i) ∧ w.grownBy w' V.ownBlock ∧ V'.ownBlock = V.ownBlock := by
  obtain ⟨V', he, h1, h2, h3⟩ := h
  have hk := K5.grown h2 ho (by decide)
  refine ⟨V', he, ⟨xs.eraseIdx i, ?_, All2.erase i (ha.mono fun x s h => EQ.k5 _ _ _ _ hk h)⟩, h2, h3⟩
  rw [erase_flat (ha.all (p := fun x => x.length = 4) (fun x s hr => EQ.len _ _ _ hr))] at h1
  rw [List.length_eraseIdx, if_pos hi]
  exact h1
/-- A cached block is put in. -/
theorem Row.ins {w w' : World} {B : Nat} {V x1 x2 : Value} {l : List Ca} {xs : List (List Value)} {i : Nat} {e : Ending} {c : Ca} (ho : w.ownsRow B 64 2 V l.length xs.flatten) (ha : All2 (RC w) xs l) (hi : i ≤ l.length) (hr : RC w [x1, x2] c) (h : InsAns w B V l.length (xs.flatten.take (i * 2) ++ [x1, x2] ++ xs.flatten.drop (i * 2)) e w') :
    ∃ V', e = .returned V' ∧ Row 64 2 RC w' B V' (l.take i ++ [c] ++ l.drop i) ∧ w.grownBy w' V.ownBlock ∧ (∀ k, V'.ownBlock = some k → V.ownBlock = some k ∨ w.heap.size ≤ k) := by
  obtain ⟨V', he, h1, h2, h3⟩ := h
  have hk := K5.grown h2 ho (by decide)
  have hlen := ha.all (p := fun x => x.length = 2) (fun x s hr => EC.len _ _ _ hr)
  have ha' := ha.mono (R' := RC w') fun x s h => EC.k5 _ _ _ _ hk h
  refine ⟨V', he, ⟨xs.take i ++ [[x1, x2]] ++ xs.drop i, ?_, All2.append (All2.append (All2.take i ha') ⟨EC.k5 _ _ _ _ hk hr, trivial⟩) (All2.drop i ha')⟩, h2, h3⟩
  rw [flat_take i hlen, flat_drop i hlen] at h1
  have e1 : (l.take i ++ [c] ++ l.drop i).length = l.length + 1 := by simp; omega
  rw [e1]
  simpa using h1
theorem Row.ones {α : Type} {size : Nat} {R : World → List Value → α → Prop} {w : World} {l : List α} (E : Ent size R) {xs : List (List Value)} (ha : All2 (R w) xs l) : ∀ u ∈ xs.flatten, u.oneCell' = true := by
  intro u hu
  obtain ⟨x, hx, hux⟩ := List.mem_flatten.1 hu
  exact ha.all (p := fun x => ∀ u ∈ x, u.oneCell' = true) (fun x s hr => E.one _ _ _ hr) x hx u hux
/-- A request as a value. -/
def OwnQ (w : World) (v : Value) (q : Rq) : Prop := ∃ sv, v = .agg #[.int .i64 q.1, .int .i64 q.2.1, .int .i64 q.2.2.1, sv] ∧ SlV w sv q.2.2.2
def zQ : List Value := [.int .i64 0, .int .i64 0, .int .i64 0, .slice none 0 0]
/-- The cell of the argument and those of the results. -/
structure Three (w0 : World) (A R Q : List Value) (W : World) : Prop where
  t : Two w0 A R W
  q : Blk W (w0.heap.size + 1 + 1) 39 Q
section
variable {w0 : World} {A R Q : List Value} {W W' : World}
theorem Three.below (h : Three w0 A R Q W) (hb : Below W.heap.size W W') : Three w0 A R Q W' := ⟨h.t.below hb, h.q.later hb⟩
theorem Three.far (h : Three w0 A R Q W) {g : Nat} (hg : w0.heap.size + 1 + 1 < g) (i : Nat) (u : Value) : Three w0 A R Q (W.setCell ⟨g, i, none⟩ u) := ⟨h.t.far (by omega) i u, h.q.far (by show w0.heap.size + 1 + 1 ≠ g; omega) u⟩
theorem Three.grown {U : Value} {base e size m : Nat} {xs : List Value} (h : Three w0 A R Q W) (hg : W.grownBy W' U.ownBlock) (ho : W.ownsRow base e size U m xs) (hb : w0.heap.size + 1 + 1 < base) : Three w0 A R Q W' :=
  ⟨h.t.grown hg ho (by omega), h.q.grown hg (fun he => by have := (World.ownsRow.lt ho _ he).1; omega)⟩
theorem three_start (w : World) (A : List Value) (cs : Array Value) (hcs : cs = A.toArray) : Three w A zD zQ (((w.alloc (.cells cs 26)).alloc (.cells #[.int .i64 0, .int .i64 0, .slice none 0 0, .slice none 0 0, .slice none 0 0] 26)).alloc (.cells #[.int .i64 0, .int .i64 0, .int .i64 0, .slice none 0 0] 39)) := by
  refine ⟨(two_start w A cs hcs).below (below_box _ _), ?_⟩
  have := Blk.new ((w.alloc (.cells cs 26)).alloc (.cells #[.int .i64 0, .int .i64 0, .slice none 0 0, .slice none 0 0, .slice none 0 0] 26)) 39 #[.int .i64 0, .int .i64 0, .int .i64 0, .slice none 0 0] zQ rfl
  simpa using this
end
/-- What a call that makes a device and a request gives. -/
def DevAns3 (p : D × Rq × Int) (w : World) (e : Ending) (w' : World) : Prop := ∃ v vq, e = .returned (.tuple #[v, vq, .int .i64 p.2.2]) ∧ OwnD w' w.heap.size v p.1 ∧ OwnQ w' vq p.2.1 ∧ Below w.heap.size w w'
theorem OwnQ.zero (w : World) : OwnQ w (.agg #[.int .i64 0, .int .i64 0, .int .i64 0, .slice none 0 0]) zq := ⟨_, rfl, SlV.nil _⟩
/-- Nine cells are written: the results. -/
def put9 (W : World) (g g' : Nat) (x1 x2 x3 x4 x5 y1 y2 y3 y4 : Value) : World :=
  ((((((((W.setCell ⟨g, 0, none⟩ x1).setCell ⟨g, 1, none⟩ x2).setCell ⟨g, 2, none⟩ x3).setCell ⟨g, 3, none⟩ x4).setCell ⟨g, 4, none⟩ x5).setCell ⟨g', 0, none⟩ y1).setCell ⟨g', 1, none⟩ y2).setCell ⟨g', 2, none⟩ y3).setCell ⟨g', 3, none⟩ y4
theorem far4 {W : World} {g g' t : Nat} {cs : List Value} (h : Blk W g t cs) (hne : g ≠ g') (y1 y2 y3 y4 : Value) : Blk ((((W.setCell ⟨g', 0, none⟩ y1).setCell ⟨g', 1, none⟩ y2).setCell ⟨g', 2, none⟩ y3).setCell ⟨g', 3, none⟩ y4) g t cs :=
  (((h.far hne y1).far hne y2).far hne y3).far hne y4
theorem set4 {W : World} {g : Nat} {z1 z2 z3 z4 : Value} (h : Blk W g 39 [z1, z2, z3, z4]) (y1 y2 y3 y4 : Value) : Blk ((((W.setCell ⟨g, 0, none⟩ y1).setCell ⟨g, 1, none⟩ y2).setCell ⟨g, 2, none⟩ y3).setCell ⟨g, 3, none⟩ y4) g 39 [y1, y2, y3, y4] :=
  (((h.set 0 y1).set 1 y2).set 2 y3).set 3 y4
theorem Rows3.far4 {W : World} {B : Nat} {VB VC VQ : Value} {bl : List (List Int)} {ca : List Ca} {qu : List Rq} (h : Rows3 W B VB VC VQ bl ca qu) {g : Nat} {z1 z2 z3 z4 : Value} (hg : Blk W g 39 [z1, z2, z3, z4]) (hB : g < B) (y1 y2 y3 y4 : Value) : Rows3 ((((W.setCell ⟨g, 0, none⟩ y1).setCell ⟨g, 1, none⟩ y2).setCell ⟨g, 2, none⟩ y3).setCell ⟨g, 3, none⟩ y4) B VB VC VQ bl ca qu :=
  (((h.far hg (by decide) hB 0 y1).far (hg.set 0 y1) (by decide) hB 1 y2).far ((hg.set 0 y1).set 1 y2) (by decide) hB 2 y3).far (((hg.set 0 y1).set 1 y2).set 2 y3) (by decide) hB 3 y4
theorem Rows3.dev5 {W : World} {B : Nat} {VB VC VQ : Value} {bl : List (List Int)} {ca : List Ca} {qu : List Rq} (h : Rows3 W B VB VC VQ bl ca qu) {g : Nat} {y1 y2 y3 y4 y5 : Value} (hg : Blk W g 26 [y1, y2, y3, y4, y5]) (x1 x2 x3 x4 x5 : Value) : Rows3 (((((W.setCell ⟨g, 0, none⟩ x1).setCell ⟨g, 1, none⟩ x2).setCell ⟨g, 2, none⟩ x3).setCell ⟨g, 3, none⟩ x4).setCell ⟨g, 4, none⟩ x5) B VB VC VQ bl ca qu :=
  ⟨far5 EB h.b hg (by decide) .., far5 EC h.c hg (by decide) .., far5 EQ h.q hg (by decide) ..⟩
theorem SlV.q4 {W : World} {v : Value} {s : List Int} (h : SlV W v s) {g : Nat} {z1 z2 z3 z4 : Value} (hg : Blk W g 39 [z1, z2, z3, z4]) (y1 y2 y3 y4 : Value) : SlV ((((W.setCell ⟨g, 0, none⟩ y1).setCell ⟨g, 1, none⟩ y2).setCell ⟨g, 2, none⟩ y3).setCell ⟨g, 3, none⟩ y4) v s :=
  (((h.k5 (K5.set hg (by decide) 0 _)).k5 (K5.set (hg.set 0 _) (by decide) 1 _)).k5 (K5.set ((hg.set 0 _).set 1 _) (by decide) 2 _)).k5 (K5.set (((hg.set 0 _).set 1 _).set 2 _) (by decide) 3 _)
/-- What a completion hands back, once its results are written. -/
theorem compl_ans {w W : World} {A : List Value} {B : Nat} {VB VC VQ sv : Value} {d : D} {q : Rq} (T : Three w A zD zQ W) (R3 : Rows3 W B VB VC VQ d.bl d.ca d.qu) (hv : SlV W sv q.2.2.2) (hB : w.heap.size + 1 + 1 < B) :
    OwnD (put9 W (w.heap.size + 1) (w.heap.size + 1 + 1) (.int .i64 d.dp) (.int .i64 d.nx) VB VC VQ (.int .i64 q.1) (.int .i64 q.2.1) (.int .i64 q.2.2.1) sv) w.heap.size (.agg #[.int .i64 d.dp, .int .i64 d.nx, VB, VC, VQ]) d ∧
    OwnQ (put9 W (w.heap.size + 1) (w.heap.size + 1 + 1) (.int .i64 d.dp) (.int .i64 d.nx) VB VC VQ (.int .i64 q.1) (.int .i64 q.2.1) (.int .i64 q.2.2.1) sv) (.agg #[.int .i64 q.1, .int .i64 q.2.1, .int .i64 q.2.2.1, sv]) q ∧
    Below w.heap.size w (put9 W (w.heap.size + 1) (w.heap.size + 1 + 1) (.int .i64 d.dp) (.int .i64 d.nx) VB VC VQ (.int .i64 q.1) (.int .i64 q.2.1) (.int .i64 q.2.2.1) sv) ∧
    Blk (put9 W (w.heap.size + 1) (w.heap.size + 1 + 1) (.int .i64 d.dp) (.int .i64 d.nx) VB VC VQ (.int .i64 q.1) (.int .i64 q.2.1) (.int .i64 q.2.2.1) sv) (w.heap.size + 1) 26 [.int .i64 d.dp, .int .i64 d.nx, VB, VC, VQ] ∧
    Blk (put9 W (w.heap.size + 1) (w.heap.size + 1 + 1) (.int .i64 d.dp) (.int .i64 d.nx) VB VC VQ (.int .i64 q.1) (.int .i64 q.2.1) (.int .i64 q.2.2.1) sv) (w.heap.size + 1 + 1) 39 [.int .i64 q.1, .int .i64 q.2.1, .int .i64 q.2.2.1, sv] := by
  have hq := far5B T.q (show w.heap.size + 1 + 1 ≠ w.heap.size + 1 by omega) (.int .i64 d.dp) (.int .i64 d.nx) VB VC VQ
  have r1 := (R3.dev5 T.t.r (.int .i64 d.dp) (.int .i64 d.nx) VB VC VQ).far4 hq hB (.int .i64 q.1) (.int .i64 q.2.1) (.int .i64 q.2.2.1) sv
  have v1 := (hv.k5 (k5_5 T.t.r (.int .i64 d.dp) (.int .i64 d.nx) VB VC VQ)).q4 hq (.int .i64 q.1) (.int .i64 q.2.1) (.int .i64 q.2.2.1) sv
  have b1 := below5 T.t.b (show w.heap.size ≤ w.heap.size + 1 by omega) (.int .i64 d.dp) (.int .i64 d.nx) VB VC VQ
  refine ⟨((r1.weaken (by omega)).own _ _), ⟨sv, rfl, v1⟩, (((b1.setCell (by show w.heap.size ≤ w.heap.size + 1 + 1; omega) _).setCell (by show w.heap.size ≤ w.heap.size + 1 + 1; omega) _).setCell (by show w.heap.size ≤ w.heap.size + 1 + 1; omega) _).setCell (by show w.heap.size ≤ w.heap.size + 1 + 1; omega) _, far4 (set5 T.t.r _ _ _ _ _) (by omega) _ _ _ _, set4 hq _ _ _ _⟩
end Go.Proofs.Ytlhbjmoncdljoaa
