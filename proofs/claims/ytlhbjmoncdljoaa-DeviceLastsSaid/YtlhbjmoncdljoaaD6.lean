/- Devices in rows of a call's own; the copies of bytes. -/
import Derived.Test.YtlhbjmoncdljoaaD5
import Derived.Test.YtlhbjmoncdljoaaRows2
namespace Go.Proofs.Ytlhbjmoncdljoaa
open Go.RowKit Go.Over Go.Dev Go.Seg Go.Grow
theorem K31 : Kind Try.prog 31 5 1 1 := Kind.mk' (z := .int .u8 0) Try.underlying31 (by kernel_rfl) rfl (by decide) (by decide)
theorem K22 : Kind Try.prog 22 31 1 24 := Kind.mk' (z := .slice none 0 0) Try.underlying22 (by kernel_rfl) rfl (by decide) (by decide)
theorem K23 : Kind Try.prog 23 64 2 32 := Kind.mk' (z := .agg #[.int .i64 0, .slice none 0 0]) Try.underlying23 (by kernel_rfl) rfl (by decide) (by decide)
theorem K24 : Kind Try.prog 24 39 4 48 := Kind.mk' (z := .agg #[.int .i64 0, .int .i64 0, .int .i64 0, .slice none 0 0]) Try.underlying24 (by kernel_rfl) rfl (by decide) (by decide)
/-- Bytes in blocks of bytes are as they were. -/
def K5 (w w' : World) : Prop := ∀ (g : Nat) (cs : Array Value), w.heap[g]? = some (Obj.cells cs 5 (0, 0)) → w'.heap[g]? = some (Obj.cells cs 5 (0, 0))
section
variable {w w' w2 : World}
theorem lt_of_heap {g : Nat} {o : Obj} (h : w.heap[g]? = some o) : g < w.heap.size := by
  rcases Nat.lt_or_ge g w.heap.size with hlt | hge
  · exact hlt
  · rw [Array.getElem?_eq_none hge] at h; cases h
theorem K5.refl (w : World) : K5 w w := fun _ _ h => h
theorem K5.trans (h : K5 w w') (h' : K5 w' w2) : K5 w w2 := fun g cs hg => h' g cs (h g cs hg)
theorem K5.below (hb : Below w.heap.size w w') : K5 w w' := fun g cs hg => by rw [hb.block g (lt_of_heap hg), hg]
theorem K5.grown {V : Value} {base e size n : Nat} {xs : List Value} (hg : w.grownBy w' V.ownBlock) (ho : w.ownsRow base e size V n xs) (he : e ≠ 5) : K5 w w' := fun g cs h => by
  have hB : Blk w g 5 cs.toList := by unfold Blk; rw [h]
  have := hB.grown hg (hB.not_own ho he)
  unfold Blk at this
  simpa using this
theorem K5.set {g t : Nat} {cs : List Value} (h : Blk w g t cs) (ht : t ≠ 5) (i : Nat) (u : Value) : K5 w (w.setCell ⟨g, i, none⟩ u) := fun g' cs' hg => by
  have hB : Blk w g' 5 cs'.toList := by unfold Blk; rw [hg]
  have := hB.far (p := ⟨g, i, none⟩) (hB.ne_type h (Ne.symm ht)) u
  unfold Blk at this
  simpa using this
/-- A slice of bytes in a block of bytes. -/
def SlV (w : World) (v : Value) (l : List Int) : Prop := ∃ a c, v = .slice a l.length c ∧ l.length ≤ c ∧ c ≤ maxLen ∧ (a = none → c = 0) ∧ (0 < l.length → ∃ (g : Nat) (cs : Array Value), a = some ⟨g, 0, none⟩ ∧ w.heap[g]? = some (Obj.cells cs 5 (0, 0)) ∧ ∀ i, i < l.length → cs[i]? = some (.int .u8 (l.getD i 0)))
theorem SlV.k5 {v : Value} {l : List Int} (h : SlV w v l) (hk : K5 w w') : SlV w' v l := by
  obtain ⟨a, c, h1, h2, h3, h4, h5⟩ := h
  refine ⟨a, c, h1, h2, h3, h4, fun h0 => ?_⟩
  obtain ⟨g, cs, ha, hg, hc⟩ := h5 h0
  exact ⟨g, cs, ha, hk g cs hg, hc⟩
theorem SlV.form {v : Value} {l : List Int} (h : SlV w v l) {n : Nat} (hn : l.length = n) : ∃ a c, v = .slice a n c ∧ n ≤ c ∧ c ≤ maxLen ∧ (a = none → c = 0) ∧ Bt w a l := by
  subst hn
  obtain ⟨a, c, h1, h2, h3, h4, h5⟩ := h
  refine ⟨a, c, h1, h2, h3, h4, fun h0 => ?_⟩
  obtain ⟨g, cs, ha, hg, hc⟩ := h5 h0
  refine ⟨g, 0, ha, fun i hi => ?_⟩
  simp [World.cell?, hg, hc i hi]
theorem SlV.at {v : Value} {l : List Int} (h : SlV w v l) {b o : Nat} (hc : w.cell? ⟨b, o, none⟩ = some v) : SlAt w b o l := by
  obtain ⟨a, c, rfl, h2, h3, h4, h5⟩ := h.form rfl
  exact ⟨a, c, hc, h2, h3, h4, h5⟩
theorem SlV.nil (w : World) : SlV w (.slice none 0 0) [] := ⟨none, 0, rfl, Nat.le_refl _, Nat.zero_le _, fun _ => rfl, fun h => absurd h (by simp)⟩
theorem SlV.own {v : Value} {l : List Int} {B n : Nat} (h : w.ownsRow B 5 1 v n (l.map (Value.int .u8))) (hn : l.length = n) : SlV w v l := by
  subst hn
  rcases h.2 with ⟨h0, h1⟩ | ⟨g, cap, cur, rfl, h1, h2, h3, h4, h5, h6⟩
  · have : l = [] := List.eq_nil_of_length_eq_zero h1
    subst this
    rw [h0]
    exact SlV.nil w
  · refine ⟨_, cap, rfl, h3, h4, (fun h => by cases h), fun h0 => ⟨g, cur, rfl, h2, fun i hi => ?_⟩⟩
    have e := congrArg (fun x => x[i]?) h6
    simp only [List.getElem?_take, List.getElem?_map, Array.getElem?_toList] at e
    rw [if_pos (by omega), List.getElem?_eq_getElem hi] at e
    rw [e, List.getD_eq_getElem?_getD, List.getElem?_eq_getElem hi]
    rfl
theorem SlV.one {v : Value} {l : List Int} (h : SlV w v l) : v.oneCell' = true := by
  obtain ⟨a, c, rfl, _⟩ := h
  rfl
end
/-- Two lists, entry by entry. -/
def All2 {α β : Type} (R : β → α → Prop) : List β → List α → Prop
  | [], [] => True
  | x :: xs, s :: ss => R x s ∧ All2 R xs ss
  | _, _ => False
section
variable {α β : Type} {R R' : β → α → Prop}
theorem All2.length : ∀ {xs : List β} {l : List α}, All2 R xs l → xs.length = l.length
  | [], [], _ => rfl
  | _ :: _, _ :: _, h => by simp [All2.length h.2]
  | [], _ :: _, h => h.elim
  | _ :: _, [], h => h.elim
theorem All2.mono (hR : ∀ x s, R x s → R' x s) : ∀ {xs : List β} {l : List α}, All2 R xs l → All2 R' xs l
  | [], [], _ => trivial
  | _ :: _, _ :: _, h => ⟨hR _ _ h.1, All2.mono hR h.2⟩
  | [], _ :: _, h => h.elim
  | _ :: _, [], h => h.elim
theorem All2.get : ∀ {xs : List β} {l : List α} {i : Nat} {s : α}, All2 R xs l → l[i]? = some s → ∃ x, xs[i]? = some x ∧ R x s
  | x :: _, s :: _, 0, t, h, hs => by simp at hs; subst hs; exact ⟨x, rfl, h.1⟩
  | _ :: xs, _ :: l, i + 1, t, h, hs => by
    obtain ⟨x, hx, hr⟩ := All2.get (xs := xs) (l := l) (i := i) h.2 (by simpa using hs)
    exact ⟨x, by simpa using hx, hr⟩
  | [], [], _, _, _, hs => by simp at hs
  | [], _ :: _, _, _, h, _ => h.elim
  | _ :: _, [], _, _, h, _ => h.elim
theorem All2.append : ∀ {xs ys : List β} {l k : List α}, All2 R xs l → All2 R ys k → All2 R (xs ++ ys) (l ++ k)
  | [], _, [], _, _, h => h
  | _ :: _, _, _ :: _, _, h, h' => ⟨h.1, All2.append h.2 h'⟩
  | [], _, _ :: _, _, h, _ => h.elim
  | _ :: _, _, [], _, h, _ => h.elim
theorem All2.take : ∀ {xs : List β} {l : List α} (i : Nat), All2 R xs l → All2 R (xs.take i) (l.take i)
  | [], [], i, _ => by simp [All2]
  | _ :: _, _ :: _, 0, _ => trivial
  | _ :: _, _ :: _, i + 1, h => ⟨h.1, All2.take i h.2⟩
  | [], _ :: _, _, h => h.elim
  | _ :: _, [], _, h => h.elim
theorem All2.drop : ∀ {xs : List β} {l : List α} (i : Nat), All2 R xs l → All2 R (xs.drop i) (l.drop i)
  | [], [], i, _ => by simp [All2]
  | _ :: _, _ :: _, 0, h => h
  | _ :: _, _ :: _, i + 1, h => All2.drop i h.2
  | [], _ :: _, _, h => h.elim
  | _ :: _, [], _, h => h.elim
theorem All2.all {p : β → Prop} (hp : ∀ x s, R x s → p x) : ∀ {xs : List β} {l : List α}, All2 R xs l → ∀ x ∈ xs, p x
  | [], [], _, x, h => by simp at h
  | y :: ys, _ :: _, h, x, hx => by
    rcases List.mem_cons.1 hx with rfl | hx
    · exact hp _ _ h.1
    · exact All2.all hp h.2 x hx
  | [], _ :: _, h, _, _ => h.elim
  | _ :: _, [], h, _, _ => h.elim
end
section
variable {size : Nat}
theorem flat_len : ∀ {xs : List (List Value)}, (∀ x ∈ xs, x.length = size) → xs.flatten.length = xs.length * size
  | [], _ => by simp
  | x :: xs, h => by
    rw [List.flatten_cons, List.length_append, h x (by simp), flat_len (xs := xs) (fun y hy => h y (by simp [hy])), List.length_cons, Nat.add_mul]
    omega
theorem flat_get : ∀ {xs : List (List Value)} {i j : Nat} {x : List Value}, (∀ x ∈ xs, x.length = size) → xs[i]? = some x → j < size → xs.flatten[i * size + j]? = x[j]?
  | [], _, _, _, _, h, _ => by simp at h
  | y :: ys, 0, j, x, h, hx, hj => by
    simp at hx; subst hx
    rw [List.flatten_cons, Nat.zero_mul, Nat.zero_add, List.getElem?_append_left (by rw [h y (by simp)]; exact hj)]
  | y :: ys, i + 1, j, x, h, hx, hj => by
    have ih := flat_get (xs := ys) (i := i) (j := j) (x := x) (fun z hz => h z (by simp [hz])) (by simpa using hx) hj
    rw [List.flatten_cons, List.getElem?_append_right (by rw [h y (by simp), Nat.add_mul]; omega), h y (by simp), show (i + 1) * size + j - size = i * size + j by rw [Nat.add_mul]; omega]
    exact ih
theorem flat_take : ∀ {xs : List (List Value)} (i : Nat), (∀ x ∈ xs, x.length = size) → xs.flatten.take (i * size) = (xs.take i).flatten
  | [], i, _ => by simp
  | y :: ys, 0, h => by simp
  | y :: ys, i + 1, h => by
    have ih := flat_take (xs := ys) i (fun z hz => h z (by simp [hz]))
    rw [List.flatten_cons, List.take_append, h y (by simp), show (i + 1) * size - size = i * size by rw [Nat.add_mul]; omega, ih, List.take_of_length_le (by rw [h y (by simp), Nat.add_mul]; omega)]
    simp
theorem flat_drop : ∀ {xs : List (List Value)} (i : Nat), (∀ x ∈ xs, x.length = size) → xs.flatten.drop (i * size) = (xs.drop i).flatten
  | [], i, _ => by simp
  | y :: ys, 0, h => by simp
  | y :: ys, i + 1, h => by
    have ih := flat_drop (xs := ys) i (fun z hz => h z (by simp [hz]))
    rw [List.flatten_cons, List.drop_append, h y (by simp), show (i + 1) * size - size = i * size by rw [Nat.add_mul]; omega, ih, List.drop_eq_nil_of_le (by rw [h y (by simp), Nat.add_mul]; omega)]
    simp
end
/-- A row of a call's own whose entries are told. -/
def Row {α : Type} (e size : Nat) (R : World → List Value → α → Prop) (w : World) (B : Nat) (V : Value) (l : List α) : Prop :=
  ∃ xs : List (List Value), w.ownsRow B e size V l.length xs.flatten ∧ All2 (R w) xs l
/-- What is asked of the relation of entries. -/
structure Ent {α : Type} (size : Nat) (R : World → List Value → α → Prop) : Prop where
  len : ∀ w x s, R w x s → x.length = size
  one : ∀ w x s, R w x s → ∀ u ∈ x, u.oneCell' = true
  k5 : ∀ w w' x s, K5 w w' → R w x s → R w' x s
def RB (w : World) (x : List Value) (s : List Int) : Prop := ∃ v, x = [v] ∧ SlV w v s
def RC (w : World) (x : List Value) (c : Ca) : Prop := ∃ v, x = [.int .i64 c.1, v] ∧ SlV w v c.2
def RQ (w : World) (x : List Value) (q : Rq) : Prop := ∃ v, x = [.int .i64 q.1, .int .i64 q.2.1, .int .i64 q.2.2.1, v] ∧ SlV w v q.2.2.2
theorem EB : Ent 1 RB := ⟨fun w x s ⟨v, h, _⟩ => by rw [h]; rfl, fun w x s ⟨v, h, hs⟩ => by rw [h]; simpa using hs.one, fun w w' x s hk ⟨v, h, hs⟩ => ⟨v, h, hs.k5 hk⟩⟩
theorem EC : Ent 2 RC := ⟨fun w x s ⟨v, h, _⟩ => by rw [h]; rfl, fun w x s ⟨v, h, hs⟩ => by rw [h]; simpa [Value.oneCell'] using hs.one, fun w w' x s hk ⟨v, h, hs⟩ => ⟨v, h, hs.k5 hk⟩⟩
theorem EQ : Ent 4 RQ := ⟨fun w x s ⟨v, h, _⟩ => by rw [h]; rfl, fun w x s ⟨v, h, hs⟩ => by rw [h]; simpa [Value.oneCell'] using hs.one, fun w w' x s hk ⟨v, h, hs⟩ => ⟨v, h, hs.k5 hk⟩⟩
section
variable {α : Type} {e size B : Nat} {R : World → List Value → α → Prop} {w w' : World} {V : Value} {l : List α}
theorem Row.nil (w : World) (B : Nat) : Row e size R w B (.slice none 0 0) ([] : List α) := ⟨[], World.ownsRow_nil _ _ _ _, trivial⟩
theorem Row.later (E : Ent size R) (h : Row e size R w B V l) (hb : Below w.heap.size w w') : Row e size R w' B V l := by
  obtain ⟨xs, ho, ha⟩ := h
  exact ⟨xs, own_later ho hb, ha.mono fun x s hr => E.k5 _ _ _ _ (K5.below hb) hr⟩
theorem Row.weaken {B' : Nat} (h : Row e size R w B V l) (hb : B' ≤ B) : Row e size R w B' V l := by
  obtain ⟨xs, ho, ha⟩ := h
  exact ⟨xs, own_weaken ho hb, ha⟩
theorem Row.form (h : Row e size R w B V l) {n : Nat} (hn : l.length = n) : ∃ a c, V = .slice a n c ∧ n ≤ c ∧ c ≤ maxLen ∧ (a = none → c = 0) := by
  subst hn
  obtain ⟨xs, ho, _⟩ := h
  exact own_form ho
/-- A block of another type is changed. -/
theorem Row.far (E : Ent size R) (h : Row e size R w B V l) {g t : Nat} {cs : List Value} (hg : Blk w g t cs) (h1 : t ≠ e) (h2 : t ≠ 5) (i : Nat) (u : Value) : Row e size R (w.setCell ⟨g, i, none⟩ u) B V l := by
  obtain ⟨xs, ho, ha⟩ := h
  have hgr : w.grownBy (w.setCell ⟨g, i, none⟩ u) (some g) := ⟨rfl, rfl, rfl, by simp [World.setCell], fun k _ hk => Below.heap_setCell w ⟨g, i, none⟩ u k (fun e => hk (by rw [e]))⟩
  exact ⟨xs, ho.kept hgr (.inr (hg.not_own ho (Ne.symm h1))), ha.mono fun x s hr => E.k5 _ _ _ _ (K5.set hg h2 i u) hr⟩
theorem ne_own {e' size' n n' B' : Nat} {v v' : Value} {xs xs' : List Value} (h : w.ownsRow B e size v n xs) (h' : w.ownsRow B' e' size' v' n' xs') (hne : e ≠ e') : v.ownBlock = none ∨ v.ownBlock ≠ v'.ownBlock := by
  rcases h.2 with ⟨rfl, _⟩ | ⟨g, cap, cur, rfl, _, hh, _⟩
  · exact .inl rfl
  · refine .inr fun he => ?_
    rcases h'.2 with ⟨rfl, _⟩ | ⟨g', cap', cur', rfl, _, hh', _⟩
    · simp [Value.ownBlock] at he
    · simp [Value.ownBlock] at he
      subst he
      rw [hh] at hh'
      injection hh' with hh'
      injection hh' with _ h2
      exact hne h2
/-- A row of another type is changed. -/
theorem Row.other (E : Ent size R) (h : Row e size R w B V l) {U : Value} {e' size' m B' : Nat} {ys : List Value} (hg : w.grownBy w' U.ownBlock) (ho' : w.ownsRow B' e' size' U m ys) (h1 : e ≠ e') (h2 : e' ≠ 5) : Row e size R w' B V l := by
  obtain ⟨xs, ho, ha⟩ := h
  exact ⟨xs, ho.kept hg (ne_own ho ho' h1), ha.mono fun x s hr => E.k5 _ _ _ _ (K5.grown hg ho' h2) hr⟩
/-- An entry is read. -/
theorem Row.get (E : Ent size R) (h : Row e size R w B V l) (h0 : 0 < l.length) : ∃ g c, V = .slice (some ⟨g, 0, none⟩) l.length c ∧ B ≤ g ∧ g < w.heap.size ∧ ∀ i s, l[i]? = some s → ∃ x, R w x s ∧ ∀ j, j < size → w.cell? ⟨g, i * size + j, none⟩ = x[j]? := by
  obtain ⟨xs, ho, ha⟩ := h
  obtain ⟨g, c, rfl, h1, h2, _⟩ := own_pos ho h0
  refine ⟨g, c, rfl, h1, h2, fun i s hs => ?_⟩
  obtain ⟨x, hx, hr⟩ := ha.get hs
  refine ⟨x, hr, fun j hj => ?_⟩
  have hlen := ha.all (p := fun x => x.length = size) (fun x s hr => E.len _ _ _ hr)
  have hlt : i < xs.length := by rw [List.getElem?_eq_some_iff] at hx; exact hx.1
  have e1 := flat_get hlen hx hj
  have hj2 : i * size + j < l.length * size := by
    have : (i + 1) * size ≤ l.length * size := Nat.mul_le_mul_right _ (by rw [← ha.length]; omega)
    rw [Nat.add_mul] at this; omega
  rw [World.ownsRow.cellAt ho _ hj2, e1]
/-- What the entry's cells are. -/
theorem Row.push (E : Ent size R) {xs : List (List Value)} {x : List Value} {s : α} {n : Nat} (ha : All2 (R w) xs l) (hk : K5 w w') (ho : w'.ownsRow B e size V n (xs.flatten ++ x)) (hn : n = l.length + 1) (hr : R w' x s) : Row e size R w' B V (l ++ [s]) := by
  subst hn
  refine ⟨xs ++ [x], by simpa using ho, All2.append (ha.mono fun x s h => E.k5 _ _ _ _ hk h) ⟨hr, trivial⟩⟩
end
theorem Row.bls {w : World} {B : Nat} {V : Value} {l : List (List Int)} (h : Row 31 1 RB w B V l) {n : Nat} (hn : l.length = n) : ∃ a c, V = .slice a n c ∧ n ≤ c ∧ c ≤ maxLen ∧ (a = none → c = 0) ∧ Bls w a l := by
  obtain ⟨a, c, h1, h2, h3, h4⟩ := h.form hn
  refine ⟨a, c, h1, h2, h3, h4, fun h0 => ?_⟩
  obtain ⟨g, c', hV, _, _, hc⟩ := h.get EB h0
  rw [h1] at hV
  cases hV
  refine ⟨g, 0, rfl, fun i s hs => ?_⟩
  obtain ⟨x, ⟨v, rfl, hv⟩, hx⟩ := hc i s hs
  exact hv.at (by have := hx 0 (by decide); simpa using this)
theorem Row.cas {w : World} {B : Nat} {V : Value} {l : List Ca} (h : Row 64 2 RC w B V l) {n : Nat} (hn : l.length = n) : ∃ a c, V = .slice a n c ∧ n ≤ c ∧ c ≤ maxLen ∧ (a = none → c = 0) ∧ Cas w a l := by
  obtain ⟨a, c, h1, h2, h3, h4⟩ := h.form hn
  refine ⟨a, c, h1, h2, h3, h4, fun h0 => ?_⟩
  obtain ⟨g, c', hV, _, _, hc⟩ := h.get EC h0
  rw [h1] at hV
  cases hV
  refine ⟨g, 0, rfl, fun i s hs => ?_⟩
  obtain ⟨x, ⟨v, rfl, hv⟩, hx⟩ := hc i s hs
  have e0 := hx 0 (by decide)
  have e1 := hx 1 (by decide)
  exact ⟨by simpa using e0, hv.at (by simpa using e1)⟩
theorem Row.rqs {w : World} {B : Nat} {V : Value} {l : List Rq} (h : Row 39 4 RQ w B V l) {n : Nat} (hn : l.length = n) : ∃ a c, V = .slice a n c ∧ n ≤ c ∧ c ≤ maxLen ∧ (a = none → c = 0) ∧ Rqs w a l := by
  obtain ⟨a, c, h1, h2, h3, h4⟩ := h.form hn
  refine ⟨a, c, h1, h2, h3, h4, fun h0 => ?_⟩
  obtain ⟨g, c', hV, _, _, hc⟩ := h.get EQ h0
  rw [h1] at hV
  cases hV
  refine ⟨g, 0, rfl, fun i s hs => ?_⟩
  obtain ⟨x, ⟨v, rfl, hv⟩, hx⟩ := hc i s hs
  have e0 := hx 0 (by decide)
  have e1 := hx 1 (by decide)
  have e2 := hx 2 (by decide)
  have e3 := hx 3 (by decide)
  exact ⟨by simpa using e0, by simpa using e1, by simpa using e2, hv.at (by simpa using e3)⟩
theorem bt_cells {w : World} {b off : Nat} {u : List Int} (h : ∀ i, i < u.length → w.cell? ⟨b, off + i, none⟩ = some (.int .u8 (u.getD i 0))) : ∀ j v, (u.map (Value.int .u8))[j]? = some v → w.cell? ((⟨b, off, none⟩ : Addr).add j) = some v := by
  intro j v hj
  rw [List.getElem?_map] at hj
  cases hu : u[j]? with
  | none => rw [hu] at hj; cases hj
  | some x =>
    rw [hu] at hj; cases hj
    have hlt : j < u.length := by rw [List.getElem?_eq_some_iff] at hu; obtain ⟨h, _⟩ := hu; exact h
    rw [show (⟨b, off, none⟩ : Addr).add j = ⟨b, off + j, none⟩ by unfold Addr.add; split <;> simp_all, h j hlt, List.getD_eq_getElem?_getD, hu]; rfl
theorem bt_src {w : World} {a : Option Addr} {u : List Int} {n c : Nat} (H : Bt w a u) (hn : u.length = n) (hz : a = none → n = 0 ∧ c = 0) : Grow.Src w 1 a n c (u.map (Value.int .u8)) := by
  refine ⟨by simp [hn], fun v hv => by obtain ⟨x, _, rfl⟩ := List.mem_map.1 hv; rfl, ?_⟩
  cases a with
  | none => exact .inl ⟨rfl, (hz rfl).1, (hz rfl).2⟩
  | some ad =>
    refine .inr ⟨ad, rfl, ?_⟩
    rcases Nat.eq_zero_or_pos u.length with h0 | h0
    · intro j v hj
      rw [List.eq_nil_of_length_eq_zero h0] at hj
      simp at hj
    · obtain ⟨b, off, ha, hcell⟩ := H h0
      cases ha
      exact bt_cells hcell
set_option maxRecDepth 100000 in set_option maxHeartbeats 1600000 in
theorem clone_44 (a : Option Addr) (u : List Int) (n c : Nat) (w : World) (H : Bt w a u) (hn : u.length = n) (hz : a = none → c = 0) (hnc : n ≤ c) (hm : n ≤ 100000) :
    Calls Try.prog 44 #[.slice a n c] w fun e w' => ∃ v, e = .returned v ∧ SlV w' v u ∧ Below w.heap.size w w' := by
  cases a with
  | none =>
    obtain rfl : c = 0 := hz rfl
    obtain rfl : n = 0 := by omega
    obtain rfl : u = [] := List.eq_nil_of_length_eq_zero hn
    have k1 := fun w' => Lib.run_eql_slice_nil (P := Try.prog) w' 31 5 none 0 0 0 0 Try.underlying31
    go_enter Try.func44, Try.ntmps44
    go_wp2
    go_ret
    exact ⟨_, rfl, SlV.nil _, Below.refl _ _⟩
  | some ad =>
    have hsrc : Grow.Src (w.alloc (.cells #[] 5)) 1 (some ad) n c (u.map (Value.int .u8)) := bt_src (H.below (below_box _ _)) hn (fun h => by cases h)
    have k1 := fun w' => Lib.run_eql_slice_nil (P := Try.prog) w' 31 5 (some ad) n c 0 0 Try.underlying31
    have hmade : (w.alloc (.cells #[] 5)).ownsRow w.heap.size 5 1 (.slice (some ⟨w.heap.size, 0, none⟩) 0 0) 0 [] := World.ownsRow_made w #[] 0 (Nat.le_refl _) (Nat.zero_le _) rfl
    have HS := Lib.hid hsrc
    clear hsrc
    go_enter Try.func44, Try.ntmps44
    go_wp2_with (at_builtin; refine wpList_append_k K31 rfl (.tmp 5) (.tmp 6) rfl _ 0 [] rfl hmade _ n c _ rfl HS.out ?c1 ?c2 ?_)
    case c1 => omega
    case c2 => simp
    intro v' w' hown hg _
    have hb : Below w.heap.size w w' := (below_box w _).grown hg (by simp) (fun k hk => by simp [Value.ownBlock] at hk; omega)
    have hown : w'.ownsRow w.heap.size 5 1 v' n (u.map (Value.int .u8)) := by first | exact hown | simpa using hown
    clear hg
    go_wp2
    go_ret
    exact ⟨_, rfl, SlV.own hown hn, hb⟩
set_option maxRecDepth 100000 in set_option maxHeartbeats 1600000 in
theorem bytes_43 (a : Option Addr) (u : List Int) (n c : Nat) (w : World) (H : Bt w a u) (hn : u.length = n) (hz : a = none → c = 0) (hnc : n ≤ c) (hm : n ≤ 100000) :
    Calls Try.prog 43 #[.slice a n c] w fun e w' => ∃ v, e = .returned v ∧ SlV w' v u ∧ Below w.heap.size w w' := by
  have HN := Lib.hid hn
  clear hn
  go_enter Try.func43, Try.ntmps43
  go_wp2
  go_loopg [3, 4] n (fun g v0 i0 wr => ∃ (i : Nat) (v : Value), i + g = n ∧ v = v0 ∧ i0 = .int .i64 i ∧ wr.ownsRow w.heap.size 5 1 v i ((u.take i).map (Value.int .u8)) ∧ Below w.heap.size w wr)
  case atStart => exact ⟨0, _, by omega, rfl, rfl, World.ownsRow_nil _ _ _ _, Below.refl _ _⟩
  case round =>
    obtain ⟨i, v, hg, rfl, rfl, hO, hb⟩ := hrel
    cases gk with
    | zero =>
      obtain rfl : i = n := by omega
      have HO := Lib.hid (show SlV wr v u from SlV.own (by rw [List.take_of_length_le (by rw [HN.out]; exact Nat.le_refl _)] at hO; exact hO) HN.out)
      clear hg hO
      go_wp2
      go_ret
      exact ⟨_, rfl, HO.out, hb⟩
    | succ g =>
      have hin : i < n := by omega
      obtain ⟨b, off, rfl, hc⟩ := (H.below hb) (by rw [HN.out]; omega)
      have c0 := hc i (by rw [HN.out]; exact hin)
      obtain ⟨x, hx⟩ : ∃ x, u.getD i 0 = x := ⟨_, rfl⟩
      rw [hx] at c0
      have HT := Lib.hid (show u.take (i + 1) = u.take i ++ [x] by
        rw [List.take_add_one, List.getElem?_eq_getElem (by rw [HN.out]; exact hin)]
        rw [List.getD_eq_getElem?_getD, List.getElem?_eq_getElem (by rw [HN.out]; exact hin)] at hx
        rw [← hx]; rfl)
      have HG := Lib.hid hg; have HO := Lib.hid hO
      clear hc hx hg hO
      go_wp2_with (at_builtin; refine wpList_append_k K31 rfl (.tmp 11) (.tmp 16) rfl _ _ _ rfl (HO.out.alloc _) _ 1 1 _ rfl (src_new wr #[.int .u8 x] 5 1 1 1 rfl (by simp [Value.oneCell'])) ?c1 ?c2 ?_)
      case c1 => omega
      case c2 => have := hb.size; simp; omega
      intro v3 w3 hown hgrow _
      have hb3 : Below w.heap.size w w3 := (below_alloc hb _).grown hgrow (by have := hb.size; simp; omega) (fun q hq => (World.ownsRow.lt HO.out q hq).1)
      have hO3 : w3.ownsRow w.heap.size 5 1 v3 (i + 1) ((u.take (i + 1)).map (Value.int .u8)) := by
        rw [HT.out, List.map_append, List.map_take]
        exact hown
      clear hown hgrow HO
      go_wp2
      go_roundg g
      case rel => exact ⟨i + 1, _, by have := HG.out; omega, rfl, by go_num, hO3, hb3⟩
      case measure => omega
end Go.Proofs.Ytlhbjmoncdljoaa
