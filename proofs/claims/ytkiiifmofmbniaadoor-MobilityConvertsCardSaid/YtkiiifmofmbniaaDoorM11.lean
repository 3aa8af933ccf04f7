/- A page block is converted: the plain part; rows beside page blocks. -/
import Derived.Test.YtkiiifmofmbniaaDoorM10
import Derived.Test.YtkiiifmofmbniaaDoorQ2
namespace Go.Mob
open Go.Can
theorem fold_ins : ∀ {l m : List Int}, List.Pairwise (· < ·) l → List.Pairwise (· < ·) m → (∀ x ∈ l, x ∉ m) → List.Pairwise (· < ·) (l.foldl ins m) ∧ ∀ y, y ∈ l.foldl ins m ↔ y ∈ l ∨ y ∈ m
  | [], m, _, hm, _ => ⟨hm, fun y => by simp⟩
  | x :: r, m, hl, hm, hd => by
    rw [List.pairwise_cons] at hl
    obtain ⟨h1, h2⟩ := fold_ins (l := r) (m := ins m x) hl.2 (ins_asc hm (hd x (by simp))) fun y hy hy2 => by
      rcases mem_ins.1 hy2 with h | h
      · have := hl.1 y hy; omega
      · exact hd y (by simp [hy]) h
    refine ⟨h1, fun y => ?_⟩
    show y ∈ r.foldl ins (ins m x) ↔ _
    rw [h2, mem_ins, List.mem_cons]
    exact ⟨fun h => by rcases h with h | h | h; exact .inl (.inr h); exact .inl (.inl h); exact .inr h, fun h => by rcases h with (h | h) | h; exact .inr (.inl h); exact .inl h; exact .inr (.inr h)⟩
theorem ins_len {l : List Int} {x : Int} : (ins l x).length = l.length + 1 := by
  unfold ins
  have := @pos_le l x
  simp; omega
theorem fold_len : ∀ {l m : List Int}, (l.foldl ins m).length = l.length + m.length
  | [], m => by simp
  | x :: r, m => by
    show (r.foldl ins (ins m x)).length = _
    rw [fold_len, ins_len, List.length_cons]; omega
/-- What is put into the other list, when i blocks were looked at. -/
def goL (a : Int) (l m : List Int) (i : Nat) : List Int := ((l.take i).filter (inPB a)).foldl ins m
def stL (a : Int) (l : List Int) (i : Nat) : List Int := (l.take i).filter fun f => !inPB a f
theorem take_next {l : List Int} {i : Nat} {x : Int} (h : l[i]? = some x) : l.take (i + 1) = l.take i ++ [x] := by
  rw [List.take_add_one, h]; rfl
theorem goL_in {a : Int} {l m : List Int} {i : Nat} {x : Int} (h : l[i]? = some x) (hx : inPB a x = true) : goL a l m (i + 1) = ins (goL a l m i) x ∧ stL a l (i + 1) = stL a l i := by
  unfold goL stL
  rw [take_next h]
  simp [List.filter_append, hx]
theorem goL_out {a : Int} {l m : List Int} {i : Nat} {x : Int} (h : l[i]? = some x) (hx : inPB a x = false) : goL a l m (i + 1) = goL a l m i ∧ stL a l (i + 1) = stL a l i ++ [x] := by
  unfold goL stL
  rw [take_next h]
  simp [List.filter_append, hx]
theorem goL_asc {a : Int} {l m : List Int} {i : Nat} (hl : List.Pairwise (· < ·) l) (hm : List.Pairwise (· < ·) m) (hd : ∀ x ∈ l, x ∉ m) : List.Pairwise (· < ·) (goL a l m i) :=
  (fold_ins ((hl.sublist (List.take_sublist _ _)).sublist List.filter_sublist) hm fun x hx => hd x (List.mem_of_mem_take (List.mem_filter.1 hx).1)).1
theorem goL_len {a : Int} {l m : List Int} {i : Nat} : (goL a l m i).length ≤ l.length + m.length := by
  unfold goL
  rw [fold_len]
  have h1 := (List.filter_sublist (p := inPB a) (l := l.take i)).length_le
  have h2 := (List.take_sublist i l).length_le
  omega
theorem stL_len {a : Int} {l : List Int} {i : Nat} : (stL a l i).length ≤ l.length := by
  unfold stL
  have h1 := (List.filter_sublist (p := fun f => !inPB a f) (l := l.take i)).length_le
  have h2 := (List.take_sublist i l).length_le
  omega
theorem convK_eq {a : Int} {fr : Nat → List Int} {i j n : Nat} (hn : (fr i).length = n) : convK a fr i j = upd (upd fr j (goL a (fr i) (fr j) n)) i (stL a (fr i) n) := by
  unfold convK goL stL
  rw [List.take_of_length_le (by omega)]
theorem upd_upd {fr : Nat → List Int} {i : Nat} {l m : List Int} : upd (upd fr i l) i m = upd fr i m := by
  funext j
  by_cases h : j = i
  · subst h; rw [upd_self, upd_self]
  · rw [upd_ne h, upd_ne h, upd_ne h]
theorem upd_noop {fr : Nat → List Int} {i : Nat} {l : List Int} (h : fr i = l) : upd fr i l = fr := by
  funext j
  by_cases e : j = i
  · subst e; rw [upd_self, h]
  · rw [upd_ne e]
end Go.Mob
namespace Go.Proofs.YtkiiifmofmbniaaDoor
open Go.RowKit Go.Over Go.Mob Go.Can Go.Seg Go.Grow
theorem andNot_15 {x : Int} (h0 : 0 ≤ x) (h1 : x < 256) : bits BinOp.andNot IntKind.i64 x 15 = x - x % 16 := by
  have key : ∀ n : Fin 256, bits BinOp.andNot IntKind.i64 ((n.val : Nat) : Int) 15 = ((n.val : Nat) : Int) - ((n.val : Nat) : Int) % 16 := by decide +kernel
  have h := key ⟨x.toNat, by omega⟩
  rw [show ((x.toNat : Nat) : Int) = x by omega] at h
  exact h
theorem set_same {cs : List Value} {r : Nat} {u : Value} (hu : cs[r]? = some u) : cs.set r u = cs := by
  obtain ⟨hlt, he⟩ := List.getElem?_eq_some_iff.1 hu
  rw [← he, List.set_getElem_self]
section
variable {w W W' : World} {g : Nat} {cs : List Value} {p : P}
/-- A row is changed where it lies. -/
theorem VP.touch {r : Nat} {u : Value} {l' : List Int} (h : VP w g cs p W) (hr : r < 16) (hu : cs[1 + r]? = some u) (hg : W.grownBy W' u.ownBlock) (hO : Own W' w.heap.size u l') : VP w g cs (setRow p r l') W' := by
  obtain ⟨v, q1, q2⟩ := OwnP.own h.o hr
  rw [hu] at q1
  cases q1
  have ho := OwnP.put h.o hr hu hg hO (fun k hk => .inl hk)
  rw [set_same hu] at ho
  exact ⟨h.b.grown hg h.b.size (fun k hk => (World.ownsRow.lt q2 k hk).1), h.l, h.x.grown hg (h.x.not_own q2 (by decide)), ho⟩
theorem nums_set {l : List Int} {i : Nat} {x : Int} : (nums l).set i (.int .i64 x) = nums (l.set i x) := by
  unfold nums
  rw [List.map_set]
/-- A type is stored. -/
theorem VP.typ {b n c i : Nat} {x : Int} (h : VP w g cs p W) (hu : cs[1]? = some (.slice (some ⟨b, 0, none⟩) n c)) : VP w g cs ⟨p.st, p.ty.set i x, p.fr⟩ (W.setCell ⟨b, i, none⟩ (.int .i64 x)) ∧ Kn g W (W.setCell ⟨b, i, none⟩ (.int .i64 x)) := by
  obtain ⟨v, q1, q2⟩ := OwnP.own h.o (show 0 < 16 by decide)
  rw [hu] at q1
  cases q1
  have q3 : W.ownsRow w.heap.size 3 1 (.slice (some ⟨b, 0, none⟩) n c) p.ty.length (nums p.ty) := q2
  have hl : p.ty.length = n := by
    obtain ⟨a', c', h1, _⟩ := own_form q3
    cases h1; rfl
  rw [hl] at q3
  obtain ⟨s1, s2⟩ := World.ownsRow.stored q3 i (.int .i64 x)
  rw [nums_set] at s1
  have s3 : Own (W.setCell ⟨b, i, none⟩ (.int .i64 x)) w.heap.size (.slice (some ⟨b, 0, none⟩) n c) (p.ty.set i x) := by
    unfold Own
    rw [List.length_set, hl]
    exact s1
  refine ⟨VP.touch (r := 0) h (by decide) hu s2 s3, fun g' t bs h1 h2 h3 => h3.grown s2 (h3.not_own q2 (Ne.symm h2))⟩
/-- Another row apart from page blocks. -/
def Sep (cs : List Value) (u : Value) : Prop := ∀ s v, s < 16 → cs[1 + s]? = some v → v.ownBlock = none ∨ v.ownBlock ≠ u.ownBlock
theorem Sep.nil {cs : List Value} : Sep cs (.slice none 0 0) := fun s v _ _ => by
  rcases hv : v.ownBlock with _ | b
  · exact .inl rfl
  · exact .inr (by simp [Value.ownBlock])
theorem VP.lt (h : VP w g cs p W) {s : Nat} {v : Value} (hs : s < 16) (hv : cs[1 + s]? = some v) {k : Nat} (hk : v.ownBlock = some k) : k < W.heap.size := by
  obtain ⟨u, q1, q2⟩ := OwnP.own h.o hs
  rw [hv] at q1
  cases q1
  exact (World.ownsRow.lt q2 k hk).2
theorem Sep.set {u v v' : Value} {r N : Nat} (h : Sep cs u) (hl : cs.length = 17) (hr : r < 16) (hv : cs[1 + r]? = some v) (hk : ∀ k, v'.ownBlock = some k → v.ownBlock = some k ∨ N ≤ k) (hu : ∀ k, u.ownBlock = some k → k < N) : Sep (cs.set (1 + r) v') u := fun s x hs hx => by
  by_cases e : s = r
  · subst e
    rw [List.getElem?_set_self (by omega)] at hx
    cases hx
    rcases hb : v'.ownBlock with _ | b
    · exact .inl rfl
    · refine .inr fun e => ?_
      have h2 := hu b e.symm
      rcases hk b hb with h1 | h1
      · rcases h s v hs hv with h3 | h3
        · rw [h1] at h3; cases h3
        · exact h3 (by rw [h1, e])
      · omega
  · rw [List.getElem?_set_ne (by omega)] at hx
    exact h s x hs hx
theorem Sep.grow {u u' : Value} {N : Nat} (h : Sep cs u) (hk : ∀ k, u'.ownBlock = some k → u.ownBlock = some k ∨ N ≤ k) (hlt : ∀ s v, s < 16 → cs[1 + s]? = some v → ∀ k, v.ownBlock = some k → k < N) : Sep cs u' := fun s v hs hv => by
  rcases hb : v.ownBlock with _ | b
  · exact .inl rfl
  · refine .inr fun e => ?_
    have h2 := hlt s v hs hv b hb
    rcases hk b e.symm with h1 | h1
    · rcases h s v hs hv with h3 | h3
      · rw [hb] at h3; cases h3
      · exact h3 (by rw [hb, h1])
    · omega
/-- A row beside page blocks grows. -/
theorem VP.other {u : Value} {l : List Int} (h : VP w g cs p W) (hO : Own W w.heap.size u l) (hg : W.grownBy W' u.ownBlock) (hs : Sep cs u) : VP w g cs p W' ∧ Kn g W W' := by
  refine ⟨⟨h.b.grown hg h.b.size (fun k hk => (World.ownsRow.lt hO k hk).1), h.l, h.x.grown hg (h.x.not_own hO (by decide)), h.o.len, h.o.st, fun r hr => ?_, h.o.ap⟩, fun g' t bs h1 h2 h3 => h3.grown hg (h3.not_own hO (Ne.symm h2))⟩
  obtain ⟨v, q1, q2⟩ := OwnP.own h.o hr
  have := q2.kept hg (hs r v hr q1)
  exact ⟨v, q1, this.sl, fun _ => this⟩
/-- A row beside page blocks becomes one of theirs. -/
theorem OwnP.swap {B r : Nat} {u' : Value} {l' : List Int} (h : OwnP W B cs p) (hr : r < 16) (hO : Own W B u' l') (hs : Sep cs u') : OwnP W B (cs.set (1 + r) u') (setRow p r l') := by
  have hl := h.len
  refine ⟨by rw [List.length_set]; exact hl, by rw [List.getElem?_set_ne (by omega), setRow_st]; exact h.st, fun s hs => ?_, fun s t x y h1 h2 g1 g2 => ?_⟩
  · by_cases e : s = r
    · subst e
      rw [rowL_set_self]
      exact ⟨u', List.getElem?_set_self (by omega), hO.sl, fun _ => hO⟩
    · obtain ⟨v, q1, q2⟩ := OwnP.own h hs
      rw [rowL_set_ne e]
      exact ⟨v, by rw [List.getElem?_set_ne (by omega)]; exact q1, q2.sl, fun _ => q2⟩
  · by_cases e1 : s = r
    · subst e1
      rw [List.getElem?_set_self (by omega)] at g1
      cases g1
      rw [List.getElem?_set_ne (by omega)] at g2
      rcases hs t y (by omega) g2 with h3 | h3
      · rcases hb : u'.ownBlock with _ | b
        · exact .inl rfl
        · exact .inr (by rw [h3]; simp)
      · exact .inr (Ne.symm h3)
    · rw [List.getElem?_set_ne (by omega)] at g1
      by_cases e2 : t = r
      · subst e2
        rw [List.getElem?_set_self (by omega)] at g2
        cases g2
        exact hs s x (by omega) g1
      · rw [List.getElem?_set_ne (by omega)] at g2
        exact h.ap s t x y h1 h2 g1 g2
theorem VP.swap {t k : Nat} {u' : Value} {l' : List Int} (h : VP w g cs p W) (ht : t < 3) (hk : k < 5) (hO : Own W w.heap.size u' l') (hs : Sep cs u') :
    VP w g (cs.set (1 + (1 + (5 * t + k))) u') ⟨p.st, p.ty, upd p.fr (5 * t + k) l'⟩ (W.setCell ⟨g, 2 + t * 5 + k, none⟩ u') ∧ Kn g W (W.setCell ⟨g, 2 + t * 5 + k, none⟩ u') := by
  have ho := (OwnP.swap h.o (show 1 + (5 * t + k) < 16 by omega) hO hs).far h.x (by decide) (1 + (1 + (5 * t + k))) u'
  rw [setRow_succ] at ho
  rw [show 2 + t * 5 + k = 1 + (1 + (5 * t + k)) by omega]
  exact ⟨⟨h.b.setCell (p := ⟨g, _, none⟩) h.l _, h.l, h.x.set _ u', ho⟩, fun g' t bs h1 h2 h3 => h3.far (p := ⟨g, _, none⟩) h1 u'⟩
end
end Go.Proofs.YtkiiifmofmbniaaDoor
