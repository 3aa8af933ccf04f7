/- The plain mathematics of a buddy system: free blocks that are valid are determined by the frames that they cover. -/
namespace Go.Can
def pw (k : Nat) : Int := ((2 ^ k : Nat) : Int)
theorem pw_cases {k : Nat} (h : k ≤ 4) : (k = 0 ∧ pw k = 1) ∨ (k = 1 ∧ pw k = 2) ∨ (k = 2 ∧ pw k = 4) ∨ (k = 3 ∧ pw k = 8) ∨ (k = 4 ∧ pw k = 16) := by
  have h2 : k = 0 ∨ k = 1 ∨ k = 2 ∨ k = 3 ∨ k = 4 := by omega
  rcases h2 with rfl | rfl | rfl | rfl | rfl <;> decide
theorem pw_pos (k : Nat) : 0 < pw k := by unfold pw; have := Nat.pow_pos (n := k) (show 0 < 2 by decide); omega
theorem pw_succ (k : Nat) : pw (k + 1) = 2 * pw k := by unfold pw; rw [Nat.pow_succ]; omega
theorem pw_zero : pw 0 = 1 := rfl
/-- The frame x lies in the block of order k at f. -/
def In (f : Int) (k : Nat) (x : Int) : Prop := f ≤ x ∧ x < f + pw k
theorem in_self (f : Int) (k : Nat) : In f k f := ⟨Int.le_refl _, by have := pw_pos k; omega⟩
theorem nest {f g x : Int} {k j : Nat} (hk : k ≤ 4) (hjk : j ≤ k) (hf : f % pw k = 0) (hg : g % pw j = 0) (h1 : In f k x) (h2 : In g j x) : f ≤ g ∧ g + pw j ≤ f + pw k := by
  obtain ⟨a1, a2⟩ := h1
  obtain ⟨b1, b2⟩ := h2
  rcases pw_cases hk with ⟨k1, k2⟩ | ⟨k1, k2⟩ | ⟨k1, k2⟩ | ⟨k1, k2⟩ | ⟨k1, k2⟩ <;>
    rcases pw_cases (show j ≤ 4 by omega) with ⟨j1, j2⟩ | ⟨j1, j2⟩ | ⟨j1, j2⟩ | ⟨j1, j2⟩ | ⟨j1, j2⟩ <;>
    (rw [k2] at hf a2 ⊢; rw [j2] at hg b2 ⊢; omega)
/-- Admissible blocks: aligned, and with a block its halves. -/
structure Reg (R : Int → Nat → Prop) : Prop where
  le : ∀ {f k}, R f k → k ≤ 4
  al : ∀ {f k}, R f k → f % pw k = 0
  lo : ∀ {f k}, R f (k + 1) → R f k
  hi : ∀ {f k}, R f (k + 1) → R (f + pw k) k
section
variable {R F G : Int → Nat → Prop} {S : Int → Prop} {f g h x : Int} {k j : Nat}
theorem Reg.sub (hR : Reg R) : ∀ (d : Nat) {g f : Int} {k : Nat}, R g (k + d) → f % pw k = 0 → g ≤ f → f + pw k ≤ g + pw (k + d) → R f k
  | 0, g, f, k, h, _, h1, h2 => by
    obtain rfl : g = f := by simp only [Nat.add_zero] at h2; omega
    exact h
  | d + 1, g, f, k, h, hf, h1, h2 => by
    have h' : R g (k + d + 1) := h
    have hle := hR.le h'
    have ha := hR.al h'
    have hl := hR.lo h'
    have hh := hR.hi h'
    have e : pw (k + (d + 1)) = 2 * pw (k + d) := pw_succ (k + d)
    rw [e] at h2
    rw [pw_succ] at ha
    by_cases hm : f < g + pw (k + d)
    · refine hR.sub d hl hf h1 ?_
      rcases pw_cases (show k ≤ 4 by omega) with ⟨k1, k2⟩ | ⟨k1, k2⟩ | ⟨k1, k2⟩ | ⟨k1, k2⟩ | ⟨k1, k2⟩ <;>
        rcases pw_cases (show k + d ≤ 4 by omega) with ⟨j1, j2⟩ | ⟨j1, j2⟩ | ⟨j1, j2⟩ | ⟨j1, j2⟩ | ⟨j1, j2⟩ <;>
        (rw [k2] at hf ⊢; rw [j2] at hm ha ⊢; omega)
    · refine hR.sub d hh hf (by omega) ?_
      omega
/-- What blocks cover. -/
def Cov (F : Int → Nat → Prop) (x : Int) : Prop := ∃ f k, F f k ∧ In f k x
/-- Blocks are valid: admissible, disjoint, and no two that could be one. -/
structure Val (R F : Int → Nat → Prop) : Prop where
  ins : ∀ {f k}, F f k → R f k
  dis : ∀ {f k g j x}, F f k → F g j → In f k x → In g j x → f = g ∧ k = j
  nob : ∀ {f k}, R f (k + 1) → F f k → F (f + pw k) k → False
/-- A block whose frames are all covered lies in one free block. -/
theorem Val.full (hR : Reg R) (hF : Val R F) : ∀ (j : Nat) (g : Int), R g j → (∀ x, In g j x → Cov F x) → ∃ f k, F f k ∧ j ≤ k ∧ f ≤ g ∧ g + pw j ≤ f + pw k
  | 0, g, _, hc => by
    obtain ⟨f, k, h1, h2, h3⟩ := hc g (in_self g 0)
    exact ⟨f, k, h1, Nat.zero_le _, h2, by rw [pw_zero]; omega⟩
  | j + 1, g, hr, hc => by
    have hj := hR.le hr
    have ha := hR.al hr
    have e := pw_succ j
    have hp := pw_pos j
    obtain ⟨f1, k1, a1, a2, a3, a4⟩ := hF.full hR j g (hR.lo hr) fun x hx => hc x ⟨hx.1, by have := hx.2; omega⟩
    obtain ⟨f2, k2, b1, b2, b3, b4⟩ := hF.full hR j (g + pw j) (hR.hi hr) fun x hx => hc x ⟨by have := hx.1; omega, by have := hx.2; omega⟩
    have r1 := hF.ins a1
    have r2 := hF.ins b1
    by_cases c1 : j + 1 ≤ k1
    · obtain ⟨n1, n2⟩ := nest (hR.le r1) c1 (hR.al r1) ha (x := g) ⟨a3, by omega⟩ (in_self _ _)
      exact ⟨f1, k1, a1, c1, n1, n2⟩
    by_cases c2 : j + 1 ≤ k2
    · obtain ⟨n1, n2⟩ := nest (hR.le r2) c2 (hR.al r2) ha (x := g + pw j) ⟨b3, by omega⟩ ⟨by omega, by omega⟩
      exact ⟨f2, k2, b1, c2, n1, n2⟩
    obtain rfl : k1 = j := by omega
    obtain rfl : k2 = k1 := by omega
    obtain rfl : f1 = g := by omega
    obtain rfl : f2 = f1 + pw k2 := by omega
    exact (hF.nob hr a1 b1).elim
/-- A block of frames of S that no larger one contains. -/
def Max (R : Int → Nat → Prop) (S : Int → Prop) (f : Int) (k : Nat) : Prop :=
  R f k ∧ (∀ x, In f k x → S x) ∧ ∀ h, R h (k + 1) → h ≤ f → f + pw k ≤ h + pw (k + 1) → ¬ ∀ x, In h (k + 1) x → S x
/-- The block that contains a block. -/
def par (f : Int) (k : Nat) : Int := f - f % pw (k + 1)
theorem par_spec (hk : k < 4) (hf : f % pw k = 0) : par f k % pw (k + 1) = 0 ∧ par f k ≤ f ∧ f + pw k ≤ par f k + pw (k + 1) := by
  unfold par
  rw [pw_succ]
  rcases pw_cases (show k ≤ 4 by omega) with ⟨k1, k2⟩ | ⟨k1, k2⟩ | ⟨k1, k2⟩ | ⟨k1, k2⟩ | ⟨k1, k2⟩ <;> (rw [k2] at hf ⊢; omega)
theorem Val.iff (hR : Reg R) (hF : Val R F) : F f k ↔ Max R (Cov F) f k := by
  constructor
  · intro h
    refine ⟨hF.ins h, fun x hx => ⟨f, k, h, hx⟩, fun p hp h1 h2 hc => ?_⟩
    obtain ⟨f', k', a1, a2, a3, a4⟩ := hF.full hR (k + 1) p hp hc
    have := pw_pos k
    have := (hF.dis h a1 (in_self f k) ⟨by omega, by omega⟩).2
    omega
  · rintro ⟨h1, h2, h3⟩
    obtain ⟨f', k', a1, a2, a3, a4⟩ := hF.full hR k f h1 h2
    by_cases hk : k = k'
    · subst hk
      obtain rfl : f = f' := by omega
      exact a1
    · have r := hF.ins a1
      have hk4 := hR.le r
      have hal := hR.al r
      obtain ⟨p1, p2, p3⟩ := par_spec (k := k) (by omega) (hR.al h1)
      have hp := pw_pos k
      obtain ⟨n1, n2⟩ := nest (j := k + 1) hk4 (by omega) hal p1 (x := f) ⟨a3, by omega⟩ ⟨p2, by omega⟩
      refine absurd ?_ (h3 (par f k) ?_ p2 p3)
      · intro x hx
        exact ⟨f', k', a1, by have := hx.1; omega, by have := hx.2; omega⟩
      · obtain ⟨d, rfl⟩ : ∃ d, k' = k + 1 + d := ⟨k' - (k + 1), by omega⟩
        exact hR.sub d r p1 n1 n2
theorem Val.uniq (hR : Reg R) (hF : Val R F) (hG : Val R G) (h : ∀ x, Cov F x ↔ Cov G x) : F f k ↔ G f k := by
  rw [hF.iff hR, hG.iff hR]
  have : Cov F = Cov G := funext fun x => propext (h x)
  rw [this]
/-- Maximal blocks are valid, and cover what they were made of, if each frame of S is admissible. -/
theorem max_dis (hR : Reg R) (h1 : Max R S f k) (h2 : Max R S g j) (hkj : k ≤ j) (hx : In f k x) (hy : In g j x) : f = g ∧ k = j := by
  obtain ⟨n1, n2⟩ := nest (hR.le h2.1) hkj (hR.al h2.1) (hR.al h1.1) hy hx
  by_cases hk : k = j
  · subst hk
    exact ⟨by omega, rfl⟩
  · exfalso
    have hj4 := hR.le h2.1
    obtain ⟨p1, p2, p3⟩ := par_spec (k := k) (by omega) (hR.al h1.1)
    have hp := pw_pos k
    obtain ⟨m1, m2⟩ := nest (j := k + 1) hj4 (by omega) (hR.al h2.1) p1 (x := f) ⟨n1, by omega⟩ ⟨p2, by omega⟩
    refine h1.2.2 (par f k) ?_ p2 p3 fun y hy => h2.2.1 y ⟨by have := hy.1; omega, by have := hy.2; omega⟩
    obtain ⟨d, rfl⟩ : ∃ d, j = k + 1 + d := ⟨j - (k + 1), by omega⟩
    exact hR.sub d h2.1 p1 m1 m2
theorem max_val (hR : Reg R) : Val R (Max R S) := by
  refine ⟨fun h => h.1, fun {f k g j x} h1 h2 hx hy => ?_, fun {f k} hr h1 h2 => ?_⟩
  · rcases Nat.le_total k j with h | h
    · exact max_dis hR h1 h2 h hx hy
    · have := max_dis hR h2 h1 h hy hx
      exact ⟨this.1.symm, this.2.symm⟩
  · have e := pw_succ k
    have hp := pw_pos k
    refine h1.2.2 f hr (Int.le_refl _) (by omega) fun x hx => ?_
    by_cases hm : x < f + pw k
    · exact h1.2.1 x ⟨hx.1, hm⟩
    · exact h2.2.1 x ⟨by omega, by have := hx.2; omega⟩
/-- A block of S lies in a maximal one. -/
theorem max_of (hR : Reg R) : ∀ (d : Nat) {f : Int} {k : Nat}, k + d = 4 → R f k → (∀ x, In f k x → S x) → ∃ g j, k ≤ j ∧ Max R S g j ∧ g ≤ f ∧ f + pw k ≤ g + pw j
  | d, f, k, hd, hr, hs => by
    by_cases hm : Max R S f k
    · exact ⟨f, k, Nat.le_refl _, hm, Int.le_refl _, Int.le_refl _⟩
    · have : ∃ h, R h (k + 1) ∧ h ≤ f ∧ f + pw k ≤ h + pw (k + 1) ∧ ∀ x, In h (k + 1) x → S x := by
        apply Classical.byContradiction
        intro hn
        refine hm ⟨hr, hs, fun h h1 h2 h3 h4 => hn ⟨h, h1, h2, h3, h4⟩⟩
      obtain ⟨p, p1, p2, p3, p4⟩ := this
      cases d with
      | zero => have := hR.le p1; omega
      | succ d =>
        obtain ⟨g, j, q1, q2, q3, q4⟩ := max_of hR d (by omega) p1 p4
        exact ⟨g, j, by omega, q2, by omega, by omega⟩
theorem max_cov (hR : Reg R) (h0 : ∀ x, S x → R x 0) : Cov (Max R S) x ↔ S x := by
  constructor
  · rintro ⟨f, k, h1, h2⟩
    exact h1.2.1 x h2
  · intro hx
    obtain ⟨g, j, _, q2, q3, q4⟩ := max_of hR (S := S) 4 rfl (h0 x hx) fun y hy => by
      have h1 := hy.1; have h2 := hy.2
      rw [pw_zero] at h2
      obtain rfl : y = x := by omega
      exact hx
    rw [pw_zero] at q4
    exact ⟨g, j, q2, q3, by omega⟩
/-- What is left of S when the maximal blocks above an order are gone: a block of this order of what is left is maximal. -/
theorem max_left (hR : Reg R) (hr : R f k) : Max R S f k ↔ ∀ x, In f k x → S x ∧ ∀ g j, k < j → Max R S g j → ¬ In g j x := by
  constructor
  · intro h x hx
    refine ⟨h.2.1 x hx, fun g j hj hg hx2 => ?_⟩
    have := (max_dis hR h hg (by omega) hx hx2).2
    omega
  · intro h
    have hk := hR.le hr
    obtain ⟨g, j, q1, q2, q3, q4⟩ := max_of hR (S := S) (4 - k) (by omega) hr fun x hx => (h x hx).1
    by_cases hkj : k = j
    · subst hkj
      obtain rfl : f = g := by omega
      exact q2
    · have hp := pw_pos k
      exact ((h f (in_self f k)).2 g j (by omega) q2 ⟨q3, by omega⟩).elim
/-- A block is added that nothing covers, and whose buddy is not there. -/
theorem Val.add (hF : Val R F) (hr : R f k) (hn : ∀ x, In f k x → ¬ Cov F x) (hb1 : R f (k + 1) → ¬ F (f + pw k) k) (hb2 : R (f - pw k) (k + 1) → ¬ F (f - pw k) k) : Val R fun g j => F g j ∨ (g = f ∧ j = k) := by
  refine ⟨?_, ?_, ?_⟩
  · rintro g j (h | ⟨rfl, rfl⟩)
    · exact hF.ins h
    · exact hr
  · rintro g j g' j' x (h | ⟨rfl, rfl⟩) (h' | ⟨rfl, rfl⟩) hx hy
    · exact hF.dis h h' hx hy
    · exact (hn x hy ⟨g, j, h, hx⟩).elim
    · exact (hn x hx ⟨g', j', h', hy⟩).elim
    · exact ⟨rfl, rfl⟩
  · rintro g j hr2 (h | ⟨rfl, rfl⟩) (h' | ⟨e, e2⟩)
    · exact hF.nob hr2 h h'
    · subst e2
      obtain rfl : g = f - pw j := by omega
      exact hb2 hr2 h
    · exact hb1 hr2 h'
    · have := pw_pos j; omega
theorem cov_add : Cov (fun g j => F g j ∨ (g = f ∧ j = k)) x ↔ Cov F x ∨ In f k x := by
  constructor
  · rintro ⟨g, j, h | ⟨rfl, rfl⟩, hx⟩
    · exact .inl ⟨g, j, h, hx⟩
    · exact .inr hx
  · rintro (⟨g, j, h, hx⟩ | h)
    · exact ⟨g, j, .inl h, hx⟩
    · exact ⟨f, k, .inr ⟨rfl, rfl⟩, h⟩
/-- A block is taken away. -/
theorem Val.del (hF : Val R F) (f : Int) (k : Nat) : Val R fun g j => F g j ∧ ¬ (g = f ∧ j = k) :=
  ⟨fun h => hF.ins h.1, fun h1 h2 => hF.dis h1.1 h2.1, fun hr h1 h2 => hF.nob hr h1.1 h2.1⟩
theorem Val.cov_del (hF : Val R F) (h : F f k) : Cov (fun g j => F g j ∧ ¬ (g = f ∧ j = k)) x ↔ Cov F x ∧ ¬ In f k x := by
  constructor
  · rintro ⟨g, j, ⟨h1, h2⟩, hx⟩
    exact ⟨⟨g, j, h1, hx⟩, fun hy => h2 (hF.dis h1 h hx hy)⟩
  · rintro ⟨⟨g, j, h1, hx⟩, hy⟩
    exact ⟨g, j, ⟨h1, by rintro ⟨rfl, rfl⟩; exact hy hx⟩, hx⟩
end
/-- Ascending lists of the same members are the same. -/
theorem asc_ext : ∀ {l m : List Int}, List.Pairwise (· < ·) l → List.Pairwise (· < ·) m → (∀ x, x ∈ l ↔ x ∈ m) → l = m
  | [], [], _, _, _ => rfl
  | [], y :: m, _, _, h => by have := (h y).2 (by simp); simp at this
  | x :: l, [], _, _, h => by have := (h x).1 (by simp); simp at this
  | x :: l, y :: m, hl, hm, h => by
    rw [List.pairwise_cons] at hl hm
    have hxy : x = y := by
      rcases List.mem_cons.1 ((h x).1 (by simp)) with h1 | h1
      · exact h1
      · rcases List.mem_cons.1 ((h y).2 (by simp)) with h2 | h2
        · exact h2.symm
        · have := hm.1 x h1; have := hl.1 y h2; omega
    subst hxy
    rw [asc_ext hl.2 hm.2 fun z => ⟨fun hz => ?_, fun hz => ?_⟩]
    · rcases List.mem_cons.1 ((h z).1 (by simp [hz])) with h1 | h1
      · have := hl.1 z hz; omega
      · exact h1
    · rcases List.mem_cons.1 ((h z).2 (by simp [hz])) with h1 | h1
      · have := hm.1 z hz; omega
      · exact h1
end Go.Can
