/- A region that draws its order, where at one place two operations that are not alike in every world may come in either order: both are walked. -/
import Derived.Test.YtkiiifmofmbniaaDoorSeg2
namespace Go.Seg
section
variable {P : Program} {ops : Array Oper} {md : Region.Mode} {S : World → Prop} {Q : Exit → Act → World → Prop} {last : Nat}
def setAll (listed : Array Bool) : List Nat → Array Bool
  | [] => listed
  | k :: ks => setAll (listed.setIfInBounds k true) ks
def quietB (md : Region.Mode) (ops : Array Oper) : List Nat → Array Bool → Bool
  | [], _ => true
  | k :: ks, listed => (Region.ready md ops listed).contains k && Region.free md ops listed k && quietB md ops ks (listed.setIfInBounds k true)
/-- Operations that only read, and what follows. -/
def wpEachF (P : Program) (ops : Array Oper) (S : World → Prop) (K : Act → World → Prop) : List Oper → Act → World → Prop
  | [], a, w => K a w
  | o :: l, a, w => ∃ v, (∀ w, S w → YieldsAt P ops w o v a) ∧ wpEachF P ops S K l (a.put o.dst v) w
theorem anyL_of_quiets (hlast : Lasts md ops last) (hs : Region.noSelect ops = true) (hQ : ∀ c a d v w, Q (.panic c) (Act.put a d v) w → Q (.panic c) a w) {f : Nat} :
    ∀ (l : List Oper) (ks : List Nat) (listed : Array Bool) (a : Act) (w : World), (ks.map fun k => ops[k]?) = l.map some → quietB md ops ks listed = true → (∀ k ∈ ks, k ≠ last) → S w →
      wpEachF P ops S (fun a' w' => wpAnyL P md ops last S Q f (setAll listed ks) a' w') l a w → wpAnyL P md ops last S Q (f + l.length) listed a w
  | [], [], _, _, _, _, _, _, _, h => h
  | [], _ :: _, _, _, _, hl, _, _, _, _ => by simp at hl
  | _ :: _, [], _, _, _, hl, _, _, _, _ => by simp at hl
  | o :: l, k :: ks, listed, a, w, hl, hB, hk, hS, h => by
    simp only [List.map_cons, List.cons.injEq] at hl
    simp only [quietB, Bool.and_eq_true] at hB
    obtain ⟨⟨hr, hf⟩, hB'⟩ := hB
    obtain ⟨v, hy, hK⟩ := h
    exact firstL hlast hl.1 (hk k (by simp)) (Region.noSelect_spec hs) hQ (f + l.length) listed a w hS (Region.free_spec hl.1 hf) (by simpa using hr) hy
      (anyL_of_quiets hlast hs hQ l ks _ _ _ hl.2 hB' (fun j hj => hk j (by simp [hj])) hS hK)
theorem eachF_of_quiet {K : Act → World → Prop} {w : World} : ∀ (l : List Oper) (a : Act), (∀ o ∈ l, valueOp o.op = true) → wpQuiet P ops S (fun a' => K a' w) l a → wpEachF P ops S K l a w
  | [], a, _, h => h
  | o :: l, a, hv, h => by
    show ∃ v, _
    unfold wpQuiet at h
    split at h
    · rename_i hw
      obtain ⟨v, h1, h2⟩ := yields_of_quiet (hv o (by simp)) hw h
      exact ⟨v, h1, eachF_of_quiet l _ (fun o ho => hv o (by simp [ho])) h2⟩
    · rename_i hw
      exact ⟨undef, fun w _ => .inr ⟨by simpa using hw, rfl⟩, eachF_of_quiet l _ (fun o ho => hv o (by simp [ho])) h⟩
theorem anyL_fork {f : Nat} {listed : Array Bool} {a : Act} {w : World} {k1 k2 : Nat} {o1 o2 : Oper} (hr : Region.ready md ops listed = [k1, k2]) (h1 : ops[k1]? = some o1) (h2 : ops[k2]? = some o2) (hS : S w)
    (g1 : wpList P ops (Kept S fun a' w' => wpAnyL P md ops last S Q f (listed.setIfInBounds k1 true) a' w') [o1] a w)
    (g2 : wpList P ops (Kept S fun a' w' => wpAnyL P md ops last S Q f (listed.setIfInBounds k2 true) a' w') [o2] a w) : wpAnyL P md ops last S Q (f + 1) listed a w := by
  refine ⟨fun h => (by rw [hr] at h; cases h), fun i hi => ?_⟩
  rw [hr] at hi
  have key : ∀ {k : Nat} {o : Oper}, ops[k]? = some o → wpList P ops (Kept S fun a' w' => wpAnyL P md ops last S Q f (listed.setIfInBounds k true) a' w') [o] a w →
      wpOp P ops Q k (fun a' w' => (k ≠ last → S w') ∧ wpAnyL P md ops last S Q f (listed.setIfInBounds k true) a' w') a w := by
    intro k o hk h
    unfold wpOp
    simp only [hk]
    unfold wpList at h
    split
    · rename_i hw
      rw [if_pos hw] at h
      rcases h with h | ⟨_, h⟩
      · exact .inl (wp_of_kept (fun a' w' h' => ⟨fun _ => h'.1, h'.2⟩) h)
      · exact absurd h not_lets
    · rename_i hw
      rw [if_neg hw] at h
      exact ⟨fun _ => hS, h.2⟩
  rcases List.mem_cons.1 hi with rfl | hi
  · exact key h1 g1
  · obtain rfl := List.mem_singleton.1 hi
    exact key h2 g2
def forkB (md : Region.Mode) (l : List Oper) (ks0 : List Nat) (k1 k2 : Nat) (segs1 : List (Bool × Nat)) (ks1 : List Nat) (segs2 : List (Bool × Nat)) (ks2 : List Nat) : Bool :=
  Region.noSelect l.toArray && quietB md l.toArray ks0 (Array.replicate l.toArray.size false) && (inOrder l ks0).all (fun o => valueOp o.op) && decide (Region.ready md l.toArray (setAll (Array.replicate l.toArray.size false) ks0) = [k1, k2])
    && (okSegs segs1 (inOrder l ks1) && (segs1.all fun s => decide (0 < s.2)) && eachBL md l.toArray (flat segs1) ks1 ((setAll (Array.replicate l.toArray.size false) ks0).setIfInBounds k1 true) && decide ((flat segs1).getLast? = some true))
    && (okSegs segs2 (inOrder l ks2) && (segs2.all fun s => decide (0 < s.2)) && eachBL md l.toArray (flat segs2) ks2 ((setAll (Array.replicate l.toArray.size false) ks0).setIfInBounds k2 true) && decide ((flat segs2).getLast? = some true))
    && (ks0.all (fun k => decide (k < l.length)) && ks1.all (fun k => decide (k < l.length)) && ks2.all (fun k => decide (k < l.length)) && decide (k1 < l.length) && decide (k2 < l.length))
    && decide (ks1.length + 1 + ks0.length = l.length) && decide (ks2.length + 1 + ks0.length = l.length)
theorem lasts_none {md : Region.Mode} {ops : Array Oper} : Lasts md ops ops.size := fun o ho => by
  rw [Array.getElem?_eq_none (Nat.le_refl _)] at ho; cases ho
theorem wp_region_fork {id : Nat} {a : Act} {w : World} {l : List Oper} (S0 : World → Prop) (ks0 : List Nat) (k1 k2 : Nat) (segs1 : List (Bool × Nat)) (ks1 : List Nat) (segs2 : List (Bool × Nat)) (ks2 : List Nat) (hm : P.follows .mixedOrders = true)
    (hB : forkB .any l ks0 k1 k2 segs1 ks1 segs2 ks2 = true) (h0 : S0 { w with drawn := w.drawn + 1 })
    (h : ∀ W, S0 W → W = { w with drawn := w.drawn + 1 } → wpQuiet P l.toArray (fun w' => ∃ u, w' = hold S0 W u) (fun a' =>
      wpList P l.toArray (Kept (fun w' => ∃ u, w' = hold S0 W u) fun a'' w'' => wpSegsL P l.toArray (fun w' => ∃ u, w' = hold S0 W u) (NoPanic Q) segs1 (inOrder l ks1) a'' w'') (inOrder l [k1]) a' W ∧
      wpList P l.toArray (Kept (fun w' => ∃ u, w' = hold S0 W u) fun a'' w'' => wpSegsL P l.toArray (fun w' => ∃ u, w' = hold S0 W u) (NoPanic Q) segs2 (inOrder l ks2) a'' w'') (inOrder l [k2]) a' W) (inOrder l ks0) a) : (Code.region id l.toArray true).wp P Q a w := by
  refine wp_region_noPanic (wp_region_any hm ?_)
  simp only [forkB, Bool.and_eq_true, decide_eq_true_eq] at hB
  obtain ⟨⟨⟨⟨⟨⟨⟨⟨b1, b2⟩, b3⟩, b4⟩, ⟨⟨c1, c2⟩, c3⟩, c4⟩, ⟨⟨d1, d2⟩, d3⟩, d4⟩, ⟨⟨⟨⟨e0, e1⟩, e2⟩, e3⟩, e4⟩⟩, f1⟩, f2⟩ := hB
  obtain ⟨i0, j0⟩ := inOrder_map ks0 e0
  obtain ⟨i1, j1⟩ := inOrder_map ks1 e1
  obtain ⟨i2, j2⟩ := inOrder_map ks2 e2
  have g0 := h _ h0 rfl
  have lt : ∀ {ks : List Nat}, (ks.all fun k => decide (k < l.length)) = true → ∀ k ∈ ks, k ≠ l.toArray.size := fun hk k hm => by
    have := List.all_eq_true.1 hk k hm
    simp at this ⊢; omega
  have drop : ∀ {ks : List Nat}, (ks.all fun k => decide (k < l.length)) = true → ∀ k ∈ ks.dropLast, k ≠ l.toArray.size := fun hk k hm => lt hk k (List.dropLast_subset _ hm)
  have hQ : ∀ c a d v w, NoPanic Q (.panic c) (Act.put a d v) w → NoPanic Q (.panic c) a w := fun c a d v w h => h
  have one : ∀ {k : Nat}, k < l.length → ∃ o, inOrder l [k] = [o] ∧ l.toArray[k]? = some o := fun {k} hk => ⟨l[k], by simp [inOrder, hk], by simp [hk]⟩
  obtain ⟨o1, m1, n1⟩ := one e3
  obtain ⟨o2, m2, n2⟩ := one e4
  have rest : ∀ {segs : List (Bool × Nat)} {ks : List Nat} {listed : Array Bool} {a' : Act} {w' : World}, okSegs segs (inOrder l ks) = true → (segs.all fun s => decide (0 < s.2)) = true → eachBL .any l.toArray (flat segs) ks listed = true → (flat segs).getLast? = some true →
      (ks.all fun k => decide (k < l.length)) = true → (∃ u, w' = hold S0 { w with drawn := w.drawn + 1 } u) → wpSegsL P l.toArray (fun w' => ∃ u, w' = hold S0 { w with drawn := w.drawn + 1 } u) (NoPanic Q) segs (inOrder l ks) a' w' →
      wpAnyL P .any l.toArray l.toArray.size (fun w' => ∃ u, w' = hold S0 { w with drawn := w.drawn + 1 } u) (NoPanic Q) (inOrder l ks).length listed a' w' := by
    intro segs ks listed a' w' q1 q2 q3 q4 q5 q6 q7
    exact anyL_of_each lasts_none b1 hQ (inOrder l ks) (flat segs) ks listed a' w' (inOrder_map ks q5).1 (flat_length segs _ q1) q3 (drop q5) (fun _ hf => by rw [q4] at hf; cases hf) (fun _ => lt q5) q6 (eachL_of_segs segs _ _ _ q1 q2 q7)
  have hS0 : ∃ u, { w with drawn := w.drawn + 1 } = hold S0 { w with drawn := w.drawn + 1 } u := hold_of h0
  have g2 : wpEachF P l.toArray (fun w' => ∃ u, w' = hold S0 { w with drawn := w.drawn + 1 } u) (fun a' w' => wpAnyL P .any l.toArray l.toArray.size (fun w' => ∃ u, w' = hold S0 { w with drawn := w.drawn + 1 } u) (NoPanic Q) ((inOrder l ks1).length + 1) (setAll (Array.replicate l.toArray.size false) ks0) a' w') (inOrder l ks0) a { w with drawn := w.drawn + 1 } := by
    refine eachF_of_quiet (inOrder l ks0) a (fun o ho => List.all_eq_true.1 b3 o ho) (wpQuiet_imp (fun a' hh => ?_) _ _ g0)
    obtain ⟨x1, x2⟩ := hh
    rw [m1] at x1
    rw [m2] at x2
    refine anyL_fork b4 n1 n2 hS0 ?_ ?_
    · refine wpList_one_imp ?_ x1
      intro a'' w'' hs hk
      exact rest c1 c2 c3 c4 e1 hs hk
    · refine wpList_one_imp ?_ x2
      intro a'' w'' hs hk
      rw [j1, show ks1.length = ks2.length by omega, ← j2]
      exact rest d1 d2 d3 d4 e2 hs hk
  have g3 := anyL_of_quiets lasts_none b1 hQ (inOrder l ks0) ks0 _ _ _ i0 b2 (lt e0) hS0 g2
  have g4 := wpAnyL_any _ _ _ _ g3
  rw [j1, j0, f1] at g4
  simpa using g4
end
end Go.Seg
