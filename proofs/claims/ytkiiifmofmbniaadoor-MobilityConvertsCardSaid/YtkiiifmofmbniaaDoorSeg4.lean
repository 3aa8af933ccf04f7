/- The same fork where the last operation of the region is a forced one that waits for all others. -/
import Derived.Test.YtkiiifmofmbniaaDoorSeg3
namespace Go.Seg
section
variable {P : Program} {ops : Array Oper} {md : Region.Mode} {S : World → Prop} {Q : Exit → Act → World → Prop} {last : Nat}
def tailB (segs : List (Bool × Nat)) (ks : List Nat) (last : Nat) : Bool := decide (∀ k ∈ ks.dropLast, k ≠ last) && (match (flat segs).getLast? with | some false => decide (ks.getLast? = some last) | _ => decide (∀ k ∈ ks, k ≠ last))
def forkL (md : Region.Mode) (l : List Oper) (ks0 : List Nat) (k1 k2 : Nat) (segs1 : List (Bool × Nat)) (ks1 : List Nat) (segs2 : List (Bool × Nat)) (ks2 : List Nat) (last : Nat) : Bool :=
  Region.noSelect l.toArray && quietB md l.toArray ks0 (Array.replicate l.toArray.size false) && (inOrder l ks0).all (fun o => valueOp o.op) && decide (Region.ready md l.toArray (setAll (Array.replicate l.toArray.size false) ks0) = [k1, k2])
    && (okSegs segs1 (inOrder l ks1) && (segs1.all fun s => decide (0 < s.2)) && eachBL md l.toArray (flat segs1) ks1 ((setAll (Array.replicate l.toArray.size false) ks0).setIfInBounds k1 true) && tailB segs1 ks1 last)
    && (okSegs segs2 (inOrder l ks2) && (segs2.all fun s => decide (0 < s.2)) && eachBL md l.toArray (flat segs2) ks2 ((setAll (Array.replicate l.toArray.size false) ks0).setIfInBounds k2 true) && tailB segs2 ks2 last)
    && (ks0.all (fun k => decide (k < l.length)) && ks1.all (fun k => decide (k < l.length)) && ks2.all (fun k => decide (k < l.length)) && decide (k1 < l.length) && decide (k2 < l.length))
    && decide (ks1.length + 1 + ks0.length = l.length) && decide (ks2.length + 1 + ks0.length = l.length) && lastsB md l.toArray last && decide (∀ k ∈ ks0, k ≠ last)
theorem wp_region_forkL {id : Nat} {a : Act} {w : World} {l : List Oper} (S0 : World → Prop) (ks0 : List Nat) (k1 k2 : Nat) (segs1 : List (Bool × Nat)) (ks1 : List Nat) (segs2 : List (Bool × Nat)) (ks2 : List Nat) (last : Nat) (hm : P.follows .mixedOrders = true)
    (hB : forkL .any l ks0 k1 k2 segs1 ks1 segs2 ks2 last = true) (h0 : S0 { w with drawn := w.drawn + 1 })
    (h : ∀ W, S0 W → W = { w with drawn := w.drawn + 1 } → wpQuiet P l.toArray (fun w' => ∃ u, w' = hold S0 W u) (fun a' =>
      wpList P l.toArray (Kept (fun w' => ∃ u, w' = hold S0 W u) fun a'' w'' => wpSegsL P l.toArray (fun w' => ∃ u, w' = hold S0 W u) (NoPanic Q) segs1 (inOrder l ks1) a'' w'') (inOrder l [k1]) a' W ∧
      wpList P l.toArray (Kept (fun w' => ∃ u, w' = hold S0 W u) fun a'' w'' => wpSegsL P l.toArray (fun w' => ∃ u, w' = hold S0 W u) (NoPanic Q) segs2 (inOrder l ks2) a'' w'') (inOrder l [k2]) a' W) (inOrder l ks0) a) : (Code.region id l.toArray true).wp P Q a w := by
  refine wp_region_noPanic (wp_region_any hm ?_)
  simp only [forkL, tailB, Bool.and_eq_true, decide_eq_true_eq] at hB
  obtain ⟨⟨⟨⟨⟨⟨⟨⟨⟨⟨b1, b2⟩, b3⟩, b4⟩, ⟨⟨⟨c1, c2⟩, c3⟩, c4, c5⟩⟩, ⟨⟨⟨d1, d2⟩, d3⟩, d4, d5⟩⟩, ⟨⟨⟨⟨e0, e1⟩, e2⟩, e3⟩, e4⟩⟩, f1⟩, f2⟩, f3⟩, f4⟩ := hB
  obtain ⟨i0, j0⟩ := inOrder_map ks0 e0
  obtain ⟨i1, j1⟩ := inOrder_map ks1 e1
  obtain ⟨i2, j2⟩ := inOrder_map ks2 e2
  have g0 := h _ h0 rfl
  have hQ : ∀ c a d v w, NoPanic Q (.panic c) (Act.put a d v) w → NoPanic Q (.panic c) a w := fun c a d v w h => h
  have one : ∀ {k : Nat}, k < l.length → ∃ o, inOrder l [k] = [o] ∧ l.toArray[k]? = some o := fun {k} hk => ⟨l[k], by simp [inOrder, hk], by simp [hk]⟩
  obtain ⟨o1, m1, n1⟩ := one e3
  obtain ⟨o2, m2, n2⟩ := one e4
  have rest : ∀ {segs : List (Bool × Nat)} {ks : List Nat} {listed : Array Bool} {a' : Act} {w' : World}, okSegs segs (inOrder l ks) = true → (segs.all fun s => decide (0 < s.2)) = true → eachBL .any l.toArray (flat segs) ks listed = true → (∀ k ∈ ks.dropLast, k ≠ last) → (match (flat segs).getLast? with | some false => decide (ks.getLast? = some last) | _ => decide (∀ k ∈ ks, k ≠ last)) = true →
      (ks.all fun k => decide (k < l.length)) = true → (∃ u, w' = hold S0 { w with drawn := w.drawn + 1 } u) → wpSegsL P l.toArray (fun w' => ∃ u, w' = hold S0 { w with drawn := w.drawn + 1 } u) (NoPanic Q) segs (inOrder l ks) a' w' →
      wpAnyL P .any l.toArray last (fun w' => ∃ u, w' = hold S0 { w with drawn := w.drawn + 1 } u) (NoPanic Q) (inOrder l ks).length listed a' w' := by
    intro segs ks listed a' w' q1 q2 q3 q4 q4' q5 q6 q7
    exact anyL_of_each (lastsB_spec f3) b1 hQ (inOrder l ks) (flat segs) ks listed a' w' (inOrder_map ks q5).1 (flat_length segs _ q1) q3 q4 (fun _ hf => by rw [hf] at q4'; simpa using q4') (fun ht => by rw [ht] at q4'; simpa using q4') q6 (eachL_of_segs segs _ _ _ q1 q2 q7)
  have hS0 : ∃ u, { w with drawn := w.drawn + 1 } = hold S0 { w with drawn := w.drawn + 1 } u := hold_of h0
  have g2 : wpEachF P l.toArray (fun w' => ∃ u, w' = hold S0 { w with drawn := w.drawn + 1 } u) (fun a' w' => wpAnyL P .any l.toArray last (fun w' => ∃ u, w' = hold S0 { w with drawn := w.drawn + 1 } u) (NoPanic Q) ((inOrder l ks1).length + 1) (setAll (Array.replicate l.toArray.size false) ks0) a' w') (inOrder l ks0) a { w with drawn := w.drawn + 1 } := by
    refine eachF_of_quiet (inOrder l ks0) a (fun o ho => List.all_eq_true.1 b3 o ho) (wpQuiet_imp (fun a' hh => ?_) _ _ g0)
    obtain ⟨x1, x2⟩ := hh
    rw [m1] at x1
    rw [m2] at x2
    refine anyL_fork b4 n1 n2 hS0 ?_ ?_
    · refine wpList_one_imp ?_ x1
      intro a'' w'' hs hk
      exact rest c1 c2 c3 c4 c5 e1 hs hk
    · refine wpList_one_imp ?_ x2
      intro a'' w'' hs hk
      rw [j1, show ks1.length = ks2.length by omega, ← j2]
      exact rest d1 d2 d3 d4 d5 e2 hs hk
  have g3 := anyL_of_quiets (lastsB_spec f3) b1 hQ (inOrder l ks0) ks0 _ _ _ i0 b2 f4 hS0 g2
  have g4 := wpAnyL_any _ _ _ _ g3
  rw [j1, j0, f1] at g4
  simpa using g4
end
end Go.Seg
