/- A region that draws its order, walked along a plan: quiet operations, forced ones, forks of two, one in the other. -/
import Derived.Test.YtkiiifmofmbniaaDoorSeg4
namespace Go.Seg
section
variable {P : Program} {md : Region.Mode} {S : World → Prop} {Q : Exit → Act → World → Prop}
inductive Plan where
  | done
  | quiet (ks : List Nat) (p : Plan)
  | only (k : Nat) (p : Plan)
  | last (k : Nat)
  | fork (k1 : Nat) (p1 : Plan) (k2 : Nat) (p2 : Plan)
def Plan.size : Plan → Nat
  | .done => 0
  | .quiet ks p => p.size + ks.length
  | .only _ p => p.size + 1
  | .last _ => 1
  | .fork _ p1 _ p2 => max p1.size p2.size + 1
def planB (md : Region.Mode) (l : List Oper) (lst : Nat) : Plan → Array Bool → Bool
  | .done, listed => (Region.ready md l.toArray listed).isEmpty
  | .quiet ks p, listed => quietB md l.toArray ks listed && (inOrder l ks).all (fun o => valueOp o.op) && ks.all (fun k => decide (k < l.length)) && decide (∀ k ∈ ks, k ≠ lst) && planB md l lst p (setAll listed ks)
  | .only k p, listed => decide (Region.ready md l.toArray listed = [k]) && decide (k < l.length) && planB md l lst p (listed.setIfInBounds k true)
  | .last k, listed => decide (k = lst) && decide (Region.ready md l.toArray listed = [k]) && decide (k < l.length) && (Region.ready md l.toArray (listed.setIfInBounds k true)).isEmpty
  | .fork k1 p1 k2 p2, listed => decide (Region.ready md l.toArray listed = [k1, k2]) && decide (k1 < l.length) && decide (k2 < l.length) && planB md l lst p1 (listed.setIfInBounds k1 true) && planB md l lst p2 (listed.setIfInBounds k2 true)
def wpPlan (P : Program) (l : List Oper) (S : World → Prop) (Q : Exit → Act → World → Prop) : Plan → Act → World → Prop
  | .done, a, w => Q .normal a w
  | .quiet ks p, a, w => wpQuiet P l.toArray S (fun a' => wpPlan P l S Q p a' w) (inOrder l ks) a
  | .only k p, a, w => wpList P l.toArray (Kept S fun a' w' => wpPlan P l S Q p a' w') (inOrder l [k]) a w
  | .last k, a, w => wpList P l.toArray (Kept (fun _ => True) fun a' w' => Q .normal a' w') (inOrder l [k]) a w
  | .fork k1 p1 k2 p2, a, w => wpList P l.toArray (Kept S fun a' w' => wpPlan P l S Q p1 a' w') (inOrder l [k1]) a w ∧ wpList P l.toArray (Kept S fun a' w' => wpPlan P l S Q p2 a' w') (inOrder l [k2]) a w
theorem op_of_list {ops : Array Oper} {S' : World → Prop} {K K' : Act → World → Prop} {a : Act} {w : World} {k : Nat} {o : Oper} (hk : ops[k]? = some o) (hkeep : S' w) (h : wpList P ops (Kept S' K) [o] a w) (hK : ∀ a' w', S' w' → K a' w' → K' a' w') : wpOp P ops Q k K' a w := by
  unfold wpOp
  simp only [hk]
  unfold wpList at h
  split
  · rename_i hw
    rw [if_pos hw] at h
    rcases h with h | ⟨_, h⟩
    · exact .inl (wp_of_kept (fun a' w' h' => hK _ _ h'.1 h'.2) h)
    · exact absurd h not_lets
  · rename_i hw
    rw [if_neg hw] at h
    exact hK _ _ hkeep h.2
theorem one_of {l : List Oper} {k : Nat} (hk : k < l.length) : ∃ o, inOrder l [k] = [o] ∧ l.toArray[k]? = some o := ⟨l[k], by simp [inOrder, hk], by simp [hk]⟩
theorem anyL_plan {l : List Oper} {lst : Nat} (hlast : Lasts md l.toArray lst) (hs : Region.noSelect l.toArray = true) (hQ : ∀ c a d v w, Q (.panic c) (Act.put a d v) w → Q (.panic c) a w) :
    ∀ (p : Plan) (x : Nat) (listed : Array Bool) (a : Act) (w : World), planB md l lst p listed = true → S w → wpPlan P l S Q p a w → wpAnyL P md l.toArray lst S Q (p.size + x) listed a w
  | .done, x, listed, a, w, hB, hS, h => by
    have he : Region.ready md l.toArray listed = [] := by simpa [planB] using hB
    cases x with
    | zero => exact ⟨he, h⟩
    | succ x => exact ⟨fun _ => h, fun i hi => by rw [he] at hi; cases hi⟩
  | .quiet ks p, x, listed, a, w, hB, hS, h => by
    simp only [planB, Bool.and_eq_true, decide_eq_true_eq] at hB
    obtain ⟨⟨⟨⟨b1, b2⟩, b3⟩, b4⟩, b5⟩ := hB
    obtain ⟨i0, j0⟩ := inOrder_map ks b3
    have g := anyL_of_quiets (P := P) (S := S) (Q := Q) hlast hs hQ (f := p.size + x) (inOrder l ks) ks listed a w i0 b1 b4 hS
      (eachF_of_quiet (inOrder l ks) a (fun o ho => List.all_eq_true.1 b2 o ho) (wpQuiet_imp (fun a' hh => anyL_plan hlast hs hQ p x _ a' w b5 hS hh) _ _ h))
    rw [j0] at g
    show wpAnyL P md l.toArray lst S Q (p.size + ks.length + x) listed a w
    rw [show p.size + ks.length + x = p.size + x + ks.length by omega]
    exact g
  | .only k p, x, listed, a, w, hB, hS, h => by
    simp only [planB, Bool.and_eq_true, decide_eq_true_eq] at hB
    obtain ⟨⟨b1, b2⟩, b3⟩ := hB
    obtain ⟨o, m1, m2⟩ := one_of b2
    simp only [wpPlan, m1] at h
    show wpAnyL P md l.toArray lst S Q (p.size + 1 + x) listed a w
    rw [show p.size + 1 + x = p.size + x + 1 by omega]
    refine ⟨fun h1 => (by rw [b1] at h1; cases h1), fun i hi => ?_⟩
    rw [b1] at hi
    obtain rfl := List.mem_singleton.1 hi
    exact op_of_list m2 hS h fun a' w' hs' hk => ⟨fun _ => hs', anyL_plan hlast hs hQ p x _ a' w' b3 hs' hk⟩
  | .last k, x, listed, a, w, hB, hS, h => by
    simp only [planB, Bool.and_eq_true, decide_eq_true_eq] at hB
    obtain ⟨⟨⟨b0, b1⟩, b2⟩, b3⟩ := hB
    obtain ⟨o, m1, m2⟩ := one_of b2
    simp only [wpPlan, m1] at h
    show wpAnyL P md l.toArray lst S Q (1 + x) listed a w
    rw [show 1 + x = x + 1 by omega]
    refine ⟨fun h1 => (by rw [b1] at h1; cases h1), fun i hi => ?_⟩
    rw [b1] at hi
    obtain rfl := List.mem_singleton.1 hi
    have he : Region.ready md l.toArray (listed.setIfInBounds i true) = [] := by simpa using b3
    refine op_of_list m2 trivial h fun a' w' _ hk => ⟨fun hne => absurd b0 hne, ?_⟩
    cases x with
    | zero => exact ⟨he, hk⟩
    | succ x => exact ⟨fun _ => hk, fun i hi => by rw [he] at hi; cases hi⟩
  | .fork k1 p1 k2 p2, x, listed, a, w, hB, hS, h => by
    simp only [planB, Bool.and_eq_true, decide_eq_true_eq] at hB
    obtain ⟨⟨⟨⟨b1, b2⟩, b3⟩, b4⟩, b5⟩ := hB
    obtain ⟨o1, m1, n1⟩ := one_of b2
    obtain ⟨o2, m2, n2⟩ := one_of b3
    simp only [wpPlan, m1, m2] at h
    show wpAnyL P md l.toArray lst S Q (max p1.size p2.size + 1 + x) listed a w
    rw [show max p1.size p2.size + 1 + x = max p1.size p2.size + x + 1 by omega]
    refine ⟨fun h1 => (by rw [b1] at h1; cases h1), fun i hi => ?_⟩
    rw [b1] at hi
    rcases List.mem_cons.1 hi with rfl | hi
    · refine op_of_list n1 hS h.1 fun a' w' hs' hk => ⟨fun _ => hs', ?_⟩
      have := anyL_plan hlast hs hQ p1 (max p1.size p2.size - p1.size + x) _ a' w' b4 hs' hk
      rwa [show p1.size + (max p1.size p2.size - p1.size + x) = max p1.size p2.size + x by omega] at this
    · obtain rfl := List.mem_singleton.1 hi
      refine op_of_list n2 hS h.2 fun a' w' hs' hk => ⟨fun _ => hs', ?_⟩
      have := anyL_plan hlast hs hQ p2 (max p1.size p2.size - p2.size + x) _ a' w' b5 hs' hk
      rwa [show p2.size + (max p1.size p2.size - p2.size + x) = max p1.size p2.size + x by omega] at this
def planRB (l : List Oper) (lst : Nat) (p : Plan) : Bool := Region.noSelect l.toArray && lastsB .any l.toArray lst && decide (p.size ≤ l.length) && planB .any l lst p (Array.replicate l.toArray.size false)
/-- THE REGION, ALONG A PLAN. S0: what every operation but the last keeps of the world. -/
theorem wp_region_plan {id : Nat} {a : Act} {w : World} {l : List Oper} (S0 : World → Prop) (p : Plan) (lst : Nat) (hm : P.follows .mixedOrders = true) (hB : planRB l lst p = true) (h0 : S0 { w with drawn := w.drawn + 1 })
    (h : ∀ W, S0 W → W = { w with drawn := w.drawn + 1 } → wpPlan P l (fun w' => ∃ u, w' = hold S0 W u) (NoPanic Q) p a W) : (Code.region id l.toArray true).wp P Q a w := by
  refine wp_region_noPanic (wp_region_any hm ?_)
  simp only [planRB, Bool.and_eq_true, decide_eq_true_eq] at hB
  obtain ⟨⟨⟨b1, b2⟩, b3⟩, b4⟩ := hB
  have g := anyL_plan (md := .any) (lastsB_spec b2) b1 (fun c a d v w h => h) p (l.length - p.size) _ a _ b4 (hold_of h0) (h _ h0 rfl)
  rw [show p.size + (l.length - p.size) = l.length by omega] at g
  have g4 := wpAnyL_any _ _ _ _ g
  simpa using g4
end
end Go.Seg
