/- A region that draws its order, walked along a plan: quiet operations, forced ones, forks of two, one in the other. Zones in memory; ranges, inside, and the check of a valid zone. Walks: the check of a valid zone. A zone of a call's own: five rows of numbers behind one variable; a copy. Walks: a copy of a zone. Walks: a block is put into a zone. Walks: the block of a frame; is a frame free? Walks: a new zone. Walks: a frame is given back to its zone. Walks: how many frames are free in a zone. -/
import Derived.Test.YtdddkfpcbfgocaaG0
namespace Go.Seg
section
variable {P : Program} {md : Region.Mode} {S : World → Prop} {Q : Exit → Act → World → Prop}
inductive Plan where
  | done
  | quiet (ks : List Nat) (p : Plan)
  | only (k : Nat) (p : Plan)
  | last (k : Nat)
  | fork (k1 : Nat) (p1 : Plan) (k2 : Nat) (p2 : Plan)
def Plan.size : Plan → Nat
  | .done => 0
  | .quiet ks p => p.size + ks.length
  | .only _ p => p.size + 1
  | .last _ => 1
  | .fork _ p1 _ p2 => max p1.size p2.size + 1
def planB (md : Region.Mode) (l : List Oper) (lst : Nat) : Plan → Array Bool → Bool
  | .done, listed => (Region.ready md l.toArray listed).isEmpty
  | .quiet ks p, listed => quietB md l.toArray ks listed && (inOrder l ks).all (fun o => valueOp o.op) && ks.all (fun k => decide (k < l.length)) && decide (∀ k ∈ ks, k ≠ lst) && planB md l lst p (setAll listed ks)
  | .only k p, listed => decide (Region.ready md l.toArray listed = [k]) && decide (k < l.length) && planB md l lst p (listed.setIfInBounds k true)
  | .last k, listed => decide (k = lst) && decide (Region.ready md l.toArray listed = [k]) && decide (k < l.length) && (Region.ready md l.toArray (listed.setIfInBounds k true)).isEmpty
  | .fork k1 p1 k2 p2, listed => decide (Region.ready md l.toArray listed = [k1, k2]) && decide (k1 < l.length) && decide (k2 < l.length) && planB md l lst p1 (listed.setIfInBounds k1 true) && planB md l lst p2 (listed.setIfInBounds k2 true)
def wpPlan (P : Program) (l : List Oper) (S : World → Prop) (Q : Exit → Act → World → Prop) : Plan → Act → World → Prop
  | .done, a, w => Q .normal a w
  | .quiet ks p, a, w => wpQuiet P l.toArray S (fun a' => wpPlan P l S Q p a' w) (inOrder l ks) a
  | .only k p, a, w => wpList P l.toArray (Kept S fun a' w' => wpPlan P l S Q p a' w') (inOrder l [k]) a w
  | .last k, a, w => wpList P l.toArray (Kept (fun _ => True) fun a' w' => Q .normal a' w') (inOrder l [k]) a w
  | .fork k1 p1 k2 p2, a, w => wpList P l.toArray (Kept S fun a' w' => wpPlan P l S Q p1 a' w') (inOrder l [k1]) a w ∧ wpList P l.toArray (Kept S fun a' w' => wpPlan P l S Q p2 a' w') (inOrder l [k2]) a w
theorem op_of_list {ops : Array Oper} {S' : World → Prop} {K K' : Act → World → Prop} {a : Act} {w : World} {k : Nat} {o : Oper} (hk : ops[k]? = some o) (hkeep : S' w) (h : wpList P ops (Kept S' K) [o] a w) (hK : ∀ a' w', S' w' → K a' w' → K' a' w') : wpOp P ops Q k K' a w := by
  unfold wpOp
  simp only [hk]
  unfold wpList at h
  split
  · rename_i hw
    rw [if_pos hw] at h
    rcases h with h | ⟨_, h⟩
    · exact .inl (wp_of_kept (fun a' w' h' => hK _ _ h'.1 h'.2) h)
    · exact absurd h not_lets
  · rename_i hw
    rw [if_neg hw] at h
    exact hK _ _ hkeep h.2
theorem one_of {l : List Oper} {k : Nat} (hk : k < l.length) : ∃ o, inOrder l [k] = [o] ∧ l.toArray[k]? = some o := ⟨l[k], by simp [inOrder, hk], by simp [hk]⟩
theorem anyL_plan {l : List Oper} {lst : Nat} (hlast : Lasts md l.toArray lst) (hs : Region.noSelect l.toArray = true) (hQ : ∀ c a d v w, Q (.panic c) (Act.put a d v) w → Q (.panic c) a w) :
    ∀ (p : Plan) (x : Nat) (listed : Array Bool) (a : Act) (w : World), planB md l lst p listed = true → S w → wpPlan P l S Q p a w → wpAnyL P md l.toArray lst S Q (p.size + x) listed a w
  | .done, x, listed, a, w, hB, hS, h => by
    have he : Region.ready md l.toArray listed = [] := by simpa [planB] using hB
    cases x with
    | zero => exact ⟨he, h⟩
    | succ x => exact ⟨fun _ => h, fun i hi => by rw [he] at hi; cases hi⟩
  | .quiet ks p, x, listed, a, w, hB, hS, h => by
    simp only [planB, Bool.and_eq_true, decide_eq_true_eq] at hB
    obtain ⟨⟨⟨⟨b1, b2⟩, b3⟩, b4⟩, b5⟩ := hB
    obtain ⟨i0, j0⟩ := inOrder_map ks b3
    have g := anyL_of_quiets (P := P) (S := S) (Q := Q) hlast hs hQ (f := p.size + x) (inOrder l ks) ks listed a w i0 b1 b4 hS
      (eachF_of_quiet (inOrder l ks) a (fun o ho => List.all_eq_true.1 b2 o ho) (wpQuiet_imp (fun a' hh => anyL_plan hlast hs hQ p x _ a' w b5 hS hh) _ _ h))
    rw [j0] at g
    show wpAnyL P md l.toArray lst S Q (p.size + ks.length + x) listed a w
    rw [show p.size + ks.length + x = p.size + x + ks.length by omega]
    exact g
  | .only k p, x, listed, a, w, hB, hS, h => by
    simp only [planB, Bool.and_eq_true, decide_eq_true_eq] at hB
    obtain ⟨⟨b1, b2⟩, b3⟩ := hB
    obtain ⟨o, m1, m2⟩ := one_of b2
    simp only [wpPlan, m1] at h
    show wpAnyL P md l.toArray lst S Q (p.size + 1 + x) listed a w
    rw [show p.size + 1 + x = p.size + x + 1 by omega]
    refine ⟨fun h1 => (by rw [b1] at h1; cases h1), fun i hi => ?_⟩
    rw [b1] at hi
    obtain rfl := List.mem_singleton.1 hi
    exact op_of_list m2 hS h fun a' w' hs' hk => ⟨fun _ => hs', anyL_plan hlast hs hQ p x _ a' w' b3 hs' hk⟩
  | .last k, x, listed, a, w, hB, hS, h => by
    simp only [planB, Bool.and_eq_true, decide_eq_true_eq] at hB
    obtain ⟨⟨⟨b0, b1⟩, b2⟩, b3⟩ := hB
    obtain ⟨o, m1, m2⟩ := one_of b2
    simp only [wpPlan, m1] at h
    show wpAnyL P md l.toArray lst S Q (1 + x) listed a w
    rw [show 1 + x = x + 1 by omega]
    refine ⟨fun h1 => (by rw [b1] at h1; cases h1), fun i hi => ?_⟩
    rw [b1] at hi
    obtain rfl := List.mem_singleton.1 hi
    have he : Region.ready md l.toArray (listed.setIfInBounds i true) = [] := by simpa using b3
    refine op_of_list m2 trivial h fun a' w' _ hk => ⟨fun hne => absurd b0 hne, ?_⟩
    cases x with
    | zero => exact ⟨he, hk⟩
    | succ x => exact ⟨fun _ => hk, fun i hi => by rw [he] at hi; cases hi⟩
  | .fork k1 p1 k2 p2, x, listed, a, w, hB, hS, h => by
    simp only [planB, Bool.and_eq_true, decide_eq_true_eq] at hB
    obtain ⟨⟨⟨⟨b1, b2⟩, b3⟩, b4⟩, b5⟩ := hB
    obtain ⟨o1, m1, n1⟩ := one_of b2
    obtain ⟨o2, m2, n2⟩ := one_of b3
    simp only [wpPlan, m1, m2] at h
    show wpAnyL P md l.toArray lst S Q (max p1.size p2.size + 1 + x) listed a w
    rw [show max p1.size p2.size + 1 + x = max p1.size p2.size + x + 1 by omega]
    refine ⟨fun h1 => (by rw [b1] at h1; cases h1), fun i hi => ?_⟩
    rw [b1] at hi
    rcases List.mem_cons.1 hi with rfl | hi
    · refine op_of_list n1 hS h.1 fun a' w' hs' hk => ⟨fun _ => hs', ?_⟩
      have := anyL_plan hlast hs hQ p1 (max p1.size p2.size - p1.size + x) _ a' w' b4 hs' hk
      rwa [show p1.size + (max p1.size p2.size - p1.size + x) = max p1.size p2.size + x by omega] at this
    · obtain rfl := List.mem_singleton.1 hi
      refine op_of_list n2 hS h.2 fun a' w' hs' hk => ⟨fun _ => hs', ?_⟩
      have := anyL_plan hlast hs hQ p2 (max p1.size p2.size - p2.size + x) _ a' w' b5 hs' hk
      rwa [show p2.size + (max p1.size p2.size - p2.size + x) = max p1.size p2.size + x by omega] at this
def planRB (l : List Oper) (lst : Nat) (p : Plan) : Bool := Region.noSelect l.toArray && lastsB .any l.toArray lst && decide (p.size ≤ l.length) && planB .any l lst p (Array.replicate l.toArray.size false)
/-- THE REGION, ALONG A PLAN. S0: what every operation but the last keeps of the world. -/
theorem wp_region_plan {id : Nat} {a : Act} {w : World} {l : List Oper} (S0 : World → Prop) (p : Plan) (lst : Nat) (hm : P.follows .mixedOrders = true) (hB : planRB l lst p = true) (h0 : S0 { w with drawn := w.drawn + 1 })
    (h : ∀ W, S0 W → W = { w with drawn := w.drawn + 1 } → wpPlan P l (fun w' => ∃ u, w' = hold S0 W u) (NoPanic Q) p a W) : (Code.region id l.toArray true).wp P Q a w := by
  refine wp_region_noPanic (wp_region_any hm ?_)
  simp only [planRB, Bool.and_eq_true, decide_eq_true_eq] at hB
  obtain ⟨⟨⟨b1, b2⟩, b3⟩, b4⟩ := hB
  have g := anyL_plan (md := .any) (lastsB_spec b2) b1 (fun c a d v w h => h) p (l.length - p.size) _ a _ b4 (hold_of h0) (h _ h0 rfl)
  rw [show p.size + (l.length - p.size) = l.length by omega] at g
  have g4 := wpAnyL_any _ _ _ _ g
  simpa using g4
end
end Go.Seg
namespace Go.Zn
open Go.Can
def insB (st ct f : Int) (k : Nat) : Bool := decide (st ≤ f ∧ f % pw k = 0 ∧ pw k ≤ ct ∧ f ≤ st + ct - pw k)
theorem insB_iff {st ct f : Int} {k : Nat} (hk : k < 5) : insB st ct f k = true ↔ R st ct f k := by
  unfold insB R
  rw [decide_eq_true_eq]
  have := pw_pos k
  omega
theorem insB_of {st ct f : Int} {k : Nat} (h : R st ct f k) : insB st ct f k = true := (insB_iff (by have := h.1; omega)).2 h
theorem insB_not {st ct f : Int} {k : Nat} (hk : k < 5) (h : ¬ R st ct f k) : insB st ct f k = false := by
  cases e : insB st ct f k with
  | false => rfl
  | true => exact absurd ((insB_iff hk).1 e) h
theorem cov_snoc : ∀ {n : Nat} {f : Int}, cov f (n + 1) = cov f n ++ [f + (n : Int)]
  | 0, f => by simp [cov]
  | n + 1, f => by
    rw [cov, cov_snoc (n := n) (f := f + 1), cov]
    rw [show f + 1 + (n : Int) = f + ((n + 1 : Nat) : Int) by omega]
    rfl
theorem cov_split {f : Int} : ∀ {n q : Nat}, q < n → ∃ r, cov f n = cov f q ++ (f + (q : Int)) :: r
  | n, 0, h => by
    obtain ⟨n, rfl⟩ : ∃ m, n = m + 1 := ⟨n - 1, by omega⟩
    exact ⟨cov (f + 1) n, by simp [cov]⟩
  | n, q + 1, h => by
    obtain ⟨n, rfl⟩ : ∃ m, n = m + 1 := ⟨n - 1, by omega⟩
    obtain ⟨r, hr⟩ := cov_split (f := f + 1) (n := n) (q := q) (by omega)
    refine ⟨r, ?_⟩
    rw [cov, hr, cov]
    rw [show f + 1 + (q : Int) = f + ((q + 1 : Nat) : Int) by omega]
    rfl
theorem covL_app {k : Nat} {l m : List Int} : covL k (l ++ m) = covL k l ++ covL k m := by simp [covL]
theorem covL_one {k : Nat} {x : Int} : covL k [x] = cov x (2 ^ k) := by simp [covL]
theorem covL_take {k : Nat} {l : List Int} {j : Nat} {x : Int} (h : l[j]? = some x) : covL k (l.take (j + 1)) = covL k (l.take j) ++ cov x (2 ^ k) := by
  rw [List.take_add_one, h, covL_app]
  show _ ++ covL k [x] = _
  rw [covL_one]
/-- A frame that the check comes to was not seen. -/
theorem mark_new {st ct : Int} {fr : Nat → List Int} (h : Vd st ct fr) {k j q : Nat} (hk : k < 5) {x : Int} (hx : (fr k)[j]? = some x) (hq : q < 2 ^ k) :
    (covN fr k ++ covL k ((fr k).take j) ++ cov x q).contains (x + (q : Int)) = false := by
  have hn := covN_nodup h (n := k + 1) (by omega)
  unfold covN at hn
  have hlt : j < (fr k).length := by rw [List.getElem?_eq_some_iff] at hx; exact hx.1
  have e : fr k = (fr k).take j ++ x :: (fr k).drop (j + 1) := by
    have hd : (fr k).drop j = x :: (fr k).drop (j + 1) := by
      rw [List.drop_eq_getElem_cons hlt]
      rw [List.getElem?_eq_getElem hlt] at hx
      rw [Option.some.inj hx]
    rw [← hd, List.take_append_drop]
  obtain ⟨r, hr⟩ := cov_split (f := x) hq
  have e2 : covL k (fr k) = covL k ((fr k).take j) ++ (cov x q ++ (x + (q : Int)) :: r) ++ covL k ((fr k).drop (j + 1)) := by
    conv => lhs; rw [e]
    rw [covL_app, show x :: (fr k).drop (j + 1) = [x] ++ (fr k).drop (j + 1) from rfl, covL_app, covL_one, hr]
    simp
  rw [e2] at hn
  cases hc : (covN fr k ++ covL k ((fr k).take j) ++ cov x q).contains (x + (q : Int)) with
  | false => rfl
  | true =>
    have hm : x + (q : Int) ∈ covN fr k ++ covL k ((fr k).take j) ++ cov x q := by simpa using hc
    have hn2 : ((covN fr k ++ covL k ((fr k).take j) ++ cov x q) ++ ((x + (q : Int)) :: (r ++ covL k ((fr k).drop (j + 1))))).Nodup := by
      simpa using hn
    rw [List.nodup_append] at hn2
    exact (hn2.2.2 _ hm _ (by simp) rfl).elim
/-- Two buddies are not both free. -/
theorem no_bud {st ct : Int} {fr : Nat → List Int} (h : Vd st ct fr) {k : Nat} (hk : k < 4) {x : Int} (hx : x ∈ fr k) (hb : bud k x ∈ fr k) : ¬ R st ct (par x k) (k + 1) := by
  intro hr
  have hal := (h.adm (by omega) hx).2.2.2
  rcases bud_spec hal hk with ⟨_, b2, b3⟩ | ⟨_, b2, b3⟩
  · rw [b3] at hr
    rw [b2] at hb
    exact h.v.nob hr ⟨by omega, hx⟩ ⟨by omega, hb⟩
  · rw [b3] at hr
    rw [b2] at hb
    exact h.v.nob hr ⟨by omega, hb⟩ (by rw [show x - pw k + pw k = x by omega]; exact ⟨by omega, hx⟩)
theorem bud_min {k : Nat} (hk : k < 4) {x : Int} (h : x % pw k = 0) : min x (bud k x) = par x k := by
  have := pw_pos k
  rcases bud_spec h hk with ⟨_, b2, b3⟩ | ⟨_, b2, b3⟩ <;> rw [b2, b3] <;> omega
end Go.Zn
namespace Go.Proofs.Ytdddkfpcbfgocaa
open Go.RowKit Go.Over Go.Zn Go.Can Go.Seg Go.Grow
/-- Cells that read as a zone. -/
structure ZV (w : World) (cs : List Value) (z : Z) : Prop where
  len : cs.length = 10
  nd : cs[0]? = some (.int .i64 z.nd)
  kd : cs[1]? = some (.int .i64 z.kd)
  st : cs[2]? = some (.int .i64 z.st)
  ct : cs[3]? = some (.int .i64 z.ct)
  mn : cs[4]? = some (.int .i64 z.mn)
  fr : ∀ k, k < 5 → ∃ v, cs[5 + k]? = some v ∧ Sl w v (z.fr k)
theorem ZV.below {w w' : World} {cs : List Value} {z : Z} (h : ZV w cs z) (hb : Below w.heap.size w w') : ZV w' cs z :=
  ⟨h.len, h.nd, h.kd, h.st, h.ct, h.mn, fun i hi => by obtain ⟨v, h1, h2⟩ := h.fr i hi; exact ⟨v, h1, h2.below hb⟩⟩
def Rz (w : World) (v : Value) (z : Z) : Prop := ∃ cs : List Value, v = .agg cs.toArray ∧ ZV w cs z
theorem Rz.below {w w' : World} {v : Value} {z : Z} (h : Rz w v z) (hb : Below w.heap.size w w') : Rz w' v z := by
  obtain ⟨cs, h1, h2⟩ := h
  exact ⟨cs, h1, h2.below hb⟩
section
variable {w : World} {cs : List Value} {z : Z} {g : Nat}
theorem ZV.list (h : ZV w cs z) (hB : Blk w g 39 cs) {k : Nat} (hk : k < 5) :
    ∃ a n c, w.cell? ⟨g, 5 + k, none⟩ = some (.slice a n c) ∧ (z.fr k).length = n ∧ n ≤ c ∧ c ≤ maxLen ∧ (a = none → c = 0) ∧ Ints w a (z.fr k) := by
  obtain ⟨v, h1, a, c, rfl, h2⟩ := h.fr k hk
  exact ⟨a, _, c, by rw [hB.cell]; exact h1, rfl, h2⟩
theorem ZV.c0 (h : ZV w cs z) (hB : Blk w g 39 cs) : w.cell? ⟨g, 0, none⟩ = some (.int .i64 z.nd) := by rw [hB.cell]; exact h.nd
theorem ZV.c1 (h : ZV w cs z) (hB : Blk w g 39 cs) : w.cell? ⟨g, 1, none⟩ = some (.int .i64 z.kd) := by rw [hB.cell]; exact h.kd
theorem ZV.c2 (h : ZV w cs z) (hB : Blk w g 39 cs) : w.cell? ⟨g, 2, none⟩ = some (.int .i64 z.st) := by rw [hB.cell]; exact h.st
theorem ZV.c3 (h : ZV w cs z) (hB : Blk w g 39 cs) : w.cell? ⟨g, 3, none⟩ = some (.int .i64 z.ct) := by rw [hB.cell]; exact h.ct
theorem ZV.c4 (h : ZV w cs z) (hB : Blk w g 39 cs) : w.cell? ⟨g, 4, none⟩ = some (.int .i64 z.mn) := by rw [hB.cell]; exact h.mn
end
/-- A variable that holds a zone in a call that makes new memory alone. -/
structure ZX (w : World) (g : Nat) (cs : List Value) (z : Z) (W : World) : Prop where
  b : Below w.heap.size w W
  l : w.heap.size ≤ g
  x : Blk W g 39 cs
  v : ZV W cs z
theorem ZX.below {w W W' : World} {g : Nat} {cs : List Value} {z : Z} (h : ZX w g cs z W) (hb : Below W.heap.size W W') : ZX w g cs z W' := ⟨below_then h.b hb, h.l, h.x.later hb, h.v.below hb⟩
theorem ZX.rz {w W : World} {g : Nat} {cs : List Value} {z : Z} (h : ZX w g cs z W) : Rz W (.agg cs.toArray) z := ⟨cs, rfl, h.v⟩
theorem ZX.new {w : World} {cs : List Value} {z : Z} (h : ZV w cs z) : ZX w w.heap.size cs z (w.alloc (.cells cs.toArray 39)) := ⟨below_box _ _, Nat.le_refl _, Blk.new _ _ _ _ rfl, h.below (below_box _ _)⟩
theorem ZV.open {w : World} {cs : List Value} {z : Z} (h : ZV w cs z) : ∃ s0 s1 s2 s3 s4, cs = [.int .i64 z.nd, .int .i64 z.kd, .int .i64 z.st, .int .i64 z.ct, .int .i64 z.mn, s0, s1, s2, s3, s4] := by
  obtain ⟨h1, h2, h3, h4, h5, h6, _⟩ := h
  match cs, h1 with
  | [a0, a1, a2, a3, a4, a5, a6, a7, a8, a9], _ =>
    simp at h2 h3 h4 h5 h6
    subst h2 h3 h4 h5 h6
    exact ⟨a5, a6, a7, a8, a9, rfl⟩
set_option maxRecDepth 100000 in set_option maxHeartbeats 3200000 in
theorem ranges (v : Value) (z : Z) (w : World) (H : Rz w v z) (hr : Rng z) : Calls Try.prog 19 #[v] w fun e w' => e = .returned (.bool true) ∧ Below w.heap.size w w' := by
  obtain ⟨r1, r2, r3, r4, r5, r6, r7, r8⟩ := hr
  obtain ⟨cs, rfl, hV⟩ := H
  obtain ⟨s0, s1, s2, s3, s4, rfl⟩ := hV.open
  have X0 := ZX.new hV
  clear hV
  go_enter Try.func19, Try.ntmps19
  go_upto_region 1 with fail
  obtain ⟨w1, hw1⟩ : ∃ W, W = w.alloc (.cells #[.int .i64 z.nd, .int .i64 z.kd, .int .i64 z.st, .int .i64 z.ct, .int .i64 z.mn, s0, s1, s2, s3, s4] 39) := ⟨_, rfl⟩
  have X1 : ZX w w.heap.size [.int .i64 z.nd, .int .i64 z.kd, .int .i64 z.st, .int .i64 z.ct, .int .i64 z.mn, s0, s1, s2, s3, s4] z w1 := by rw [hw1]; exact X0
  rw [← hw1]
  obtain ⟨g, hg0⟩ : ∃ g, w.heap.size = g := ⟨_, rfl⟩
  rw [hg0] at X1 ⊢
  clear hw1 X0 hg0
  have q0 := X1.v.c0 X1.x
  have q1 := X1.v.c1 X1.x
  have q2 := X1.v.c2 X1.x
  have q3 := X1.v.c3 X1.x
  have q4 := X1.v.c4 X1.x
  rcases r3 with e | e
  · rw [e] at q1
    clear e
    go_wp2
    go_ret
    exact ⟨rfl, X1.b⟩
  · rw [e] at q1
    clear e
    go_wp2
    go_ret
    exact ⟨rfl, X1.b⟩
set_option maxRecDepth 100000 in set_option maxHeartbeats 3200000 in
theorem inside_0 (v : Value) (z : Z) (f : Int) (w : World) (H : Rz w v z) (hr : Rng z) : Calls Try.prog 20 #[v, .int .i64 f, .int .i64 0] w fun e w' => e = .returned (.bool (insB z.st z.ct f 0)) ∧ Below w.heap.size w w' := by
  obtain ⟨_, _, _, r4, r5, r6, _, _⟩ := hr
  obtain ⟨E, hE⟩ : ∃ E, insB z.st z.ct f 0 = E := ⟨_, rfl⟩
  rw [hE]
  unfold insB at hE
  rw [show pw 0 = 1 from rfl] at hE
  have HE := Lib.hid hE
  clear hE
  obtain ⟨cs, rfl, hV⟩ := H
  obtain ⟨s0, s1, s2, s3, s4, rfl⟩ := hV.open
  have X0 := ZX.new hV
  clear hV
  go_enter Try.func20, Try.ntmps20
  go_upto_region 1 with fail
  obtain ⟨w1, hw1⟩ : ∃ W, W = w.alloc (.cells #[.int .i64 z.nd, .int .i64 z.kd, .int .i64 z.st, .int .i64 z.ct, .int .i64 z.mn, s0, s1, s2, s3, s4] 39) := ⟨_, rfl⟩
  have X1 : ZX w w.heap.size [.int .i64 z.nd, .int .i64 z.kd, .int .i64 z.st, .int .i64 z.ct, .int .i64 z.mn, s0, s1, s2, s3, s4] z w1 := by rw [hw1]; exact X0
  rw [← hw1]
  obtain ⟨g, hg0⟩ : ∃ g, w.heap.size = g := ⟨_, rfl⟩
  rw [hg0] at X1 ⊢
  clear hw1 X0 hg0
  have q0 := X1.v.c0 X1.x
  have q1 := X1.v.c1 X1.x
  have q2 := X1.v.c2 X1.x
  have q3 := X1.v.c3 X1.x
  have q4 := X1.v.c4 X1.x
  by_cases hs : z.st ≤ f
  · obtain ⟨q, hq⟩ : ∃ q, f % 1 = q := ⟨_, rfl⟩
    have hq2 : f.tmod 1 = q := by rw [Int.tmod_eq_emod_of_nonneg (by omega)]; exact hq
    have HQ := Lib.hid hq
    clear hq
    go_wp2
    all_goals
      go_ret
      refine ⟨ret_bool ?_, X1.b⟩
      rw [← HE.out, HQ.out, Bool.eq_iff_iff]
      first
        | (simp; done)
        | (simp; omega)
        | (simp at *; omega)
  · go_wp2
    go_ret
    refine ⟨ret_bool ?_, X1.b⟩
    rw [← HE.out, Bool.eq_iff_iff]
    first
      | (simp; done)
      | (simp; omega)
set_option maxRecDepth 100000 in set_option maxHeartbeats 3200000 in
theorem inside_1 (v : Value) (z : Z) (f : Int) (w : World) (H : Rz w v z) (hr : Rng z) : Calls Try.prog 20 #[v, .int .i64 f, .int .i64 1] w fun e w' => e = .returned (.bool (insB z.st z.ct f 1)) ∧ Below w.heap.size w w' := by
  obtain ⟨_, _, _, r4, r5, r6, _, _⟩ := hr
  obtain ⟨E, hE⟩ : ∃ E, insB z.st z.ct f 1 = E := ⟨_, rfl⟩
  rw [hE]
  unfold insB at hE
  rw [show pw 1 = 2 from rfl] at hE
  have HE := Lib.hid hE
  clear hE
  obtain ⟨cs, rfl, hV⟩ := H
  obtain ⟨s0, s1, s2, s3, s4, rfl⟩ := hV.open
  have X0 := ZX.new hV
  clear hV
  go_enter Try.func20, Try.ntmps20
  go_upto_region 1 with fail
  obtain ⟨w1, hw1⟩ : ∃ W, W = w.alloc (.cells #[.int .i64 z.nd, .int .i64 z.kd, .int .i64 z.st, .int .i64 z.ct, .int .i64 z.mn, s0, s1, s2, s3, s4] 39) := ⟨_, rfl⟩
  have X1 : ZX w w.heap.size [.int .i64 z.nd, .int .i64 z.kd, .int .i64 z.st, .int .i64 z.ct, .int .i64 z.mn, s0, s1, s2, s3, s4] z w1 := by rw [hw1]; exact X0
  rw [← hw1]
  obtain ⟨g, hg0⟩ : ∃ g, w.heap.size = g := ⟨_, rfl⟩
  rw [hg0] at X1 ⊢
  clear hw1 X0 hg0
  have q0 := X1.v.c0 X1.x
  have q1 := X1.v.c1 X1.x
  have q2 := X1.v.c2 X1.x
  have q3 := X1.v.c3 X1.x
  have q4 := X1.v.c4 X1.x
  by_cases hs : z.st ≤ f
  · obtain ⟨q, hq⟩ : ∃ q, f % 2 = q := ⟨_, rfl⟩
    have hq2 : f.tmod 2 = q := by rw [Int.tmod_eq_emod_of_nonneg (by omega)]; exact hq
    have HQ := Lib.hid hq
    clear hq
    go_wp2
    all_goals
      go_ret
      refine ⟨ret_bool ?_, X1.b⟩
      rw [← HE.out, HQ.out, Bool.eq_iff_iff]
      first
        | (simp; done)
        | (simp; omega)
        | (simp at *; omega)
  · go_wp2
    go_ret
    refine ⟨ret_bool ?_, X1.b⟩
    rw [← HE.out, Bool.eq_iff_iff]
    first
      | (simp; done)
      | (simp; omega)
set_option maxRecDepth 100000 in set_option maxHeartbeats 3200000 in
theorem inside_2 (v : Value) (z : Z) (f : Int) (w : World) (H : Rz w v z) (hr : Rng z) : Calls Try.prog 20 #[v, .int .i64 f, .int .i64 2] w fun e w' => e = .returned (.bool (insB z.st z.ct f 2)) ∧ Below w.heap.size w w' := by
  obtain ⟨_, _, _, r4, r5, r6, _, _⟩ := hr
  obtain ⟨E, hE⟩ : ∃ E, insB z.st z.ct f 2 = E := ⟨_, rfl⟩
  rw [hE]
  unfold insB at hE
  rw [show pw 2 = 4 from rfl] at hE
  have HE := Lib.hid hE
  clear hE
  obtain ⟨cs, rfl, hV⟩ := H
  obtain ⟨s0, s1, s2, s3, s4, rfl⟩ := hV.open
  have X0 := ZX.new hV
  clear hV
  go_enter Try.func20, Try.ntmps20
  go_upto_region 1 with fail
  obtain ⟨w1, hw1⟩ : ∃ W, W = w.alloc (.cells #[.int .i64 z.nd, .int .i64 z.kd, .int .i64 z.st, .int .i64 z.ct, .int .i64 z.mn, s0, s1, s2, s3, s4] 39) := ⟨_, rfl⟩
  have X1 : ZX w w.heap.size [.int .i64 z.nd, .int .i64 z.kd, .int .i64 z.st, .int .i64 z.ct, .int .i64 z.mn, s0, s1, s2, s3, s4] z w1 := by rw [hw1]; exact X0
  rw [← hw1]
  obtain ⟨g, hg0⟩ : ∃ g, w.heap.size = g := ⟨_, rfl⟩
  rw [hg0] at X1 ⊢
  clear hw1 X0 hg0
  have q0 := X1.v.c0 X1.x
  have q1 := X1.v.c1 X1.x
  have q2 := X1.v.c2 X1.x
  have q3 := X1.v.c3 X1.x
  have q4 := X1.v.c4 X1.x
  by_cases hs : z.st ≤ f
  · obtain ⟨q, hq⟩ : ∃ q, f % 4 = q := ⟨_, rfl⟩
    have hq2 : f.tmod 4 = q := by rw [Int.tmod_eq_emod_of_nonneg (by omega)]; exact hq
    have HQ := Lib.hid hq
    clear hq
    go_wp2
    all_goals
      go_ret
      refine ⟨ret_bool ?_, X1.b⟩
      rw [← HE.out, HQ.out, Bool.eq_iff_iff]
      first
        | (simp; done)
        | (simp; omega)
        | (simp at *; omega)
  · go_wp2
    go_ret
    refine ⟨ret_bool ?_, X1.b⟩
    rw [← HE.out, Bool.eq_iff_iff]
    first
      | (simp; done)
      | (simp; omega)
set_option maxRecDepth 100000 in set_option maxHeartbeats 3200000 in
theorem inside_3 (v : Value) (z : Z) (f : Int) (w : World) (H : Rz w v z) (hr : Rng z) : Calls Try.prog 20 #[v, .int .i64 f, .int .i64 3] w fun e w' => e = .returned (.bool (insB z.st z.ct f 3)) ∧ Below w.heap.size w w' := by
  obtain ⟨_, _, _, r4, r5, r6, _, _⟩ := hr
  obtain ⟨E, hE⟩ : ∃ E, insB z.st z.ct f 3 = E := ⟨_, rfl⟩
  rw [hE]
  unfold insB at hE
  rw [show pw 3 = 8 from rfl] at hE
  have HE := Lib.hid hE
  clear hE
  obtain ⟨cs, rfl, hV⟩ := H
  obtain ⟨s0, s1, s2, s3, s4, rfl⟩ := hV.open
  have X0 := ZX.new hV
  clear hV
  go_enter Try.func20, Try.ntmps20
  go_upto_region 1 with fail
  obtain ⟨w1, hw1⟩ : ∃ W, W = w.alloc (.cells #[.int .i64 z.nd, .int .i64 z.kd, .int .i64 z.st, .int .i64 z.ct, .int .i64 z.mn, s0, s1, s2, s3, s4] 39) := ⟨_, rfl⟩
  have X1 : ZX w w.heap.size [.int .i64 z.nd, .int .i64 z.kd, .int .i64 z.st, .int .i64 z.ct, .int .i64 z.mn, s0, s1, s2, s3, s4] z w1 := by rw [hw1]; exact X0
  rw [← hw1]
  obtain ⟨g, hg0⟩ : ∃ g, w.heap.size = g := ⟨_, rfl⟩
  rw [hg0] at X1 ⊢
  clear hw1 X0 hg0
  have q0 := X1.v.c0 X1.x
  have q1 := X1.v.c1 X1.x
  have q2 := X1.v.c2 X1.x
  have q3 := X1.v.c3 X1.x
  have q4 := X1.v.c4 X1.x
  by_cases hs : z.st ≤ f
  · obtain ⟨q, hq⟩ : ∃ q, f % 8 = q := ⟨_, rfl⟩
    have hq2 : f.tmod 8 = q := by rw [Int.tmod_eq_emod_of_nonneg (by omega)]; exact hq
    have HQ := Lib.hid hq
    clear hq
    go_wp2
    all_goals
      go_ret
      refine ⟨ret_bool ?_, X1.b⟩
      rw [← HE.out, HQ.out, Bool.eq_iff_iff]
      first
        | (simp; done)
        | (simp; omega)
        | (simp at *; omega)
  · go_wp2
    go_ret
    refine ⟨ret_bool ?_, X1.b⟩
    rw [← HE.out, Bool.eq_iff_iff]
    first
      | (simp; done)
      | (simp; omega)
set_option maxRecDepth 100000 in set_option maxHeartbeats 3200000 in
theorem inside_4 (v : Value) (z : Z) (f : Int) (w : World) (H : Rz w v z) (hr : Rng z) : Calls Try.prog 20 #[v, .int .i64 f, .int .i64 4] w fun e w' => e = .returned (.bool (insB z.st z.ct f 4)) ∧ Below w.heap.size w w' := by
  obtain ⟨_, _, _, r4, r5, r6, _, _⟩ := hr
  obtain ⟨E, hE⟩ : ∃ E, insB z.st z.ct f 4 = E := ⟨_, rfl⟩
  rw [hE]
  unfold insB at hE
  rw [show pw 4 = 16 from rfl] at hE
  have HE := Lib.hid hE
  clear hE
  obtain ⟨cs, rfl, hV⟩ := H
  obtain ⟨s0, s1, s2, s3, s4, rfl⟩ := hV.open
  have X0 := ZX.new hV
  clear hV
  go_enter Try.func20, Try.ntmps20
  go_upto_region 1 with fail
  obtain ⟨w1, hw1⟩ : ∃ W, W = w.alloc (.cells #[.int .i64 z.nd, .int .i64 z.kd, .int .i64 z.st, .int .i64 z.ct, .int .i64 z.mn, s0, s1, s2, s3, s4] 39) := ⟨_, rfl⟩
  have X1 : ZX w w.heap.size [.int .i64 z.nd, .int .i64 z.kd, .int .i64 z.st, .int .i64 z.ct, .int .i64 z.mn, s0, s1, s2, s3, s4] z w1 := by rw [hw1]; exact X0
  rw [← hw1]
  obtain ⟨g, hg0⟩ : ∃ g, w.heap.size = g := ⟨_, rfl⟩
  rw [hg0] at X1 ⊢
  clear hw1 X0 hg0
  have q0 := X1.v.c0 X1.x
  have q1 := X1.v.c1 X1.x
  have q2 := X1.v.c2 X1.x
  have q3 := X1.v.c3 X1.x
  have q4 := X1.v.c4 X1.x
  by_cases hs : z.st ≤ f
  · obtain ⟨q, hq⟩ : ∃ q, f % 16 = q := ⟨_, rfl⟩
    have hq2 : f.tmod 16 = q := by rw [Int.tmod_eq_emod_of_nonneg (by omega)]; exact hq
    have HQ := Lib.hid hq
    clear hq
    go_wp2
    all_goals
      go_ret
      refine ⟨ret_bool ?_, X1.b⟩
      rw [← HE.out, HQ.out, Bool.eq_iff_iff]
      first
        | (simp; done)
        | (simp; omega)
        | (simp at *; omega)
  · go_wp2
    go_ret
    refine ⟨ret_bool ?_, X1.b⟩
    rw [← HE.out, Bool.eq_iff_iff]
    first
      | (simp; done)
      | (simp; omega)
theorem inside (v : Value) (z : Z) (f : Int) (k : Nat) (hk : k < 5) (w : World) (H : Rz w v z) (hr : Rng z) : Calls Try.prog 20 #[v, .int .i64 f, .int .i64 k] w fun e w' => e = .returned (.bool (insB z.st z.ct f k)) ∧ Below w.heap.size w w' := by
  rcases (show k = 0 ∨ k = 1 ∨ k = 2 ∨ k = 3 ∨ k = 4 by omega) with rfl | rfl | rfl | rfl | rfl
  · exact inside_0 v z f w H hr
  · exact inside_1 v z f w H hr
  · exact inside_2 v z f w H hr
  · exact inside_3 v z f w H hr
  · exact inside_4 v z f w H hr
end Go.Proofs.Ytdddkfpcbfgocaa
namespace Go.Zn
open Go.Can
theorem asc_len : ∀ {l : List Int} {a : Int} {m : Nat}, List.Pairwise (· < ·) l → (∀ x ∈ l, a ≤ x ∧ x < a + m) → l.length ≤ m
  | [], _, _, _, _ => Nat.zero_le _
  | x :: r, a, 0, _, h => by have := h x (by simp); omega
  | x :: r, a, m + 1, hp, h => by
    rw [List.pairwise_cons] at hp
    have h0 := h x (by simp)
    have := asc_len (l := r) (a := a + 1) (m := m) hp.2 fun y hy => by
      have h1 := h y (by simp [hy]); have h2 := hp.1 y hy; omega
    simp only [List.length_cons]; omega
theorem VZ.len {z : Z} (h : VZ z) {k : Nat} (hk : k < 5) : (z.fr k).length ≤ 256 := by
  refine asc_len (a := 0) (h.l.asc k hk) fun x hx => ?_
  obtain ⟨_, h2, h3, _⟩ := h.l.adm hk hx
  have := h.r.st0; have := h.r.ct1; have := pw_pos k
  omega
theorem VZ.at {z : Z} (h : VZ z) {k : Nat} (hk : k < 5) {x : Int} (hx : x ∈ z.fr k) : 0 ≤ x ∧ x + pw k ≤ 256 ∧ insB z.st z.ct x k = true := by
  have hr := h.l.adm hk hx
  have h2 := hr.2.1; have h3 := hr.2.2.1
  have := h.r.st0; have := h.r.ct1
  exact ⟨by omega, by omega, insB_of hr⟩
end Go.Zn
namespace Go.Proofs.Ytdddkfpcbfgocaa
open Go.RowKit Go.Over Go.Zn Go.Can Go.Seg Go.Grow
theorem idx_0 (s0 s1 s2 s3 s4 : Value) (W : World) : (Instr.index 37 (.agg #[s0, s1, s2, s3, s4]) (.int .i64 0)).run Try.prog W = .ok s0 W := by
  simp [Instr.index, run_underlying Try.underlying37, asIntOf, go_sem]
theorem idx_1 (s0 s1 s2 s3 s4 : Value) (W : World) : (Instr.index 37 (.agg #[s0, s1, s2, s3, s4]) (.int .i64 1)).run Try.prog W = .ok s1 W := by
  simp [Instr.index, run_underlying Try.underlying37, asIntOf, go_sem]
theorem idx_2 (s0 s1 s2 s3 s4 : Value) (W : World) : (Instr.index 37 (.agg #[s0, s1, s2, s3, s4]) (.int .i64 2)).run Try.prog W = .ok s2 W := by
  simp [Instr.index, run_underlying Try.underlying37, asIntOf, go_sem]
theorem idx_3 (s0 s1 s2 s3 s4 : Value) (W : World) : (Instr.index 37 (.agg #[s0, s1, s2, s3, s4]) (.int .i64 3)).run Try.prog W = .ok s3 W := by
  simp [Instr.index, run_underlying Try.underlying37, asIntOf, go_sem]
theorem idx_4 (s0 s1 s2 s3 s4 : Value) (W : World) : (Instr.index 37 (.agg #[s0, s1, s2, s3, s4]) (.int .i64 4)).run Try.prog W = .ok s4 W := by
  simp [Instr.index, run_underlying Try.underlying37, asIntOf, go_sem]
/-- The five lists, loaded whole. -/
theorem ZV.row {w : World} {cs : List Value} {z : Z} (h : ZV w cs z) :
    ∃ s0 s1 s2 s3 s4, (∀ W g, Blk W g 39 cs → W.cell? ⟨g, 5, none⟩ = some s0 ∧ W.cell? ⟨g, 6, none⟩ = some s1 ∧ W.cell? ⟨g, 7, none⟩ = some s2 ∧ W.cell? ⟨g, 8, none⟩ = some s3 ∧ W.cell? ⟨g, 9, none⟩ = some s4) ∧
      ∀ W, ZV W cs z → ∀ k, k < 5 → ∃ a n c, (∀ W, (Instr.index 37 (.agg #[s0, s1, s2, s3, s4]) (.int .i64 (k : Nat))).run Try.prog W = .ok (.slice a n c) W) ∧ (z.fr k).length = n ∧ n ≤ c ∧ c ≤ maxLen ∧ (a = none → c = 0) ∧ Ints W a (z.fr k) := by
  obtain ⟨s0, h0, _⟩ := h.fr 0 (by omega)
  obtain ⟨s1, h1, _⟩ := h.fr 1 (by omega)
  obtain ⟨s2, h2, _⟩ := h.fr 2 (by omega)
  obtain ⟨s3, h3, _⟩ := h.fr 3 (by omega)
  obtain ⟨s4, h4, _⟩ := h.fr 4 (by omega)
  refine ⟨s0, s1, s2, s3, s4, fun W g hB => ?_, fun W hV k hk => ?_⟩
  · refine ⟨?_, ?_, ?_, ?_, ?_⟩ <;> rw [hB.cell] <;> assumption
  · rcases (show k = 0 ∨ k = 1 ∨ k = 2 ∨ k = 3 ∨ k = 4 by omega) with rfl | rfl | rfl | rfl | rfl
    · obtain ⟨v, q1, a, c, rfl, q2⟩ := hV.fr 0 (by omega)
      rw [h0] at q1
      cases q1
      exact ⟨a, _, c, fun W => idx_0 _ _ _ _ _ W, rfl, q2⟩
    · obtain ⟨v, q1, a, c, rfl, q2⟩ := hV.fr 1 (by omega)
      rw [h1] at q1
      cases q1
      exact ⟨a, _, c, fun W => idx_1 _ _ _ _ _ W, rfl, q2⟩
    · obtain ⟨v, q1, a, c, rfl, q2⟩ := hV.fr 2 (by omega)
      rw [h2] at q1
      cases q1
      exact ⟨a, _, c, fun W => idx_2 _ _ _ _ _ W, rfl, q2⟩
    · obtain ⟨v, q1, a, c, rfl, q2⟩ := hV.fr 3 (by omega)
      rw [h3] at q1
      cases q1
      exact ⟨a, _, c, fun W => idx_3 _ _ _ _ _ W, rfl, q2⟩
    · obtain ⟨v, q1, a, c, rfl, q2⟩ := hV.fr 4 (by omega)
      rw [h4] at q1
      cases q1
      exact ⟨a, _, c, fun W => idx_4 _ _ _ _ _ W, rfl, q2⟩
theorem wrap_pow {k : Nat} (h : k < 5) : wrap64 ((2 : Int) ^ k) = ((2 ^ k : Nat) : Int) := by
  rcases (show k = 0 ∨ k = 1 ∨ k = 2 ∨ k = 3 ∨ k = 4 by omega) with rfl | rfl | rfl | rfl | rfl <;> (unfold wrap64; decide)
theorem pow_le16 {k : Nat} (h : k < 5) : 2 ^ k ≤ 16 := by
  rcases (show k = 0 ∨ k = 1 ∨ k = 2 ∨ k = 3 ∨ k = 4 by omega) with rfl | rfl | rfl | rfl | rfl <;> decide
theorem xor_0 {x : Int} (h0 : 0 ≤ x) (h1 : x < 256) (h2 : x % 1 = 0) : bits BinOp.xor IntKind.i64 x 1 = bud 0 x := by
  have key : ∀ n : Fin 256, ((n.val : Nat) : Int) % 1 = 0 → bits BinOp.xor IntKind.i64 ((n.val : Nat) : Int) 1 = bud 0 ((n.val : Nat) : Int) := by decide +kernel
  have h := key ⟨x.toNat, by omega⟩
  rw [show ((x.toNat : Nat) : Int) = x by omega] at h
  exact h h2
theorem xor_1 {x : Int} (h0 : 0 ≤ x) (h1 : x < 256) (h2 : x % 2 = 0) : bits BinOp.xor IntKind.i64 x 2 = bud 1 x := by
  have key : ∀ n : Fin 256, ((n.val : Nat) : Int) % 2 = 0 → bits BinOp.xor IntKind.i64 ((n.val : Nat) : Int) 2 = bud 1 ((n.val : Nat) : Int) := by decide +kernel
  have h := key ⟨x.toNat, by omega⟩
  rw [show ((x.toNat : Nat) : Int) = x by omega] at h
  exact h h2
theorem xor_2 {x : Int} (h0 : 0 ≤ x) (h1 : x < 256) (h2 : x % 4 = 0) : bits BinOp.xor IntKind.i64 x 4 = bud 2 x := by
  have key : ∀ n : Fin 256, ((n.val : Nat) : Int) % 4 = 0 → bits BinOp.xor IntKind.i64 ((n.val : Nat) : Int) 4 = bud 2 ((n.val : Nat) : Int) := by decide +kernel
  have h := key ⟨x.toNat, by omega⟩
  rw [show ((x.toNat : Nat) : Int) = x by omega] at h
  exact h h2
theorem xor_3 {x : Int} (h0 : 0 ≤ x) (h1 : x < 256) (h2 : x % 8 = 0) : bits BinOp.xor IntKind.i64 x 8 = bud 3 x := by
  have key : ∀ n : Fin 256, ((n.val : Nat) : Int) % 8 = 0 → bits BinOp.xor IntKind.i64 ((n.val : Nat) : Int) 8 = bud 3 ((n.val : Nat) : Int) := by decide +kernel
  have h := key ⟨x.toNat, by omega⟩
  rw [show ((x.toNat : Nat) : Int) = x by omega] at h
  exact h h2
theorem xor_bud {k : Nat} (hk : k < 4) {x : Int} (h0 : 0 ≤ x) (h1 : x < 256) (h2 : x % pw k = 0) : bits BinOp.xor IntKind.i64 x ((2 ^ k : Nat) : Int) = bud k x := by
  rcases (show k = 0 ∨ k = 1 ∨ k = 2 ∨ k = 3 by omega) with rfl | rfl | rfl | rfl
  · exact xor_0 h0 h1 h2
  · exact xor_1 h0 h1 h2
  · exact xor_2 h0 h1 h2
  · exact xor_3 h0 h1 h2
def falses : Array Value := Array.replicate 256 (.bool false)
theorem zero_seen (W : World) : (zeroValue 121).run Try.prog W = .ok (.agg falses) W := by
  have h : (Try.prog.info? 121).map (fun i => i.zero) = some (some (.agg falses)) := by kernel_rfl
  cases hi : Try.prog.info? 121 with
  | none => rw [hi] at h; cases h
  | some i =>
    rw [hi] at h
    simp at h
    simp [zeroValue, typeInfo, hi, h, go_sem]
def markL (C : List Int) : List Value := (List.range 256).map fun (i : Nat) => .bool (C.contains (i : Int))
theorem markL_len (C : List Int) : (markL C).length = 256 := by simp [markL]
theorem markL_get (C : List Int) {i : Nat} (h : i < 256) : (markL C)[i]? = some (.bool (C.contains (i : Int))) := by simp [markL, h]
theorem markL_nil : falses = (markL []).toArray := by
  apply Array.ext'
  unfold falses
  rw [Array.toList_replicate]
  apply List.ext_getElem?
  intro k
  rcases Nat.lt_or_ge k 256 with hk | hk
  · rw [markL_get _ hk, List.getElem?_replicate, if_pos hk]; rfl
  · rw [List.getElem?_eq_none (by rw [List.length_replicate]; exact hk), List.getElem?_eq_none (by rw [markL_len]; exact hk)]
theorem markL_put (C : List Int) {i : Nat} : (markL C).set i (.bool true) = markL (C ++ [(i : Int)]) := by
  apply List.ext_getElem?
  intro k
  rcases Nat.lt_or_ge k 256 with hk | hk
  · rw [markL_get _ hk]
    by_cases hik : i = k
    · subst hik
      rw [List.getElem?_set_self (by rw [markL_len]; exact hk)]
      simp
    · rw [List.getElem?_set_ne hik, markL_get _ hk]
      have : ¬ (k : Int) = (i : Int) := by omega
      simp [this]
  · rw [List.getElem?_eq_none (by rw [List.length_set, markL_len]; exact hk), List.getElem?_eq_none (by rw [markL_len]; exact hk)]
theorem infoZ : (Try.prog.info? 39).map (·.size) = some 10 := by kernel_rfl
section
variable {ops : Array Oper} {rest : List Oper} {d i : Nat} {ty : TypeId} {pos : String} {af : Array Edge} {a : Act} {w : World} {Q : Exit → Act → World → Prop} {g : Nat} {cs : List Value}
/-- A zone is loaded whole. -/
theorem ld (hx : a.eval (.tmp i) = .pointer (some ⟨g, 0, none⟩)) (hB : Blk w g 39 cs) (hl : cs.length = 10) (h : wpList Try.prog ops Q rest (a.put (some d) (.agg cs.toArray)) w) :
    wpList Try.prog ops Q ({ dst := some d, op := .load 39 (.tmp i), type := ty, pos := pos, after := af, guard := none } :: rest) a w :=
  wpList_load_row rfl 39 (.tmp i) rfl g hx 39 cs.toArray (0, 0) _ hB Try.underlying39 rfl (by rw [infoZ]; simp [hl]) h
theorem ldg {gd : Nat × Bool} (hw : Region.wanted { dst := some d, op := .load 39 (.tmp i), type := ty, pos := pos, after := af, guard := some gd } (yielded ops a.tmps) = true)
    (hx : a.eval (.tmp i) = .pointer (some ⟨g, 0, none⟩)) (hB : Blk w g 39 cs) (hl : cs.length = 10) (h : wpList Try.prog ops Q rest (a.put (some d) (.agg cs.toArray)) w) :
    wpList Try.prog ops Q ({ dst := some d, op := .load 39 (.tmp i), type := ty, pos := pos, after := af, guard := some gd } :: rest) a w := by
  refine wpList_step fun K hK => ?_
  simp only [hw, if_true]
  exact wp_load_row 39 (.tmp i) rfl g hx 39 cs.toArray (0, 0) _ hB Try.underlying39 rfl (by rw [infoZ]; simp [hl]) (hK _ _ h)
end
set_option maxRecDepth 100000 in set_option maxHeartbeats 3200000 in
theorem check (v : Value) (z : Z) (w : World) (H : Rz w v z) (hz : VZ z) : Calls Try.prog 41 #[v] w fun e w' => e = .returned (.int .i64 0) ∧ Below w.heap.size w w' := by
  have HZ := Lib.hid hz
  clear hz
  obtain ⟨cs, rfl, hV⟩ := H
  have X0 := ZX.new hV
  clear hV
  go_enter Try.func41, Try.ntmps41
  go_upto_region 1 with fail
  obtain ⟨w1, hw1⟩ : ∃ W, W = w.alloc (.cells cs.toArray 39) := ⟨_, rfl⟩
  have X1 : ZX w w.heap.size cs z w1 := by rw [hw1]; exact X0
  rw [← hw1]
  obtain ⟨g, hg0⟩ : ∃ g, w.heap.size = g := ⟨_, rfl⟩
  rw [hg0] at X1 ⊢
  clear hw1 X0 hg0
  go_wp2_with ((with_reducible refine ld ?_ X1.x X1.v.len ?_); (focus rfl))
  refine (ranges _ z _ X1.rz HZ.out.r).mono ?_
  rintro e w2 ⟨rfl, b2⟩
  have X2 := X1.below b2
  clear X1 b2
  obtain ⟨s0, s1, s2, s3, s4, hcl, hrow⟩ := X2.v.row
  obtain ⟨h0, h1, h2, h3, h4⟩ := hcl _ _ X2.x
  have HROW := Lib.hid hrow; have HCL := Lib.hid hcl
  clear hrow hcl
  go_wp2
  go_loopg [24] 5 (fun gg v24 wi => ∃ k : Nat, k + gg = 5 ∧ v24 = .int .i64 k ∧ ZX w g cs z wi)
  case atStart => exact ⟨0, by omega, rfl, X2⟩
  case round =>
    clear X2 h0 h1 h2 h3 h4
    obtain ⟨k, hk, rfl, X3⟩ := hrel
    cases gk with
    | zero =>
      have tk : decide ((k : Int) < 5) = false := by simp; omega
      obtain ⟨wb, rfl⟩ : ∃ W, W = wr := ⟨_, rfl⟩
      have HXB := Lib.hid X3
      have hzz := zero_seen
      have B4 := below_box wb (.cells falses 121)
      have S4 : Blk (wb.alloc (.cells falses 121)) wb.heap.size 121 (markL []) := Blk.new wb 121 falses _ markL_nil
      clear hk
      go_upto_region 16 with fail
      clear hzz
      obtain ⟨w4, hw4⟩ : ∃ W, W = wb.alloc (.cells falses 121) := ⟨_, rfl⟩
      rw [← hw4] at B4 S4 ⊢
      obtain ⟨gs, hgs'⟩ : ∃ g, wb.heap.size = g := ⟨_, rfl⟩
      have hgs : wb.heap.size ≤ gs := by omega
      rw [hgs'] at S4 ⊢
      have X4 := X3.below B4
      obtain ⟨h0, h1, h2, h3, h4⟩ := HCL.out _ _ X4.x
      clear hw4 hgs' X3
      go_wp2
      clear h0 h1 h2 h3 h4 X4
      go_loopg [55] 5 (fun gg v55 wi => ∃ k : Nat, k + gg = 5 ∧ v55 = .int .i64 k ∧ Below wb.heap.size wb wi ∧ Blk wi gs 121 (markL (covN z.fr k)))
      case atStart => exact ⟨0, by omega, rfl, B4, S4⟩
      case round =>
        clear B4 S4
        obtain ⟨k, hk, rfl, B5, S5⟩ := hrel
        have X5 := HXB.out.below B5
        cases gk with
        | zero =>
          have tk2 : decide ((k : Int) < 5) = false := by simp; omega
          clear hk S5
          go_wp2
          go_loopg [81] 4 (fun gg v81 wi => ∃ k : Nat, k + gg = 4 ∧ v81 = .int .i64 k ∧ ZX w g cs z wi)
          case atStart => exact ⟨0, by omega, rfl, X5⟩
          case round =>
            clear X5 B5
            obtain ⟨k, hk, rfl, X6⟩ := hrel
            cases gk with
            | zero =>
              have tk4 : decide ((k : Int) < 4) = false := by simp; omega
              clear hk
              go_wp2
              go_ret
              exact ⟨rfl, X6.b⟩
            | succ gg =>
              have hk4 : k < 4 := by omega
              have tk4 : decide ((k : Int) < 4) = true := by simp; omega
              have HK := Lib.hid hk
              obtain ⟨a, n, c, hc, hn, _, _, _, hI⟩ := X6.v.list X6.x (show k < 5 by omega)
              have hlen := HZ.out.len (k := k) (by omega)
              rw [hn] at hlen
              have HN := Lib.hid hn
              obtain ⟨m, hm⟩ : ∃ m, 2 ^ k = m := ⟨_, rfl⟩
              have hwm : ∀ j : Nat, j = k → wrap64 ((2 : Int) ^ j) = (m : Int) := fun j hj => by subst hj; rw [← hm]; exact wrap_pow (by omega)
              have HM := Lib.hid hm
              clear hk hn hm
              go_wp2
              go_loopg [89] n (fun g2 v89 wj => ∃ j : Nat, j + g2 = n ∧ v89 = .int .i64 j ∧ Ints wj a (z.fr k) ∧ ZX w g cs z wj)
              case atStart => exact ⟨0, by omega, rfl, hI, X6⟩
              case round =>
                clear X6 hI hc
                obtain ⟨j, hj, rfl, hI, X7⟩ := hrel
                cases gk with
                | zero =>
                  have hjn : ¬ j < n := by omega
                  clear hj
                  go_wp2
                  go_roundg gg
                  case rel => exact ⟨k + 1, by have := HK.out; omega, by go_num, X7⟩
                  case measure => omega
                | succ g2 =>
                  have hjn : j < n := by omega
                  obtain ⟨x, hx⟩ := get_some HN.out hjn
                  have hxm := List.mem_of_getElem? hx
                  obtain ⟨z1, z2, _⟩ := HZ.out.at (k := k) (by omega) hxm
                  have hal := (HZ.out.l.adm (k := k) (by omega) hxm).2.2.2
                  have hp := pw_pos k
                  obtain ⟨b, off, rfl, cx⟩ := hI.at hx
                  obtain ⟨a', n', c', hc, hn', _, _, _, hI'⟩ := X7.v.list X7.x (show k < 5 by omega)
                  obtain rfl : n' = n := by rw [← hn']; exact HN.out
                  have hxor : bits BinOp.xor IntKind.i64 x (m : Int) = bud k x := by rw [← HM.out]; exact xor_bud hk4 z1 (by omega) hal
                  have hmin := bud_min hk4 hal
                  obtain ⟨bd, hbd⟩ : ∃ b, bud k x = b := ⟨_, rfl⟩
                  obtain ⟨pr, hpr⟩ : ∃ p, par x k = p := ⟨_, rfl⟩
                  rw [hbd] at hxor
                  rw [hbd, hpr] at hmin
                  have hse := search a' (z.fr k) n' c' bd wr hI' HN.out (by omega) (HZ.out.l.asc k (by omega))
                  obtain ⟨ps, hps⟩ : ∃ r, pos (z.fr k) bd = r := ⟨_, rfl⟩
                  rw [hps] at hse
                  have hnb : (z.fr k).contains bd = true → insB z.st z.ct pr (k + 1) = false := fun hb => by
                    refine insB_not (by omega) ?_
                    rw [← hpr]
                    exact no_bud HZ.out.l hk4 hxm (by rw [hbd]; simpa using hb)
                  obtain ⟨ct, hct⟩ : ∃ r, (z.fr k).contains bd = r := ⟨_, rfl⟩
                  rw [hct] at hse hnb
                  have HSE := Lib.hid hse; have HNB := Lib.hid hnb; have HJ := Lib.hid hj; have HMIN := Lib.hid hmin
                  clear hse hnb hj hx hxm hal hp hbd hpr hps hct hn' hI' z2 hmin
                  go_wp2_with fail
                  refine HSE.out.mono ?_
                  rintro e w9 ⟨rfl, rfl⟩
                  cases ct with
                  | false =>
                    go_wp2
                    go_roundg g2
                    case rel => exact ⟨j + 1, by have := HJ.out; omega, by go_num, hI, X7⟩
                    case measure => omega
                  | true =>
                    have hmin := HMIN.out
                    have HNB2 := Lib.hid (HNB.out rfl)
                    clear HNB HMIN HSE
                    go_wp2_with ((with_reducible refine ldg ?_ ?_ X7.x X7.v.len ?_); (focus rfl); (focus rfl))
                    all_goals
                      first
                        | (have e : x = pr := by omega
                           have K := HNB2.out
                           rw [← e] at K
                           have C := inside _ z x (k + 1) (by omega) _ X7.rz HZ.out.r
                           rw [K, show ((k + 1 : Nat) : Int) = (k : Int) + 1 from by omega] at C
                           clear K e
                           refine C.mono ?_
                           clear C)
                        | (have e : bd = pr := by omega
                           have K := HNB2.out
                           rw [← e] at K
                           have C := inside _ z bd (k + 1) (by omega) _ X7.rz HZ.out.r
                           rw [K, show ((k + 1 : Nat) : Int) = (k : Int) + 1 from by omega] at C
                           clear K e
                           refine C.mono ?_
                           clear C)
                      rintro e w9 ⟨rfl, b9⟩
                      have X9 := X7.below b9
                      have hI9 := hI.below b9
                      clear X7 hI b9 cx hc
                      go_wp2
                      go_roundg g2
                      case rel => exact ⟨j + 1, by have := HJ.out; omega, by go_num, hI9, X9⟩
                      case measure => omega
        | succ gg =>
          have hk5 : k < 5 := by omega
          have tk2 : decide ((k : Int) < 5) = true := by simp; omega
          have HK := Lib.hid hk
          obtain ⟨a, n, c, hix, hn, hnc, hcm, _, hI⟩ := HROW.out _ HXB.out.v k hk5
          have hlen := HZ.out.len hk5
          rw [hn] at hlen
          have HN := Lib.hid hn
          obtain ⟨m, hm⟩ : ∃ m, 2 ^ k = m := ⟨_, rfl⟩
          have hwm : ∀ j : Nat, j = k → wrap64 ((2 : Int) ^ j) = (m : Int) := fun j hj => by subst hj; rw [← hm]; exact wrap_pow (by omega)
          have hm0 : 0 < m := by rw [← hm]; exact Nat.pow_pos (by decide)
          have hm16 : m ≤ 16 := by rw [← hm]; exact pow_le16 hk5
          have HM := Lib.hid hm
          have S50 : Blk wr gs 121 (markL (covN z.fr k ++ covL k ((z.fr k).take 0))) := by rw [List.take_zero, show covL k [] = [] from rfl, List.append_nil]; exact S5
          clear hk hn hnc hcm hm S5 X5
          go_wp2
          go_loopg [61] n (fun g2 v61 wj => ∃ j : Nat, j + g2 = n ∧ v61 = .int .i64 j ∧ Below wb.heap.size wb wj ∧ Blk wj gs 121 (markL (covN z.fr k ++ covL k ((z.fr k).take j))))
          case atStart => exact ⟨0, by omega, rfl, B5, S50⟩
          case round =>
            clear B5 S50
            obtain ⟨j, hj, rfl, B6, S6⟩ := hrel
            cases gk with
            | zero =>
              have HE := Lib.hid (show covN z.fr (k + 1) = covN z.fr k ++ covL k ((z.fr k).take j) by
                rw [List.take_of_length_le (by rw [HN.out]; omega)]; rfl)
              have hjn : ¬ j < n := by omega
              clear hj
              go_wp2
              go_roundg gg
              case rel => exact ⟨k + 1, by have := HK.out; omega, by go_num, B6, by rw [HE.out]; exact S6⟩
              case measure => omega
            | succ g2 =>
              have hjn : j < n := by omega
              have tj : decide ((j : Int) < (n : Int)) = true := by simp; omega
              obtain ⟨x, hx⟩ := get_some HN.out hjn
              have hxm := List.mem_of_getElem? hx
              obtain ⟨z1, z2, _⟩ := HZ.out.at hk5 hxm
              have hxm1 : x + (m : Int) ≤ 256 := by rw [← HM.out]; exact z2
              obtain ⟨xn, rfl⟩ : ∃ n : Nat, x = (n : Int) := ⟨x.toNat, by omega⟩
              obtain ⟨b, off, hab, cx⟩ := (hI.below B6).at hx
              subst hab
              have HX := Lib.hid hx; have HJ := Lib.hid hj
              have S60 : Blk wr gs 121 (markL (covN z.fr k ++ covL k ((z.fr k).take j) ++ cov (xn : Int) 0)) := by
                rw [show cov (xn : Int) 0 = [] from rfl, List.append_nil]; exact S6
              clear hx hj hxm z2 S6
              go_wp2
              go_loopg [12] m (fun g4 v12 wq => ∃ q : Nat, q + g4 = m ∧ v12 = .int .i64 ((xn + q : Nat) : Int) ∧ Below wb.heap.size wb wq ∧ Blk wq gs 121 (markL (covN z.fr k ++ covL k ((z.fr k).take j) ++ cov (xn : Int) q)))
              case atStart => exact ⟨0, by omega, rfl, B6, S60⟩
              case round =>
                clear B6 S60 cx
                obtain ⟨q, hq, rfl, B7, S7⟩ := hrel
                obtain ⟨y, hy⟩ : ∃ y, xn + q = y := ⟨_, rfl⟩
                rw [hy]
                cases gk with
                | zero =>
                  have HE := Lib.hid (show covN z.fr k ++ covL k ((z.fr k).take (j + 1)) = covN z.fr k ++ covL k ((z.fr k).take j) ++ cov (xn : Int) q by
                    rw [covL_take HX.out, HM.out, show m = q by omega, List.append_assoc])
                  have ty : decide ((y : Int) < (xn : Int) + (m : Int)) = false := by simp; omega
                  clear hq hy
                  go_wp2
                  go_roundg g2
                  case rel => exact ⟨j + 1, by have := HJ.out; omega, by go_num, B7, by rw [HE.out]; exact S7⟩
                  case measure => omega
                | succ g4 =>
                  have hqm : q < m := by omega
                  have ty : decide ((y : Int) < (xn : Int) + (m : Int)) = true := by simp; omega
                  have hy256 : y < 256 := by omega
                  have c0 := S7.cell y
                  rw [markL_get _ hy256] at c0
                  have hnew := mark_new HZ.out.l hk5 HX.out (show q < 2 ^ k by rw [HM.out]; exact hqm)
                  rw [show (xn : Int) + (q : Int) = (y : Int) by omega] at hnew
                  rw [hnew] at c0
                  have cf := S7.frozen y
                  have HQ := Lib.hid hq; have HY := Lib.hid hy
                  have S8 := S7.set y (.bool true)
                  rw [markL_put] at S8
                  have HE := Lib.hid (show covN z.fr k ++ covL k ((z.fr k).take j) ++ cov (xn : Int) (q + 1) = (covN z.fr k ++ covL k ((z.fr k).take j) ++ cov (xn : Int) q) ++ [(y : Int)] by
                    rw [cov_snoc, ← List.append_assoc, show (xn : Int) + (q : Int) = (y : Int) by omega])
                  have B8 := B7.setCell (p := ⟨gs, y, none⟩) hgs (.bool true)
                  clear hq hy hnew S7 B7
                  go_wp2
                  go_roundg g4
                  case rel => exact ⟨q + 1, by have := HQ.out; omega, by have := HY.out; rw [show xn + (q + 1) = y + 1 by omega]; go_num, B8, by rw [HE.out]; exact S8⟩
                  case measure => omega
    | succ gg =>
      have hk5 : k < 5 := by omega
      have tk : decide ((k : Int) < 5) = true := by simp; omega
      have HK := Lib.hid hk
      obtain ⟨a, n, c, hix, hn, hnc, hcm, _, hI⟩ := HROW.out _ X3.v k hk5
      have hlen := HZ.out.len hk5
      rw [hn] at hlen
      have HN := Lib.hid hn
      clear hk hn hnc hcm
      go_wp2
      go_loopg [30] n (fun g3 v30 wj => ∃ j : Nat, j + g3 = n ∧ v30 = .int .i64 j ∧ Ints wj a (z.fr k) ∧ ZX w g cs z wj)
      case atStart => exact ⟨0, by omega, rfl, hI, X3⟩
      case round =>
        clear X3 hI
        obtain ⟨j, hj, rfl, hI, X5⟩ := hrel
        cases gk with
        | zero =>
          have hjn : ¬ j < n := by omega
          clear hj
          go_wp2
          go_roundg gg
          case rel => exact ⟨k + 1, by have := HK.out; omega, by go_num, X5⟩
          case measure => omega
        | succ g3 =>
          have hjn : j < n := by omega
          obtain ⟨x, hx⟩ := get_some HN.out hjn
          obtain ⟨z1, z2, z3⟩ := HZ.out.at hk5 (List.mem_of_getElem? hx)
          obtain ⟨b, off, rfl, cx⟩ := hI.at hx
          have HX := Lib.hid hx; have HJ := Lib.hid hj; have HIN := Lib.hid z3
          clear hx hj z1 z2 z3
          go_wp2_with ((with_reducible refine ld ?_ X5.x X5.v.len ?_); (focus rfl))
          refine (inside _ z x k hk5 _ X5.rz HZ.out.r).mono ?_
          rw [HIN.out]
          rintro e w6 ⟨rfl, b6⟩
          have X6 := X5.below b6
          have hI6 := hI.below b6
          have cx6 := cell_later b6 cx
          clear X5 hI b6 cx
          by_cases hj0 : j = 0
          · subst hj0
            go_wp2
            go_roundg g3
            case rel => exact ⟨0 + 1, by have := HJ.out; omega, by go_num, hI6, X6⟩
            case measure => omega
          · have hjp : 0 < j := by omega
            obtain ⟨j', rfl⟩ : ∃ j', j = j' + 1 := ⟨j - 1, by omega⟩
            obtain ⟨y, hy⟩ := get_some HN.out (show j' < n by omega)
            obtain ⟨_, _, hV, cy⟩ := hI6.at hy
            cases hV
            have hyx : y < x := pair_get (HZ.out.l.asc k hk5) hy HX.out (by omega)
            have ej : ((j' + 1 : Nat) : Int) - 1 = (j' : Int) := by omega
            clear hy
            go_wp2
            go_roundg g3
            case rel => exact ⟨j' + 1 + 1, by have := HJ.out; omega, by go_num, hI6, X6⟩
            case measure => omega
end Go.Proofs.Ytdddkfpcbfgocaa
namespace Go.Zn
def setF (z : Z) (r : Nat) (l : List Int) : Z := { z with fr := upd z.fr r l }
theorem setF_self {z : Z} {r : Nat} {l : List Int} : (setF z r l).fr r = l := upd_self
theorem setF_ne {z : Z} {r s : Nat} {l : List Int} (h : s ≠ r) : (setF z r l).fr s = z.fr s := upd_ne h
end Go.Zn
namespace Go.Proofs.Ytdddkfpcbfgocaa
open Go.RowKit Go.Over Go.Zn Go.Can Go.Seg Go.Grow
structure Hd5 (cs : List Value) (z : Z) : Prop where
  len : cs.length = 10
  nd : cs[0]? = some (.int .i64 z.nd)
  kd : cs[1]? = some (.int .i64 z.kd)
  st : cs[2]? = some (.int .i64 z.st)
  ct : cs[3]? = some (.int .i64 z.ct)
  mn : cs[4]? = some (.int .i64 z.mn)
theorem Hd5.set {cs : List Value} {z : Z} (h : Hd5 cs z) (r : Nat) (v : Value) (l : List Int) : Hd5 (cs.set (5 + r) v) (setF z r l) :=
  ⟨by rw [List.length_set]; exact h.len, by rw [List.getElem?_set_ne (by omega)]; exact h.nd, by rw [List.getElem?_set_ne (by omega)]; exact h.kd, by rw [List.getElem?_set_ne (by omega)]; exact h.st, by rw [List.getElem?_set_ne (by omega)]; exact h.ct, by rw [List.getElem?_set_ne (by omega)]; exact h.mn⟩
/-- A zone whose rows are the call's own. -/
structure OwnZ (W : World) (B : Nat) (cs : List Value) (z : Z) : Prop where
  h : Hd5 cs z
  row : ∀ r, r < 5 → ∃ v, cs[5 + r]? = some v ∧ Own W B v (z.fr r)
  ap : ∀ r s u v, r < s → s < 5 → cs[5 + r]? = some u → cs[5 + s]? = some v → u.ownBlock = none ∨ u.ownBlock ≠ v.ownBlock
section
variable {W W' : World} {B : Nat} {cs : List Value} {z : Z}
theorem OwnZ.zv (h : OwnZ W B cs z) : ZV W cs z :=
  ⟨h.h.len, h.h.nd, h.h.kd, h.h.st, h.h.ct, h.h.mn, fun k hk => by obtain ⟨v, h1, h2⟩ := h.row k hk; exact ⟨v, h1, h2.sl⟩⟩
theorem OwnZ.later (h : OwnZ W B cs z) (hb : Below W.heap.size W W') : OwnZ W' B cs z :=
  ⟨h.h, fun r hr => by obtain ⟨v, h1, h2⟩ := h.row r hr; exact ⟨v, h1, h2.later hb⟩, h.ap⟩
theorem OwnZ.weaken {B' : Nat} (h : OwnZ W B cs z) (hB : B' ≤ B) : OwnZ W B' cs z :=
  ⟨h.h, fun r hr => by obtain ⟨v, h1, h2⟩ := h.row r hr; exact ⟨v, h1, own_weaken h2 hB⟩, h.ap⟩
theorem OwnZ.apart (h : OwnZ W B cs z) {r s : Nat} {u v : Value} (hne : r ≠ s) (hr : r < 5) (hs : s < 5) (h1 : cs[5 + r]? = some u) (h2 : cs[5 + s]? = some v) : u.ownBlock = none ∨ u.ownBlock ≠ v.ownBlock := by
  rcases Nat.lt_or_ge r s with h3 | h3
  · exact h.ap r s u v h3 hs h1 h2
  · rcases h.ap s r v u (by omega) hr h2 h1 with h4 | h4
    · rcases hu : u.ownBlock with _ | b
      · exact .inl rfl
      · exact .inr (by rw [h4]; simp)
    · exact .inr (Ne.symm h4)
theorem Own.far {v : Value} {l : List Int} {g t : Nat} {bs : List Value} (h : Own W B v l) (hB : Blk W g t bs) (ht : 3 ≠ t) (i : Nat) (u : Value) : Own (W.setCell ⟨g, i, none⟩ u) B v l := by
  have hgr : W.grownBy (W.setCell ⟨g, i, none⟩ u) (some g) := ⟨rfl, rfl, rfl, by simp [World.setCell], fun k _ hk => Below.heap_setCell W ⟨g, i, none⟩ u k (fun e => hk (by rw [e]))⟩
  exact World.ownsRow.kept h hgr (.inr (hB.not_own h ht))
theorem Own.kept {v : Value} {l : List Int} {row : Option Nat} (h : Own W B v l) (hg : W.grownBy W' row) (hne : v.ownBlock = none ∨ v.ownBlock ≠ row) : Own W' B v l := World.ownsRow.kept h hg hne
theorem OwnZ.far {g t : Nat} {bs : List Value} (h : OwnZ W B cs z) (hB : Blk W g t bs) (ht : 3 ≠ t) (i : Nat) (u : Value) : OwnZ (W.setCell ⟨g, i, none⟩ u) B cs z :=
  ⟨h.h, fun r hr => by obtain ⟨v, h1, h2⟩ := h.row r hr; exact ⟨v, h1, h2.far hB ht i u⟩, h.ap⟩
theorem OwnZ.grown {g t : Nat} {bs : List Value} (h : OwnZ W B cs z) (hB : Blk W g t bs) (ht : 3 ≠ t) (hg : W.grownBy W' (some g)) : OwnZ W' B cs z :=
  ⟨h.h, fun r hr => by obtain ⟨v, h1, h2⟩ := h.row r hr; exact ⟨v, h1, h2.kept hg (.inr (hB.not_own h2 ht))⟩, h.ap⟩
/-- A row is changed by a call. -/
theorem OwnZ.put {r : Nat} {u u' : Value} {l' : List Int} (h : OwnZ W B cs z) (hr : r < 5) (hu : cs[5 + r]? = some u) (hg : W.grownBy W' u.ownBlock) (hO : Own W' B u' l') (hk : ∀ k, u'.ownBlock = some k → u.ownBlock = some k ∨ W.heap.size ≤ k) : OwnZ W' B (cs.set (5 + r) u') (setF z r l') := by
  have hl := h.h.len
  have kept : ∀ s v, s ≠ r → s < 5 → cs[5 + s]? = some v → Own W B v (z.fr s) → Own W' B v (z.fr s) := fun s v hs hs16 hv ho => ho.kept hg (h.apart hs hs16 hr hv hu)
  have apt : ∀ s v, s ≠ r → s < 5 → cs[5 + s]? = some v → v.ownBlock = none ∨ v.ownBlock ≠ u'.ownBlock := fun s v hs hs16 hv => by
    rcases hb : v.ownBlock with _ | b
    · exact .inl rfl
    · refine .inr fun e => ?_
      obtain ⟨v', q1, q2⟩ := h.row s hs16
      rw [hv] at q1
      cases q1
      rcases hk b e.symm with h1 | h1
      · rcases h.apart hs hs16 hr hv hu with h2 | h2
        · rw [hb] at h2; cases h2
        · exact h2 (by rw [hb, h1])
      · have := (World.ownsRow.lt q2 b hb).2
        omega
  refine ⟨h.h.set r u' l', fun s hs => ?_, fun s t x y h1 h2 g1 g2 => ?_⟩
  · by_cases e : s = r
    · subst e
      rw [setF_self]
      exact ⟨u', List.getElem?_set_self (by omega), hO⟩
    · obtain ⟨v, q1, q2⟩ := h.row s hs
      rw [setF_ne e]
      exact ⟨v, by rw [List.getElem?_set_ne (by omega)]; exact q1, kept s v e hs q1 q2⟩
  · by_cases e1 : s = r
    · subst e1
      rw [List.getElem?_set_self (by omega)] at g1
      cases g1
      rw [List.getElem?_set_ne (by omega)] at g2
      rcases apt t y (by omega) h2 g2 with h3 | h3
      · rcases hb : u'.ownBlock with _ | b
        · exact .inl rfl
        · exact .inr (by rw [h3]; simp)
      · exact .inr (Ne.symm h3)
    · rw [List.getElem?_set_ne (by omega)] at g1
      by_cases e2 : t = r
      · subst e2
        rw [List.getElem?_set_self (by omega)] at g2
        cases g2
        exact apt s x e1 (by omega) g1
      · rw [List.getElem?_set_ne (by omega)] at g2
        exact h.ap s t x y h1 h2 g1 g2
end
/-- A variable that holds a zone of a call's own. -/
structure ZP (w : World) (g : Nat) (cs : List Value) (z : Z) (W : World) : Prop where
  b : Below w.heap.size w W
  l : w.heap.size ≤ g
  x : Blk W g 39 cs
  o : OwnZ W w.heap.size cs z
section
variable {w W W' : World} {g : Nat} {cs : List Value} {z : Z}
theorem ZP.below (h : ZP w g cs z W) (hb : Below W.heap.size W W') : ZP w g cs z W' := ⟨below_then h.b hb, h.l, h.x.later hb, h.o.later hb⟩
theorem ZP.v (h : ZP w g cs z W) : ZV W cs z := h.o.zv
theorem ZP.rz (h : ZP w g cs z W) : Rz W (.agg cs.toArray) z := ⟨cs, rfl, h.v⟩
/-- A row is changed by a call, and stored. -/
theorem ZP.put {r : Nat} {u u' : Value} {l' : List Int} (h : ZP w g cs z W) (hr : r < 5) (hu : cs[5 + r]? = some u) (hg : W.grownBy W' u.ownBlock) (hO : Own W' w.heap.size u' l') (hk : ∀ k, u'.ownBlock = some k → u.ownBlock = some k ∨ W.heap.size ≤ k) :
    ZP w g (cs.set (5 + r) u') (setF z r l') (W'.setCell ⟨g, 5 + r, none⟩ u') := by
  obtain ⟨v, q1, q2⟩ := h.o.row r hr
  rw [hu] at q1
  cases q1
  have hx := h.x.grown hg (h.x.not_own q2 (by decide))
  have hb : Below w.heap.size w W' := h.b.grown hg h.b.size (fun k hk => (World.ownsRow.lt q2 k hk).1)
  exact ⟨hb.setCell (p := ⟨g, 5 + r, none⟩) h.l _, h.l, hx.set (5 + r) u', (h.o.put hr hu hg hO hk).far hx (by decide) _ _⟩
theorem ZP.at (h : ZP w g cs z W) {k : Nat} (hk : k < 5) : ∃ v, cs[5 + k]? = some v ∧ Own W w.heap.size v (z.fr k) ∧ W.cell? ⟨g, 5 + k, none⟩ = some v ∧ W.frozen? ⟨g, 5 + k, none⟩ = false := by
  obtain ⟨v, h1, h2⟩ := h.o.row k hk
  exact ⟨v, h1, h2, by rw [h.x.cell]; exact h1, h.x.frozen _⟩
end
end Go.Proofs.Ytdddkfpcbfgocaa
namespace Go.Proofs.Ytdddkfpcbfgocaa
open Go.RowKit Go.Over Go.Zn Go.Can Go.Seg Go.Grow
def zP : List Value := [.int .i64 0, .int .i64 0, .int .i64 0, .int .i64 0, .int .i64 0, .slice none 0 0, .slice none 0 0, .slice none 0 0, .slice none 0 0, .slice none 0 0]
theorem zP_len : zP.length = 10 := rfl
theorem ZV.one {W : World} {cs : List Value} {z : Z} (h : ZV W cs z) : ∀ v ∈ cs, v.oneCell' = true := by
  intro v hv
  obtain ⟨i, hi⟩ := List.getElem?_of_mem hv
  have hlt : i < 10 := by
    have := h.len
    rw [List.getElem?_eq_some_iff] at hi
    obtain ⟨h1, _⟩ := hi
    omega
  rcases (show i = 0 ∨ i = 1 ∨ i = 2 ∨ i = 3 ∨ i = 4 ∨ 5 ≤ i by omega) with rfl | rfl | rfl | rfl | rfl | h2
  · rw [h.nd] at hi; cases hi; rfl
  · rw [h.kd] at hi; cases hi; rfl
  · rw [h.st] at hi; cases hi; rfl
  · rw [h.ct] at hi; cases hi; rfl
  · rw [h.mn] at hi; cases hi; rfl
  · obtain ⟨u, h1, a, c, rfl, _⟩ := h.fr (i - 5) (by omega)
    rw [show 5 + (i - 5) = i by omega, hi] at h1; cases h1; rfl
section
variable {ops : Array Oper} {rest : List Oper} {i j : Nat} {ty : TypeId} {pos : String} {af : Array Edge} {a : Act} {w : World} {Q : Exit → Act → World → Prop} {g : Nat} {cs zs : List Value}
/-- A zone is stored whole. -/
theorem stZ (hx : a.eval (.tmp i) = .pointer (some ⟨g, 0, none⟩)) (hy : a.eval (.tmp j) = .agg cs.toArray) (hB : Blk w g 39 zs) (hz : zs.length = 10) (hl : cs.length = 10) (h1 : ∀ v ∈ cs, v.oneCell' = true)
    (h : ∀ W, Blk W g 39 cs → w.grownBy W (some g) → wpList Try.prog ops Q rest (a.put none undef) W) :
    wpList Try.prog ops Q ({ dst := none, op := .store 39 (.tmp i) (.tmp j), type := ty, pos := pos, after := af, guard := none } :: rest) a w := by
  obtain ⟨q1, q2⟩ := blk_setRow (new := cs) hB
  exact wpList_store_row rfl 39 (.tmp i) (.tmp j) rfl g cs.toArray hx hy 39 zs.toArray hB (by rw [infoZ]; simp [hl]) (by simp [hz, hl]) (Array.all_eq_true_iff_forall_mem.2 fun v hv => h1 v (by simpa using hv)) (h _ q1 q2)
theorem results_p {fn : Func} {p : Tmp} (h : fn.results = #[.cell p 39]) (tmps : Array Value) (w : World) (g : Nat) (cs : List Value) (hp : tmps.getD p undef = .pointer (some ⟨g, 0, none⟩)) (hg : Blk w g 39 cs) (hl : cs.length = 10) :
    (results fn tmps).run Try.prog w = .ok (.agg cs.toArray) w :=
  results_cell_row h tmps w g 39 cs.toArray (0, 0) _ hp hg Try.underlying39 rfl (by rw [infoZ]; simp [hl])
theorem results_p1 {fn : Func} {p q : Tmp} (h : fn.results = #[.cell p 39, .tmp q]) (tmps : Array Value) (w : World) (g : Nat) (cs : List Value) (v : Value) (hp : tmps.getD p undef = .pointer (some ⟨g, 0, none⟩)) (hg : Blk w g 39 cs) (hl : cs.length = 10) (hv : tmps.getD q undef = v) :
    (results fn tmps).run Try.prog w = .ok (.tuple #[.agg cs.toArray, v]) w := by
  have hp' : tmps[p]?.getD undef = .pointer (some ⟨g, 0, none⟩) := by simpa using hp
  have hv' : tmps[q]?.getD undef = v := by simpa using hv
  have hl := run_loadVar_row (P := Try.prog) w g 39 39 cs.toArray (0, 0) _ hg Try.underlying39 rfl (by rw [infoZ]; simp [hl])
  simp [results, h, hp', hv', asAddr, hl]
theorem results_p2 {fn : Func} {p q r : Tmp} (h : fn.results = #[.cell p 39, .tmp q, .tmp r]) (tmps : Array Value) (w : World) (g : Nat) (cs : List Value) (v z : Value) (hp : tmps.getD p undef = .pointer (some ⟨g, 0, none⟩)) (hg : Blk w g 39 cs) (hl : cs.length = 10) (hv : tmps.getD q undef = v) (hz : tmps.getD r undef = z) :
    (results fn tmps).run Try.prog w = .ok (.tuple #[.agg cs.toArray, v, z]) w := by
  have hp' : tmps[p]?.getD undef = .pointer (some ⟨g, 0, none⟩) := by simpa using hp
  have hv' : tmps[q]?.getD undef = v := by simpa using hv
  have hz' : tmps[r]?.getD undef = z := by simpa using hz
  have hl := run_loadVar_row (P := Try.prog) w g 39 39 cs.toArray (0, 0) _ hg Try.underlying39 rfl (by rw [infoZ]; simp [hl])
  simp [results, h, hp', hv', hz', asAddr, hl]
end
/-- What a call that makes a zone gives. -/
def AnsZ (w : World) (z : Z) (e : Ending) (w' : World) : Prop := ∃ cs, e = .returned (.agg cs.toArray) ∧ OwnZ w' w.heap.size cs z ∧ Below w.heap.size w w'
/-- A copy under way: m rows are copied. -/
structure CZ (w : World) (g gr : Nat) (cs0 : List Value) (z : Z) (m : Nat) (W : World) (cs : List Value) : Prop where
  b : Below w.heap.size w W
  l : w.heap.size ≤ g
  x : Blk W g 39 cs
  zr : Blk W gr 39 zP
  n : g ≠ gr
  lr : w.heap.size ≤ gr
  h : Hd5 cs z
  own : ∀ r, r < m → ∃ v, cs[5 + r]? = some v ∧ Own W w.heap.size v (z.fr r)
  rest : ∀ r, m ≤ r → r < 5 → cs[5 + r]? = cs0[5 + r]?
  ap : ∀ r s u v, r < s → s < m → cs[5 + r]? = some u → cs[5 + s]? = some v → u.ownBlock = none ∨ u.ownBlock ≠ v.ownBlock
section
variable {w W W' : World} {g gr m : Nat} {cs0 cs : List Value} {z : Z}
theorem CZ.next (h : CZ w g gr cs0 z m W cs) (hm : m < 5) (hb : Below W.heap.size W W') {v : Value} (hv : Own W' W.heap.size v (z.fr m)) : CZ w g gr cs0 z (m + 1) (W'.setCell ⟨g, 5 + m, none⟩ v) (cs.set (5 + m) v) := by
  have hl := h.h.len
  have hx := h.x.later hb
  have hB := below_then h.b hb
  have hh : Hd5 (cs.set (5 + m) v) z := by
    have q := h.h.set m v []
    exact ⟨q.len, q.nd, q.kd, q.st, q.ct, q.mn⟩
  refine ⟨hB.setCell (p := ⟨g, 5 + m, none⟩) h.l _, h.l, hx.set _ _, (h.zr.later hb).far (p := ⟨g, 5 + m, none⟩) (Ne.symm h.n) _, h.n, h.lr, hh, fun r hr => ?_, fun r h1 h2 => ?_, fun r s u u' h1 h2 g1 g2 => ?_⟩
  · by_cases e : r = m
    · subst e
      exact ⟨v, List.getElem?_set_self (by omega), (show Own W' w.heap.size v (z.fr r) from own_weaken hv h.b.size).far hx (by decide) _ _⟩
    · obtain ⟨u, q1, q2⟩ := h.own r (by omega)
      exact ⟨u, by rw [List.getElem?_set_ne (by omega)]; exact q1, (q2.later hb).far hx (by decide) _ _⟩
  · rw [List.getElem?_set_ne (by omega)]
    exact h.rest r (by omega) h2
  · rw [List.getElem?_set_ne (by omega)] at g1
    by_cases e : s = m
    · subst e
      rw [List.getElem?_set_self (by omega)] at g2
      cases g2
      obtain ⟨u2, q1, q2⟩ := h.own r h1
      rw [g1] at q1
      cases q1
      rcases hbk : u.ownBlock with _ | b
      · exact .inl rfl
      · refine .inr fun e => ?_
        have h3 := (World.ownsRow.lt q2 b hbk).2
        have h4 := (World.ownsRow.lt hv b e.symm).1
        omega
    · rw [List.getElem?_set_ne (by omega)] at g2
      exact h.ap r s u u' h1 (by omega) g1 g2
theorem CZ.done (h : CZ w g gr cs0 z 5 W cs) : OwnZ W w.heap.size cs z := ⟨h.h, h.own, fun r s u v h1 h2 => h.ap r s u v h1 h2⟩
/-- The next row to copy. -/
theorem CZ.at (h : CZ w g gr cs0 z m W cs) (hV : ZV w cs0 z) (hm : m < 5) : ∃ v, W.cell? ⟨g, 5 + m, none⟩ = some v ∧ Sl W v (z.fr m) := by
  obtain ⟨v, h1, h2⟩ := hV.fr m hm
  refine ⟨v, ?_, h2.below h.b⟩
  rw [h.x.cell, h.rest m (Nat.le_refl _) hm]
  exact h1
end
set_option maxRecDepth 100000 in set_option maxHeartbeats 3200000 in
theorem zclone (v : Value) (z : Z) (w : World) (H : Rz w v z) (hz : VZ z) : Calls Try.prog 57 #[v] w (AnsZ w z) := by
  have HZ := Lib.hid hz
  clear hz
  obtain ⟨cs0, rfl, hV⟩ := H
  have hB0 := below_box w (.cells cs0.toArray 39)
  have hB1 := below_box (w.alloc (.cells cs0.toArray 39)) (.cells #[.int .i64 0, .int .i64 0, .int .i64 0, .int .i64 0, .int .i64 0, .slice none 0 0, .slice none 0 0, .slice none 0 0, .slice none 0 0, .slice none 0 0] 39)
  have hs : (w.alloc (.cells cs0.toArray 39)).heap.size = w.heap.size + 1 := by simp
  have C0 : CZ w w.heap.size (w.heap.size + 1) cs0 z 0 ((w.alloc (.cells cs0.toArray 39)).alloc (.cells #[.int .i64 0, .int .i64 0, .int .i64 0, .int .i64 0, .int .i64 0, .slice none 0 0, .slice none 0 0, .slice none 0 0, .slice none 0 0, .slice none 0 0] 39)) cs0 := by
    have hz := Blk.new (w.alloc (.cells cs0.toArray 39)) 39 #[.int .i64 0, .int .i64 0, .int .i64 0, .int .i64 0, .int .i64 0, .slice none 0 0, .slice none 0 0, .slice none 0 0, .slice none 0 0, .slice none 0 0] zP rfl
    rw [hs] at hz
    exact ⟨below_then hB0 hB1, Nat.le_refl _, (Blk.new w 39 cs0.toArray cs0 rfl).later hB1, hz, by omega, by omega, ⟨hV.len, hV.nd, hV.kd, hV.st, hV.ct, hV.mn⟩, fun r hr => by omega, fun r _ _ => rfl, fun r s u v h1 h2 => by omega⟩
  clear hB0 hB1 hs
  go_enter Try.func57, Try.ntmps57
  go_upto_region 1 with fail
  obtain ⟨w1, hw1⟩ : ∃ W, W = (w.alloc (.cells cs0.toArray 39)).alloc (.cells #[.int .i64 0, .int .i64 0, .int .i64 0, .int .i64 0, .int .i64 0, .slice none 0 0, .slice none 0 0, .slice none 0 0, .slice none 0 0, .slice none 0 0] 39) := ⟨_, rfl⟩
  rw [← hw1] at C0 ⊢
  clear hw1
  obtain ⟨g, hg⟩ : ∃ g, w.heap.size = g := ⟨_, rfl⟩
  obtain ⟨gr, hgr⟩ : ∃ g, w.heap.size + 1 = g := ⟨_, rfl⟩
  rw [hgr] at C0 ⊢
  rw [show CZ w w.heap.size gr cs0 z 0 w1 cs0 = CZ w g gr cs0 z 0 w1 cs0 by rw [← hg]] at C0
  rw [hg]
  clear hg hgr
  go_wp2
  go_loopg [4] 5 (fun gg v4 wr => ∃ (k : Nat) (cs : List Value), k + gg = 5 ∧ v4 = .int .i64 k ∧ CZ w g gr cs0 z k wr cs)
  case atStart => exact ⟨0, _, by omega, rfl, C0⟩
  case round =>
    clear C0
    obtain ⟨k, cs, hk, rfl, C2⟩ := hrel
    cases gk with
    | zero =>
      have hk5 : ¬ k < 5 := by omega
      have C3 : CZ w g gr cs0 z 5 wr cs := by rw [show k = 5 by omega] at C2; exact C2
      have hO := C3.done
      have h1c := hO.zv.one
      clear C2 hk
      go_wp2_with first | ((with_reducible refine ld ?_ C3.x C3.h.len ?_); (focus rfl)) | ((with_reducible refine stZ ?_ ?_ C3.zr zP_len C3.h.len h1c ?_); (focus rfl); (focus rfl); intro w5 hB5 hg5)
      refine bodyPost_ret (results_p rfl _ _ gr cs rfl hB5 C3.h.len) rfl ⟨cs, rfl, hO.grown C3.zr (by decide) hg5, C3.b.grown hg5 C3.b.size (fun k hk => by cases hk; exact C3.lr)⟩
    | succ gg =>
      have hk5 : k < 5 := by omega
      have tk : decide ((k : Int) < 5) = true := by simp; omega
      have HK := Lib.hid hk
      clear hk
      obtain ⟨v, d1, hs⟩ := C2.at hV hk5
      go_wp2_with fail
      refine (clone v _ wr hs (by have := HZ.out.len hk5; omega)).mono ?_
      rintro e w5 ⟨v', rfl, hO, b5⟩
      have C5 := C2.next hk5 b5 hO
      have d5 := cell_later b5 d1
      have f5 := (C2.x.later b5).frozen (5 + k)
      obtain ⟨a', c', rfl, _⟩ := own_form hO
      clear C2 hs hO b5 d1
      go_upto_region 5 with fail
      clear d5 f5
      obtain ⟨w6, hw6⟩ : ∃ W, W = w5.setCell ⟨g, 5 + k, none⟩ (.slice a' (z.fr k).length c') := ⟨_, rfl⟩
      rw [← hw6] at C5 ⊢
      clear hw6
      go_wp2
      go_roundg gg
      case rel => exact ⟨k + 1, _, by have := HK.out; omega, by go_num, C5⟩
      case measure => omega
end Go.Proofs.Ytdddkfpcbfgocaa
namespace Go.Proofs.Ytdddkfpcbfgocaa
open Go.RowKit Go.Over Go.Zn Go.Can Go.Seg Go.Grow
theorem dele (base : Nat) (V : Value) (l : List Int) (i : Nat) (w : World) (H : Own w base V l) (hi : i < l.length) (hm : l.length ≤ 100000) :
    Calls Try.prog 49 #[V, .int .i64 i, .int .i64 ((i : Int) + 1)] w (RowAns w base V (l.eraseIdx i)) := by
  have := delete base V l.length i (nums l) w H nums_one hi hm
  rw [show ((i + 1 : Nat) : Int) = (i : Int) + 1 by omega] at this
  exact this.mono fun e w' h => Own.del hi h
theorem inse (base : Nat) (V : Value) (l : List Int) (x : Int) (vb : Nat) (w : World) (H : Own w base V l) (hv : Blk w vb 3 [.int .i64 x]) (hne : V.ownBlock ≠ some vb) (hm : l.length ≤ 100000) (hb : base ≤ w.heap.size) :
    Calls Try.prog 50 #[V, .int .i64 (pos l x), .slice (some ⟨vb, 0, none⟩) 1 1] w (RowAns w base V (ins l x)) := by
  have := insert base V l.length (pos l x) (nums l) (.int .i64 x) vb w H nums_one hv rfl hne pos_le hm hb
  exact this.mono fun e w' h => by
    have := Own.ins pos_le h
    exact this
/-- Blocks of other element types are as they were. -/
def Kn (g : Nat) (w w' : World) : Prop := ∀ g' t bs, g' ≠ g → t ≠ 3 → Blk w g' t bs → Blk w' g' t bs
theorem Kn.refl (g : Nat) (w : World) : Kn g w w := fun _ _ _ _ _ h => h
theorem Kn.trans {g : Nat} {w1 w2 w3 : World} (h : Kn g w1 w2) (h' : Kn g w2 w3) : Kn g w1 w3 := fun g' t bs h1 h2 h3 => h' g' t bs h1 h2 (h g' t bs h1 h2 h3)
theorem Kn.below {g : Nat} {w w' : World} (hb : Below w.heap.size w w') : Kn g w w' := fun _ _ _ _ _ h => h.later hb
theorem Kn.put {g B : Nat} {w w' : World} {v u : Value} {l : List Int} (ho : Own w B v l) (hg : w.grownBy w' v.ownBlock) (i : Nat) : Kn g w (w'.setCell ⟨g, i, none⟩ u) := fun _ _ _ h1 h2 h3 =>
  (h3.grown hg (h3.not_own ho (Ne.symm h2))).far (p := ⟨g, i, none⟩) h1 u
theorem vd_len {z : Z} (hr : Rng z) {fr : Nat → List Int} (h : Vd z.st z.ct fr) {k : Nat} (hk : k < 5) : (fr k).length ≤ 256 :=
  VZ.len (z := { z with fr := fr }) ⟨⟨hr.nd0, hr.nd1, hr.kd, hr.st0, hr.ct0, hr.ct1, hr.mn0, hr.mn1⟩, h⟩ hk
theorem rng_fr {z : Z} (hr : Rng z) (fr : Nat → List Int) : Rng { z with fr := fr } := ⟨hr.nd0, hr.nd1, hr.kd, hr.st0, hr.ct0, hr.ct1, hr.mn0, hr.mn1⟩
/-- What a put gives. -/
def PutAns (w0 : World) (g : Nat) (z : Z) (S : Int → Prop) (w : World) (e : Ending) (w' : World) : Prop :=
  e = .returned (.tuple #[]) ∧ (∃ cs' fr', ZP w0 g cs' { z with fr := fr' } w' ∧ Vd z.st z.ct fr' ∧ ∀ x, Cov (F fr') x ↔ S x) ∧ Kn g w w'
set_option maxRecDepth 100000 in set_option maxHeartbeats 3200000 in
theorem put (w0 : World) (g : Nat) (cs : List Value) (z : Z) (f : Int) (k : Nat) (w : World) (S : Int → Prop) (V : ZP w0 g cs z w) (hr : Rng z) (HP : Put z.st z.ct z.fr f k S) :
    Calls Try.prog 21 #[.pointer (some ⟨g, 0, none⟩), .int .i64 f, .int .i64 k] w (PutAns w0 g z S w) := by
  have HR := Lib.hid hr
  have V0 : ZP w0 g cs { z with fr := z.fr } w := V
  have hk4 := HP.r.1
  have HP0 := Lib.hid HP
  clear hr HP V
  go_enter Try.func21, Try.ntmps21
  go_wp2
  go_loopg [1, 2] (4 - k) (fun gg v1 v2 wr => ∃ (f : Int) (k : Nat) (fr : Nat → List Int) (cs : List Value), k + gg = 4 ∧ v1 = .int .i64 f ∧ v2 = .int .i64 k ∧ ZP w0 g cs { z with fr := fr } wr ∧ Put z.st z.ct fr f k S ∧ Kn g w wr)
  case atStart => exact ⟨f, k, z.fr, cs, by omega, rfl, rfl, V0, HP0.out, Kn.refl _ _⟩
  case round =>
    clear V0 HP0 hk4
    obtain ⟨f, k, fr, cs, hg, rfl, rfl, V3, hp, K3⟩ := hrel
    have HP3 := Lib.hid hp
    clear hp
    cases gk with
    | zero =>
      obtain ⟨k4, hk4⟩ : ∃ k4, k4 = k := ⟨_, rfl⟩
      have tk : decide ((k : Int) < 4) = false := by simp; omega
      have hk5 : k < 5 := by omega
      have HB3 := Lib.hid (HP3.out.done (fun h => by omega))
      clear hg hk4
      obtain ⟨v, hu, hO, dc, df⟩ := V3.at hk5
      have hasc := HP3.out.v.asc k hk5
      have hlen := vd_len HR.out HP3.out.v hk5
      simp only at hO
      obtain ⟨v1, v2⟩ := HB3.out
      obtain ⟨a', c', rfl, h1, h2, h3, hI⟩ := hO.sl
      obtain ⟨n, hn⟩ : ∃ n, (fr k).length = n := ⟨_, rfl⟩
      have hse := search a' (fr k) n c' f wr hI hn (by omega) hasc
      obtain ⟨i, hip⟩ : ∃ i, pos (fr k) f = i := ⟨_, rfl⟩
      obtain ⟨ct, hct⟩ : ∃ b, (fr k).contains f = b := ⟨_, rfl⟩
      rw [hip, hct] at hse
      have HSE := Lib.hid hse; have HIPO := Lib.hid hip; have HNN := Lib.hid hn
      have HOO := Lib.hid hO; have HU := Lib.hid hu
      rw [hn] at dc
      clear hse hip hct h1 h2 h3 hI hn hO hu hasc df
      go_wp2_with fail
      refine HSE.out.mono ?_
      rintro e w5 ⟨rfl, rfl⟩
      go_wp2_with fail
      refine wp_region_plan (fun _ => True) (.quiet [0, 1, 2, 3, 4, 5, 6, 8, 9, 12, 13] (.fork 7 (.only 10 (.only 11 (.quiet [14] (.only 15 .done)))) 10 (.only 7 (.only 11 (.quiet [14] (.only 15 .done)))))) 99 (by kernel_rfl) (by kernel_rfl) trivial ?_
      intro U _ hWe
      have bW : Below wr.heap.size wr U := by rw [hWe]; exact (Below.refl _ _).drew
      have V4 := V3.below bW
      have K4 := K3.trans (Kn.below bW)
      have hO4 := HOO.out.later bW
      have dc4 := cell_later bW dc
      clear hWe V3 dc bW HOO
      simp only [wpPlan, inOrder, List.filterMap_cons, List.filterMap_nil, List.getElem?_cons_zero, List.getElem?_cons_succ]
      show wpQuiet _ _ _ _ (_ :: _ :: _ :: _ :: _ :: _ :: _ :: _ :: _ :: _ :: [_]) _
      repeat (go_big_quiet_step (fail))
      refine wpQuiet_nil ?_
      have bN := below_box U (.cells #[.int .i64 f] 3)
      have hB := Blk.new U 3 #[.int .i64 f] [.int .i64 f] rfl
      have V5 := V4.below bN
      have K5 := K4.trans (Kn.below bN)
      have hO5 := hO4.later bN
      have hne : (Value.slice a' (fr k).length c').ownBlock ≠ some U.heap.size := fun h => by have := (World.ownsRow.lt hO4 _ h).2; omega
      have hin := inse w0.heap.size (.slice a' (fr k).length c') (fr k) f U.heap.size _ hO5 hB hne (by omega) V5.b.size
      rw [HIPO.out, HNN.out] at hin
      have HIN := Lib.hid hin
      have dc5 := cell_later bN dc4
      have HV5 := Lib.hid V5; have HK5 := Lib.hid K5; have HO5 := Lib.hid hO5; have HB5 := Lib.hid bN
      clear hin hne hB V5 K5 hO5 bN V4 K4 hO4
      refine ⟨?_, ?_⟩
      · show wpList _ _ _ [_] _ _
        go_wp2
        refine ⟨hold_of (S0 := fun _ => True) trivial, ?_⟩
        show wpList _ _ _ [_] _ _
        go_wp2
        refine ⟨hold_of (S0 := fun _ => True) trivial, ?_⟩
        have V5 := HV5.out; have K5 := HK5.out; have hO5 := HO5.out; have hin := HIN.out
        clear HV5 HK5 HO5 HIN HB5 dc4
        obtain ⟨w6, hw6⟩ : ∃ W, W = U.alloc (.cells #[.int .i64 f] 3) := ⟨_, rfl⟩
        obtain ⟨vb, hvb⟩ : ∃ g, U.heap.size = g := ⟨_, rfl⟩
        rw [← hw6] at V5 K5 hO5 hin dc5 ⊢
        rw [hvb] at hin ⊢
        have HIN := Lib.hid hin
        clear hw6 hvb hin
        show wpList _ _ _ [_] _ _
        go_wp2_with fail
        refine HIN.out.mono ?_
        rintro e w7 ⟨v', rfl, hO7, hg7, hn7⟩
        have hu := HU.out
        rw [← HNN.out] at hg7 hn7
        have V7 := V5.put hk5 hu hg7 hO7 hn7
        have K7 := K5.trans (Kn.put hO5 hg7 (5 + k) (u := v'))
        have hx7 := V5.x.grown hg7 (V5.x.not_own hO5 (by decide))
        have df7 := hx7.frozen (5 + k)
        have dc7 : w7.cell? ⟨g, 5 + k, none⟩ = some (.slice a' n c') := by rw [hx7.cell, ← V5.x.cell]; exact dc5
        obtain ⟨a'', c'', rfl, _⟩ := own_form hO7
        clear V5 K5 hO5 dc5 hO7 hg7 hn7 hx7 hu HU
        go_wp2
        refine ⟨hold_of (S0 := fun _ => True) trivial, ?_⟩
        show wpQuiet _ _ _ _ ([_]) _
        repeat (go_big_quiet_step (fail))
        refine wpQuiet_nil ?_
        show wpList _ _ _ [_] _ _
        go_wp2
        refine ⟨hold_of (S0 := fun _ => True) trivial, NoPanic.normal ?_⟩
        go_wp2
        exact bodyPost_end (results_none rfl _ _ _) rfl ⟨rfl, ⟨_, _, V7, v1, v2⟩, K7⟩
      · show wpList _ _ _ [_] _ _
        go_wp2
        refine ⟨hold_of (S0 := fun _ => True) trivial, ?_⟩
        show wpList _ _ _ [_] _ _
        go_wp2
        refine ⟨hold_of (S0 := fun _ => True) trivial, ?_⟩
        have V5 := HV5.out; have K5 := HK5.out; have hO5 := HO5.out; have hin := HIN.out
        clear HV5 HK5 HO5 HIN HB5 dc4
        obtain ⟨w6, hw6⟩ : ∃ W, W = U.alloc (.cells #[.int .i64 f] 3) := ⟨_, rfl⟩
        obtain ⟨vb, hvb⟩ : ∃ g, U.heap.size = g := ⟨_, rfl⟩
        rw [← hw6] at V5 K5 hO5 hin dc5 ⊢
        rw [hvb] at hin ⊢
        have HIN := Lib.hid hin
        clear hw6 hvb hin
        show wpList _ _ _ [_] _ _
        go_wp2_with fail
        refine HIN.out.mono ?_
        rintro e w7 ⟨v', rfl, hO7, hg7, hn7⟩
        have hu := HU.out
        rw [← HNN.out] at hg7 hn7
        have V7 := V5.put hk5 hu hg7 hO7 hn7
        have K7 := K5.trans (Kn.put hO5 hg7 (5 + k) (u := v'))
        have hx7 := V5.x.grown hg7 (V5.x.not_own hO5 (by decide))
        have df7 := hx7.frozen (5 + k)
        have dc7 : w7.cell? ⟨g, 5 + k, none⟩ = some (.slice a' n c') := by rw [hx7.cell, ← V5.x.cell]; exact dc5
        obtain ⟨a'', c'', rfl, _⟩ := own_form hO7
        clear V5 K5 hO5 dc5 hO7 hg7 hn7 hx7 hu HU
        go_wp2
        refine ⟨hold_of (S0 := fun _ => True) trivial, ?_⟩
        show wpQuiet _ _ _ _ ([_]) _
        repeat (go_big_quiet_step (fail))
        refine wpQuiet_nil ?_
        show wpList _ _ _ [_] _ _
        go_wp2
        refine ⟨hold_of (S0 := fun _ => True) trivial, NoPanic.normal ?_⟩
        go_wp2
        exact bodyPost_end (results_none rfl _ _ _) rfl ⟨rfl, ⟨_, _, V7, v1, v2⟩, K7⟩
    | succ gg =>
      have hk4 : k < 4 := by omega
      have hk5 : k < 5 := by omega
      have tk : decide ((k : Int) < 4) = true := by simp; omega
      have HG := Lib.hid hg
      clear hg
      obtain ⟨_, p1, p2, hal⟩ := HP3.out.r
      have r4 := HR.out.st0
      have r6 := HR.out.ct1
      have hpp := pw_pos k
      obtain ⟨m, hm⟩ : ∃ m, 2 ^ k = m := ⟨_, rfl⟩
      have hwm : ∀ j : Nat, j = k → wrap64 ((2 : Int) ^ j) = (m : Int) := fun j hj => by subst hj; rw [← hm]; exact wrap_pow hk5
      have HM := Lib.hid hm
      have hf256 : f < 256 := by omega
      have hf0 : 0 ≤ f := by omega
      have hxor : bits BinOp.xor IntKind.i64 f (m : Int) = bud k f := by rw [← hm]; exact xor_bud hk4 hf0 hf256 hal
      have hcase := bud_spec hal hk4
      obtain ⟨bd, hbd⟩ : ∃ b, bud k f = b := ⟨_, rfl⟩
      obtain ⟨pr, hpr⟩ : ∃ p, par f k = p := ⟨_, rfl⟩
      rw [hbd] at hxor
      have hmn : (f < bd ∧ pr = f) ∨ (bd < f ∧ pr = bd) := by
        rcases hcase with ⟨_, c2, c3⟩ | ⟨_, c2, c3⟩
        · left; omega
        · right; omega
      have HBD := Lib.hid hbd; have HPR := Lib.hid hpr; have HMN := Lib.hid hmn
      clear hm hcase hbd hpr hmn p1 p2 hal hpp r4 r6
      obtain ⟨v, hu, hO, dc, df⟩ := V3.at hk5
      have hasc := HP3.out.v.asc k hk5
      have hlen := vd_len HR.out HP3.out.v hk5
      simp only at hO
      obtain ⟨a', c', rfl, h1, h2, h3, hI⟩ := hO.sl
      obtain ⟨n, hn⟩ : ∃ n, (fr k).length = n := ⟨_, rfl⟩
      have hse := search a' (fr k) n c' bd wr hI hn (by omega) hasc
      obtain ⟨i, hip⟩ : ∃ i, pos (fr k) bd = i := ⟨_, rfl⟩
      obtain ⟨ct, hct⟩ : ∃ b, (fr k).contains bd = b := ⟨_, rfl⟩
      rw [hip, hct] at hse
      have HSE := Lib.hid hse; have HIPO := Lib.hid hip; have HCT := Lib.hid hct; have HNN := Lib.hid hn
      rw [hn] at dc
      clear hse hip hct h1 h2 h3 hI hn hO hu hasc df hlen
      go_wp2_with fail
      refine HSE.out.mono ?_
      rintro e w5 ⟨rfl, rfl⟩
      cases ct with
      | false =>
        have HB3 := Lib.hid (HP3.out.done (fun _ _ => by rw [HBD.out]; have := HCT.out; simpa using this))
        clear dc hxor hwm HSE HIPO HCT HNN HMN
        obtain ⟨v, hu, hO, dc, df⟩ := V3.at hk5
        have hasc := HP3.out.v.asc k hk5
        have hlen := vd_len HR.out HP3.out.v hk5
        simp only at hO
        obtain ⟨v1, v2⟩ := HB3.out
        obtain ⟨a', c', rfl, h1, h2, h3, hI⟩ := hO.sl
        obtain ⟨n, hn⟩ : ∃ n, (fr k).length = n := ⟨_, rfl⟩
        have hse := search a' (fr k) n c' f wr hI hn (by omega) hasc
        obtain ⟨i, hip⟩ : ∃ i, pos (fr k) f = i := ⟨_, rfl⟩
        obtain ⟨ct, hct⟩ : ∃ b, (fr k).contains f = b := ⟨_, rfl⟩
        rw [hip, hct] at hse
        have HSE := Lib.hid hse; have HIPO := Lib.hid hip; have HNN := Lib.hid hn
        have HOO := Lib.hid hO; have HU := Lib.hid hu
        rw [hn] at dc
        clear hse hip hct h1 h2 h3 hI hn hO hu hasc df
        go_wp2_with fail
        refine HSE.out.mono ?_
        rintro e w5 ⟨rfl, rfl⟩
        go_wp2_with fail
        refine wp_region_plan (fun _ => True) (.quiet [0, 1, 2, 3, 4, 5, 6, 8, 9, 12, 13] (.fork 7 (.only 10 (.only 11 (.quiet [14] (.only 15 .done)))) 10 (.only 7 (.only 11 (.quiet [14] (.only 15 .done)))))) 99 (by kernel_rfl) (by kernel_rfl) trivial ?_
        intro U _ hWe
        have bW : Below wr.heap.size wr U := by rw [hWe]; exact (Below.refl _ _).drew
        have V4 := V3.below bW
        have K4 := K3.trans (Kn.below bW)
        have hO4 := HOO.out.later bW
        have dc4 := cell_later bW dc
        clear hWe V3 dc bW HOO
        simp only [wpPlan, inOrder, List.filterMap_cons, List.filterMap_nil, List.getElem?_cons_zero, List.getElem?_cons_succ]
        show wpQuiet _ _ _ _ (_ :: _ :: _ :: _ :: _ :: _ :: _ :: _ :: _ :: _ :: [_]) _
        repeat (go_big_quiet_step (fail))
        refine wpQuiet_nil ?_
        have bN := below_box U (.cells #[.int .i64 f] 3)
        have hB := Blk.new U 3 #[.int .i64 f] [.int .i64 f] rfl
        have V5 := V4.below bN
        have K5 := K4.trans (Kn.below bN)
        have hO5 := hO4.later bN
        have hne : (Value.slice a' (fr k).length c').ownBlock ≠ some U.heap.size := fun h => by have := (World.ownsRow.lt hO4 _ h).2; omega
        have hin := inse w0.heap.size (.slice a' (fr k).length c') (fr k) f U.heap.size _ hO5 hB hne (by omega) V5.b.size
        rw [HIPO.out, HNN.out] at hin
        have HIN := Lib.hid hin
        have dc5 := cell_later bN dc4
        have HV5 := Lib.hid V5; have HK5 := Lib.hid K5; have HO5 := Lib.hid hO5; have HB5 := Lib.hid bN
        clear hin hne hB V5 K5 hO5 bN V4 K4 hO4
        refine ⟨?_, ?_⟩
        · show wpList _ _ _ [_] _ _
          go_wp2
          refine ⟨hold_of (S0 := fun _ => True) trivial, ?_⟩
          show wpList _ _ _ [_] _ _
          go_wp2
          refine ⟨hold_of (S0 := fun _ => True) trivial, ?_⟩
          have V5 := HV5.out; have K5 := HK5.out; have hO5 := HO5.out; have hin := HIN.out
          clear HV5 HK5 HO5 HIN HB5 dc4
          obtain ⟨w6, hw6⟩ : ∃ W, W = U.alloc (.cells #[.int .i64 f] 3) := ⟨_, rfl⟩
          obtain ⟨vb, hvb⟩ : ∃ g, U.heap.size = g := ⟨_, rfl⟩
          rw [← hw6] at V5 K5 hO5 hin dc5 ⊢
          rw [hvb] at hin ⊢
          have HIN := Lib.hid hin
          clear hw6 hvb hin
          show wpList _ _ _ [_] _ _
          go_wp2_with fail
          refine HIN.out.mono ?_
          rintro e w7 ⟨v', rfl, hO7, hg7, hn7⟩
          have hu := HU.out
          rw [← HNN.out] at hg7 hn7
          have V7 := V5.put hk5 hu hg7 hO7 hn7
          have K7 := K5.trans (Kn.put hO5 hg7 (5 + k) (u := v'))
          have hx7 := V5.x.grown hg7 (V5.x.not_own hO5 (by decide))
          have df7 := hx7.frozen (5 + k)
          have dc7 : w7.cell? ⟨g, 5 + k, none⟩ = some (.slice a' n c') := by rw [hx7.cell, ← V5.x.cell]; exact dc5
          obtain ⟨a'', c'', rfl, _⟩ := own_form hO7
          clear V5 K5 hO5 dc5 hO7 hg7 hn7 hx7 hu HU
          go_wp2
          refine ⟨hold_of (S0 := fun _ => True) trivial, ?_⟩
          show wpQuiet _ _ _ _ ([_]) _
          repeat (go_big_quiet_step (fail))
          refine wpQuiet_nil ?_
          show wpList _ _ _ [_] _ _
          go_wp2
          refine ⟨hold_of (S0 := fun _ => True) trivial, NoPanic.normal ?_⟩
          go_wp2
          exact bodyPost_end (results_none rfl _ _ _) rfl ⟨rfl, ⟨_, _, V7, v1, v2⟩, K7⟩
        · show wpList _ _ _ [_] _ _
          go_wp2
          refine ⟨hold_of (S0 := fun _ => True) trivial, ?_⟩
          show wpList _ _ _ [_] _ _
          go_wp2
          refine ⟨hold_of (S0 := fun _ => True) trivial, ?_⟩
          have V5 := HV5.out; have K5 := HK5.out; have hO5 := HO5.out; have hin := HIN.out
          clear HV5 HK5 HO5 HIN HB5 dc4
          obtain ⟨w6, hw6⟩ : ∃ W, W = U.alloc (.cells #[.int .i64 f] 3) := ⟨_, rfl⟩
          obtain ⟨vb, hvb⟩ : ∃ g, U.heap.size = g := ⟨_, rfl⟩
          rw [← hw6] at V5 K5 hO5 hin dc5 ⊢
          rw [hvb] at hin ⊢
          have HIN := Lib.hid hin
          clear hw6 hvb hin
          show wpList _ _ _ [_] _ _
          go_wp2_with fail
          refine HIN.out.mono ?_
          rintro e w7 ⟨v', rfl, hO7, hg7, hn7⟩
          have hu := HU.out
          rw [← HNN.out] at hg7 hn7
          have V7 := V5.put hk5 hu hg7 hO7 hn7
          have K7 := K5.trans (Kn.put hO5 hg7 (5 + k) (u := v'))
          have hx7 := V5.x.grown hg7 (V5.x.not_own hO5 (by decide))
          have df7 := hx7.frozen (5 + k)
          have dc7 : w7.cell? ⟨g, 5 + k, none⟩ = some (.slice a' n c') := by rw [hx7.cell, ← V5.x.cell]; exact dc5
          obtain ⟨a'', c'', rfl, _⟩ := own_form hO7
          clear V5 K5 hO5 dc5 hO7 hg7 hn7 hx7 hu HU
          go_wp2
          refine ⟨hold_of (S0 := fun _ => True) trivial, ?_⟩
          show wpQuiet _ _ _ _ ([_]) _
          repeat (go_big_quiet_step (fail))
          refine wpQuiet_nil ?_
          show wpList _ _ _ [_] _ _
          go_wp2
          refine ⟨hold_of (S0 := fun _ => True) trivial, NoPanic.normal ?_⟩
          go_wp2
          exact bodyPost_end (results_none rfl _ _ _) rfl ⟨rfl, ⟨_, _, V7, v1, v2⟩, K7⟩
      | true =>
        have hmn := HMN.out
        clear HMN HSE
        rcases hmn with ⟨hlt, hpe⟩ | ⟨hlt, hpe⟩
        · obtain ⟨b, hb⟩ : ∃ b, insB z.st z.ct pr (k + 1) = b := ⟨_, rfl⟩
          have K : insB z.st z.ct f (k + 1) = b := by rw [← hpe]; exact hb
          have C := inside (.agg cs.toArray) { z with fr := fr } f (k + 1) (by omega) wr V3.rz (rng_fr HR.out fr)
          simp only at C
          rw [K, show ((k + 1 : Nat) : Int) = (k : Int) + 1 from by omega] at C
          have HC := Lib.hid C; have HPE := Lib.hid hpe; have HBB := Lib.hid hb
          clear C K hpe hb
          go_wp2_with ((with_reducible refine ldg ?_ ?_ V3.x V3.v.len ?_); (focus rfl); (focus rfl))
          refine HC.out.mono ?_
          rintro e w9 ⟨rfl, b9⟩
          have V4 := V3.below b9
          have K4 := K3.trans (Kn.below b9)
          clear V3 K3 dc b9 HC hxor hwm
          cases b with
          | false =>
            have HB3 := Lib.hid (HP3.out.done (fun _ hr2 => by
              rw [HPR.out] at hr2
              have := insB_of hr2
              rw [HBB.out] at this; cases this))
            have V3 := V4; have K3 := K4
            clear V4 K4 HIPO HCT HNN HBB HPE hlt
            obtain ⟨v, hu, hO, dc, df⟩ := V3.at hk5
            have hasc := HP3.out.v.asc k hk5
            have hlen := vd_len HR.out HP3.out.v hk5
            simp only at hO
            obtain ⟨v1, v2⟩ := HB3.out
            obtain ⟨a', c', rfl, h1, h2, h3, hI⟩ := hO.sl
            obtain ⟨n, hn⟩ : ∃ n, (fr k).length = n := ⟨_, rfl⟩
            have hse := search a' (fr k) n c' f w9 hI hn (by omega) hasc
            obtain ⟨i, hip⟩ : ∃ i, pos (fr k) f = i := ⟨_, rfl⟩
            obtain ⟨ct, hct⟩ : ∃ b, (fr k).contains f = b := ⟨_, rfl⟩
            rw [hip, hct] at hse
            have HSE := Lib.hid hse; have HIPO := Lib.hid hip; have HNN := Lib.hid hn
            have HOO := Lib.hid hO; have HU := Lib.hid hu
            rw [hn] at dc
            clear hse hip hct h1 h2 h3 hI hn hO hu hasc df
            go_wp2_with fail
            refine HSE.out.mono ?_
            rintro e w5 ⟨rfl, rfl⟩
            go_wp2_with fail
            refine wp_region_plan (fun _ => True) (.quiet [0, 1, 2, 3, 4, 5, 6, 8, 9, 12, 13] (.fork 7 (.only 10 (.only 11 (.quiet [14] (.only 15 .done)))) 10 (.only 7 (.only 11 (.quiet [14] (.only 15 .done)))))) 99 (by kernel_rfl) (by kernel_rfl) trivial ?_
            intro U _ hWe
            have bW : Below w9.heap.size w9 U := by rw [hWe]; exact (Below.refl _ _).drew
            have V4 := V3.below bW
            have K4 := K3.trans (Kn.below bW)
            have hO4 := HOO.out.later bW
            have dc4 := cell_later bW dc
            clear hWe V3 dc bW HOO
            simp only [wpPlan, inOrder, List.filterMap_cons, List.filterMap_nil, List.getElem?_cons_zero, List.getElem?_cons_succ]
            show wpQuiet _ _ _ _ (_ :: _ :: _ :: _ :: _ :: _ :: _ :: _ :: _ :: _ :: [_]) _
            repeat (go_big_quiet_step (fail))
            refine wpQuiet_nil ?_
            have bN := below_box U (.cells #[.int .i64 f] 3)
            have hB := Blk.new U 3 #[.int .i64 f] [.int .i64 f] rfl
            have V5 := V4.below bN
            have K5 := K4.trans (Kn.below bN)
            have hO5 := hO4.later bN
            have hne : (Value.slice a' (fr k).length c').ownBlock ≠ some U.heap.size := fun h => by have := (World.ownsRow.lt hO4 _ h).2; omega
            have hin := inse w0.heap.size (.slice a' (fr k).length c') (fr k) f U.heap.size _ hO5 hB hne (by omega) V5.b.size
            rw [HIPO.out, HNN.out] at hin
            have HIN := Lib.hid hin
            have dc5 := cell_later bN dc4
            have HV5 := Lib.hid V5; have HK5 := Lib.hid K5; have HO5 := Lib.hid hO5; have HB5 := Lib.hid bN
            clear hin hne hB V5 K5 hO5 bN V4 K4 hO4
            refine ⟨?_, ?_⟩
            · show wpList _ _ _ [_] _ _
              go_wp2
              refine ⟨hold_of (S0 := fun _ => True) trivial, ?_⟩
              show wpList _ _ _ [_] _ _
              go_wp2
              refine ⟨hold_of (S0 := fun _ => True) trivial, ?_⟩
              have V5 := HV5.out; have K5 := HK5.out; have hO5 := HO5.out; have hin := HIN.out
              clear HV5 HK5 HO5 HIN HB5 dc4
              obtain ⟨w6, hw6⟩ : ∃ W, W = U.alloc (.cells #[.int .i64 f] 3) := ⟨_, rfl⟩
              obtain ⟨vb, hvb⟩ : ∃ g, U.heap.size = g := ⟨_, rfl⟩
              rw [← hw6] at V5 K5 hO5 hin dc5 ⊢
              rw [hvb] at hin ⊢
              have HIN := Lib.hid hin
              clear hw6 hvb hin
              show wpList _ _ _ [_] _ _
              go_wp2_with fail
              refine HIN.out.mono ?_
              rintro e w7 ⟨v', rfl, hO7, hg7, hn7⟩
              have hu := HU.out
              rw [← HNN.out] at hg7 hn7
              have V7 := V5.put hk5 hu hg7 hO7 hn7
              have K7 := K5.trans (Kn.put hO5 hg7 (5 + k) (u := v'))
              have hx7 := V5.x.grown hg7 (V5.x.not_own hO5 (by decide))
              have df7 := hx7.frozen (5 + k)
              have dc7 : w7.cell? ⟨g, 5 + k, none⟩ = some (.slice a' n c') := by rw [hx7.cell, ← V5.x.cell]; exact dc5
              obtain ⟨a'', c'', rfl, _⟩ := own_form hO7
              clear V5 K5 hO5 dc5 hO7 hg7 hn7 hx7 hu HU
              go_wp2
              refine ⟨hold_of (S0 := fun _ => True) trivial, ?_⟩
              show wpQuiet _ _ _ _ ([_]) _
              repeat (go_big_quiet_step (fail))
              refine wpQuiet_nil ?_
              show wpList _ _ _ [_] _ _
              go_wp2
              refine ⟨hold_of (S0 := fun _ => True) trivial, NoPanic.normal ?_⟩
              go_wp2
              exact bodyPost_end (results_none rfl _ _ _) rfl ⟨rfl, ⟨_, _, V7, v1, v2⟩, K7⟩
            · show wpList _ _ _ [_] _ _
              go_wp2
              refine ⟨hold_of (S0 := fun _ => True) trivial, ?_⟩
              show wpList _ _ _ [_] _ _
              go_wp2
              refine ⟨hold_of (S0 := fun _ => True) trivial, ?_⟩
              have V5 := HV5.out; have K5 := HK5.out; have hO5 := HO5.out; have hin := HIN.out
              clear HV5 HK5 HO5 HIN HB5 dc4
              obtain ⟨w6, hw6⟩ : ∃ W, W = U.alloc (.cells #[.int .i64 f] 3) := ⟨_, rfl⟩
              obtain ⟨vb, hvb⟩ : ∃ g, U.heap.size = g := ⟨_, rfl⟩
              rw [← hw6] at V5 K5 hO5 hin dc5 ⊢
              rw [hvb] at hin ⊢
              have HIN := Lib.hid hin
              clear hw6 hvb hin
              show wpList _ _ _ [_] _ _
              go_wp2_with fail
              refine HIN.out.mono ?_
              rintro e w7 ⟨v', rfl, hO7, hg7, hn7⟩
              have hu := HU.out
              rw [← HNN.out] at hg7 hn7
              have V7 := V5.put hk5 hu hg7 hO7 hn7
              have K7 := K5.trans (Kn.put hO5 hg7 (5 + k) (u := v'))
              have hx7 := V5.x.grown hg7 (V5.x.not_own hO5 (by decide))
              have df7 := hx7.frozen (5 + k)
              have dc7 : w7.cell? ⟨g, 5 + k, none⟩ = some (.slice a' n c') := by rw [hx7.cell, ← V5.x.cell]; exact dc5
              obtain ⟨a'', c'', rfl, _⟩ := own_form hO7
              clear V5 K5 hO5 dc5 hO7 hg7 hn7 hx7 hu HU
              go_wp2
              refine ⟨hold_of (S0 := fun _ => True) trivial, ?_⟩
              show wpQuiet _ _ _ _ ([_]) _
              repeat (go_big_quiet_step (fail))
              refine wpQuiet_nil ?_
              show wpList _ _ _ [_] _ _
              go_wp2
              refine ⟨hold_of (S0 := fun _ => True) trivial, NoPanic.normal ?_⟩
              go_wp2
              exact bodyPost_end (results_none rfl _ _ _) rfl ⟨rfl, ⟨_, _, V7, v1, v2⟩, K7⟩
          | true =>
            have hmem : bd ∈ fr k := by have := HCT.out; simpa using this
            have HJ := Lib.hid (show Put z.st z.ct (upd fr k (del (fr k) bd)) f (k + 1) S from by
              have := HP3.out.join hk4 (by rw [HBD.out]; exact hmem) (by rw [HPR.out]; exact (insB_iff (by omega)).1 HBB.out)
              rw [HBD.out, HPR.out, HPE.out] at this
              exact this)
            have hil : i < n := by have := (pos_lt (HP3.out.v.asc k hk5) hmem).1; rw [HIPO.out, HNN.out] at this; exact this
            have HDEL := Lib.hid (show (fr k).eraseIdx i = del (fr k) bd by unfold del; rw [HIPO.out])
            have hlen := vd_len HR.out HP3.out.v hk5
            obtain ⟨v, hu, hO, dc, df⟩ := V4.at hk5
            simp only at hO
            obtain ⟨a2, c2, rfl, _, _, _, _⟩ := hO.sl
            have hde := fun U hOU => dele w0.heap.size (.slice a2 (fr k).length c2) (fr k) i U hOU (by rw [HNN.out]; exact hil) (by omega)
            have HDE := Lib.hid hde; have HU := Lib.hid hu; have HOO := Lib.hid hO
            rw [HNN.out] at dc hlen
            clear hmem hde hu hO df HBB HCT
            go_wp2_with fail
            refine wp_region_plan (fun _ => True) (.quiet [0, 1, 2, 3, 4, 5, 6, 8, 9, 10, 12, 13] (.only 7 (.only 11 (.quiet [14] (.only 15 .done))))) 99 (by kernel_rfl) (by kernel_rfl) trivial ?_
            intro U _ hWe
            have bW : Below w9.heap.size w9 U := by rw [hWe]; exact (Below.refl _ _).drew
            have V5 := V4.below bW
            have K5 := K4.trans (Kn.below bW)
            have HO5 := Lib.hid (HOO.out.later bW)
            have dc5 := cell_later bW dc
            clear hWe V4 K4 HOO dc bW
            simp only [wpPlan, inOrder, List.filterMap_cons, List.filterMap_nil, List.getElem?_cons_zero, List.getElem?_cons_succ]
            show wpQuiet _ _ _ _ (_ :: _ :: _ :: _ :: _ :: _ :: _ :: _ :: _ :: _ :: _ :: [_]) _
            repeat (go_big_quiet_step (fail))
            refine wpQuiet_nil ?_
            show wpList _ _ _ [_] _ _
            go_wp2
            refine ⟨hold_of (S0 := fun _ => True) trivial, ?_⟩
            have hde := HDE.out U HO5.out
            rw [HNN.out] at hde
            show wpList _ _ _ [_] _ _
            have HDF := Lib.hid hde
            clear hde
            go_wp2_with fail
            refine HDF.out.mono ?_
            rintro e w6 ⟨v', rfl, hO6, hg6, hn6⟩
            rw [HDEL.out] at hO6
            have hu := HU.out
            have hO5 := HO5.out
            rw [← HNN.out] at hg6 hn6
            have V6 := V5.put hk5 hu hg6 hO6 hn6
            have K6 := K5.trans (Kn.put hO5 hg6 (5 + k) (u := v'))
            have hx6 := V5.x.grown hg6 (V5.x.not_own hO5 (by decide))
            have df6 := hx6.frozen (5 + k)
            have dc6 : w6.cell? ⟨g, 5 + k, none⟩ = some (.slice a2 n c2) := by rw [hx6.cell, ← V5.x.cell]; exact dc5
            obtain ⟨a3, c3, rfl, _⟩ := own_form hO6
            clear V5 K5 hO5 HO5 dc5 hO6 hg6 hn6 hx6 hu HU HDF HDE
            go_wp2
            refine ⟨hold_of (S0 := fun _ => True) trivial, ?_⟩
            show wpQuiet _ _ _ _ ([_]) _
            repeat (go_big_quiet_step (fail))
            refine wpQuiet_nil ?_
            show wpList _ _ _ [_] _ _
            go_wp2
            refine ⟨hold_of (S0 := fun _ => True) trivial, NoPanic.normal ?_⟩
            clear dc6 df6
            obtain ⟨w7, hw7⟩ : ∃ W, W = w6.setCell ⟨g, 5 + k, none⟩ (.slice a3 (del (fr k) bd).length c3) := ⟨_, rfl⟩
            rw [← hw7] at V6 K6 ⊢
            clear hw7
            go_wp2
            go_roundg gg
            case rel => exact ⟨f, k + 1, _, _, by have := HG.out; omega, rfl, by go_num, V6, HJ.out, K6⟩
            case measure => omega
        · obtain ⟨b, hb⟩ : ∃ b, insB z.st z.ct pr (k + 1) = b := ⟨_, rfl⟩
          have K : insB z.st z.ct bd (k + 1) = b := by rw [← hpe]; exact hb
          have C := inside (.agg cs.toArray) { z with fr := fr } bd (k + 1) (by omega) wr V3.rz (rng_fr HR.out fr)
          simp only at C
          rw [K, show ((k + 1 : Nat) : Int) = (k : Int) + 1 from by omega] at C
          have HC := Lib.hid C; have HPE := Lib.hid hpe; have HBB := Lib.hid hb
          clear C K hpe hb
          go_wp2_with ((with_reducible refine ldg ?_ ?_ V3.x V3.v.len ?_); (focus rfl); (focus rfl))
          refine HC.out.mono ?_
          rintro e w9 ⟨rfl, b9⟩
          have V4 := V3.below b9
          have K4 := K3.trans (Kn.below b9)
          clear V3 K3 dc b9 HC hxor hwm
          cases b with
          | false =>
            have HB3 := Lib.hid (HP3.out.done (fun _ hr2 => by
              rw [HPR.out] at hr2
              have := insB_of hr2
              rw [HBB.out] at this; cases this))
            have V3 := V4; have K3 := K4
            clear V4 K4 HIPO HCT HNN HBB HPE hlt
            obtain ⟨v, hu, hO, dc, df⟩ := V3.at hk5
            have hasc := HP3.out.v.asc k hk5
            have hlen := vd_len HR.out HP3.out.v hk5
            simp only at hO
            obtain ⟨v1, v2⟩ := HB3.out
            obtain ⟨a', c', rfl, h1, h2, h3, hI⟩ := hO.sl
            obtain ⟨n, hn⟩ : ∃ n, (fr k).length = n := ⟨_, rfl⟩
            have hse := search a' (fr k) n c' f w9 hI hn (by omega) hasc
            obtain ⟨i, hip⟩ : ∃ i, pos (fr k) f = i := ⟨_, rfl⟩
            obtain ⟨ct, hct⟩ : ∃ b, (fr k).contains f = b := ⟨_, rfl⟩
            rw [hip, hct] at hse
            have HSE := Lib.hid hse; have HIPO := Lib.hid hip; have HNN := Lib.hid hn
            have HOO := Lib.hid hO; have HU := Lib.hid hu
            rw [hn] at dc
            clear hse hip hct h1 h2 h3 hI hn hO hu hasc df
            go_wp2_with fail
            refine HSE.out.mono ?_
            rintro e w5 ⟨rfl, rfl⟩
            go_wp2_with fail
            refine wp_region_plan (fun _ => True) (.quiet [0, 1, 2, 3, 4, 5, 6, 8, 9, 12, 13] (.fork 7 (.only 10 (.only 11 (.quiet [14] (.only 15 .done)))) 10 (.only 7 (.only 11 (.quiet [14] (.only 15 .done)))))) 99 (by kernel_rfl) (by kernel_rfl) trivial ?_
            intro U _ hWe
            have bW : Below w9.heap.size w9 U := by rw [hWe]; exact (Below.refl _ _).drew
            have V4 := V3.below bW
            have K4 := K3.trans (Kn.below bW)
            have hO4 := HOO.out.later bW
            have dc4 := cell_later bW dc
            clear hWe V3 dc bW HOO
            simp only [wpPlan, inOrder, List.filterMap_cons, List.filterMap_nil, List.getElem?_cons_zero, List.getElem?_cons_succ]
            show wpQuiet _ _ _ _ (_ :: _ :: _ :: _ :: _ :: _ :: _ :: _ :: _ :: _ :: [_]) _
            repeat (go_big_quiet_step (fail))
            refine wpQuiet_nil ?_
            have bN := below_box U (.cells #[.int .i64 f] 3)
            have hB := Blk.new U 3 #[.int .i64 f] [.int .i64 f] rfl
            have V5 := V4.below bN
            have K5 := K4.trans (Kn.below bN)
            have hO5 := hO4.later bN
            have hne : (Value.slice a' (fr k).length c').ownBlock ≠ some U.heap.size := fun h => by have := (World.ownsRow.lt hO4 _ h).2; omega
            have hin := inse w0.heap.size (.slice a' (fr k).length c') (fr k) f U.heap.size _ hO5 hB hne (by omega) V5.b.size
            rw [HIPO.out, HNN.out] at hin
            have HIN := Lib.hid hin
            have dc5 := cell_later bN dc4
            have HV5 := Lib.hid V5; have HK5 := Lib.hid K5; have HO5 := Lib.hid hO5; have HB5 := Lib.hid bN
            clear hin hne hB V5 K5 hO5 bN V4 K4 hO4
            refine ⟨?_, ?_⟩
            · show wpList _ _ _ [_] _ _
              go_wp2
              refine ⟨hold_of (S0 := fun _ => True) trivial, ?_⟩
              show wpList _ _ _ [_] _ _
              go_wp2
              refine ⟨hold_of (S0 := fun _ => True) trivial, ?_⟩
              have V5 := HV5.out; have K5 := HK5.out; have hO5 := HO5.out; have hin := HIN.out
              clear HV5 HK5 HO5 HIN HB5 dc4
              obtain ⟨w6, hw6⟩ : ∃ W, W = U.alloc (.cells #[.int .i64 f] 3) := ⟨_, rfl⟩
              obtain ⟨vb, hvb⟩ : ∃ g, U.heap.size = g := ⟨_, rfl⟩
              rw [← hw6] at V5 K5 hO5 hin dc5 ⊢
              rw [hvb] at hin ⊢
              have HIN := Lib.hid hin
              clear hw6 hvb hin
              show wpList _ _ _ [_] _ _
              go_wp2_with fail
              refine HIN.out.mono ?_
              rintro e w7 ⟨v', rfl, hO7, hg7, hn7⟩
              have hu := HU.out
              rw [← HNN.out] at hg7 hn7
              have V7 := V5.put hk5 hu hg7 hO7 hn7
              have K7 := K5.trans (Kn.put hO5 hg7 (5 + k) (u := v'))
              have hx7 := V5.x.grown hg7 (V5.x.not_own hO5 (by decide))
              have df7 := hx7.frozen (5 + k)
              have dc7 : w7.cell? ⟨g, 5 + k, none⟩ = some (.slice a' n c') := by rw [hx7.cell, ← V5.x.cell]; exact dc5
              obtain ⟨a'', c'', rfl, _⟩ := own_form hO7
              clear V5 K5 hO5 dc5 hO7 hg7 hn7 hx7 hu HU
              go_wp2
              refine ⟨hold_of (S0 := fun _ => True) trivial, ?_⟩
              show wpQuiet _ _ _ _ ([_]) _
              repeat (go_big_quiet_step (fail))
              refine wpQuiet_nil ?_
              show wpList _ _ _ [_] _ _
              go_wp2
              refine ⟨hold_of (S0 := fun _ => True) trivial, NoPanic.normal ?_⟩
              go_wp2
              exact bodyPost_end (results_none rfl _ _ _) rfl ⟨rfl, ⟨_, _, V7, v1, v2⟩, K7⟩
            · show wpList _ _ _ [_] _ _
              go_wp2
              refine ⟨hold_of (S0 := fun _ => True) trivial, ?_⟩
              show wpList _ _ _ [_] _ _
              go_wp2
              refine ⟨hold_of (S0 := fun _ => True) trivial, ?_⟩
              have V5 := HV5.out; have K5 := HK5.out; have hO5 := HO5.out; have hin := HIN.out
              clear HV5 HK5 HO5 HIN HB5 dc4
              obtain ⟨w6, hw6⟩ : ∃ W, W = U.alloc (.cells #[.int .i64 f] 3) := ⟨_, rfl⟩
              obtain ⟨vb, hvb⟩ : ∃ g, U.heap.size = g := ⟨_, rfl⟩
              rw [← hw6] at V5 K5 hO5 hin dc5 ⊢
              rw [hvb] at hin ⊢
              have HIN := Lib.hid hin
              clear hw6 hvb hin
              show wpList _ _ _ [_] _ _
              go_wp2_with fail
              refine HIN.out.mono ?_
              rintro e w7 ⟨v', rfl, hO7, hg7, hn7⟩
              have hu := HU.out
              rw [← HNN.out] at hg7 hn7
              have V7 := V5.put hk5 hu hg7 hO7 hn7
              have K7 := K5.trans (Kn.put hO5 hg7 (5 + k) (u := v'))
              have hx7 := V5.x.grown hg7 (V5.x.not_own hO5 (by decide))
              have df7 := hx7.frozen (5 + k)
              have dc7 : w7.cell? ⟨g, 5 + k, none⟩ = some (.slice a' n c') := by rw [hx7.cell, ← V5.x.cell]; exact dc5
              obtain ⟨a'', c'', rfl, _⟩ := own_form hO7
              clear V5 K5 hO5 dc5 hO7 hg7 hn7 hx7 hu HU
              go_wp2
              refine ⟨hold_of (S0 := fun _ => True) trivial, ?_⟩
              show wpQuiet _ _ _ _ ([_]) _
              repeat (go_big_quiet_step (fail))
              refine wpQuiet_nil ?_
              show wpList _ _ _ [_] _ _
              go_wp2
              refine ⟨hold_of (S0 := fun _ => True) trivial, NoPanic.normal ?_⟩
              go_wp2
              exact bodyPost_end (results_none rfl _ _ _) rfl ⟨rfl, ⟨_, _, V7, v1, v2⟩, K7⟩
          | true =>
            have hmem : bd ∈ fr k := by have := HCT.out; simpa using this
            have HJ := Lib.hid (show Put z.st z.ct (upd fr k (del (fr k) bd)) bd (k + 1) S from by
              have := HP3.out.join hk4 (by rw [HBD.out]; exact hmem) (by rw [HPR.out]; exact (insB_iff (by omega)).1 HBB.out)
              rw [HBD.out, HPR.out, HPE.out] at this
              exact this)
            have hil : i < n := by have := (pos_lt (HP3.out.v.asc k hk5) hmem).1; rw [HIPO.out, HNN.out] at this; exact this
            have HDEL := Lib.hid (show (fr k).eraseIdx i = del (fr k) bd by unfold del; rw [HIPO.out])
            have hlen := vd_len HR.out HP3.out.v hk5
            obtain ⟨v, hu, hO, dc, df⟩ := V4.at hk5
            simp only at hO
            obtain ⟨a2, c2, rfl, _, _, _, _⟩ := hO.sl
            have hde := fun U hOU => dele w0.heap.size (.slice a2 (fr k).length c2) (fr k) i U hOU (by rw [HNN.out]; exact hil) (by omega)
            have HDE := Lib.hid hde; have HU := Lib.hid hu; have HOO := Lib.hid hO
            rw [HNN.out] at dc hlen
            clear hmem hde hu hO df HBB HCT
            go_wp2_with fail
            refine wp_region_plan (fun _ => True) (.quiet [0, 1, 2, 3, 4, 5, 6, 8, 9, 10, 12, 13] (.only 7 (.only 11 (.quiet [14] (.only 15 .done))))) 99 (by kernel_rfl) (by kernel_rfl) trivial ?_
            intro U _ hWe
            have bW : Below w9.heap.size w9 U := by rw [hWe]; exact (Below.refl _ _).drew
            have V5 := V4.below bW
            have K5 := K4.trans (Kn.below bW)
            have HO5 := Lib.hid (HOO.out.later bW)
            have dc5 := cell_later bW dc
            clear hWe V4 K4 HOO dc bW
            simp only [wpPlan, inOrder, List.filterMap_cons, List.filterMap_nil, List.getElem?_cons_zero, List.getElem?_cons_succ]
            show wpQuiet _ _ _ _ (_ :: _ :: _ :: _ :: _ :: _ :: _ :: _ :: _ :: _ :: _ :: [_]) _
            repeat (go_big_quiet_step (fail))
            refine wpQuiet_nil ?_
            show wpList _ _ _ [_] _ _
            go_wp2
            refine ⟨hold_of (S0 := fun _ => True) trivial, ?_⟩
            have hde := HDE.out U HO5.out
            rw [HNN.out] at hde
            show wpList _ _ _ [_] _ _
            have HDF := Lib.hid hde
            clear hde
            go_wp2_with fail
            refine HDF.out.mono ?_
            rintro e w6 ⟨v', rfl, hO6, hg6, hn6⟩
            rw [HDEL.out] at hO6
            have hu := HU.out
            have hO5 := HO5.out
            rw [← HNN.out] at hg6 hn6
            have V6 := V5.put hk5 hu hg6 hO6 hn6
            have K6 := K5.trans (Kn.put hO5 hg6 (5 + k) (u := v'))
            have hx6 := V5.x.grown hg6 (V5.x.not_own hO5 (by decide))
            have df6 := hx6.frozen (5 + k)
            have dc6 : w6.cell? ⟨g, 5 + k, none⟩ = some (.slice a2 n c2) := by rw [hx6.cell, ← V5.x.cell]; exact dc5
            obtain ⟨a3, c3, rfl, _⟩ := own_form hO6
            clear V5 K5 hO5 HO5 dc5 hO6 hg6 hn6 hx6 hu HU HDF HDE
            go_wp2
            refine ⟨hold_of (S0 := fun _ => True) trivial, ?_⟩
            show wpQuiet _ _ _ _ ([_]) _
            repeat (go_big_quiet_step (fail))
            refine wpQuiet_nil ?_
            show wpList _ _ _ [_] _ _
            go_wp2
            refine ⟨hold_of (S0 := fun _ => True) trivial, NoPanic.normal ?_⟩
            clear dc6 df6
            obtain ⟨w7, hw7⟩ : ∃ W, W = w6.setCell ⟨g, 5 + k, none⟩ (.slice a3 (del (fr k) bd).length c3) := ⟨_, rfl⟩
            rw [← hw7] at V6 K6 ⊢
            clear hw7
            go_wp2
            go_roundg gg
            case rel => exact ⟨bd, k + 1, _, _, by have := HG.out; omega, rfl, by go_num, V6, HJ.out, K6⟩
            case measure => omega
end Go.Proofs.Ytdddkfpcbfgocaa
namespace Go.Proofs.Ytdddkfpcbfgocaa
open Go.RowKit Go.Over Go.Zn Go.Can Go.Seg Go.Grow
theorem mask_0 {x : Int} (h0 : 0 ≤ x) (h1 : x < 256) : bits BinOp.andNot IntKind.i64 x 0 = x - x % pw 0 := by
  have key : ∀ n : Fin 256, bits BinOp.andNot IntKind.i64 ((n.val : Nat) : Int) 0 = ((n.val : Nat) : Int) - ((n.val : Nat) : Int) % pw 0 := by decide +kernel
  have h := key ⟨x.toNat, by omega⟩
  rw [show ((x.toNat : Nat) : Int) = x by omega] at h
  exact h
theorem mask_1 {x : Int} (h0 : 0 ≤ x) (h1 : x < 256) : bits BinOp.andNot IntKind.i64 x 1 = x - x % pw 1 := by
  have key : ∀ n : Fin 256, bits BinOp.andNot IntKind.i64 ((n.val : Nat) : Int) 1 = ((n.val : Nat) : Int) - ((n.val : Nat) : Int) % pw 1 := by decide +kernel
  have h := key ⟨x.toNat, by omega⟩
  rw [show ((x.toNat : Nat) : Int) = x by omega] at h
  exact h
theorem mask_2 {x : Int} (h0 : 0 ≤ x) (h1 : x < 256) : bits BinOp.andNot IntKind.i64 x 3 = x - x % pw 2 := by
  have key : ∀ n : Fin 256, bits BinOp.andNot IntKind.i64 ((n.val : Nat) : Int) 3 = ((n.val : Nat) : Int) - ((n.val : Nat) : Int) % pw 2 := by decide +kernel
  have h := key ⟨x.toNat, by omega⟩
  rw [show ((x.toNat : Nat) : Int) = x by omega] at h
  exact h
theorem mask_3 {x : Int} (h0 : 0 ≤ x) (h1 : x < 256) : bits BinOp.andNot IntKind.i64 x 7 = x - x % pw 3 := by
  have key : ∀ n : Fin 256, bits BinOp.andNot IntKind.i64 ((n.val : Nat) : Int) 7 = ((n.val : Nat) : Int) - ((n.val : Nat) : Int) % pw 3 := by decide +kernel
  have h := key ⟨x.toNat, by omega⟩
  rw [show ((x.toNat : Nat) : Int) = x by omega] at h
  exact h
theorem mask_4 {x : Int} (h0 : 0 ≤ x) (h1 : x < 256) : bits BinOp.andNot IntKind.i64 x 15 = x - x % pw 4 := by
  have key : ∀ n : Fin 256, bits BinOp.andNot IntKind.i64 ((n.val : Nat) : Int) 15 = ((n.val : Nat) : Int) - ((n.val : Nat) : Int) % pw 4 := by decide +kernel
  have h := key ⟨x.toNat, by omega⟩
  rw [show ((x.toNat : Nat) : Int) = x by omega] at h
  exact h
theorem mask {k : Nat} (hk : k < 5) {x : Int} (h0 : 0 ≤ x) (h1 : x < 256) : bits BinOp.andNot IntKind.i64 x (((2 ^ k : Nat) : Int) - 1) = x - x % pw k := by
  rcases (show k = 0 ∨ k = 1 ∨ k = 2 ∨ k = 3 ∨ k = 4 by omega) with rfl | rfl | rfl | rfl | rfl
  · exact mask_0 h0 h1
  · exact mask_1 h0 h1
  · exact mask_2 h0 h1
  · exact mask_3 h0 h1
  · exact mask_4 h0 h1
/-- The free block of a frame. -/
def BlkAns (z : Z) (x : Int) (e : Ending) : Prop :=
  (∃ k : Nat, k < 5 ∧ x - x % pw k ∈ z.fr k ∧ e = .returned (.tuple #[.int .i64 k, .int .i64 (x - x % pw k)])) ∨ (¬ Cov (F z.fr) x ∧ e = .returned (.tuple #[.int .i64 (-1), .int .i64 0]))
set_option maxRecDepth 100000 in set_option maxHeartbeats 3200000 in
theorem block (v : Value) (z : Z) (x : Int) (w : World) (H : Rz w v z) (hz : VZ z) (h0 : 0 ≤ x) (h1 : x < 256) : Calls Try.prog 73 #[v, .int .i64 x] w fun e w' => BlkAns z x e ∧ Below w.heap.size w w' := by
  have HZ := Lib.hid hz
  clear hz
  obtain ⟨cs, rfl, hV⟩ := H
  have X0 := ZX.new hV
  clear hV
  go_enter Try.func73, Try.ntmps73
  go_upto_region 1 with fail
  obtain ⟨w1, hw1⟩ : ∃ W, W = w.alloc (.cells cs.toArray 39) := ⟨_, rfl⟩
  have X1 : ZX w w.heap.size cs z w1 := by rw [hw1]; exact X0
  rw [← hw1]
  obtain ⟨g, hg0⟩ : ∃ g, w.heap.size = g := ⟨_, rfl⟩
  rw [hg0] at X1 ⊢
  clear hw1 X0 hg0
  go_wp2
  go_loopg [10] 5 (fun gg v10 wr => ∃ k : Nat, k + gg = 5 ∧ v10 = .int .i64 k ∧ (∀ j, j < k → x - x % pw j ∉ z.fr j) ∧ w1 = wr)
  case atStart => exact ⟨0, by omega, rfl, fun j hj => by omega, rfl⟩
  case round =>
    obtain ⟨k, hk, rfl, hno, rfl⟩ := hrel
    have HNO := Lib.hid hno
    clear hno
    cases gk with
    | zero =>
      have tk : decide ((k : Int) < 5) = false := by simp; omega
      have HF := Lib.hid (show ¬ Cov (F z.fr) x from fun hc => by
        obtain ⟨j, j1, j2⟩ := (cov_at HZ.out.l).1 hc
        exact HNO.out j (by omega) j2)
      clear hk
      go_wp2
      go_ret2
      exact ⟨.inr ⟨HF.out, rfl⟩, X1.b⟩
    | succ gg =>
      have hk5 : k < 5 := by omega
      have tk : decide ((k : Int) < 5) = true := by simp; omega
      have HK := Lib.hid hk
      obtain ⟨a, n, c, hc, hn, _, _, _, hI⟩ := X1.v.list X1.x hk5
      have hlen := HZ.out.len hk5
      rw [hn] at hlen
      obtain ⟨m, hm⟩ : ∃ m, 2 ^ k = m := ⟨_, rfl⟩
      have hwm : ∀ j : Nat, j = k → wrap64 ((2 : Int) ^ j) = (m : Int) := fun j hj => by subst hj; rw [← hm]; exact wrap_pow hk5
      have hm0 : 0 < m := by rw [← hm]; exact Nat.pow_pos (by decide)
      have hm16 : m ≤ 16 := by rw [← hm]; exact pow_le16 hk5
      have hmask := mask hk5 h0 h1
      rw [hm] at hmask
      obtain ⟨y, hy⟩ : ∃ y, x - x % pw k = y := ⟨_, rfl⟩
      rw [hy] at hmask
      have HY := Lib.hid hy
      have hse := search a (z.fr k) n c y w1 hI hn (by omega) (HZ.out.l.asc k hk5)
      obtain ⟨i, hip⟩ : ∃ i, pos (z.fr k) y = i := ⟨_, rfl⟩
      obtain ⟨ct, hct⟩ : ∃ b, (z.fr k).contains y = b := ⟨_, rfl⟩
      rw [hip, hct] at hse
      have HSE := Lib.hid hse; have HCT := Lib.hid hct
      clear hk hm hy hse hip hct hI hn
      go_wp2_with fail
      refine HSE.out.mono ?_
      rintro e w5 ⟨rfl, rfl⟩
      cases ct with
      | true =>
        go_wp2
        go_ret2
        refine ⟨.inl ⟨k, hk5, ?_, ?_⟩, X1.b⟩
        · rw [HY.out]; have := HCT.out; simpa using this
        · rw [HY.out]; rfl
      | false =>
        go_wp2
        go_roundg gg
        case rel => exact ⟨k + 1, by have := HK.out; omega, by go_num, fun j hj => by
          by_cases e : j = k
          · subst e; rw [HY.out]; have := HCT.out; simpa using this
          · exact HNO.out j (by omega), rfl⟩
        case measure => omega
set_option maxRecDepth 100000 in set_option maxHeartbeats 3200000 in
theorem isfree (v : Value) (z : Z) (x : Int) (w : World) (H : Rz w v z) (hz : VZ z) (hx : R z.st z.ct x 0) : Calls Try.prog 43 #[v, .int .i64 x] w fun e w' => (∃ b, e = .returned (.bool b) ∧ (b = true ↔ Cov (F z.fr) x)) ∧ Below w.heap.size w w' := by
  have HZ := Lib.hid hz
  have h0 : 0 ≤ x := by have := hx.2.1; have := hz.r.st0; omega
  have h1 : x < 256 := by have h2 := hx.2.2.1; have := hz.r.ct1; rw [pw_zero] at h2; omega
  have HX := Lib.hid (insB_of hx)
  clear hz hx
  obtain ⟨cs, rfl, hV⟩ := H
  have X0 := ZX.new hV
  clear hV
  go_enter Try.func43, Try.ntmps43
  go_upto_region 1 with fail
  obtain ⟨w1, hw1⟩ : ∃ W, W = w.alloc (.cells cs.toArray 39) := ⟨_, rfl⟩
  have X1 : ZX w w.heap.size cs z w1 := by rw [hw1]; exact X0
  rw [← hw1]
  obtain ⟨g, hg0⟩ : ∃ g, w.heap.size = g := ⟨_, rfl⟩
  rw [hg0] at X1 ⊢
  clear hw1 X0 hg0
  go_wp2_with ((with_reducible refine ld ?_ X1.x X1.v.len ?_); (focus rfl))
  refine (check _ z w1 X1.rz HZ.out).mono ?_
  rintro e w2 ⟨rfl, b2⟩
  have X2 := X1.below b2
  clear X1 b2
  go_wp2_with ((with_reducible refine ldg ?_ ?_ X2.x X2.v.len ?_); (focus rfl); (focus rfl))
  refine (inside_0 _ z x w2 X2.rz HZ.out.r).mono ?_
  rw [HX.out]
  rintro e w3 ⟨rfl, b3⟩
  have X3 := X2.below b3
  clear X2 b3
  go_wp2_with ((with_reducible refine ld ?_ X3.x X3.v.len ?_); (focus rfl))
  refine (block _ z x w3 X3.rz HZ.out h0 h1).mono ?_
  rintro e w4 ⟨hA, b4⟩
  have X4 := X3.below b4
  clear X3 b4
  rcases hA with ⟨k, hk, hm, rfl⟩ | ⟨hn, rfl⟩
  · have HC := Lib.hid (show Cov (F z.fr) x from (cov_at HZ.out.l).2 ⟨k, hk, hm⟩)
    have tk : decide (0 ≤ (k : Int)) = true := by simp
    obtain ⟨y, hy⟩ : ∃ y, x - x % pw k = y := ⟨_, rfl⟩
    rw [hy]
    clear hm hy
    go_wp2
    go_ret
    exact ⟨⟨_, rfl, fun _ => HC.out, fun _ => rfl⟩, X4.b⟩
  · have HC := Lib.hid hn
    clear hn
    go_wp2
    go_ret
    exact ⟨⟨_, rfl, fun h => (by cases h), fun h => absurd h HC.out⟩, X4.b⟩
end Go.Proofs.Ytdddkfpcbfgocaa
namespace Go.Proofs.Ytdddkfpcbfgocaa
open Go.RowKit Go.Over Go.Zn Go.Can Go.Seg Go.Grow
/-- What a call gives that makes a zone in which the frames of a set are free. -/
def AnsV (w : World) (z : Z) (S : Int → Prop) (e : Ending) (w' : World) : Prop :=
  ∃ cs fr, e = .returned (.tuple #[.agg cs.toArray, .int .i64 0]) ∧ OwnZ w' w.heap.size cs { z with fr := fr } ∧ Vd z.st z.ct fr ∧ (∀ x, Cov (F fr) x ↔ S x) ∧ Below w.heap.size w w'
def newC (z : Z) : List Value := [.int .i64 z.nd, .int .i64 z.kd, .int .i64 z.st, .int .i64 z.ct, .int .i64 z.mn, .slice none 0 0, .slice none 0 0, .slice none 0 0, .slice none 0 0, .slice none 0 0]
theorem ownZ_new (W : World) (B : Nat) (z : Z) : OwnZ W B (newC z) { z with fr := fun _ => [] } := by
  refine ⟨⟨rfl, rfl, rfl, rfl, rfl, rfl⟩, fun r hr => ⟨.slice none 0 0, ?_, Own.nil _ _⟩, fun r s u v h1 h2 g1 g2 => .inl ?_⟩
  · rcases (show r = 0 ∨ r = 1 ∨ r = 2 ∨ r = 3 ∨ r = 4 by omega) with rfl | rfl | rfl | rfl | rfl <;> rfl
  · rcases (show r = 0 ∨ r = 1 ∨ r = 2 ∨ r = 3 ∨ r = 4 by omega) with rfl | rfl | rfl | rfl | rfl <;> (simp [newC] at g1; subst g1; rfl)
theorem ZP.new {w W W' : World} {cs : List Value} {z : Z} {bs : List Value} (hO : OwnZ W w.heap.size cs z) (hb : Below w.heap.size w W) (hz : Blk (W.alloc (.cells bs.toArray 39)) W.heap.size 39 bs) (hB : Blk W' W.heap.size 39 cs) (hg : (W.alloc (.cells bs.toArray 39)).grownBy W' (some W.heap.size)) : ZP w W.heap.size cs z W' := by
  have hb2 := below_box W (.cells bs.toArray 39)
  have hb3 := below_then hb hb2
  exact ⟨hb3.grown hg hb3.size (fun k hk => by cases hk; exact hb.size), hb.size, hB, (hO.later hb2).grown hz (by decide) hg⟩
set_option maxRecDepth 100000 in set_option maxHeartbeats 3200000 in
theorem new (z : Z) (w : World) (hr : Rng z) : Calls Try.prog 28 #[.int .i64 z.nd, .int .i64 z.kd, .int .i64 z.st, .int .i64 z.ct, .int .i64 z.mn] w (AnsV w z (inZ z)) := by
  have HR := Lib.hid hr
  have hB0 := below_box w (.cells #[.int .i64 0, .int .i64 0, .int .i64 0, .int .i64 0, .int .i64 0, .slice none 0 0, .slice none 0 0, .slice none 0 0, .slice none 0 0, .slice none 0 0] 39)
  have hZ0 := Blk.new w 39 #[.int .i64 0, .int .i64 0, .int .i64 0, .int .i64 0, .int .i64 0, .slice none 0 0, .slice none 0 0, .slice none 0 0, .slice none 0 0, .slice none 0 0] zP rfl
  have r0 := hr.st0; have r1 := hr.ct0; have r2 := hr.ct1
  obtain ⟨n, hn⟩ : ∃ n : Nat, z.ct = (n : Int) := ⟨z.ct.toNat, by omega⟩
  have HN := Lib.hid hn
  clear hr hn
  go_enter Try.func28, Try.ntmps28
  go_upto_region 1 with fail
  obtain ⟨w1, hw1⟩ : ∃ W, W = w.alloc (.cells #[.int .i64 0, .int .i64 0, .int .i64 0, .int .i64 0, .int .i64 0, .slice none 0 0, .slice none 0 0, .slice none 0 0, .slice none 0 0, .slice none 0 0] 39) := ⟨_, rfl⟩
  rw [← hw1] at hB0 hZ0 ⊢
  clear hw1
  obtain ⟨gr, hgr⟩ : ∃ g, w.heap.size = g := ⟨_, rfl⟩
  rw [hgr] at hZ0 ⊢
  have hlr : w.heap.size ≤ gr := by omega
  clear hgr
  have hO2 : OwnZ w1 w.heap.size (newC z) { z with fr := fun _ => [] } := ownZ_new _ _ _
  have hz2 := Blk.new w1 39 #[.int .i64 0, .int .i64 0, .int .i64 0, .int .i64 0, .int .i64 0, .slice none 0 0, .slice none 0 0, .slice none 0 0, .slice none 0 0, .slice none 0 0] zP rfl
  have hZ2 := hZ0.later (below_box w1 (.cells #[.int .i64 0, .int .i64 0, .int .i64 0, .int .i64 0, .int .i64 0, .slice none 0 0, .slice none 0 0, .slice none 0 0, .slice none 0 0, .slice none 0 0] 39))
  have h1c := hO2.zv.one
  have hne : gr ≠ w1.heap.size := by have := hZ0.lt; omega
  go_upto_region 2 with ((with_reducible refine stZ (cs := newC z) ?_ ?_ hz2 zP_len rfl h1c ?_); (focus rfl); (focus rfl); intro w3 hB3 hg3)
  have V3 := ZP.new hO2 hB0 hz2 hB3 hg3
  have Z3 := hZ2.grown hg3 (by simpa using Ne.symm hne)
  obtain ⟨g, hg⟩ : ∃ g, w1.heap.size = g := ⟨_, rfl⟩
  rw [hg] at V3 hne ⊢
  clear hg hB3 hg3 hZ2 hz2 h1c hO2 hZ0 hB0
  go_wp2_with ((with_reducible refine ld ?_ V3.x V3.v.len ?_); (focus rfl))
  refine (ranges _ _ w3 V3.rz (rng_fr HR.out _)).mono ?_
  rintro e w4 ⟨rfl, b4⟩
  have V4 := V3.below b4
  have Z4 := Z3.later b4
  clear V3 Z3 b4
  have hst := HN.out
  rw [hst] at r1 r2
  obtain ⟨s, hs⟩ : ∃ s, z.st = s := ⟨_, rfl⟩
  have HS := Lib.hid hs
  rw [hs, hst]
  rw [hs] at r0 r2
  clear hst hs
  go_wp2
  go_loopg [13] n (fun gg v13 wr => ∃ (i : Nat) (fr : Nat → List Int) (cs : List Value), i + gg = n ∧ v13 = .int .i64 (s + (i : Int)) ∧ ZP w g cs { z with fr := fr } wr ∧ Blk wr gr 39 zP ∧ Vd z.st z.ct fr ∧ ∀ x, Cov (F fr) x ↔ s ≤ x ∧ x < s + (i : Int))
  case atStart => exact ⟨0, _, _, by omega, by go_num, V4, Z4, vd_empty, fun x => ⟨fun h => absurd h cov_empty, fun h => by omega⟩⟩
  case round =>
    clear V4 Z4
    obtain ⟨i, fr, cs, hg, rfl, V5, Z5, hv, hc⟩ := hrel
    have HV := Lib.hid hv; have HC := Lib.hid hc
    clear hv hc
    cases gk with
    | zero =>
      have hin : ¬ i < n := by omega
      have HE := Lib.hid (show ∀ x, Cov (F fr) x ↔ inZ z x from fun x => by
        rw [HC.out]
        unfold inZ
        rw [HS.out, HN.out]
        omega)
      have h1c := V5.v.one
      clear hg
      go_wp2_with first | ((with_reducible refine ld ?_ V5.x V5.v.len ?_); (focus rfl)) | ((with_reducible refine stZ (cs := cs) ?_ ?_ Z5 zP_len V5.v.len h1c ?_); (focus rfl); (focus rfl); intro w6 hB6 hg6)
      refine bodyPost_ret (results_p1 rfl _ _ gr cs _ rfl hB6 V5.v.len rfl) rfl ?_
      exact ⟨cs, fr, rfl, V5.o.grown Z5 (by decide) hg6, HV.out, HE.out, V5.b.grown hg6 V5.b.size (fun k hk => by cases hk; exact hlr)⟩
    | succ gg =>
      have hin : i < n := by omega
      have HG := Lib.hid hg
      have hp := put w g cs { z with fr := fr } (s + (i : Int)) 0 wr _ V5 (rng_fr HR.out fr) (Put.start HV.out (by
        refine ⟨by omega, ?_, ?_, by rw [pw_zero]; omega⟩
        · show z.st ≤ _; rw [HS.out]; omega
        · show _ + pw 0 ≤ z.st + z.ct; rw [HS.out, HN.out, pw_zero]; omega) (fun x hx hcv => by
        have := (HC.out x).1 hcv
        unfold In at hx
        omega))
      have HP := Lib.hid hp
      clear hg hp
      go_wp2_with fail
      refine HP.out.mono ?_
      rintro e w6 ⟨rfl, ⟨cs', fr', V6, hv6, hc6⟩, K6⟩
      have Z6 := K6 gr 39 zP hne (by decide) Z5
      have HV6 := Lib.hid hv6
      have HC6 := Lib.hid (show ∀ x, Cov (F fr') x ↔ s ≤ x ∧ x < s + ((i + 1 : Nat) : Int) from fun x => by
        rw [hc6]
        simp only
        rw [HC.out]
        unfold In
        rw [pw_zero]
        omega)
      clear HP V5 Z5 K6 hv6 hc6
      go_wp2
      go_roundg gg
      case rel => exact ⟨i + 1, fr', cs', by have := HG.out; omega, by go_num, V6, Z6, HV6.out, HC6.out⟩
      case measure => omega
end Go.Proofs.Ytdddkfpcbfgocaa
namespace Go.Proofs.Ytdddkfpcbfgocaa
open Go.RowKit Go.Over Go.Zn Go.Can Go.Seg Go.Grow
/-- A zone in a variable, beside a variable for the result. -/
structure ZZ (w : World) (g gr : Nat) (cs : List Value) (z : Z) (W : World) : Prop where
  x : ZX w g cs z W
  z : Blk W gr 39 zP
  l : w.heap.size ≤ gr
theorem ZZ.below {w W W' : World} {g gr : Nat} {cs : List Value} {z : Z} (h : ZZ w g gr cs z W) (hb : Below W.heap.size W W') : ZZ w g gr cs z W' := ⟨h.x.below hb, h.z.later hb, h.l⟩
theorem ZZ.new {w : World} {cs : List Value} {z : Z} (h : ZV w cs z) : ZZ w w.heap.size (w.heap.size + 1) cs z ((w.alloc (.cells cs.toArray 39)).alloc (.cells #[.int .i64 0, .int .i64 0, .int .i64 0, .int .i64 0, .int .i64 0, .slice none 0 0, .slice none 0 0, .slice none 0 0, .slice none 0 0, .slice none 0 0] 39)) := by
  have hs : (w.alloc (.cells cs.toArray 39)).heap.size = w.heap.size + 1 := by simp
  have hz := Blk.new (w.alloc (.cells cs.toArray 39)) 39 #[.int .i64 0, .int .i64 0, .int .i64 0, .int .i64 0, .int .i64 0, .slice none 0 0, .slice none 0 0, .slice none 0 0, .slice none 0 0, .slice none 0 0] zP rfl
  rw [hs] at hz
  exact ⟨(ZX.new h).below (below_box _ _), hz, by omega⟩
set_option maxRecDepth 100000 in set_option maxHeartbeats 3200000 in
theorem free (v : Value) (z : Z) (f : Int) (w : World) (H : Rz w v z) (hz : VZ z) (hf : R z.st z.ct f 0) (hn : ¬ Cov (F z.fr) f) : Calls Try.prog 68 #[v, .int .i64 f, .int .i64 0] w (AnsV w z (fun x => Cov (F z.fr) x ∨ x = f)) := by
  have HZ := Lib.hid hz
  have h0 : 0 ≤ f := by have := hf.2.1; have := hz.r.st0; omega
  have h1 : f < 256 := by have h2 := hf.2.2.1; have := hz.r.ct1; rw [pw_zero] at h2; omega
  have HX := Lib.hid (insB_of hf); have HF := Lib.hid hf; have HN := Lib.hid hn
  clear hz hf hn
  obtain ⟨cs, rfl, hV⟩ := H
  have X0 := ZZ.new hV
  clear hV
  go_enter Try.func68, Try.ntmps68
  go_upto_region 1 with fail
  obtain ⟨w1, hw1⟩ : ∃ W, W = (w.alloc (.cells cs.toArray 39)).alloc (.cells #[.int .i64 0, .int .i64 0, .int .i64 0, .int .i64 0, .int .i64 0, .slice none 0 0, .slice none 0 0, .slice none 0 0, .slice none 0 0, .slice none 0 0] 39) := ⟨_, rfl⟩
  rw [← hw1] at X0 ⊢
  obtain ⟨gr, hgr⟩ : ∃ g, w.heap.size + 1 = g := ⟨_, rfl⟩
  obtain ⟨g, hg0⟩ : ∃ g, w.heap.size = g := ⟨_, rfl⟩
  have X1 : ZZ w g gr cs z w1 := by rw [← hgr, ← hg0]; exact X0
  rw [hgr, hg0]
  clear hw1 X0 hg0 hgr
  go_wp2_with ((with_reducible refine ld ?_ X1.x.x X1.x.v.len ?_); (focus rfl))
  refine (check _ z w1 X1.x.rz HZ.out).mono ?_
  rintro e w2 ⟨rfl, b2⟩
  have X2 := X1.below b2
  clear X1 b2
  go_wp2_with ((with_reducible refine ldg ?_ ?_ X2.x.x X2.x.v.len ?_); (focus rfl); (focus rfl))
  refine (inside_0 _ z f w2 X2.x.rz HZ.out.r).mono ?_
  rw [HX.out]
  rintro e w3 ⟨rfl, b3⟩
  have X3 := X2.below b3
  clear X2 b3
  go_wp2
  go_loopg [9] 1 (fun gg v9 wr => ((gg = 1 ∧ v9 = .int .i64 f) ∨ (gg = 0 ∧ v9 = .int .i64 (f + 1))) ∧ ZZ w g gr cs z wr)
  case atStart => exact ⟨.inl ⟨rfl, rfl⟩, X3⟩
  case round =>
    clear X3
    obtain ⟨hc, X4⟩ := hrel
    rcases hc with ⟨rfl, rfl⟩ | ⟨rfl, rfl⟩
    · have tf : decide (f < f + 1) = true := by simp; omega
      go_wp2_with ((with_reducible refine ld ?_ X4.x.x X4.x.v.len ?_); (focus rfl))
      refine (block _ z f wr X4.x.rz HZ.out h0 h1).mono ?_
      rintro e w5 ⟨hA, b5⟩
      have X5 := X4.below b5
      clear X4 b5
      rcases hA with ⟨k, hk, hm, rfl⟩ | ⟨hn, rfl⟩
      · exact absurd ((cov_at HZ.out.l).2 ⟨k, hk, hm⟩) HN.out
      · clear hn
        go_wp2
        go_roundg 0
        case rel => exact ⟨.inr ⟨rfl, by go_num⟩, X5⟩
        case measure => omega
    · have tf : decide (f + 1 < f + 1) = false := by simp
      go_wp2_with ((with_reducible refine ld ?_ X4.x.x X4.x.v.len ?_); (focus rfl))
      refine (zclone _ z wr X4.x.rz HZ.out).mono ?_
      rintro e w5 ⟨cs2, rfl, hO, b5⟩
      have hO2 := hO.weaken X4.x.b.size
      have X5 := X4.below b5
      clear X4 b5 hO
      have hz2 := Blk.new w5 39 #[.int .i64 0, .int .i64 0, .int .i64 0, .int .i64 0, .int .i64 0, .slice none 0 0, .slice none 0 0, .slice none 0 0, .slice none 0 0, .slice none 0 0] zP rfl
      have hZ2 := X5.z.later (below_box w5 (.cells #[.int .i64 0, .int .i64 0, .int .i64 0, .int .i64 0, .int .i64 0, .slice none 0 0, .slice none 0 0, .slice none 0 0, .slice none 0 0, .slice none 0 0] 39))
      have h1c := hO2.zv.one
      have hl2 := hO2.h.len
      have hne : gr ≠ w5.heap.size := by have := X5.z.lt; omega
      go_upto_region 13 with ((with_reducible refine stZ (cs := cs2) ?_ ?_ hz2 zP_len hl2 h1c ?_); (focus rfl); (focus rfl); intro w6 hB6 hg6)
      have V6 := ZP.new hO2 X5.x.b hz2 hB6 hg6
      have Z6 := hZ2.grown hg6 (by simpa using Ne.symm hne)
      have hlr := X5.l
      obtain ⟨g2, hg2⟩ : ∃ g, w5.heap.size = g := ⟨_, rfl⟩
      rw [hg2] at V6 hne ⊢
      clear hg2 hB6 hg6 hZ2 hz2 h1c hO2 X5 hl2
      have hp := put w g2 cs2 z f 0 w6 _ V6 HZ.out.r (Put.start HZ.out.l HF.out (fun x hx hcv => by
        unfold In at hx
        rw [pw_zero] at hx
        rw [show x = f by omega] at hcv
        exact HN.out hcv))
      have HP := Lib.hid hp
      clear hp
      go_wp2_with fail
      refine HP.out.mono ?_
      rintro e w7 ⟨rfl, ⟨cs', fr', V7, hv7, hc7⟩, K7⟩
      have Z7 := K7 gr 39 zP hne (by decide) Z6
      have HV7 := Lib.hid hv7
      have HC7 := Lib.hid (show ∀ x, Cov (F fr') x ↔ (Cov (F z.fr) x ∨ x = f) from fun x => by
        rw [hc7]
        simp only
        unfold In
        rw [pw_zero]
        constructor
        · rintro (h | h)
          · exact .inl h
          · exact .inr (by omega)
        · rintro (h | h)
          · exact .inl h
          · exact .inr (by omega))
      clear HP V6 Z6 K7 hv7 hc7
      have h1c := V7.v.one
      go_wp2_with first | ((with_reducible refine ld ?_ V7.x V7.v.len ?_); (focus rfl)) | ((with_reducible refine stZ (cs := cs') ?_ ?_ Z7 zP_len V7.v.len h1c ?_); (focus rfl); (focus rfl); intro w8 hB8 hg8)
      refine bodyPost_ret (results_p1 rfl _ _ gr cs' _ rfl hB8 V7.v.len rfl) rfl ?_
      exact ⟨cs', fr', rfl, V7.o.grown Z7 (by decide) hg8, HV7.out, HC7.out, V7.b.grown hg8 V7.b.size (fun k hk => by cases hk; exact hlr)⟩
end Go.Proofs.Ytdddkfpcbfgocaa
namespace Go.Proofs.Ytdddkfpcbfgocaa
open Go.RowKit Go.Over Go.Zn Go.Can Go.Seg Go.Grow
set_option maxRecDepth 100000 in set_option maxHeartbeats 3200000 in
theorem last (v : Value) (z : Z) (w : World) (H : Rz w v z) (hz : VZ z) : Calls Try.prog 82 #[v] w fun e w' => e = .returned (.int .i64 (((z.fr 4).length * 16 : Nat) : Int)) ∧ Below w.heap.size w w' := by
  have HZ := Lib.hid hz
  clear hz
  obtain ⟨cs, rfl, hV⟩ := H
  have X0 := ZX.new hV
  clear hV
  go_enter Try.func82, Try.ntmps82
  go_upto_region 1 with fail
  obtain ⟨w1, hw1⟩ : ∃ W, W = w.alloc (.cells cs.toArray 39) := ⟨_, rfl⟩
  have X1 : ZX w w.heap.size cs z w1 := by rw [hw1]; exact X0
  rw [← hw1]
  obtain ⟨g, hg0⟩ : ∃ g, w.heap.size = g := ⟨_, rfl⟩
  rw [hg0] at X1 ⊢
  clear hw1 X0 hg0
  go_wp2_with ((with_reducible refine ld ?_ X1.x X1.v.len ?_); (focus rfl))
  refine (check _ z w1 X1.rz HZ.out).mono ?_
  rintro e w2 ⟨rfl, b2⟩
  have X2 := X1.below b2
  clear X1 b2
  obtain ⟨a, n, c, hc, hn, _, _, _, _⟩ := X2.v.list X2.x (show 4 < 5 by decide)
  have hlen := HZ.out.len (show 4 < 5 by decide)
  rw [hn] at hlen
  have HN := Lib.hid hn
  clear hn
  simp only [Nat.reduceAdd] at hc
  go_wp2
  go_ret
  exact ⟨ret_int (by rw [HN.out]; omega), X2.b⟩
theorem cnt_le {z : Z} (hz : VZ z) : ∀ {n : Nat}, n ≤ 5 → cntN z.fr n ≤ n * 4096
  | 0, _ => Nat.le_refl _
  | n + 1, h => by
    have h1 := cnt_le hz (n := n) (by omega)
    have h2 := hz.len (show n < 5 by omega)
    have h3 := pow_le16 (show n < 5 by omega)
    have h4 : (z.fr n).length * 2 ^ n ≤ 256 * 16 := Nat.mul_le_mul h2 h3
    show cntN z.fr n + (z.fr n).length * 2 ^ n ≤ (n + 1) * 4096
    omega
theorem wrap_sum {T n k : Nat} (hT : T ≤ 100000) (hn : n ≤ 256) (hk : k < 5) : wrap64 ((T : Int) + wrap64 ((n : Int) * 2 ^ k)) = ((T + n * 2 ^ k : Nat) : Int) := by
  rcases (show k = 0 ∨ k = 1 ∨ k = 2 ∨ k = 3 ∨ k = 4 by omega) with rfl | rfl | rfl | rfl | rfl <;> (unfold wrap64; omega)
set_option maxRecDepth 100000 in set_option maxHeartbeats 3200000 in
theorem unusable (v : Value) (z : Z) (w : World) (H : Rz w v z) (hz : VZ z) : Calls Try.prog 81 #[v, .int .i64 4] w fun e w' => e = .returned (.int .i64 ((cntN z.fr 4 : Nat) : Int)) ∧ Below w.heap.size w w' := by
  have HZ := Lib.hid hz
  clear hz
  obtain ⟨cs, rfl, hV⟩ := H
  have X0 := ZX.new hV
  clear hV
  go_enter Try.func81, Try.ntmps81
  go_upto_region 1 with fail
  obtain ⟨w1, hw1⟩ : ∃ W, W = w.alloc (.cells cs.toArray 39) := ⟨_, rfl⟩
  have X1 : ZX w w.heap.size cs z w1 := by rw [hw1]; exact X0
  rw [← hw1]
  obtain ⟨g, hg0⟩ : ∃ g, w.heap.size = g := ⟨_, rfl⟩
  rw [hg0] at X1 ⊢
  clear hw1 X0 hg0
  go_wp2_with ((with_reducible refine ld ?_ X1.x X1.v.len ?_); (focus rfl))
  refine (check _ z w1 X1.rz HZ.out).mono ?_
  rintro e w2 ⟨rfl, b2⟩
  have X2 := X1.below b2
  clear X1 b2
  go_wp2
  go_loopg [5, 23] 4 (fun gg v5 v23 wr => ∃ k : Nat, k + gg = 4 ∧ v23 = .int .i64 k ∧ v5 = .int .i64 ((cntN z.fr k : Nat) : Int) ∧ w2 = wr)
  case atStart => exact ⟨0, by omega, rfl, rfl, rfl⟩
  case round =>
    obtain ⟨k, hk, rfl, rfl, rfl⟩ := hrel
    cases gk with
    | zero =>
      obtain rfl : k = 4 := by omega
      obtain ⟨R, hR⟩ : ∃ R, cntN z.fr 4 = R := ⟨_, rfl⟩
      rw [hR]
      have HR := Lib.hid hR
      clear hk hR
      go_wp2
      go_ret
      exact ⟨ret_int (by rw [HR.out]), X2.b⟩
    | succ gg =>
      have hk4 : k < 4 := by omega
      have tk : decide ((k : Int) < 4) = true := by simp; omega
      obtain ⟨a, n, c, hc, hn, _, _, _, _⟩ := X2.v.list X2.x (show k < 5 by omega)
      have hlen := HZ.out.len (show k < 5 by omega)
      rw [hn] at hlen
      have hle := cnt_le HZ.out (show k ≤ 5 by omega)
      have HN := Lib.hid hn; have HK := Lib.hid hk
      obtain ⟨T, hT⟩ : ∃ T, cntN z.fr k = T := ⟨_, rfl⟩
      rw [hT] at hle ⊢
      have HT := Lib.hid hT
      clear hn hk hT
      go_wp2
      go_roundg gg
      case rel => exact ⟨k + 1, by have := HK.out; omega, by go_num, by rw [wrap_sum (show T ≤ 100000 by omega) hlen (show k < 5 by omega)]; exact congrArg _ (by rw [show cntN z.fr (k + 1) = cntN z.fr k + (z.fr k).length * 2 ^ k from rfl, HT.out, HN.out]), rfl⟩
      case measure => omega
theorem quiet_run {P : Program} {o : Oper} {a : Act} {C : World → Prop} {K : Act → Prop} {v : Value} (h : ∀ w, C w → (execOp a.eval o).run P w = .ok (.value v) w) (hk : K (a.put o.dst v)) : o.quiet P a C K :=
  ⟨v, fun w hw => by unfold Oper.quietAt; rw [h w hw]; exact ⟨rfl, rfl⟩, hk⟩
theorem run_load_row {P : Program} {w : World} {ρ : Operand → Value} {o : Oper} {ty : TypeId} {x : Operand} (ho : o.op = .load ty x) (g : Nat) (hx : ρ x = .pointer (some ⟨g, 0, none⟩)) (t : TypeId) (cs : Array Value) (fr : Nat × Nat) (d : TypeDesc) (hg : w.heap[g]? = some (.cells cs t fr))
    (hu : P.underlying ty = some d) (hd : (match d with | .struct _ | .array _ _ => true | _ => false) = true) (hi : (P.info? ty).map (·.size) = some cs.size) :
    (execOp ρ o).run P w = .ok (.value (.agg cs)) w := by
  unfold execOp
  simp only [ho, hx, Instr.loadAt, Instr.sureAddr, Sem.run_bind, Sem.run_pure, Result.andThen_ok, run_loadVar_row w g t ty cs fr d hg hu hd hi]
set_option maxRecDepth 100000 in set_option maxHeartbeats 3200000 in
theorem count (v : Value) (z : Z) (w : World) (H : Rz w v z) (hz : VZ z) : Calls Try.prog 60 #[v] w fun e w' => e = .returned (.int .i64 ((cntN z.fr 5 : Nat) : Int)) ∧ Below w.heap.size w w' := by
  have HZ := Lib.hid hz
  have HC := Lib.hid (show cntN z.fr 5 = cntN z.fr 4 + (z.fr 4).length * 16 from rfl)
  have hle := cnt_le hz (show 5 ≤ 5 by decide)
  obtain ⟨R, hR⟩ : ∃ R, cntN z.fr 5 = R := ⟨_, rfl⟩
  rw [hR] at hle ⊢
  clear hz
  obtain ⟨cs, rfl, hV⟩ := H
  have X0 := ZX.new hV
  clear hV
  go_enter Try.func60, Try.ntmps60
  go_upto_region 1 with fail
  obtain ⟨w1, hw1⟩ : ∃ W, W = w.alloc (.cells cs.toArray 39) := ⟨_, rfl⟩
  have X1 : ZX w w.heap.size cs z w1 := by rw [hw1]; exact X0
  rw [← hw1]
  obtain ⟨g, hg0⟩ : ∃ g, w.heap.size = g := ⟨_, rfl⟩
  rw [hg0] at X1 ⊢
  clear hw1 X0 hg0
  have K1 := fun u => calls_over (unusable _ z _ (X1.below (below_over w1 u)).rz HZ.out)
  have K2 := fun u => calls_over (last _ z _ (X1.below (below_over w1 u)).rz HZ.out)
  obtain ⟨A, hA⟩ : ∃ A, cntN z.fr 4 = A := ⟨_, rfl⟩
  obtain ⟨B, hB⟩ : ∃ B, (z.fr 4).length * 16 = B := ⟨_, rfl⟩
  have hsum : R = A + B := by rw [← hR, HC.out, hA, hB]
  rw [hA] at K1
  rw [hB] at K2
  have C1 := Lib.hid K1; have C2 := Lib.hid K2; have HS := Lib.hid hsum
  clear K1 K2 hR hA hB HC hsum
  have hA2 : A ≤ 20480 := by have := HS.out; omega
  have hB2 : B ≤ 20480 := by have := HS.out; omega
  clear hle
  go_wp2_with fail
  refine wp_region_over (by kernel_rfl) (by kernel_rfl) ?_
  go_big_quiet_want
  rename_i K hK
  refine quiet_run (v := .agg cs.toArray) (fun w' hw' => ?_) ?_
  · obtain ⟨u, rfl⟩ := hw'
    exact run_load_row rfl g rfl 39 cs.toArray (0, 0) _ (X1.x.later (below_over w1 u)) Try.underlying39 rfl (by rw [infoZ]; simp [X1.v.len])
  refine hK _ ?_
  clear hK K
  simp only [Act.put, List.setIfInBounds_toArray, List.set_cons_succ, List.set_cons_zero]
  go_big_quiet_step ((go_at_call 81; exact C1.out _))
  go_big_quiet_want
  rename_i K hK
  refine quiet_run (v := .agg cs.toArray) (fun w' hw' => ?_) ?_
  · obtain ⟨u, rfl⟩ := hw'
    exact run_load_row rfl g rfl 39 cs.toArray (0, 0) _ (X1.x.later (below_over w1 u)) Try.underlying39 rfl (by rw [infoZ]; simp [X1.v.len])
  refine hK _ ?_
  clear hK K
  simp only [Act.put, List.setIfInBounds_toArray, List.set_cons_succ, List.set_cons_zero]
  go_big_quiet_step ((go_at_call 82; exact C2.out _))
  repeat (go_big_quiet_step (fail))
  refine wpQuiet_nil ?_
  rintro _ ⟨u, rfl⟩
  have hfin := (X1.below (below_over w1 u)).b
  go_wp2
  go_ret
  exact ⟨ret_int (by rw [HS.out]; omega), hfin⟩
end Go.Proofs.Ytdddkfpcbfgocaa
