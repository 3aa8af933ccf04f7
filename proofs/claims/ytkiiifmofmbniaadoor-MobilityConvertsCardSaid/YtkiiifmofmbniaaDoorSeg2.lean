/- A region that draws its order, walked in an order of the prover's choice: operations that only read, in whatever world of a class that all others but the last keep; operations in a forced order; the last one free. -/
import Derived.Test.YtkiiifmofmbniaaDoorSeg
namespace Go.Seg
section
variable {P : Program} {ops : Array Oper} {md : Region.Mode} {S : World → Prop} {Q : Exit → Act → World → Prop} {last : Nat}

/-- Whatever order is picked, the class is kept, but by the last one. -/
def wpAnyL (P : Program) (md : Region.Mode) (ops : Array Oper) (last : Nat) (S : World → Prop) (Q : Exit → Act → World → Prop) : Nat → Array Bool → Act → World → Prop
  | 0, listed, a, w => Region.ready md ops listed = [] ∧ Q .normal a w
  | f + 1, listed, a, w =>
    (Region.ready md ops listed = [] → Q .normal a w) ∧
    ∀ i ∈ Region.ready md ops listed, wpOp P ops Q i (fun a' w' => (i ≠ last → S w') ∧ wpAnyL P md ops last S Q f (listed.setIfInBounds i true) a' w') a w
theorem wpAnyL_any : ∀ (f : Nat) (listed : Array Bool) (a : Act) (w : World), wpAnyL P md ops last S Q f listed a w → wpAny P md ops Q f listed a w
  | 0, _, _, _, h => h
  | f + 1, _, _, _, h => ⟨h.1, fun i hi => wpOp_mono (fun a' w' h' => wpAnyL_any f _ a' w' h'.2) (h.2 i hi)⟩
/-- The last one waits for all others. -/
def Lasts (md : Region.Mode) (ops : Array Oper) (last : Nat) : Prop := ∀ o, ops[last]? = some o → ∀ i, i < ops.size → i ≠ last → ∃ e ∈ o.after, Region.binds md e = true ∧ e.on = i

theorem firstL (hlast : Lasts md ops last) {i : Nat} {oi : Oper} {v : Value} (hi : ops[i]? = some oi) (hil : i ≠ last) (hsel : ∀ (j : Nat) (o : Oper) cs b, ops[j]? = some o → o.op ≠ .select cs b)
    (hQ : ∀ c a d v w, Q (.panic c) (Act.put a d v) w → Q (.panic c) a w) :
    ∀ (fuel : Nat) (listed : Array Bool) (a : Act) (w : World), S w →
      (∀ j oj, ops[j]? = some oj → j ≠ i → listed.getD j true = false → (∀ e ∈ oj.after, Region.binds md e = true → e.on ≠ i) → oi.apart ops oj = true) →
      i ∈ Region.ready md ops listed → (∀ w, S w → YieldsAt P ops w oi v a) →
      wpAnyL P md ops last S Q fuel (listed.setIfInBounds i true) (a.put oi.dst v) w → wpAnyL P md ops last S Q (fuel + 1) listed a w := by
  intro fuel
  induction fuel with
  | zero =>
    intro listed a w hS _ hr hy H
    refine ⟨fun h => (by rw [h] at hr; cases hr), fun j hj => ?_⟩
    by_cases hji : j = i
    · subst hji; exact wpOp_of_yields hi (hy w hS) ⟨fun _ => hS, H⟩
    · have := ready_mono hj hji
      rw [H.1] at this
      cases this
  | succ fuel ih =>
    intro listed a w hS hfree hr hy H
    refine ⟨fun h => (by rw [h] at hr; cases hr), fun j hj => ?_⟩
    by_cases hji : j = i
    · subst hji; exact wpOp_of_yields hi (hy w hS) ⟨fun _ => hS, H⟩
    · have h1 := H.2 j (ready_mono hj hji)
      obtain ⟨hjun, oj, hoj, hall⟩ := mem_ready.1 hj
      have hnot : ∀ e ∈ oj.after, Region.binds md e = true → e.on ≠ i := fun e he hb heq => by
        have h1 := hall e he hb
        have h0 := (mem_ready.1 hr).1
        rw [heq] at h1
        rcases Nat.lt_or_ge i listed.size with h' | h'
        · simp [h'] at h0 h1; rw [h0] at h1; cases h1
        · simp [Array.getElem?_eq_none h'] at h1
      have hjl : j ≠ last := by
        rintro rfl
        obtain ⟨e, he, hb, heq⟩ := hlast oj hoj i (Array.getElem?_eq_some_iff.1 hi).1 hil
        exact hnot e he hb heq
      have h2 := wpOp_put hoj (hfree j oj hoj hji hjun hnot) (fun cs b => hsel i oi cs b hi) (fun cs b => hsel j oj cs b hoj) hQ hy h1
      have hfree' : ∀ k ok, ops[k]? = some ok → k ≠ i → (listed.setIfInBounds j true).getD k true = false →
          (∀ e ∈ ok.after, Region.binds md e = true → e.on ≠ i) → oi.apart ops ok = true := fun k ok hk hki hun hno => by
        refine hfree k ok hk hki ?_ hno
        by_cases hjk : j = k
        · subst hjk; exact hjun
        · rw [getD_set_ne true hjk] at hun; exact hun
      refine wpOp_mono (fun a' w' h3 => ⟨h3.2.1, ih (listed.setIfInBounds j true) a' w' (h3.2.1 hjl) hfree' (ready_mono hr (Ne.symm hji)) h3.1 ?_⟩) h2
      rw [Array.setIfInBounds_comm _ _ hji]
      exact h3.2.2

/-- The pieces: the last forced one need not keep the class. -/
def wpSegsL (P : Program) (ops : Array Oper) (S : World → Prop) (Q : Exit → Act → World → Prop) : List (Bool × Nat) → List Oper → Act → World → Prop
  | [], _, a, w => Q .normal a w
  | (true, n) :: r, l, a, w => wpQuiet P ops S (fun a' => wpSegsL P ops S Q r (l.drop n) a' w) (l.take n) a
  | [(false, n)], l, a, w => wpList P ops (Kept (fun _ => True) fun a' w' => Q .normal a' w') (l.take n) a w
  | (false, n) :: s :: r, l, a, w => wpList P ops (Kept S fun a' w' => wpSegsL P ops S Q (s :: r) (l.drop n) a' w') (l.take n) a w
/-- One operation a time. -/
def wpEachL (P : Program) (ops : Array Oper) (S : World → Prop) (Q : Exit → Act → World → Prop) : List Bool → List Oper → Act → World → Prop
  | true :: qs, o :: l, a, w => ∃ v, (∀ w, S w → YieldsAt P ops w o v a) ∧ wpEachL P ops S Q qs l (a.put o.dst v) w
  | [false], [o], a, w => if Region.wanted o (yielded ops a.tmps) then o.wp P a w (fun a' w' => Q .normal a' w') Q else Q .normal (a.put o.dst undef) w
  | false :: q :: qs, o :: o2 :: l, a, w => if Region.wanted o (yielded ops a.tmps) then o.wp P a w (fun a' w' => S w' ∧ wpEachL P ops S Q (q :: qs) (o2 :: l) a' w') Q else wpEachL P ops S Q (q :: qs) (o2 :: l) (a.put o.dst undef) w
  | [], [], a, w => Q .normal a w
  | _, _, _, _ => False
def eachBL (md : Region.Mode) (ops : Array Oper) : List Bool → List Nat → Array Bool → Bool
  | [], [], listed => (Region.ready md ops listed).isEmpty
  | true :: qs, k :: ks, listed => (Region.ready md ops listed).contains k && Region.free md ops listed k && eachBL md ops qs ks (listed.setIfInBounds k true)
  | false :: qs, k :: ks, listed => decide (Region.ready md ops listed = [k]) && eachBL md ops qs ks (listed.setIfInBounds k true)
  | _, _, _ => false

theorem anyL_of_each (hlast : Lasts md ops last) (hs : Region.noSelect ops = true) (hQ : ∀ c a d v w, Q (.panic c) (Act.put a d v) w → Q (.panic c) a w) :
    ∀ (l : List Oper) (qs : List Bool) (ks : List Nat) (listed : Array Bool) (a : Act) (w : World), (ks.map fun k => ops[k]?) = l.map some → qs.length = l.length → eachBL md ops qs ks listed = true →
      (∀ k ∈ ks.dropLast, k ≠ last) → (qs ≠ [] → qs.getLast? = some false → ks.getLast? = some last) → (qs.getLast? = some true → ∀ k ∈ ks, k ≠ last) → S w →
      wpEachL P ops S Q qs l a w → wpAnyL P md ops last S Q l.length listed a w
  | [], [], [], listed, a, w, _, _, hB, _, _, _, _, h => ⟨by simpa [eachBL] using hB, h⟩
  | [], [], k :: ks, _, _, _, hl, _, _, _, _, _, _, _ => by simp at hl
  | [], _ :: _, _, _, _, _, _, hl, _, _, _, _, _, _ => by simp at hl
  | _ :: _, [], _, _, _, _, _, hl, _, _, _, _, _, _ => by simp at hl
  | _ :: _, _ :: _, [], _, _, _, hl, _, _, _, _, _, _, _ => by simp at hl
  | o :: l, true :: qs, k :: ks, listed, a, w, hl, hlen, hB, hd, hfl, htl, hS, h => by
    simp only [List.map_cons, List.cons.injEq] at hl
    have h0 : ops[k]? = some o := hl.1
    simp only [eachBL, Bool.and_eq_true] at hB
    obtain ⟨⟨hr, hf⟩, hB'⟩ := hB
    obtain ⟨v, hy, hK⟩ := h
    have hkl : k ≠ last := by
      cases hks : ks with
      | nil =>
        have hln : l = [] := by
          have := congrArg List.length hl.2; rw [hks] at this; exact List.eq_nil_of_length_eq_zero (by simpa using this.symm)
        have hqn : qs = [] := by rw [hln] at hlen; simpa using hlen
        exact htl (by rw [hqn]; rfl) k (by simp)
      | cons k2 ks2 => exact hd k (by rw [hks]; simp)
    refine firstL hlast h0 hkl (Region.noSelect_spec hs) hQ l.length listed a w hS (Region.free_spec h0 hf) (by simpa using hr) hy
      (anyL_of_each hlast hs hQ l qs ks _ _ _ hl.2 (by simpa using hlen) hB' ?_ ?_ ?_ hS hK)
    · intro j hj
      cases hks : ks with
      | nil => rw [hks] at hj; simp at hj
      | cons k2 ks2 => exact hd j (by rw [hks] at hj ⊢; simp [List.dropLast]; exact .inr hj)
    · intro hq hql
      cases qs with
      | nil => exact absurd rfl hq
      | cons q qs =>
        have := hfl (by simp) (by simpa using hql)
        cases ks with
        | nil => have := congrArg List.length hl.2; simp at this hlen; omega
        | cons k2 ks2 => simpa using this
    · intro hql j hj
      cases qs with
      | nil => simp at hql
      | cons q qs => exact htl (by simpa using hql) j (by simp [hj])
  | [o], [false], k :: ks, listed, a, w, hl, hlen, hB, hd, hfl, htl, hS, h => by
    simp only [List.map_cons, List.cons.injEq] at hl
    have h0 : ops[k]? = some o := hl.1
    have hks : ks = [] := by simpa using hl.2
    subst hks
    simp only [eachBL, Bool.and_eq_true, decide_eq_true_eq] at hB
    obtain ⟨hr, hB'⟩ := hB
    refine ⟨fun h1 => (by rw [hr] at h1; cases h1), fun i hi => ?_⟩
    rw [hr] at hi
    have hik : i = k := by simpa using hi
    subst hik
    have hkl : i = last := by simpa using hfl (by simp) rfl
    unfold wpOp
    simp only [h0]
    unfold wpEachL at h
    have hrd : Region.ready md ops (listed.setIfInBounds i true) = [] := by simpa using hB'
    split
    · rename_i hw
      rw [if_pos hw] at h
      exact .inl (Oper.wp_mono (fun a' w' h' => ⟨fun hne => absurd hkl hne, ⟨hrd, h'⟩⟩) h)
    · rename_i hw
      rw [if_neg hw] at h
      exact ⟨fun hne => absurd hkl hne, ⟨hrd, h⟩⟩
  | [o], false :: q :: qs, _, _, _, _, _, hlen, _, _, _, _, _, _ => by simp at hlen
  | o :: o2 :: l, [false], _, _, _, _, _, hlen, _, _, _, _, _, _ => by simp at hlen
  | o :: o2 :: l, false :: q :: qs, k :: ks, listed, a, w, hl, hlen, hB, hd, hfl, htl, hS, h => by
    have hl0 := hl
    rw [List.map_cons, List.map_cons, List.cons.injEq] at hl
    have h0 : ops[k]? = some o := hl.1
    simp only [eachBL, Bool.and_eq_true, decide_eq_true_eq] at hB
    obtain ⟨hr, hB'⟩ := hB
    refine ⟨fun h1 => (by rw [hr] at h1; cases h1), fun i hi => ?_⟩
    rw [hr] at hi
    have hik : i = k := by simpa using hi
    subst hik
    have rest : ∀ a' w', S w' → wpEachL P ops S Q (q :: qs) (o2 :: l) a' w' → wpAnyL P md ops last S Q (o2 :: l).length (listed.setIfInBounds i true) a' w' := fun a' w' hS' h' => by
      refine anyL_of_each hlast hs hQ (o2 :: l) (q :: qs) ks _ _ _ hl.2 (by simpa using hlen) hB' ?_ ?_ ?_ hS' h'
      · intro j hj
        cases hks : ks with
        | nil => rw [hks] at hj; simp at hj
        | cons k2 ks2 => exact hd j (by rw [hks] at hj ⊢; simp [List.dropLast]; exact .inr hj)
      · intro hq hql
        have := hfl (by simp) (by simpa using hql)
        cases ks with
        | nil => simp at hl
        | cons k2 ks2 => simpa using this
      · intro hql j hj
        exact htl (by simpa using hql) j (by simp [hj])
    unfold wpOp
    simp only [h0]
    unfold wpEachL at h
    split
    · rename_i hw
      rw [if_pos hw] at h
      exact .inl (Oper.wp_mono (fun a' w' h' => ⟨fun _ => h'.1, rest a' w' h'.1 h'.2⟩) h)
    · rename_i hw
      rw [if_neg hw] at h
      exact ⟨fun _ => hS, rest _ _ hS h⟩

theorem eachL_of_quiet {qs : List Bool} {l2 : List Oper} {w : World} : ∀ (l : List Oper) (a : Act), (∀ o ∈ l, valueOp o.op = true) → wpQuiet P ops S (fun a' => wpEachL P ops S Q qs l2 a' w) l a → wpEachL P ops S Q (List.replicate l.length true ++ qs) (l ++ l2) a w
  | [], a, _, h => h
  | o :: l, a, hv, h => by
    show ∃ v, _
    unfold wpQuiet at h
    split at h
    · rename_i hw
      obtain ⟨v, h1, h2⟩ := yields_of_quiet (hv o (by simp)) hw h
      exact ⟨v, h1, eachL_of_quiet l _ (fun o ho => hv o (by simp [ho])) h2⟩
    · rename_i hw
      exact ⟨undef, fun w _ => .inr ⟨by simpa using hw, rfl⟩, eachL_of_quiet l _ (fun o ho => hv o (by simp [ho])) h⟩
theorem eachL_of_list {q : Bool} {qs : List Bool} {o2 : Oper} {l2 : List Oper} {o : Oper} {a : Act} {w : World} (h : wpList P ops (Kept S fun a' w' => wpEachL P ops S Q (q :: qs) (o2 :: l2) a' w') [o] a w) : wpEachL P ops S Q (false :: q :: qs) (o :: o2 :: l2) a w := by
  unfold wpEachL
  unfold wpList at h
  split at h
  · rename_i hw
    rw [if_pos hw]
    rcases h with h | ⟨_, h⟩
    · exact wp_of_kept (fun a w h => h) h
    · exact absurd h not_lets
  · rename_i hw
    rw [if_neg hw]
    exact h.2
theorem eachL_of_last {o : Oper} {a : Act} {w : World} (h : wpList P ops (Kept (fun _ => True) fun a' w' => Q .normal a' w') [o] a w) : wpEachL P ops S Q [false] [o] a w := by
  unfold wpEachL
  unfold wpList at h
  split at h
  · rename_i hw
    rw [if_pos hw]
    rcases h with h | ⟨_, h⟩
    · exact wp_of_kept (fun a w h => h.2) h
    · exact absurd h not_lets
  · rename_i hw
    rw [if_neg hw]
    exact h.2
theorem eachL_of_segs : ∀ (segs : List (Bool × Nat)) (l : List Oper) (a : Act) (w : World), okSegs segs l = true → (segs.all fun s => decide (0 < s.2)) = true → wpSegsL P ops S Q segs l a w → wpEachL P ops S Q (flat segs) l a w
  | [], l, a, w, h, _, hh => by
    simp [okSegs] at h; subst h; exact hh
  | (true, n) :: r, l, a, w, h, hp, hh => by
    simp only [okSegs, Bool.and_eq_true, decide_eq_true_eq] at h
    obtain ⟨⟨hn, hv⟩, hr⟩ := h
    simp only [List.all_cons, Bool.and_eq_true] at hp
    have hlen : (l.take n).length = n := by simp; omega
    have e := eachL_of_quiet (Q := Q) (qs := flat r) (l2 := l.drop n) (w := w) (l.take n) a (fun o ho => List.all_eq_true.1 hv o ho)
      (wpQuiet_imp (fun a' h' => eachL_of_segs r _ a' w hr hp.2 h') _ _ hh)
    rw [hlen, List.take_append_drop] at e
    exact e
  | [(false, n)], l, a, w, h, _, hh => by
    simp only [okSegs, Bool.and_eq_true, decide_eq_true_eq] at h
    obtain ⟨⟨rfl, hl⟩, hr⟩ := h
    cases l with
    | nil => simp at hl
    | cons o l =>
      have : l = [] := by simpa using hr
      subst this
      exact eachL_of_last hh
  | (false, n) :: s :: r, l, a, w, h, hp, hh => by
    simp only [okSegs, Bool.and_eq_true, decide_eq_true_eq] at h
    obtain ⟨⟨rfl, hl⟩, hr⟩ := h
    rw [List.all_cons, Bool.and_eq_true] at hp
    cases l with
    | nil => simp at hl
    | cons o l =>
      have hfl := flat_length (s :: r) l hr
      have hpos : 0 < (flat (s :: r)).length := by
        obtain ⟨b, n⟩ := s
        have := hp.2
        simp only [List.all_cons, Bool.and_eq_true, decide_eq_true_eq] at this
        simp [flat]; omega
      have h2 := wpList_one_imp (K' := fun a' w' => wpEachL P ops S Q (flat (s :: r)) l a' w') (fun a' w' _ h' => eachL_of_segs (s :: r) _ a' w' hr hp.2 h') hh
      show wpEachL P ops S Q (false :: flat (s :: r)) (o :: l) a w
      cases hf : flat (s :: r) with
      | nil => rw [hf] at hpos; simp at hpos
      | cons q qs =>
        cases l with
        | nil => rw [hfl] at hpos; simp at hpos
        | cons o2 l2 => rw [hf] at h2; exact eachL_of_list h2

def lastsB (md : Region.Mode) (ops : Array Oper) (last : Nat) : Bool := match ops[last]? with
  | none => true
  | some o => (List.range ops.size).all fun i => decide (i = last) || o.after.any fun e => Region.binds md e && decide (e.on = i)
theorem lastsB_spec (h : lastsB md ops last = true) : Lasts md ops last := by
  intro o ho i hi hne
  unfold lastsB at h
  rw [ho] at h
  have := List.all_eq_true.1 h i (List.mem_range.2 hi)
  simp only [Bool.or_eq_true, decide_eq_true_eq, Array.any_eq_true, Bool.and_eq_true] at this
  rcases this with h1 | ⟨j, hj, h2, h3⟩
  · exact absurd h1 hne
  · exact ⟨_, Array.getElem_mem hj, h2, h3⟩
/-- The order ord; where the last of it is a forced one, it waits for all others (else last is no operation's number). -/
def regionL (segs : List (Bool × Nat)) (ord : List Nat) (last : Nat) (l2 : List Oper) (ops : Array Oper) : Bool :=
  Region.noSelect ops && okSegs segs l2 && (segs.all fun s => decide (0 < s.2)) && eachBL .any ops (flat segs) ord (Array.replicate ops.size false) && lastsB .any ops last
    && decide (∀ k ∈ ord.dropLast, k ≠ last) && (match (flat segs).getLast? with | some false => decide (ord.getLast? = some last) | _ => decide (∀ k ∈ ord, k ≠ last))

theorem wp_region_ord {id : Nat} {a : Act} {w : World} {l : List Oper} (S0 : World → Prop) (segs : List (Bool × Nat)) (ord : List Nat) (last : Nat) (l2 : List Oper) (hm : P.follows .mixedOrders = true) (h2 : (ord.map fun k => l.toArray[k]?) = l2.map some) (h3 : l2.length = l.length)
    (hB : regionL segs ord last l2 l.toArray = true) (h0 : S0 { w with drawn := w.drawn + 1 })
    (h : ∀ W, S0 W → W = { w with drawn := w.drawn + 1 } → wpSegsL P l.toArray (fun w' => ∃ u, w' = hold S0 W u) (NoPanic Q) segs l2 a W) : (Code.region id l.toArray true).wp P Q a w := by
  refine wp_region_noPanic (wp_region_any hm ?_)
  simp only [regionL, Bool.and_eq_true, decide_eq_true_eq] at hB
  obtain ⟨⟨⟨⟨⟨⟨b1, b2⟩, b3⟩, b4⟩, b5⟩, b6⟩, b7⟩ := hB
  have g1 := h _ h0 rfl
  have g2 := eachL_of_segs segs l2 _ _ b2 b3 g1
  have g3 := anyL_of_each (md := .any) (last := last) (S := fun w' => ∃ u, w' = hold S0 { w with drawn := w.drawn + 1 } u) (Q := NoPanic Q) (lastsB_spec b5) b1 (fun c a d v w h => h) l2 (flat segs) ord (Array.replicate l.toArray.size false) a { w with drawn := w.drawn + 1 }
    h2 (flat_length segs l2 b2) b4 b6 (fun _ hf => by rw [hf] at b7; simpa using b7) (fun ht => by rw [ht] at b7; simpa using b7) (hold_of h0) g2
  have g4 := wpAnyL_any _ _ _ _ g3
  rw [h3] at g4
  simpa using g4
/-- The operations in the order ord. -/
def inOrder (l : List Oper) (ord : List Nat) : List Oper := ord.filterMap fun k => l[k]?
theorem inOrder_map {l : List Oper} : ∀ (ord : List Nat), (ord.all fun k => decide (k < l.length)) = true → (ord.map fun k => l.toArray[k]?) = (inOrder l ord).map some ∧ (inOrder l ord).length = ord.length
  | [], _ => ⟨rfl, rfl⟩
  | k :: ord, h => by
    simp only [List.all_cons, Bool.and_eq_true, decide_eq_true_eq] at h
    have ih := inOrder_map ord h.2
    have hk : l[k]? = some l[k] := List.getElem?_eq_getElem h.1
    unfold inOrder at ih ⊢
    simp only [List.getElem?_toArray] at ih
    simp only [List.map_cons, List.filterMap_cons, hk, List.length_cons, ih.1, ih.2, List.getElem?_toArray, and_self]
theorem wp_region_in {id : Nat} {a : Act} {w : World} {l : List Oper} (S0 : World → Prop) (segs : List (Bool × Nat)) (ord : List Nat) (last : Nat) (hm : P.follows .mixedOrders = true)
    (hB : ((ord.all fun k => decide (k < l.length)) && decide (ord.length = l.length) && regionL segs ord last (inOrder l ord) l.toArray) = true) (h0 : S0 { w with drawn := w.drawn + 1 })
    (h : ∀ W, S0 W → W = { w with drawn := w.drawn + 1 } → wpSegsL P l.toArray (fun w' => ∃ u, w' = hold S0 W u) (NoPanic Q) segs (inOrder l ord) a W) : (Code.region id l.toArray true).wp P Q a w := by
  simp only [Bool.and_eq_true, decide_eq_true_eq] at hB
  obtain ⟨⟨b1, b2⟩, b3⟩ := hB
  obtain ⟨c1, c2⟩ := inOrder_map ord b1
  exact wp_region_ord S0 segs ord last _ hm c1 (by rw [c2, b2]) b3 h0 h
end
end Go.Seg
