/- A region that draws its order, walked in the order of the text: operations that only read (in whatever world of a class that the others keep) and operations that stand in a forced order. -/
import Derived.WalkKit
import Derived.Deep.QuietTactic
import Derived.BigQuiet
import Derived.Deep.RegionHeld3
namespace Go.Seg
section
variable {P : Program} {ops : Array Oper} {md : Region.Mode} {S : World → Prop} {Q : Exit → Act → World → Prop}

theorem wpOp_of_yields {i : Nat} {o : Oper} {v : Value} {a : Act} {w : World} (hi : ops[i]? = some o) (hy : YieldsAt P ops w o v a) {K : Act → World → Prop} (h : K (a.put o.dst v) w) : wpOp P ops Q i K a w :=
  wpOp_of_stOp (K := fun a' => K a' w) (fun _ h => h) (hy.stOp hi h)

/-- An operation that commutes with oi is carried out; what is known of oi stays. -/
theorem wpOp_put {j : Nat} {oi oj : Oper} {v : Value} (hj : ops[j]? = some oj) (hap : oi.apart ops oj = true)
    (hsi : ∀ cs b, oi.op ≠ .select cs b) (hsj : ∀ cs b, oj.op ≠ .select cs b)
    (hQ : ∀ c a d v w, Q (.panic c) (Act.put a d v) w → Q (.panic c) a w) {K : Act → World → Prop} {a : Act} {w : World}
    (hy : ∀ w, S w → YieldsAt P ops w oi v a) (h : wpOp P ops Q j K (a.put oi.dst v) w) :
    wpOp P ops Q j (fun a' w' => (∀ w, S w → YieldsAt P ops w oi v a') ∧ K (a'.put oi.dst v) w') a w := by
  obtain ⟨h1, h2, h3⟩ := Oper.apart_spec hap
  have keep : ∀ (a : Act), (∀ w, S w → YieldsAt P ops w oi v a) → ∀ u, (∀ w, S w → YieldsAt P ops w oi v (a.put oj.dst u)) := fun a hy u w hw =>
    (hy w hw).of_same (execOp_put oi hsi a oj.dst u h3) (wanted_put oi a oj.dst u h3)
  have keepD : ∀ d, (∀ w, S w → YieldsAt P ops w oi v { a with defers := d :: a.defers }) := fun d w hw => (hy w hw).of_same rfl rfl
  unfold wpOp at *
  simp only [hj] at *
  rw [wanted_put oj a oi.dst v h1] at h
  split
  · rename_i hw
    simp only [hw, if_true] at h
    rcases h with h | ⟨hasks, hlets⟩
    case inr => exact .inr ⟨by unfold Oper.asks at *; rw [execOp_put oj hsj a oi.dst v h1] at hasks; exact hasks, hlets⟩
    refine .inl ?_
    unfold Oper.wp at *
    rw [execOp_put oj hsj a oi.dst v h1] at h
    generalize (execOp a.eval oj).run P w = r at *
    cases r with
    | ok n w' =>
      cases n <;> simp only [Oper.upon] at h ⊢
      case value u => exact ⟨keep a hy u, by rw [← Act.put_comm a v u h2]; exact h⟩
      case skip => exact ⟨keep a hy _, by rw [← Act.put_comm a v undef h2]; exact h⟩
      case defer d =>
        refine ⟨keep _ (keepD d) _, ?_⟩
        rw [← Act.put_comm _ v undef h2, ← Act.put_defers]
        exact h
      case enter f args =>
        refine Calls.mono h fun e w'' he => ?_
        cases e with
        | returned u => exact ⟨keep a hy u, by rw [← Act.put_comm a v u h2]; exact he⟩
        | panicked c => exact hQ _ _ _ _ _ he
        | outgrown => exact he
      case row row args => exact Rows.mono h fun u w'' he => ⟨keep a hy u, by rw [← Act.put_comm a v u h2]; exact he⟩
    | halt x w' =>
      cases x <;> simp only [Oper.upon] at h ⊢
      exact hQ _ _ _ _ _ h
  · rename_i hw
    simp only [hw] at h
    exact ⟨keep a hy _, by rw [← Act.put_comm a v undef h2]; exact h⟩

/-- Whatever order is picked, the class is kept. -/
def wpAnyC (P : Program) (md : Region.Mode) (ops : Array Oper) (S : World → Prop) (Q : Exit → Act → World → Prop) : Nat → Array Bool → Act → World → Prop
  | 0, listed, a, w => Region.ready md ops listed = [] ∧ Q .normal a w
  | f + 1, listed, a, w =>
    (Region.ready md ops listed = [] → Q .normal a w) ∧
    ∀ i ∈ Region.ready md ops listed, wpOp P ops Q i (fun a' w' => S w' ∧ wpAnyC P md ops S Q f (listed.setIfInBounds i true) a' w') a w
theorem wpAny_of : ∀ (f : Nat) (listed : Array Bool) (a : Act) (w : World), wpAnyC P md ops S Q f listed a w → wpAny P md ops Q f listed a w
  | 0, _, _, _, h => h
  | f + 1, _, _, _, h => ⟨h.1, fun i hi => wpOp_mono (fun a' w' h' => wpAny_of f _ a' w' h'.2) (h.2 i hi)⟩

theorem first {i : Nat} {oi : Oper} {v : Value} (hi : ops[i]? = some oi) (hsel : ∀ (j : Nat) (o : Oper) cs b, ops[j]? = some o → o.op ≠ .select cs b)
    (hQ : ∀ c a d v w, Q (.panic c) (Act.put a d v) w → Q (.panic c) a w) :
    ∀ (fuel : Nat) (listed : Array Bool) (a : Act) (w : World), S w →
      (∀ j oj, ops[j]? = some oj → j ≠ i → listed.getD j true = false → (∀ e ∈ oj.after, Region.binds md e = true → e.on ≠ i) → oi.apart ops oj = true) →
      i ∈ Region.ready md ops listed → (∀ w, S w → YieldsAt P ops w oi v a) →
      wpAnyC P md ops S Q fuel (listed.setIfInBounds i true) (a.put oi.dst v) w → wpAnyC P md ops S Q (fuel + 1) listed a w := by
  intro fuel
  induction fuel with
  | zero =>
    intro listed a w hS _ hr hy H
    refine ⟨fun h => (by rw [h] at hr; cases hr), fun j hj => ?_⟩
    by_cases hji : j = i
    · subst hji; exact wpOp_of_yields hi (hy w hS) ⟨hS, H⟩
    · have := ready_mono hj hji
      rw [H.1] at this
      cases this
  | succ fuel ih =>
    intro listed a w hS hfree hr hy H
    refine ⟨fun h => (by rw [h] at hr; cases hr), fun j hj => ?_⟩
    by_cases hji : j = i
    · subst hji; exact wpOp_of_yields hi (hy w hS) ⟨hS, H⟩
    · have h1 := H.2 j (ready_mono hj hji)
      obtain ⟨hjun, oj, hoj, hall⟩ := mem_ready.1 hj
      have hnot : ∀ e ∈ oj.after, Region.binds md e = true → e.on ≠ i := fun e he hb heq => by
        have h1 := hall e he hb
        have h0 := (mem_ready.1 hr).1
        rw [heq] at h1
        rcases Nat.lt_or_ge i listed.size with h' | h'
        · simp [h'] at h0 h1; rw [h0] at h1; cases h1
        · simp [Array.getElem?_eq_none h'] at h1
      have h2 := wpOp_put hoj (hfree j oj hoj hji hjun hnot) (fun cs b => hsel i oi cs b hi) (fun cs b => hsel j oj cs b hoj) hQ hy h1
      have hfree' : ∀ k ok, ops[k]? = some ok → k ≠ i → (listed.setIfInBounds j true).getD k true = false →
          (∀ e ∈ ok.after, Region.binds md e = true → e.on ≠ i) → oi.apart ops ok = true := fun k ok hk hki hun hno => by
        refine hfree k ok hk hki ?_ hno
        by_cases hjk : j = k
        · subst hjk; exact hjun
        · rw [getD_set_ne true hjk] at hun; exact hun
      refine wpOp_mono (fun a' w' h3 => ⟨h3.2.1, ih (listed.setIfInBounds j true) a' w' h3.2.1 hfree' (ready_mono hr (Ne.symm hji)) h3.1 ?_⟩) h2
      rw [Array.setIfInBounds_comm _ _ hji]
      exact h3.2.2

/-- Operations that yield a value and nothing else. -/
def valueOp : Op → Bool
  | .move _ | .assign _ | .pick .. | .load .. | .binOp .. | .unOp .. | .convert .. | .slice .. | .fieldAddr .. | .field .. | .indexAddr .. | .index .. | .extract .. | .build .. | .nilCheck _ => true
  | .call { callee := .builtin .len, .. } | .call { callee := .builtin .cap, .. } => true
  | _ => false
theorem bind_value {α : Type} {m : Sem α} {f : α → Sem Next} {w w' : World} {n : Next} (hf : ∀ a w w' n, (f a).run P w = .ok n w' → ∃ v, n = .value v) (h : (m >>= f).run P w = .ok n w') : ∃ v, n = .value v := by
  simp only [Sem.run_bind] at h
  cases hx : m.run P w with
  | ok a w1 =>
    rw [hx] at h
    exact hf a w1 w' n h
  | halt x w1 =>
    rw [hx] at h
    simp [Result.andThen] at h
theorem pure_value {v : Value} {w w' : World} {n : Next} (h : (Pure.pure (Next.value v) : Sem Next).run P w = .ok n w') : ∃ v, n = .value v := by
  simp at h
  exact ⟨v, h.1.symm⟩
theorem nilCheck_value {ρ : Operand → Value} {dst : Option Tmp} {x : Operand} {type : TypeId} {pos : String} {after : Array Edge} {guard : Option (Nat × Bool)} {w w' : World} {n : Next}
    (hr : (execOp ρ { dst := dst, op := .nilCheck x, type := type, pos := pos, after := after, guard := guard }).run P w = .ok n w') : ∃ v, n = .value v := by
  unfold execOp at hr
  simp only at hr
  split at hr
  · simp [runtimePanic] at hr
  · simp [runtimePanic] at hr
  · simp [runtimePanic] at hr
  · split at hr
    · simp [runtimePanic] at hr
    · refine bind_value (fun _ _ _ _ h => bind_value (fun _ _ _ _ h => ?_) h) hr
      split at h
      · exact bind_value (fun _ _ _ _ h => pure_value h) h
      · exact pure_value h
    · exact pure_value hr
  all_goals first | exact pure_value hr | trace_state
theorem valueOp_run {ρ : Operand → Value} {o : Oper} (h : valueOp o.op = true) (w w' : World) (n : Next) (hr : (execOp ρ o).run P w = .ok n w') : ∃ v, n = .value v := by
  have key' : ∀ {α : Type} (m : Sem α) (g : α → Value), (m >>= fun v => (Pure.pure (Next.value (g v)) : Sem Next)).run P w = .ok n w' → ∃ v, n = .value v := by
    intro α m g hm
    simp only [Sem.run_bind] at hm
    cases hx : m.run P w with
    | ok v w1 =>
      rw [hx] at hm
      simp [Result.andThen] at hm
      exact ⟨g v, hm.1.symm⟩
    | halt x w1 =>
      rw [hx] at hm
      simp [Result.andThen] at hm
  have key := fun m : Sem Value => key' m id
  obtain ⟨dst, op, type, pos, after, guard⟩ := o
  cases op with
  | move x => simp [execOp] at hr; exact ⟨_, hr.1.symm⟩
  | assign x => simp [execOp] at hr; exact ⟨_, hr.1.symm⟩
  | pick c a b => exact key' _ _ hr
  | load t x => exact key _ hr
  | binOp b t x y u => exact key _ hr
  | unOp b t x => exact key _ hr
  | convert s d x => exact key _ hr
  | slice t x l hh m => exact key _ hr
  | fieldAddr t x i => exact key _ hr
  | field t x i => exact key _ hr
  | indexAddr t x i => exact key _ hr
  | index t x i => exact key _ hr
  | extract x i => exact key _ hr
  | build t ps => exact key _ hr
  | nilCheck x => exact nilCheck_value hr
  | call c =>
    obtain ⟨callee, args, argTypes⟩ := c
    cases callee with
    | builtin b => cases b <;> first | (simp [valueOp] at h; done) | exact key _ hr
    | value f => simp [valueOp] at h
    | invoke r m => simp [valueOp] at h
  | _ => simp [valueOp] at h
theorem yields_of_quiet {o : Oper} {a : Act} {K : Act → Prop} (hv : valueOp o.op = true) (hw : Region.wanted o (yielded ops a.tmps) = true) (h : o.quiet P a S K) : ∃ v, (∀ w, S w → YieldsAt P ops w o v a) ∧ K (a.put o.dst v) := by
  obtain ⟨v, h1, h2⟩ := h
  refine ⟨v, fun w hS => ?_, h2⟩
  have h3 := h1 w hS
  unfold Oper.quietAt at h3
  cases hr : (execOp a.eval o).run P w with
  | ok n w' =>
    rw [hr] at h3
    obtain ⟨u, rfl⟩ := valueOp_run hv w w' n hr
    simp only [Oper.quietUpon] at h3
    obtain ⟨rfl, rfl⟩ := h3
    exact .inl ⟨hw, .inl hr⟩
  | halt x w' =>
    rw [hr] at h3
    exact h3.elim

/-- The post of a piece in a forced order: the class is kept, and the rest follows. -/
def Kept (S : World → Prop) (K : Act → World → Prop) : Exit → Act → World → Prop
  | .normal, a, w => S w ∧ K a w
  | _, _, _ => False

/-- The pieces of a region in the order of the text: (true, n): n operations that only read; (false, n): n operations in a forced order. -/
def wpSegs (P : Program) (ops : Array Oper) (S : World → Prop) (Q : Exit → Act → World → Prop) : List (Bool × Nat) → List Oper → Act → World → Prop
  | [], _, a, w => Q .normal a w
  | (true, n) :: r, l, a, w => wpQuiet P ops S (fun a' => wpSegs P ops S Q r (l.drop n) a' w) (l.take n) a
  | (false, n) :: r, l, a, w => wpList P ops (Kept S fun a' w' => wpSegs P ops S Q r (l.drop n) a' w') (l.take n) a w

/-- One operation a time. -/
def wpEach (P : Program) (ops : Array Oper) (S : World → Prop) (Q : Exit → Act → World → Prop) : List Bool → List Oper → Act → World → Prop
  | true :: qs, o :: l, a, w => ∃ v, (∀ w, S w → YieldsAt P ops w o v a) ∧ wpEach P ops S Q qs l (a.put o.dst v) w
  | false :: qs, o :: l, a, w => if Region.wanted o (yielded ops a.tmps) then o.wp P a w (fun a' w' => S w' ∧ wpEach P ops S Q qs l a' w') Q else wpEach P ops S Q qs l (a.put o.dst undef) w
  | _, _, a, w => Q .normal a w
def flat : List (Bool × Nat) → List Bool
  | [] => []
  | (b, n) :: r => List.replicate n b ++ flat r
def eachB (md : Region.Mode) (ops : Array Oper) : List Bool → Nat → Array Bool → Bool
  | [], _, listed => (Region.ready md ops listed).isEmpty
  | true :: qs, k, listed => (Region.ready md ops listed).contains k && Region.free md ops listed k && eachB md ops qs (k + 1) (listed.setIfInBounds k true)
  | false :: qs, k, listed => decide (Region.ready md ops listed = [k]) && eachB md ops qs (k + 1) (listed.setIfInBounds k true)

theorem any_of_each (hs : Region.noSelect ops = true) (hQ : ∀ c a d v w, Q (.panic c) (Act.put a d v) w → Q (.panic c) a w) :
    ∀ (l : List Oper) (qs : List Bool) (k : Nat) (listed : Array Bool) (a : Act) (w : World), (∀ j, l[j]? = ops[k + j]?) → qs.length = l.length → eachB md ops qs k listed = true → S w →
      wpEach P ops S Q qs l a w → wpAnyC P md ops S Q l.length listed a w
  | [], [], k, listed, a, w, _, _, hB, _, h => ⟨by simpa [eachB] using hB, h⟩
  | [], _ :: _, _, _, _, _, _, hl, _, _, _ => by simp at hl
  | _ :: _, [], _, _, _, _, _, hl, _, _, _ => by simp at hl
  | o :: l, true :: qs, k, listed, a, w, hl, hlen, hB, hS, h => by
    have h0 : ops[k]? = some o := by simpa using (hl 0).symm
    simp only [eachB, Bool.and_eq_true] at hB
    obtain ⟨⟨hr, hf⟩, hB'⟩ := hB
    obtain ⟨v, hy, hK⟩ := h
    exact first h0 (Region.noSelect_spec hs) hQ l.length listed a w hS (Region.free_spec h0 hf) (by simpa using hr) hy
      (any_of_each hs hQ l qs (k + 1) _ _ _ (fun j => by have := hl (j + 1); simpa [Nat.add_assoc, Nat.add_comm 1 j] using this) (by simpa using hlen) hB' hS hK)
  | o :: l, false :: qs, k, listed, a, w, hl, hlen, hB, hS, h => by
    have h0 : ops[k]? = some o := by simpa using (hl 0).symm
    simp only [eachB, Bool.and_eq_true, decide_eq_true_eq] at hB
    obtain ⟨hr, hB'⟩ := hB
    refine ⟨fun h1 => (by rw [hr] at h1; cases h1), fun i hi => ?_⟩
    rw [hr] at hi
    have hik : i = k := by simpa using hi
    subst hik
    have rest : ∀ a' w', S w' → wpEach P ops S Q qs l a' w' → wpAnyC P md ops S Q l.length (listed.setIfInBounds i true) a' w' := fun a' w' hS' h' =>
      any_of_each hs hQ l qs (i + 1) _ _ _ (fun j => by have := hl (j + 1); simpa [Nat.add_assoc, Nat.add_comm 1 j] using this) (by simpa using hlen) hB' hS' h'
    unfold wpOp
    simp only [h0]
    unfold wpEach at h
    split
    · rename_i hw
      rw [if_pos hw] at h
      exact .inl (Oper.wp_mono (fun a' w' h' => ⟨h'.1, rest a' w' h'.1 h'.2⟩) h)
    · rename_i hw
      rw [if_neg hw] at h
      exact ⟨hS, rest _ _ hS h⟩

theorem each_of_quiet {qs : List Bool} {l2 : List Oper} {w : World} : ∀ (l : List Oper) (a : Act), (∀ o ∈ l, valueOp o.op = true) → wpQuiet P ops S (fun a' => wpEach P ops S Q qs l2 a' w) l a → wpEach P ops S Q (List.replicate l.length true ++ qs) (l ++ l2) a w
  | [], a, _, h => h
  | o :: l, a, hv, h => by
    show ∃ v, _
    unfold wpQuiet at h
    split at h
    · rename_i hw
      obtain ⟨v, h1, h2⟩ := yields_of_quiet (hv o (by simp)) hw h
      exact ⟨v, h1, each_of_quiet l _ (fun o ho => hv o (by simp [ho])) h2⟩
    · rename_i hw
      exact ⟨undef, fun w _ => .inr ⟨by simpa using hw, rfl⟩, each_of_quiet l _ (fun o ho => hv o (by simp [ho])) h⟩
theorem not_lets {K : Act → World → Prop} : ¬ LetsOut (Kept S K) := fun ⟨_, _, h⟩ => h
theorem wp_of_kept {o : Oper} {a : Act} {w : World} {K K' : Act → World → Prop} {K2 : Act → World → Prop} (h : ∀ a w, K a w → K' a w) (hh : o.wp P a w K (Kept S K2)) : o.wp P a w K' Q := by
  unfold Oper.wp at *
  generalize (execOp a.eval o).run P w = r at *
  cases r with
  | ok n w' =>
    cases n <;> simp only [Oper.upon] at hh ⊢ <;>
      first
        | exact h _ _ hh
        | exact Calls.mono hh (fun e w'' he => by cases e <;> first | exact h _ _ he | exact (he : False).elim | exact absurd he not_lets)
        | exact Rows.mono hh (fun _ _ he => h _ _ he)
  | halt x w' =>
    cases x <;> simp only [Oper.upon] at hh ⊢ <;> exact (hh : False).elim
/-- In a forced piece every operation must keep the class: what the piece's end says is asked at each. -/
theorem each_of_list {qs : List Bool} {l2 : List Oper} {o : Oper} {a : Act} {w : World} (h : wpList P ops (Kept S fun a' w' => wpEach P ops S Q qs l2 a' w') [o] a w) : wpEach P ops S Q (false :: qs) (o :: l2) a w := by
  unfold wpEach
  unfold wpList at h
  split at h
  · rename_i hw
    rw [if_pos hw]
    rcases h with h | ⟨_, h⟩
    · exact wp_of_kept (fun a w h => h) h
    · exact absurd h not_lets
  · rename_i hw
    rw [if_neg hw]
    exact h.2
def okSegs : List (Bool × Nat) → List Oper → Bool
  | [], l => l.isEmpty
  | (true, n) :: r, l => decide (n ≤ l.length) && (l.take n).all (fun o => valueOp o.op) && okSegs r (l.drop n)
  | (false, n) :: r, l => decide (n = 1) && !l.isEmpty && okSegs r (l.drop n)
theorem flat_length : ∀ (segs : List (Bool × Nat)) (l : List Oper), okSegs segs l = true → (flat segs).length = l.length
  | [], l, h => by simp [okSegs] at h; simp [flat, h]
  | (true, n) :: r, l, h => by
    simp only [okSegs, Bool.and_eq_true, decide_eq_true_eq] at h
    have := flat_length r _ h.2
    simp [flat, this]; omega
  | (false, n) :: r, l, h => by
    simp only [okSegs, Bool.and_eq_true, decide_eq_true_eq] at h
    have := flat_length r _ h.2
    obtain ⟨⟨rfl, h2⟩, _⟩ := h
    cases l with
    | nil => simp at h2
    | cons o l => simp [flat, this]
theorem wpQuiet_imp {Q1 Q2 : Act → Prop} (hq : ∀ a, Q1 a → Q2 a) : ∀ (l : List Oper) (a : Act), wpQuiet P ops S Q1 l a → wpQuiet P ops S Q2 l a
  | [], a, h => hq a h
  | o :: l, a, h => by
    unfold wpQuiet at h ⊢
    split
    · rename_i hw
      rw [if_pos hw] at h
      exact Oper.quiet_mono (fun a' h' => wpQuiet_imp hq l a' h') h
    · rename_i hw
      rw [if_neg hw] at h
      exact wpQuiet_imp hq l _ h
theorem wpList_one_imp {K K' : Act → World → Prop} (hk : ∀ a w, S w → K a w → K' a w) {o : Oper} {a : Act} {w : World} (h : wpList P ops (Kept S K) [o] a w) : wpList P ops (Kept S K') [o] a w := by
  unfold wpList at h ⊢
  split
  · rename_i hw
    rw [if_pos hw] at h
    rcases h with h | ⟨_, h⟩
    · exact .inl (wp_of_kept (fun a w h => ⟨h.1, hk _ _ h.1 h.2⟩) h)
    · exact absurd h not_lets
  · rename_i hw
    rw [if_neg hw] at h
    exact ⟨h.1, hk _ _ h.1 h.2⟩
theorem each_of_segs : ∀ (segs : List (Bool × Nat)) (l : List Oper) (a : Act) (w : World), okSegs segs l = true → wpSegs P ops S Q segs l a w → wpEach P ops S Q (flat segs) l a w
  | [], l, a, w, h, hh => hh
  | (true, n) :: r, l, a, w, h, hh => by
    simp only [okSegs, Bool.and_eq_true, decide_eq_true_eq] at h
    obtain ⟨⟨hn, hv⟩, hr⟩ := h
    have hlen : (l.take n).length = n := by simp; omega
    have e := each_of_quiet (Q := Q) (qs := flat r) (l2 := l.drop n) (w := w) (l.take n) a (fun o ho => List.all_eq_true.1 hv o ho)
      (wpQuiet_imp (fun a' h' => each_of_segs r _ a' w hr h') _ _ hh)
    rw [hlen, List.take_append_drop] at e
    exact e
  | (false, n) :: r, l, a, w, h, hh => by
    simp only [okSegs, Bool.and_eq_true, decide_eq_true_eq] at h
    obtain ⟨⟨rfl, hl⟩, hr⟩ := h
    cases l with
    | nil => simp at hl
    | cons o l => exact each_of_list (wpList_one_imp (fun a' w' _ h' => each_of_segs r _ a' w' hr h') hh)

open Classical in
/-- A world of the class, given as one: 'u' if it is one, else w. -/
noncomputable def hold (S0 : World → Prop) (w u : World) : World := if S0 u then u else w
theorem hold_ok {S0 : World → Prop} {w : World} (h : S0 w) (u : World) : S0 (hold S0 w u) := by
  unfold hold; split <;> assumption
theorem hold_of {S0 : World → Prop} {w u : World} (h : S0 u) : ∃ x, u = hold S0 w x := ⟨u, by unfold hold; rw [if_pos h]⟩

def regionB (segs : List (Bool × Nat)) (ops : Array Oper) : Bool := Region.noSelect ops && okSegs segs ops.toList && eachB .any ops (flat segs) 0 (Array.replicate ops.size false)

/-- THE REGION, PIECE BY PIECE IN THE ORDER OF THE TEXT. S0: what every piece keeps of the world. -/
theorem wp_region_segs {id : Nat} {a : Act} {w : World} {l : List Oper} (S0 : World → Prop) (segs : List (Bool × Nat)) (hm : P.follows .mixedOrders = true) (hB : regionB segs l.toArray = true) (h0 : S0 { w with drawn := w.drawn + 1 })
    (h : ∀ W, S0 W → W = { w with drawn := w.drawn + 1 } → wpSegs P l.toArray (fun w' => ∃ u, w' = hold S0 W u) (NoPanic Q) segs l a W) : (Code.region id l.toArray true).wp P Q a w := by
  refine wp_region_noPanic (wp_region_any hm ?_)
  simp only [regionB, Bool.and_eq_true] at hB
  have h1 := h _ h0 rfl
  have h2 := each_of_segs segs l _ _ (by simpa using hB.1.2) h1
  have h3 := any_of_each (md := .any) (S := fun w' => ∃ u, w' = hold S0 { w with drawn := w.drawn + 1 } u) (Q := NoPanic Q) hB.1.1 (fun c a d v w h => h) l (flat segs) 0 (Array.replicate l.toArray.size false) a { w with drawn := w.drawn + 1 } (by simp)
    (by rw [flat_length segs l (by simpa using hB.1.2)]) hB.2 (hold_of h0) h2
  have h4 := wpAny_of _ _ _ _ h3
  simpa using h4
end
end Go.Seg
