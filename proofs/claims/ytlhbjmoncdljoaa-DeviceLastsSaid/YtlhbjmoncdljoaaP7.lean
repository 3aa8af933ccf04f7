/- The plain mathematics of devices: what lasts, and what a crash that keeps everything keeps. -/
import Derived.Test.YtlhbjmoncdljoaaP6
namespace Go.Dev
theorem getD_set_far {α : Type} {l : List α} {i j : Nat} {x e : α} (h : i ≠ j) : (l.set i x).getD j e = l.getD j e := by
  rw [List.getD_eq_getElem?_getD, List.getD_eq_getElem?_getD, List.getElem?_set_ne h]
theorem getD_set_at {α : Type} {l : List α} {i : Nat} {x e : α} (h : i < l.length) : (l.set i x).getD i e = x := by
  rw [List.getD_eq_getElem?_getD, List.getElem?_set_self h]; rfl
theorem ascC_gt : ∀ {l : List Ca} {p : Int}, AscC p l → ∀ c ∈ l, p < c.1
  | [], _, _, c, h => by simp at h
  | x :: r, p, h, c, hc => by
    rcases List.mem_cons.1 hc with rfl | hc
    · exact h.1
    · have := ascC_gt h.2 c hc; have := h.1; omega
theorem flushB_far {f : Nat} : ∀ {l : List Ca} {bl : List (List Int)}, (∀ c ∈ l, c.1.toNat ≠ f) → (flushB bl l).getD f [] = bl.getD f []
  | [], _, _ => rfl
  | c :: r, bl, h => by rw [flushB, flushB_far fun x hx => h x (by simp [hx]), getD_set_far (h c (by simp))]
theorem kp_far {picks : List Bool} {n f : Nat} {bl : List (List Int)} {g : Int} {s : List Int} (h : g.toNat ≠ f) : (kp picks n bl g s).getD f [] = bl.getD f [] := by
  unfold kp
  split
  · rw [getD_set_far h]
  · rfl
theorem keepC_far {picks : List Bool} {f : Nat} : ∀ {l : List Ca} {n : Nat} {bl : List (List Int)}, (∀ c ∈ l, c.1.toNat ≠ f) → (keepC picks n bl l).getD f [] = bl.getD f []
  | [], _, _, _ => rfl
  | c :: r, n, bl, h => by rw [keepC, keepC_far fun x hx => h x (by simp [hx]), kp_far (h c (by simp))]
theorem keepQ_far {picks : List Bool} {f : Nat} : ∀ {l : List Rq} {n : Nat} {bl : List (List Int)}, (∀ q ∈ l, q.2.1 = 2 → q.2.2.1.toNat ≠ f) → (keepQ picks n bl l).getD f [] = bl.getD f []
  | [], _, _, _ => rfl
  | q :: r, n, bl, h => by
    rw [keepQ]
    split
    · rename_i hk; rw [keepQ_far fun x hx => h x (by simp [hx]), kp_far (h q (by simp) hk)]
    · rw [keepQ_far fun x hx => h x (by simp [hx])]
theorem flushB_get {f : Nat} : ∀ {l : List Ca} {bl : List (List Int)} {p : Int}, AscC p l → -1 ≤ p → f < bl.length → (flushB bl l).getD f [] = (conL f l).getD (bl.getD f [])
  | [], _, _, _, _, _ => rfl
  | c :: r, bl, p, h, hp, hf => by
    have h1 := h.1
    rw [flushB, flushB_get h.2 (by omega) (by simpa using hf), conL]
    by_cases hc : c.1 = f
    · rw [if_pos hc, conL_notin (fun x hx => by have := ascC_gt h.2 x hx; omega)]
      have : c.1.toNat = f := by omega
      rw [this]
      show (bl.set f c.2).getD f [] = c.2
      exact getD_set_at hf
    · rw [if_neg hc, getD_set_far (by omega)]
theorem keepC_all {k : Nat} : ∀ {l : List Ca} {n : Nat} {bl : List (List Int)}, n + l.length ≤ k → keepC (List.replicate k true) n bl l = flushB bl l
  | [], _, _, _ => rfl
  | c :: r, n, bl, h => by
    simp only [List.length_cons] at h
    rw [keepC, keepC_all (by omega), flushB]
    have : kp (List.replicate k true) n bl c.1 c.2 = bl.set c.1.toNat c.2 := by
      unfold kp
      rw [if_pos]
      rw [List.getD_eq_getElem?_getD, List.getElem?_replicate_of_lt (by omega)]; rfl
    rw [this]
theorem kp_none {n : Nat} {bl : List (List Int)} {f : Int} {s : List Int} : kp [] n bl f s = bl := by unfold kp; rw [if_neg (by simp)]
theorem keepC_none : ∀ {l : List Ca} {n : Nat} {bl : List (List Int)}, keepC [] n bl l = bl
  | [], _, _ => rfl
  | c :: r, n, bl => by rw [keepC, kp_none, keepC_none]
theorem keepQ_none : ∀ {l : List Rq} {n : Nat} {bl : List (List Int)}, keepQ [] n bl l = bl
  | [], _, _ => rfl
  | c :: r, n, bl => by
    rw [keepQ]
    split
    · rw [kp_none, keepQ_none]
    · rw [keepQ_none]
theorem ca4 {d : D} {n : Nat} (h : PD d n) : d.ca.length ≤ 4 := by
  by_cases hc : d.ca = []
  · rw [hc]; simp
  · have := (caE_ok (caE_of h.ok.asc h.ok.cb)).2.2 hc
    have := h.nb
    omega
/-- A queue has an outstanding write of a block. -/
def outQ (l : List Rq) (f : Nat) : Bool := l.any fun q => decide (q.2.1 = 2 ∧ q.2.2.1 = f)
theorem outQ_no {l : List Rq} {f : Nat} (h : outQ l f = false) : ∀ q ∈ l, q.2.1 = 2 → q.2.2.1 ≠ f := by
  intro q hq hk hf
  have : outQ l f = true := by
    unfold outQ
    rw [List.any_eq_true]
    exact ⟨q, hq, by rw [decide_eq_true_eq]; exact ⟨hk, hf⟩⟩
  rw [this] at h; cases h
theorem qu_far {d : D} {f : Nat} (h : Ok d) (hq : ∀ q ∈ d.qu, q.2.1 = 2 → q.2.2.1 ≠ f) : ∀ q ∈ d.qu, q.2.1 = 2 → q.2.2.1.toNat ≠ f := by
  intro q hm hk
  have := hq q hm hk
  rcases rqE_kind (h.qu q hm).2 with ⟨h1, _⟩ | ⟨_, h0, _⟩ | ⟨h1, _⟩
  · omega
  · omega
  · omega
theorem ca_far {d : D} {f : Nat} (h : Ok d) (hc : ∀ c ∈ d.ca, c.1 ≠ f) : ∀ c ∈ d.ca, c.1.toNat ≠ f := by
  intro c hm
  have := hc c hm
  have := ascC_gt h.asc c hm
  omega
/-- The two crashes of the law on what is kept. -/
theorem keeps_spec {d : D} {n : Nat} (h : PD d n) : ∃ A B, crD d (List.replicate 40 true) = (A, 0) ∧ crD d [] = (B, 0) ∧ PD A n ∧ PD B n ∧ (∀ f : Nat, f < 4 → outQ d.qu f = false → durD A f = contD d f) ∧ (∀ f : Nat, f < 4 → durD B f = durD d f) ∧
    chN A = 0 ∧ A.qu = [] ∧ A.nx = d.nx := by
  have ⟨A, a1, a2, a3, a4, a5, a6⟩ := ok_cr h.ok (List.replicate 40 true)
  have ⟨B, b1, b2, b3, b4, b5, b6⟩ := ok_cr h.ok []
  have hA : A.dp = d.dp := by have := crD_ok (picks := List.replicate 40 true) (chk_ok.2 h.ok); rw [a1] at this; cases this; rfl
  have hB : B.dp = d.dp := by have := crD_ok (picks := []) (chk_ok.2 h.ok); rw [b1] at this; cases this; rfl
  have lA : A.bl.length = 4 := by rw [a6, keepQ_len, keepC_len, h.nb]
  have lB : B.bl.length = 4 := by rw [b6, keepQ_len, keepC_len, h.nb]
  have hnb := h.nb
  have hca := ca4 h
  refine ⟨A, B, a1, b1, ⟨a2, by rw [hA, h.dp], lA, by rw [a3]; exact h.nx⟩, ⟨b2, by rw [hB, h.dp], lB, by rw [b3]; exact h.nx⟩, fun f hf ho => ?_, fun f hf => ?_, ?_, a5, a3⟩
  · rw [durD_ok a2 (by omega), contD_ok h.ok (by omega), a6, keepQ_far (qu_far h.ok (outQ_no ho)), keepC_all (by omega), flushB_get h.ok.asc (by omega) (by omega)]
    unfold cont
    rw [Int.toNat_natCast]
  · rw [durD_ok b2 (by omega), durD_ok h.ok (by omega), b6, keepQ_none, keepC_none]
  · unfold chN
    rw [if_pos (chk_ok.2 a2), a4, a5]; rfl
/-- A block that was not written since. -/
structure Un (d : D) (f : Nat) (s : List Int) : Prop where
  c : ∀ c ∈ d.ca, c.1 ≠ f
  q : ∀ q ∈ d.qu, q.2.1 = 2 → q.2.2.1 ≠ f
  b : d.bl.getD f [] = s
theorem Un.start {d : D} {f : Nat} (h1 : d.ca = []) (h2 : d.qu = []) : Un d f (d.bl.getD f []) := ⟨by simp [h1], by simp [h2], rfl⟩
theorem Un.sub {d : D} {f : Nat} {s t : List Int} {b : Int} (h : Un d f s) (hb : b ≠ f) : Un ⟨d.dp, d.nx + 1, d.bl, d.ca, d.qu ++ [(d.nx, 2, b, t)]⟩ f s :=
  ⟨h.c, fun q hq hk => by
    rcases List.mem_append.1 hq with hq | hq
    · exact h.q q hq hk
    · obtain rfl := List.mem_singleton.1 hq
      exact hb, h.b⟩
theorem Un.cmp {d : D} {f : Nat} {s : List Int} {p : Nat} {n : Nat} (h : Un d f s) (ho : PD d n) (hp : p < d.qu.length) (ok : Bool) : Un (cmpD d p ok).1 f s := by
  obtain ⟨q, hq⟩ := get_some (l := d.qu) rfl hp
  have hm := List.mem_of_getElem? hq
  obtain ⟨bl, ca, s', h1, h2, h3, h4, hh⟩ := cmp_all ho.ok hq ok
  rw [h1]
  have hqu : ∀ q ∈ d.qu.eraseIdx p, q.2.1 = 2 → q.2.2.1 ≠ f := fun q hq => h.q q (List.mem_of_mem_eraseIdx hq)
  rcases hh with ⟨_, rfl, rfl, _⟩ | ⟨_, rfl, rfl⟩ | ⟨hk, rfl, rfl⟩ | ⟨_, rfl, rfl⟩
  · exact ⟨h.c, hqu, h.b⟩
  · exact ⟨h.c, hqu, h.b⟩
  · refine ⟨fun c hc => ?_, hqu, h.b⟩
    rcases putC_mem hc with rfl | hc
    · exact h.q q hm hk
    · exact h.c c hc
  · refine ⟨fun c hc => by simp at hc, hqu, ?_⟩
    show (flushB d.bl d.ca).getD f [] = s
    rw [flushB_far (ca_far ho.ok h.c), h.b]
theorem Un.crash {d C : D} {f : Nat} {s : List Int} {n : Nat} {picks : List Bool} (h : Un d f s) (ho : PD d n) (hf : f < 4) (hk : Ok C) (hl : C.ca = []) (hb : C.bl = keepQ picks d.ca.length (keepC picks 0 d.bl d.ca) d.qu) : contD C f = s := by
  have hnb := ho.nb
  rw [contD_ok hk (by rw [hb, keepQ_len, keepC_len]; omega)]
  unfold cont
  rw [hl]
  show C.bl.getD (Int.toNat (f : Int)) [] = s
  rw [Int.toNat_natCast, hb, keepQ_far (qu_far ho.ok h.q), keepC_far (ca_far ho.ok h.c), h.b]
/-- A device whose queue is empty: a flush is submitted and completes. -/
theorem drain_spec {d : D} {n : Nat} (h : PD d n) (hn : n ≤ 1000) (hq : d.qu = []) : ∃ E id F Q, subD d 3 0 [] = (E, id, 0) ∧ PD E (n + 1) ∧ cmpD E 0 true = (F, Q, 0) ∧ PD F (n + 1) ∧ Q.2.1 = 3 ∧ Q.2.2.2.length ≤ 32 ∧ F.ca = [] ∧ F.qu = [] := by
  obtain ⟨s1, s2⟩ := pd_sub h hn (by rw [hq]; simp) (kd := 3) (b := 0) (s := []) rqE_flush
  rw [hq] at s1 s2
  have hc := cmpD_ok (d := ⟨d.dp, d.nx + 1, d.bl, d.ca, [(d.nx, 3, 0, [])]⟩) (p := 0) (q := (d.nx, 3, 0, [])) (chk_ok.2 s2.ok) rfl
  rw [cmpQ_flush] at hc
  obtain ⟨d', q', e1, e2, e3, e4⟩ := pd_cmp (p := 0) s2 (by simp) true
  have he := e1
  rw [show (((0 : Nat) : Int)) = (0 : Int) from rfl] at he hc
  have hh := he.symm.trans hc
  cases hh
  exact ⟨_, _, _, _, s1, s2, hc, e2, rfl, by simp, rfl, rfl⟩
end Go.Dev
