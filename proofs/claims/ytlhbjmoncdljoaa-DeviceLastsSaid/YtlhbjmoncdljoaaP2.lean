/- The plain mathematics of devices: what a valid device is, contents. -/
import Derived.Test.YtlhbjmoncdljoaaD5
namespace Go.Dev
def zero : D := ⟨0, 0, [], [], []⟩
def AscC : Int → List Ca → Prop
  | _, [] => True
  | p, c :: r => p < c.1 ∧ AscC c.1 r
theorem ascC_lt : ∀ {l : List Ca} {p : Int}, AscC p l → ∀ c ∈ l, p < c.1
  | [], _, _, _, h => by simp at h
  | x :: r, p, ha, c, h => by
    rcases List.mem_cons.1 h with rfl | h
    · exact ha.1
    · have := ascC_lt ha.2 c h
      have := ha.1
      omega
theorem ascC_get : ∀ {l : List Ca} {p : Int}, AscC p l → ∀ {i j : Nat} {s t : Ca}, l[i]? = some s → l[j]? = some t → i < j → s.1 < t.1
  | [], _, _, i, j, s, t, h, _, _ => by simp at h
  | x :: r, p, ha, 0, j + 1, s, t, h, h', _ => by
    simp at h; subst h
    exact ascC_lt ha.2 t (List.mem_of_getElem? (by simpa using h'))
  | x :: r, p, ha, i + 1, j + 1, s, t, h, h', hij => ascC_get ha.2 (i := i) (j := j) (by simpa using h) (by simpa using h') (by omega)
theorem caE_ok {nb : Int} : ∀ {l : List Ca} {p : Int}, caE nb p l = 0 → AscC p l ∧ (∀ c ∈ l, c.1 < nb) ∧ (l ≠ [] → p + l.length < nb)
  | [], p, _ => ⟨trivial, by simp, fun h => absurd rfl h⟩
  | c :: r, p, h => by
    rw [caE] at h
    split at h
    · exact absurd h (by decide)
    · rename_i hc
      obtain ⟨h1, h2, h3⟩ := caE_ok h
      refine ⟨⟨by omega, h1⟩, fun x hx => ?_, fun _ => ?_⟩
      · rcases List.mem_cons.1 hx with rfl | hx
        · omega
        · exact h2 x hx
      · by_cases hr : r = []
        · subst hr; simp; omega
        · have := h3 hr
          simp only [List.length_cons]
          omega
theorem caE_of {nb : Int} : ∀ {l : List Ca} {p : Int}, AscC p l → (∀ c ∈ l, c.1 < nb) → caE nb p l = 0
  | [], _, _, _ => rfl
  | c :: r, p, h, h' => by
    rw [caE, if_neg (by have := h.1; have := h' c (by simp); omega)]
    exact caE_of h.2 (fun x hx => h' x (by simp [hx]))
theorem blE_ok : ∀ {l : List (List Int)}, blE l = 0 → ∀ b ∈ l, b.length = 32
  | [], _, _, h => by simp at h
  | b :: r, h, x, hx => by
    rw [blE] at h
    split at h
    · exact absurd h (by decide)
    · rename_i hb
      rcases List.mem_cons.1 hx with rfl | hx
      · omega
      · exact blE_ok h x hx
theorem blE_of : ∀ {l : List (List Int)}, (∀ b ∈ l, b.length = 32) → blE l = 0
  | [], _ => rfl
  | b :: r, h => by
    rw [blE, if_neg (by have := h b (by simp); omega)]
    exact blE_of fun x hx => h x (by simp [hx])
theorem cdE_ok : ∀ {l : List Ca}, cdE l = 0 → ∀ c ∈ l, c.2.length = 32
  | [], _, _, h => by simp at h
  | b :: r, h, x, hx => by
    rw [cdE] at h
    split at h
    · exact absurd h (by decide)
    · rename_i hb
      rcases List.mem_cons.1 hx with rfl | hx
      · omega
      · exact cdE_ok h x hx
theorem cdE_of : ∀ {l : List Ca}, (∀ c ∈ l, c.2.length = 32) → cdE l = 0
  | [], _ => rfl
  | b :: r, h => by
    rw [cdE, if_neg (by have := h b (by simp); omega)]
    exact cdE_of fun x hx => h x (by simp [hx])
/-- Requests in a queue: their numbers ascend below the next. -/
def AscQ : Int → List Rq → Prop
  | _, [] => True
  | p, q :: r => p < q.1 ∧ AscQ q.1 r
theorem quE_ok {nb nx : Int} : ∀ {l : List Rq} {p : Int}, quE nb nx p l = 0 → AscQ p l ∧ ∀ q ∈ l, q.1 < nx ∧ rqE nb q.2.1 q.2.2.1 q.2.2.2.length = 0
  | [], p, _ => ⟨trivial, by simp⟩
  | q :: r, p, h => by
    rw [quE] at h
    split at h
    · rename_i hc; exact absurd h hc
    · split at h
      · exact absurd h (by decide)
      · rename_i h0 hc
        obtain ⟨h1, h2⟩ := quE_ok h
        refine ⟨⟨by omega, h1⟩, fun x hx => ?_⟩
        rcases List.mem_cons.1 hx with rfl | hx
        · exact ⟨by omega, by simpa using h0⟩
        · exact h2 x hx
theorem quE_of {nb nx : Int} : ∀ {l : List Rq} {p : Int}, AscQ p l → (∀ q ∈ l, q.1 < nx ∧ rqE nb q.2.1 q.2.2.1 q.2.2.2.length = 0) → quE nb nx p l = 0
  | [], _, _, _ => rfl
  | q :: r, p, h, h' => by
    obtain ⟨h1, h2⟩ := h' q (by simp)
    rw [quE, if_neg (by simpa using h2), if_neg (by have := h.1; omega)]
    exact quE_of h.2 (fun x hx => h' x (by simp [hx]))
/-- A valid device. -/
structure Ok (d : D) : Prop where
  d1 : 1 ≤ d.dp
  d2 : d.dp ≤ 16
  n1 : 0 ≤ d.nx
  n2 : d.nx ≤ 1099511627776
  b1 : 1 ≤ d.bl.length
  b2 : d.bl.length ≤ 256
  bl : ∀ b ∈ d.bl, b.length = 32
  asc : AscC (-1) d.ca
  cb : ∀ c ∈ d.ca, c.1 < d.bl.length
  cd : ∀ c ∈ d.ca, c.2.length = 32
  q1 : d.qu.length ≤ d.dp
  aq : AscQ (-1) d.qu
  qu : ∀ q ∈ d.qu, q.1 < d.nx ∧ rqE d.bl.length q.2.1 q.2.2.1 q.2.2.2.length = 0
theorem chk_ok {d : D} : chk d = 0 ↔ Ok d := by
  constructor
  · intro h
    unfold chk at h
    split at h
    · exact absurd h (by decide)
    rename_i hr
    have hr := (show rng d = true by simpa using hr)
    unfold rng at hr
    rw [decide_eq_true_eq] at hr
    split at h
    · rename_i hc; exact absurd h hc
    rename_i hb
    split at h
    · rename_i hc; exact absurd h hc
    rename_i hc
    split at h
    · rename_i hc; exact absurd h hc
    rename_i hd
    split at h
    · exact absurd h (by decide)
    rename_i hq
    obtain ⟨h1, h2, _⟩ := caE_ok (show caE d.bl.length (-1) d.ca = 0 by simpa using hc)
    obtain ⟨h3, h4⟩ := quE_ok h
    exact ⟨by omega, by omega, by omega, by omega, by omega, by omega, blE_ok (by simpa using hb), h1, h2, cdE_ok (by simpa using hd), by omega, h3, h4⟩
  · intro h
    unfold chk
    have h1 : rng d = true := by
      unfold rng
      rw [decide_eq_true_eq]
      exact ⟨h.d1, h.d2, h.n1, h.n2, h.b1, h.b2⟩
    rw [if_neg (by simp [h1]), if_neg (by simp [blE_of h.bl]), if_neg (by simp [caE_of h.asc h.cb]), if_neg (by simp [cdE_of h.cd]), if_neg (by have := h.q1; omega)]
    exact quE_of h.aq h.qu
theorem ok_ca {d : D} (h : Ok d) : d.ca.length ≤ 256 := by
  by_cases hc : d.ca = []
  · rw [hc]; simp
  · have := (caE_ok (caE_of h.asc h.cb)).2.2 hc
    have := h.b2
    omega
theorem rqE_len {nb k b : Int} {n : Nat} (h : rqE nb k b n = 0) : n ≤ 32 := by
  unfold rqE at h
  repeat' split at h
  all_goals omega
theorem ok_qu {d : D} (h : Ok d) : d.qu.length ≤ 16 := by have := h.q1; have := h.d2; omega
theorem ok_ql {d : D} (h : Ok d) : ∀ q ∈ d.qu, q.2.2.2.length ≤ 1000 := fun q hq => by have := rqE_len (h.qu q hq).2; omega
theorem ok_cl {d : D} (h : Ok d) : ∀ c ∈ d.ca, c.2.length ≤ 1000 := fun c hc => by have := h.cd c hc; omega
theorem ok_bl {d : D} (h : Ok d) : ∀ b ∈ d.bl, b.length ≤ 1000 := fun c hc => by have := h.bl c hc; omega
/-- What is cached of a block. -/
def conL (b : Int) : List Ca → Option (List Int)
  | [] => none
  | c :: r => if c.1 = b then some c.2 else conL b r
def cont (d : D) (b : Int) : List Int := (conL b d.ca).getD (d.bl.getD b.toNat [])
def contD (d : D) (b : Int) : List Int := if chk d = 0 ∧ 0 ≤ b ∧ b < d.bl.length then cont d b else []
def durD (d : D) (b : Int) : List Int := if chk d = 0 ∧ 0 ≤ b ∧ b < d.bl.length then d.bl.getD b.toNat [] else []
def hasC (b : Int) (l : List Ca) : Bool := l.any fun c => decide (c.1 = b)
def posC (b : Int) (l : List Ca) : Nat := l.countP fun c => decide (c.1 < b)
theorem conL_none {b : Int} : ∀ {l : List Ca}, hasC b l = false → conL b l = none
  | [], _ => rfl
  | c :: r, h => by
    have h1 : c.1 ≠ b ∧ hasC b r = false := by simpa [hasC] using h
    rw [conL, if_neg h1.1]; exact conL_none h1.2
theorem conL_some {b : Int} {p : Int} : ∀ {l : List Ca} {i : Nat} {c : Ca}, AscC p l → l[i]? = some c → c.1 = b → conL b l = some c.2
  | [], _, _, _, h, _ => by simp at h
  | x :: r, 0, c, ha, h, hb => by
    simp at h; subst h
    rw [conL, if_pos hb]
  | x :: r, i + 1, c, ha, h, hb => by
    have hr : r[i]? = some c := by simpa using h
    have hlt := ascC_lt ha.2 c (List.mem_of_getElem? hr)
    rw [conL, if_neg (by omega)]
    exact conL_some ha.2 hr hb
theorem posC_at : ∀ {l : List Ca} {f : Int} {i : Nat}, i ≤ l.length → (∀ k s, k < i → l[k]? = some s → s.1 < f) → (∀ k s, i ≤ k → l[k]? = some s → f ≤ s.1) → posC f l = i
  | [], f, i, hi, _, _ => by
    have : i = 0 := by simpa using hi
    subst this; rfl
  | t :: r, f, 0, hi, h1, h2 => by
    have ih := posC_at (l := r) (f := f) (i := 0) (by omega) (fun k s hk => absurd hk (by omega)) (fun k s _ hs => h2 (k + 1) s (by omega) (by simpa using hs))
    have ht := h2 0 t (by omega) rfl
    unfold posC at ih ⊢
    rw [List.countP_cons, ih]
    simp; omega
  | t :: r, f, i + 1, hi, h1, h2 => by
    have ih := posC_at (l := r) (f := f) (i := i) (by simp at hi; omega) (fun k s hk hs => h1 (k + 1) s (by omega) (by simpa using hs)) (fun k s hk hs => h2 (k + 1) s (by omega) (by simpa using hs))
    have ht := h1 0 t (by omega) rfl
    unfold posC at ih ⊢
    rw [List.countP_cons, ih]
    simp [ht]
/-- Where a cached block is. -/
theorem posC_get {f p : Int} : ∀ {l : List Ca}, AscC p l → hasC f l = true → ∃ c, l[posC f l]? = some c ∧ c.1 = f
  | [], _, h => by simp [hasC] at h
  | x :: r, ha, h => by
    by_cases hx : x.1 = f
    · have h0 : posC f (x :: r) = 0 := posC_at (by omega) (fun k s hk => absurd hk (by omega)) (fun k s _ hs => by
        rcases Nat.eq_zero_or_pos k with rfl | hk
        · simp at hs; subst hs; omega
        · have := ascC_get ha (i := 0) (j := k) rfl hs hk
          omega)
      exact ⟨x, by rw [h0]; rfl, hx⟩
    · have hr : hasC f r = true := by simpa [hasC, hx] using h
      obtain ⟨c, hc, hcf⟩ := posC_get ha.2 hr
      have hlt := ascC_lt ha.2 c (List.mem_of_getElem? hc)
      refine ⟨c, ?_, hcf⟩
      have : posC f (x :: r) = posC f r + 1 := by
        unfold posC
        rw [List.countP_cons_of_pos]
        simp; omega
      rw [this]
      simpa using hc
theorem conL_step {b : Int} {l : List Ca} {i : Nat} {c : Ca} (h : l[i]? = some c) : conL b (l.drop i) = if c.1 = b then some c.2 else conL b (l.drop (i + 1)) := by rw [drop_get h]; rfl
end Go.Dev
