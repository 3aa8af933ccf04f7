/- The plain mathematics of devices: what the operations keep. -/
import Derived.Test.YtlhbjmoncdljoaaD16
import Derived.Test.YtlhbjmoncdljoaaD12
namespace Go.Dev
theorem few_spec {d : D} (h : fewD d = true) : d.bl.length ≤ 40 ∧ d.ca.length ≤ 40 ∧ d.qu.length ≤ 40 ∧ (∀ b ∈ d.bl, b.length ≤ 100) ∧ (∀ c ∈ d.ca, c.2.length ≤ 100) ∧ (∀ q ∈ d.qu, q.2.2.2.length ≤ 100) := by
  unfold fewD at h
  split at h
  · cases h
  · rename_i hn
    simp only [Bool.and_eq_true, List.all_eq_true, decide_eq_true_eq] at h
    exact ⟨by omega, by omega, by omega, h.1, h.2.1, h.2.2⟩
theorem rqE_kind {nb k b : Int} {n : Nat} (h : rqE nb k b n = 0) : (k = 1 ∧ 0 ≤ b ∧ b < nb ∧ n = 0) ∨ (k = 2 ∧ 0 ≤ b ∧ b < nb ∧ n = 32) ∨ (k = 3 ∧ b = 0 ∧ n = 0) := by
  unfold rqE at h
  repeat' split at h
  all_goals omega
theorem rqE_write {nb b : Int} {n : Nat} (h1 : 0 ≤ b) (h2 : b < nb) (h3 : n = 32) : rqE nb 2 b n = 0 := by
  unfold rqE
  rw [if_pos (by omega), if_neg (by omega), if_neg (by omega)]
theorem rqE_read {nb b : Int} (h1 : 0 ≤ b) (h2 : b < nb) : rqE nb 1 b 0 = 0 := by
  unfold rqE
  rw [if_pos (by omega), if_neg (by omega), if_neg (by omega)]
theorem rqE_flush {nb : Int} : rqE nb 3 0 0 = 0 := by
  unfold rqE
  rw [if_neg (by omega), if_pos rfl, if_neg (by omega), if_neg (by omega)]
theorem putC_asc {f : Int} {s : List Int} : ∀ {l : List Ca} {p : Int}, AscC p l → p < f → AscC p (putC f s l)
  | [], p, _, hp => ⟨hp, trivial⟩
  | c :: r, p, h, hp => by
    rw [putC]
    split
    · exact ⟨h.1, putC_asc h.2 (by assumption)⟩
    · split
      · rename_i h1 h2
        exact ⟨hp, h2 ▸ h.2⟩
      · exact ⟨hp, by omega, h.2⟩
theorem putC_mem {f : Int} {s : List Int} : ∀ {l : List Ca} {c : Ca}, c ∈ putC f s l → c = (f, s) ∨ c ∈ l
  | [], c, h => by simp [putC] at h; exact .inl h
  | x :: r, c, h => by
    rw [putC] at h
    split at h
    · rcases List.mem_cons.1 h with rfl | h
      · exact .inr (by simp)
      · rcases putC_mem h with h | h
        · exact .inl h
        · exact .inr (by simp [h])
    · split at h
      · rcases List.mem_cons.1 h with rfl | h
        · exact .inl rfl
        · exact .inr (by simp [h])
      · rcases List.mem_cons.1 h with rfl | h
        · exact .inl rfl
        · exact .inr h
theorem conL_putC {b f : Int} {s : List Int} : ∀ {l : List Ca} {p : Int}, AscC p l → conL b (putC f s l) = if f = b then some s else conL b l
  | [], _, _ => rfl
  | c :: r, p, h => by
    have ih := conL_putC (b := b) (f := f) (s := s) h.2
    rw [putC]
    by_cases h1 : c.1 < f
    · rw [if_pos h1, conL, ih, conL]
      by_cases hb : f = b
      · rw [if_neg (by omega), if_pos hb, if_pos hb]
      · rw [if_neg hb, if_neg hb]
    · rw [if_neg h1]
      by_cases h2 : c.1 = f
      · rw [if_pos h2, conL]
        show (if f = b then some s else conL b r) = _
        by_cases hb : f = b
        · rw [if_pos hb, if_pos hb]
        · rw [if_neg hb, if_neg hb, conL, if_neg (by omega)]
      · rw [if_neg h2, conL]
theorem conL_notin {b : Int} : ∀ {l : List Ca}, (∀ c ∈ l, c.1 ≠ b) → conL b l = none
  | [], _ => rfl
  | c :: r, h => by rw [conL, if_neg (h c (by simp)), conL_notin fun x hx => h x (by simp [hx])]
theorem set_mem {α : Type} {l : List α} {i : Nat} {x y : α} (h : y ∈ l.set i x) : y = x ∨ y ∈ l := by
  rcases List.mem_or_eq_of_mem_set h with h | h
  · exact .inr h
  · exact .inl h
theorem flushB_32 : ∀ {l : List Ca} {bl : List (List Int)}, (∀ b ∈ bl, b.length = 32) → (∀ c ∈ l, c.2.length = 32) → ∀ b ∈ flushB bl l, b.length = 32
  | [], _, h, _ => h
  | c :: r, bl, h, hc => by
    rw [flushB]
    refine flushB_32 (fun b hb => ?_) (fun x hx => hc x (by simp [hx]))
    rcases set_mem hb with rfl | hb
    · exact hc c (by simp)
    · exact h b hb
theorem kp_32 {picks : List Bool} {n : Nat} {bl : List (List Int)} {f : Int} {s : List Int} (h : ∀ b ∈ bl, b.length = 32) (hs : s.length = 32) : ∀ b ∈ kp picks n bl f s, b.length = 32 := by
  unfold kp
  split
  · intro b hb
    rcases set_mem hb with rfl | hb
    · exact hs
    · exact h b hb
  · exact h
theorem keepC_32 {picks : List Bool} : ∀ {l : List Ca} {n : Nat} {bl : List (List Int)}, (∀ b ∈ bl, b.length = 32) → (∀ c ∈ l, c.2.length = 32) → ∀ b ∈ keepC picks n bl l, b.length = 32
  | [], _, _, h, _ => h
  | c :: r, n, bl, h, hc => by
    rw [keepC]
    exact keepC_32 (kp_32 h (hc c (by simp))) (fun x hx => hc x (by simp [hx]))
theorem keepQ_32 {picks : List Bool} : ∀ {l : List Rq} {n : Nat} {bl : List (List Int)}, (∀ b ∈ bl, b.length = 32) → (∀ q ∈ l, q.2.1 = 2 → q.2.2.2.length = 32) → ∀ b ∈ keepQ picks n bl l, b.length = 32
  | [], _, _, h, _ => h
  | q :: r, n, bl, h, hc => by
    rw [keepQ]
    split
    · rename_i hk
      exact keepQ_32 (kp_32 h (hc q (by simp) hk)) (fun x hx => hc x (by simp [hx]))
    · exact keepQ_32 h (fun x hx => hc x (by simp [hx]))
theorem aq_snoc {x : Rq} : ∀ {l : List Rq} {p : Int}, AscQ p l → p < x.1 → (∀ q ∈ l, q.1 < x.1) → AscQ p (l ++ [x])
  | [], _, _, hp, _ => ⟨hp, trivial⟩
  | q :: r, p, h, hp, hq => ⟨h.1, aq_snoc h.2 (hq q (by simp)) (fun y hy => hq y (by simp [hy]))⟩
theorem ok_sub {d : D} {k b : Int} {s : List Int} (h : Ok d) (h1 : rqE d.bl.length k b s.length = 0) (h2 : d.nx ≠ 1099511627776) (h3 : ¬ d.dp ≤ d.qu.length) : Ok ⟨d.dp, d.nx + 1, d.bl, d.ca, d.qu ++ [(d.nx, k, b, s)]⟩ :=
  ⟨h.d1, h.d2, by have := h.n1; simp only; omega, by have := h.n2; simp only; omega, h.b1, h.b2, h.bl, h.asc, h.cb, h.cd, by simp only [List.length_append, List.length_singleton]; omega,
   aq_snoc h.aq (by have := h.n1; simp only; omega) (fun q hq => (h.qu q hq).1), fun q hq => by
    rcases List.mem_append.1 hq with hq | hq
    · exact ⟨by have := (h.qu q hq).1; simp only; omega, (h.qu q hq).2⟩
    · obtain rfl := List.mem_singleton.1 hq
      exact ⟨by simp only; omega, h1⟩⟩
theorem ok_put {d : D} {f : Int} {s : List Int} (h : Ok d) (h0 : 0 ≤ f) (h1 : f < d.bl.length) (hs : s.length = 32) : Ok ⟨d.dp, d.nx, d.bl, putC f s d.ca, d.qu⟩ :=
  ⟨h.d1, h.d2, h.n1, h.n2, h.b1, h.b2, h.bl, putC_asc h.asc (by omega), fun c hc => by
    rcases putC_mem hc with rfl | hc
    · exact h1
    · exact h.cb c hc, fun c hc => by
    rcases putC_mem hc with rfl | hc
    · exact hs
    · exact h.cd c hc, h.q1, h.aq, h.qu⟩
theorem ok_bls {d : D} {bl : List (List Int)} (h : Ok d) (hl : bl.length = d.bl.length) (h32 : ∀ b ∈ bl, b.length = 32) : Ok ⟨d.dp, d.nx, bl, [], d.qu⟩ :=
  ⟨h.d1, h.d2, h.n1, h.n2, by simp only; rw [hl]; exact h.b1, by simp only; rw [hl]; exact h.b2, h32, trivial, fun c hc => by simp at hc, fun c hc => by simp at hc, h.q1, h.aq, by simp only; rw [hl]; exact h.qu⟩
theorem ok_cmp {d : D} {q : Rq} {p : Nat} (h : Ok d) (hq : d.qu[p]? = some q) (ok : Bool) : ∃ d' q', cmpD d p ok = (d', q', 0) ∧ Ok d' ∧ q'.2.2.2.length ≤ 32 := by
  have hc := chk_ok.2 h
  have hm := h.qu q (List.mem_of_getElem? hq)
  have he := ok_erase h p
  have hl := rqE_len hm.2
  obtain ⟨i, k, b, s⟩ := q
  cases ok with
  | false => exact ⟨_, _, cmpD_fail hc hq, he, hl⟩
  | true =>
    rw [cmpD_ok hc hq]
    rcases rqE_kind hm.2 with ⟨rfl, h0, h1, h2⟩ | ⟨rfl, h0, h1, h2⟩ | ⟨rfl, h1, h2⟩
    · refine ⟨_, _, cmpQ_read, he, ?_⟩
      show (cont d b).length ≤ 32
      unfold cont
      cases hcl : conL b d.ca with
      | none =>
        show (d.bl.getD b.toNat []).length ≤ 32
        rw [List.getD_eq_getElem?_getD]
        cases hb : d.bl[b.toNat]? with
        | none => simp
        | some x => simp [h.bl x (List.mem_of_getElem? hb)]
      | some x =>
        show x.length ≤ 32
        have : ∀ {l : List Ca}, conL b l = some x → ∃ c ∈ l, c.2 = x := by
          intro l
          induction l with
          | nil => intro h; cases h
          | cons c r ih =>
            intro h
            rw [conL] at h
            split at h
            · cases h; exact ⟨c, by simp, rfl⟩
            · obtain ⟨c', h1, h2⟩ := ih h; exact ⟨c', by simp [h1], h2⟩
        obtain ⟨c, h1, rfl⟩ := this hcl
        rw [h.cd c h1]; omega
    · exact ⟨_, _, cmpQ_write, ok_put he h0 h1 h2, hl⟩
    · exact ⟨_, _, cmpQ_flush, ok_bls he flushB_len (flushB_32 h.bl h.cd), hl⟩
theorem ok_cr {d : D} (h : Ok d) (picks : List Bool) : ∃ d', crD d picks = (d', 0) ∧ Ok d' ∧ d'.nx = d.nx ∧ d'.ca = [] ∧ d'.qu = [] ∧ d'.bl = keepQ picks d.ca.length (keepC picks 0 d.bl d.ca) d.qu := by
  refine ⟨_, crD_ok (chk_ok.2 h), ?_, rfl, rfl, rfl, rfl⟩
  have h1 : (keepQ picks d.ca.length (keepC picks 0 d.bl d.ca) d.qu).length = d.bl.length := by rw [keepQ_len, keepC_len]
  refine ⟨h.d1, h.d2, h.n1, h.n2, by simp only; rw [h1]; exact h.b1, by simp only; rw [h1]; exact h.b2, ?_, trivial, fun c hc => by simp at hc, fun c hc => by simp at hc, by have := h.d1; simp; omega, trivial, fun q hq => by simp at hq⟩
  refine keepQ_32 (keepC_32 h.bl h.cd) (fun q hq hk => ?_)
  rcases rqE_kind (h.qu q hq).2 with ⟨h1, _⟩ | ⟨_, _, _, h2⟩ | ⟨h1, _⟩
  · omega
  · exact h2
  · omega
/-- A device that an operation gives. -/
def Fine (d : D) : Prop := d = zero ∨ Ok d
theorem fine_few {d : D} (h : Fine d) : d.bl.length ≤ 256 ∧ d.ca.length ≤ 256 ∧ d.qu.length ≤ 16 ∧ (∀ b ∈ d.bl, b.length ≤ 1000) ∧ (∀ c ∈ d.ca, c.2.length ≤ 1000) ∧ (∀ q ∈ d.qu, q.2.2.2.length ≤ 1000) := by
  rcases h with rfl | h
  · exact ⟨by simp [zero], by simp [zero], by simp [zero], by simp [zero], by simp [zero], by simp [zero]⟩
  · exact ⟨h.b2, ok_ca h, ok_qu h, ok_bl h, ok_cl h, ok_ql h⟩
theorem fine_new (dp : Int) (bl : List (List Int)) : Fine (newD dp bl).1 := by
  unfold newD
  split
  · exact .inr (chk_ok.1 (by assumption))
  · exact .inl rfl
theorem fine_sub (d : D) (k b : Int) (s : List Int) : Fine (subD d k b s).1 := by
  unfold subD
  split
  · exact .inl rfl
  · split
    · exact .inl rfl
    · split
      · exact .inl rfl
      · split
        · exact .inl rfl
        · rename_i h1 h2 h3 h4
          exact .inr (ok_sub (chk_ok.1 (by simpa using h1)) (by simpa using h2) h3 h4)
theorem fine_cmp (d : D) (p : Int) (ok : Bool) : Fine (cmpD d p ok).1 ∧ (cmpD d p ok).2.1.2.2.2.length ≤ 32 := by
  by_cases hc : chk d = 0
  · by_cases hp : p < 0 ∨ (d.qu.length : Int) ≤ p
    · rw [cmpD_range hc hp]; exact ⟨.inl rfl, by simp [zq]⟩
    · obtain ⟨n, rfl⟩ : ∃ n : Nat, p = n := ⟨p.toNat, by omega⟩
      obtain ⟨q, hq⟩ := get_some (l := d.qu) rfl (show n < d.qu.length by omega)
      obtain ⟨d', q', h1, h2, h3⟩ := ok_cmp (chk_ok.1 hc) hq ok
      rw [h1]; exact ⟨.inr h2, h3⟩
  · rw [cmpD_chk rfl hc]; exact ⟨.inl rfl, by simp [zq]⟩
theorem fine_cr (d : D) (picks : List Bool) : Fine (crD d picks).1 := by
  by_cases hc : chk d = 0
  · obtain ⟨d', h1, h2, _⟩ := ok_cr (chk_ok.1 hc) picks
    rw [h1]; exact .inr h2
  · rw [crD_chk rfl hc]; exact .inl rfl
end Go.Dev
