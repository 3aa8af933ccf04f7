/- Walks: the first error of page blocks, of the program. -/
import Derived.Test.YtkiiifmofmbniaaDoorM3
namespace Go.Mob
open Go.Can
theorem le1_start {p : P} {i : Nat} {l : List Int} : le1 p i false 0 l = le1 p i (decide (0 < 0)) (l.getD (0 - 1) 0) (l.drop 0) := by
  rw [List.drop_zero]
  cases l <;> simp [le1]
theorem le1_step {p : P} {i : Nat} {l : List Int} {j : Nat} {x : Int} (h : l[j]? = some x) : le1 p i (decide (0 < j)) (l.getD (j - 1) 0) (l.drop j) =
    if bad p i x = true then 3 else if 0 < j ∧ x ≤ l.getD (j - 1) 0 then 10 else le1 p i (decide (0 < j + 1)) (l.getD (j + 1 - 1) 0) (l.drop (j + 1)) := by
  have hlt : j < l.length := by rw [List.getElem?_eq_some_iff] at h; obtain ⟨h, _⟩ := h; exact h
  have hd : l.drop j = x :: l.drop (j + 1) := by
    rw [List.drop_eq_getElem_cons hlt]
    rw [List.getElem?_eq_getElem hlt] at h
    rw [Option.some.inj h]
  rw [hd]
  have e : l.getD (j + 1 - 1) 0 = x := by rw [Nat.add_sub_cancel, List.getD_eq_getElem?_getD, h]; rfl
  rw [e]
  simp [le1]
theorem le1_end {p : P} {i : Nat} {l : List Int} {j : Nat} (h : l.length = j) : le1 p i (decide (0 < j)) (l.getD (j - 1) 0) (l.drop j) = 0 := by
  rw [List.drop_eq_nil_of_le (by omega)]; rfl
theorem leA_ok {p : P} {i : Nat} (h : i < 15) (h1 : le1 p i false 0 (p.fr i) = 0) : leA p i = leA p (i + 1) := by rw [leA_step h, if_pos h1]
theorem leA_bad {p : P} {i : Nat} (h : i < 15) (h1 : le1 p i false 0 (p.fr i) ≠ 0) : leA p i = le1 p i false 0 (p.fr i) := by rw [leA_step h, if_neg h1]
theorem bad_eq {p : P} {t k : Nat} (hk : k < 5) (f : Int) : bad p (5 * t + k) f = (!insB p f k || decide (tyAt p f ≠ (t : Int))) := by
  unfold bad
  rw [show (5 * t + k) % 5 = k by omega, show (5 * t + k) / 5 = t by omega]
theorem ins_open {p : P} {f : Int} {k : Nat} (h : insB p f k = true) : p.st ≤ f ∧ f < p.st + 16 * (p.ty.length : Int) ∧ f % pw k = 0 := by
  unfold insB at h
  exact of_decide_eq_true h
theorem le1_val {p : P} {i : Nat} : ∀ {l : List Int} {b : Bool} {q : Int}, le1 p i b q l = 0 → (∀ f ∈ l, bad p i f = false) ∧ List.Pairwise (· < ·) l ∧ (b = true → ∀ f ∈ l, q < f)
  | [], _, _, _ => ⟨by simp, List.Pairwise.nil, by simp⟩
  | f :: r, b, q, h => by
    unfold le1 at h
    split at h
    · omega
    · rename_i h1
      split at h
      · omega
      · rename_i h2
        obtain ⟨a1, a2, a3⟩ := le1_val h
        have h1' : bad p i f = false := by simpa using h1
        refine ⟨fun x hx => ?_, List.Pairwise.cons (fun x hx => a3 rfl x hx) a2, fun hb x hx => ?_⟩
        · rcases List.mem_cons.1 hx with rfl | hx
          · exact h1'
          · exact a1 x hx
        · have hp : q < f := by
            rcases Int.lt_or_le q f with h3 | h3
            · exact h3
            · exact absurd ⟨hb, h3⟩ h2
          rcases List.mem_cons.1 hx with rfl | hx
          · exact hp
          · have := a3 rfl x hx; omega
theorem leA_all {p : P} : ∀ (n i : Nat), i + n = 15 → leA p i = 0 → ∀ j, i ≤ j → j < 15 → le1 p j false 0 (p.fr j) = 0
  | 0, i, h, _, j, h1, h2 => by omega
  | n + 1, i, h, h0, j, h1, h2 => by
    rw [leA_step (by omega)] at h0
    split at h0
    · rename_i h3
      by_cases hj : j = i
      · rw [hj]; exact h3
      · exact leA_all n (i + 1) (by omega) h0 j (by omega) h2
    · rename_i h3; exact absurd h0 h3
/-- The lists are well formed. -/
structure Lst (p : P) : Prop where
  rng : rngB p = true
  ins : ∀ i, i < 15 → ∀ f ∈ p.fr i, insB p f (i % 5) = true ∧ tyAt p f = ((i / 5 : Nat) : Int)
  asc : ∀ i, i < 15 → List.Pairwise (· < ·) (p.fr i)
theorem lst_of {p : P} (hr : rngB p = true) (h : leA p 0 = 0) : Lst p := by
  refine ⟨hr, fun i hi f hf => ?_, fun i hi => (le1_val (leA_all 15 0 rfl h i (Nat.zero_le _) hi)).2.1⟩
  have := (le1_val (leA_all 15 0 rfl h i (Nat.zero_le _) hi)).1 f hf
  unfold bad at this
  simp at this
  exact this
theorem rng_of {p : P} (h : rngB p = true) : 0 ≤ p.st ∧ p.st % 16 = 0 ∧ 1 ≤ p.ty.length ∧ p.ty.length ≤ 16 ∧ p.st ≤ 256 - 16 * (p.ty.length : Int) ∧ ∀ t ∈ p.ty, 0 ≤ t ∧ t < 3 := by
  simp only [rngB, Bool.and_eq_true, decide_eq_true_eq, List.all_eq_true, kindB] at h
  exact ⟨h.1.1, h.1.2.1, h.1.2.2.1, h.1.2.2.2.1, h.1.2.2.2.2, h.2⟩
theorem ins_lt {p : P} (h : rngB p = true) {f : Int} {k : Nat} (hk : k < 5) (hi : insB p f k = true) : 0 ≤ f ∧ f + pw k ≤ p.st + 16 * (p.ty.length : Int) ∧ f + pw k ≤ 256 := by
  obtain ⟨r1, r2, r3, r4, r5, _⟩ := rng_of h
  obtain ⟨i1, i2, i3⟩ := ins_open hi
  rcases pw_cases (show k ≤ 4 by omega) with ⟨k1, k2⟩ | ⟨k1, k2⟩ | ⟨k1, k2⟩ | ⟨k1, k2⟩ | ⟨k1, k2⟩ <;> (rw [k2] at i3 ⊢; omega)
theorem asc_len : ∀ {l : List Int} {a : Int} {m : Nat}, List.Pairwise (· < ·) l → (∀ x ∈ l, a ≤ x ∧ x < a + m) → l.length ≤ m
  | [], _, _, _, _ => Nat.zero_le _
  | x :: r, a, 0, _, h => by have := h x (by simp); omega
  | x :: r, a, m + 1, hp, h => by
    rw [List.pairwise_cons] at hp
    have h0 := h x (by simp)
    have := asc_len (l := r) (a := a + 1) (m := m) hp.2 fun y hy => by
      have h1 := h y (by simp [hy]); have h2 := hp.1 y hy; omega
    simp only [List.length_cons]; omega
theorem Lst.len {p : P} (h : Lst p) {i : Nat} (hi : i < 15) : (p.fr i).length ≤ 256 := by
  refine asc_len (a := 0) (h.asc i hi) fun x hx => ?_
  have := ins_lt h.rng (k := i % 5) (by omega) (h.ins i hi x hx).1
  have := pw_pos (i % 5)
  omega
/-- What was seen so far, and what is still to be seen. -/
structure Sn (p : P) (C : List Int) (s : Bool) (R : List Int) (T : Bool) : Prop where
  d : dup (covA p 0) = dup (C ++ R)
  c : dup C = false
  s : stA p 0 = (s || T)
def stv (s : Bool) : Int := if s = true then 11 else 0
theorem covL_cons {k : Nat} {l : List Int} {j : Nat} {x : Int} (h : l[j]? = some x) : covL k (l.drop j) = cov x (2 ^ k) ++ covL k (l.drop (j + 1)) := by
  have hlt : j < l.length := by rw [List.getElem?_eq_some_iff] at h; obtain ⟨h, _⟩ := h; exact h
  rw [List.drop_eq_getElem_cons hlt]
  rw [List.getElem?_eq_getElem hlt] at h
  rw [Option.some.inj h]
  simp [covL]
theorem cov_step {x : Int} {q n : Nat} (h : q < n) : cov (x + q) (n - q) = (x + q) :: cov (x + ((q + 1 : Nat) : Int)) (n - (q + 1)) := by
  rw [show n - q = (n - (q + 1)) + 1 by omega]
  show (x + q) :: cov (x + q + 1) _ = _
  rw [show x + (q : Int) + 1 = x + ((q + 1 : Nat) : Int) by omega]
theorem dup_count : ∀ {l : List Int}, dup l = true ↔ ∃ x, 1 < l.count x
  | [] => by simp [dup]
  | y :: r => by
    unfold dup
    rw [Bool.or_eq_true, dup_count (l := r)]
    constructor
    · rintro (h | ⟨x, h⟩)
      · have h' : y ∈ r := by simpa using h
        exact ⟨y, by rw [List.count_cons_self]; have := List.count_pos_iff.2 h'; omega⟩
      · refine ⟨x, ?_⟩
        rw [List.count_cons]; omega
    · rintro ⟨x, h⟩
      by_cases hx : x = y
      · subst hx
        left
        rw [List.count_cons_self] at h
        have := List.count_pos_iff.1 (show 0 < r.count x by omega)
        simpa using this
      · right
        rw [List.count_cons_of_ne (Ne.symm hx)] at h
        exact ⟨x, h⟩
theorem dup_hit {C R : List Int} {x : Int} (h : C.contains x = true) : dup (C ++ x :: R) = true := by
  refine dup_count.2 ⟨x, ?_⟩
  have hm : x ∈ C := by simpa using h
  have := List.count_pos_iff.2 hm
  rw [List.count_append, List.count_cons_self]; omega
theorem dup_more {C : List Int} {x : Int} (h : dup C = false) (hx : C.contains x = false) : dup (C ++ [x]) = false := by
  cases hd : dup (C ++ [x]) with
  | false => rfl
  | true =>
    obtain ⟨y, hy⟩ := dup_count.1 hd
    rw [List.count_append, List.count_singleton] at hy
    by_cases hyx : x = y
    · subst hyx
      have hm : x ∉ C := by simpa using hx
      have := List.count_eq_zero.2 hm
      rw [this] at hy
      simp at hy
    · have e : ¬ (x == y) = true := by simpa using hyx
      rw [if_neg e] at hy
      have := dup_count.2 ⟨y, show 1 < C.count y by omega⟩
      rw [h] at this; cases this
end Go.Mob
namespace Go.Proofs.YtkiiifmofmbniaaDoor
open Go.RowKit Go.Over Go.Mob Go.Can Go.Seg Go.Grow
theorem idx_0 (s0 s1 s2 s3 s4 : Value) (W : World) : (Instr.index 23 (.agg #[s0, s1, s2, s3, s4]) (.int .i64 0)).run Tryd.prog W = .ok s0 W := by
  simp [Instr.index, run_underlying Tryd.underlying23, asIntOf, go_sem]
theorem idx_1 (s0 s1 s2 s3 s4 : Value) (W : World) : (Instr.index 23 (.agg #[s0, s1, s2, s3, s4]) (.int .i64 1)).run Tryd.prog W = .ok s1 W := by
  simp [Instr.index, run_underlying Tryd.underlying23, asIntOf, go_sem]
theorem idx_2 (s0 s1 s2 s3 s4 : Value) (W : World) : (Instr.index 23 (.agg #[s0, s1, s2, s3, s4]) (.int .i64 2)).run Tryd.prog W = .ok s2 W := by
  simp [Instr.index, run_underlying Tryd.underlying23, asIntOf, go_sem]
theorem idx_3 (s0 s1 s2 s3 s4 : Value) (W : World) : (Instr.index 23 (.agg #[s0, s1, s2, s3, s4]) (.int .i64 3)).run Tryd.prog W = .ok s3 W := by
  simp [Instr.index, run_underlying Tryd.underlying23, asIntOf, go_sem]
theorem idx_4 (s0 s1 s2 s3 s4 : Value) (W : World) : (Instr.index 23 (.agg #[s0, s1, s2, s3, s4]) (.int .i64 4)).run Tryd.prog W = .ok s4 W := by
  simp [Instr.index, run_underlying Tryd.underlying23, asIntOf, go_sem]
/-- The five lists of a type, loaded whole. -/
theorem PV.row {w : World} {cs : List Value} {p : P} (h : PV w cs p) {t : Nat} (ht : t < 3) :
    ∃ s0 s1 s2 s3 s4, (∀ W g, Blk W g 26 cs → W.cell? ⟨g, 2 + t * 5, none⟩ = some s0 ∧ W.cell? ⟨g, 2 + t * 5 + 1, none⟩ = some s1 ∧ W.cell? ⟨g, 2 + t * 5 + 2, none⟩ = some s2 ∧ W.cell? ⟨g, 2 + t * 5 + 3, none⟩ = some s3 ∧ W.cell? ⟨g, 2 + t * 5 + 4, none⟩ = some s4) ∧
      ∀ W, PV W cs p → ∀ k, k < 5 → ∃ a n c, (∀ W, (Instr.index 23 (.agg #[s0, s1, s2, s3, s4]) (.int .i64 (k : Nat))).run Tryd.prog W = .ok (.slice a n c) W) ∧ (p.fr (5 * t + k)).length = n ∧ n ≤ c ∧ c ≤ maxLen ∧ (a = none → c = 0) ∧ Ints W a (p.fr (5 * t + k)) := by
  obtain ⟨s0, h0, _⟩ := h.fr (5 * t + 0) (by omega)
  obtain ⟨s1, h1, _⟩ := h.fr (5 * t + 1) (by omega)
  obtain ⟨s2, h2, _⟩ := h.fr (5 * t + 2) (by omega)
  obtain ⟨s3, h3, _⟩ := h.fr (5 * t + 3) (by omega)
  obtain ⟨s4, h4, _⟩ := h.fr (5 * t + 4) (by omega)
  refine ⟨s0, s1, s2, s3, s4, fun W g hB => ?_, fun W hV k hk => ?_⟩
  · refine ⟨?_, ?_, ?_, ?_, ?_⟩ <;> rw [hB.cell] <;> first | (rw [← h0]; congr 1; omega) | (rw [← h1]; congr 1; omega) | (rw [← h2]; congr 1; omega) | (rw [← h3]; congr 1; omega) | (rw [← h4]; congr 1; omega)
  · rcases (show k = 0 ∨ k = 1 ∨ k = 2 ∨ k = 3 ∨ k = 4 by omega) with rfl | rfl | rfl | rfl | rfl
    · obtain ⟨v, q1, a, c, rfl, q2⟩ := hV.fr (5 * t + 0) (by omega)
      rw [h0] at q1
      cases q1
      exact ⟨a, _, c, fun W => idx_0 _ _ _ _ _ W, rfl, q2⟩
    · obtain ⟨v, q1, a, c, rfl, q2⟩ := hV.fr (5 * t + 1) (by omega)
      rw [h1] at q1
      cases q1
      exact ⟨a, _, c, fun W => idx_1 _ _ _ _ _ W, rfl, q2⟩
    · obtain ⟨v, q1, a, c, rfl, q2⟩ := hV.fr (5 * t + 2) (by omega)
      rw [h2] at q1
      cases q1
      exact ⟨a, _, c, fun W => idx_2 _ _ _ _ _ W, rfl, q2⟩
    · obtain ⟨v, q1, a, c, rfl, q2⟩ := hV.fr (5 * t + 3) (by omega)
      rw [h3] at q1
      cases q1
      exact ⟨a, _, c, fun W => idx_3 _ _ _ _ _ W, rfl, q2⟩
    · obtain ⟨v, q1, a, c, rfl, q2⟩ := hV.fr (5 * t + 4) (by omega)
      rw [h4] at q1
      cases q1
      exact ⟨a, _, c, fun W => idx_4 _ _ _ _ _ W, rfl, q2⟩
theorem wrap_pow {k : Nat} (h : k < 5) : wrap64 ((2 : Int) ^ k) = ((2 ^ k : Nat) : Int) := by
  rcases (show k = 0 ∨ k = 1 ∨ k = 2 ∨ k = 3 ∨ k = 4 by omega) with rfl | rfl | rfl | rfl | rfl <;> (unfold wrap64; decide)
theorem pow_le16 {k : Nat} (h : k < 5) : 2 ^ k ≤ 16 := by
  rcases (show k = 0 ∨ k = 1 ∨ k = 2 ∨ k = 3 ∨ k = 4 by omega) with rfl | rfl | rfl | rfl | rfl <;> decide
theorem any_step {l : List Int} {q : Int → Bool} {j : Nat} {x : Int} (h : l[j]? = some x) : (l.drop j).any q = (q x || (l.drop (j + 1)).any q) := by
  rw [drop_get h]; rfl
theorem xor_0 {x : Int} (h0 : 0 ≤ x) (h1 : x < 256) (h2 : x % 1 = 0) : bits BinOp.xor IntKind.i64 x 1 = bud 0 x := by
  have key : ∀ n : Fin 256, ((n.val : Nat) : Int) % 1 = 0 → bits BinOp.xor IntKind.i64 ((n.val : Nat) : Int) 1 = bud 0 ((n.val : Nat) : Int) := by decide +kernel
  have h := key ⟨x.toNat, by omega⟩
  rw [show ((x.toNat : Nat) : Int) = x by omega] at h
  exact h h2
theorem xor_1 {x : Int} (h0 : 0 ≤ x) (h1 : x < 256) (h2 : x % 2 = 0) : bits BinOp.xor IntKind.i64 x 2 = bud 1 x := by
  have key : ∀ n : Fin 256, ((n.val : Nat) : Int) % 2 = 0 → bits BinOp.xor IntKind.i64 ((n.val : Nat) : Int) 2 = bud 1 ((n.val : Nat) : Int) := by decide +kernel
  have h := key ⟨x.toNat, by omega⟩
  rw [show ((x.toNat : Nat) : Int) = x by omega] at h
  exact h h2
theorem xor_2 {x : Int} (h0 : 0 ≤ x) (h1 : x < 256) (h2 : x % 4 = 0) : bits BinOp.xor IntKind.i64 x 4 = bud 2 x := by
  have key : ∀ n : Fin 256, ((n.val : Nat) : Int) % 4 = 0 → bits BinOp.xor IntKind.i64 ((n.val : Nat) : Int) 4 = bud 2 ((n.val : Nat) : Int) := by decide +kernel
  have h := key ⟨x.toNat, by omega⟩
  rw [show ((x.toNat : Nat) : Int) = x by omega] at h
  exact h h2
theorem xor_3 {x : Int} (h0 : 0 ≤ x) (h1 : x < 256) (h2 : x % 8 = 0) : bits BinOp.xor IntKind.i64 x 8 = bud 3 x := by
  have key : ∀ n : Fin 256, ((n.val : Nat) : Int) % 8 = 0 → bits BinOp.xor IntKind.i64 ((n.val : Nat) : Int) 8 = bud 3 ((n.val : Nat) : Int) := by decide +kernel
  have h := key ⟨x.toNat, by omega⟩
  rw [show ((x.toNat : Nat) : Int) = x by omega] at h
  exact h h2
theorem xor_bud {k : Nat} (hk : k < 4) {x : Int} (h0 : 0 ≤ x) (h1 : x < 256) (h2 : x % pw k = 0) : bits BinOp.xor IntKind.i64 x ((2 ^ k : Nat) : Int) = bud k x := by
  rcases (show k = 0 ∨ k = 1 ∨ k = 2 ∨ k = 3 by omega) with rfl | rfl | rfl | rfl
  · exact xor_0 h0 h1 h2
  · exact xor_1 h0 h1 h2
  · exact xor_2 h0 h1 h2
  · exact xor_3 h0 h1 h2
def falses : Array Value := Array.replicate 256 (.bool false)
theorem zero_54 (W : World) : (zeroValue 54).run Tryd.prog W = .ok (.agg falses) W := by
  have h : (Tryd.prog.info? 54).map (fun i => i.zero) = some (some (.agg falses)) := by kernel_rfl
  cases hi : Tryd.prog.info? 54 with
  | none => rw [hi] at h; cases h
  | some i =>
    rw [hi] at h
    simp at h
    simp [zeroValue, typeInfo, hi, h, go_sem]
def markL (C : List Int) : List Value := (List.range 256).map fun (i : Nat) => .bool (C.contains (i : Int))
theorem markL_len (C : List Int) : (markL C).length = 256 := by simp [markL]
theorem markL_get (C : List Int) {i : Nat} (h : i < 256) : (markL C)[i]? = some (.bool (C.contains (i : Int))) := by simp [markL, h]
theorem markL_nil : falses = (markL []).toArray := by
  apply Array.ext'
  unfold falses
  rw [Array.toList_replicate]
  apply List.ext_getElem?
  intro k
  rcases Nat.lt_or_ge k 256 with hk | hk
  · rw [markL_get _ hk, List.getElem?_replicate, if_pos hk]; rfl
  · rw [List.getElem?_eq_none (by rw [List.length_replicate]; exact hk), List.getElem?_eq_none (by rw [markL_len]; exact hk)]
theorem markL_put (C : List Int) {i : Nat} : (markL C).set i (.bool true) = markL (C ++ [(i : Int)]) := by
  apply List.ext_getElem?
  intro k
  rcases Nat.lt_or_ge k 256 with hk | hk
  · rw [markL_get _ hk]
    by_cases hik : i = k
    · subst hik
      rw [List.getElem?_set_self (by rw [markL_len]; exact hk)]
      simp
    · rw [List.getElem?_set_ne hik, markL_get _ hk]
      have : ¬ (k : Int) = (i : Int) := by omega
      simp [this]
  · rw [List.getElem?_eq_none (by rw [List.length_set, markL_len]; exact hk), List.getElem?_eq_none (by rw [markL_len]; exact hk)]
theorem info26 : (Tryd.prog.info? 26).map (·.size) = some 17 := by kernel_rfl
section
variable {ops : Array Oper} {rest : List Oper} {d i : Nat} {ty : TypeId} {pos : String} {af : Array Edge} {a : Act} {w : World} {Q : Exit → Act → World → Prop} {g : Nat} {cs : List Value}
/-- Page blocks are loaded whole. -/
theorem ld (hx : a.eval (.tmp i) = .pointer (some ⟨g, 0, none⟩)) (hB : Blk w g 26 cs) (hl : cs.length = 17) (h : wpList Tryd.prog ops Q rest (a.put (some d) (.agg cs.toArray)) w) :
    wpList Tryd.prog ops Q ({ dst := some d, op := .load 26 (.tmp i), type := ty, pos := pos, after := af, guard := none } :: rest) a w :=
  wpList_load_row rfl 26 (.tmp i) rfl g hx 26 cs.toArray (0, 0) _ hB Tryd.underlying26 rfl (by rw [info26]; simp [hl]) h
theorem ldg {gd : Nat × Bool} (hw : Region.wanted { dst := some d, op := .load 26 (.tmp i), type := ty, pos := pos, after := af, guard := some gd } (yielded ops a.tmps) = true)
    (hx : a.eval (.tmp i) = .pointer (some ⟨g, 0, none⟩)) (hB : Blk w g 26 cs) (hl : cs.length = 17) (h : wpList Tryd.prog ops Q rest (a.put (some d) (.agg cs.toArray)) w) :
    wpList Tryd.prog ops Q ({ dst := some d, op := .load 26 (.tmp i), type := ty, pos := pos, after := af, guard := some gd } :: rest) a w := by
  refine wpList_step fun K hK => ?_
  simp only [hw, if_true]
  exact wp_load_row 26 (.tmp i) rfl g hx 26 cs.toArray (0, 0) _ hB Tryd.underlying26 rfl (by rw [info26]; simp [hl]) (hK _ _ h)
end
set_option maxRecDepth 100000 in set_option maxHeartbeats 3200000 in
theorem check_14 (v : Value) (p : P) (w : World) (H : Rpv w v p) : Calls Tryd.prog 14 #[v] w fun e w' => e = .returned (.int .i64 (chk p)) ∧ Below w.heap.size w w' := by
  obtain ⟨E, hE⟩ : ∃ E, chk p = E := ⟨_, rfl⟩
  rw [hE]
  rw [chk_eq] at hE
  have HE := Lib.hid hE
  clear hE
  obtain ⟨cs, rfl, hV⟩ := H
  have X0 := PX.new hV
  clear hV
  go_enter Tryd.func14, Tryd.ntmps14
  go_upto_region 1 with fail
  obtain ⟨w1, hw1⟩ : ∃ W, W = w.alloc (.cells cs.toArray 26) := ⟨_, rfl⟩
  have X1 : PX w w.heap.size cs p w1 := by rw [hw1]; exact X0
  rw [← hw1]
  obtain ⟨g, hg0⟩ : ∃ g, w.heap.size = g := ⟨_, rfl⟩
  rw [hg0] at X1 ⊢
  clear hw1 X0 hg0
  go_wp2_with ((with_reducible refine ld ?hx X1.x X1.v.len ?_); case hx => rfl)
  refine (ranges_32 _ p _ X1.rpv).mono ?_
  rintro e w2 ⟨rfl, b2⟩
  have X2 := X1.below b2
  clear X1 b2
  cases hr : rngB p with
  | false =>
    have HR := Lib.hid hr
    go_wp2
    go_ret
    refine ⟨ret_int ?_, X2.b⟩
    rw [← HE.out, if_pos HR.out]
  | true =>
  have HR := Lib.hid hr
  have HE2 := Lib.hid (show E = if leA p 0 ≠ 0 then leA p 0 else if dup (covA p 0) = true then 7 else if stA p 0 = true then 11 else 0 by rw [← HE.out, if_neg (by rw [HR.out]; decide)])
  clear hr HE
  go_wp2
  go_loopg [21] 3 (fun gg v21 wr => ∃ t : Nat, t + gg = 3 ∧ v21 = .int .i64 t ∧ leA p 0 = leA p (5 * t) ∧ PX w g cs p wr)
  case atStart => exact ⟨0, by omega, rfl, rfl, X2⟩
  case round =>
    clear X2
    obtain ⟨t, hg, rfl, hL, X3⟩ := hrel
    have HL := Lib.hid hL
    clear hL
    cases gk with
    | zero =>
      have ht3 : ¬ t < 3 := by omega
      have hl0 : leA p 0 = 0 := by rw [HL.out, show 5 * t = 15 by omega]; exact leA_end p
      have HV := Lib.hid (lst_of HR.out hl0)
      have HE3 := Lib.hid (show E = if dup (covA p 0) = true then 7 else if stA p 0 = true then 11 else 0 by rw [HE2.out, if_neg (by rw [hl0]; decide)])
      clear hg hl0 HL HE2
      obtain ⟨wb, rfl⟩ : ∃ W, W = wr := ⟨_, rfl⟩
      have HXB := Lib.hid X3
      have hz := zero_54
      have B4 := below_box wb (.cells falses 54)
      have S4 : Blk (wb.alloc (.cells falses 54)) wb.heap.size 54 (markL []) := Blk.new wb 54 falses _ markL_nil
      go_upto_region 20 with fail
      clear hz
      obtain ⟨w4, hw4⟩ : ∃ W, W = wb.alloc (.cells falses 54) := ⟨_, rfl⟩
      rw [← hw4] at B4 S4 ⊢
      obtain ⟨gs, hgs'⟩ : ∃ g, wb.heap.size = g := ⟨_, rfl⟩
      have hgs : wb.heap.size ≤ gs := by omega
      rw [hgs'] at S4 ⊢
      clear hw4 hgs' X3
      go_wp2
      go_loopg [9, 65] 3 (fun gg v9 v65 wi => ∃ (t : Nat) (C : List Int) (s : Bool), t + gg = 3 ∧ v9 = .int .i64 (stv s) ∧ v65 = .int .i64 t ∧ Sn p C s (covA p (5 * t)) (stA p (5 * t)) ∧ Below wb.heap.size wb wi ∧ Blk wi gs 54 (markL C))
      case atStart => exact ⟨0, [], false, by omega, rfl, rfl, ⟨rfl, rfl, rfl⟩, B4, S4⟩
      case round =>
        clear B4 S4
        obtain ⟨t, C, s, hg, rfl, rfl, hS, B5, S5⟩ := hrel
        have X5 := HXB.out.below B5
        cases gk with
        | zero =>
          have ht3 : ¬ t < 3 := by omega
          have HF := Lib.hid (show E = stv s by
            have h1 := hS.d; have h2 := hS.s
            rw [show 5 * t = 15 by omega, covA_end, List.append_nil, hS.c] at h1
            rw [show 5 * t = 15 by omega, stA_end, Bool.or_false] at h2
            rw [HE3.out, if_neg (by rw [h1]; decide), h2]; rfl)
          clear hg hS
          go_wp2
          go_ret
          exact ⟨ret_int HF.out.symm, X5.b⟩
        | succ gg =>
          have ht : t < 3 := by omega
          have HG := Lib.hid hg; have HS := Lib.hid hS
          clear hg hS
          obtain ⟨s0, s1, s2, s3, s4, hcl, hrow⟩ := X5.v.row ht
          obtain ⟨h0, h1, h2, h3, h4⟩ := hcl _ _ X5.x
          have HROW := Lib.hid hrow
          clear hrow hcl
          have tt : decide ((t : Int) < 3) = true := by simp; omega
          go_wp2
          go_loopg [9, 72] 5 (fun g2 v9 v72 wi => ∃ (k : Nat) (C : List Int) (s : Bool), k + g2 = 5 ∧ v9 = .int .i64 (stv s) ∧ v72 = .int .i64 k ∧ Sn p C s (covA p (5 * t + k)) (stA p (5 * t + k)) ∧ Below wb.heap.size wb wi ∧ Blk wi gs 54 (markL C))
          case atStart => exact ⟨0, C, s, by omega, rfl, rfl, HS.out, B5, S5⟩
          case round =>
            clear B5 X5 S5 h0 h1 h2 h3 h4 HS
            obtain ⟨k, C, s, hk, rfl, rfl, hS, B6, S6⟩ := hrel
            have X6 := HXB.out.below B6
            have HS := Lib.hid hS
            clear hS
            cases gk with
            | zero =>
              have HN := Lib.hid (show Sn p C s (covA p (5 * (t + 1))) (stA p (5 * (t + 1))) by have := HS.out; rwa [show 5 * t + k = 5 * (t + 1) by omega] at this)
              have hk5 : ¬ k < 5 := by omega
              clear hk
              go_wp2
              go_roundg gg
              case rel => exact ⟨t + 1, C, s, by have := HG.out; omega, rfl, by go_num, HN.out, B6, S6⟩
              case measure => omega
            | succ g2 =>
              have hk5 : k < 5 := by omega
              have HK := Lib.hid hk
              obtain ⟨a, n, c, hix, hn, hnc, hcm, _, hI⟩ := HROW.out _ HXB.out.v k hk5
              obtain ⟨l, hl⟩ : ∃ l, p.fr (5 * t + k) = l := ⟨_, rfl⟩
              rw [hl] at hn hI
              have hlen := HV.out.len (i := 5 * t + k) (by omega)
              have hasc := HV.out.asc (5 * t + k) (by omega)
              have hall := HV.out.ins (5 * t + k) (by omega)
              rw [hl] at hlen hasc hall
              have hn256 : n ≤ 256 := by omega
              rw [show (5 * t + k) % 5 = k by omega] at hall
              have HALL := Lib.hid hall; have HASC := Lib.hid hasc
              have HN := Lib.hid hn
              have HS2 := Lib.hid (show Sn p C s (covL k (l.drop 0) ++ covA p (5 * t + k + 1)) ((decide (k < 4) && (l.drop 0).any fun f => l.contains (bud k f)) || stA p (5 * t + k + 1)) by
                have := HS.out
                rw [covA_step (by omega), stA_step (by omega), hl, show (5 * t + k) % 5 = k by omega] at this
                exact this)
              clear hk hl hn hnc hcm hlen hasc hall HS
              have tk : decide ((k : Int) < 5) = true := by simp; omega
              go_wp2
              go_loopg [9, 78] n (fun g3 v9 v78 wj => ∃ (j : Nat) (C : List Int) (s : Bool), j + g3 = n ∧ v9 = .int .i64 (stv s) ∧ v78 = .int .i64 j ∧ Sn p C s (covL k (l.drop j) ++ covA p (5 * t + k + 1)) ((decide (k < 4) && (l.drop j).any fun f => l.contains (bud k f)) || stA p (5 * t + k + 1)) ∧ Below wb.heap.size wb wj ∧ Blk wj gs 54 (markL C))
              case atStart => exact ⟨0, C, s, by omega, rfl, rfl, HS2.out, B6, S6⟩
              case round =>
                clear B6 X6 S6 HS2
                obtain ⟨j, C, s, hj, rfl, rfl, hS, B7, S7⟩ := hrel
                have HS := Lib.hid hS
                clear hS
                cases gk with
                | zero =>
                  have HOK := Lib.hid (show Sn p C s (covA p (5 * t + (k + 1))) (stA p (5 * t + (k + 1))) by
                    have := HS.out
                    rw [List.drop_eq_nil_of_le (by rw [HN.out]; omega)] at this
                    rw [show covL k [] = [] from rfl, List.nil_append, List.any_nil, Bool.and_false, Bool.false_or] at this
                    exact this)
                  have hjn : ¬ j < n := by omega
                  clear hj
                  go_wp2
                  go_roundg g2
                  case rel => exact ⟨k + 1, C, s, by have := HK.out; omega, rfl, by go_num, HOK.out, B7, S7⟩
                  case measure => omega
                | succ g3 =>
                  have hjn : j < n := by omega
                  obtain ⟨x, hx⟩ := get_some HN.out hjn
                  have hin := (HALL.out x (List.mem_of_getElem? hx)).1
                  obtain ⟨z1, z2, z3⟩ := ins_lt HR.out hk5 hin
                  obtain ⟨b, off, rfl, _⟩ := hI.at hx
                  obtain ⟨_, _, hV, cx⟩ := (hI.below B7).at hx
                  cases hV
                  obtain ⟨m, hm⟩ : ∃ m, 2 ^ k = m := ⟨_, rfl⟩
                  have hwm : wrap64 ((2 : Int) ^ k) = (m : Int) := by rw [← hm]; exact wrap_pow hk5
                  have hm1 : x + (m : Int) ≤ 256 := by rw [← hm]; exact z3
                  have hm0 : 0 < m := by rw [← hm]; exact Nat.pow_pos (by decide)
                  have hm16 : m ≤ 16 := by rw [← hm]; exact pow_le16 hk5
                  have HS3 := Lib.hid (show Sn p C s (cov (x + ((0 : Nat) : Int)) (m - 0) ++ (covL k (l.drop (j + 1)) ++ covA p (5 * t + k + 1))) ((decide (k < 4) && (l.drop j).any fun f => l.contains (bud k f)) || stA p (5 * t + k + 1)) by
                    have := HS.out
                    rw [covL_cons hx, hm, List.append_assoc] at this
                    simpa using this)
                  have HX := Lib.hid hx; have HJ := Lib.hid hj; have HIN := Lib.hid hin; have HM := Lib.hid hm
                  clear hx hj hin z2 z3 hm HS
                  go_wp2
                  go_loopg [84] m (fun g4 v84 wq => ∃ (q : Nat) (C : List Int), q + g4 = m ∧ v84 = .int .i64 q ∧ Sn p C s (cov (x + (q : Int)) (m - q) ++ (covL k (l.drop (j + 1)) ++ covA p (5 * t + k + 1))) ((decide (k < 4) && (l.drop j).any fun f => l.contains (bud k f)) || stA p (5 * t + k + 1)) ∧ Below wb.heap.size wb wq ∧ Blk wq gs 54 (markL C))
                  case atStart => exact ⟨0, C, by omega, rfl, HS3.out, B7, S7⟩
                  case round =>
                    clear B7 S7 HS3 cx
                    obtain ⟨q, C, hq, rfl, hS, B8, S8⟩ := hrel
                    cases gk with
                    | zero =>
                      have hqm : ¬ q < m := by omega
                      have hS2 : Sn p C s (covL k (l.drop (j + 1)) ++ covA p (5 * t + k + 1)) ((decide (k < 4) && (l.contains (bud k x) || (l.drop (j + 1)).any fun f => l.contains (bud k f))) || stA p (5 * t + k + 1)) := by
                        have h := hS
                        rw [show m - q = 0 by omega, any_step HX.out] at h
                        exact h
                      have HS2 := Lib.hid hS2
                      clear hq hS hS2
                      by_cases hk4 : k < 4
                      · have tk4 : decide ((k : Int) < 4) = true := by simp; omega
                        have hxor : bits BinOp.xor IntKind.i64 x (m : Int) = bud k x := by rw [← HM.out]; exact xor_bud hk4 z1 (by omega) (ins_open HIN.out).2.2
                        have hse := search_35 (some ⟨b, off, none⟩) l n c (bud k x) wr (hI.below B8) HN.out (by omega) HASC.out
                        obtain ⟨ct, hct⟩ : ∃ r, l.contains (bud k x) = r := ⟨_, rfl⟩
                        rw [hct] at hse
                        obtain ⟨ps, hps⟩ : ∃ r, pos l (bud k x) = r := ⟨_, rfl⟩
                        rw [hps] at hse
                        have HS4 := Lib.hid (show Sn p C (s || ct) (covL k (l.drop (j + 1)) ++ covA p (5 * t + k + 1)) ((decide (k < 4) && ((l.drop (j + 1)).any fun f => l.contains (bud k f))) || stA p (5 * t + k + 1)) from
                          ⟨HS2.out.d, HS2.out.c, by have h := HS2.out.s; rw [hct, decide_eq_true hk4] at h; rw [h, decide_eq_true hk4]; cases s <;> cases ct <;> simp⟩)
                        have HSE := Lib.hid hse
                        clear hse hct hps HS2
                        go_wp2_with fail
                        refine HSE.out.mono ?_
                        rintro e w9 ⟨rfl, rfl⟩
                        cases ct with
                        | true =>
                          go_wp2
                          go_roundg g3
                          case rel => exact ⟨j + 1, C, true, by have := HJ.out; omega, rfl, by go_num, by have h := HS4.out; rw [Bool.or_true] at h; exact h, B8, S8⟩
                          case measure => omega
                        | false =>
                          go_wp2
                          go_roundg g3
                          case rel => exact ⟨j + 1, C, s, by have := HJ.out; omega, rfl, by go_num, by have h := HS4.out; rw [Bool.or_false] at h; exact h, B8, S8⟩
                          case measure => omega
                      · have tk4 : decide ((k : Int) < 4) = false := by simp; omega
                        have HS4 := Lib.hid (show Sn p C s (covL k (l.drop (j + 1)) ++ covA p (5 * t + k + 1)) ((decide (k < 4) && ((l.drop (j + 1)).any fun f => l.contains (bud k f))) || stA p (5 * t + k + 1)) from
                          ⟨HS2.out.d, HS2.out.c, by have h := HS2.out.s; rw [decide_eq_false hk4] at h; rw [h, decide_eq_false hk4]; simp⟩)
                        clear HS2
                        go_wp2
                        go_roundg g3
                        case rel => exact ⟨j + 1, C, s, by have := HJ.out; omega, rfl, by go_num, HS4.out, B8, S8⟩
                        case measure => omega
                    | succ g4 =>
                      have hqm : q < m := by omega
                      obtain ⟨y, hy⟩ : ∃ y : Nat, x + (q : Int) = (y : Int) := ⟨(x + q).toNat, by omega⟩
                      have hy256 : y < 256 := by omega
                      have c0 := S8.cell y
                      rw [markL_get C hy256] at c0
                      have cf := S8.frozen y
                      rw [cov_step hqm, hy] at hS
                      have HS := Lib.hid hS; have HQ := Lib.hid hq
                      clear hS hq
                      cases hc : C.contains (y : Int) with
                      | true =>
                        rw [hc] at c0
                        have HF := Lib.hid (show E = 7 by rw [HE3.out, if_pos (by rw [HS.out.d]; exact dup_hit hc)])
                        clear hc
                        go_wp2
                        go_ret
                        exact ⟨ret_int HF.out.symm, (HXB.out.below B8).b⟩
                      | false =>
                        rw [hc] at c0
                        have HS9 := Lib.hid (show Sn p (C ++ [(y : Int)]) s (cov (x + ((q + 1 : Nat) : Int)) (m - (q + 1)) ++ (covL k (l.drop (j + 1)) ++ covA p (5 * t + k + 1))) ((decide (k < 4) && (l.drop j).any fun f => l.contains (bud k f)) || stA p (5 * t + k + 1)) from ⟨by rw [HS.out.d]; simp, dup_more HS.out.c hc, HS.out.s⟩)
                        have S9 := S8.set y (.bool true)
                        rw [markL_put] at S9
                        have B9 := B8.setCell (p := ⟨gs, y, none⟩) hgs (.bool true)
                        clear hc B8 S8 HS
                        go_wp2
                        go_roundg g4
                        case rel => exact ⟨q + 1, _, by have := HQ.out; omega, by go_num, HS9.out, B9, S9⟩
                        case measure => omega
    | succ gg =>
      have ht : t < 3 := by omega
      have HG := Lib.hid hg
      clear hg
      obtain ⟨s0, s1, s2, s3, s4, hcl, hrow⟩ := X3.v.row ht
      obtain ⟨h0, h1, h2, h3, h4⟩ := hcl _ _ X3.x
      have HROW := Lib.hid hrow
      clear hrow hcl
      have tt : decide ((t : Int) < 3) = true := by simp; omega
      go_wp2
      go_loopg [28] 5 (fun g2 v28 wi => ∃ k : Nat, k + g2 = 5 ∧ v28 = .int .i64 k ∧ leA p 0 = leA p (5 * t + k) ∧ PX w g cs p wi)
      case atStart => exact ⟨0, by omega, rfl, HL.out, X3⟩
      case round =>
        clear X3 h0 h1 h2 h3 h4
        obtain ⟨k, hk, rfl, hLk, X4⟩ := hrel
        have HLK := Lib.hid hLk
        clear hLk
        cases gk with
        | zero =>
          have HN := Lib.hid (show leA p 0 = leA p (5 * (t + 1)) by rw [HLK.out]; congr 1; omega)
          have hk5 : ¬ k < 5 := by omega
          clear hk
          go_wp2
          go_roundg gg
          case rel => exact ⟨t + 1, by have := HG.out; omega, by go_num, HN.out, X4⟩
          case measure => omega
        | succ g2 =>
          have hk5 : k < 5 := by omega
          have HK := Lib.hid hk
          obtain ⟨a, n, c, hix, hn, hnc, hcm, _, hI⟩ := HROW.out _ X4.v k hk5
          unfold maxLen at hcm
          have hnm : n ≤ 9223372036854775807 := by omega
          obtain ⟨l, hl⟩ : ∃ l, p.fr (5 * t + k) = l := ⟨_, rfl⟩
          rw [hl] at hn hI
          have HLL := Lib.hid hl; have HN := Lib.hid hn
          clear hk hl hn hnc hcm
          have tk : decide ((k : Int) < 5) = true := by simp; omega
          go_wp2
          go_loopg [34] n (fun g3 v34 wj => ∃ j : Nat, j + g3 = n ∧ v34 = .int .i64 j ∧ le1 p (5 * t + k) false 0 l = le1 p (5 * t + k) (decide (0 < j)) (l.getD (j - 1) 0) (l.drop j) ∧ Ints wj a l ∧ PX w g cs p wj)
          case atStart => exact ⟨0, by omega, rfl, le1_start, hI, X4⟩
          case round =>
            clear X4 hI
            obtain ⟨j, hj, rfl, hle, hI, X5⟩ := hrel
            cases gk with
            | zero =>
              have HOK := Lib.hid (show leA p 0 = leA p (5 * t + (k + 1)) by
                rw [HLK.out, leA_ok (by omega) (by rw [HLL.out, hle]; exact le1_end (by rw [HN.out]; omega))]; rfl)
              have hjn : ¬ j < n := by omega
              clear hj hle
              go_wp2
              go_roundg g2
              case rel => exact ⟨k + 1, by have := HK.out; omega, by go_num, HOK.out, X5⟩
              case measure => omega
            | succ g3 =>
              have hjn : j < n := by omega
              obtain ⟨x, hx⟩ := get_some HN.out hjn
              have hst := hle.trans (le1_step hx)
              rw [bad_eq hk5] at hst
              have HST := Lib.hid hst
              obtain ⟨b, off, rfl, cx⟩ := hI.at hx
              have HX := Lib.hid hx; have HJ := Lib.hid hj
              clear hle hst hx hj
              have hbad : ∀ r, le1 p (5 * t + k) false 0 l = r → r ≠ 0 → E = r := fun r h1 h2 => by
                have h3 : le1 p (5 * t + k) false 0 (p.fr (5 * t + k)) ≠ 0 := by rw [HLL.out, h1]; exact h2
                have h4 := HLK.out.trans (leA_bad (by omega) h3)
                rw [HE2.out, if_pos (by rw [h4]; exact h3), h4, HLL.out, h1]
              have HBAD := Lib.hid hbad
              clear hbad
              go_wp2_with ((with_reducible refine ld ?hx X5.x X5.v.len ?_); case hx => rfl)
              refine (inside_33 _ p x k hk5 _ X5.rpv HR.out).mono ?_
              rintro e w6 ⟨rfl, b6⟩
              have X6 := X5.below b6
              have hI6 := hI.below b6
              have cx6 := cell_later b6 cx
              cases hin : insB p x k with
              | false =>
                have HF := Lib.hid (HBAD.out 3 (by rw [HST.out, hin]; rfl) (by decide))
                clear X5 hI b6 cx hin
                go_wp2
                go_ret
                exact ⟨ret_int HF.out.symm, X6.b⟩
              | true =>
                obtain ⟨i1, i2, _⟩ := ins_open hin
                have HST2 := Lib.hid (show le1 p (5 * t + k) false 0 l = if decide (tyAt p x ≠ (t : Int)) = true then 3 else if 0 < j ∧ x ≤ l.getD (j - 1) 0 then 10 else le1 p (5 * t + k) (decide (0 < j + 1)) (l.getD (j + 1 - 1) 0) (l.drop (j + 1)) by rw [HST.out, hin]; rfl)
                clear X5 hI b6 cx hin HST
                go_wp2_with first | ((with_reducible refine ld ?hx X6.x X6.v.len ?_); case hx => rfl) | ((with_reducible refine ldg ?_ ?_ X6.x X6.v.len ?_); (focus rfl); (focus rfl))
                refine (type_34 _ p x _ X6.rpv HR.out i1 i2).mono ?_
                rintro e w7 ⟨rfl, b7⟩
                have X7 := X6.below b7
                have hI7 := hI6.below b7
                clear X6 hI6 cx6 b7 i1 i2
                by_cases hty : tyAt p x = (t : Int)
                · have ta : (tyAt p x != (t : Int)) = false := by simpa using hty
                  have HST3 := Lib.hid (show le1 p (5 * t + k) false 0 l = if 0 < j ∧ x ≤ l.getD (j - 1) 0 then 10 else le1 p (5 * t + k) (decide (0 < j + 1)) (l.getD (j + 1 - 1) 0) (l.drop (j + 1)) by rw [HST2.out, decide_eq_false (by simpa using hty)]; rfl)
                  clear HST2 hty
                  by_cases hj0 : j = 0
                  · subst hj0
                    go_wp2
                    go_roundg g3
                    case rel => exact ⟨0 + 1, by have := HJ.out; omega, by go_num, by have h := HST3.out; rw [if_neg (by omega)] at h; exact h, hI7, X7⟩
                    case measure => omega
                  · have hjp : 0 < j := by omega
                    obtain ⟨j', rfl⟩ : ∃ j', j = j' + 1 := ⟨j - 1, by omega⟩
                    obtain ⟨y, hy⟩ := get_some HN.out (show j' < n by omega)
                    obtain ⟨_, _, hV, cy⟩ := hI7.at hy
                    cases hV
                    have HY := Lib.hid (show l.getD (j' + 1 - 1) 0 = y by rw [Nat.add_sub_cancel, List.getD_eq_getElem?_getD, hy]; rfl)
                    have ej : ((j' + 1 : Nat) : Int) - 1 = (j' : Int) := by omega
                    clear hy
                    by_cases hyx : x ≤ y
                    · have HF := Lib.hid (HBAD.out 10 (by rw [HST3.out, if_pos ⟨hjp, by rw [HY.out]; exact hyx⟩]) (by decide))
                      go_wp2
                      go_ret
                      exact ⟨ret_int HF.out.symm, X7.b⟩
                    · go_wp2
                      go_roundg g3
                      case rel => exact ⟨j' + 1 + 1, by have := HJ.out; omega, by go_num, by have h := HST3.out; rw [if_neg (by rw [HY.out]; omega)] at h; exact h, hI7, X7⟩
                      case measure => omega
                · have ta : (tyAt p x != (t : Int)) = true := by simpa using hty
                  have HF := Lib.hid (HBAD.out 3 (by rw [HST2.out, decide_eq_true (by simpa using hty)]; rfl) (by decide))
                  go_wp2
                  go_ret
                  exact ⟨ret_int HF.out.symm, X7.b⟩
end Go.Proofs.YtkiiifmofmbniaaDoor
