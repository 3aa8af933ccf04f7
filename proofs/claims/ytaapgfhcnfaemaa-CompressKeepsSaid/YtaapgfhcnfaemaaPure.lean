/- The plain mathematics of the encodings: what both programs compute, and that decoding undoes encoding. -/
namespace Go.Zip

/-- The first place, up to the fuel, where p is false. -/
def firstNot (p : Nat → Bool) : Nat → Nat
  | 0 => 0
  | f + 1 => if p 0 then firstNot (fun m => p (m + 1)) f + 1 else 0
theorem firstNot_eq : ∀ (fuel n : Nat) (p : Nat → Bool), (∀ m, m < n → p m = true) → p n = false → n ≤ fuel → firstNot p fuel = n
  | 0, n, p, _, _, hf => by
    obtain rfl : n = 0 := by omega
    rfl
  | f + 1, 0, p, _, hn, _ => by simp [firstNot, hn]
  | f + 1, n + 1, p, h, hn, hf => by
    have h0 := h 0 (by omega)
    have := firstNot_eq f n (fun m => p (m + 1)) (fun m hm => h (m + 1) (by omega)) hn (by omega)
    simp [firstNot, h0, this]
theorem firstNot_yes : ∀ (fuel : Nat) (p : Nat → Bool) (m : Nat), m < firstNot p fuel → p m = true
  | 0, p, m, h => by simp [firstNot] at h
  | f + 1, p, m, h => by
    unfold firstNot at h
    split at h
    · rename_i h0
      cases m with
      | zero => exact h0
      | succ m => exact firstNot_yes f (fun m => p (m + 1)) m (by omega)
    · omega
theorem firstNot_no : ∀ (fuel : Nat) (p : Nat → Bool), p fuel = false → p (firstNot p fuel) = false ∧ firstNot p fuel ≤ fuel
  | 0, p, h => by simpa [firstNot] using h
  | f + 1, p, h => by
    unfold firstNot
    split
    · have := firstNot_no f (fun m => p (m + 1)) h
      exact ⟨this.1, by omega⟩
    · rename_i h0
      exact ⟨by simpa using h0, by omega⟩

/-- The byte at a place. -/
def get (l : List Int) (i : Nat) : Int := l.getD i 0
theorem get_lt {l : List Int} {i : Nat} (h : i < l.length) : get l i = l[i] := by simp [get, h]
theorem take_succ {l : List Int} {i : Nat} (h : i < l.length) : l.take (i + 1) = l.take i ++ [get l i] := by
  rw [List.take_succ_eq_append_getElem h, get_lt h]
/-- What takes the bytes of a piece one by one has taken the piece. -/
theorem take_add_of {l r : List Int} {i n : Nat} (hr : r.length = n) (hn : i + n ≤ l.length) (h : ∀ m, m < n → r.getD m 0 = get l (i + m)) : l.take (i + n) = l.take i ++ r := by
  apply List.ext_getElem
  · simp; omega
  · intro j h1 h2
    simp at h1
    by_cases hj : j < i
    · rw [List.getElem_append_left (by simp; omega)]; simp
    · have hm := h (j - i) (by omega)
      rw [get_lt (by omega)] at hm
      rw [List.getElem_append_right (by simp; omega)]
      have e : i + (j - i) = j := by omega
      simp only [e] at hm
      simp only [List.getElem_take, List.length_take]
      rw [← hm]
      have : j - min i l.length < r.length := by omega
      rw [List.getD_eq_getElem?_getD]
      have e2 : min i l.length = i := by omega
      simp [e2, show j - i < r.length by omega]

/-! ### Runs -/
def runP (l : List Int) (i m : Nat) : Bool := decide (i + 1 + m < l.length) && (get l (i + 1 + m) == get l i)
/-- How many bytes from place i on are equal to the one there. -/
def runLen (l : List Int) (i : Nat) : Nat := firstNot (runP l i) l.length + 1
def runsL (l : List Int) : Nat → Nat → List Int
  | 0, _ => []
  | f + 1, i => if i < l.length then (runLen l i : Int) :: get l i :: runsL l f (i + runLen l i) else []
theorem runLen_pos (l : List Int) (i : Nat) : 1 ≤ runLen l i := by unfold runLen; omega
theorem runLen_eq {l : List Int} {i n : Nat} (h : ∀ m, m < n → runP l i m = true) (hn : runP l i n = false) (hl : n ≤ l.length) : runLen l i = n + 1 := by
  unfold runLen; rw [firstNot_eq _ _ _ h hn hl]
theorem runLen_le {l : List Int} {i : Nat} (h : i < l.length) : i + runLen l i ≤ l.length := by
  unfold runLen
  by_cases h0 : firstNot (runP l i) l.length = 0
  · omega
  · have := firstNot_yes l.length (runP l i) (firstNot (runP l i) l.length - 1) (by omega)
    simp only [runP, Bool.and_eq_true, decide_eq_true_eq] at this
    omega
theorem runLen_get {l : List Int} {i m : Nat} (h : m < runLen l i) : get l (i + m) = get l i := by
  cases m with
  | zero => rfl
  | succ m =>
    have := firstNot_yes l.length (runP l i) m (by unfold runLen at h; omega)
    simp only [runP, Bool.and_eq_true, beq_iff_eq] at this
    rw [show i + (m + 1) = i + 1 + m by omega]
    exact this.2

/-- Decoding pairs. -/
def UR : List Int → List Int → Option (List Int)
  | [], out => some out
  | [_], _ => none
  | n :: v :: rest, out => if n < 1 ∨ n > 32 - (out.length : Int) then none else UR rest (out ++ List.replicate n.toNat v)
theorem UR_runs {l : List Int} (hl : l.length = 32) : ∀ (f i : Nat), i ≤ 32 → 32 ≤ i + f → UR (runsL l f i) (l.take i) = some l
  | 0, i, h1, h2 => by
    obtain rfl : i = 32 := by omega
    simp [runsL, UR, ← hl]
  | f + 1, i, h1, h2 => by
    unfold runsL
    by_cases hi : i < l.length
    · rw [if_pos hi]
      have h3 := runLen_le hi
      have h4 := runLen_pos l i
      unfold UR
      rw [if_neg]
      · have e : l.take i ++ List.replicate ((runLen l i : Int)).toNat (get l i) = l.take (i + runLen l i) := by
          refine (take_add_of (by simp) h3 ?_).symm
          intro m hm
          rw [runLen_get hm]
          simp [hm]
        rw [e]
        exact UR_runs hl f _ (by omega) (by omega)
      · simp only [List.length_take]
        omega
    · rw [if_neg hi]
      obtain rfl : i = 32 := by omega
      simp [UR, ← hl]

/-! ### Matches -/
def lenP (l : List Int) (i o m : Nat) : Bool := decide (i + m < l.length) && (get l (i + m) == get l (i + m - o))
def lenAt (l : List Int) (i o : Nat) : Nat := firstNot (lenP l i o) l.length
/-- The best match among the offsets up to o: its length and its offset. -/
def best (l : List Int) (i : Nat) : Nat → Nat × Nat
  | 0 => (0, 0)
  | o + 1 => if (best l i o).1 < lenAt l i (o + 1) then (lenAt l i (o + 1), o + 1) else best l i o
def matchL (l : List Int) (i : Nat) : Nat × Nat := best l i i
def lits (l : List Int) (a b : Nat) : List Int := if a < b then (((b - a - 1 : Nat) : Int)) :: (l.drop a).take (b - a) else []
def matL (l : List Int) : Nat → Nat → Nat → List Int
  | 0, _, _ => []
  | f + 1, i, a =>
    if i < l.length then
      if (matchL l i).1 < 3 then matL l f (i + 1) a
      else lits l a i ++ (((matchL l i).1 + 29 : Nat) : Int) :: (((matchL l i).2 : Nat) : Int) :: matL l f (i + (matchL l i).1) (i + (matchL l i).1)
    else lits l a l.length
theorem lenAt_le {l : List Int} {i o : Nat} (h : i ≤ l.length) : i + lenAt l i o ≤ l.length := by
  unfold lenAt
  by_cases h0 : firstNot (lenP l i o) l.length = 0
  · omega
  · have := firstNot_yes l.length (lenP l i o) (firstNot (lenP l i o) l.length - 1) (by omega)
    simp only [lenP, Bool.and_eq_true, decide_eq_true_eq] at this
    omega
theorem lenAt_get {l : List Int} {i o m : Nat} (h : m < lenAt l i o) : get l (i + m) = get l (i + m - o) := by
  have := firstNot_yes l.length (lenP l i o) m h
  simp only [lenP, Bool.and_eq_true, beq_iff_eq] at this
  exact this.2
theorem lenAt_eq {l : List Int} {i o n : Nat} (h : ∀ m, m < n → lenP l i o m = true) (hn : lenP l i o n = false) (hl : n ≤ l.length) : lenAt l i o = n := firstNot_eq _ _ _ h hn hl
theorem best_ok (l : List Int) (i : Nat) : ∀ o, (best l i o).1 = 0 ∨ (1 ≤ (best l i o).2 ∧ (best l i o).2 ≤ o ∧ (best l i o).1 = lenAt l i (best l i o).2)
  | 0 => .inl rfl
  | o + 1 => by
    unfold best
    split
    · exact .inr ⟨by simp, by simp, rfl⟩
    · rcases best_ok l i o with h | ⟨h1, h2, h3⟩
      · exact .inl h
      · exact .inr ⟨h1, by omega, h3⟩
theorem matchL_ok {l : List Int} {i : Nat} (h : ¬ (matchL l i).1 < 3) : 1 ≤ (matchL l i).2 ∧ (matchL l i).2 ≤ i ∧ (matchL l i).1 = lenAt l i (matchL l i).2 := by
  rcases best_ok l i i with h0 | h0
  · unfold matchL at h; omega
  · exact h0
theorem matchL_le {l : List Int} {i : Nat} (hi : i ≤ l.length) : i + (matchL l i).1 ≤ l.length := by
  rcases best_ok l i i with h0 | ⟨_, _, h0⟩
  · unfold matchL; omega
  · unfold matchL; rw [h0]; exact lenAt_le hi

/-- n bytes more, each the one o places before it. -/
def copyN (out : List Int) (o : Nat) : Nat → List Int
  | 0 => out
  | n + 1 => copyN (out ++ [get out (out.length - o)]) o n
theorem copyN_length (o : Nat) : ∀ (n : Nat) (out : List Int), (copyN out o n).length = out.length + n
  | 0, out => rfl
  | n + 1, out => by simp [copyN, copyN_length o n]; omega
theorem get_take {l : List Int} {i j : Nat} (h : j < i) (hi : i ≤ l.length) : get (l.take i) j = get l j := by
  simp [get, h, show j < l.length by omega]
theorem copyN_match {l : List Int} {i o : Nat} (ho : 1 ≤ o) (hoi : o ≤ i) : ∀ (n : Nat), i + n ≤ l.length → ∀ (k : Nat), (∀ m, m < k + n → get l (i + m) = get l (i + m - o)) → i + k + n ≤ l.length → copyN (l.take (i + k)) o n = l.take (i + k + n)
  | 0, _, k, _, _ => rfl
  | n + 1, h, k, hm, hk => by
    have h1 := hm k (by omega)
    unfold copyN
    have e : l.take (i + k) ++ [get (l.take (i + k)) ((l.take (i + k)).length - o)] = l.take (i + (k + 1)) := by
      rw [show i + (k + 1) = (i + k) + 1 by omega, take_succ (by omega)]
      rw [List.length_take, show min (i + k) l.length = i + k by omega, get_take (by omega) (by omega), h1]
    rw [e, copyN_match ho hoi n (by omega) (k + 1) (fun m hm' => hm m (by omega)) (by omega)]
    congr 1; omega

/-- Decoding tokens. -/
def UM : Nat → List Int → List Int → Option (List Int)
  | 0, _, _ => none
  | f + 1, d, out =>
    if out.length < 32 then
      if d.length < 2 ∨ get d 0 > 61 then none
      else if get d 0 ≤ 31 then
        if get d 0 + 1 > 32 - (out.length : Int) ∨ get d 0 + 1 > (d.length : Int) - 1 then none
        else UM f (d.drop ((get d 0).toNat + 2)) (out ++ (d.drop 1).take ((get d 0).toNat + 1))
      else if get d 1 < 1 ∨ get d 1 > (out.length : Int) ∨ get d 0 - 29 > 32 - (out.length : Int) then none
      else UM f (d.drop 2) (copyN out (get d 1).toNat (get d 0 - 29).toNat)
    else if d.length = 0 then some out else none
theorem UM_succ (f : Nat) (d out : List Int) : UM (f + 1) d out = (
    if out.length < 32 then
      if d.length < 2 ∨ get d 0 > 61 then none
      else if get d 0 ≤ 31 then
        if get d 0 + 1 > 32 - (out.length : Int) ∨ get d 0 + 1 > (d.length : Int) - 1 then none
        else UM f (d.drop ((get d 0).toNat + 2)) (out ++ (d.drop 1).take ((get d 0).toNat + 1))
      else if get d 1 < 1 ∨ get d 1 > (out.length : Int) ∨ get d 0 - 29 > 32 - (out.length : Int) then none
      else UM f (d.drop 2) (copyN out (get d 1).toNat (get d 0 - 29).toNat)
    else if d.length = 0 then some out else none) := rfl
theorem drop_take_of {l : List Int} {a b : Nat} (h : a ≤ b) : l.take a ++ (l.drop a).take (b - a) = l.take b := by
  rw [show b = a + (b - a) by omega, List.take_add]; simp
theorem UM_lits {l : List Int} (hl : l.length = 32) {a b f : Nat} {rest : List Int} (hab : a < b) (hb : b ≤ 32) :
    UM (f + 1) (lits l a b ++ rest) (l.take a) = UM f rest (l.take b) := by
  have hlen : ((l.drop a).take (b - a)).length = b - a := by simp; omega
  unfold lits
  rw [if_pos hab]
  generalize hX : (l.drop a).take (b - a) = X at hlen
  have hout : (l.take a).length = a := by simp; omega
  rw [UM_succ, hout, if_pos (by omega)]
  have g0 : get ((((b - a - 1 : Nat) : Int)) :: X ++ rest) 0 = ((b - a - 1 : Nat) : Int) := rfl
  rw [g0]
  rw [if_neg (by simp; omega), if_pos (by omega), if_neg (by simp; omega)]
  have e1 : ((((b - a - 1 : Nat) : Int)) :: X ++ rest).drop ((((b - a - 1 : Nat) : Int)).toNat + 2) = rest := by
    rw [show (((b - a - 1 : Nat) : Int)).toNat + 2 = (b - a) + 1 by omega]
    simp [← hlen]
  have e2 : ((((((b - a - 1 : Nat) : Int)) :: X ++ rest).drop 1)).take ((((b - a - 1 : Nat) : Int)).toNat + 1) = X := by
    rw [show (((b - a - 1 : Nat) : Int)).toNat + 1 = b - a by omega]
    simp [← hlen]
  rw [e1, e2, ← hX, drop_take_of (by omega)]
theorem UM_match {l : List Int} (hl : l.length = 32) {i f : Nat} {rest : List Int} (hi : i < 32) (hm : ¬ (matchL l i).1 < 3) :
    UM (f + 1) ((((matchL l i).1 + 29 : Nat) : Int) :: (((matchL l i).2 : Nat) : Int) :: rest) (l.take i) = UM f rest (l.take (i + (matchL l i).1)) := by
  obtain ⟨h1, h2, h3⟩ := matchL_ok hm
  have h4 := matchL_le (l := l) (i := i) (by omega)
  generalize (matchL l i).1 = n at *
  generalize (matchL l i).2 = o at *
  have hout : (l.take i).length = i := by simp; omega
  rw [UM_succ, hout, if_pos (by omega)]
  have g0 : get ((((n + 29 : Nat) : Int)) :: (o : Int) :: rest) 0 = ((n + 29 : Nat) : Int) := rfl
  have g1 : get ((((n + 29 : Nat) : Int)) :: (o : Int) :: rest) 1 = (o : Int) := rfl
  rw [g0, g1]
  rw [if_neg (by simp; omega), if_neg (by omega), if_neg (by omega)]
  have e := copyN_match (l := l) h1 h2 n h4 0 (fun m hm' => lenAt_get (by omega)) (by omega)
  simp only [Nat.add_zero] at e
  rw [show ((o : Int)).toNat = o by omega, show (((n + 29 : Nat) : Int) - 29).toNat = n by omega, e]
  rfl
theorem UM_mat {l : List Int} (hl : l.length = 32) : ∀ (f i a g : Nat), a ≤ i → i ≤ 32 → 33 ≤ i + f → 65 ≤ 2 * a + g → UM g (matL l f i a) (l.take a) = some l
  | 0, i, a, g, _, _, h, _ => by omega
  | f + 1, i, a, g, h1, h2, h3, h4 => by
    unfold matL
    by_cases hi : i < l.length
    · rw [if_pos hi]
      by_cases hm : (matchL l i).1 < 3
      · rw [if_pos hm]
        exact UM_mat hl f (i + 1) a g (by omega) (by omega) (by omega) h4
      · rw [if_neg hm]
        have h5 := matchL_le (l := l) (i := i) (by omega)
        obtain ⟨g, rfl⟩ : ∃ k, g = k + 2 := ⟨g - 2, by omega⟩
        by_cases ha : a < i
        · rw [UM_lits hl ha (by omega), UM_match hl (by omega) hm]
          exact UM_mat hl f _ _ g (by omega) (by omega) (by omega) (by omega)
        · obtain rfl : a = i := by omega
          rw [show lits l a a = [] by simp [lits], List.nil_append, UM_match hl (by omega) hm]
          exact UM_mat hl f _ _ (g + 1) (by omega) (by omega) (by omega) (by omega)
    · rw [if_neg hi]
      have key : ∀ k, UM (k + 1) [] l = some l := by
        intro k; rw [UM_succ, if_neg (by omega)]; simp
      by_cases ha : a < l.length
      · obtain ⟨g, rfl⟩ : ∃ k, g = k + 2 := ⟨g - 2, by omega⟩
        rw [← List.append_nil (lits l a l.length), UM_lits hl ha (by omega), List.take_length]
        exact key g
      · rw [show lits l a l.length = [] by simp [lits, ha], show l.take a = l from List.take_of_length_le (by omega)]
        obtain ⟨g, rfl⟩ : ∃ k, g = k + 1 := ⟨g - 1, by omega⟩
        exact key g
end Go.Zip
