/- The plain mathematics of devices: their first errors. -/
namespace Go.Dev
abbrev Ca := Int × List Int
/-- A request: its number, kind, block and data. -/
abbrev Rq := Int × Int × Int × List Int
structure D where
  dp : Int
  nx : Int
  bl : List (List Int)
  ca : List Ca
  qu : List Rq
def blE : List (List Int) → Int
  | [] => 0
  | b :: r => if b.length ≠ 32 then 3 else blE r
def caE (nb : Int) : Int → List Ca → Int
  | _, [] => 0
  | p, c :: r => if c.1 ≤ p ∨ nb ≤ c.1 then 10 else caE nb c.1 r
def cdE : List Ca → Int
  | [] => 0
  | c :: r => if c.2.length ≠ 32 then 3 else cdE r
def rqE (nb k b : Int) (n : Nat) : Int :=
  if k = 1 ∨ k = 2 then (if b < 0 ∨ nb ≤ b then 2 else if (k = 2 ∧ n ≠ 32) ∨ (k ≠ 2 ∧ n ≠ 0) then 3 else 0)
  else if k = 3 then (if b ≠ 0 then 2 else if n ≠ 0 then 3 else 0) else 1
def quE (nb nx : Int) : Int → List Rq → Int
  | _, [] => 0
  | p, q :: r => if rqE nb q.2.1 q.2.2.1 q.2.2.2.length ≠ 0 then rqE nb q.2.1 q.2.2.1 q.2.2.2.length else if q.1 ≤ p ∨ nx ≤ q.1 then 10 else quE nb nx q.1 r
def rng (d : D) : Bool := decide (1 ≤ d.dp ∧ d.dp ≤ 16 ∧ 0 ≤ d.nx ∧ d.nx ≤ 1099511627776 ∧ 1 ≤ d.bl.length ∧ d.bl.length ≤ 256)
def chk (d : D) : Int :=
  if rng d = false then 2 else if blE d.bl ≠ 0 then blE d.bl else if caE d.bl.length (-1) d.ca ≠ 0 then caE d.bl.length (-1) d.ca
  else if cdE d.ca ≠ 0 then cdE d.ca else if d.dp < d.qu.length then 8 else quE d.bl.length d.nx (-1) d.qu
theorem drop_get {α : Type} {l : List α} {i : Nat} {s : α} (h : l[i]? = some s) : l.drop i = s :: l.drop (i + 1) := by
  have hlt : i < l.length := by rw [List.getElem?_eq_some_iff] at h; obtain ⟨h, _⟩ := h; exact h
  rw [List.drop_eq_getElem_cons hlt]
  rw [List.getElem?_eq_getElem hlt] at h
  rw [Option.some.inj h]
theorem get_some {α : Type} {l : List α} {i n : Nat} (hn : l.length = n) (h : i < n) : ∃ s, l[i]? = some s := ⟨l[i]'(by omega), List.getElem?_eq_getElem (by omega)⟩
theorem blE_step {l : List (List Int)} {i : Nat} {b : List Int} (h : l[i]? = some b) : blE (l.drop i) = if b.length ≠ 32 then 3 else blE (l.drop (i + 1)) := by
  rw [drop_get h]; rfl
theorem cdE_step {l : List Ca} {i : Nat} {c : Ca} (h : l[i]? = some c) : cdE (l.drop i) = if c.2.length ≠ 32 then 3 else cdE (l.drop (i + 1)) := by
  rw [drop_get h]; rfl
theorem caE_step {nb p : Int} {l : List Ca} {i : Nat} {c : Ca} (h : l[i]? = some c) : caE nb p (l.drop i) = if c.1 ≤ p ∨ nb ≤ c.1 then 10 else caE nb c.1 (l.drop (i + 1)) := by
  rw [drop_get h]; rfl
theorem quE_step {nb nx p : Int} {l : List Rq} {i : Nat} {q : Rq} (h : l[i]? = some q) : quE nb nx p (l.drop i) = if rqE nb q.2.1 q.2.2.1 q.2.2.2.length ≠ 0 then rqE nb q.2.1 q.2.2.1 q.2.2.2.length else if q.1 ≤ p ∨ nx ≤ q.1 then 10 else quE nb nx q.1 (l.drop (i + 1)) := by
  rw [drop_get h]; rfl
theorem chk_rng {d : D} (h : rng d = false) : chk d = 2 := by unfold chk; rw [if_pos h]
theorem chk_bl {d : D} (h : rng d = true) (h1 : blE d.bl ≠ 0) : chk d = blE d.bl := by unfold chk; rw [if_neg (by simp [h]), if_pos h1]
theorem chk_ca {d : D} (h : rng d = true) (h1 : blE d.bl = 0) (h2 : caE d.bl.length (-1) d.ca ≠ 0) : chk d = caE d.bl.length (-1) d.ca := by unfold chk; rw [if_neg (by simp [h]), if_neg (by simp [h1]), if_pos h2]
theorem chk_cd {d : D} (h : rng d = true) (h1 : blE d.bl = 0) (h2 : caE d.bl.length (-1) d.ca = 0) (h3 : cdE d.ca ≠ 0) : chk d = cdE d.ca := by unfold chk; rw [if_neg (by simp [h]), if_neg (by simp [h1]), if_neg (by simp [h2]), if_pos h3]
theorem chk_full {d : D} (h : rng d = true) (h1 : blE d.bl = 0) (h2 : caE d.bl.length (-1) d.ca = 0) (h3 : cdE d.ca = 0) (h4 : d.dp < d.qu.length) : chk d = 8 := by unfold chk; rw [if_neg (by simp [h]), if_neg (by simp [h1]), if_neg (by simp [h2]), if_neg (by simp [h3]), if_pos h4]
theorem chk_qu {d : D} (h : rng d = true) (h1 : blE d.bl = 0) (h2 : caE d.bl.length (-1) d.ca = 0) (h3 : cdE d.ca = 0) (h4 : ¬ d.dp < d.qu.length) : chk d = quE d.bl.length d.nx (-1) d.qu := by unfold chk; rw [if_neg (by simp [h]), if_neg (by simp [h1]), if_neg (by simp [h2]), if_neg (by simp [h3]), if_neg h4]
end Go.Dev
