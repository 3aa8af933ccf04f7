/- The plain mathematics of devices: what a submission, a completion and a crash give. -/
import Derived.Test.YtlhbjmoncdljoaaP2
namespace Go.Dev
def zq : Rq := (0, 0, 0, [])
def subD (d : D) (k b : Int) (s : List Int) : D × Int × Int :=
  if chk d ≠ 0 then (zero, 0, chk d) else if rqE d.bl.length k b s.length ≠ 0 then (zero, 0, rqE d.bl.length k b s.length)
  else if d.nx = 1099511627776 then (zero, 0, 9) else if d.dp ≤ d.qu.length then (zero, 0, 8)
  else (⟨d.dp, d.nx + 1, d.bl, d.ca, d.qu ++ [(d.nx, k, b, s)]⟩, d.nx, 0)
theorem subD_chk {d : D} {k b : Int} {s : List Int} {R : Int} (h : chk d = R) (h0 : R ≠ 0) : subD d k b s = (zero, 0, R) := by
  unfold subD; rw [if_pos (by rw [h]; exact h0), h]
theorem subD_rq {d : D} {k b : Int} {s : List Int} {R : Int} (h : chk d = 0) (h1 : rqE d.bl.length k b s.length = R) (h0 : R ≠ 0) : subD d k b s = (zero, 0, R) := by
  unfold subD; rw [if_neg (by simp [h]), if_pos (by rw [h1]; exact h0), h1]
theorem subD_limit {d : D} {k b : Int} {s : List Int} (h : chk d = 0) (h1 : rqE d.bl.length k b s.length = 0) (h2 : d.nx = 1099511627776) : subD d k b s = (zero, 0, 9) := by
  unfold subD; rw [if_neg (by simp [h]), if_neg (by simp [h1]), if_pos h2]
theorem subD_full {d : D} {k b : Int} {s : List Int} (h : chk d = 0) (h1 : rqE d.bl.length k b s.length = 0) (h2 : d.nx ≠ 1099511627776) (h3 : d.dp ≤ d.qu.length) : subD d k b s = (zero, 0, 8) := by
  unfold subD; rw [if_neg (by simp [h]), if_neg (by simp [h1]), if_neg h2, if_pos h3]
theorem subD_ok {d : D} {k b : Int} {s : List Int} (h : chk d = 0) (h1 : rqE d.bl.length k b s.length = 0) (h2 : d.nx ≠ 1099511627776) (h3 : ¬ d.dp ≤ d.qu.length) :
    subD d k b s = (⟨d.dp, d.nx + 1, d.bl, d.ca, d.qu ++ [(d.nx, k, b, s)]⟩, d.nx, 0) := by
  unfold subD; rw [if_neg (by simp [h]), if_neg (by simp [h1]), if_neg h2, if_neg h3]
/-- A block is put into an ascending cache. -/
def putC (f : Int) (s : List Int) : List Ca → List Ca
  | [] => [(f, s)]
  | c :: r => if c.1 < f then c :: putC f s r else if c.1 = f then (f, s) :: r else (f, s) :: c :: r
def flushB (bl : List (List Int)) : List Ca → List (List Int)
  | [] => bl
  | c :: r => flushB (bl.set c.1.toNat c.2) r
def cmpQ (d : D) (q : Rq) (r : D) : D × Rq × Int :=
  if q.2.1 = 1 then (r, (q.1, q.2.1, q.2.2.1, cont d q.2.2.1), 0) else if q.2.1 = 2 then (⟨r.dp, r.nx, r.bl, putC q.2.2.1 q.2.2.2 r.ca, r.qu⟩, q, 0) else (⟨r.dp, r.nx, flushB r.bl r.ca, [], r.qu⟩, q, 0)
def cmpD (d : D) (p : Int) (ok : Bool) : D × Rq × Int :=
  if chk d ≠ 0 then (zero, zq, chk d) else if p < 0 ∨ d.qu.length ≤ p then (zero, zq, 2)
  else if ok = false then (⟨d.dp, d.nx, d.bl, d.ca, d.qu.eraseIdx p.toNat⟩, d.qu.getD p.toNat zq, 0)
  else cmpQ d (d.qu.getD p.toNat zq) ⟨d.dp, d.nx, d.bl, d.ca, d.qu.eraseIdx p.toNat⟩
theorem cmpD_chk {d : D} {p : Int} {ok : Bool} {R : Int} (h : chk d = R) (h0 : R ≠ 0) : cmpD d p ok = (zero, zq, R) := by
  unfold cmpD; rw [if_pos (by rw [h]; exact h0), h]
theorem cmpD_range {d : D} {p : Int} {ok : Bool} (h : chk d = 0) (h1 : p < 0 ∨ d.qu.length ≤ p) : cmpD d p ok = (zero, zq, 2) := by
  unfold cmpD; rw [if_neg (by simp [h]), if_pos h1]
theorem cmpD_fail {d : D} {p : Nat} {q : Rq} (h : chk d = 0) (h1 : d.qu[p]? = some q) : cmpD d p false = (⟨d.dp, d.nx, d.bl, d.ca, d.qu.eraseIdx p⟩, q, 0) := by
  have hlt : p < d.qu.length := by rw [List.getElem?_eq_some_iff] at h1; exact h1.1
  unfold cmpD; rw [if_neg (by simp [h]), if_neg (by omega), if_pos rfl, Int.toNat_natCast, List.getD_eq_getElem?_getD, h1]; rfl
theorem cmpD_ok {d : D} {p : Nat} {q : Rq} (h : chk d = 0) (h1 : d.qu[p]? = some q) : cmpD d p true = cmpQ d q ⟨d.dp, d.nx, d.bl, d.ca, d.qu.eraseIdx p⟩ := by
  have hlt : p < d.qu.length := by rw [List.getElem?_eq_some_iff] at h1; exact h1.1
  unfold cmpD; rw [if_neg (by simp [h]), if_neg (by omega), if_neg (by simp), Int.toNat_natCast, List.getD_eq_getElem?_getD, h1]; rfl
theorem cmpQ_read {d r : D} {i b : Int} {s : List Int} : cmpQ d (i, 1, b, s) r = (r, (i, 1, b, cont d b), 0) := by simp [cmpQ]
theorem cmpQ_write {d r : D} {i b : Int} {s : List Int} : cmpQ d (i, 2, b, s) r = (⟨r.dp, r.nx, r.bl, putC b s r.ca, r.qu⟩, (i, 2, b, s), 0) := by simp [cmpQ]
theorem cmpQ_flush {d r : D} {i b : Int} {s : List Int} : cmpQ d (i, 3, b, s) r = (⟨r.dp, r.nx, flushB r.bl r.ca, [], r.qu⟩, (i, 3, b, s), 0) := by simp [cmpQ]
/-- A picked block is kept. -/
def kp (picks : List Bool) (n : Nat) (bl : List (List Int)) (f : Int) (s : List Int) : List (List Int) := if picks.getD n false = true then bl.set f.toNat s else bl
def keepC (picks : List Bool) : Nat → List (List Int) → List Ca → List (List Int)
  | _, bl, [] => bl
  | n, bl, c :: r => keepC picks (n + 1) (kp picks n bl c.1 c.2) r
def keepQ (picks : List Bool) : Nat → List (List Int) → List Rq → List (List Int)
  | _, bl, [] => bl
  | n, bl, q :: r => if q.2.1 = 2 then keepQ picks (n + 1) (kp picks n bl q.2.2.1 q.2.2.2) r else keepQ picks n bl r
def crD (d : D) (picks : List Bool) : D × Int :=
  if chk d ≠ 0 then (zero, chk d) else (⟨d.dp, d.nx, keepQ picks d.ca.length (keepC picks 0 d.bl d.ca) d.qu, [], []⟩, 0)
theorem crD_chk {d : D} {picks : List Bool} {R : Int} (h : chk d = R) (h0 : R ≠ 0) : crD d picks = (zero, R) := by
  unfold crD; rw [if_pos (by rw [h]; exact h0), h]
theorem crD_ok {d : D} {picks : List Bool} (h : chk d = 0) : crD d picks = (⟨d.dp, d.nx, keepQ picks d.ca.length (keepC picks 0 d.bl d.ca) d.qu, [], []⟩, 0) := by
  unfold crD; rw [if_neg (by simp [h])]
theorem flushB_step {bl : List (List Int)} {l : List Ca} {i : Nat} {c : Ca} (h : l[i]? = some c) : flushB bl (l.drop i) = flushB (bl.set c.1.toNat c.2) (l.drop (i + 1)) := by rw [drop_get h]; rfl
theorem keepC_step {picks : List Bool} {n : Nat} {bl : List (List Int)} {l : List Ca} {i : Nat} {c : Ca} (h : l[i]? = some c) : keepC picks n bl (l.drop i) = keepC picks (n + 1) (kp picks n bl c.1 c.2) (l.drop (i + 1)) := by rw [drop_get h]; rfl
theorem keepQ_step {picks : List Bool} {n : Nat} {bl : List (List Int)} {l : List Rq} {i : Nat} {q : Rq} (h : l[i]? = some q) : keepQ picks n bl (l.drop i) = if q.2.1 = 2 then keepQ picks (n + 1) (kp picks n bl q.2.2.1 q.2.2.2) (l.drop (i + 1)) else keepQ picks n bl (l.drop (i + 1)) := by rw [drop_get h]; rfl
theorem kp_len {picks : List Bool} {n : Nat} {bl : List (List Int)} {f : Int} {s : List Int} : (kp picks n bl f s).length = bl.length := by unfold kp; split <;> simp
theorem flushB_len : ∀ {l : List Ca} {bl : List (List Int)}, (flushB bl l).length = bl.length
  | [], _ => rfl
  | c :: r, bl => by rw [flushB, flushB_len]; simp
theorem keepC_len {picks : List Bool} : ∀ {l : List Ca} {n : Nat} {bl : List (List Int)}, (keepC picks n bl l).length = bl.length
  | [], _, _ => rfl
  | c :: r, n, bl => by rw [keepC, keepC_len, kp_len]
theorem keepQ_len {picks : List Bool} : ∀ {l : List Rq} {n : Nat} {bl : List (List Int)}, (keepQ picks n bl l).length = bl.length
  | [], _, _ => rfl
  | q :: r, n, bl => by
    rw [keepQ]
    split
    · rw [keepQ_len, kp_len]
    · rw [keepQ_len]
/-- Where putC puts. -/
theorem putC_at {f : Int} {s : List Int} : ∀ {l : List Ca} {p : Int}, AscC p l → putC f s l = if hasC f l = true then l.set (posC f l) (f, s) else l.take (posC f l) ++ [(f, s)] ++ l.drop (posC f l)
  | [], _, _ => by simp [putC, hasC, posC]
  | c :: r, p, h => by
    have ih := putC_at (f := f) (s := s) h.2
    rw [putC]
    by_cases h1 : c.1 < f
    · have hp : posC f (c :: r) = posC f r + 1 := by unfold posC; rw [List.countP_cons_of_pos]; simp; omega
      have hh : hasC f (c :: r) = hasC f r := by
        have : decide (c.1 = f) = false := by simp; omega
        simp [hasC, this]
      rw [if_pos h1, ih, hp, hh]
      split <;> simp
    · have hr : posC f r = 0 := by
        unfold posC
        rw [List.countP_eq_zero]
        intro x hx
        have := ascC_lt h.2 x hx
        simp; omega
      have hp : posC f (c :: r) = 0 := by unfold posC at hr ⊢; rw [List.countP_cons, hr]; simp; omega
      rw [if_neg h1, hp]
      by_cases h2 : c.1 = f
      · have hh : hasC f (c :: r) = true := by simp [hasC, h2]
        rw [if_pos h2, if_pos hh]; rfl
      · have hh : hasC f (c :: r) = false := by
          rw [hasC, Bool.eq_false_iff]
          intro h'
          rw [List.any_eq_true] at h'
          obtain ⟨x, hx, hxf⟩ := h'
          have hxf : x.1 = f := by simpa using hxf
          rcases List.mem_cons.1 hx with rfl | hx
          · exact h2 hxf
          · have := ascC_lt h.2 x hx
            omega
        rw [if_neg h2, if_neg (by rw [hh]; simp)]; rfl
end Go.Dev
