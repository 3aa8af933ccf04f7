/- Walks: one more slab, of the reference. -/
import Derived.Test.YthhdiiboblaclaaW19
namespace Go.Proofs.Ythhdiiboblaclaa
open Go.RowKit Go.Over Go.Slb Go.Seg Go.Grow
def insR (x : R) : List R → List R
  | [] => [x]
  | r :: rs => if x.1 < r.1 then x :: r :: rs else r :: insR x rs
theorem insR_sl (x : R) : ∀ rs : List R, (insR x rs).map sl = ins (sl x) (rs.map sl)
  | [] => rfl
  | r :: rs => by
    have e : ins (sl x) ((r :: rs).map sl) = if x.1 < r.1 then sl x :: sl r :: rs.map sl else sl r :: ins (sl x) (rs.map sl) := rfl
    have e2 : insR x (r :: rs) = if x.1 < r.1 then x :: r :: rs else r :: insR x rs := rfl
    rw [e, e2]
    split
    · rfl
    · rw [List.map_cons, insR_sl x rs]
theorem insR_perm (x : R) : ∀ rs : List R, (insR x rs).Perm (x :: rs)
  | [] => List.Perm.refl _
  | r :: rs => by
    have e2 : insR x (r :: rs) = if x.1 < r.1 then x :: r :: rs else r :: insR x rs := rfl
    rw [e2]
    split
    · exact List.Perm.refl _
    · exact (List.Perm.cons r (insR_perm x rs)).trans (List.Perm.swap x r rs)
/-- How far the copying has come. -/
def Step (x : R) (rs : List R) (d : Bool) (qs : List R) (i : Nat) : Prop :=
  if d = true then qs ++ rs.drop i = insR x rs else qs = rs.take i ∧ insR x rs = rs.take i ++ insR x (rs.drop i)
theorem Step.start (x : R) (rs : List R) : Step x rs false [] 0 := by simp [Step]
theorem Step.put {x : R} {rs : List R} {qs : List R} {i : Nat} {r : R} (h : Step x rs false qs i) (hr : rs[i]? = some r) (hx : x.1 < r.1) : Step x rs true (qs ++ [x] ++ [r]) (i + 1) := by
  simp only [Step, Bool.false_eq_true, if_false] at h
  simp only [Step, if_true]
  rw [h.2, h.1, drop_get hr]
  have e2 : insR x (r :: rs.drop (i + 1)) = if x.1 < r.1 then x :: r :: rs.drop (i + 1) else r :: insR x (rs.drop (i + 1)) := rfl
  rw [e2, if_pos hx]; simp
theorem Step.go {x : R} {rs : List R} {d : Bool} {qs : List R} {i : Nat} {r : R} (h : Step x rs d qs i) (hr : rs[i]? = some r) (hx : d = false → ¬ x.1 < r.1) : Step x rs d (qs ++ [r]) (i + 1) := by
  cases d with
  | true =>
    simp only [Step, if_true] at h ⊢
    rw [← h, drop_get hr]; simp
  | false =>
    simp only [Step, Bool.false_eq_true, if_false] at h ⊢
    have e2 : insR x (r :: rs.drop (i + 1)) = if x.1 < r.1 then x :: r :: rs.drop (i + 1) else r :: insR x (rs.drop (i + 1)) := rfl
    have e3 : rs.take (i + 1) = rs.take i ++ [r] := by rw [List.take_add_one, hr]; rfl
    refine ⟨by rw [e3, h.1], ?_⟩
    rw [h.2, drop_get hr, e2, if_neg (hx rfl), e3]; simp
theorem Step.done {x : R} {rs : List R} {qs : List R} {n : Nat} (h : Step x rs true qs n) (hn : rs.length = n) : qs = insR x rs := by
  simp only [Step, if_true] at h
  rwa [List.drop_eq_nil_of_le (by omega), List.append_nil] at h
theorem Step.last {x : R} {rs : List R} {qs : List R} {n : Nat} (h : Step x rs false qs n) (hn : rs.length = n) : qs ++ [x] = insR x rs := by
  simp only [Step, Bool.false_eq_true, if_false] at h
  rw [h.2, h.1, List.drop_eq_nil_of_le (by omega)]; rfl
theorem Step.len {x : R} {rs : List R} {d : Bool} {qs : List R} {i n : Nat} (h : Step x rs d qs i) (hn : rs.length = n) (hi : i ≤ n) : qs.length ≤ n + 1 := by
  cases d with
  | true =>
    simp only [Step, if_true] at h
    have h1 := congrArg List.length h
    rw [List.length_append, (insR_perm x rs).length_eq, List.length_cons] at h1
    omega
  | false =>
    simp only [Step, Bool.false_eq_true, if_false] at h
    rw [h.1, List.length_take]; omega
/-- What is not in the changed blocks stays. -/
theorem own_only1 {W W' : World} {gs : List Nat} {base e size n : Nat} {v : Value} {xs : List Value} (h : W.ownsRow base e size v n xs) (ho : Only gs W W') (hn : ∀ k, v.ownBlock = some k → k ∉ gs) : W'.ownsRow base e size v n xs := by
  refine ⟨h.1, ?_⟩
  rcases h.2 with h1 | ⟨g, cap, cur, hv, hb, hg, h2⟩
  · exact .inl h1
  · refine .inr ⟨g, cap, cur, hv, hb, ?_, h2⟩
    rw [ho.block g (by have := World.ownsRow.lt h g (by rw [hv]; rfl); exact this.2) (hn g (by rw [hv]; rfl))]
    exact hg
end Go.Proofs.Ythhdiiboblaclaa
