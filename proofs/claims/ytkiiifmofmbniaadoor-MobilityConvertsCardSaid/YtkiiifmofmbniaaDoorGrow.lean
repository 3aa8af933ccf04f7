/- Rows of a call's own that grow, at any element type: where the result of an append lies; a source that may be nil. -/
import Derived.OwnWalk
import Derived.Laws.OwnMore
import Derived.Laws.Append
import Derived.Below
import Derived.Deep.Draws
import Derived.RegionTactic
namespace Go.Grow
open Go.RowKit
/-- The facts on a slice type and its element type. -/
def Kind (P : Program) (t e : TypeId) (size bytes : Nat) : Prop :=
  ∃ i z, P.underlying t = some (.slice e) ∧ P.info? e = some i ∧ i.zero = some z ∧ i.size = size ∧ i.bytes = bytes ∧ z.cells.size = size ∧ 0 < size ∧ bytes ≤ 1000
theorem Kind.mk' {P : Program} {t e : TypeId} {size bytes : Nat} {z : Value} (h1 : P.underlying t = some (.slice e)) (h2 : (P.info? e).map (fun i => (i.zero, i.size, i.bytes)) = some (some z, size, bytes)) (h3 : z.cells.size = size) (h4 : 0 < size) (h5 : bytes ≤ 1000) : Kind P t e size bytes := by
  obtain ⟨i, hi, hz0, hz1, hz2⟩ := info_parts h2
  exact ⟨i, z, h1, hi, hz0, hz1, hz2, h3, h4, h5⟩
section
variable {P : Program} {t e : TypeId} {size bytes : Nat}
theorem append_where (K : Kind P t e size bytes) {w : World} {base ty : Nat} {v : Value} {n : Nat} {xs : List Value} (hown : w.ownsRow base e size v n xs) (a : Addr) (m c : Nat) (news : List Value) (hl : news.length = m * size) (hnews : ∀ j u, news[j]? = some u → w.cell? (a.add j) = some u)
    (h1 : ∀ u ∈ news, u.oneCell' = true) (hs : n + m ≤ 1000000) {v' : Value} {w' : World} (hr : (Builtin.append_ #[t, t] ty #[v, .slice (some a) m c]).run P w = .ok v' w') :
    (∀ k, v'.ownBlock = some k → v.ownBlock = some k ∨ w.heap.size ≤ k) := by
  obtain ⟨i, z, ht, hi, hz, hz1, hz2, hzs, hsz, hby⟩ := K
  have hl' : news.length = m * i.size := by rw [hz1, hl]
  have hb : ∀ k, k ≤ 1000000 → k * i.bytes ≤ 1000000000 := fun k hk => by
    rw [hz2]; exact Nat.le_trans (Nat.mul_le_mul hk hby) (by decide)
  intro k hk
  rcases hown.2 with ⟨rfl, rfl⟩ | ⟨g, cap, cur, rfl, hbg, hg, hnc, hcm, hcs, htake⟩
  · by_cases hm : m = 0
    · subst hm
      have hn : news = [] := List.eq_nil_of_length_eq_zero (by rw [hl, Nat.zero_mul])
      subst hn
      have h2 : (Builtin.append_ #[t, t] ty #[.slice none 0 0, .slice (some a) 0 c]).run P w = .ok (.slice none 0 0) w := by
        simp [Builtin.append_, run_underlying ht, sizeOf, typeInfo, hi, Builtin.lenOf, Builtin.firstCells, loadCells, loadCellsFrom]
      rw [h2] at hr
      cases hr
      simp [Value.ownBlock] at hk
    · have h2 := run_append_nil (P := P) w t ty e i _ ht hi hz a m c news hl' hnews (by omega) (by omega) (by have := hb m (by omega); omega)
      rw [h2] at hr
      cases hr
      simp [Value.ownBlock] at hk
      omega
  · by_cases hroom : n + m ≤ cap
    · have hfit : n * i.size + news.length ≤ cur.size := by
        rw [hl, hcs, hz1, ← Nat.add_mul]; exact Nat.mul_le_mul_right _ hroom
      have h2 := run_append_room (P := P) w t ty e i ht hi g n cap cur hg a m c news hl' hnews h1 hroom hfit
      rw [h2] at hr
      cases hr
      exact .inl (by simpa [Value.ownBlock] using hk)
    · have holds : ∀ j u, xs[j]? = some u → w.cell? ((⟨g, 0, none⟩ : Addr).add j) = some u := hown.cells (g := g) rfl
      have h2 := run_append_grow (P := P) w t ty e i _ ht hi hz ⟨g, 0, none⟩ n cap xs (by rw [hz1]; exact hown.1) holds a m c news hl' hnews (by omega) (by omega) (growslice_fits (by omega) (by have := hb (n + m) hs; omega))
      rw [h2] at hr
      cases hr
      simp [Value.ownBlock] at hk
      omega
/-- What is appended: nothing (nil), or cells that lie at an address. -/
def Src (w : World) (size : Nat) (ax : Option Addr) (m c : Nat) (news : List Value) : Prop :=
  news.length = m * size ∧ (∀ u ∈ news, u.oneCell' = true) ∧ ((ax = none ∧ m = 0 ∧ c = 0) ∨ ∃ ad, ax = some ad ∧ ∀ j u, news[j]? = some u → w.cell? (ad.add j) = some u)
theorem wpList_append_k (K : Kind P t e size bytes) {w : World} {ops : Array Oper} {rest : List Oper} {o : Oper} {a : Act} {Q : Exit → Act → World → Prop} {base : Nat} (hgd : o.guard = none) (s x : Operand)
    (ho : o.op = .call { callee := .builtin .append, args := #[s, x], argTypes := #[t, t] })
    (v : Value) (n : Nat) (l : List Value) (hs : a.eval s = v) (hown : w.ownsRow base e size v n l)
    (ax : Option Addr) (m c : Nat) (news : List Value) (hx : a.eval x = .slice ax m c) (hsrc : Src w size ax m c news)
    (hlen : n + m ≤ 1000000) (hbase : base ≤ w.heap.size)
    (h : ∀ v' w', w'.ownsRow base e size v' (n + m) (l ++ news) → w.grownBy w' v.ownBlock → (∀ k, v'.ownBlock = some k → v.ownBlock = some k ∨ w.heap.size ≤ k) → wpList P ops Q rest (a.put o.dst v') w') : wpList P ops Q (o :: rest) a w := by
  have K' := K
  obtain ⟨i, z, ht, hi, hz, hz1, hz2, hzs, hsz, hby⟩ := K'
  obtain ⟨hl, h1, hcase⟩ := hsrc
  refine wpList_plain hgd fun KK hK => ?_
  rcases hcase with ⟨rfl, rfl, rfl⟩ | ⟨ad, rfl, hnews⟩
  · have hn : news = [] := List.eq_nil_of_length_eq_zero (by rw [hl, Nat.zero_mul])
    subst hn
    have hr := run_append_owned_none (P := P) w base t o.type e i size ht hi v n l hown
    unfold Oper.wp execOp
    simp only [ho, resolve, invoke, builtin, Sem.run_bind, Sem.run_pure, Result.andThen_ok, List.map_toArray, List.map_cons, List.map_nil, hs, hx, hr]
    exact hK _ _ (h v w (by simpa using hown) (World.grownBy.refl w _) (fun k hk => .inl hk))
  · have hb : (n + m) * bytes ≤ 1000000000 := Nat.le_trans (Nat.mul_le_mul hlen hby) (by decide)
    obtain ⟨v', w', hr, h2, h3, _⟩ := run_append_own (P := P) w base t o.type e i z size bytes ht hi hz hz1 hz2 hzs hsz v n _ hown ad m c news hl hnews h1 (by unfold maxLen; omega) (by omega) hbase
    have h4 := append_where K hown ad m c news hl hnews h1 hlen hr
    unfold Oper.wp execOp
    simp only [ho, resolve, invoke, builtin, Sem.run_bind, Sem.run_pure, Result.andThen_ok, List.map_toArray, List.map_cons, List.map_nil, hs, hx, hr]
    exact hK _ _ (h v' w' h2 h3 h4)
end
/-- Cells in a new block. -/
theorem src_new (w : World) (cs : Array Value) (t : TypeId) (size m c : Nat) (hl : cs.size = m * size) (h1 : ∀ u ∈ cs.toList, u.oneCell' = true) : Src (w.alloc (.cells cs t)) size (some ⟨w.heap.size, 0, none⟩) m c cs.toList := by
  refine ⟨by simpa using hl, h1, .inr ⟨_, rfl, fun j u hj => ?_⟩⟩
  rw [show (⟨w.heap.size, 0, none⟩ : Addr).add j = ⟨w.heap.size, j, none⟩ by unfold Addr.add; split <;> simp_all]
  have : (w.alloc (.cells cs t)).heap[w.heap.size]? = some (.cells cs t) := by
    show (w.heap.push _)[w.heap.size]? = _; simp
  rw [World.cell?, this]
  simpa using hj
theorem below_grown {B : Nat} {w w' : World} (hb : Below w.heap.size w w') : w.grownBy w' (some (w.heap.size + B)) :=
  ⟨hb.os, hb.tape, hb.output, hb.size, fun k hk _ => hb.block k hk⟩
theorem own_later {w w' : World} {B e size n : Nat} {v : Value} {xs : List Value} (h : w.ownsRow B e size v n xs) (hb : Below w.heap.size w w') : w'.ownsRow B e size v n xs :=
  h.kept (row := none) ⟨hb.os, hb.tape, hb.output, hb.size, fun k hk _ => hb.block k hk⟩ (by cases hv : v.ownBlock <;> simp)
theorem own_weaken {w : World} {B B' e size n : Nat} {v : Value} {xs : List Value} (h : w.ownsRow B e size v n xs) (hb : B' ≤ B) : w.ownsRow B' e size v n xs := by
  refine ⟨h.1, ?_⟩
  rcases h.2 with h1 | ⟨g, cap, cur, h1, h2, h3⟩
  · exact .inl h1
  · exact .inr ⟨g, cap, cur, h1, by omega, h3⟩
theorem own_form {w : World} {B e size n : Nat} {v : Value} {xs : List Value} (h : w.ownsRow B e size v n xs) : ∃ a c, v = .slice a n c ∧ n ≤ c ∧ c ≤ maxLen ∧ (a = none → c = 0) := by
  rcases h.2 with ⟨rfl, rfl⟩ | ⟨g, cap, cur, rfl, _, _, h1, h2, _⟩
  · exact ⟨none, 0, rfl, Nat.le_refl _, Nat.zero_le _, fun _ => rfl⟩
  · exact ⟨_, cap, rfl, h1, h2, fun h => by cases h⟩
theorem own_pos {w : World} {B e size n : Nat} {v : Value} {xs : List Value} (h : w.ownsRow B e size v n xs) (hn : 0 < n) : ∃ g c, v = .slice (some ⟨g, 0, none⟩) n c ∧ B ≤ g ∧ g < w.heap.size ∧ n ≤ c ∧ c ≤ maxLen := by
  have hlt := h.lt
  rcases h.2 with ⟨rfl, rfl⟩ | ⟨g, cap, cur, rfl, h0, _, h1, h2, _⟩
  · omega
  · exact ⟨g, cap, rfl, h0, (hlt g rfl).2, h1, h2⟩
end Go.Grow
