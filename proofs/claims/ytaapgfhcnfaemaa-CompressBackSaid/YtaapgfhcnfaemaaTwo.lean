/- Two rows of bytes of the call's own that grow side by side: where an append's result lies. -/
import Derived.Test.YtaapgfhcnfaemaaMats
import Derived.Laws.Append
namespace Go.Proofs.Ytaapgfhcnfaemaa
open Go.RowKit Go.Over Go.Zip Go.Seg
theorem append_where {w : World} {base ty : Nat} {i : TypeInfo} (hi : Try.prog.info? 5 = some i) (hz : i.zero = some (.int .u8 0)) (hz1 : i.size = 1) (hz2 : i.bytes = 1)
    {v : Value} {n : Nat} {xs : List Value} (hown : w.ownsRow base 5 1 v n xs) (a : Addr) (m c : Nat) (news : List Value) (hl : news.length = m) (hnews : ∀ j u, news[j]? = some u → w.cell? (a.add j) = some u)
    (h1 : ∀ u ∈ news, u.oneCell' = true) (hs : n + m ≤ 1000000) {v' : Value} {w' : World} (hr : (Builtin.append_ #[22, 22] ty #[v, .slice (some a) m c]).run Try.prog w = .ok v' w') :
    ∀ k, v'.ownBlock = some k → v.ownBlock = some k ∨ w.heap.size ≤ k := by
  have hl' : news.length = m * i.size := by rw [hz1, hl, Nat.mul_one]
  intro k hk
  rcases hown.2 with ⟨rfl, rfl⟩ | ⟨g, cap, cur, rfl, hbg, hg, hnc, hcm, hcs, htake⟩
  · by_cases hm : m = 0
    · subst hm
      have hn : news = [] := List.eq_nil_of_length_eq_zero hl
      subst hn
      have h2 : (Builtin.append_ #[22, 22] ty #[.slice none 0 0, .slice (some a) 0 c]).run Try.prog w = .ok (.slice none 0 0) w := by
        simp [Builtin.append_, run_underlying Try.underlying22, sizeOf, typeInfo, hi, Builtin.lenOf, Builtin.firstCells, loadCells, loadCellsFrom]
      rw [h2] at hr
      cases hr
      simp [Value.ownBlock] at hk
    · have h2 := run_append_nil (P := Try.prog) w 22 ty 5 i _ Try.underlying22 hi hz a m c news hl' hnews (by omega) (by omega) (by rw [hz2]; omega)
      rw [h2] at hr
      cases hr
      simp [Value.ownBlock] at hk
      omega
  · by_cases hroom : n + m ≤ cap
    · have hfit : n * i.size + news.length ≤ cur.size := by rw [hl, hcs, hz1]; omega
      have h2 := run_append_room (P := Try.prog) w 22 ty 5 i Try.underlying22 hi g n cap cur hg a m c news hl' hnews h1 hroom hfit
      rw [h2] at hr
      cases hr
      exact .inl (by simpa [Value.ownBlock] using hk)
    · have holds : ∀ j u, xs[j]? = some u → w.cell? ((⟨g, 0, none⟩ : Addr).add j) = some u := hown.cells (g := g) rfl
      have h2 := run_append_grow (P := Try.prog) w 22 ty 5 i _ Try.underlying22 hi hz ⟨g, 0, none⟩ n cap xs (by rw [hz1]; exact hown.1) holds a m c news hl' hnews (by omega) (by omega) (growslice_fits (by omega) (by rw [hz2]; omega))
      rw [h2] at hr
      cases hr
      simp [Value.ownBlock] at hk
      omega
theorem wpList_append_where {w : World} {ops : Array Oper} {rest : List Oper} {o : Oper} {a : Act} {Q : Exit → Act → World → Prop} {base : Nat} {i : TypeInfo} (hgd : o.guard = none) (s x : Operand)
    (ho : o.op = .call { callee := .builtin .append, args := #[s, x], argTypes := #[22, 22] })
    (hi : Try.prog.info? 5 = some i) (hz : i.zero = some (.int .u8 0)) (hz1 : i.size = 1) (hz2 : i.bytes = 1)
    (v : Value) (l : List Int) (hs : a.eval s = v) (hown : Owns w base v l)
    (ad : Addr) (m c : Nat) (news : List Int) (hx : a.eval x = .slice (some ad) m c) (hl : news.length = m) (hnews : ∀ j u, (news.map (Value.int .u8))[j]? = some u → w.cell? (ad.add j) = some u)
    (hlen : l.length + m ≤ 1000000) (hbase : base ≤ w.heap.size)
    (h : ∀ v' w', Owns w' base v' (l ++ news) → w.grownBy w' v.ownBlock → (∀ k, v'.ownBlock = some k → v.ownBlock = some k ∨ w.heap.size ≤ k) → wpList Try.prog ops Q rest (a.put o.dst v') w') : wpList Try.prog ops Q (o :: rest) a w := by
  refine wpList_plain hgd fun K hK => ?_
  obtain ⟨v', w', hr, h2, h3, _⟩ := run_append_own (P := Try.prog) w base 22 o.type 5 i (.int .u8 0) 1 1 Try.underlying22 hi hz hz1 hz2 rfl (by decide) v l.length _ hown ad m c (news.map (Value.int .u8)) (by simp [hl]) hnews (u8_one news) (by unfold maxLen; omega) (by omega) hbase
  have h4 := append_where hi hz hz1 hz2 hown ad m c (news.map (Value.int .u8)) (by simp [hl]) hnews (u8_one news) hlen hr
  unfold Oper.wp execOp
  simp only [ho, resolve, invoke, builtin, Sem.run_bind, Sem.run_pure, Result.andThen_ok, List.map_toArray, List.map_cons, List.map_nil, hs, hx, hr]
  exact hK _ _ (h v' w' (by unfold Owns; rw [List.map_append, List.length_append, hl]; exact h2) h3 h4)
end Go.Proofs.Ytaapgfhcnfaemaa
