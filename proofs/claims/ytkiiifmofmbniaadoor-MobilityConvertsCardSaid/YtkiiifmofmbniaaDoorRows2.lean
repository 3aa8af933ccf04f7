/- Rows that are known whole, at any element size: copy, clear, append within the capacity, append of a make. -/
import Derived.Test.YtkiiifmofmbniaaDoorBlk
import Derived.Laws.CopyOwn
import Derived.Lib.AppendZerosOnto
import Derived.Lib.Overlaps
namespace Go.Grow
open Go.RowKit Go.Over
/-- A row overwritten from place o on. -/
def lay (L : List Value) (o : Nat) (cs : List Value) : List Value := L.take o ++ cs ++ L.drop (o + cs.length)
theorem lay_len {L : List Value} {o : Nat} {cs : List Value} (h : o + cs.length ≤ L.length) : (lay L o cs).length = L.length := by
  simp [lay]; omega
theorem blk_setRow {w : World} {g : Nat} {T : TypeId} {cur new : List Value} (h : Blk w g T cur) : Blk (w.setRow g new.toArray) g T new ∧ w.grownBy (w.setRow g new.toArray) (some g) := by
  refine ⟨setRow_heap w g _ _ T _ h, rfl, rfl, rfl, by simp [World.setRow], fun k _ hk => setRow_other w g k _ (fun e => hk (by rw [e]))⟩
section
variable {P : Program} {t e : TypeId} {size bytes : Nat}
theorem run_copy_k (K : Kind P t e size bytes) {w : World} (ty : TypeId) (g o dLen dCap : Nat) (a : Addr) (sLen sCap : Nat) (cur : List Value) (T : TypeId) (cs : List Value) (hg : Blk w g T cur) (hn : cs.length = Nat.min sLen dLen * size)
    (hsrc : ∀ j v, cs[j]? = some v → w.cell? (a.add j) = some v) (hfit : o + cs.length ≤ cur.length) (h1 : ∀ v ∈ cs, v.oneCell' = true) :
    ∃ w', (Builtin.copy_ #[t, t] ty #[.slice (some ⟨g, o, none⟩) dLen dCap, .slice (some a) sLen sCap]).run P w = .ok (goInt (Nat.min sLen dLen)) w' ∧ Blk w' g T (lay cur o cs) ∧ w.grownBy w' (some g) := by
  obtain ⟨i, z, ht, hi, hz, hz1, hz2, hzs, hsz, hby⟩ := K
  have hl := run_loadCells_list (P := P) w a cs hsrc
  have hst := run_storeCells_at P g o T cs 0 cur.toArray w hg (by simpa using hfit) h1
  refine ⟨_, ?_, blk_setRow hg⟩
  simp only [Nat.add_zero] at hst
  simp [Builtin.copy_, run_underlying ht, Builtin.lenOf, Builtin.firstCells, sizeOf, typeInfo, hi, hz1, ← hn, hl, hst, lay]
theorem wpList_copy_k (K : Kind P t e size bytes) {w : World} {ops : Array Oper} {rest : List Oper} {o : Oper} {a : Act} {Q : Exit → Act → World → Prop} (hgd : o.guard = none) (d s : Operand)
    (ho : o.op = .call { callee := .builtin .copy, args := #[d, s], argTypes := #[t, t] })
    (g off dLen dCap : Nat) (ad : Addr) (sLen sCap : Nat) (hd : a.eval d = .slice (some ⟨g, off, none⟩) dLen dCap) (hs : a.eval s = .slice (some ad) sLen sCap)
    (cur : List Value) (T : TypeId) (cs : List Value) (hg : Blk w g T cur) (hn : cs.length = Nat.min sLen dLen * size)
    (hsrc : ∀ j v, cs[j]? = some v → w.cell? (ad.add j) = some v) (hfit : off + cs.length ≤ cur.length) (h1 : ∀ v ∈ cs, v.oneCell' = true)
    (h : ∀ w', Blk w' g T (lay cur off cs) → w.grownBy w' (some g) → wpList P ops Q rest (a.put o.dst (goInt (Nat.min sLen dLen))) w') : wpList P ops Q (o :: rest) a w := by
  refine wpList_plain hgd fun KK hK => ?_
  obtain ⟨w', hr, h2, h3⟩ := run_copy_k K o.type g off dLen dCap ad sLen sCap cur T cs hg hn hsrc hfit h1
  unfold Oper.wp execOp
  simp only [ho, resolve, invoke, builtin, Sem.run_bind, Sem.run_pure, Result.andThen_ok, List.map_toArray, List.map_cons, List.map_nil, hd, hs, hr]
  exact hK _ _ (h w' h2 h3)
/-- The cells of n zero values. -/
def zeros (z : Value) (n : Nat) : List Value := (Builtin.zeroCells z.cells n).toList
theorem wpList_clear_k (ht : P.underlying t = some (.slice e)) (hi : ∃ i z, P.info? e = some i ∧ i.zero = some z ∧ z.cells.size = size ∧ ∀ v ∈ z.cells.toList, v.oneCell' = true) {w : World} {ops : Array Oper} {rest : List Oper} {o : Oper} {a : Act} {Q : Exit → Act → World → Prop} (hgd : o.guard = none) (s : Operand)
    (ho : o.op = .call { callee := .builtin .clear, args := #[s], argTypes := #[t] })
    (g off n c : Nat) (hs : a.eval s = .slice (some ⟨g, off, none⟩) n c) (hn0 : 0 < n)
    (cur : List Value) (T : TypeId) (hg : Blk w g T cur) (hfit : off + n * size ≤ cur.length)
    (h : ∀ w' new, Blk w' g T new → new.length = cur.length → new.take off = cur.take off → w.grownBy w' (some g) → wpList P ops Q rest (a.put o.dst (.tuple #[])) w') : wpList P ops Q (o :: rest) a w := by
  obtain ⟨i, z, hi, hz, hzs, hz1⟩ := hi
  refine wpList_plain hgd fun KK hK => ?_
  have hlen : (zeros z n).length = n * size := by simp [zeros, Builtin.zeroCells, hzs]
  have h1 : ∀ v ∈ zeros z n, v.oneCell' = true := by
    intro v hv
    simp only [zeros, Builtin.zeroCells, Array.toList_map, List.mem_map] at hv
    obtain ⟨j, hj, rfl⟩ := hv
    have hj2 : j < n * size := by simpa [hzs] using hj
    have hpos : 0 < z.cells.size := by
      rcases Nat.eq_zero_or_pos z.cells.size with h0 | h0
      · rw [← hzs, h0, Nat.mul_zero] at hj2; omega
      · exact h0
    have hlt : j % z.cells.size < z.cells.size := Nat.mod_lt _ hpos
    rw [getElem!_pos z.cells (j % z.cells.size) hlt]
    exact hz1 _ (by simp)
  have hst := run_storeCells_at P g off T (zeros z n) 0 cur.toArray w hg (by rw [hlen]; simpa using hfit) h1
  simp only [Nat.add_zero] at hst
  obtain ⟨n, rfl⟩ : ∃ k, n = k + 1 := ⟨n - 1, by omega⟩
  have hr : (Builtin.clear_ #[t] o.type #[.slice (some ⟨g, off, none⟩) (n + 1) c]).run P w = .ok (.tuple #[]) (w.setRow g (lay cur off (zeros z (n + 1))).toArray) := by
    have hv : (zeroValue e).run P w = .ok z w := by simp [zeroValue, typeInfo, hi, hz]
    have hst2 : (storeCells ⟨g, off, none⟩ (Builtin.zeroCells z.cells (n + 1)).toList 0).run P w = .ok () (w.setRow g (lay cur off (zeros z (n + 1))).toArray) := hst
    simp [Builtin.clear_, run_underlying ht, hv, hst2]
  obtain ⟨q1, q2⟩ := blk_setRow (new := lay cur off (zeros z (n + 1))) hg
  have hln := lay_len (L := cur) (o := off) (cs := zeros z (n + 1)) (by rw [hlen]; exact hfit)
  have htk : (lay cur off (zeros z (n + 1))).take off = cur.take off := by
    have : off ≤ cur.length := by omega
    simp [lay, List.take_append, List.take_take]
    omega
  unfold Oper.wp execOp
  simp only [ho, resolve, invoke, builtin, Sem.run_bind, Sem.run_pure, Result.andThen_ok, List.map_toArray, List.map_cons, List.map_nil, hs, hr]
  exact hK _ _ (h _ _ q1 hln htk q2)
/-- append within the capacity. -/
theorem wpList_append_room_k (K : Kind P t e size bytes) {w : World} {ops : Array Oper} {rest : List Oper} {o : Oper} {a : Act} {Q : Exit → Act → World → Prop} (hgd : o.guard = none) (s x : Operand)
    (ho : o.op = .call { callee := .builtin .append, args := #[s, x], argTypes := #[t, t] })
    (g n cap : Nat) (ad : Addr) (m c : Nat) (hs : a.eval s = .slice (some ⟨g, 0, none⟩) n cap) (hx : a.eval x = .slice (some ad) m c)
    (cur : List Value) (hg : Blk w g e cur) (news : List Value) (hl : news.length = m * size) (hnews : ∀ j u, news[j]? = some u → w.cell? (ad.add j) = some u) (h1 : ∀ u ∈ news, u.oneCell' = true)
    (hroom : n + m ≤ cap) (hcap : cur.length = cap * size)
    (h : ∀ w', Blk w' g e (lay cur (n * size) news) → w.grownBy w' (some g) → wpList P ops Q rest (a.put o.dst (.slice (some ⟨g, 0, none⟩) (n + m) cap)) w') : wpList P ops Q (o :: rest) a w := by
  obtain ⟨i, z, ht, hi, hz, hz1, hz2, hzs, hsz, hby⟩ := K
  refine wpList_plain hgd fun KK hK => ?_
  have hfit : n * i.size + news.length ≤ cur.toArray.size := by
    simp only [List.size_toArray]
    rw [hl, hcap, hz1, ← Nat.add_mul]; exact Nat.mul_le_mul_right _ hroom
  have hr := run_append_room (P := P) w t o.type e i ht hi g n cap cur.toArray hg ad m c news (by rw [hz1]; exact hl) hnews h1 hroom hfit
  obtain ⟨q1, q2⟩ := blk_setRow (new := lay cur (n * size) news) hg
  unfold Oper.wp execOp
  simp only [ho, resolve, invoke, builtin, Sem.run_bind, Sem.run_pure, Result.andThen_ok, List.map_toArray, List.map_cons, List.map_nil, hs, hx, hr]
  refine hK _ _ ?_
  have e1 : (cur.toArray.toList.take (n * i.size) ++ news ++ cur.toArray.toList.drop (n * i.size + news.length)).toArray = (lay cur (n * size) news).toArray := by
    rw [hz1]; simp [lay]
  first
    | (rw [e1]; exact h _ q1 q2)
    | (simp only [hz1] at *; exact h _ q1 q2)
/-- append of a make, beyond the capacity: a new row. -/
theorem wpList_append_zeros_k (K : Kind P t e size bytes) {w : World} {ops : Array Oper} {rest : List Oper} {o : Oper} {a : Act} {Q : Exit → Act → World → Prop} (hgd : o.guard = none) (s x : Operand) (tn : TypeId) (htn : P.underlying tn = some (.int .i64))
    (ho : o.op = .call { callee := .builtin .append, args := #[s, x], argTypes := #[t, tn] })
    (ad : Addr) (n cap k : Nat) (hs : a.eval s = .slice (some ad) n cap) (hx : a.eval x = .int .i64 (k : Nat))
    (olds : List Value) (hl : olds.length = n * size) (hold : ∀ j u, olds[j]? = some u → w.cell? (ad.add j) = some u)
    (hk : 0 < k) (hcap : cap < n + k) (hlen : n + k ≤ 1000000)
    (h : ∀ w' G zs, Blk w' w.heap.size e (olds ++ zs) → olds.length + zs.length = G * size → n + k ≤ G → G ≤ maxLen → w.grownBy w' none → w.heap.size < w'.heap.size →
      wpList P ops Q rest (a.put o.dst (.slice (some ⟨w.heap.size, 0, none⟩) (n + k) G)) w') : wpList P ops Q (o :: rest) a w := by
  obtain ⟨i, z, ht, hi, hz, hz1, hz2, hzs, hsz, hby⟩ := K
  have hb : ∀ q, q ≤ 1000000 → q * i.bytes ≤ 1000000000 := fun q hq => by
    rw [hz2]; exact Nat.le_trans (Nat.mul_le_mul hq hby) (by decide)
  refine wpList_plain hgd fun KK hK => ?_
  have hf : (Builtin.firstCells i.size n (.slice (some ad) n cap)).run P w.drew = .ok olds.toArray w.drew := by
    rw [hz1]
    exact run_firstCells_some w.drew size n ad n cap olds hl hold
  have hr := Lib.run_append_grow_zeros w t tn o.type e i z .i64 .i64 ht htn hi hz (some ad) n cap olds hf k hk (by omega) hcap (by omega) (by have := hb k (by omega); omega) (growslice_fits (by omega) (by have := hb (n + k) hlen; omega))
  have hG1 : n + k ≤ grownCap w (n + k) cap e := grownCap_ge w _ _ _
  have hG2 : grownCap w (n + k) cap e ≤ maxLen := grownCap_le_maxLen w (n + k) cap e (by unfold maxLen; omega)
  obtain ⟨G, hG⟩ : ∃ G, grownCap w (n + k) cap e = G := ⟨_, rfl⟩
  rw [hG] at hr hG1 hG2
  unfold Oper.wp execOp
  simp only [ho, resolve, invoke, builtin, Sem.run_bind, Sem.run_pure, Result.andThen_ok, List.map_toArray, List.map_cons, List.map_nil, hs, hx, hr]
  refine hK _ _ (h _ G ((Builtin.zeroCells z.cells k).toList ++ (Builtin.zeroCells z.cells (G - (n + k))).toList) ?_ ?_ hG1 hG2 ?_ ?_)
  · refine Blk.new w.drew e _ _ ?_
    apply Array.ext'
    simp
  · simp only [List.length_append, Array.length_toList, Builtin.zeroCells, Array.size_map, Array.size_range, hzs, hl]
    rw [← Nat.add_mul, ← Nat.add_mul]
    congr 1; omega
  · exact ⟨rfl, rfl, rfl, by simp, fun q hq _ => Below.heap_alloc w.drew _ q hq⟩
  · simp
end
end Go.Grow
