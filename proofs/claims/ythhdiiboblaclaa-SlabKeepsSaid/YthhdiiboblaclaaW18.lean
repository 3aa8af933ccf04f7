/- What an allocation makes: new flags, a new slab among the slabs; its results. -/
import Derived.Test.YthhdiiboblaclaaW17
namespace Go.Proofs.Ythhdiiboblaclaa
open Go.RowKit Go.Over Go.Slb Go.Seg Go.Grow
theorem made_bools (n : Nat) : (madeCells (Value.bool false).cells (n * 1)).toList = (List.replicate n false).map Value.bool := by
  simp only [madeCells, Nat.mul_one, Value.cells, Array.toList_map, Array.toList_range, List.map_replicate]
  apply List.ext_getElem
  · simp
  · intro i h1 h2
    simp [Nat.mod_one]
/-- New flags, all false. -/
theorem wpList_make_bools (w : World) {ops : Array Oper} {rest : List Oper} {x : Oper} {a : Act} {Q : Exit → Act → World → Prop} (hg : x.guard = none) (l c : Operand) (hop : x.op = Op.makeSlice 50 l c) (kl kc : IntKind) (o : Int) (base n : Nat)
    (hl : a.eval l = .int kl o) (hc : a.eval c = .int kc o) (ho : o = (n : Int)) (hn : n ≤ 1000) (hb : base ≤ w.heap.size)
    (hK : ∀ w', w'.ownsRow base 4 1 (.slice (some ⟨w.heap.size, 0, none⟩) n n) n ((List.replicate n false).map Value.bool) → w.grownBy w' none → wpList Try.prog ops Q rest (a.put x.dst (.slice (some ⟨w.heap.size, 0, none⟩) n n)) w') :
    wpList Try.prog ops Q (x :: rest) a w := by
  obtain ⟨i, hi, hz0, hz1, hz2⟩ := info_parts (show (Try.prog.info? 4).map (fun i => (i.zero, i.size, i.bytes)) = some (some (.bool false), 1, 1) by kernel_rfl)
  refine wpList_make_full w hg l c 50 hop base 4 i (.bool false) 1 Try.underlying50 hi hz0 hz1 kl kc o o n hl hc ho ho (by rw [hz2]; omega) (by unfold maxLen; omega) hb ?_
  rw [made_bools]
  exact hK
/-- The results of a function whose first result is a struct in a cell. -/
theorem results_cell_two {fn : Func} {p q r : Tmp} (h : fn.results = #[.cell p 24, .tmp q, .tmp r]) (tmps : Array Value) (w : World) (g : Nat) (x y v z : Value)
    (hp : tmps.getD p undef = .pointer (some ⟨g, 0, none⟩)) (hg : Blk w g 24 [x, y]) (hv : tmps.getD q undef = v) (hz : tmps.getD r undef = z) :
    (results fn tmps).run Try.prog w = .ok (.tuple #[.agg #[x, y], v, z]) w := by
  have hp' : tmps[p]?.getD undef = .pointer (some ⟨g, 0, none⟩) := by simpa using hp
  have hv' : tmps[q]?.getD undef = v := by simpa using hv
  have hz' : tmps[r]?.getD undef = z := by simpa using hz
  have hl := run_loadVar_row (P := Try.prog) w g 24 24 #[x, y] (0, 0) _ hg Try.underlying24 rfl (by kernel_rfl)
  simp [results, h, hp', hv', hz', asAddr, hl]
/-- What allocation and its reference give. -/
def AllocAns (base : Nat) (o : Int) (p : Int × List S × List Int) (w : World) (e : Ending) (w' : World) : Prop :=
  ∃ V rs v, e = .returned (.tuple #[.agg #[.int .i64 (if p.1 = 0 then o else 0), V], v, .int .i64 p.1]) ∧ OwnC w' base V rs ∧ rs.map sl = p.2.1 ∧ OwnI w' base v p.2.2 ∧ Below w.heap.size w w'
theorem ans_err {base : Nat} {o r : Int} {p : Int × List S × List Int} {w w' : World} {e : Ending} (hp : p = (r, [], [])) (hr : r ≠ 0) (he : e = .returned (.tuple #[.agg #[.int .i64 0, .slice none 0 0], .slice none 0 0, .int .i64 r])) (hb : Below w.heap.size w w') : AllocAns base o p w e w' := by
  subst hp
  refine ⟨.slice none 0 0, [], .slice none 0 0, ?_, OwnC.nil _ _, rfl, World.ownsRow_nil _ _ _ _, hb⟩
  rw [he, if_neg hr]
/-- What the slabs are while new ones come in. -/
structure Good (o : Int) (L : List S) : Prop where
  asc : Asc (-1) L
  fr : ∀ s ∈ L, 0 ≤ s.1 ∧ s.1 < 256
  len : ∀ s ∈ L, (s.2.length : Int) = o
theorem Good.ins {o : Int} {L : List S} (h : Good o L) {f : Int} (ho : 0 ≤ o) (h0 : 0 ≤ f) (h1 : f < 256) (hf : hasF f L = false) : Good o (ins (Slb.fresh o f) L) := by
  refine ⟨asc_ins h.asc (by show (-1 : Int) < f; omega) hf, fun s hs => ?_, fun s hs => ?_⟩
  · rcases mem_ins.1 hs with rfl | hs
    · exact ⟨h0, h1⟩
    · exact h.fr s hs
  · rcases mem_ins.1 hs with rfl | hs
    · show ((List.replicate o.toNat false).length : Int) = o
      rw [List.length_replicate]; omega
    · exact h.len s hs
theorem Good.count {o : Int} {L : List S} (h : Good o L) : L.length ≤ 256 := by
  have := asc_count h.asc (fun s hs => (h.fr s hs).2) (by omega)
  omega
theorem addF_step {o : Int} {F : List Int} {i n : Nat} {L : List S} (hn : F.length = n) (h : i < n) : addF o (F.drop i) L = if F.getD i 0 < 0 ∨ 256 ≤ F.getD i 0 then (2, []) else if hasF (F.getD i 0) L = true then (7, []) else addF o (F.drop (i + 1)) (ins (Slb.fresh o (F.getD i 0)) L) := by
  rw [ints_drop hn h]; rfl
theorem addF_fst {o : Int} : ∀ {F : List Int} {L : List S}, (addF o F L).1 ≠ 0 → addF o F L = ((addF o F L).1, [])
  | [], L, h => absurd rfl h
  | f :: r, L, h => by
    have e : addF o (f :: r) L = if f < 0 ∨ 256 ≤ f then (2, []) else if hasF f L = true then (7, []) else addF o r (ins (Slb.fresh o f) L) := rfl
    rw [e] at h ⊢
    split
    · rfl
    · split
      · rfl
      · rename_i h1 h2
        rw [if_neg h1, if_neg h2] at h
        exact addF_fst h
theorem alloc_bad {o : Int} {l : List S} {n : Int} {F : List Int} (h : ¬ check o l = 0) : allocP o l n F = (check o l, [], []) := by unfold allocP; rw [if_pos h]
theorem alloc_arg {o : Int} {l : List S} {n : Int} {F : List Int} (h : check o l = 0) (h1 : n < 1 ∨ (F.length : Int) ≠ needL o l n) : allocP o l n F = (1, [], []) := by unfold allocP; rw [if_neg (by simp [h]), if_pos h1]
theorem alloc_add {o : Int} {l : List S} {n r : Int} {F : List Int} (h : check o l = 0) (h1 : ¬ (n < 1 ∨ (F.length : Int) ≠ needL o l n)) (hr : r ≠ 0) (h2 : addF o F l = (r, [])) : allocP o l n F = (r, [], []) := by
  unfold allocP; rw [if_neg (by simp [h]), if_neg h1, h2, if_pos hr]
/-- A slab of new flags goes in. -/
theorem OwnC.insert {w w' : World} {base g : Nat} {V V' : Value} {rs : List R} {f : Int} {m k : Nat} (h : OwnC w base V rs) (hin : w.ownsRow base 4 1 (.slice (some ⟨g, 0, none⟩) m m) m ((List.replicate m false).map Value.bool)) (hk : k ≤ rs.length)
    (hg : ∀ r ∈ rs, r.2.2.1 ≠ g) (hgr : w.grownBy w' V.ownBlock) (ho : w'.ownsRow base 52 2 V' (rs.length + 1) ((cellsR rs).take (k * 2) ++ [.int .i64 f, .slice (some ⟨g, 0, none⟩) m m] ++ (cellsR rs).drop (k * 2))) :
    OwnC w' base V' (rs.take k ++ (f, List.replicate m false, g, m) :: rs.drop k) := by
  have hl : (rs.take k ++ (f, List.replicate m false, g, m) :: rs.drop k).length = rs.length + 1 := by simp; omega
  have hc : cellsR (rs.take k ++ (f, List.replicate m false, g, m) :: rs.drop k) = (cellsR rs).take (k * 2) ++ [.int .i64 f, .slice (some ⟨g, 0, none⟩) m m] ++ (cellsR rs).drop (k * 2) := by
    rw [cellsR_take, cellsR_drop, cellsR_append]
    simp [cellsR, rv]
  refine h.outer hgr (by rw [hl, hc]; exact ho) (fun r hr => ?_) ?_
  · rcases List.mem_append.1 hr with hr | hr
    · exact .inl (List.mem_of_mem_take hr)
    · rcases List.mem_cons.1 hr with rfl | hr
      · right
        show w'.ownsRow base 4 1 (.slice (some ⟨g, 0, none⟩) (List.replicate m false).length m) (List.replicate m false).length _
        rw [List.length_replicate]
        exact hin.kept hgr (inner_ne_outer hin h.out (by decide))
      · exact .inl (List.mem_of_mem_drop hr)
  · have e : (rs.take k ++ (f, List.replicate m false, g, m) :: rs.drop k).map (·.2.2.1) = (rs.map (·.2.2.1)).take k ++ g :: (rs.map (·.2.2.1)).drop k := by simp [List.map_take, List.map_drop]
    rw [e]
    have hp : ((rs.map (·.2.2.1)).take k ++ g :: (rs.map (·.2.2.1)).drop k).Perm (g :: rs.map (·.2.2.1)) := by
      have := List.perm_middle (a := g) (l₁ := (rs.map (·.2.2.1)).take k) (l₂ := (rs.map (·.2.2.1)).drop k)
      rwa [List.take_append_drop] at this
    refine hp.nodup_iff.2 (List.nodup_cons.2 ⟨fun hm => ?_, h.nod⟩)
    obtain ⟨r, hr, he⟩ := List.mem_map.1 hm
    exact hg r hr he
theorem ins_map {o f : Int} {rs : List R} {p : Int} {g m k : Nat} (ha : Asc p (rs.map sl)) (hf : hasF f (rs.map sl) = false) (hk : k = below f (rs.map sl)) (hm : m = o.toNat) : (rs.take k ++ (f, List.replicate m false, g, m) :: rs.drop k).map sl = ins (Slb.fresh o f) (rs.map sl) := by
  rw [ins_eq (x := Slb.fresh o f) ha hf, hk, hm]
  simp [List.map_take, List.map_drop, sl, Slb.fresh]
theorem below_le {f : Int} {l : List S} : below f l ≤ l.length := List.countP_le_length
theorem ints_low {w : World} {a : Option Addr} {F : List Int} (h : Ints w a F) : 0 < F.length → ∀ b off, a = some ⟨b, off, none⟩ → b < w.heap.size := by
  intro h0 b off hb
  obtain ⟨b', off', h1, hc⟩ := h h0
  rw [hb] at h1; cases h1
  have := hc 0 h0
  by_cases hlt : b < w.heap.size
  · exact hlt
  · rw [Nat.add_zero] at this
    simp [World.cell?, Array.getElem?_eq_none (Nat.le_of_not_lt hlt)] at this
end Go.Proofs.Ythhdiiboblaclaa
