/- The walks of the laws on cut encodings and on different pages. -/
import Derived.Test.YtaapgfhcnfaemaaLaws2
import Derived.Stop.BytesEq
import Derived.Laws.Rows
namespace Go.Proofs.Ytaapgfhcnfaemaa
open Go.RowKit Go.Over Go.Zip Go.Seg
open Extern.Stop (cell)
theorem quiet_run {P : Program} {o : Oper} {a : Act} {C : World → Prop} {K : Act → Prop} {v : Value} (h : ∀ w, C w → (execOp a.eval o).run P w = .ok (.value v) w) (hk : K (a.put o.dst v)) : o.quiet P a C K :=
  ⟨v, fun w hw => by unfold Oper.quietAt; rw [h w hw]; exact ⟨rfl, rfl⟩, hk⟩
theorem run_load_row {P : Program} {w : World} {ρ : Operand → Value} {o : Oper} {ty : TypeId} {x : Operand} (ho : o.op = .load ty x) (g : Nat) (hx : ρ x = .pointer (some ⟨g, 0, none⟩)) (t : TypeId) (cs : Array Value) (fr : Nat × Nat) (d : TypeDesc) (hg : w.heap[g]? = some (.cells cs t fr))
    (hu : P.underlying ty = some d) (hd : (match d with | .struct _ | .array _ _ => true | _ => false) = true) (hi : (P.info? ty).map (·.size) = some cs.size) :
    (execOp ρ o).run P w = .ok (.value (.agg cs)) w := by
  unfold execOp
  simp only [ho, hx, Instr.loadAt, Instr.sureAddr, Sem.run_bind, Sem.run_pure, Result.andThen_ok, run_loadVar_row w g t ty cs fr d hg hu hd hi]
theorem nums_of (xs : List UInt8) : ((xs.map fun b => (b.toNat : Int)).map (Value.int .u8)) = xs.map cell := by
  rw [List.map_map]; rfl
theorem nums_bytes (xs : List UInt8) : ∀ x ∈ xs.map fun b => (b.toNat : Int), 0 ≤ x ∧ x ≤ 255 := by
  intro x hx
  obtain ⟨b, _, rfl⟩ := List.mem_map.1 hx
  have := b.toNat_lt
  omega
theorem nums_inj2 {xs ys : List UInt8} : (xs.map fun b => (b.toNat : Int)) = (ys.map fun b => (b.toNat : Int)) ↔ xs = ys := by
  constructor
  · intro h
    refine List.map_inj_right ?_ |>.1 h
    intro a b h
    exact UInt8.toNat_inj.1 (by omega)
  · rintro rfl; rfl
set_option maxRecDepth 100000 in set_option maxHeartbeats 1600000 in
theorem law_apart (xs ys : List UInt8) (hx : xs.length = 32) (hy : ys.length = 32) (cs ds : Array Value) (hcs : cs = (xs.map cell).toArray) (hds : ds = (ys.map cell).toArray) (w : World) :
    Calls Try.prog 7 #[.agg cs, .agg ds] w fun e w' => e = .returned (.bool true) ∧ Below w.heap.size w w' := by
  obtain ⟨l, hl⟩ : ∃ l, l = xs.map fun b => (b.toNat : Int) := ⟨_, rfl⟩
  obtain ⟨m, hm⟩ : ∃ l, l = ys.map fun b => (b.toNat : Int) := ⟨_, rfl⟩
  have hl32 : l.length = 32 := by rw [hl]; simpa using hx
  have hm32 : m.length = 32 := by rw [hm]; simpa using hy
  have hlb : ∀ x ∈ l, 0 ≤ x ∧ x ≤ 255 := by rw [hl]; exact nums_bytes xs
  have hmb : ∀ x ∈ m, 0 ≤ x ∧ x ≤ 255 := by rw [hm]; exact nums_bytes ys
  have hcl : cs = (l.map (Value.int .u8)).toArray := by rw [hcs, hl, nums_of]
  have hdl : ds = (m.map (Value.int .u8)).toArray := by rw [hds, hm, nums_of]
  have hsz : cs.size = 32 := by rw [hcs]; simpa using hx
  have hsz2 : ds.size = 32 := by rw [hds]; simpa using hy
  have HA := (bytes_box w 29 l cs hcl (by omega) hlb).below (below_alloc (Below.refl _ _) (.cells ds 29))
  have HB : Bytes ((w.alloc (.cells cs 29)).alloc (.cells ds 29)) (some ⟨w.heap.size + 1, 0, none⟩) m := by
    have := bytes_box (w.alloc (.cells cs 29)) 29 m ds hdl (by omega) hmb
    rw [World.size_alloc] at this; exact this
  obtain ⟨s, hs⟩ : ∃ s, strOfNums (packL l) = s := ⟨_, rfl⟩
  obtain ⟨t, ht⟩ : ∃ s, strOfNums (packL m) = s := ⟨_, rfl⟩
  obtain ⟨p, hp⟩ : ∃ q, (packL l).length = q := ⟨_, rfl⟩
  obtain ⟨q, hq⟩ : ∃ q, (packL m).length = q := ⟨_, rfl⟩
  have heq : (s.toList == t.toList) = (xs == ys) := by
    rw [← hs, ← ht, str_eq (packL_bytes hl32 hlb) (packL_bytes hm32 hmb)]
    rw [Bool.eq_iff_iff, decide_eq_true_eq, beq_iff_eq]
    constructor
    · intro h
      have h2 := unpack_pack hl32
      rw [h, unpack_pack hm32] at h2
      have h3 : m = l := Option.some.inj h2
      rw [hl, hm] at h3
      exact (nums_inj2.1 h3).symm
    · intro h; rw [hl, hm, h]
  have heq2 : (binOp .eql 29 (.agg cs) (.agg ds)) = (binOp .eql 29 (.agg (xs.map cell).toArray) (.agg (ys.map cell).toArray)) := by rw [hcs, hds]
  have hrun : ∀ w' : World, (binOp .eql 29 (.agg cs) (.agg ds)).run Try.prog w' = .ok (.bool (xs == ys)) w' := by
    intro w'
    rw [heq2]
    exact run_eql_bytes w' 29 5 32 Try.underlying29 Try.underlying5 (by intro w; kernel_rfl) xs ys hx hy
  obtain ⟨r, hr⟩ : ∃ r, (xs == ys) = r := ⟨_, rfl⟩
  rw [hr] at heq hrun
  have HE := Lib.hid heq
  have HS := Lib.hid hs; have HT := Lib.hid ht; have HP := Lib.hid hp; have HQ := Lib.hid hq
  have HL := Lib.hid hl32; have HM := Lib.hid hm32; have HZ := Lib.hid hsz; have HZ2 := Lib.hid hsz2; have HR := Lib.hid hrun
  clear hl hm hl32 hm32 hlb hmb hcl hdl hs ht hp hq heq heq2 hr hcs hds hx hy hsz hsz2 hrun
  go_enter Try.func7, Try.ntmps7
  go_wp2_with fail
  refine (pack_any_12 _ l 32 _ HA HL.out (by decide) (by unfold maxLen; omega)).mono ?_
  rintro e w2 ⟨v, rfl, hN, b2⟩
  obtain ⟨a2, c2, rfl, g2, m2, A⟩ := hN.open HP.out
  clear hN
  go_wp2_with fail
  refine (pack_any_12 _ m 32 _ (HB.below b2) HM.out (by decide) (by unfold maxLen; omega)).mono ?_
  rintro e w3 ⟨v, rfl, hN, b3⟩
  obtain ⟨a3, c3, rfl, g3, m3, B⟩ := hN.open HQ.out
  clear hN
  go_wp2_with fail
  have ta : Str w3 a2 p c2 s := (A.below b3).strs HP.out HS.out
  have tb : Str w3 a3 q c3 t := B.strs HQ.out HT.out
  have hg1 : w3.heap[w.heap.size]? = some (.cells cs 29) := by
    rw [b3.block _ (by have := b2.size; simp at this; omega), b2.block _ (by simp; omega), Below.heap_alloc (w.alloc (.cells cs 29)) (.cells ds 29) w.heap.size (by simp)]
    exact heap_new w cs 29
  have hg2 : w3.heap[w.heap.size + 1]? = some (.cells ds 29) := by
    rw [b3.block _ (by have := b2.size; simp at this; omega), b2.block _ (by simp)]
    exact heap_alloc2_new w (.cells cs 29) (.cells ds 29)
  have hlt : w.heap.size + 1 < w3.heap.size := by have := b2.size; have := b3.size; simp at *; omega
  have hB3 : Below w.heap.size w w3 := (by repeat (first | with_reducible exact Below.refl _ _ | with_reducible assumption | with_reducible refine below_alloc ?_ _ | with_reducible refine Below.drew ?_ | with_reducible refine below_drewN ?_ _ | with_reducible refine below_then ?_ (by with_reducible assumption)))
  have ua := fun u => ta (over w3 u) (below_over w3 u)
  have ub := fun u => tb (over w3 u) (below_over w3 u)
  have G1 := Lib.hid hg1; have G2 := Lib.hid hg2
  clear ta tb A B HA HB b2 b3 hg1 hg2
  refine wp_region_over (by kernel_rfl) (by kernel_rfl) ?_
  repeat (go_big_quiet_step (fail))
  go_big_quiet_want
  rename_i K hK
  refine quiet_run (v := .agg cs) (fun w' hw' => ?_) ?_
  · obtain ⟨u, rfl⟩ := hw'
    exact run_load_row rfl (w.heap.size) rfl 29 cs (0, 0) (.array 32 5) (by rw [(below_over w3 u).block _ (by omega)]; exact G1.out) Try.underlying29 rfl (by rw [HZ.out]; kernel_rfl)
  refine hK _ ?_
  clear hK K
  simp only [Act.put, List.setIfInBounds_toArray, List.set_cons_succ, List.set_cons_zero]
  go_big_quiet_want
  rename_i K hK
  refine quiet_run (v := .agg ds) (fun w' hw' => ?_) ?_
  · obtain ⟨u, rfl⟩ := hw'
    exact run_load_row rfl (w.heap.size + 1) rfl 29 ds (0, 0) (.array 32 5) (by rw [(below_over w3 u).block _ (by omega)]; exact G2.out) Try.underlying29 rfl (by rw [HZ2.out]; kernel_rfl)
  refine hK _ ?_
  clear hK K
  simp only [Act.put, List.setIfInBounds_toArray, List.set_cons_succ, List.set_cons_zero]
  go_big_quiet_want
  rename_i K hK
  refine quiet_run (v := .bool r) (fun w' hw' => ?_) ?_
  · unfold execOp
    show (do eqGuard .eql 29 (.tmp 31) (.tmp 32) (.agg cs) (.agg ds); let v ← binOp .eql 29 (.agg cs) (.agg ds); Pure.pure (Next.value v) : Sem Next).run Try.prog w' = _
    rw [Sem.run_bind, run_eqGuard_agg w' .eql 29 (.tmp 31) (.tmp 32) cs ds (by kernel_rfl)]
    simp only [Result.andThen_ok, Sem.run_bind, HR.out, Sem.run_pure]
  refine hK _ ?_
  clear hK K
  simp only [Act.put, List.setIfInBounds_toArray, List.set_cons_succ, List.set_cons_zero]
  rw [HE.out]
  repeat (go_big_quiet_step ((go_at_call 11; exact calls_over (awake_any _))))
  refine wpQuiet_nil ?_
  rintro _ ⟨u, rfl⟩
  have hO := below_over w3 u
  go_wp2
  go_ret
  exact ⟨rfl, (by repeat (first | with_reducible exact Below.refl _ _ | with_reducible assumption | with_reducible refine below_alloc ?_ _ | with_reducible refine Below.drew ?_ | with_reducible refine below_drewN ?_ _ | with_reducible refine below_then ?_ (by with_reducible assumption)))⟩
end Go.Proofs.Ytaapgfhcnfaemaa
