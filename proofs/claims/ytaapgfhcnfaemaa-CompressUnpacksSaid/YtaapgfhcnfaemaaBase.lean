/- Bytes in memory, and the library's functions on them: Equal, Clone, Repeat. -/
import Derived.Test.YtaapgfhcnfaemaaOver
import Derived.Test.YtaapgfhcnfaemaaRows
import Derived.Test.YtaapgfhcnfaemaaPure2
import Derived.Laws.BytesArg
import Derived.Laws.CopyOwn
import Derived.Lib.MakeNoZero
import Derived.Lib.Bytes
import Derived.Test.YtaapgfhcnfaemaaSeg
namespace Go.Proofs.Ytaapgfhcnfaemaa
open Go.RowKit Go.Over Go.Zip Go.Seg

/-- The bytes l lie at a (nothing is said of a where there are none). -/
def Bytes (w : World) (a : Option Addr) (l : List Int) : Prop :=
  l.length ≤ 1000000 ∧ (0 < l.length → ∃ b off, a = some ⟨b, off, none⟩ ∧ ∀ i, i < l.length → w.cell? ⟨b, off + i, none⟩ = some (.int .u8 (get l i))) ∧ ∀ x ∈ l, 0 ≤ x ∧ x ≤ 255
theorem Bytes.below {w w' : World} {a : Option Addr} {l : List Int} (h : Bytes w a l) (hb : Below w.heap.size w w') : Bytes w' a l := by
  refine ⟨h.1, fun hn => ?_, h.2.2⟩
  obtain ⟨b, off, ha, hc⟩ := h.2.1 hn
  exact ⟨b, off, ha, fun i hi => cell_later hb (hc i hi)⟩
theorem Bytes.empty (w : World) (a : Option Addr) : Bytes w a [] := ⟨by simp, fun h => by simp at h, fun x h => by simp at h⟩
theorem Bytes.bound {w : World} {a : Option Addr} {l : List Int} (h : Bytes w a l) {i : Nat} (hi : i < l.length) : 0 ≤ get l i ∧ get l i ≤ 255 := by
  have := h.2.2 (l[i]) (by simp)
  rw [get_lt hi]; exact this
theorem Bytes.str {w : World} {a : Option Addr} {l : List Int} (h : Bytes w a l) (c : Nat) : (convert 22 9 (.slice a l.length c)).run Try.prog w = .ok (.string (strOfNums l)) w := by
  by_cases h0 : 0 < l.length
  · obtain ⟨b, off, rfl, hc⟩ := h.2.1 h0
    exact run_convert_bytes_arg w 22 5 Try.underlying22 Try.underlying5 b off _ c l rfl (fun i hi => hc i hi) 9 Try.underlying9
  · obtain rfl : l = [] := List.eq_nil_of_length_eq_zero (by omega)
    cases a with
    | none => exact run_convert_bytes_nil w 22 5 Try.underlying22 Try.underlying5 _ c 9 Try.underlying9
    | some a =>
      obtain ⟨b, off, s⟩ := a
      cases s with
      | none => exact run_convert_bytes_arg w 22 5 Try.underlying22 Try.underlying5 b off _ c [] rfl (fun i hi => by simp at hi) 9 Try.underlying9
      | some s =>
        rw [run_convert_bytes_string w 22 9 5 _ _ c Try.underlying22 Try.underlying5 Try.underlying9]
        exact run_bytesToString w _ _ c [] (run_loadCells_list w _ [] (by simp))
theorem nums_inj : ∀ {l m : List Int}, (∀ x ∈ l, 0 ≤ x ∧ x ≤ 255) → (∀ x ∈ m, 0 ≤ x ∧ x ≤ 255) → (l.map fun n => UInt8.ofNat n.toNat) = (m.map fun n => UInt8.ofNat n.toNat) → l = m
  | [], [], _, _, _ => rfl
  | [], _ :: _, _, _, h => by cases h
  | _ :: _, [], _, _, h => by cases h
  | x :: l, y :: m, hl, hm, h => by
    simp only [List.map_cons, List.cons.injEq] at h
    have hx := hl x (by simp)
    have hy := hm y (by simp)
    have e : x = y := by
      have := congrArg UInt8.toNat h.1
      simp at this
      omega
    rw [e, nums_inj (fun z hz => hl z (by simp [hz])) (fun z hz => hm z (by simp [hz])) h.2]
theorem str_inj {l m : List Int} (hl : ∀ x ∈ l, 0 ≤ x ∧ x ≤ 255) (hm : ∀ x ∈ m, 0 ≤ x ∧ x ≤ 255) : strOfNums l = strOfNums m ↔ l = m := by
  constructor
  · intro h
    have := congrArg (fun s : ByteArray => s.data.toList) h
    exact nums_inj hl hm (by simpa [strOfNums_data] using this)
  · rintro rfl; rfl
theorem str_eq {l m : List Int} (hl : ∀ x ∈ l, 0 ≤ x ∧ x ≤ 255) (hm : ∀ x ∈ m, 0 ≤ x ∧ x ≤ 255) : ((strOfNums l).toList == (strOfNums m).toList) = decide (l = m) := by
  rw [Bool.eq_iff_iff, beq_iff_eq, decide_eq_true_eq, Lib.strOfNums_toList, Lib.strOfNums_toList]
  constructor
  · intro h
    exact nums_inj hl hm (by simpa [Lib.bytesOf] using h)
  · rintro rfl; rfl
set_option maxHeartbeats 1600000 in
theorem equal_any (a b : Option Addr) (l m : List Int) (c d : Nat) (w : World) (H1 : Bytes w a l) (H2 : Bytes w b m) :
    Calls Try.prog 24 #[.slice a l.length c, .slice b m.length d] w fun e w' => e = .returned (.bool (decide (l = m))) ∧ w = w' := by
  have k1 := H1.str c
  have k2 := H2.str d
  have hI := str_eq H1.2.2 H2.2.2
  go_enter Try.func24, Try.ntmps24
  go_wp2
  go_ret
  exact ⟨rfl, rfl⟩
theorem mask32 (n : Nat) (h : n ≤ 32) : bits BinOp.and IntKind.u64 (n : Int) 4294967295 = n := by
  have : ∀ k : Nat, k < 33 → bits BinOp.and IntKind.u64 (k : Int) 4294967295 = k := by decide
  exact this n (by omega)
set_option maxHeartbeats 1600000 in
theorem mul_any (n : Nat) (w : World) (h1 : n ≤ 32) :
    Calls Try.prog 34 #[.int .u64 1, .int .u64 n] w fun e w' => e = .returned (.tuple #[.int .u64 0, .int .u64 n]) ∧ w = w' := by
  have m1 := mask32 n h1
  have m0 : bits BinOp.and IntKind.u64 1 4294967295 = 1 := by decide
  have m2 : bits BinOp.and IntKind.u64 0 4294967295 = 0 := by decide
  have d1 : (n : Int) / 4294967296 = 0 := by omega
  go_enter Try.func34, Try.ntmps34
  go_wp2
  go_ret2
  exact ⟨rfl, rfl⟩
/-- The result of a call: the bytes l in memory of the call's own. -/
def Owns (w : World) (base : Nat) (v : Value) (l : List Int) : Prop := w.ownsRow base 5 1 v l.length (l.map (Value.int .u8))
/-- Bytes in new memory that nothing bars from being written. -/
def New (w : World) (base : Nat) (v : Value) (l : List Int) : Prop :=
  ∃ a c, v = .slice a l.length c ∧ l.length ≤ c ∧ c ≤ maxLen ∧ Bytes w a l ∧ (0 < l.length → ∃ b off, a = some ⟨b, off, none⟩ ∧ base ≤ b ∧ ∀ i, i < l.length → w.frozen? ⟨b, off + i, none⟩ = false)
theorem Try.info5 : (Try.prog.info? 5).map (fun i => (i.zero, i.size, i.bytes)) = some (some (.int .u8 0), 1, 1) := by kernel_rfl
theorem run_nozero (n : Nat) (hn : n ≤ 281474976710656) (w : World) :
    ∃ cs : Array Value, (callFunc 35 #[.int .i64 n]).run Try.prog w = .ok (.value (.slice (some ⟨w.heap.size, 0, none⟩) n cs.size)) (w.drew.drew.alloc (.cells cs 5)) ∧ n ≤ cs.size ∧ (n ≤ maxLen → cs.size ≤ maxLen) := by
  obtain ⟨cs, h1, h2, h3⟩ := Lib.run_makeNoZero (P := Try.prog) w #[3] 22 5 Try.underlying22 n hn
  refine ⟨cs, ?_, h2, h3⟩
  rw [run_callFunc_extern Try.func35 (by kernel_rfl) (by kernel_rfl) (by kernel_rfl) (e := Extern.BytealgMakeNoZero.makeNoZero #[3] #[22]) (by kernel_rfl), h1]
  rfl
theorem get_replicate {n i : Nat} {x : Int} (h : i < n) : get (List.replicate n x) i = x := by simp [Zip.get, h]
/-- A row of the call's own, whose first j cells hold x. -/
def Rep (g m : Nat) (x : Int) (j : Nat) (w : World) : Prop := ∃ cur : List Value, Hid (w.heap[g]? = some (.cells cur.toArray 5 (0, 0))) ∧ cur.length = m ∧ ∀ i, i < j → cur[i]? = some (.int .u8 x)
theorem heap_new (w : World) (cs : Array Value) (t : TypeId) : (w.alloc (.cells cs t)).heap[w.heap.size]? = some (.cells cs t) := by
  show (w.heap.push _)[w.heap.size]? = _; simp
set_option maxHeartbeats 1600000 in
theorem repeat_any (a : Option Addr) (c n : Nat) (x : Int) (w : World) (H : Bytes w a [x]) (h1 : 1 ≤ n) (h2 : n ≤ 32) :
    Calls Try.prog 25 #[.slice a 1 c, .int .i64 n] w fun e w' => ∃ v, e = .returned v ∧ New w' w.heap.size v (List.replicate n x) ∧ Below w.heap.size w w' := by
  obtain ⟨b, off, rfl, hcell⟩ := H.2.1 (by simp)
  have hc0 : w.cell? ⟨b, off, none⟩ = some (.int .u8 x) := hcell 0 (by simp)
  have hbw := World.block_lt_of_cell? w _ hc0
  obtain ⟨cs, hrun, hle, hmx⟩ := run_nozero n (by omega) w
  have hmx := hmx (by unfold maxLen; omega)
  unfold maxLen at hmx
  clear hcell
  have z0 : ((n : Int) == 0) = false := by simp; omega
  go_enter Try.func25, Try.ntmps25
  go_wp2_with (first | (go_at_call 34; refine (mul_any _ _ h2).mono ?_; rintro e w' ⟨rfl, rfl⟩) | (refine wpList_copy_splice rfl (.tmp 58) (.tmp 59) 22 22 rfl 5 Try.underlying22 (by kernel_rfl) (some ⟨w.heap.size, 0, none⟩) (some ⟨b, off, none⟩) n n 1 c rfl rfl w.heap.size 0 cs.toList 5 ?hg [.int .u8 x] ?hn ?hpos ?hfit ?ho w.heap.size w ?hb (Nat.le_refl _) ?_))
  case hg => rw [Array.toArray_toList]; exact heap_new w cs 5
  case hn => exact (Nat.min_eq_left h1).symm
  case hpos =>
    intro j v hj
    match j, hj with
    | 0, hj => simp at hj; subst hj; exact hc0
  case hfit => simp; omega
  case ho => intro v hv; simp at hv; subst hv; rfl
  case hb => exact (((Below.refl _ _).drew).drew).alloc (Nat.le_refl _) _
  intro w2 HG2 HB2
  have hR : Rep w.heap.size cs.size x 1 w2 := by
    refine ⟨_, HG2, ?_, ?_⟩
    · rw [length_splice _ _ _ (by simp; omega)]; simp
    · intro i hi
      obtain rfl : i = 0 := by omega
      simp [splice]
  go_wp2
  go_loopw [10] (fun k wr => ∃ j : Nat, 1 ≤ j ∧ j ≤ n ∧ k = .int .i64 j ∧ Rep w.heap.size cs.size x j wr ∧ Below w.heap.size w wr) (fun k _ => n - (intOf k).toNat)
  case atStart => exact ⟨1, Nat.le_refl _, h1, rfl, hR, HB2⟩
  case round =>
    obtain ⟨j, hj1, hj2, rfl, hR2, hB⟩ := hrel
    clear hR HB2 HG2
    by_cases hlt : j < n
    · have hmin : min (j : Int) (n : Int) = j := by omega
      obtain ⟨cur, hcur, hlen, hx⟩ := hR2
      obtain ⟨q, hq⟩ : ∃ q, q = min j (n - j) := ⟨_, rfl⟩
      have HQ := Lib.hid hq; clear hq
      go_wp2
      refine wp_region_segs (fun W => Below w.heap.size w W) [(true, 7), (false, 1), (true, 2)] (by kernel_rfl) (by kernel_rfl) hB.drew ?_
      intro W hW hWe
      simp only [wpSegs, List.take_succ_cons, List.take_zero, List.drop_succ_cons, List.drop_zero]
      repeat (go_big_quiet_step (fail))
      refine wpQuiet_nil ?_
      have hB2 : Below w.heap.size w W := hW
      have hcur2 : W.heap[w.heap.size]? = some (.cells cur.toArray 5 (0, 0)) := by rw [hWe]; exact hcur.out
      refine wpList_copy_splice rfl (.tmp 70) (.tmp 73) 22 22 rfl 5 Try.underlying22 (by kernel_rfl) (some ⟨w.heap.size, j, none⟩) (some ⟨w.heap.size, 0, none⟩) (n - j) (n - j) j n rfl rfl w.heap.size j cur 5 hcur2 (List.replicate q (Value.int .u8 x)) ?hn ?hpos ?hfit ?ho w.heap.size w hB2 (Nat.le_refl _) ?_
      case hn => rw [List.length_replicate]; exact HQ.out
      case hfit => rw [List.length_replicate, HQ.out, hlen]; omega
      case ho => intro v hv; rw [List.eq_of_mem_replicate hv]; rfl
      case hpos =>
        intro _
        refine ⟨rfl, _, rfl, fun k v hk => ?_⟩
        rw [show (⟨w.heap.size, 0, none⟩ : Addr).add k = ⟨w.heap.size, k, none⟩ by unfold Addr.add; split <;> simp_all]
        have hk2 : k < q := by
          rw [List.getElem?_eq_some_iff] at hk
          obtain ⟨h, _⟩ := hk
          simpa using h
        rw [List.getElem?_replicate, if_pos hk2] at hk
        cases hk
        have := HQ.out
        simp [World.cell?, hcur2, hx k (by omega)]
      intro w4 hg4 hb4
      rw [List.length_replicate]
      refine wpList_nil ⟨hold_of hb4, ?_⟩
      simp only [Act.put, List.setIfInBounds_toArray, List.set_cons_succ, List.set_cons_zero]
      have q1 : q ≤ 32 := by have := HQ.out; omega
      have q2 : IntKind.i64.wrap ((j : Int) + (q : Int)) = (j : Int) + (q : Int) := IntWalk.i64_in _ (by omega)
      repeat (go_big_quiet_step (fail))
      refine wpQuiet_nil ?_
      refine NoPanic.normal ?_
      go_wp2
      go_roundw
      case rel =>
        have hq := HQ.out
        refine ⟨j + q, by omega, by omega, by go_num, ⟨_, hg4, ?_, ?_⟩, hb4⟩
        · rw [length_splice _ _ _ (by rw [List.length_replicate, hlen]; omega)]; exact hlen
        · intro i hi
          by_cases hij : i < j
          · simp only [splice]
            rw [List.getElem?_append_left (by simp; omega), List.getElem?_take, if_pos hij]
            exact hx i hij
          · simp only [splice]
            rw [List.getElem?_append_right (by simp; omega), List.getElem?_append_left (by simp; omega)]
            rw [List.getElem?_replicate, if_pos (by simp; omega)]
      case measure => have := HQ.out; simp [intOf]; omega
    · have hjn : j = n := by omega
      subst hjn
      go_wp2
      go_ret
      obtain ⟨cur, hcur, hlen, hx⟩ := hR2
      refine ⟨.slice (some ⟨w.heap.size, 0, none⟩) j j, rfl, ⟨some ⟨w.heap.size, 0, none⟩, j, by rw [List.length_replicate], by rw [List.length_replicate]; exact Nat.le_refl _, by unfold maxLen; omega, ⟨by rw [List.length_replicate]; omega, fun _ => ⟨_, 0, rfl, fun i hi => ?_⟩, ?_⟩, fun _ => ⟨_, 0, rfl, Nat.le_refl _, fun i hi => ?_⟩⟩, hB⟩
      · rw [List.length_replicate] at hi
        have := hcur.out
        rw [Nat.zero_add, get_replicate hi]
        simp [World.cell?, this, hx i hi]
      · intro y hy
        rw [List.eq_of_mem_replicate hy]
        exact H.2.2 x (by simp)
      · have := hcur.out
        simp [World.frozen?, this]
/-- A value that the call owns, as bytes that can be read. -/
theorem Owns.new {w : World} {base : Nat} {v : Value} {l : List Int} (h : Owns w base v l) (hb : ∀ x ∈ l, 0 ≤ x ∧ x ≤ 255) (hl : l.length ≤ 1000000) : New w base v l := by
  obtain ⟨_, h⟩ := h
  rcases h with ⟨rfl, h0⟩ | ⟨g, cap, cur, rfl, hg, hh, hn, hc, hcs, ht⟩
  · obtain rfl : l = [] := List.eq_nil_of_length_eq_zero h0
    exact ⟨none, 0, rfl, Nat.le_refl _, Nat.zero_le _, Bytes.empty w none, fun h => by simp at h⟩
  · have hlt : ∀ i, i < l.length → w.cell? ⟨g, 0 + i, none⟩ = some (.int .u8 (get l i)) := by
      intro i hi
      rw [Nat.zero_add]
      have e : cur[i]? = some (.int .u8 (get l i)) := by
        have h1 : (cur.toList.take (l.length * 1))[i]? = (l.map (Value.int .u8))[i]? := by rw [ht]
        rw [List.getElem?_take, if_pos (by omega)] at h1
        rw [← Array.getElem?_toList, h1]
        simp [Zip.get, hi]
      simp [World.cell?, hh, e]
    exact ⟨_, cap, rfl, hn, hc, ⟨hl, fun _ => ⟨g, 0, rfl, hlt⟩, hb⟩, fun _ => ⟨g, 0, rfl, hg, fun i _ => by simp [World.frozen?, hh]⟩⟩
theorem New.below {w w' : World} {base : Nat} {v : Value} {l : List Int} (h : New w base v l) (hb : Below w.heap.size w w') : New w' base v l := by
  obtain ⟨a, c, rfl, h1, h2, h3, h4⟩ := h
  refine ⟨a, c, rfl, h1, h2, h3.below hb, fun h0 => ?_⟩
  obtain ⟨b, off, ha, hbb, hf⟩ := h4 h0
  refine ⟨b, off, ha, hbb, fun i hi => ?_⟩
  obtain ⟨b', off', ha', hc⟩ := h3.2.1 h0
  rw [ha] at ha'
  cases ha'
  have := World.block_lt_of_cell? w _ (hc i hi)
  rw [hb.frozen (p := ⟨b, off + i, none⟩) this]
  exact hf i hi
theorem Owns.nil (w : World) (base : Nat) : Owns w base (.slice none 0 0) [] := World.ownsRow_nil w base 5 1
theorem Bytes.ne {w : World} {a : Option Addr} {l : List Int} (h : Bytes w a l) (h0 : l ≠ []) : ∃ b off, a = some ⟨b, off, none⟩ ∧ ∀ i, i < l.length → w.cell? ⟨b, off + i, none⟩ = some (.int .u8 (get l i)) :=
  h.2.1 (List.length_pos_iff.2 h0)
theorem Bytes.cells {w : World} {a : Addr} {l : List Int} (h : Bytes w (some a) l) : ∀ j u, (l.map (Value.int .u8))[j]? = some u → w.cell? (a.add j) = some u := by
  intro j u hj
  have hlt : j < l.length := by
    rw [List.getElem?_eq_some_iff] at hj
    obtain ⟨h, _⟩ := hj
    simpa using h
  obtain ⟨b, off, ha, hc⟩ := h.2.1 (by omega)
  cases ha
  rw [show (⟨b, off, none⟩ : Addr).add j = ⟨b, off + j, none⟩ by unfold Addr.add; split <;> simp_all, hc j hlt]
  simp [hlt] at hj
  rw [get_lt hlt, hj]
theorem u8_one (l : List Int) : ∀ u ∈ l.map (Value.int .u8), u.oneCell' = true := by
  intro u hu
  simp only [List.mem_map] at hu
  obtain ⟨x, _, rfl⟩ := hu
  rfl
theorem owns_empty (w : World) : Owns (w.alloc (.cells #[] 5)) w.heap.size (.slice (some ⟨w.heap.size, 0, none⟩) 0 0) [] :=
  World.ownsRow_made w #[] 0 (Nat.le_refl _) (Nat.zero_le _) rfl
set_option maxHeartbeats 1600000 in
theorem clone_any (a : Option Addr) (l : List Int) (c : Nat) (w : World) (H : Bytes w a l) (hs : a = none → c = 0) :
    Calls Try.prog 28 #[.slice a l.length c] w fun e w' => ∃ v, e = .returned v ∧ New w' w.heap.size v l ∧ Below w.heap.size w w' := by
  cases a with
  | none =>
    obtain rfl := hs rfl
    obtain rfl : l = [] := by
      apply Classical.byContradiction
      intro h
      obtain ⟨b, off, h, _⟩ := H.ne h
      cases h
    have k1 := fun w' => Lib.run_eql_slice_nil (P := Try.prog) w' 22 5 none 0 0 0 0 Try.underlying22
    go_enter Try.func28, Try.ntmps28
    go_wp2
    go_ret
    exact ⟨_, rfl, ⟨none, 0, rfl, Nat.le_refl _, Nat.zero_le _, Bytes.empty w none, fun h => by simp at h⟩, Below.refl _ _⟩
  | some x =>
    have k1 := fun w' => Lib.run_eql_slice_nil (P := Try.prog) w' 22 5 (some x) l.length c 0 0 Try.underlying22
    obtain ⟨i0, hi, hz0, hz1, hz2⟩ := info_parts Try.info5
    have hlen := H.1
    go_enter Try.func28, Try.ntmps28
    go_wp2_with (at_builtin; refine wpList_append_own _ rfl (.tmp 5) (.tmp 6) 22 rfl w.heap.size 5 i0 (.int .u8 0) 1 1 Try.underlying22 hi hz0 hz1 hz2 rfl (by decide) _ _ _ rfl (owns_empty w) x l.length c (l.map (Value.int .u8)) rfl ?c1 ?c2 (u8_one l) ?c3 ?c4 ?c5 ?_)
    case c1 => simp
    case c2 => exact Bytes.cells (H.below (below_alloc (Below.refl _ _) _))
    case c3 => simp; unfold maxLen; omega
    case c4 => simp; omega
    case c5 => simp
    intro v' w1 hown hgrow _
    have hB : Below w.heap.size w w1 := (below_alloc (Below.refl _ _) _).grown hgrow (by simp) (fun k hk => by simp [Value.ownBlock] at hk; omega)
    clear hgrow
    go_wp2
    go_ret
    exact ⟨v', rfl, Owns.new hown H.2.2 hlen, hB⟩
theorem equal_n (a b : Option Addr) (l m : List Int) (n k c d : Nat) (w : World) (H1 : Bytes w a l) (H2 : Bytes w b m) (hn : l.length = n) (hk : m.length = k) :
    Calls Try.prog 24 #[.slice a n c, .slice b k d] w fun e w' => e = .returned (.bool (decide (l = m))) ∧ w = w' := by
  subst hn; subst hk; exact equal_any a b l m c d w H1 H2
theorem Bytes.one {w : World} {a : Option Addr} {l : List Int} (h : Bytes w a l) (h0 : 0 < l.length) : Bytes w a [get l 0] := by
  refine ⟨by simp, fun _ => ?_, fun x hx => ?_⟩
  · obtain ⟨b, off, ha, hc⟩ := h.2.1 h0
    refine ⟨b, off, ha, fun i hi => ?_⟩
    obtain rfl : i = 0 := by simpa using hi
    exact hc 0 h0
  · simp only [List.mem_singleton] at hx
    rw [hx]; exact h.bound h0
theorem full_iff {l : List Int} (h : l.length = 32) : fullB l = decide (l = List.replicate 32 (get l 0)) := by
  rw [Bool.eq_iff_iff, decide_eq_true_eq]
  constructor
  · exact full_eq
  · intro e
    simp only [fullB, Bool.and_eq_true, decide_eq_true_eq, List.all_eq_true, beq_iff_eq]
    refine ⟨h, fun x hx => ?_⟩
    rw [e] at hx
    exact List.eq_of_mem_replicate hx
set_option maxHeartbeats 1600000 in
theorem filled_no (a : Option Addr) (l : List Int) (c : Nat) (w : World) (H : Bytes w a l) (h : l.length ≠ 32) :
    Calls Try.prog 14 #[.slice a l.length c] w fun e w' => e = .returned (.tuple #[.int .u8 0, .bool false]) ∧ w = w' := by
  have hl := H.1
  have hn : ((l.length : Int) != 32) = true := by simp; omega
  clear h
  go_enter Try.func14, Try.ntmps14
  go_wp2
  go_ret2
  exact ⟨rfl, rfl⟩
set_option maxHeartbeats 1600000 in
theorem filled_32 (a : Option Addr) (l : List Int) (c : Nat) (w : World) (H : Bytes w a l) (h : l.length = 32) (hc : 32 ≤ c) (hm : c ≤ maxLen) :
    Calls Try.prog 14 #[.slice a 32 c] w fun e w' => e = .returned (.tuple #[.int .u8 (if fullB l = true then get l 0 else 0), .bool (fullB l)]) ∧ Below w.heap.size w w' := by
  have hF := full_iff h
  have H1 := H.one (by omega)
  obtain ⟨b, off, rfl, hcell⟩ := H.2.1 (by omega)
  have c0 : w.cell? ⟨b, off, none⟩ = some (.int .u8 (get l 0)) := hcell 0 (by omega)
  have hbw := World.block_lt_of_cell? w _ c0
  unfold maxLen at hm
  clear hcell
  have HF := Lib.hid hF; clear hF
  have HL := Lib.hid h; clear h
  cases hb : fullB l
  all_goals
    rw [hb] at HF
    have HF2 := Lib.hid HF.out.symm
    go_enter Try.func14, Try.ntmps14
    go_wp2_with (first | (go_at_call 25; refine (repeat_any _ _ 32 (get l 0) _ H1 (by decide) (by decide)).mono ?_; rintro e w1 ⟨v, rfl, ⟨a2, c2, rfl, hN1, hN2, hN3, _⟩, hbel⟩; obtain ⟨hc2, hf2, hz2⟩ := bcell2 hbel; rw [List.length_replicate] at hN1; rw [List.length_replicate]) | (go_at_call 24; refine (equal_n _ _ l (List.replicate 32 (get l 0)) _ _ _ _ _ (H.below hbel) hN3 HL.out (List.length_replicate ..)).mono ?_; rintro e w' ⟨rfl, rfl⟩; rw [HF2.out]))
    go_ret2
    exact ⟨by simp, (by repeat (first | with_reducible exact Below.refl _ _ | with_reducible assumption | with_reducible refine below_alloc ?_ _ | with_reducible refine Below.setCell ?_ (by first | exact Nat.le_refl _ | (simp; done) | (simp; omega)) _ | with_reducible refine Below.drew ?_ | with_reducible refine below_drewN ?_ _ | with_reducible refine below_then ?_ (by with_reducible assumption)))⟩
end Go.Proofs.Ytaapgfhcnfaemaa
