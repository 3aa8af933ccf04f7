/- Walks: the laws on plays; a request succeeds exactly if a block is there. -/
import Derived.Test.YtkiiifmofmbniaaDoorL2
namespace Go.Mob
open Go.Can
def heldB (l : List Hd) (x : Int) : Prop := ∃ b ∈ l, In b.1 b.2 x
theorem heldB_nil {x : Int} : ¬ heldB [] x := fun ⟨b, h, _⟩ => by simp at h
theorem heldB_snoc {l : List Hd} {b : Hd} {x : Int} : heldB (l ++ [b]) x ↔ heldB l x ∨ In b.1 b.2 x := by
  unfold heldB
  constructor
  · rintro ⟨c, hc, h⟩
    rcases List.mem_append.1 hc with h1 | h1
    · exact .inl ⟨c, h1, h⟩
    · obtain rfl := List.mem_singleton.1 h1
      exact .inr h
  · rintro (⟨c, hc, h⟩ | h)
    · exact ⟨c, List.mem_append_left _ hc, h⟩
    · exact ⟨b, List.mem_append_right _ (List.mem_singleton.2 rfl), h⟩
/-- A held block is apart from those ahead of it. -/
theorem PI.ahead {s : P × List Hd} (h : PI s) {i : Nat} {b : Hd} (hb : s.2[i]? = some b) {x : Int} (hx : In b.1 b.2 x) : ¬ heldB (s.2.take i) x := by
  rintro ⟨c, hc, hcx⟩
  obtain ⟨j, hj⟩ := List.getElem?_of_mem hc
  rw [List.getElem?_take] at hj
  split at hj
  · exact pair_two (fun a b hab x h1 h2 => hab x h2 h1) h.d hb hj (by omega) x hx hcx
  · cases hj
theorem PI.range {s : P × List Hd} (h : PI s) {b : Hd} (hb : b ∈ s.2) : b.2 < 5 ∧ 32 ≤ b.1 ∧ b.1 < 80 ∧ b.1 + pw b.2 ≤ 80 := by
  have hr := h.r b hb
  obtain ⟨z1, z2, _⟩ := ins_lt h.v.l.rng (show b.2 < 5 by have := hr.1; omega) hr.2
  obtain ⟨i1, i2, _⟩ := ins_open hr.2
  have hs := h.b0; have hn := h.n
  exact ⟨by have := hr.1; omega, by omega, by omega, by omega⟩
theorem parts {k : Nat} (hk : k < 5) : ∃ m q : Nat, 2 ^ k = m ∧ m * q = 48 ∧ 0 < m ∧ m ≤ 16 ∧ pw k = (m : Int) ∧ (32 : Int) % (m : Int) = 0 := by
  rcases (show k = 0 ∨ k = 1 ∨ k = 2 ∨ k = 3 ∨ k = 4 by omega) with rfl | rfl | rfl | rfl | rfl
  · exact ⟨1, 48, rfl, rfl, by decide, by decide, rfl, rfl⟩
  · exact ⟨2, 24, rfl, rfl, by decide, by decide, rfl, rfl⟩
  · exact ⟨4, 12, rfl, rfl, by decide, by decide, rfl, rfl⟩
  · exact ⟨8, 6, rfl, rfl, by decide, by decide, rfl, rfl⟩
  · exact ⟨16, 3, rfl, rfl, by decide, by decide, rfl, rfl⟩
/-- Block number a of an order is not held. -/
def openAt (l : List Hd) (m a : Nat) : Prop := ∀ x : Nat, 32 + m * a ≤ x → x < 32 + m * a + m → ¬ heldB l (x : Int)
theorem ask_iff {s : P × List Hd} (h : PI s) {k m q : Nat} (hk : k < 5) (hm : pw k = (m : Int)) (hq : m * q = 48) (h0 : 0 < m) (h32 : (32 : Int) % (m : Int) = 0) :
    (∃ g, R s.1 g k ∧ ∀ x, In g k x → ∀ b ∈ s.2, ¬ In b.1 b.2 x) ↔ ∃ a, a < q ∧ openAt s.2 m a := by
  have hs := h.b0; have hn := h.n
  constructor
  · rintro ⟨g, hg, hx⟩
    obtain ⟨i1, i2, i3⟩ := ins_open hg.2
    rw [hm] at i3
    have e1 : (m : Int) * ((g - 32) / (m : Int)) = g - 32 := Int.mul_ediv_cancel' (Int.dvd_of_emod_eq_zero (by rw [Int.sub_emod, i3, h32]; simp))
    have hd0 : 0 ≤ (g - 32) / (m : Int) := Int.ediv_nonneg (by omega) (by omega)
    obtain ⟨a, ha⟩ : ∃ a : Nat, (g - 32) / (m : Int) = (a : Int) := ⟨((g - 32) / (m : Int)).toNat, by omega⟩
    rw [ha] at e1
    have hlt : a < q := by
      have h1 : (m : Int) * (a : Int) < 48 := by omega
      have h2 : m * a < m * q := by rw [hq]; exact_mod_cast h1
      exact Nat.lt_of_mul_lt_mul_left h2
    refine ⟨a, hlt, fun x h1 h2 => ?_⟩
    rintro ⟨b, hb, hbx⟩
    refine hx x ⟨?_, ?_⟩ b hb hbx
    · have : ((32 + m * a : Nat) : Int) ≤ (x : Int) := by exact_mod_cast h1
      push_cast at this
      omega
    · have : (x : Int) < ((32 + m * a + m : Nat) : Int) := by exact_mod_cast h2
      push_cast at this
      rw [hm]
      omega
  · rintro ⟨a, ha, ho⟩
    have h1 : m * a + m ≤ 48 := by rw [← hq, ← Nat.mul_succ]; exact Nat.mul_le_mul_left _ ha
    have h2 : ((m * a + m : Nat) : Int) ≤ 48 := by exact_mod_cast h1
    push_cast at h2
    refine ⟨32 + (m : Int) * (a : Int), ⟨by omega, ?_⟩, fun x hx b hb hbx => ?_⟩
    · unfold insB
      rw [decide_eq_true_eq, hm, hs, hn]
      have h3 : 0 ≤ (m : Int) * (a : Int) := Int.mul_nonneg (by omega) (by omega)
      refine ⟨by omega, by omega, ?_⟩
      rw [Int.add_mul_emod_self_left, h32]
    · have hx1 := hx.1; have hx2 := hx.2
      rw [hm] at hx2
      have h3 : 0 ≤ (m : Int) * (a : Int) := Int.mul_nonneg (by omega) (by omega)
      obtain ⟨n, hn'⟩ : ∃ n : Nat, x = (n : Int) := ⟨x.toNat, by omega⟩
      subst hn'
      refine ho n ?_ ?_ ⟨b, hb, hbx⟩
      · have : ((32 + m * a : Nat) : Int) ≤ (n : Int) := by push_cast; exact hx1
        exact_mod_cast this
      · have : (n : Int) < ((32 + m * a + m : Nat) : Int) := by push_cast; exact hx2
        exact_mod_cast this
end Go.Mob
namespace Go.Proofs.YtkiiifmofmbniaaDoor
open Go.RowKit Go.Over Go.Mob Go.Can Go.Seg Go.Grow
def marks (f : Nat → Bool) : List Value := (List.range 96).map fun i => .bool (f i)
theorem marks_len (f : Nat → Bool) : (marks f).length = 96 := by simp [marks]
theorem marks_get (f : Nat → Bool) {i : Nat} (h : i < 96) : (marks f)[i]? = some (.bool (f i)) := by simp [marks, h]
def falses96 : Array Value := Array.replicate 96 (.bool false)
theorem zero_44 (W : World) : (zeroValue 44).run Tryd.prog W = .ok (.agg falses96) W := by
  have h : (Tryd.prog.info? 44).map (fun i => i.zero) = some (some (.agg falses96)) := by kernel_rfl
  cases hi : Tryd.prog.info? 44 with
  | none => rw [hi] at h; cases h
  | some i =>
    rw [hi] at h
    simp at h
    simp [zeroValue, typeInfo, hi, h, go_sem]
theorem marks_nil : falses96 = (marks fun _ => false).toArray := by
  apply Array.ext'
  unfold falses96
  rw [Array.toList_replicate]
  apply List.ext_getElem?
  intro k
  rcases Nat.lt_or_ge k 96 with hk | hk
  · rw [marks_get _ hk, List.getElem?_replicate, if_pos hk]
  · rw [List.getElem?_eq_none (by rw [List.length_replicate]; exact hk), List.getElem?_eq_none (by rw [marks_len]; exact hk)]
theorem marks_put (f : Nat → Bool) {i : Nat} : (marks f).set i (.bool true) = marks (fun j => f j || decide (j = i)) := by
  apply List.ext_getElem?
  intro k
  rcases Nat.lt_or_ge k 96 with hk | hk
  · rw [marks_get _ hk]
    by_cases hik : i = k
    · subst hik
      rw [List.getElem?_set_self (by rw [marks_len]; exact hk)]
      simp
    · rw [List.getElem?_set_ne hik, marks_get _ hk]
      have : decide (k = i) = false := by simp; omega
      rw [this, Bool.or_false]
  · rw [List.getElem?_eq_none (by rw [List.length_set, marks_len]; exact hk), List.getElem?_eq_none (by rw [marks_len]; exact hk)]
/-- A mark is set: page blocks, held blocks and others stay. -/
theorem VP.mark {w W : World} {g gt : Nat} {cs bs : List Value} {p : P} (h : VP w g cs p W) (hB : Blk W gt 44 bs) (hl : w.heap.size ≤ gt) (i : Nat) (u : Value) : VP w g cs p (W.setCell ⟨gt, i, .none⟩ u) :=
  ⟨h.b.setCell (p := ⟨gt, i, .none⟩) hl u, h.l, h.x.far (p := ⟨gt, i, .none⟩) (h.x.ne_type hB (by decide)) u, OwnP.far h.o hB (by decide) i u⟩
theorem HO.mark {W : World} {B gt : Nat} {bs : List Value} {v : Value} {l : List Hd} (h : HO W B v l) (hB : Blk W gt 44 bs) (i : Nat) (u : Value) : HO (W.setCell ⟨gt, i, .none⟩ u) B v l := by
  have hgr : W.grownBy (W.setCell ⟨gt, i, .none⟩ u) (some gt) := ⟨rfl, rfl, rfl, by simp [World.setCell], fun k _ hk => Below.heap_setCell W ⟨gt, i, .none⟩ u k (fun e => hk (by rw [e]))⟩
  exact World.ownsRow.kept h hgr (.inr (hB.not_own h (by decide)))
set_option maxRecDepth 100000 in set_option maxHeartbeats 3200000 in
theorem serves_7 (x y z ao at' : Nat) (a : Option Addr) (l : List Stp) (n c : Nat) (w : World) (hx : x < 256) (hy : y < 256) (hz : z < 256) (ho : ao < 256) (ht : at' < 256) (HO0 : Ops w a l) (hn : l.length = n) (hFB : FB w) :
    Calls Tryd.prog 7 #[.agg #[.int .u8 x, .int .u8 y, .int .u8 z], .slice a n c, .agg #[.int .u8 ao, .int .u8 at']] w fun e w' => e = .returned (.bool true) ∧ Below w.heap.size w w' := by
  obtain ⟨s, hS, hPI, hsl⟩ := play_start (x := x) (y := y) (z := z) l
  have HS := Lib.hid hS; have HPI := Lib.hid hPI; have HN := Lib.hid hn; have HSL := Lib.hid hsl
  clear hS hPI hn hsl
  go_enter Tryd.func7, Tryd.ntmps7
  go_wp2_with fail
  obtain ⟨w0, hw0⟩ : ∃ W, W = (w.alloc (.cells #[.int .u8 x, .int .u8 y, .int .u8 z] 38)).alloc (.cells #[.int .u8 ao, .int .u8 at'] 40) := ⟨_, rfl⟩
  have b0 : Below w.heap.size w w0 := by rw [hw0]; exact below_then (below_box _ _) (below_box _ _)
  have X0 : Blk w0 w.heap.size 38 [.int .u8 x, .int .u8 y, .int .u8 z] := by rw [hw0]; exact (Blk.new w 38 #[.int .u8 x, .int .u8 y, .int .u8 z] _ rfl).later (below_box _ _)
  rw [← hw0]
  refine (awake_12 _ (hFB.below b0)).mono ?_
  rintro e w1 ⟨rfl, b1⟩
  have B1 := below_then b0 b1
  by_cases h30 : 30 < n
  · have t0 : decide ((30 : Int) < (n : Int)) = true := by simp; omega
    go_wp2_with fail
    refine (awake_12 _ (hFB.below B1)).mono ?_
    rintro e w2 ⟨rfl, b2⟩
    go_wp2
    go_ret
    exact ⟨rfl, below_then B1 b2⟩
  have t0 : decide ((30 : Int) < (n : Int)) = false := by simp; omega
  have hle : n ≤ 30 := by omega
  have x0 := (X0.later b1).cell 0
  have x1 := (X0.later b1).cell 1
  have x2 := (X0.later b1).cell 2
  simp only [List.getElem?_cons_zero, List.getElem?_cons_succ] at x0 x1 x2
  clear h30 b0
  go_wp2_with fail
  clear x0 x1 x2 X0
  refine (play_23 x y z a l n c w1 hx hy hz (HO0.below B1) HN.out (by omega) (hFB.below B1) s HS.out).mono ?_
  rintro e w2 ⟨cs1, a9, c9, rfl, hO, hH, b2⟩
  have hO2 := MixP.weaken hO B1.size
  have hH2 : HO w2 w.heap.size (.slice a9 s.2.length c9) s.2 := own_weaken hH B1.size
  have B2 := below_then B1 b2
  have hz2 := Blk.new w2 26 #[.int .i64 0, .slice none 0 0, .slice none 0 0, .slice none 0 0, .slice none 0 0, .slice none 0 0, .slice none 0 0, .slice none 0 0, .slice none 0 0, .slice none 0 0, .slice none 0 0, .slice none 0 0, .slice none 0 0, .slice none 0 0, .slice none 0 0, .slice none 0 0, .slice none 0 0] zP rfl
  have h1c := (MixP.pv hO2).one
  have hlen := (MixP.pv hO2).len
  obtain ⟨m, hm⟩ : ∃ m, s.2.length = m := ⟨_, rfl⟩
  rw [hm] at hH2 ⊢
  go_upto_region 4 with ((with_reducible refine st26 (cs := cs1) ?_ ?_ hz2 zP_len hlen h1c ?_); (focus rfl); (focus rfl); intro w3 hB3 hg3)
  have V3 := VP.new hO2 B2 hz2 hB3 hg3
  have b3 : Below w2.heap.size w2 w3 := (below_box w2 (.cells #[.int .i64 0, .slice none 0 0, .slice none 0 0, .slice none 0 0, .slice none 0 0, .slice none 0 0, .slice none 0 0, .slice none 0 0, .slice none 0 0, .slice none 0 0, .slice none 0 0, .slice none 0 0, .slice none 0 0, .slice none 0 0, .slice none 0 0, .slice none 0 0, .slice none 0 0] 26)).grown hg3 (by simp) (fun k hk => Nat.le_of_eq (Option.some.inj hk))
  have H3 := HO.later hH2 b3
  have HM := Lib.hid hm
  have hm30 : m ≤ 30 := by have := HSL.out; have := HN.out; omega
  obtain ⟨g, hg⟩ : ∃ g, w2.heap.size = g := ⟨_, rfl⟩
  rw [hg] at V3 ⊢
  have Y0 : Blk w0 (w.heap.size + 1) 40 [.int .u8 ao, .int .u8 at'] := by
    have := Blk.new (w.alloc (.cells #[.int .u8 x, .int .u8 y, .int .u8 z] 38)) 40 #[.int .u8 ao, .int .u8 at'] [.int .u8 ao, .int .u8 at'] rfl
    rw [show (w.alloc (.cells #[.int .u8 x, .int .u8 y, .int .u8 z] 38)).heap.size = w.heap.size + 1 by simp] at this
    rw [hw0]; exact this
  have Y3 := ((Y0.later b1).later b2).later b3
  clear Y0
  clear hg hB3 hg3 hz2 h1c hlen hO2 B2 hO hH hH2 b2 b3 hm HS hw0 b1 B1
  have hz44 := zero_44
  have b4 := below_box w3 (.cells falses96 44)
  have S4 : Blk (w3.alloc (.cells falses96 44)) w3.heap.size 44 (marks fun _ => false) := Blk.new w3 44 falses96 _ marks_nil
  go_upto_region 7 with fail
  clear hz44
  obtain ⟨w4, hw4⟩ : ∃ W, W = w3.alloc (.cells falses96 44) := ⟨_, rfl⟩
  rw [← hw4] at b4 S4 ⊢
  obtain ⟨gt, hgt⟩ : ∃ g, w3.heap.size = g := ⟨_, rfl⟩
  rw [hgt] at S4 ⊢
  have V4 := V3.below b4
  have H4 := HO.later H3 b4
  have Y4 := Y3.later b4
  have hlt : w.heap.size ≤ gt := by have := V3.b.size; omega
  clear hw4 hgt V3 H3 Y3 b4
  go_wp2
  go_loopg [41] m (fun gg v41 wr => ∃ (i : Nat) (F : Nat → Bool), i + gg = m ∧ v41 = .int .i64 i ∧ VP w g cs1 s.1 wr ∧ HO wr w.heap.size (.slice a9 m c9) s.2 ∧ Blk wr gt 44 (marks F) ∧ Blk wr (w.heap.size + 1) 40 [.int .u8 ao, .int .u8 at'] ∧ ∀ x : Nat, x < 96 → (F x = true ↔ heldB (s.2.take i) (x : Int)))
  case atStart => exact ⟨0, _, by omega, rfl, V4, H4, S4, Y4, fun x _ => ⟨fun h => (by cases h), fun h => absurd h (by rw [List.take_zero]; exact heldB_nil)⟩⟩
  case round =>
    clear V4 H4 S4 Y4
    obtain ⟨i, F, hg, rfl, V5, H5, S5, Y5, hF⟩ := hrel
    cases gk with
    | zero =>
      have him : ¬ i < m := by omega
      have hF' : ∀ x : Nat, x < 96 → (F x = true ↔ heldB s.2 (x : Int)) := by
        rw [List.take_of_length_le (by have := HM.out; omega)] at hF
        exact hF
      have HF := Lib.hid hF'
      clear hg hF hF' H5
      have y0 := Y5.cell 0
      have y1 := Y5.cell 1
      simp only [List.getElem?_cons_zero, List.getElem?_cons_succ] at y0 y1
      obtain ⟨k, hk⟩ : ∃ k, ao % 5 = k := ⟨_, rfl⟩
      obtain ⟨t, ht'⟩ : ∃ t, at' % 3 = t := ⟨_, rfl⟩
      have hk5 : k < 5 := by omega
      have ht3 : t < 3 := by omega
      have ek : (ao : Int) % 5 = (k : Int) := by omega
      have et : (at' : Int) % 3 = (t : Int) := by omega
      obtain ⟨mm, qq, hm1, hm2, hm3, hm4, hm5, hm6⟩ := parts hk5
      have HASK := Lib.hid (ask_iff HPI.out hk5 hm5 hm2 hm3 hm6)
      have HW := Lib.hid (show wrap64 ((2 : Int) ^ k) = (mm : Int) by rw [← hm1]; exact wrap_pow hk5)
      have HTOP := Lib.hid (show 32 + mm * qq = 80 by omega)
      have HSTP := Lib.hid (show ∀ a, a < qq → 32 + mm * a + mm ≤ 80 ∧ 32 + mm * (a + 1) = 32 + mm * a + mm from fun a ha => by
        have h1 : mm * a + mm ≤ 48 := by rw [← hm2, ← Nat.mul_succ]; exact Nat.mul_le_mul_left _ ha
        have h2 : mm * (a + 1) = mm * a + mm := Nat.mul_succ _ _
        omega)
      clear hk ht' hm1 hm2 hm5 hm6
      go_wp2
      clear ek
      go_loopg [15, 16] qq (fun gg v15 v16 wi => ∃ (a : Nat) (B : Bool), a + gg = qq ∧ v16 = .int .i64 ((32 + mm * a : Nat) : Int) ∧ v15 = .bool B ∧ (B = true ↔ ∃ a', a' < a ∧ openAt s.2 mm a') ∧ wr = wi)
      case atStart => exact ⟨0, false, by omega, by rw [Nat.mul_zero]; rfl, rfl, ⟨fun h => (by cases h), fun ⟨a', h, _⟩ => by omega⟩, rfl⟩
      case round =>
        obtain ⟨a, B, hq, rfl, rfl, hB, rfl⟩ := hrel
        cases gk with
        | zero =>
          obtain rfl : a = qq := by omega
          rw [HTOP.out]
          have hBB : B = true ↔ ∃ g, Mob.R s.1 g k ∧ ∀ x, In g k x → ∀ b ∈ s.2, ¬ In b.1 b.2 x := by rw [hB]; exact HASK.out.symm
          have hsv := serves HPI.out hk5 ht3
          obtain ⟨RR, hR⟩ : ∃ R, allocP s.1 (k : Int) (t : Int) = R := ⟨_, rfl⟩
          obtain ⟨rq, rf, re⟩ := RR
          rw [hR] at hsv
          have hcase : (B = true ∧ re = 0) ∨ (B = false ∧ re = 16) := by
            rcases hsv with ⟨h1, q', f', h2⟩ | ⟨h1, h2⟩
            · left; cases h2; exact ⟨hBB.2 h1, rfl⟩
            · right
              cases h2
              refine ⟨?_, rfl⟩
              cases hb : B with
              | false => rfl
              | true => exact absurd (hBB.1 hb) h1
          have HR := Lib.hid hR
          clear hq hB hBB hsv hR
          go_wp2_with ((with_reducible refine ld ?_ V5.x V5.v.len ?_); (focus rfl))
          refine (alloc_19 _ s.1 (k : Int) (t : Int) wr V5.rpv (hFB.below V5.b)).mono ?_
          rw [HR.out]
          rintro e w6 ⟨cs7, rfl, hO, b6⟩
          have V6 := V5.below b6
          have hO6 := MixP.weaken hO V5.b.size
          have hz6 := Blk.new w6 26 #[.int .i64 0, .slice none 0 0, .slice none 0 0, .slice none 0 0, .slice none 0 0, .slice none 0 0, .slice none 0 0, .slice none 0 0, .slice none 0 0, .slice none 0 0, .slice none 0 0, .slice none 0 0, .slice none 0 0, .slice none 0 0, .slice none 0 0, .slice none 0 0, .slice none 0 0] zP rfl
          have h17 := (MixP.pv hO6).one
          have hl7 := (MixP.pv hO6).len
          go_upto_region 31 with ((with_reducible refine st26 (cs := cs7) ?_ ?_ hz6 zP_len hl7 h17 ?_); (focus rfl); (focus rfl); intro w8 hB8 hg8)
          have V8 := V6.below ((below_box w6 (.cells #[.int .i64 0, .slice none 0 0, .slice none 0 0, .slice none 0 0, .slice none 0 0, .slice none 0 0, .slice none 0 0, .slice none 0 0, .slice none 0 0, .slice none 0 0, .slice none 0 0, .slice none 0 0, .slice none 0 0, .slice none 0 0, .slice none 0 0, .slice none 0 0, .slice none 0 0] 26)).grown hg8 (by simp) (fun k hk => Nat.le_of_eq (Option.some.inj hk)))
          clear hB8 hg8 hz6 h17 hl7 hO6 hO V6 b6 V5 y0 y1
          rcases hcase with ⟨rfl, rfl⟩ | ⟨rfl, rfl⟩
          · go_wp2
            go_ret
            exact ⟨rfl, V8.b⟩
          · go_wp2
            go_ret
            exact ⟨rfl, V8.b⟩
        | succ gg =>
          have haq : a < qq := by omega
          obtain ⟨hs1, hs2⟩ := HSTP.out a haq
          have HNX := Lib.hid hs2; have HQ := Lib.hid hq; have HB := Lib.hid hB
          have HOP := Lib.hid (show openAt s.2 mm a ↔ ∀ x : Nat, 32 + mm * a ≤ x → x < 32 + mm * a + mm → ¬ heldB s.2 (x : Int) from Iff.rfl)
          obtain ⟨ba, hba⟩ : ∃ b, 32 + mm * a = b := ⟨_, rfl⟩
          rw [hba] at hs1 HNX HOP ⊢
          have hwm : ∀ j : Nat, j = k → wrap64 ((2 : Int) ^ j) = (mm : Int) := fun j hj => by subst hj; exact HW.out
          have t80 : decide ((ba : Int) < 80) = true := by simp; omega
          clear hs2 hq hB hba y0 y1
          go_wp2
          go_loopg [17, 18] mm (fun g2 v17 v18 wi => ∃ (q : Nat) (D : Bool), q + g2 = mm ∧ v18 = .int .i64 ((ba + q : Nat) : Int) ∧ v17 = .bool D ∧ (D = true ↔ ∀ x : Nat, ba ≤ x → x < ba + q → ¬ heldB s.2 (x : Int)) ∧ wr = wi)
          case atStart => exact ⟨0, true, by omega, by rw [Nat.add_zero], rfl, ⟨fun _ x h1 h2 => absurd h2 (by omega), fun _ => rfl⟩, rfl⟩
          case round =>
            obtain ⟨q, D, hq, rfl, rfl, hD, rfl⟩ := hrel
            obtain ⟨xq, hxq⟩ : ∃ x, ba + q = x := ⟨_, rfl⟩
            cases gk with
            | zero =>
              have tq : decide ((xq : Int) < (ba : Int) + (mm : Int)) = false := by simp; omega
              have HD := Lib.hid (show D = true ↔ openAt s.2 mm a by rw [HOP.out, hD, show ba + q = ba + mm by omega])
              rw [hxq]
              clear hq hD hxq
              cases B with
              | true =>
                go_wp2
                go_roundg gg
                case rel => exact ⟨a + 1, true, by have := HQ.out; omega, by rw [HNX.out]; go_num, rfl, ⟨fun _ => (HB.out.1 (by first | rfl | trivial)).elim fun a' h => ⟨a', Nat.lt_succ_of_lt h.1, h.2⟩, fun _ => rfl⟩, rfl⟩
                case measure => omega
              | false =>
                go_wp2
                go_roundg gg
                case rel =>
                  refine ⟨a + 1, D, by have := HQ.out; omega, by rw [HNX.out]; go_num, rfl, ⟨fun h => ⟨a, by omega, HD.out.1 h⟩, fun ⟨a', h1, h2⟩ => ?_⟩, rfl⟩
                  by_cases e : a' = a
                  · subst e; exact HD.out.2 h2
                  · exact absurd (HB.out.2 ⟨a', by omega, h2⟩) (by decide)
                case measure => omega
            | succ g2 =>
              have hqm : q < mm := by omega
              have tq : decide ((xq : Int) < (ba : Int) + (mm : Int)) = true := by simp; omega
              have hx96 : xq < 96 := by omega
              have c0 := S5.cell xq
              rw [marks_get _ hx96] at c0
              obtain ⟨T, hT⟩ : ∃ b, F xq = b := ⟨_, rfl⟩
              rw [hT] at c0
              have HT := Lib.hid (show T = true ↔ heldB s.2 (xq : Int) by rw [← hT]; exact HF.out xq hx96)
              have HGQ := Lib.hid hq; have HXQ := Lib.hid hxq
              have HD := Lib.hid (show ∀ D' : Bool, (D' = true ↔ D = true ∧ T = false) → (D' = true ↔ ∀ x : Nat, ba ≤ x → x < ba + (q + 1) → ¬ heldB s.2 (x : Int)) from fun D' hD' => by
                rw [hD', hD]
                have hTf : T = false ↔ ¬ heldB s.2 (xq : Int) := by rw [← HT.out]; cases T <;> simp
                rw [hTf]
                constructor
                · rintro ⟨h1, h2⟩ x hx1 hx2
                  by_cases e : x = xq
                  · rw [e]; exact h2
                  · exact h1 x hx1 (by omega)
                · intro h
                  exact ⟨fun x hx1 hx2 => h x hx1 (by omega), h xq (by omega) (by omega)⟩)
              rw [hxq]
              clear hq hxq hD hT
              cases D with
              | true =>
                go_wp2
                go_roundg g2
                case rel => exact ⟨q + 1, !T, by have := HGQ.out; omega, by have := HXQ.out; rw [show ba + (q + 1) = xq + 1 by omega]; go_num, rfl, HD.out _ (by cases T <;> simp), rfl⟩
                case measure => omega
              | false =>
                go_wp2
                go_roundg g2
                case rel => exact ⟨q + 1, false, by have := HGQ.out; omega, by have := HXQ.out; rw [show ba + (q + 1) = xq + 1 by omega]; go_num, rfl, HD.out _ (by simp), rfl⟩
                case measure => omega
    | succ gg =>
      have him : i < m := by omega
      have tm : decide ((i : Int) < (m : Int)) = true := by simp; omega
      obtain ⟨hb, hhb⟩ := get_some HM.out him
      obtain ⟨p1, p2, p3, p4⟩ := HPI.out.range (List.mem_of_getElem? hhb)
      have hah : ∀ x : Int, In hb.1 hb.2 x → ¬ heldB (s.2.take i) x := fun x hx => HPI.out.ahead hhb hx
      have htk : s.2.take (i + 1) = s.2.take i ++ [hb] := by rw [List.take_add_one, hhb]; rfl
      obtain ⟨b9, c', hv, _⟩ := own_pos H5 (by rw [HM.out]; omega)
      injection hv with e1 e2 e3
      subst e1
      obtain ⟨d0, d1⟩ := H5.at hhb
      clear e2 e3
      obtain ⟨f0, k0⟩ := hb
      obtain ⟨fn, rfl⟩ : ∃ n : Nat, f0 = (n : Int) := ⟨f0.toNat, by simp only at p2; omega⟩
      simp only at p1 p2 p3 p4 d0 d1 hah
      obtain ⟨mm, qq, hm1, hm2, hm3, hm4, hm5, _⟩ := parts p1
      rw [hm5] at p4
      have hwm : wrap64 ((2 : Int) ^ k0) = (mm : Int) := by rw [← hm1]; exact wrap_pow p1
      have HIN := Lib.hid (show ∀ x : Int, In (fn : Int) k0 x ↔ (fn : Int) ≤ x ∧ x < (fn : Int) + (mm : Int) from fun x => by unfold In; rw [hm5])
      have HAH := Lib.hid hah; have HTK := Lib.hid htk; have HF := Lib.hid hF; have HG := Lib.hid hg; have HW := Lib.hid hwm
      clear hm1 hm2 hm5 hah htk hF hg hhb hwm
      go_upto_region 10 with fail
      have b6 := below_box wr (.cells #[.int .i64 (fn : Int), .int .i64 (k0 : Int)] 46)
      have hX := Blk.new wr 46 #[.int .i64 (fn : Int), .int .i64 (k0 : Int)] _ rfl
      obtain ⟨w6, hw6⟩ : ∃ W, W = wr.alloc (.cells #[.int .i64 (fn : Int), .int .i64 (k0 : Int)] 46) := ⟨_, rfl⟩
      rw [← hw6] at b6 hX ⊢
      obtain ⟨gx, hgx⟩ : ∃ g, wr.heap.size = g := ⟨_, rfl⟩
      rw [hgx] at hX ⊢
      have V6 := V5.below b6
      have H6 := HO.later H5 b6
      have S6 := S5.later b6
      have Y6 := Y5.later b6
      have x0 := hX.cell 0; have x1 := hX.cell 1
      simp only [List.getElem?_cons_zero, List.getElem?_cons_succ] at x0 x1
      clear hw6 hgx V5 H5 S5 Y5 b6 d0 d1
      have t79 : decide ((79 : Int) < (fn : Int)) = false := by simp; omega
      have t32 : decide ((fn : Int) < 32) = false := by simp; omega
      have hwm : ∀ j : Nat, j = k0 → wrap64 ((2 : Int) ^ j) = (mm : Int) := fun j hj => by subst hj; exact HW.out
      have t80 : decide ((80 : Int) < (fn : Int) + (mm : Int)) = false := by simp; omega
      go_wp2
      go_loopg [13] mm (fun g2 v13 wi => ∃ (q : Nat) (F : Nat → Bool), q + g2 = mm ∧ v13 = .int .i64 ((fn + q : Nat) : Int) ∧ VP w g cs1 s.1 wi ∧ HO wi w.heap.size (.slice (some ⟨b9, 0, Option.none⟩) m c9) s.2 ∧ Blk wi gt 44 (marks F) ∧ Blk wi (w.heap.size + 1) 40 [.int .u8 ao, .int .u8 at'] ∧ Blk wi gx 46 [.int .i64 (fn : Int), .int .i64 (k0 : Int)] ∧ ∀ x : Nat, x < 96 → (F x = true ↔ heldB (s.2.take i) (x : Int) ∨ (fn ≤ x ∧ x < fn + q)))
      case atStart => exact ⟨0, F, by omega, by rw [Nat.add_zero], V6, H6, S6, Y6, hX, fun x hx => by rw [HF.out x hx]; exact ⟨.inl, fun h => h.elim id (fun h => absurd h (by omega))⟩⟩
      case round =>
        clear V6 H6 S6 Y6 hX x0 x1 HF
        obtain ⟨q, F2, hq, rfl, V7, H7, S7, Y7, hX7, hF2⟩ := hrel
        have x0 := hX7.cell 0; have x1 := hX7.cell 1
        simp only [List.getElem?_cons_zero, List.getElem?_cons_succ] at x0 x1
        cases gk with
        | zero =>
          have hqm : q = mm := by omega
          have HF3 := Lib.hid (show ∀ x : Nat, x < 96 → (F2 x = true ↔ heldB (s.2.take (i + 1)) (x : Int)) from fun x hx => by
            rw [hF2 x hx, HTK.out, heldB_snoc]
            have := HIN.out (x : Int)
            simp only
            rw [this]
            exact ⟨fun h => h.elim .inl (fun h => .inr (by omega)), fun h => h.elim .inl (fun h => .inr (by omega))⟩)
          obtain ⟨xq, hxq⟩ : ∃ x, fn + q = x := ⟨_, rfl⟩
          have tq : decide ((xq : Int) < (fn : Int) + (mm : Int)) = false := by simp; omega
          rw [hxq]
          clear hq hqm hF2 hxq
          go_wp2
          go_roundg gg
          case rel => exact ⟨i + 1, F2, by have := HG.out; omega, by go_num, V7, H7, S7, Y7, HF3.out⟩
          case measure => omega
        | succ g2 =>
          have hqm : q < mm := by omega
          have tq : decide (((fn + q : Nat) : Int) < (fn : Int) + (mm : Int)) = true := by simp; omega
          obtain ⟨xq, hxq⟩ : ∃ x, fn + q = x := ⟨_, rfl⟩
          have hx96 : xq < 96 := by omega
          have hnew : F2 xq = false := by
            cases hf : F2 xq with
            | false => rfl
            | true =>
              rcases (hF2 xq hx96).1 hf with h1 | h1
              · exact absurd h1 (HAH.out (xq : Int) ((HIN.out (xq : Int)).2 (by omega)))
              · omega
          have sq : (marks F2)[xq]? = some (.bool false) := by rw [marks_get _ hx96, hnew]
          have c0 := S7.cell xq
          rw [sq] at c0
          have f0 := S7.frozen xq
          have HF3 := Lib.hid (show ∀ x : Nat, x < 96 → ((F2 x || decide (x = xq)) = true ↔ heldB (s.2.take i) (x : Int) ∨ (fn ≤ x ∧ x < fn + (q + 1))) from fun x hx => by
            rw [Bool.or_eq_true, hF2 x hx, decide_eq_true_eq]
            exact ⟨fun h => h.elim (fun h => h.elim .inl (fun h => .inr (by omega))) (fun h => .inr (by omega)), fun h => h.elim (fun h => .inl (.inl h)) (fun h => if hx : x = xq then .inr hx else .inl (.inr (by omega)))⟩)
          have HQ := Lib.hid hq; have HXQ := Lib.hid hxq
          rw [hxq] at tq ⊢
          clear hq hxq hF2 hnew sq
          go_wp2
          have V8 := V7.mark S7 hlt xq (.bool true)
          have H8 := H7.mark S7 xq (.bool true)
          have S8 := S7.set xq (.bool true)
          rw [marks_put] at S8
          have Y8 := Y7.far (p := ⟨gt, xq, Option.none⟩) (Y7.ne_type S7 (by decide)) (.bool true)
          have X8 := hX7.far (p := ⟨gt, xq, Option.none⟩) (hX7.ne_type S7 (by decide)) (.bool true)
          clear V7 H7 S7 Y7 hX7 x0 x1 c0 f0
          go_roundg g2
          case rel => exact ⟨q + 1, _, by have := HQ.out; omega, by have := HXQ.out; rw [show fn + (q + 1) = xq + 1 by omega]; go_num, V8, H8, S8, Y8, X8, HF3.out⟩
          case measure => omega
end Go.Proofs.YtkiiifmofmbniaaDoor
