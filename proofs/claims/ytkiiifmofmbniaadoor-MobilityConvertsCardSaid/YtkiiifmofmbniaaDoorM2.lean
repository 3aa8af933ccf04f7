/- Page blocks in memory; the small functions. -/
import Derived.Test.YtkiiifmofmbniaaDoorOver
import Derived.Test.YtkiiifmofmbniaaDoorSeg2
import Derived.Test.YtkiiifmofmbniaaDoorRows
import Derived.Test.YtkiiifmofmbniaaDoorBlk
import Derived.Test.YtkiiifmofmbniaaDoorM1
import Derived.OwnWalk
import Derived.Deep.LoopGhost
import Derived.Deep.CutRange
namespace Go.Proofs.YtkiiifmofmbniaaDoor
open Go.RowKit Go.Over Go.Mob Go.Can Go.Seg Go.Grow
theorem below_box (w : World) (o : Obj) : Below w.heap.size w (w.alloc o) := below_alloc (Below.refl _ _) o
theorem ret_int {k : IntKind} {a b : Int} (h : a = b) : Ending.returned (.int k a) = .returned (.int k b) := by rw [h]
theorem ret_bool {a b : Bool} (h : a = b) : Ending.returned (.bool a) = .returned (.bool b) := by rw [h]
theorem get_some {α : Type} {l : List α} {i n : Nat} (hn : l.length = n) (h : i < n) : ∃ s, l[i]? = some s := ⟨l[i]'(by omega), List.getElem?_eq_getElem (by omega)⟩
theorem drop_get {α : Type} {l : List α} {i : Nat} {s : α} (h : l[i]? = some s) : l.drop i = s :: l.drop (i + 1) := by
  have hlt : i < l.length := by rw [List.getElem?_eq_some_iff] at h; obtain ⟨h, _⟩ := h; exact h
  rw [List.drop_eq_getElem_cons hlt]
  rw [List.getElem?_eq_getElem hlt] at h
  rw [Option.some.inj h]
/-- Numbers that lie at a. -/
def Ints (w : World) (a : Option Addr) (l : List Int) : Prop :=
  0 < l.length → ∃ b off, a = some ⟨b, off, none⟩ ∧ ∀ i, i < l.length → w.cell? ⟨b, off + i, none⟩ = some (.int .i64 (l.getD i 0))
theorem Ints.below {w w' : World} {a : Option Addr} {l : List Int} (h : Ints w a l) (hb : Below w.heap.size w w') : Ints w' a l := fun h0 => by
  obtain ⟨b, off, ha, hc⟩ := h h0
  exact ⟨b, off, ha, fun i hi => cell_later hb (hc i hi)⟩
theorem Ints.at {w : World} {a : Option Addr} {l : List Int} (h : Ints w a l) {i : Nat} {x : Int} (hi : l[i]? = some x) : ∃ b off, a = some ⟨b, off, none⟩ ∧ w.cell? ⟨b, off + i, none⟩ = some (.int .i64 x) := by
  have hlt : i < l.length := by rw [List.getElem?_eq_some_iff] at hi; exact hi.1
  obtain ⟨b, off, ha, hc⟩ := h (by omega)
  refine ⟨b, off, ha, ?_⟩
  rw [hc i hlt, List.getD_eq_getElem?_getD, hi]; rfl
/-- A slice of numbers. -/
def Sl (w : World) (v : Value) (l : List Int) : Prop := ∃ a c, v = .slice a l.length c ∧ l.length ≤ c ∧ c ≤ maxLen ∧ (a = none → c = 0) ∧ Ints w a l
theorem Sl.below {w w' : World} {v : Value} {l : List Int} (h : Sl w v l) (hb : Below w.heap.size w w') : Sl w' v l := by
  obtain ⟨a, c, h1, h2, h3, h4, h5⟩ := h
  exact ⟨a, c, h1, h2, h3, h4, h5.below hb⟩
/-- Cells that read as page blocks. -/
structure PV (w : World) (cs : List Value) (p : P) : Prop where
  len : cs.length = 17
  st : cs[0]? = some (.int .i64 p.st)
  ty : ∃ v, cs[1]? = some v ∧ Sl w v p.ty
  fr : ∀ i, i < 15 → ∃ v, cs[2 + i]? = some v ∧ Sl w v (p.fr i)
theorem PV.below {w w' : World} {cs : List Value} {p : P} (h : PV w cs p) (hb : Below w.heap.size w w') : PV w' cs p :=
  ⟨h.len, h.st, by obtain ⟨v, h1, h2⟩ := h.ty; exact ⟨v, h1, h2.below hb⟩, fun i hi => by obtain ⟨v, h1, h2⟩ := h.fr i hi; exact ⟨v, h1, h2.below hb⟩⟩
theorem PV.open {w : World} {cs : List Value} {p : P} (h : PV w cs p) : ∃ v1 v2 v3 v4 v5 v6 v7 v8 v9 v10 v11 v12 v13 v14 v15 v16, cs = [.int .i64 p.st, v1, v2, v3, v4, v5, v6, v7, v8, v9, v10, v11, v12, v13, v14, v15, v16] := by
  obtain ⟨h1, h2, _, _⟩ := h
  match cs, h1 with
  | [a0, a1, a2, a3, a4, a5, a6, a7, a8, a9, a10, a11, a12, a13, a14, a15, a16], _ =>
    simp at h2
    subst h2
    exact ⟨a1, a2, a3, a4, a5, a6, a7, a8, a9, a10, a11, a12, a13, a14, a15, a16, rfl⟩
/-- A value that reads as page blocks. -/
def Rpv (w : World) (v : Value) (p : P) : Prop := ∃ cs : List Value, v = .agg cs.toArray ∧ PV w cs p
theorem Rpv.below {w w' : World} {v : Value} {p : P} (h : Rpv w v p) (hb : Below w.heap.size w w') : Rpv w' v p := by
  obtain ⟨cs, h1, h2⟩ := h
  exact ⟨cs, h1, h2.below hb⟩
/-- The list of a type and an order, in a variable. -/
theorem PV.list {w : World} {cs : List Value} {p : P} {g : Nat} (h : PV w cs p) (hB : Blk w g 26 cs) {t k : Nat} (ht : t < 3) (hk : k < 5) :
    ∃ a n c, w.cell? ⟨g, 2 + t * 5 + k, none⟩ = some (.slice a n c) ∧ (p.fr (5 * t + k)).length = n ∧ n ≤ c ∧ c ≤ maxLen ∧ (a = none → c = 0) ∧ Ints w a (p.fr (5 * t + k)) := by
  obtain ⟨v, h1, a, c, rfl, h2⟩ := h.fr (5 * t + k) (by omega)
  refine ⟨a, _, c, ?_, rfl, h2⟩
  rw [hB.cell, show 2 + t * 5 + k = 2 + (5 * t + k) by omega]
  exact h1
theorem PV.types {w : World} {cs : List Value} {p : P} {g : Nat} (h : PV w cs p) (hB : Blk w g 26 cs) :
    ∃ a n c, w.cell? ⟨g, 1, none⟩ = some (.slice a n c) ∧ p.ty.length = n ∧ n ≤ c ∧ c ≤ maxLen ∧ (a = none → c = 0) ∧ Ints w a p.ty := by
  obtain ⟨v, h1, a, c, rfl, h2⟩ := h.ty
  exact ⟨a, _, c, by rw [hB.cell]; exact h1, rfl, h2⟩
theorem PV.start {w : World} {cs : List Value} {p : P} {g : Nat} (h : PV w cs p) (hB : Blk w g 26 cs) : w.cell? ⟨g, 0, none⟩ = some (.int .i64 p.st) := by rw [hB.cell]; exact h.st
/-- A variable of page blocks in a call that makes new memory alone. -/
structure PX (w : World) (g : Nat) (cs : List Value) (p : P) (W : World) : Prop where
  b : Below w.heap.size w W
  l : w.heap.size ≤ g
  x : Blk W g 26 cs
  v : PV W cs p
theorem PX.below {w W W' : World} {g : Nat} {cs : List Value} {p : P} (h : PX w g cs p W) (hb : Below W.heap.size W W') : PX w g cs p W' := ⟨below_then h.b hb, h.l, h.x.later hb, h.v.below hb⟩
theorem PX.rpv {w W : World} {g : Nat} {cs : List Value} {p : P} (h : PX w g cs p W) : Rpv W (.agg cs.toArray) p := ⟨cs, rfl, h.v⟩
theorem PX.new {w : World} {cs : List Value} {p : P} (h : PV w cs p) : PX w w.heap.size cs p (w.alloc (.cells cs.toArray 26)) := ⟨below_box _ _, Nat.le_refl _, Blk.new _ _ _ _ rfl, h.below (below_box _ _)⟩
set_option maxRecDepth 100000 in set_option maxHeartbeats 1600000 in
theorem few_13 (v : Value) (p : P) (w : World) (H : Rpv w v p) : Calls Tryd.prog 13 #[v] w fun e w' => e = .returned (.bool (fewB p)) ∧ Below w.heap.size w w' := by
  obtain ⟨E, hE⟩ : ∃ E, fewB p = E := ⟨_, rfl⟩
  rw [hE]
  have HE := Lib.hid hE
  clear hE
  obtain ⟨cs, rfl, hV⟩ := H
  obtain ⟨v1, v2, v3, v4, v5, v6, v7, v8, v9, v10, v11, v12, v13, v14, v15, v16, rfl⟩ := hV.open
  have X0 := PX.new hV
  clear hV
  go_enter Tryd.func13, Tryd.ntmps13
  go_upto_region 1 with fail
  obtain ⟨w1, hw1⟩ : ∃ W, W = w.alloc (.cells #[.int .i64 p.st, v1, v2, v3, v4, v5, v6, v7, v8, v9, v10, v11, v12, v13, v14, v15, v16] 26) := ⟨_, rfl⟩
  have X1 : PX w w.heap.size [.int .i64 p.st, v1, v2, v3, v4, v5, v6, v7, v8, v9, v10, v11, v12, v13, v14, v15, v16] p w1 := by rw [hw1]; exact X0
  rw [← hw1]
  obtain ⟨g, hg0⟩ : ∃ g, w.heap.size = g := ⟨_, rfl⟩
  rw [hg0] at X1 ⊢
  clear hw1 X0 hg0
  go_wp2
  go_loopg [3] 3 (fun gg v3 wr => ∃ t : Nat, t + gg = 3 ∧ v3 = .int .i64 t ∧ E = (fewA p (5 * t) && decide (p.ty.length ≤ 40)) ∧ w1 = wr)
  case atStart => exact ⟨0, by omega, rfl, by rw [← HE.out]; rfl, rfl⟩
  case round =>
    obtain ⟨t, hg, rfl, hEi, rfl⟩ := hrel
    cases gk with
    | zero =>
      obtain rfl : t = 3 := by omega
      obtain ⟨aT, nT, cT, hT, hnT, _, _, _, _⟩ := X1.v.types X1.x
      have hEE : E = decide (nT ≤ 40) := by rw [hEi, hnT]; rfl
      clear hEi hnT hg
      go_wp2
      go_ret
      refine ⟨ret_bool ?_, X1.b⟩
      rw [hEE, Bool.eq_iff_iff]; simp; omega
    | succ gg =>
      have ht : t < 3 := by omega
      have HG := Lib.hid hg
      have HI := Lib.hid hEi
      clear hg hEi
      go_wp2
      go_loopg [4] 5 (fun g2 v4 wr => ∃ k : Nat, k + g2 = 5 ∧ v4 = .int .i64 k ∧ E = (fewA p (5 * t + k) && decide (p.ty.length ≤ 40)) ∧ w1 = wr)
      case atStart => exact ⟨0, by omega, rfl, HI.out, rfl⟩
      case round =>
        obtain ⟨k, hk, rfl, hEk, rfl⟩ := hrel
        cases gk with
        | zero =>
          obtain rfl : k = 5 := by omega
          have HK := Lib.hid hEk
          clear hk hEk
          go_wp2
          go_roundg gg
          case rel => exact ⟨t + 1, by have := HG.out; omega, by go_num, HK.out, rfl⟩
          case measure => omega
        | succ g2 =>
          have hk5 : k < 5 := by omega
          obtain ⟨a, n, c, hc, hn, _, _, _, _⟩ := X1.v.list X1.x ht hk5
          rw [fewA_step (by omega), hn] at hEk
          have HEK := Lib.hid hEk
          have HK := Lib.hid hk
          clear hEk hk hn
          by_cases h3 : n ≤ 300
          · have t1 : decide ((300 : Int) < (n : Int)) = false := by simp; omega
            go_wp2
            go_roundg g2
            case rel => exact ⟨k + 1, by have := HK.out; omega, by go_num, by rw [HEK.out, decide_eq_true h3]; simp [Nat.add_assoc], rfl⟩
            case measure => omega
          · have t1 : decide ((300 : Int) < (n : Int)) = true := by simp; omega
            go_wp2
            go_ret
            exact ⟨ret_bool (by rw [HEK.out, decide_eq_false h3]; rfl), X1.b⟩
theorem rng_open {p : P} (h : rngB p = true) : 0 ≤ p.st ∧ p.st % 16 = 0 ∧ 1 ≤ p.ty.length ∧ p.ty.length ≤ 16 ∧ p.st ≤ 256 - 16 * (p.ty.length : Int) ∧ ∀ t ∈ p.ty, 0 ≤ t ∧ t < 3 := by
  simp only [rngB, Bool.and_eq_true, decide_eq_true_eq, List.all_eq_true, kindB] at h
  exact ⟨h.1.1, h.1.2.1, h.1.2.2.1, h.1.2.2.2.1, h.1.2.2.2.2, h.2⟩
set_option maxRecDepth 100000 in set_option maxHeartbeats 1600000 in
theorem kind_43 (t : Int) (w : World) : Calls Tryd.prog 43 #[.int .i64 t] w fun e w' => e = .returned (.bool (kindB t)) ∧ w = w' := by
  go_enter Tryd.func43, Tryd.ntmps43
  go_wp2
  all_goals
    go_ret
    refine ⟨ret_bool ?_, rfl⟩
    unfold kindB
    rw [Bool.eq_iff_iff]
    simp
    omega
set_option maxRecDepth 100000 in set_option maxHeartbeats 1600000 in
theorem notkind_53 (t : Int) (w : World) : Calls Tryd.prog 53 #[.int .i64 t] w fun e w' => e = .returned (.bool (!kindB t)) ∧ w = w' := by
  go_enter Tryd.func53, Tryd.ntmps53
  go_wp2_with (go_at_call 43; refine (kind_43 _ _).mono ?_; rintro e w' ⟨rfl, rfl⟩)
  go_ret
  exact ⟨rfl, rfl⟩
set_option maxRecDepth 100000 in set_option maxHeartbeats 1600000 in
theorem index_59 (a : Option Addr) (l : List Int) (n c : Nat) (w : World) (H : Ints w a l) (hn : l.length = n) (hm : n ≤ maxLen) :
    Calls Tryd.prog 59 #[.slice a n c, .func (.func 53) #[] #[]] w fun e w' => (∃ x : Int, e = .returned (.int .i64 x) ∧ (0 ≤ x ↔ l.all kindB = false)) ∧ w = w' := by
  have HN := Lib.hid hn
  unfold maxLen at hm
  clear hn
  go_enter Tryd.func59, Tryd.ntmps59
  go_wp2
  go_loopg [8] n (fun g i0 wr => ∃ (i : Nat), i + g = n ∧ i0 = .int .i64 i ∧ l.all kindB = (l.drop i).all kindB ∧ w = wr)
  case atStart => exact ⟨0, by omega, rfl, by rw [List.drop_zero], rfl⟩
  case round =>
    obtain ⟨i, hg, rfl, hE, rfl⟩ := hrel
    have HE := Lib.hid hE
    cases gk with
    | zero =>
      obtain rfl : i = n := by omega
      clear hg hE
      go_wp2
      go_ret
      refine ⟨⟨_, rfl, ?_⟩, rfl⟩
      rw [HE.out, List.drop_eq_nil_of_le (by rw [HN.out]; exact Nat.le_refl _)]
      simp
    | succ g =>
      have hin : i < n := by omega
      obtain ⟨x, hx⟩ := get_some HN.out hin
      obtain ⟨b, off, rfl, c0⟩ := H.at hx
      have HS := Lib.hid (show l.all kindB = (kindB x && (l.drop (i + 1)).all kindB) by rw [HE.out, drop_get hx]; rfl)
      have HG := Lib.hid hg
      clear hx hE hg HE
      go_wp2_with (refine (notkind_53 x w).mono ?_; rintro e w' ⟨rfl, rfl⟩)
      · go_ret
        refine ⟨⟨_, rfl, ?_⟩, rfl⟩
        rename_i hk
        rw [HS.out]
        simp at hk
        rw [hk]
        simp
      · rename_i hk
        have HK := Lib.hid (show kindB x = true by simpa using hk)
        go_wp2
        go_roundg g
        case rel => exact ⟨i + 1, by have := HG.out; omega, by go_num, by rw [HS.out, HK.out]; rfl, rfl⟩
        case measure => omega
set_option maxRecDepth 100000 in set_option maxHeartbeats 1600000 in
theorem contains_52 (a : Option Addr) (l : List Int) (n c : Nat) (w : World) (H : Ints w a l) (hn : l.length = n) (hm : n ≤ maxLen) :
    Calls Tryd.prog 52 #[.slice a n c, .func (.func 53) #[] #[]] w fun e w' => e = .returned (.bool (!l.all kindB)) ∧ w = w' := by
  go_enter Tryd.func52, Tryd.ntmps52
  go_wp2_with fail
  refine (index_59 a l n c w H hn hm).mono ?_
  rintro e w' ⟨⟨x, rfl, hx⟩, rfl⟩
  have HX := Lib.hid hx
  clear hx
  go_wp2
  go_ret
  refine ⟨ret_bool ?_, rfl⟩
  rw [Bool.eq_iff_iff]
  simp only [Bool.not_eq_true']
  rw [← HX.out]
  simp
set_option maxRecDepth 100000 in set_option maxHeartbeats 1600000 in
theorem ranges_32 (v : Value) (p : P) (w : World) (H : Rpv w v p) : Calls Tryd.prog 32 #[v] w fun e w' => e = .returned (.bool (rngB p)) ∧ Below w.heap.size w w' := by
  obtain ⟨E, hE⟩ : ∃ E, rngB p = E := ⟨_, rfl⟩
  rw [hE]
  have HE := Lib.hid hE
  clear hE
  obtain ⟨cs, rfl, hV⟩ := H
  obtain ⟨v1, v2, v3, v4, v5, v6, v7, v8, v9, v10, v11, v12, v13, v14, v15, v16, rfl⟩ := hV.open
  have X0 := PX.new hV
  clear hV
  go_enter Tryd.func32, Tryd.ntmps32
  go_upto_region 1 with fail
  obtain ⟨w1, hw1⟩ : ∃ W, W = w.alloc (.cells #[.int .i64 p.st, v1, v2, v3, v4, v5, v6, v7, v8, v9, v10, v11, v12, v13, v14, v15, v16] 26) := ⟨_, rfl⟩
  have X1 : PX w w.heap.size [.int .i64 p.st, v1, v2, v3, v4, v5, v6, v7, v8, v9, v10, v11, v12, v13, v14, v15, v16] p w1 := by rw [hw1]; exact X0
  rw [← hw1]
  obtain ⟨g, hg0⟩ : ∃ g, w.heap.size = g := ⟨_, rfl⟩
  rw [hg0] at X1 ⊢
  clear hw1 X0 hg0
  obtain ⟨aT, nT, cT, hT, hnT, h1, h2, _, hI⟩ := X1.v.types X1.x
  have h0 := X1.v.start X1.x
  have hc := fun w2 => contains_52 aT p.ty nT cT w2
  have HNT := Lib.hid hnT
  have H2 := Lib.hid (show nT ≤ maxLen by omega)
  unfold maxLen at h2
  have hE2 : E = (decide (0 ≤ p.st ∧ p.st % 16 = 0 ∧ 1 ≤ nT ∧ nT ≤ 16 ∧ p.st ≤ 256 - 16 * (nT : Int)) && p.ty.all kindB) := by rw [← HE.out, ← hnT]; rfl
  have HE2 := Lib.hid hE2
  clear hnT hE2
  by_cases hs : p.st < 0
  · go_wp2
    go_ret
    refine ⟨ret_bool ?_, X1.b⟩
    rw [HE2.out, decide_eq_false (by omega)]; rfl
  by_cases h16 : p.st % 16 = 0
  · have t1 : p.st.tmod 16 = 0 := by rw [Int.tmod_eq_emod_of_nonneg (by omega)]; exact h16
    by_cases hr : 1 ≤ nT ∧ nT ≤ 16 ∧ p.st ≤ 256 - 16 * (nT : Int)
    · obtain ⟨r1, r2, r3⟩ := hr
      go_wp2_with (go_at_call 52; refine (hc _ hI HNT.out H2.out).mono ?_; rintro e w' ⟨rfl, rfl⟩)
      go_ret
      refine ⟨ret_bool ?_, X1.b⟩
      rw [HE2.out, decide_eq_true ⟨by omega, h16, r1, r2, r3⟩]
      simp
    · have hE3 := Lib.hid (show E = false by rw [HE2.out, decide_eq_false (fun h => hr h.2.2)]; rfl)
      go_wp2_with fail
      all_goals first
        | (go_ret; exact ⟨ret_bool hE3.out.symm, X1.b⟩)
        | (exfalso; omega)
  · have t1 : ¬ p.st.tmod 16 = 0 := by rw [Int.tmod_eq_emod_of_nonneg (by omega)]; exact h16
    have t2 : (p.st.tmod 16 != 0) = true := by simpa using t1
    go_wp2
    go_ret
    refine ⟨ret_bool ?_, X1.b⟩
    rw [HE2.out, decide_eq_false (fun h => h16 h.2.1)]; rfl
set_option maxRecDepth 100000 in set_option maxHeartbeats 1600000 in
theorem inside_33_0 (v : Value) (p : P) (f : Int) (w : World) (H : Rpv w v p) (hr : rngB p = true) : Calls Tryd.prog 33 #[v, .int .i64 f, .int .i64 0] w fun e w' => e = .returned (.bool (insB p f 0)) ∧ Below w.heap.size w w' := by
  obtain ⟨r1, r2, r3, r4, r5, _⟩ := rng_open hr
  clear hr
  obtain ⟨E, hE⟩ : ∃ E, insB p f 0 = E := ⟨_, rfl⟩
  rw [hE]
  unfold insB at hE
  rw [show pw 0 = 1 from rfl] at hE
  have HE := Lib.hid hE
  clear hE
  obtain ⟨cs, rfl, hV⟩ := H
  obtain ⟨v1, v2, v3, v4, v5, v6, v7, v8, v9, v10, v11, v12, v13, v14, v15, v16, rfl⟩ := hV.open
  have X0 := PX.new hV
  clear hV
  go_enter Tryd.func33, Tryd.ntmps33
  go_upto_region 1 with fail
  obtain ⟨w1, hw1⟩ : ∃ W, W = w.alloc (.cells #[.int .i64 p.st, v1, v2, v3, v4, v5, v6, v7, v8, v9, v10, v11, v12, v13, v14, v15, v16] 26) := ⟨_, rfl⟩
  have X1 : PX w w.heap.size [.int .i64 p.st, v1, v2, v3, v4, v5, v6, v7, v8, v9, v10, v11, v12, v13, v14, v15, v16] p w1 := by rw [hw1]; exact X0
  rw [← hw1]
  obtain ⟨g, hg0⟩ : ∃ g, w.heap.size = g := ⟨_, rfl⟩
  rw [hg0] at X1 ⊢
  clear hw1 X0 hg0
  obtain ⟨aT, nT, cT, hT, hnT, _, _, _, _⟩ := X1.v.types X1.x
  have h0 := X1.v.start X1.x
  have HNT := Lib.hid hnT
  rw [hnT] at r3 r4 r5
  clear hnT
  by_cases hs : p.st ≤ f
  · obtain ⟨q, hq⟩ : ∃ q, f % 1 = q := ⟨_, rfl⟩
    have hq2 : f.tmod 1 = q := by rw [Int.tmod_eq_emod_of_nonneg (by omega)]; exact hq
    have HQ := Lib.hid hq
    clear hq
    go_wp2
    all_goals
      go_ret
      refine ⟨ret_bool ?_, X1.b⟩
      rw [← HE.out, HQ.out, HNT.out, Bool.eq_iff_iff]
      first
        | (simp; done)
        | (simp; omega)
        | (simp at *; omega)
  · go_wp2
    go_ret
    refine ⟨ret_bool ?_, X1.b⟩
    rw [← HE.out, Bool.eq_iff_iff]
    first
      | (simp; done)
      | (simp; omega)
set_option maxRecDepth 100000 in set_option maxHeartbeats 1600000 in
theorem block_51_0 (v : Value) (p : P) (f : Int) (w : World) (H : Rpv w v p) (hr : rngB p = true) : Calls Tryd.prog 51 #[v, .int .i64 f, .int .i64 0] w fun e w' => e = .returned (.bool (insB p f 0)) ∧ Below w.heap.size w w' := by
  obtain ⟨r1, r2, r3, r4, r5, _⟩ := rng_open hr
  clear hr
  obtain ⟨E, hE⟩ : ∃ E, insB p f 0 = E := ⟨_, rfl⟩
  rw [hE]
  unfold insB at hE
  rw [show pw 0 = 1 from rfl] at hE
  have HE := Lib.hid hE
  clear hE
  obtain ⟨cs, rfl, hV⟩ := H
  obtain ⟨v1, v2, v3, v4, v5, v6, v7, v8, v9, v10, v11, v12, v13, v14, v15, v16, rfl⟩ := hV.open
  have X0 := PX.new hV
  clear hV
  go_enter Tryd.func51, Tryd.ntmps51
  go_upto_region 1 with fail
  obtain ⟨w1, hw1⟩ : ∃ W, W = w.alloc (.cells #[.int .i64 p.st, v1, v2, v3, v4, v5, v6, v7, v8, v9, v10, v11, v12, v13, v14, v15, v16] 26) := ⟨_, rfl⟩
  have X1 : PX w w.heap.size [.int .i64 p.st, v1, v2, v3, v4, v5, v6, v7, v8, v9, v10, v11, v12, v13, v14, v15, v16] p w1 := by rw [hw1]; exact X0
  rw [← hw1]
  obtain ⟨g, hg0⟩ : ∃ g, w.heap.size = g := ⟨_, rfl⟩
  rw [hg0] at X1 ⊢
  clear hw1 X0 hg0
  obtain ⟨aT, nT, cT, hT, hnT, _, _, _, _⟩ := X1.v.types X1.x
  have h0 := X1.v.start X1.x
  have HNT := Lib.hid hnT
  rw [hnT] at r3 r4 r5
  clear hnT
  by_cases hs : p.st ≤ f
  · obtain ⟨q, hq⟩ : ∃ q, f % 1 = q := ⟨_, rfl⟩
    have hq2 : f.tmod 1 = q := by rw [Int.tmod_eq_emod_of_nonneg (by omega)]; exact hq
    have HQ := Lib.hid hq
    clear hq
    go_wp2
    all_goals
      go_ret
      refine ⟨ret_bool ?_, X1.b⟩
      rw [← HE.out, HQ.out, HNT.out, Bool.eq_iff_iff]
      first
        | (simp; done)
        | (simp; omega)
        | (simp at *; omega)
  · go_wp2
    go_ret
    refine ⟨ret_bool ?_, X1.b⟩
    rw [← HE.out, Bool.eq_iff_iff]
    first
      | (simp; done)
      | (simp; omega)
set_option maxRecDepth 100000 in set_option maxHeartbeats 1600000 in
theorem inside_33_1 (v : Value) (p : P) (f : Int) (w : World) (H : Rpv w v p) (hr : rngB p = true) : Calls Tryd.prog 33 #[v, .int .i64 f, .int .i64 1] w fun e w' => e = .returned (.bool (insB p f 1)) ∧ Below w.heap.size w w' := by
  obtain ⟨r1, r2, r3, r4, r5, _⟩ := rng_open hr
  clear hr
  obtain ⟨E, hE⟩ : ∃ E, insB p f 1 = E := ⟨_, rfl⟩
  rw [hE]
  unfold insB at hE
  rw [show pw 1 = 2 from rfl] at hE
  have HE := Lib.hid hE
  clear hE
  obtain ⟨cs, rfl, hV⟩ := H
  obtain ⟨v1, v2, v3, v4, v5, v6, v7, v8, v9, v10, v11, v12, v13, v14, v15, v16, rfl⟩ := hV.open
  have X0 := PX.new hV
  clear hV
  go_enter Tryd.func33, Tryd.ntmps33
  go_upto_region 1 with fail
  obtain ⟨w1, hw1⟩ : ∃ W, W = w.alloc (.cells #[.int .i64 p.st, v1, v2, v3, v4, v5, v6, v7, v8, v9, v10, v11, v12, v13, v14, v15, v16] 26) := ⟨_, rfl⟩
  have X1 : PX w w.heap.size [.int .i64 p.st, v1, v2, v3, v4, v5, v6, v7, v8, v9, v10, v11, v12, v13, v14, v15, v16] p w1 := by rw [hw1]; exact X0
  rw [← hw1]
  obtain ⟨g, hg0⟩ : ∃ g, w.heap.size = g := ⟨_, rfl⟩
  rw [hg0] at X1 ⊢
  clear hw1 X0 hg0
  obtain ⟨aT, nT, cT, hT, hnT, _, _, _, _⟩ := X1.v.types X1.x
  have h0 := X1.v.start X1.x
  have HNT := Lib.hid hnT
  rw [hnT] at r3 r4 r5
  clear hnT
  by_cases hs : p.st ≤ f
  · obtain ⟨q, hq⟩ : ∃ q, f % 2 = q := ⟨_, rfl⟩
    have hq2 : f.tmod 2 = q := by rw [Int.tmod_eq_emod_of_nonneg (by omega)]; exact hq
    have HQ := Lib.hid hq
    clear hq
    go_wp2
    all_goals
      go_ret
      refine ⟨ret_bool ?_, X1.b⟩
      rw [← HE.out, HQ.out, HNT.out, Bool.eq_iff_iff]
      first
        | (simp; done)
        | (simp; omega)
        | (simp at *; omega)
  · go_wp2
    go_ret
    refine ⟨ret_bool ?_, X1.b⟩
    rw [← HE.out, Bool.eq_iff_iff]
    first
      | (simp; done)
      | (simp; omega)
set_option maxRecDepth 100000 in set_option maxHeartbeats 1600000 in
theorem block_51_1 (v : Value) (p : P) (f : Int) (w : World) (H : Rpv w v p) (hr : rngB p = true) : Calls Tryd.prog 51 #[v, .int .i64 f, .int .i64 1] w fun e w' => e = .returned (.bool (insB p f 1)) ∧ Below w.heap.size w w' := by
  obtain ⟨r1, r2, r3, r4, r5, _⟩ := rng_open hr
  clear hr
  obtain ⟨E, hE⟩ : ∃ E, insB p f 1 = E := ⟨_, rfl⟩
  rw [hE]
  unfold insB at hE
  rw [show pw 1 = 2 from rfl] at hE
  have HE := Lib.hid hE
  clear hE
  obtain ⟨cs, rfl, hV⟩ := H
  obtain ⟨v1, v2, v3, v4, v5, v6, v7, v8, v9, v10, v11, v12, v13, v14, v15, v16, rfl⟩ := hV.open
  have X0 := PX.new hV
  clear hV
  go_enter Tryd.func51, Tryd.ntmps51
  go_upto_region 1 with fail
  obtain ⟨w1, hw1⟩ : ∃ W, W = w.alloc (.cells #[.int .i64 p.st, v1, v2, v3, v4, v5, v6, v7, v8, v9, v10, v11, v12, v13, v14, v15, v16] 26) := ⟨_, rfl⟩
  have X1 : PX w w.heap.size [.int .i64 p.st, v1, v2, v3, v4, v5, v6, v7, v8, v9, v10, v11, v12, v13, v14, v15, v16] p w1 := by rw [hw1]; exact X0
  rw [← hw1]
  obtain ⟨g, hg0⟩ : ∃ g, w.heap.size = g := ⟨_, rfl⟩
  rw [hg0] at X1 ⊢
  clear hw1 X0 hg0
  obtain ⟨aT, nT, cT, hT, hnT, _, _, _, _⟩ := X1.v.types X1.x
  have h0 := X1.v.start X1.x
  have HNT := Lib.hid hnT
  rw [hnT] at r3 r4 r5
  clear hnT
  by_cases hs : p.st ≤ f
  · obtain ⟨q, hq⟩ : ∃ q, f % 2 = q := ⟨_, rfl⟩
    have hq2 : f.tmod 2 = q := by rw [Int.tmod_eq_emod_of_nonneg (by omega)]; exact hq
    have HQ := Lib.hid hq
    clear hq
    go_wp2
    all_goals
      go_ret
      refine ⟨ret_bool ?_, X1.b⟩
      rw [← HE.out, HQ.out, HNT.out, Bool.eq_iff_iff]
      first
        | (simp; done)
        | (simp; omega)
        | (simp at *; omega)
  · go_wp2
    go_ret
    refine ⟨ret_bool ?_, X1.b⟩
    rw [← HE.out, Bool.eq_iff_iff]
    first
      | (simp; done)
      | (simp; omega)
set_option maxRecDepth 100000 in set_option maxHeartbeats 1600000 in
theorem inside_33_2 (v : Value) (p : P) (f : Int) (w : World) (H : Rpv w v p) (hr : rngB p = true) : Calls Tryd.prog 33 #[v, .int .i64 f, .int .i64 2] w fun e w' => e = .returned (.bool (insB p f 2)) ∧ Below w.heap.size w w' := by
  obtain ⟨r1, r2, r3, r4, r5, _⟩ := rng_open hr
  clear hr
  obtain ⟨E, hE⟩ : ∃ E, insB p f 2 = E := ⟨_, rfl⟩
  rw [hE]
  unfold insB at hE
  rw [show pw 2 = 4 from rfl] at hE
  have HE := Lib.hid hE
  clear hE
  obtain ⟨cs, rfl, hV⟩ := H
  obtain ⟨v1, v2, v3, v4, v5, v6, v7, v8, v9, v10, v11, v12, v13, v14, v15, v16, rfl⟩ := hV.open
  have X0 := PX.new hV
  clear hV
  go_enter Tryd.func33, Tryd.ntmps33
  go_upto_region 1 with fail
  obtain ⟨w1, hw1⟩ : ∃ W, W = w.alloc (.cells #[.int .i64 p.st, v1, v2, v3, v4, v5, v6, v7, v8, v9, v10, v11, v12, v13, v14, v15, v16] 26) := ⟨_, rfl⟩
  have X1 : PX w w.heap.size [.int .i64 p.st, v1, v2, v3, v4, v5, v6, v7, v8, v9, v10, v11, v12, v13, v14, v15, v16] p w1 := by rw [hw1]; exact X0
  rw [← hw1]
  obtain ⟨g, hg0⟩ : ∃ g, w.heap.size = g := ⟨_, rfl⟩
  rw [hg0] at X1 ⊢
  clear hw1 X0 hg0
  obtain ⟨aT, nT, cT, hT, hnT, _, _, _, _⟩ := X1.v.types X1.x
  have h0 := X1.v.start X1.x
  have HNT := Lib.hid hnT
  rw [hnT] at r3 r4 r5
  clear hnT
  by_cases hs : p.st ≤ f
  · obtain ⟨q, hq⟩ : ∃ q, f % 4 = q := ⟨_, rfl⟩
    have hq2 : f.tmod 4 = q := by rw [Int.tmod_eq_emod_of_nonneg (by omega)]; exact hq
    have HQ := Lib.hid hq
    clear hq
    go_wp2
    all_goals
      go_ret
      refine ⟨ret_bool ?_, X1.b⟩
      rw [← HE.out, HQ.out, HNT.out, Bool.eq_iff_iff]
      first
        | (simp; done)
        | (simp; omega)
        | (simp at *; omega)
  · go_wp2
    go_ret
    refine ⟨ret_bool ?_, X1.b⟩
    rw [← HE.out, Bool.eq_iff_iff]
    first
      | (simp; done)
      | (simp; omega)
set_option maxRecDepth 100000 in set_option maxHeartbeats 1600000 in
theorem block_51_2 (v : Value) (p : P) (f : Int) (w : World) (H : Rpv w v p) (hr : rngB p = true) : Calls Tryd.prog 51 #[v, .int .i64 f, .int .i64 2] w fun e w' => e = .returned (.bool (insB p f 2)) ∧ Below w.heap.size w w' := by
  obtain ⟨r1, r2, r3, r4, r5, _⟩ := rng_open hr
  clear hr
  obtain ⟨E, hE⟩ : ∃ E, insB p f 2 = E := ⟨_, rfl⟩
  rw [hE]
  unfold insB at hE
  rw [show pw 2 = 4 from rfl] at hE
  have HE := Lib.hid hE
  clear hE
  obtain ⟨cs, rfl, hV⟩ := H
  obtain ⟨v1, v2, v3, v4, v5, v6, v7, v8, v9, v10, v11, v12, v13, v14, v15, v16, rfl⟩ := hV.open
  have X0 := PX.new hV
  clear hV
  go_enter Tryd.func51, Tryd.ntmps51
  go_upto_region 1 with fail
  obtain ⟨w1, hw1⟩ : ∃ W, W = w.alloc (.cells #[.int .i64 p.st, v1, v2, v3, v4, v5, v6, v7, v8, v9, v10, v11, v12, v13, v14, v15, v16] 26) := ⟨_, rfl⟩
  have X1 : PX w w.heap.size [.int .i64 p.st, v1, v2, v3, v4, v5, v6, v7, v8, v9, v10, v11, v12, v13, v14, v15, v16] p w1 := by rw [hw1]; exact X0
  rw [← hw1]
  obtain ⟨g, hg0⟩ : ∃ g, w.heap.size = g := ⟨_, rfl⟩
  rw [hg0] at X1 ⊢
  clear hw1 X0 hg0
  obtain ⟨aT, nT, cT, hT, hnT, _, _, _, _⟩ := X1.v.types X1.x
  have h0 := X1.v.start X1.x
  have HNT := Lib.hid hnT
  rw [hnT] at r3 r4 r5
  clear hnT
  by_cases hs : p.st ≤ f
  · obtain ⟨q, hq⟩ : ∃ q, f % 4 = q := ⟨_, rfl⟩
    have hq2 : f.tmod 4 = q := by rw [Int.tmod_eq_emod_of_nonneg (by omega)]; exact hq
    have HQ := Lib.hid hq
    clear hq
    go_wp2
    all_goals
      go_ret
      refine ⟨ret_bool ?_, X1.b⟩
      rw [← HE.out, HQ.out, HNT.out, Bool.eq_iff_iff]
      first
        | (simp; done)
        | (simp; omega)
        | (simp at *; omega)
  · go_wp2
    go_ret
    refine ⟨ret_bool ?_, X1.b⟩
    rw [← HE.out, Bool.eq_iff_iff]
    first
      | (simp; done)
      | (simp; omega)
set_option maxRecDepth 100000 in set_option maxHeartbeats 1600000 in
theorem inside_33_3 (v : Value) (p : P) (f : Int) (w : World) (H : Rpv w v p) (hr : rngB p = true) : Calls Tryd.prog 33 #[v, .int .i64 f, .int .i64 3] w fun e w' => e = .returned (.bool (insB p f 3)) ∧ Below w.heap.size w w' := by
  obtain ⟨r1, r2, r3, r4, r5, _⟩ := rng_open hr
  clear hr
  obtain ⟨E, hE⟩ : ∃ E, insB p f 3 = E := ⟨_, rfl⟩
  rw [hE]
  unfold insB at hE
  rw [show pw 3 = 8 from rfl] at hE
  have HE := Lib.hid hE
  clear hE
  obtain ⟨cs, rfl, hV⟩ := H
  obtain ⟨v1, v2, v3, v4, v5, v6, v7, v8, v9, v10, v11, v12, v13, v14, v15, v16, rfl⟩ := hV.open
  have X0 := PX.new hV
  clear hV
  go_enter Tryd.func33, Tryd.ntmps33
  go_upto_region 1 with fail
  obtain ⟨w1, hw1⟩ : ∃ W, W = w.alloc (.cells #[.int .i64 p.st, v1, v2, v3, v4, v5, v6, v7, v8, v9, v10, v11, v12, v13, v14, v15, v16] 26) := ⟨_, rfl⟩
  have X1 : PX w w.heap.size [.int .i64 p.st, v1, v2, v3, v4, v5, v6, v7, v8, v9, v10, v11, v12, v13, v14, v15, v16] p w1 := by rw [hw1]; exact X0
  rw [← hw1]
  obtain ⟨g, hg0⟩ : ∃ g, w.heap.size = g := ⟨_, rfl⟩
  rw [hg0] at X1 ⊢
  clear hw1 X0 hg0
  obtain ⟨aT, nT, cT, hT, hnT, _, _, _, _⟩ := X1.v.types X1.x
  have h0 := X1.v.start X1.x
  have HNT := Lib.hid hnT
  rw [hnT] at r3 r4 r5
  clear hnT
  by_cases hs : p.st ≤ f
  · obtain ⟨q, hq⟩ : ∃ q, f % 8 = q := ⟨_, rfl⟩
    have hq2 : f.tmod 8 = q := by rw [Int.tmod_eq_emod_of_nonneg (by omega)]; exact hq
    have HQ := Lib.hid hq
    clear hq
    go_wp2
    all_goals
      go_ret
      refine ⟨ret_bool ?_, X1.b⟩
      rw [← HE.out, HQ.out, HNT.out, Bool.eq_iff_iff]
      first
        | (simp; done)
        | (simp; omega)
        | (simp at *; omega)
  · go_wp2
    go_ret
    refine ⟨ret_bool ?_, X1.b⟩
    rw [← HE.out, Bool.eq_iff_iff]
    first
      | (simp; done)
      | (simp; omega)
set_option maxRecDepth 100000 in set_option maxHeartbeats 1600000 in
theorem block_51_3 (v : Value) (p : P) (f : Int) (w : World) (H : Rpv w v p) (hr : rngB p = true) : Calls Tryd.prog 51 #[v, .int .i64 f, .int .i64 3] w fun e w' => e = .returned (.bool (insB p f 3)) ∧ Below w.heap.size w w' := by
  obtain ⟨r1, r2, r3, r4, r5, _⟩ := rng_open hr
  clear hr
  obtain ⟨E, hE⟩ : ∃ E, insB p f 3 = E := ⟨_, rfl⟩
  rw [hE]
  unfold insB at hE
  rw [show pw 3 = 8 from rfl] at hE
  have HE := Lib.hid hE
  clear hE
  obtain ⟨cs, rfl, hV⟩ := H
  obtain ⟨v1, v2, v3, v4, v5, v6, v7, v8, v9, v10, v11, v12, v13, v14, v15, v16, rfl⟩ := hV.open
  have X0 := PX.new hV
  clear hV
  go_enter Tryd.func51, Tryd.ntmps51
  go_upto_region 1 with fail
  obtain ⟨w1, hw1⟩ : ∃ W, W = w.alloc (.cells #[.int .i64 p.st, v1, v2, v3, v4, v5, v6, v7, v8, v9, v10, v11, v12, v13, v14, v15, v16] 26) := ⟨_, rfl⟩
  have X1 : PX w w.heap.size [.int .i64 p.st, v1, v2, v3, v4, v5, v6, v7, v8, v9, v10, v11, v12, v13, v14, v15, v16] p w1 := by rw [hw1]; exact X0
  rw [← hw1]
  obtain ⟨g, hg0⟩ : ∃ g, w.heap.size = g := ⟨_, rfl⟩
  rw [hg0] at X1 ⊢
  clear hw1 X0 hg0
  obtain ⟨aT, nT, cT, hT, hnT, _, _, _, _⟩ := X1.v.types X1.x
  have h0 := X1.v.start X1.x
  have HNT := Lib.hid hnT
  rw [hnT] at r3 r4 r5
  clear hnT
  by_cases hs : p.st ≤ f
  · obtain ⟨q, hq⟩ : ∃ q, f % 8 = q := ⟨_, rfl⟩
    have hq2 : f.tmod 8 = q := by rw [Int.tmod_eq_emod_of_nonneg (by omega)]; exact hq
    have HQ := Lib.hid hq
    clear hq
    go_wp2
    all_goals
      go_ret
      refine ⟨ret_bool ?_, X1.b⟩
      rw [← HE.out, HQ.out, HNT.out, Bool.eq_iff_iff]
      first
        | (simp; done)
        | (simp; omega)
        | (simp at *; omega)
  · go_wp2
    go_ret
    refine ⟨ret_bool ?_, X1.b⟩
    rw [← HE.out, Bool.eq_iff_iff]
    first
      | (simp; done)
      | (simp; omega)
set_option maxRecDepth 100000 in set_option maxHeartbeats 1600000 in
theorem inside_33_4 (v : Value) (p : P) (f : Int) (w : World) (H : Rpv w v p) (hr : rngB p = true) : Calls Tryd.prog 33 #[v, .int .i64 f, .int .i64 4] w fun e w' => e = .returned (.bool (insB p f 4)) ∧ Below w.heap.size w w' := by
  obtain ⟨r1, r2, r3, r4, r5, _⟩ := rng_open hr
  clear hr
  obtain ⟨E, hE⟩ : ∃ E, insB p f 4 = E := ⟨_, rfl⟩
  rw [hE]
  unfold insB at hE
  rw [show pw 4 = 16 from rfl] at hE
  have HE := Lib.hid hE
  clear hE
  obtain ⟨cs, rfl, hV⟩ := H
  obtain ⟨v1, v2, v3, v4, v5, v6, v7, v8, v9, v10, v11, v12, v13, v14, v15, v16, rfl⟩ := hV.open
  have X0 := PX.new hV
  clear hV
  go_enter Tryd.func33, Tryd.ntmps33
  go_upto_region 1 with fail
  obtain ⟨w1, hw1⟩ : ∃ W, W = w.alloc (.cells #[.int .i64 p.st, v1, v2, v3, v4, v5, v6, v7, v8, v9, v10, v11, v12, v13, v14, v15, v16] 26) := ⟨_, rfl⟩
  have X1 : PX w w.heap.size [.int .i64 p.st, v1, v2, v3, v4, v5, v6, v7, v8, v9, v10, v11, v12, v13, v14, v15, v16] p w1 := by rw [hw1]; exact X0
  rw [← hw1]
  obtain ⟨g, hg0⟩ : ∃ g, w.heap.size = g := ⟨_, rfl⟩
  rw [hg0] at X1 ⊢
  clear hw1 X0 hg0
  obtain ⟨aT, nT, cT, hT, hnT, _, _, _, _⟩ := X1.v.types X1.x
  have h0 := X1.v.start X1.x
  have HNT := Lib.hid hnT
  rw [hnT] at r3 r4 r5
  clear hnT
  by_cases hs : p.st ≤ f
  · obtain ⟨q, hq⟩ : ∃ q, f % 16 = q := ⟨_, rfl⟩
    have hq2 : f.tmod 16 = q := by rw [Int.tmod_eq_emod_of_nonneg (by omega)]; exact hq
    have HQ := Lib.hid hq
    clear hq
    go_wp2
    all_goals
      go_ret
      refine ⟨ret_bool ?_, X1.b⟩
      rw [← HE.out, HQ.out, HNT.out, Bool.eq_iff_iff]
      first
        | (simp; done)
        | (simp; omega)
        | (simp at *; omega)
  · go_wp2
    go_ret
    refine ⟨ret_bool ?_, X1.b⟩
    rw [← HE.out, Bool.eq_iff_iff]
    first
      | (simp; done)
      | (simp; omega)
set_option maxRecDepth 100000 in set_option maxHeartbeats 1600000 in
theorem block_51_4 (v : Value) (p : P) (f : Int) (w : World) (H : Rpv w v p) (hr : rngB p = true) : Calls Tryd.prog 51 #[v, .int .i64 f, .int .i64 4] w fun e w' => e = .returned (.bool (insB p f 4)) ∧ Below w.heap.size w w' := by
  obtain ⟨r1, r2, r3, r4, r5, _⟩ := rng_open hr
  clear hr
  obtain ⟨E, hE⟩ : ∃ E, insB p f 4 = E := ⟨_, rfl⟩
  rw [hE]
  unfold insB at hE
  rw [show pw 4 = 16 from rfl] at hE
  have HE := Lib.hid hE
  clear hE
  obtain ⟨cs, rfl, hV⟩ := H
  obtain ⟨v1, v2, v3, v4, v5, v6, v7, v8, v9, v10, v11, v12, v13, v14, v15, v16, rfl⟩ := hV.open
  have X0 := PX.new hV
  clear hV
  go_enter Tryd.func51, Tryd.ntmps51
  go_upto_region 1 with fail
  obtain ⟨w1, hw1⟩ : ∃ W, W = w.alloc (.cells #[.int .i64 p.st, v1, v2, v3, v4, v5, v6, v7, v8, v9, v10, v11, v12, v13, v14, v15, v16] 26) := ⟨_, rfl⟩
  have X1 : PX w w.heap.size [.int .i64 p.st, v1, v2, v3, v4, v5, v6, v7, v8, v9, v10, v11, v12, v13, v14, v15, v16] p w1 := by rw [hw1]; exact X0
  rw [← hw1]
  obtain ⟨g, hg0⟩ : ∃ g, w.heap.size = g := ⟨_, rfl⟩
  rw [hg0] at X1 ⊢
  clear hw1 X0 hg0
  obtain ⟨aT, nT, cT, hT, hnT, _, _, _, _⟩ := X1.v.types X1.x
  have h0 := X1.v.start X1.x
  have HNT := Lib.hid hnT
  rw [hnT] at r3 r4 r5
  clear hnT
  by_cases hs : p.st ≤ f
  · obtain ⟨q, hq⟩ : ∃ q, f % 16 = q := ⟨_, rfl⟩
    have hq2 : f.tmod 16 = q := by rw [Int.tmod_eq_emod_of_nonneg (by omega)]; exact hq
    have HQ := Lib.hid hq
    clear hq
    go_wp2
    all_goals
      go_ret
      refine ⟨ret_bool ?_, X1.b⟩
      rw [← HE.out, HQ.out, HNT.out, Bool.eq_iff_iff]
      first
        | (simp; done)
        | (simp; omega)
        | (simp at *; omega)
  · go_wp2
    go_ret
    refine ⟨ret_bool ?_, X1.b⟩
    rw [← HE.out, Bool.eq_iff_iff]
    first
      | (simp; done)
      | (simp; omega)
theorem inside_33 (v : Value) (p : P) (f : Int) (k : Nat) (hk : k < 5) (w : World) (H : Rpv w v p) (hr : rngB p = true) : Calls Tryd.prog 33 #[v, .int .i64 f, .int .i64 k] w fun e w' => e = .returned (.bool (insB p f k)) ∧ Below w.heap.size w w' := by
  rcases (show k = 0 ∨ k = 1 ∨ k = 2 ∨ k = 3 ∨ k = 4 by omega) with rfl | rfl | rfl | rfl | rfl
  · exact inside_33_0 v p f w H hr
  · exact inside_33_1 v p f w H hr
  · exact inside_33_2 v p f w H hr
  · exact inside_33_3 v p f w H hr
  · exact inside_33_4 v p f w H hr
theorem block_51 (v : Value) (p : P) (f : Int) (k : Nat) (hk : k < 5) (w : World) (H : Rpv w v p) (hr : rngB p = true) : Calls Tryd.prog 51 #[v, .int .i64 f, .int .i64 k] w fun e w' => e = .returned (.bool (insB p f k)) ∧ Below w.heap.size w w' := by
  rcases (show k = 0 ∨ k = 1 ∨ k = 2 ∨ k = 3 ∨ k = 4 by omega) with rfl | rfl | rfl | rfl | rfl
  · exact block_51_0 v p f w H hr
  · exact block_51_1 v p f w H hr
  · exact block_51_2 v p f w H hr
  · exact block_51_3 v p f w H hr
  · exact block_51_4 v p f w H hr
set_option maxRecDepth 100000 in set_option maxHeartbeats 1600000 in
theorem block_51_no (v : Value) (p : P) (f o : Int) (w : World) (H : Rpv w v p) (ho : o < 0 ∨ 4 < o) : Calls Tryd.prog 51 #[v, .int .i64 f, .int .i64 o] w fun e w' => e = .returned (.bool false) ∧ Below w.heap.size w w' := by
  obtain ⟨cs, rfl, hV⟩ := H
  obtain ⟨v1, v2, v3, v4, v5, v6, v7, v8, v9, v10, v11, v12, v13, v14, v15, v16, rfl⟩ := hV.open
  have X0 := PX.new hV
  clear hV
  go_enter Tryd.func51, Tryd.ntmps51
  go_upto_region 1 with fail
  obtain ⟨w1, hw1⟩ : ∃ W, W = w.alloc (.cells #[.int .i64 p.st, v1, v2, v3, v4, v5, v6, v7, v8, v9, v10, v11, v12, v13, v14, v15, v16] 26) := ⟨_, rfl⟩
  have X1 : PX w w.heap.size [.int .i64 p.st, v1, v2, v3, v4, v5, v6, v7, v8, v9, v10, v11, v12, v13, v14, v15, v16] p w1 := by rw [hw1]; exact X0
  rw [← hw1]
  obtain ⟨g, hg0⟩ : ∃ g, w.heap.size = g := ⟨_, rfl⟩
  rw [hg0] at X1 ⊢
  clear hw1 X0 hg0
  go_wp2_with fail
  all_goals first
    | (go_ret; exact ⟨rfl, X1.b⟩)
    | (exfalso; omega)
set_option maxRecDepth 100000 in set_option maxHeartbeats 1600000 in
theorem type_34 (v : Value) (p : P) (f : Int) (w : World) (H : Rpv w v p) (hr : rngB p = true) (h1 : p.st ≤ f) (h2 : f < p.st + 16 * (p.ty.length : Int)) : Calls Tryd.prog 34 #[v, .int .i64 f] w fun e w' => e = .returned (.int .i64 (tyAt p f)) ∧ Below w.heap.size w w' := by
  obtain ⟨r1, r2, r3, r4, r5, _⟩ := rng_open hr
  clear hr
  obtain ⟨E, hE⟩ : ∃ E, tyAt p f = E := ⟨_, rfl⟩
  rw [hE]
  obtain ⟨i, hi⟩ : ∃ i, ((f - p.st) / 16).toNat = i := ⟨_, rfl⟩
  have e1 : (f - p.st).tdiv 16 = (i : Int) := by rw [Int.tdiv_eq_ediv_of_nonneg (by omega)]; omega
  have hil : i < p.ty.length := by omega
  have hx : p.ty[i]? = some E := by
    unfold tyAt at hE
    rw [hi, List.getD_eq_getElem?_getD, List.getElem?_eq_getElem hil] at hE
    rw [List.getElem?_eq_getElem hil, ← hE]; rfl
  have HX := Lib.hid hx
  clear hE hi hx
  obtain ⟨cs, rfl, hV⟩ := H
  obtain ⟨v1, v2, v3, v4, v5, v6, v7, v8, v9, v10, v11, v12, v13, v14, v15, v16, rfl⟩ := hV.open
  have X0 := PX.new hV
  clear hV
  go_enter Tryd.func34, Tryd.ntmps34
  go_upto_region 1 with fail
  obtain ⟨w1, hw1⟩ : ∃ W, W = w.alloc (.cells #[.int .i64 p.st, v1, v2, v3, v4, v5, v6, v7, v8, v9, v10, v11, v12, v13, v14, v15, v16] 26) := ⟨_, rfl⟩
  have X1 : PX w w.heap.size [.int .i64 p.st, v1, v2, v3, v4, v5, v6, v7, v8, v9, v10, v11, v12, v13, v14, v15, v16] p w1 := by rw [hw1]; exact X0
  rw [← hw1]
  obtain ⟨g, hg0⟩ : ∃ g, w.heap.size = g := ⟨_, rfl⟩
  rw [hg0] at X1 ⊢
  clear hw1 X0 hg0
  obtain ⟨aT, nT, cT, hT, hnT, _, _, _, hI⟩ := X1.v.types X1.x
  have h0 := X1.v.start X1.x
  obtain ⟨b, off, rfl, c0⟩ := hI.at HX.out
  rw [hnT] at r3 r4 r5 h2 hil
  clear hnT
  go_wp2
  go_ret
  exact ⟨rfl, X1.b⟩
set_option maxRecDepth 100000 in set_option maxHeartbeats 1600000 in
theorem inrange_36 (v : Value) (p : P) (w : World) (H : Rpv w v p) : Calls Tryd.prog 36 #[v] w fun e w' => e = .returned (.bool (rngB p)) ∧ Below w.heap.size w w' := by
  obtain ⟨E, hE⟩ : ∃ E, rngB p = E := ⟨_, rfl⟩
  rw [hE]
  have HE := Lib.hid hE
  clear hE
  obtain ⟨cs, rfl, hV⟩ := H
  obtain ⟨v1, v2, v3, v4, v5, v6, v7, v8, v9, v10, v11, v12, v13, v14, v15, v16, rfl⟩ := hV.open
  have X0 := PX.new hV
  clear hV
  go_enter Tryd.func36, Tryd.ntmps36
  go_upto_region 1 with fail
  obtain ⟨w1, hw1⟩ : ∃ W, W = w.alloc (.cells #[.int .i64 p.st, v1, v2, v3, v4, v5, v6, v7, v8, v9, v10, v11, v12, v13, v14, v15, v16] 26) := ⟨_, rfl⟩
  have X1 : PX w w.heap.size [.int .i64 p.st, v1, v2, v3, v4, v5, v6, v7, v8, v9, v10, v11, v12, v13, v14, v15, v16] p w1 := by rw [hw1]; exact X0
  rw [← hw1]
  obtain ⟨g, hg0⟩ : ∃ g, w.heap.size = g := ⟨_, rfl⟩
  rw [hg0] at X1 ⊢
  clear hw1 X0 hg0
  obtain ⟨aT, nT, cT, hT, hnT, h1, h2, _, hI⟩ := X1.v.types X1.x
  have h0 := X1.v.start X1.x
  have HNT := Lib.hid hnT
  unfold maxLen at h2
  have hE2 : E = (decide (0 ≤ p.st ∧ p.st % 16 = 0 ∧ 1 ≤ nT ∧ nT ≤ 16 ∧ p.st ≤ 256 - 16 * (nT : Int)) && p.ty.all kindB) := by rw [← HE.out, ← hnT]; rfl
  have HE2 := Lib.hid hE2
  clear hnT hE2
  by_cases hs : p.st < 0
  · go_wp2
    go_ret
    refine ⟨ret_bool ?_, X1.b⟩
    rw [HE2.out, decide_eq_false (by omega)]; rfl
  by_cases h16 : p.st % 16 = 0
  · have t1 : p.st.tmod 16 = 0 := by rw [Int.tmod_eq_emod_of_nonneg (by omega)]; exact h16
    by_cases hr : 1 ≤ nT ∧ nT ≤ 16 ∧ p.st ≤ 256 - 16 * (nT : Int)
    · obtain ⟨r1, r2, r3⟩ := hr
      have HE3 := Lib.hid (show E = p.ty.all kindB by rw [HE2.out, decide_eq_true ⟨by omega, h16, r1, r2, r3⟩]; rfl)
      go_wp2
      go_loopg [3] nT (fun gg v3 wr => ∃ i : Nat, i + gg = nT ∧ v3 = .int .i64 i ∧ E = (p.ty.drop i).all kindB ∧ w1 = wr)
      case atStart => exact ⟨0, by omega, rfl, HE3.out, rfl⟩
      case round =>
        obtain ⟨i, hg, rfl, hEi, rfl⟩ := hrel
        cases gk with
        | zero =>
          obtain rfl : i = nT := by omega
          have HF := Lib.hid (show E = true by rw [hEi, List.drop_eq_nil_of_le (by rw [HNT.out]; exact Nat.le_refl _)]; rfl)
          clear hEi hg
          go_wp2
          go_ret
          exact ⟨ret_bool HF.out.symm, X1.b⟩
        | succ gg =>
          have hin : i < nT := by omega
          obtain ⟨x, hx⟩ := get_some HNT.out hin
          obtain ⟨b, off, rfl, c0⟩ := hI.at hx
          have HS := Lib.hid (show E = (kindB x && (p.ty.drop (i + 1)).all kindB) by rw [hEi, drop_get hx]; rfl)
          have HG := Lib.hid hg
          clear hx hEi hg
          by_cases hx : 0 ≤ x ∧ x < 3
          · obtain ⟨x1, x2⟩ := hx
            go_wp2
            go_roundg gg
            case rel => exact ⟨i + 1, by have := HG.out; omega, by go_num, by rw [HS.out, show kindB x = true from decide_eq_true ⟨x1, x2⟩]; rfl, rfl⟩
            case measure => omega
          · have HF := Lib.hid (show E = false by rw [HS.out, show kindB x = false from decide_eq_false hx]; rfl)
            go_wp2_with fail
            all_goals first
              | (go_ret; exact ⟨ret_bool HF.out.symm, X1.b⟩)
              | (exfalso; omega)
    · have hE3 := Lib.hid (show E = false by rw [HE2.out, decide_eq_false (fun h => hr h.2.2)]; rfl)
      go_wp2_with fail
      all_goals first
        | (go_ret; exact ⟨ret_bool hE3.out.symm, X1.b⟩)
        | (exfalso; omega)
  · have t1 : ¬ p.st.tmod 16 = 0 := by rw [Int.tmod_eq_emod_of_nonneg (by omega)]; exact h16
    have t2 : (p.st.tmod 16 != 0) = true := by simpa using t1
    go_wp2
    go_ret
    refine ⟨ret_bool ?_, X1.b⟩
    rw [HE2.out, decide_eq_false (fun h => h16 h.2.1)]; rfl
end Go.Proofs.YtkiiifmofmbniaaDoor
