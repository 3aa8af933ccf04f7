/- Walks: page, blocks, of the laws. -/
import Derived.Test.YtlhbjmoncdljoaaD22
import Derived.Lib.MakeNoZero
namespace Go.Dev
/-- A page of one byte. -/
def pg (v : Int) : List Int := List.replicate 32 v
end Go.Dev
namespace Go.Proofs.Ytlhbjmoncdljoaa
open Go.RowKit Go.Over Go.Dev Go.Seg Go.Grow
theorem made_bytes (n : Nat) : (madeCells (Value.int .u8 0).cells (n * 1)).toList = List.replicate n (Value.int .u8 0) := by
  simp only [madeCells, Nat.mul_one, Value.cells, Array.toList_map, Array.toList_range]
  apply List.ext_getElem
  · simp
  · intro i h1 h2
    simp [Nat.mod_one]
theorem wpList_make_bytes (w : World) {ops : Array Oper} {rest : List Oper} {x : Oper} {a : Act} {Q : Exit → Act → World → Prop} (hg : x.guard = none) (l c : Operand) (hop : x.op = Op.makeSlice 31 l c) (kl kc : IntKind) (o : Int) (base n : Nat)
    (hl : a.eval l = .int kl o) (hc : a.eval c = .int kc o) (ho : o = (n : Int)) (hn : n ≤ 1000) (hb : base ≤ w.heap.size)
    (hK : ∀ w', w'.ownsRow base 5 1 (.slice (some ⟨w.heap.size, 0, none⟩) n n) n (List.replicate n (Value.int .u8 0)) → w.grownBy w' none → wpList Try.prog ops Q rest (a.put x.dst (.slice (some ⟨w.heap.size, 0, none⟩) n n)) w') :
    wpList Try.prog ops Q (x :: rest) a w := by
  obtain ⟨i, hi, hz0, hz1, hz2⟩ := info_parts (show (Try.prog.info? 5).map (fun i => (i.zero, i.size, i.bytes)) = some (some (.int .u8 0), 1, 1) by kernel_rfl)
  refine wpList_make_full w hg l c 31 hop base 5 i (.int .u8 0) 1 Try.underlying31 hi hz0 hz1 kl kc o o n hl hc ho ho (by rw [hz2]; omega) (by unfold maxLen; omega) hb ?_
  rw [made_bytes]
  exact hK
theorem fill_set {α : Type} {v z : α} {i n : Nat} (hi : i < n) : (List.replicate i v ++ List.replicate (n - i) z).set i v = List.replicate (i + 1) v ++ List.replicate (n - (i + 1)) z := by
  apply List.ext_getElem?
  intro k
  rw [List.getElem?_set, List.getElem?_append, List.getElem?_append]
  simp only [List.length_append, List.length_replicate, List.getElem?_replicate]
  repeat' split
  all_goals first | rfl | (exfalso; omega)
theorem grown_none {w w' : World} (h : w.grownBy w' none) : Below w.heap.size w w' := (Below.refl _ _).grown h (Nat.le_refl _) (fun k hk => by cases hk)
set_option maxRecDepth 100000 in set_option maxHeartbeats 3200000 in
theorem page_34 (v : Int) (w : World) : Calls Try.prog 34 #[.int .u8 v] w fun e w' => ∃ V, e = .returned V ∧ SlV w' V (pg v) ∧ Below w.heap.size w w' := by
  go_enter Try.func34, Try.ntmps34
  go_wp2_with (at_make; refine wpList_make_bytes w rfl (.const (.int .i64 32)) (.const (.int .i64 32)) rfl .i64 .i64 32 w.heap.size 32 rfl rfl rfl (by omega) (Nat.le_refl _) ?_)
  intro w2 hin2 hg2
  have hb2 := grown_none hg2
  obtain ⟨g, cap, cur, hV, hge, hB, hcap1, hcap2, hl, ht, _⟩ := own_open hin2 (by omega)
  cases hV
  obtain ⟨gb, hgb⟩ : ∃ g, w.heap.size = g := ⟨_, rfl⟩
  rw [Nat.mul_one] at hl ht
  rw [List.take_of_length_le (by omega)] at ht
  subst ht
  have hlt := hB.lt
  rw [hgb] at hB hlt hb2 ⊢
  have HGB := Lib.hid hgb
  clear hin2 hg2 hl hgb
  go_wp2
  go_loopg [8] 32 (fun gg v8 wr => ∃ i : Nat, i + gg = 32 ∧ v8 = .int .i64 i ∧ Blk wr gb 5 (List.replicate i (.int .u8 v) ++ List.replicate (32 - i) (.int .u8 0)) ∧ Below gb w wr)
  case atStart => exact ⟨0, by omega, rfl, by simpa using hB, hb2⟩
  case round =>
    clear hB hb2 hlt
    obtain ⟨i, hg, rfl, hB, hb⟩ := hrel
    cases gk with
    | zero =>
      obtain rfl : i = 32 := by omega
      have hO : wr.ownsRow gb 5 1 (.slice (some ⟨gb, 0, none⟩) 32 32) 32 ((pg v).map (Value.int .u8)) :=
        own_shut (Nat.le_refl _) hB (Nat.le_refl _) (by unfold maxLen; omega) (by simp) (by simp [pg])
      have hS := SlV.own hO (by simp [pg])
      clear hO hB hg
      go_wp2
      go_ret
      exact ⟨_, rfl, hS, by rw [HGB.out]; exact hb⟩
    | succ gg =>
      have hin : i < 32 := by omega
      have hset := fill_set (v := Value.int .u8 v) (z := Value.int .u8 0) hin
      have hBs := hB.set i (.int .u8 v)
      rw [hset] at hBs
      have hbs := hb.setCell (p := ⟨gb, i, none⟩) (Nat.le_refl _) (.int .u8 v)
      have c0 := hB.cell i
      rw [List.getElem?_append_right (by simp), List.getElem?_replicate, if_pos (by simp; omega)] at c0
      have cf := hB.frozen i
      have hlt := hB.lt
      have HG := Lib.hid hg
      clear hset hB hb hg
      go_wp2
      go_roundg gg
      case rel => exact ⟨i + 1, by have := HG.out; omega, by go_num, hBs, hbs⟩
      case measure => omega
set_option maxRecDepth 100000 in set_option maxHeartbeats 3200000 in
theorem blocks_35 (n : Nat) (hn : n ≤ 100) (w : World) : Calls Try.prog 35 #[.int .i64 n] w fun e w' => ∃ V, e = .returned V ∧ Row 31 1 RB w' w.heap.size V (List.replicate n (pg 0)) ∧ Below w.heap.size w w' := by
  go_enter Try.func35, Try.ntmps35
  go_wp2
  go_loopg [3, 5] n (fun gg v3 v5 wr => ∃ (i : Nat) (V : Value), i + gg = n ∧ V = v3 ∧ v5 = .int .i64 i ∧ Row 31 1 RB wr w.heap.size V (List.replicate i (pg 0)) ∧ Below w.heap.size w wr)
  case atStart => exact ⟨0, _, by omega, rfl, rfl, Row.nil _ _, Below.refl _ _⟩
  case round =>
    obtain ⟨i, V, hg, rfl, rfl, hR, hb⟩ := hrel
    obtain ⟨aV, cV, rfl, _, _, _⟩ := hR.form (n := i) (by simp)
    cases gk with
    | zero =>
      obtain rfl : i = n := by omega
      clear hg
      go_wp2
      go_ret
      exact ⟨_, rfl, hR, hb⟩
    | succ gg =>
      have HG := Lib.hid hg
      have hin : i < n := by omega
      clear hg
      go_wp2_with fail
      refine (page_34 0 wr).mono ?_
      rintro e w2 ⟨v, rfl, hv, b2⟩
      obtain ⟨a2, c2, rfl, _, _, _, _⟩ := hv.form (n := 32) (by simp [pg])
      have hbx := below_box w2 (.cells #[.slice a2 32 c2] 31)
      have hR3 := (hR.later EB b2).later EB hbx
      have hv3 := hv.k5 (K5.below hbx)
      have hb2 := below_then hb b2
      have hb3 := below_then hb2 hbx
      obtain ⟨xs, hown0, hall⟩ := hR3
      rw [List.length_replicate] at hown0
      clear hR b2 hv hbx
      go_wp2_with (at_builtin; refine wpList_append_k K22 rfl (.tmp 7) (.tmp 9) rfl _ _ _ rfl hown0 _ 1 1 _ rfl (src_new w2 #[.slice a2 32 c2] 31 1 1 1 rfl (by simp [Value.oneCell'])) ?c1 ?c2 ?_)
      case c1 => omega
      case c2 => exact hb3.size
      intro V4 w4 hown hgrow _
      have hk5 := K5.grown hgrow hown0 (by decide)
      have hb4 : Below w.heap.size w w4 := hb3.grown hgrow hb3.size (fun q hq => (World.ownsRow.lt hown0 q hq).1)
      have hR4 : Row 31 1 RB w4 w.heap.size V4 (List.replicate (i + 1) (pg 0)) := by
        rw [List.replicate_succ']
        exact Row.push EB hall hk5 hown (by simp) ⟨_, rfl, hv3.k5 hk5⟩
      clear hown hgrow hown0 hall hk5 hv3 hb3 hb2
      go_wp2
      go_roundg gg
      case rel => exact ⟨i + 1, _, by have := HG.out; omega, rfl, by go_num, hR4, hb4⟩
      case measure => omega
end Go.Proofs.Ytlhbjmoncdljoaa
