/- The walk of the law on a crash that keeps everything. -/
import Derived.Test.YtlhbjmoncdljoaaE7
namespace Go.Dev
/-- For each block, whether a write of it is outstanding. -/
def outF (l : List Rq) : List Value := (List.range 4).map fun f => .bool (outQ l f)
theorem outF_nil : outF [] = [.bool false, .bool false, .bool false, .bool false] := rfl
theorem outF_len (l : List Rq) : (outF l).length = 4 := rfl
theorem outF_get {l : List Rq} {f : Nat} (h : f < 4) : (outF l)[f]? = some (.bool (outQ l f)) := by
  rw [outF, List.getElem?_map, List.getElem?_range h]; rfl
theorem outQ_snoc {l : List Rq} {q : Rq} {f : Nat} : outQ (l ++ [q]) f = (outQ l f || decide (q.2.1 = 2 ∧ q.2.2.1 = f)) := by
  simp [outQ, List.any_append]
theorem take_snoc {α : Type} {l : List α} {i : Nat} {x : α} (h : l[i]? = some x) : l.take (i + 1) = l.take i ++ [x] := by
  rw [List.take_add_one, h]; rfl
theorem outF_same {l : List Rq} {i : Nat} {q : Rq} (h : l[i]? = some q) (hk : q.2.1 ≠ 2) : outF (l.take (i + 1)) = outF (l.take i) := by
  unfold outF
  rw [take_snoc h]
  congr 1
  funext f
  rw [outQ_snoc]
  simp [hk]
theorem outF_set {l : List Rq} {i fb : Nat} {q : Rq} (h : l[i]? = some q) (hk : q.2.1 = 2) (hb : q.2.2.1 = fb) : outF (l.take (i + 1)) = (outF (l.take i)).set fb (.bool true) := by
  apply List.ext_getElem?
  intro k
  rw [take_snoc h, List.getElem?_set]
  by_cases hk4 : k < 4
  · rw [outF_get hk4, outF_get hk4, outQ_snoc, outF_len]
    by_cases he : fb = k
    · subst he
      rw [if_pos rfl, if_pos hk4]
      simp [hk, hb]
    · rw [if_neg he]
      have : decide (q.2.1 = 2 ∧ q.2.2.1 = (k : Int)) = false := by rw [decide_eq_false_iff_not]; omega
      rw [this, Bool.or_false]
  · rw [List.getElem?_eq_none (by rw [outF_len]; omega), List.getElem?_eq_none (by rw [outF_len]; omega)]
    split
    · rw [if_neg (by rw [outF_len]; omega)]
    · rfl
end Go.Dev
namespace Go.Proofs.Ytlhbjmoncdljoaa
open Go.RowKit Go.Over Go.Dev Go.Seg Go.Grow
theorem made_bools (n : Nat) : (madeCells (Value.bool false).cells (n * 1)).toList = List.replicate n (Value.bool false) := by
  simp only [madeCells, Nat.mul_one, Value.cells, Array.toList_map, Array.toList_range]
  apply List.ext_getElem
  · simp
  · intro i h1 h2
    simp [Nat.mod_one]
theorem wpList_make_bools (w : World) {ops : Array Oper} {rest : List Oper} {x : Oper} {a : Act} {Q : Exit → Act → World → Prop} (hg : x.guard = none) (l c : Operand) (hop : x.op = Op.makeSlice 47 l c) (kl kc : IntKind) (o : Int) (base n : Nat)
    (hl : a.eval l = .int kl o) (hc : a.eval c = .int kc o) (ho : o = (n : Int)) (hn : n ≤ 1000) (hb : base ≤ w.heap.size)
    (hK : ∀ w', w'.ownsRow base 4 1 (.slice (some ⟨w.heap.size, 0, none⟩) n n) n (List.replicate n (Value.bool false)) → w.grownBy w' none → wpList Try.prog ops Q rest (a.put x.dst (.slice (some ⟨w.heap.size, 0, none⟩) n n)) w') :
    wpList Try.prog ops Q (x :: rest) a w := by
  obtain ⟨i, hi, hz0, hz1, hz2⟩ := info_parts (show (Try.prog.info? 4).map (fun i => (i.zero, i.size, i.bytes)) = some (some (.bool false), 1, 1) by kernel_rfl)
  refine wpList_make_full w hg l c 47 hop base 4 i (.bool false) 1 Try.underlying47 hi hz0 hz1 kl kc o o n hl hc ho ho (by rw [hz2]; omega) (by unfold maxLen; omega) hb ?_
  rw [made_bools]
  exact hK
/-- A cell of another block than those of a device is changed. -/
theorem DS.other {w W : World} {g g' t : Nat} {VB VC VQ : Value} {d : D} {cs : List Value} (h : DS w g VB VC VQ d W) (ho : Blk W g' t cs) (ht : t = 4 ∨ t = 54 ∨ t = 55) (hl : w.heap.size ≤ g') (i : Nat) (u : Value) : DS w g VB VC VQ d (W.setCell ⟨g', i, none⟩ u) :=
  ⟨h.b.setCell (p := ⟨g', i, none⟩) hl u, h.l, h.x.far (p := ⟨g', i, none⟩) (h.x.ne_type ho (by rcases ht with rfl | rfl | rfl <;> decide)) u, h.r.b.far EB ho (by rcases ht with rfl | rfl | rfl <;> decide) (by rcases ht with rfl | rfl | rfl <;> decide) i u, h.r.c.far EC ho (by rcases ht with rfl | rfl | rfl <;> decide) (by rcases ht with rfl | rfl | rfl <;> decide) i u, h.r.q.far EQ ho (by rcases ht with rfl | rfl | rfl <;> decide) (by rcases ht with rfl | rfl | rfl <;> decide) i u⟩
theorem rqs_at {W : World} {x : Option Addr} {l : List Rq} (h : Rqs W x l) {i : Nat} (hi : i < l.length) : ∃ b off Q, x = some ⟨b, off, none⟩ ∧ l[i]? = some Q ∧ RqAt W b (off + i * 4) Q := by
  obtain ⟨b, off, hx, hr⟩ := h (by omega)
  obtain ⟨Q, hQ⟩ := get_some (l := l) rfl hi
  exact ⟨b, off, Q, hx, hQ, hr i Q hQ⟩
theorem pk_all {W : World} {g n : Nat} {v : Bool} (h : Blk W g 4 (List.replicate n (.bool v))) : Pk W (some ⟨g, 0, none⟩) (List.replicate n v) := fun h0 => by
  refine ⟨g, 0, rfl, fun i hi => ?_⟩
  rw [List.length_replicate] at hi
  rw [Nat.zero_add, h.cell i, List.getElem?_replicate, if_pos hi, List.getD_eq_getElem?_getD, List.getElem?_replicate, if_pos hi]; rfl
theorem pk_none {W : World} : Pk W none [] := fun h0 => by simp at h0
/-- The four rounds of the law. -/
structure KR (w : World) (gd go ga gb : Nat) (DB DC DQ AB AC AQ BB BC BQ : Value) (d A B : D) (W : World) : Prop where
  o : Blk W go 54 (outF d.qu)
  d : DS w gd DB DC DQ d W
  a : DS w ga AB AC AQ A W
  b : DS w gb BB BC BQ B W
theorem KR.below {w W W' : World} {gd go ga gb : Nat} {DB DC DQ AB AC AQ BB BC BQ : Value} {d A B : D} (h : KR w gd go ga gb DB DC DQ AB AC AQ BB BC BQ d A B W) (hb : Below W.heap.size W W') : KR w gd go ga gb DB DC DQ AB AC AQ BB BC BQ d A B W' :=
  ⟨h.o.later hb, h.d.below hb, h.a.below hb, h.b.below hb⟩
set_option maxRecDepth 100000 in set_option maxHeartbeats 3200000 in
theorem law_keepsall (a : Option Addr) (l : List (Int × Int × Int × Int)) (n c : Nat) (w : World) (H : ActsAt w a l) (hn : l.length = n) :
    Calls Try.prog 9 #[.slice a n c] w fun e w' => e = .returned (.bool true) ∧ Below w.heap.size w w' := by
  have HN := Lib.hid hn
  clear hn
  go_enter Try.func9, Try.ntmps9
  go_wp2_with fail
  refine (awake_11 _).mono ?_
  rintro e w1 ⟨rfl, b1⟩
  by_cases h40 : 40 < n
  · have t0 : decide ((40 : Int) < (n : Int)) = true := by simp; omega
    go_wp2_with fail
    refine (awake_11 _).mono ?_
    rintro e w4 ⟨rfl, b4⟩
    go_wp2
    go_ret
    exact ⟨rfl, below_then b1 b4⟩
  have t0 : decide ((40 : Int) < (n : Int)) = false := by simp; omega
  have hle : n ≤ 40 := by omega
  clear h40
  go_wp2_with fail
  refine (play_32 a l n c _ (H.below b1) HN.out hle).mono ?_
  rintro e w2 ⟨v, d, rfl, hO, hP, b2⟩
  obtain ⟨VB, VC, VQ, x1, k1, x3, k3, x4, k4, rfl, rfl, rfl, rfl, r1, r2, r3⟩ := hO.cells
  dsimp only at r1 r2 r3 ⊢
  have S3 : DS w w2.heap.size (.slice x1 d.bl.length k1) (.slice x3 d.ca.length k3) (.slice x4 d.qu.length k4) d _ := DS.new ⟨r1, r2, r3⟩ b1.size (below_then b1 b2)
  obtain ⟨gd, hgd⟩ : ∃ g, w2.heap.size = g := ⟨_, rfl⟩
  clear r1 r2 r3 hO b1 b2 t0
  go_upto_region 4 with fail
  obtain ⟨w3, hw3⟩ : ∃ W, W = w2.alloc (.cells #[.int .i64 d.dp, .int .i64 d.nx, .slice x1 d.bl.length k1, .slice x3 d.ca.length k3, .slice x4 d.qu.length k4] 26) := ⟨_, rfl⟩
  rw [← hw3] at S3 ⊢
  rw [hgd] at S3
  clear hw3 hgd
  obtain ⟨A, B, e1, e2, pA, pB, kA, kB, hch, hAq, hAn⟩ := keeps_spec hP
  have HKA := Lib.hid kA; have HKB := Lib.hid kB; have HCH := Lib.hid hch; have HAQ := Lib.hid hAq; have HAN := Lib.hid hAn
  clear kA kB hch hAq hAn
  have q4 := hP.q4
  have hO3 : Blk (w3.alloc (.cells #[.bool false, .bool false, .bool false, .bool false] 54)) w3.heap.size 54 (outF []) := Blk.new w3 54 #[.bool false, .bool false, .bool false, .bool false] _ rfl
  have hbx := below_box w3 (.cells #[.bool false, .bool false, .bool false, .bool false] 54)
  have S4 := S3.below hbx
  have hgo : w.heap.size ≤ w3.heap.size := S3.b.size
  obtain ⟨go, hgo'⟩ : ∃ g, w3.heap.size = g := ⟨_, rfl⟩
  clear S3 hbx
  go_upto_region 7 with fail
  obtain ⟨w4, hw4⟩ : ∃ W, W = w3.alloc (.cells #[.bool false, .bool false, .bool false, .bool false] 54) := ⟨_, rfl⟩
  rw [← hw4] at S4 hO3 ⊢
  rw [hgo'] at hO3 hgo
  clear hw4 hgo'
  have d0 := S4.x.cell 0
  have d1 := S4.x.cell 1
  have d2 := S4.x.cell 2
  have d3 := S4.x.cell 3
  have d4 := S4.x.cell 4
  simp only [List.getElem?_cons_zero, List.getElem?_cons_succ] at d0 d1 d2 d3 d4
  go_wp2
  go_loopg [33] d.qu.length (fun gg v33 wr => ∃ i : Nat, i + gg = d.qu.length ∧ v33 = .int .i64 i ∧ DS w gd (.slice x1 d.bl.length k1) (.slice x3 d.ca.length k3) (.slice x4 d.qu.length k4) d wr ∧ Blk wr go 54 (outF (d.qu.take i)))
  case atStart => exact ⟨0, by omega, rfl, S4, hO3⟩
  case round =>
    clear S4 hO3 d0 d1 d2 d3 d4
    obtain ⟨i, hg, rfl, S5, O5⟩ := hrel
    cases gk with
    | zero =>
      obtain rfl : i = d.qu.length := by omega
      rw [List.take_length] at O5
      clear hg
      go_wp2_with (at_make; refine wpList_make_bools wr rfl (.const (.int .i64 40)) (.const (.int .i64 40)) rfl .i64 .i64 40 wr.heap.size 40 rfl rfl rfl (by omega) (Nat.le_refl _) ?_)
      intro w5 hin5 hg5
      have hb5 := grown_none hg5
      obtain ⟨g, cap, cur, hV, hge, hB, hcap1, hcap2, hl5, ht, _⟩ := own_open hin5 (by omega)
      cases hV
      obtain ⟨gp, hgp⟩ : ∃ g, wr.heap.size = g := ⟨_, rfl⟩
      rw [Nat.mul_one] at hl5 ht
      rw [List.take_of_length_le (by omega)] at ht
      subst ht
      have hgpl : w.heap.size ≤ gp := by have := S5.b.size; omega
      have S6 := S5.below hb5
      have O6 := O5.later hb5
      rw [hgp] at hB ⊢
      clear hin5 hg5 hl5 hb5 S5 O5 hgp
      go_wp2
      go_loopg [57] 40 (fun gg v57 wr => ∃ i : Nat, i + gg = 40 ∧ v57 = .int .i64 i ∧ DS w gd (.slice x1 d.bl.length k1) (.slice x3 d.ca.length k3) (.slice x4 d.qu.length k4) d wr ∧ Blk wr go 54 (outF d.qu) ∧ Blk wr gp 4 (List.replicate i (.bool true) ++ List.replicate (40 - i) (.bool false)))
      case atStart => exact ⟨0, by omega, rfl, S6, O6, by simpa using hB⟩
      case round =>
        clear S6 O6 hB
        obtain ⟨i, hg, rfl, S7, O7, P7⟩ := hrel
        cases gk with
        | zero =>
          obtain rfl : i = 40 := by omega
          have P8 : Blk wr gp 4 (List.replicate 40 (.bool true)) := by simpa using P7
          clear P7 hg
          have d0 := S7.x.cell 0
          have d1 := S7.x.cell 1
          have d2 := S7.x.cell 2
          have d3 := S7.x.cell 3
          have d4 := S7.x.cell 4
          simp only [List.getElem?_cons_zero, List.getElem?_cons_succ] at d0 d1 d2 d3 d4
          go_wp2_with fail
          refine (crash_d S7.rdv (pd_few hP) (some ⟨gp, 0, none⟩) 40 40 (List.replicate 40 true) (pk_all P8) (by simp)).mono ?_
          rintro e w6 ⟨v, rfl, hO, b6⟩
          rw [e1] at hO ⊢
          obtain ⟨VB, VC, VQ, y1, m1, y3, m3, y4, m4, rfl, rfl, rfl, rfl, r1, r2, r3⟩ := hO.cells
          dsimp only at r1 r2 r3 ⊢
          have hbx := below_box w6 (.cells #[.int .i64 A.dp, .int .i64 A.nx, .slice y1 A.bl.length m1, .slice y3 A.ca.length m3, .slice y4 A.qu.length m4] 26)
          have S8 := (S7.below b6).below hbx
          have O8 := (O7.later b6).later hbx
          have A8 : DS w w6.heap.size _ _ _ A (w6.alloc (.cells #[.int .i64 A.dp, .int .i64 A.nx, .slice y1 A.bl.length m1, .slice y3 A.ca.length m3, .slice y4 A.qu.length m4] 26)) := DS.new ⟨r1, r2, r3⟩ S7.b.size (below_then S7.b b6)
          obtain ⟨ga, hga⟩ : ∃ g, w6.heap.size = g := ⟨_, rfl⟩
          clear r1 r2 r3 hO b6 hbx S7 O7 P8 d0 d1 d2 d3 d4
          go_upto_region 20 with fail
          obtain ⟨w7, hw7⟩ : ∃ W, W = w6.alloc (.cells #[.int .i64 A.dp, .int .i64 A.nx, .slice y1 A.bl.length m1, .slice y3 A.ca.length m3, .slice y4 A.qu.length m4] 26) := ⟨_, rfl⟩
          rw [← hw7] at S8 O8 A8 ⊢
          rw [hga] at A8
          clear hw7 hga
          have d0 := S8.x.cell 0
          have d1 := S8.x.cell 1
          have d2 := S8.x.cell 2
          have d3 := S8.x.cell 3
          have d4 := S8.x.cell 4
          simp only [List.getElem?_cons_zero, List.getElem?_cons_succ] at d0 d1 d2 d3 d4
          go_wp2_with fail
          refine (crash_d S8.rdv (pd_few hP) none 0 0 [] pk_none rfl).mono ?_
          rintro e w8 ⟨v, rfl, hO, b8⟩
          rw [e2] at hO ⊢
          obtain ⟨VB, VC, VQ, u1, i1, u3, i3, u4, i4, rfl, rfl, rfl, rfl, r1, r2, r3⟩ := hO.cells
          dsimp only at r1 r2 r3 ⊢
          have hbx := below_box w8 (.cells #[.int .i64 B.dp, .int .i64 B.nx, .slice u1 B.bl.length i1, .slice u3 B.ca.length i3, .slice u4 B.qu.length i4] 26)
          have F9 : KR w gd go ga w8.heap.size (.slice x1 d.bl.length k1) (.slice x3 d.ca.length k3) (.slice x4 d.qu.length k4) (.slice y1 A.bl.length m1) (.slice y3 A.ca.length m3) (.slice y4 A.qu.length m4) (.slice u1 B.bl.length i1) (.slice u3 B.ca.length i3) (.slice u4 B.qu.length i4) d A B (w8.alloc (.cells #[.int .i64 B.dp, .int .i64 B.nx, .slice u1 B.bl.length i1, .slice u3 B.ca.length i3, .slice u4 B.qu.length i4] 26)) :=
            ⟨(O8.later b8).later hbx, (S8.below b8).below hbx, (A8.below b8).below hbx, DS.new ⟨r1, r2, r3⟩ S8.b.size (below_then S8.b b8)⟩
          obtain ⟨gB, hgB⟩ : ∃ g, w8.heap.size = g := ⟨_, rfl⟩
          clear r1 r2 r3 hO b8 hbx S8 O8 A8 d0 d1 d2 d3 d4
          go_upto_region 21 with fail
          obtain ⟨w9, hw9⟩ : ∃ W, W = w8.alloc (.cells #[.int .i64 B.dp, .int .i64 B.nx, .slice u1 B.bl.length i1, .slice u3 B.ca.length i3, .slice u4 B.qu.length i4] 26) := ⟨_, rfl⟩
          rw [← hw9] at F9 ⊢
          rw [hgB] at F9
          clear hw9 hgB
          go_wp2
          go_loopg [81] 4 (fun gg v81 wr => ∃ i : Nat, i + gg = 4 ∧ v81 = .int .i64 i ∧ KR w gd go ga gB (.slice x1 d.bl.length k1) (.slice x3 d.ca.length k3) (.slice x4 d.qu.length k4) (.slice y1 A.bl.length m1) (.slice y3 A.ca.length m3) (.slice y4 A.qu.length m4) (.slice u1 B.bl.length i1) (.slice u3 B.ca.length i3) (.slice u4 B.qu.length i4) d A B wr)
          case atStart => exact ⟨0, by omega, rfl, F9⟩
          case round =>
            clear F9
            obtain ⟨i, hg, rfl, F8⟩ := hrel
            cases gk with
            | zero =>
              obtain rfl : i = 4 := by omega
              clear hg
              have a0 := F8.a.x.cell 0
              have a1 := F8.a.x.cell 1
              have a2 := F8.a.x.cell 2
              have a3 := F8.a.x.cell 3
              have a4 := F8.a.x.cell 4
              simp only [List.getElem?_cons_zero, List.getElem?_cons_succ] at a0 a1 a2 a3 a4
              go_wp2_with fail
              refine (choices_d F8.a.rdv (pd_few pA)).mono ?_
              rintro e w10 ⟨rfl, b10⟩
              rw [HCH.out]
              have F9 := F8.below b10
              clear F8 b10 a0 a1 a2 a3 a4
              have a0 := F9.a.x.cell 0
              have a1 := F9.a.x.cell 1
              have a2 := F9.a.x.cell 2
              have a3 := F9.a.x.cell 3
              have a4 := F9.a.x.cell 4
              simp only [List.getElem?_cons_zero, List.getElem?_cons_succ] at a0 a1 a2 a3 a4
              have d0 := F9.d.x.cell 0
              have d1 := F9.d.x.cell 1
              have d2 := F9.d.x.cell 2
              have d3 := F9.d.x.cell 3
              have d4 := F9.d.x.cell 4
              simp only [List.getElem?_cons_zero, List.getElem?_cons_succ] at d0 d1 d2 d3 d4
              have hq0 : A.qu.length = 0 := by rw [HAQ.out]; rfl
              rw [hq0] at a4
              rw [HAN.out] at a1
              have t2 : (d.nx == d.nx) = true := by simp
              go_wp2
              go_ret
              exact ⟨rfl, F9.d.b⟩
            | succ gg =>
              have hi : i < 4 := by omega
              have HG := Lib.hid hg
              clear hg
              go_wp2_with fail
              refine wp_region_plan (fun W => Blk W gd 26 [.int .i64 d.dp, .int .i64 d.nx, .slice x1 d.bl.length k1, .slice x3 d.ca.length k3, .slice x4 d.qu.length k4] ∧ Blk W ga 26 [.int .i64 A.dp, .int .i64 A.nx, .slice y1 A.bl.length m1, .slice y3 A.ca.length m3, .slice y4 A.qu.length m4] ∧ Blk W gB 26 [.int .i64 B.dp, .int .i64 B.nx, .slice u1 B.bl.length i1, .slice u3 B.ca.length i3, .slice u4 B.qu.length i4] ∧ Blk W go 54 (outF d.qu)) (.quiet [0, 1, 2, 3, 4, 5, 6, 8, 9] (.only 7 (.only 10 (.only 11 (.quiet [12, 13, 14, 15, 16, 18, 19] (.only 17 (.only 20 (.only 21 (.quiet [22, 23] .done))))))))) 99 (by kernel_rfl) (by kernel_rfl) ⟨F8.d.x.later (Below.refl _ _).drew, F8.a.x.later (Below.refl _ _).drew, F8.b.x.later (Below.refl _ _).drew, F8.o.later (Below.refl _ _).drew⟩ ?_
              intro W hW hWe
              have F9 : KR w gd go ga gB (.slice x1 d.bl.length k1) (.slice x3 d.ca.length k3) (.slice x4 d.qu.length k4) (.slice y1 A.bl.length m1) (.slice y3 A.ca.length m3) (.slice y4 A.qu.length m4) (.slice u1 B.bl.length i1) (.slice u3 B.ca.length i3) (.slice u4 B.qu.length i4) d A B W := by rw [hWe]; exact F8.below (Below.refl _ _).drew
              clear hWe F8
              simp only [wpPlan, inOrder, List.filterMap_cons, List.filterMap_nil, List.getElem?_cons_zero, List.getElem?_cons_succ]
              have d0 := fun z => (hold_ok (S0 := fun W => Blk W gd 26 [.int .i64 d.dp, .int .i64 d.nx, .slice x1 d.bl.length k1, .slice x3 d.ca.length k3, .slice x4 d.qu.length k4] ∧ Blk W ga 26 [.int .i64 A.dp, .int .i64 A.nx, .slice y1 A.bl.length m1, .slice y3 A.ca.length m3, .slice y4 A.qu.length m4] ∧ Blk W gB 26 [.int .i64 B.dp, .int .i64 B.nx, .slice u1 B.bl.length i1, .slice u3 B.ca.length i3, .slice u4 B.qu.length i4] ∧ Blk W go 54 (outF d.qu)) hW z).1.cell 0
              have d1 := fun z => (hold_ok (S0 := fun W => Blk W gd 26 [.int .i64 d.dp, .int .i64 d.nx, .slice x1 d.bl.length k1, .slice x3 d.ca.length k3, .slice x4 d.qu.length k4] ∧ Blk W ga 26 [.int .i64 A.dp, .int .i64 A.nx, .slice y1 A.bl.length m1, .slice y3 A.ca.length m3, .slice y4 A.qu.length m4] ∧ Blk W gB 26 [.int .i64 B.dp, .int .i64 B.nx, .slice u1 B.bl.length i1, .slice u3 B.ca.length i3, .slice u4 B.qu.length i4] ∧ Blk W go 54 (outF d.qu)) hW z).1.cell 1
              have d2 := fun z => (hold_ok (S0 := fun W => Blk W gd 26 [.int .i64 d.dp, .int .i64 d.nx, .slice x1 d.bl.length k1, .slice x3 d.ca.length k3, .slice x4 d.qu.length k4] ∧ Blk W ga 26 [.int .i64 A.dp, .int .i64 A.nx, .slice y1 A.bl.length m1, .slice y3 A.ca.length m3, .slice y4 A.qu.length m4] ∧ Blk W gB 26 [.int .i64 B.dp, .int .i64 B.nx, .slice u1 B.bl.length i1, .slice u3 B.ca.length i3, .slice u4 B.qu.length i4] ∧ Blk W go 54 (outF d.qu)) hW z).1.cell 2
              have d3 := fun z => (hold_ok (S0 := fun W => Blk W gd 26 [.int .i64 d.dp, .int .i64 d.nx, .slice x1 d.bl.length k1, .slice x3 d.ca.length k3, .slice x4 d.qu.length k4] ∧ Blk W ga 26 [.int .i64 A.dp, .int .i64 A.nx, .slice y1 A.bl.length m1, .slice y3 A.ca.length m3, .slice y4 A.qu.length m4] ∧ Blk W gB 26 [.int .i64 B.dp, .int .i64 B.nx, .slice u1 B.bl.length i1, .slice u3 B.ca.length i3, .slice u4 B.qu.length i4] ∧ Blk W go 54 (outF d.qu)) hW z).1.cell 3
              have d4 := fun z => (hold_ok (S0 := fun W => Blk W gd 26 [.int .i64 d.dp, .int .i64 d.nx, .slice x1 d.bl.length k1, .slice x3 d.ca.length k3, .slice x4 d.qu.length k4] ∧ Blk W ga 26 [.int .i64 A.dp, .int .i64 A.nx, .slice y1 A.bl.length m1, .slice y3 A.ca.length m3, .slice y4 A.qu.length m4] ∧ Blk W gB 26 [.int .i64 B.dp, .int .i64 B.nx, .slice u1 B.bl.length i1, .slice u3 B.ca.length i3, .slice u4 B.qu.length i4] ∧ Blk W go 54 (outF d.qu)) hW z).1.cell 4
              simp only [List.getElem?_cons_zero, List.getElem?_cons_succ] at d0 d1 d2 d3 d4
              have a0 := fun z => (hold_ok (S0 := fun W => Blk W gd 26 [.int .i64 d.dp, .int .i64 d.nx, .slice x1 d.bl.length k1, .slice x3 d.ca.length k3, .slice x4 d.qu.length k4] ∧ Blk W ga 26 [.int .i64 A.dp, .int .i64 A.nx, .slice y1 A.bl.length m1, .slice y3 A.ca.length m3, .slice y4 A.qu.length m4] ∧ Blk W gB 26 [.int .i64 B.dp, .int .i64 B.nx, .slice u1 B.bl.length i1, .slice u3 B.ca.length i3, .slice u4 B.qu.length i4] ∧ Blk W go 54 (outF d.qu)) hW z).2.1.cell 0
              have a1 := fun z => (hold_ok (S0 := fun W => Blk W gd 26 [.int .i64 d.dp, .int .i64 d.nx, .slice x1 d.bl.length k1, .slice x3 d.ca.length k3, .slice x4 d.qu.length k4] ∧ Blk W ga 26 [.int .i64 A.dp, .int .i64 A.nx, .slice y1 A.bl.length m1, .slice y3 A.ca.length m3, .slice y4 A.qu.length m4] ∧ Blk W gB 26 [.int .i64 B.dp, .int .i64 B.nx, .slice u1 B.bl.length i1, .slice u3 B.ca.length i3, .slice u4 B.qu.length i4] ∧ Blk W go 54 (outF d.qu)) hW z).2.1.cell 1
              have a2 := fun z => (hold_ok (S0 := fun W => Blk W gd 26 [.int .i64 d.dp, .int .i64 d.nx, .slice x1 d.bl.length k1, .slice x3 d.ca.length k3, .slice x4 d.qu.length k4] ∧ Blk W ga 26 [.int .i64 A.dp, .int .i64 A.nx, .slice y1 A.bl.length m1, .slice y3 A.ca.length m3, .slice y4 A.qu.length m4] ∧ Blk W gB 26 [.int .i64 B.dp, .int .i64 B.nx, .slice u1 B.bl.length i1, .slice u3 B.ca.length i3, .slice u4 B.qu.length i4] ∧ Blk W go 54 (outF d.qu)) hW z).2.1.cell 2
              have a3 := fun z => (hold_ok (S0 := fun W => Blk W gd 26 [.int .i64 d.dp, .int .i64 d.nx, .slice x1 d.bl.length k1, .slice x3 d.ca.length k3, .slice x4 d.qu.length k4] ∧ Blk W ga 26 [.int .i64 A.dp, .int .i64 A.nx, .slice y1 A.bl.length m1, .slice y3 A.ca.length m3, .slice y4 A.qu.length m4] ∧ Blk W gB 26 [.int .i64 B.dp, .int .i64 B.nx, .slice u1 B.bl.length i1, .slice u3 B.ca.length i3, .slice u4 B.qu.length i4] ∧ Blk W go 54 (outF d.qu)) hW z).2.1.cell 3
              have a4 := fun z => (hold_ok (S0 := fun W => Blk W gd 26 [.int .i64 d.dp, .int .i64 d.nx, .slice x1 d.bl.length k1, .slice x3 d.ca.length k3, .slice x4 d.qu.length k4] ∧ Blk W ga 26 [.int .i64 A.dp, .int .i64 A.nx, .slice y1 A.bl.length m1, .slice y3 A.ca.length m3, .slice y4 A.qu.length m4] ∧ Blk W gB 26 [.int .i64 B.dp, .int .i64 B.nx, .slice u1 B.bl.length i1, .slice u3 B.ca.length i3, .slice u4 B.qu.length i4] ∧ Blk W go 54 (outF d.qu)) hW z).2.1.cell 4
              simp only [List.getElem?_cons_zero, List.getElem?_cons_succ] at a0 a1 a2 a3 a4
              have b0 := fun z => (hold_ok (S0 := fun W => Blk W gd 26 [.int .i64 d.dp, .int .i64 d.nx, .slice x1 d.bl.length k1, .slice x3 d.ca.length k3, .slice x4 d.qu.length k4] ∧ Blk W ga 26 [.int .i64 A.dp, .int .i64 A.nx, .slice y1 A.bl.length m1, .slice y3 A.ca.length m3, .slice y4 A.qu.length m4] ∧ Blk W gB 26 [.int .i64 B.dp, .int .i64 B.nx, .slice u1 B.bl.length i1, .slice u3 B.ca.length i3, .slice u4 B.qu.length i4] ∧ Blk W go 54 (outF d.qu)) hW z).2.2.1.cell 0
              have b1 := fun z => (hold_ok (S0 := fun W => Blk W gd 26 [.int .i64 d.dp, .int .i64 d.nx, .slice x1 d.bl.length k1, .slice x3 d.ca.length k3, .slice x4 d.qu.length k4] ∧ Blk W ga 26 [.int .i64 A.dp, .int .i64 A.nx, .slice y1 A.bl.length m1, .slice y3 A.ca.length m3, .slice y4 A.qu.length m4] ∧ Blk W gB 26 [.int .i64 B.dp, .int .i64 B.nx, .slice u1 B.bl.length i1, .slice u3 B.ca.length i3, .slice u4 B.qu.length i4] ∧ Blk W go 54 (outF d.qu)) hW z).2.2.1.cell 1
              have b2 := fun z => (hold_ok (S0 := fun W => Blk W gd 26 [.int .i64 d.dp, .int .i64 d.nx, .slice x1 d.bl.length k1, .slice x3 d.ca.length k3, .slice x4 d.qu.length k4] ∧ Blk W ga 26 [.int .i64 A.dp, .int .i64 A.nx, .slice y1 A.bl.length m1, .slice y3 A.ca.length m3, .slice y4 A.qu.length m4] ∧ Blk W gB 26 [.int .i64 B.dp, .int .i64 B.nx, .slice u1 B.bl.length i1, .slice u3 B.ca.length i3, .slice u4 B.qu.length i4] ∧ Blk W go 54 (outF d.qu)) hW z).2.2.1.cell 2
              have b3 := fun z => (hold_ok (S0 := fun W => Blk W gd 26 [.int .i64 d.dp, .int .i64 d.nx, .slice x1 d.bl.length k1, .slice x3 d.ca.length k3, .slice x4 d.qu.length k4] ∧ Blk W ga 26 [.int .i64 A.dp, .int .i64 A.nx, .slice y1 A.bl.length m1, .slice y3 A.ca.length m3, .slice y4 A.qu.length m4] ∧ Blk W gB 26 [.int .i64 B.dp, .int .i64 B.nx, .slice u1 B.bl.length i1, .slice u3 B.ca.length i3, .slice u4 B.qu.length i4] ∧ Blk W go 54 (outF d.qu)) hW z).2.2.1.cell 3
              have b4 := fun z => (hold_ok (S0 := fun W => Blk W gd 26 [.int .i64 d.dp, .int .i64 d.nx, .slice x1 d.bl.length k1, .slice x3 d.ca.length k3, .slice x4 d.qu.length k4] ∧ Blk W ga 26 [.int .i64 A.dp, .int .i64 A.nx, .slice y1 A.bl.length m1, .slice y3 A.ca.length m3, .slice y4 A.qu.length m4] ∧ Blk W gB 26 [.int .i64 B.dp, .int .i64 B.nx, .slice u1 B.bl.length i1, .slice u3 B.ca.length i3, .slice u4 B.qu.length i4] ∧ Blk W go 54 (outF d.qu)) hW z).2.2.1.cell 4
              simp only [List.getElem?_cons_zero, List.getElem?_cons_succ] at b0 b1 b2 b3 b4
              have o0 := fun z => ((hold_ok (S0 := fun W => Blk W gd 26 [.int .i64 d.dp, .int .i64 d.nx, .slice x1 d.bl.length k1, .slice x3 d.ca.length k3, .slice x4 d.qu.length k4] ∧ Blk W ga 26 [.int .i64 A.dp, .int .i64 A.nx, .slice y1 A.bl.length m1, .slice y3 A.ca.length m3, .slice y4 A.qu.length m4] ∧ Blk W gB 26 [.int .i64 B.dp, .int .i64 B.nx, .slice u1 B.bl.length i1, .slice u3 B.ca.length i3, .slice u4 B.qu.length i4] ∧ Blk W go 54 (outF d.qu)) hW z).2.2.2.cell i).trans (outF_get hi)
              obtain ⟨ob, hob⟩ : ∃ b, outQ d.qu i = b := ⟨_, rfl⟩
              simp only [hob] at o0
              cases ob with
              | true =>
                show wpQuiet _ _ _ _ (_ :: _ :: _ :: _ :: _ :: _ :: _ :: _ :: [_]) _
                repeat (go_big_quiet_step (fail))
                refine wpQuiet_nil ?_
                show wpList _ _ _ [_] _ _
                go_wp2
                refine ⟨hold_of (S0 := fun W => Blk W gd 26 [.int .i64 d.dp, .int .i64 d.nx, .slice x1 d.bl.length k1, .slice x3 d.ca.length k3, .slice x4 d.qu.length k4] ∧ Blk W ga 26 [.int .i64 A.dp, .int .i64 A.nx, .slice y1 A.bl.length m1, .slice y3 A.ca.length m3, .slice y4 A.qu.length m4] ∧ Blk W gB 26 [.int .i64 B.dp, .int .i64 B.nx, .slice u1 B.bl.length i1, .slice u3 B.ca.length i3, .slice u4 B.qu.length i4] ∧ Blk W go 54 (outF d.qu)) ⟨F9.d.x, F9.a.x, F9.b.x, F9.o⟩, ?_⟩
                show wpList _ _ _ [_] _ _
                go_wp2
                refine ⟨hold_of (S0 := fun W => Blk W gd 26 [.int .i64 d.dp, .int .i64 d.nx, .slice x1 d.bl.length k1, .slice x3 d.ca.length k3, .slice x4 d.qu.length k4] ∧ Blk W ga 26 [.int .i64 A.dp, .int .i64 A.nx, .slice y1 A.bl.length m1, .slice y3 A.ca.length m3, .slice y4 A.qu.length m4] ∧ Blk W gB 26 [.int .i64 B.dp, .int .i64 B.nx, .slice u1 B.bl.length i1, .slice u3 B.ca.length i3, .slice u4 B.qu.length i4] ∧ Blk W go 54 (outF d.qu)) ⟨F9.d.x, F9.a.x, F9.b.x, F9.o⟩, ?_⟩
                show wpList _ _ _ [_] _ _
                go_wp2
                refine ⟨hold_of (S0 := fun W => Blk W gd 26 [.int .i64 d.dp, .int .i64 d.nx, .slice x1 d.bl.length k1, .slice x3 d.ca.length k3, .slice x4 d.qu.length k4] ∧ Blk W ga 26 [.int .i64 A.dp, .int .i64 A.nx, .slice y1 A.bl.length m1, .slice y3 A.ca.length m3, .slice y4 A.qu.length m4] ∧ Blk W gB 26 [.int .i64 B.dp, .int .i64 B.nx, .slice u1 B.bl.length i1, .slice u3 B.ca.length i3, .slice u4 B.qu.length i4] ∧ Blk W go 54 (outF d.qu)) ⟨F9.d.x, F9.a.x, F9.b.x, F9.o⟩, ?_⟩
                have F12 := F9
                clear F9
                show wpQuiet _ _ _ _ (_ :: _ :: _ :: _ :: _ :: _ :: [_]) _
                repeat (go_big_quiet_step (fail))
                refine wpQuiet_nil ?_
                show wpList _ _ _ [_] _ _
                go_wp2_with fail
                refine (durable_d F12.b.rdv (pd_few pB) i).mono ?_
                rintro e w13 ⟨v, rfl, hv13, b13⟩
                have F13 := F12.below b13
                obtain ⟨p13, q13, rfl, _, _, _, _⟩ := hv13.form rfl
                go_wp2
                refine ⟨hold_of (S0 := fun W => Blk W gd 26 [.int .i64 d.dp, .int .i64 d.nx, .slice x1 d.bl.length k1, .slice x3 d.ca.length k3, .slice x4 d.qu.length k4] ∧ Blk W ga 26 [.int .i64 A.dp, .int .i64 A.nx, .slice y1 A.bl.length m1, .slice y3 A.ca.length m3, .slice y4 A.qu.length m4] ∧ Blk W gB 26 [.int .i64 B.dp, .int .i64 B.nx, .slice u1 B.bl.length i1, .slice u3 B.ca.length i3, .slice u4 B.qu.length i4] ∧ Blk W go 54 (outF d.qu)) ⟨F13.d.x, F13.a.x, F13.b.x, F13.o⟩, ?_⟩
                show wpList _ _ _ [_] _ _
                go_wp2_with fail
                refine (durable_d F13.d.rdv (pd_few hP) i).mono ?_
                rintro e w14 ⟨v, rfl, hv14, b14⟩
                have F14 := F13.below b14
                obtain ⟨p14, q14, rfl, _, _, _, _⟩ := hv14.form rfl
                go_wp2
                refine ⟨hold_of (S0 := fun W => Blk W gd 26 [.int .i64 d.dp, .int .i64 d.nx, .slice x1 d.bl.length k1, .slice x3 d.ca.length k3, .slice x4 d.qu.length k4] ∧ Blk W ga 26 [.int .i64 A.dp, .int .i64 A.nx, .slice y1 A.bl.length m1, .slice y3 A.ca.length m3, .slice y4 A.qu.length m4] ∧ Blk W gB 26 [.int .i64 B.dp, .int .i64 B.nx, .slice u1 B.bl.length i1, .slice u3 B.ca.length i3, .slice u4 B.qu.length i4] ∧ Blk W go 54 (outF d.qu)) ⟨F14.d.x, F14.a.x, F14.b.x, F14.o⟩, ?_⟩
                show wpList _ _ _ [_] _ _
                go_wp2_with fail
                refine (same_b (hv13.k5 (K5.below b14)).rbv hv14.rbv (modd pB i) (modd hP i)).mono ?_
                rintro e w15 ⟨rfl, b15⟩
                rw [show decide (durD B i = durD d i) = true by rw [HKB.out i hi]; simp]
                have F15 := F14.below b15
                clear hv13 hv14 b13 b14 b15 F12 F13 F14
                go_wp2
                refine ⟨hold_of (S0 := fun W => Blk W gd 26 [.int .i64 d.dp, .int .i64 d.nx, .slice x1 d.bl.length k1, .slice x3 d.ca.length k3, .slice x4 d.qu.length k4] ∧ Blk W ga 26 [.int .i64 A.dp, .int .i64 A.nx, .slice y1 A.bl.length m1, .slice y3 A.ca.length m3, .slice y4 A.qu.length m4] ∧ Blk W gB 26 [.int .i64 B.dp, .int .i64 B.nx, .slice u1 B.bl.length i1, .slice u3 B.ca.length i3, .slice u4 B.qu.length i4] ∧ Blk W go 54 (outF d.qu)) ⟨F15.d.x, F15.a.x, F15.b.x, F15.o⟩, ?_⟩
                show wpQuiet _ _ _ _ (_ :: [_]) _
                repeat (go_big_quiet_step (fail))
                refine wpQuiet_nil ?_
                refine NoPanic.normal ?_
                clear d0 d1 d2 d3 d4 a0 a1 a2 a3 a4 b0 b1 b2 b3 b4 o0 hW
                go_wp2
                go_roundg gg
                case rel => exact ⟨i + 1, by have := HG.out; omega, by go_num, F15⟩
                case measure => omega
              | false =>
                show wpQuiet _ _ _ _ (_ :: _ :: _ :: _ :: _ :: _ :: _ :: _ :: [_]) _
                repeat (go_big_quiet_step (fail))
                refine wpQuiet_nil ?_
                show wpList _ _ _ [_] _ _
                go_wp2_with fail
                refine (durable_d F9.a.rdv (pd_few pA) i).mono ?_
                rintro e w10 ⟨v, rfl, hv10, b10⟩
                have F10 := F9.below b10
                obtain ⟨p10, q10, rfl, _, _, _, _⟩ := hv10.form rfl
                go_wp2
                refine ⟨hold_of (S0 := fun W => Blk W gd 26 [.int .i64 d.dp, .int .i64 d.nx, .slice x1 d.bl.length k1, .slice x3 d.ca.length k3, .slice x4 d.qu.length k4] ∧ Blk W ga 26 [.int .i64 A.dp, .int .i64 A.nx, .slice y1 A.bl.length m1, .slice y3 A.ca.length m3, .slice y4 A.qu.length m4] ∧ Blk W gB 26 [.int .i64 B.dp, .int .i64 B.nx, .slice u1 B.bl.length i1, .slice u3 B.ca.length i3, .slice u4 B.qu.length i4] ∧ Blk W go 54 (outF d.qu)) ⟨F10.d.x, F10.a.x, F10.b.x, F10.o⟩, ?_⟩
                show wpList _ _ _ [_] _ _
                go_wp2_with fail
                refine (content_d F10.d.rdv (pd_few hP) i).mono ?_
                rintro e w11 ⟨v, rfl, hv11, b11⟩
                have F11 := F10.below b11
                obtain ⟨p11, q11, rfl, _, _, _, _⟩ := hv11.form rfl
                go_wp2
                refine ⟨hold_of (S0 := fun W => Blk W gd 26 [.int .i64 d.dp, .int .i64 d.nx, .slice x1 d.bl.length k1, .slice x3 d.ca.length k3, .slice x4 d.qu.length k4] ∧ Blk W ga 26 [.int .i64 A.dp, .int .i64 A.nx, .slice y1 A.bl.length m1, .slice y3 A.ca.length m3, .slice y4 A.qu.length m4] ∧ Blk W gB 26 [.int .i64 B.dp, .int .i64 B.nx, .slice u1 B.bl.length i1, .slice u3 B.ca.length i3, .slice u4 B.qu.length i4] ∧ Blk W go 54 (outF d.qu)) ⟨F11.d.x, F11.a.x, F11.b.x, F11.o⟩, ?_⟩
                show wpList _ _ _ [_] _ _
                go_wp2_with fail
                refine (same_b (hv10.k5 (K5.below b11)).rbv hv11.rbv (modd pA i) (modc hP i)).mono ?_
                rintro e w12 ⟨rfl, b12⟩
                rw [show decide (durD A i = contD d i) = true by rw [HKA.out i hi hob]; simp]
                have F12 := F11.below b12
                clear hv10 hv11 b10 b11 b12 F9 F10 F11
                go_wp2
                refine ⟨hold_of (S0 := fun W => Blk W gd 26 [.int .i64 d.dp, .int .i64 d.nx, .slice x1 d.bl.length k1, .slice x3 d.ca.length k3, .slice x4 d.qu.length k4] ∧ Blk W ga 26 [.int .i64 A.dp, .int .i64 A.nx, .slice y1 A.bl.length m1, .slice y3 A.ca.length m3, .slice y4 A.qu.length m4] ∧ Blk W gB 26 [.int .i64 B.dp, .int .i64 B.nx, .slice u1 B.bl.length i1, .slice u3 B.ca.length i3, .slice u4 B.qu.length i4] ∧ Blk W go 54 (outF d.qu)) ⟨F12.d.x, F12.a.x, F12.b.x, F12.o⟩, ?_⟩
                show wpQuiet _ _ _ _ (_ :: _ :: _ :: _ :: _ :: _ :: [_]) _
                repeat (go_big_quiet_step (fail))
                refine wpQuiet_nil ?_
                show wpList _ _ _ [_] _ _
                go_wp2_with fail
                refine (durable_d F12.b.rdv (pd_few pB) i).mono ?_
                rintro e w13 ⟨v, rfl, hv13, b13⟩
                have F13 := F12.below b13
                obtain ⟨p13, q13, rfl, _, _, _, _⟩ := hv13.form rfl
                go_wp2
                refine ⟨hold_of (S0 := fun W => Blk W gd 26 [.int .i64 d.dp, .int .i64 d.nx, .slice x1 d.bl.length k1, .slice x3 d.ca.length k3, .slice x4 d.qu.length k4] ∧ Blk W ga 26 [.int .i64 A.dp, .int .i64 A.nx, .slice y1 A.bl.length m1, .slice y3 A.ca.length m3, .slice y4 A.qu.length m4] ∧ Blk W gB 26 [.int .i64 B.dp, .int .i64 B.nx, .slice u1 B.bl.length i1, .slice u3 B.ca.length i3, .slice u4 B.qu.length i4] ∧ Blk W go 54 (outF d.qu)) ⟨F13.d.x, F13.a.x, F13.b.x, F13.o⟩, ?_⟩
                show wpList _ _ _ [_] _ _
                go_wp2_with fail
                refine (durable_d F13.d.rdv (pd_few hP) i).mono ?_
                rintro e w14 ⟨v, rfl, hv14, b14⟩
                have F14 := F13.below b14
                obtain ⟨p14, q14, rfl, _, _, _, _⟩ := hv14.form rfl
                go_wp2
                refine ⟨hold_of (S0 := fun W => Blk W gd 26 [.int .i64 d.dp, .int .i64 d.nx, .slice x1 d.bl.length k1, .slice x3 d.ca.length k3, .slice x4 d.qu.length k4] ∧ Blk W ga 26 [.int .i64 A.dp, .int .i64 A.nx, .slice y1 A.bl.length m1, .slice y3 A.ca.length m3, .slice y4 A.qu.length m4] ∧ Blk W gB 26 [.int .i64 B.dp, .int .i64 B.nx, .slice u1 B.bl.length i1, .slice u3 B.ca.length i3, .slice u4 B.qu.length i4] ∧ Blk W go 54 (outF d.qu)) ⟨F14.d.x, F14.a.x, F14.b.x, F14.o⟩, ?_⟩
                show wpList _ _ _ [_] _ _
                go_wp2_with fail
                refine (same_b (hv13.k5 (K5.below b14)).rbv hv14.rbv (modd pB i) (modd hP i)).mono ?_
                rintro e w15 ⟨rfl, b15⟩
                rw [show decide (durD B i = durD d i) = true by rw [HKB.out i hi]; simp]
                have F15 := F14.below b15
                clear hv13 hv14 b13 b14 b15 F12 F13 F14
                go_wp2
                refine ⟨hold_of (S0 := fun W => Blk W gd 26 [.int .i64 d.dp, .int .i64 d.nx, .slice x1 d.bl.length k1, .slice x3 d.ca.length k3, .slice x4 d.qu.length k4] ∧ Blk W ga 26 [.int .i64 A.dp, .int .i64 A.nx, .slice y1 A.bl.length m1, .slice y3 A.ca.length m3, .slice y4 A.qu.length m4] ∧ Blk W gB 26 [.int .i64 B.dp, .int .i64 B.nx, .slice u1 B.bl.length i1, .slice u3 B.ca.length i3, .slice u4 B.qu.length i4] ∧ Blk W go 54 (outF d.qu)) ⟨F15.d.x, F15.a.x, F15.b.x, F15.o⟩, ?_⟩
                show wpQuiet _ _ _ _ (_ :: [_]) _
                repeat (go_big_quiet_step (fail))
                refine wpQuiet_nil ?_
                refine NoPanic.normal ?_
                clear d0 d1 d2 d3 d4 a0 a1 a2 a3 a4 b0 b1 b2 b3 b4 o0 hW
                go_wp2
                go_roundg gg
                case rel => exact ⟨i + 1, by have := HG.out; omega, by go_num, F15⟩
                case measure => omega
        | succ gg =>
          have hin : i < 40 := by omega
          have hset := fill_set (v := Value.bool true) (z := Value.bool false) hin
          have hBs := P7.set i (.bool true)
          rw [hset] at hBs
          have S8 := S7.other P7 (by omega) hgpl i (.bool true)
          have O8 := O7.far (p := ⟨gp, i, none⟩) (O7.ne_type P7 (by decide)) (.bool true)
          have c0 := P7.cell i
          rw [List.getElem?_append_right (by simp), List.getElem?_replicate, if_pos (by simp; omega)] at c0
          have cf := P7.frozen i
          have hlt := P7.lt
          have HG := Lib.hid hg
          clear hset P7 S7 O7 hg
          go_wp2
          go_roundg gg
          case rel => exact ⟨i + 1, by have := HG.out; omega, by go_num, S8, O8, hBs⟩
          case measure => omega
    | succ gg =>
      have hin : i < d.qu.length := by omega
      have HG := Lib.hid hg
      clear hg
      obtain ⟨b, off, Q, rfl, hQ, hrq⟩ := rqs_at S5.rqs hin
      obtain ⟨i0, k0, b0, s0⟩ := Q
      obtain ⟨h1, h2, h3, a', c', h4, _, _, _, _⟩ := hrq
      simp only at h1 h2 h3 h4
      have hk := rqE_kind (hP.ok.qu _ (List.mem_of_getElem? hQ)).2
      simp only at hk
      have hbx := below_box wr (.cells #[.int .i64 i0, .int .i64 k0, .int .i64 b0, .slice a' s0.length c'] 39)
      have S6 := S5.below hbx
      have O6 := O5.later hbx
      have Z6 := Blk.new wr 39 #[.int .i64 i0, .int .i64 k0, .int .i64 b0, .slice a' s0.length c'] [.int .i64 i0, .int .i64 k0, .int .i64 b0, .slice a' s0.length c'] rfl
      obtain ⟨gq, hgq⟩ : ∃ g, wr.heap.size = g := ⟨_, rfl⟩
      clear hbx S5 O5
      go_upto_region 10 with fail
      obtain ⟨w5, hw5⟩ : ∃ W, W = wr.alloc (.cells #[.int .i64 i0, .int .i64 k0, .int .i64 b0, .slice a' s0.length c'] 39) := ⟨_, rfl⟩
      rw [← hw5] at S6 O6 Z6 ⊢
      rw [hgq] at Z6
      clear hw5 hgq h1 h2 h3 h4
      have z1 := Z6.cell 1
      have z2 := Z6.cell 2
      simp only [List.getElem?_cons_zero, List.getElem?_cons_succ] at z1 z2
      rcases hk with ⟨rfl, _⟩ | ⟨rfl, hb0, hb4, _⟩ | ⟨rfl, _⟩
      · go_wp2
        go_roundg gg
        case rel => exact ⟨i + 1, by have := HG.out; omega, by go_num, S6, by rw [outF_same hQ (by simp)]; exact O6⟩
        case measure => omega
      · obtain ⟨fb, rfl⟩ : ∃ fb : Nat, b0 = fb := ⟨b0.toNat, by omega⟩
        have hfb : fb < 4 := by have := hP.nb; omega
        have tb : decide ((fb : Int) < 4) = true := by simp; omega
        have co := (O6.cell fb).trans (outF_get hfb)
        have fo := O6.frozen fb
        go_wp2
        go_roundg gg
        case rel => exact ⟨i + 1, by have := HG.out; omega, by go_num, S6.other O6 (by omega) hgo fb _, by rw [outF_set hQ rfl rfl]; exact O6.set fb _⟩
        case measure => omega
      · go_wp2
        go_roundg gg
        case rel => exact ⟨i + 1, by have := HG.out; omega, by go_num, S6, by rw [outF_same hQ (by simp)]; exact O6⟩
        case measure => omega
end Go.Proofs.Ytlhbjmoncdljoaa
