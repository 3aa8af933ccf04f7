/- Walks: the sums of the minima, and the law on zones. -/
import Derived.Test.YtneibbefkjjlnaaZone8
import Derived.Test.YtneibbefkjjlnaaWalks4
namespace Go.Proofs.Ytneibbefkjjlnaa
open Go.RowKit Go.Over Go.Bud Go.Grow
structure Zn where
  nd : Int
  kd : Int
  st : Int
  ct : Int
  mn : Int
  a0 : Option Addr
  l0 : List Int
  n0 : Nat
  c0 : Nat
  a1 : Option Addr
  l1 : List Int
  n1 : Nat
  c1 : Nat
  a2 : Option Addr
  l2 : List Int
  n2 : Nat
  c2 : Nat
  a3 : Option Addr
  l3 : List Int
  n3 : Nat
  c3 : Nat
  a4 : Option Addr
  l4 : List Int
  n4 : Nat
  c4 : Nat
/-- A zone that lies at place o of block b. -/
structure ZAt (w : World) (b o : Nat) (z : Zn) : Prop where
  e0 : w.cell? ⟨b, o, none⟩ = some (.int .i64 z.nd)
  e1 : w.cell? ⟨b, o + 1, none⟩ = some (.int .i64 z.kd)
  e2 : w.cell? ⟨b, o + 2, none⟩ = some (.int .i64 z.st)
  e3 : w.cell? ⟨b, o + 3, none⟩ = some (.int .i64 z.ct)
  e4 : w.cell? ⟨b, o + 4, none⟩ = some (.int .i64 z.mn)
  s0 : w.cell? ⟨b, o + 5, none⟩ = some (.slice z.a0 z.n0 z.c0)
  H0 : Ints w z.a0 z.l0
  h0 : z.l0.length = z.n0
  m0 : z.n0 ≤ maxLen
  s1 : w.cell? ⟨b, o + 6, none⟩ = some (.slice z.a1 z.n1 z.c1)
  H1 : Ints w z.a1 z.l1
  h1 : z.l1.length = z.n1
  m1 : z.n1 ≤ maxLen
  s2 : w.cell? ⟨b, o + 7, none⟩ = some (.slice z.a2 z.n2 z.c2)
  H2 : Ints w z.a2 z.l2
  h2 : z.l2.length = z.n2
  m2 : z.n2 ≤ maxLen
  s3 : w.cell? ⟨b, o + 8, none⟩ = some (.slice z.a3 z.n3 z.c3)
  H3 : Ints w z.a3 z.l3
  h3 : z.l3.length = z.n3
  m3 : z.n3 ≤ maxLen
  s4 : w.cell? ⟨b, o + 9, none⟩ = some (.slice z.a4 z.n4 z.c4)
  H4 : Ints w z.a4 z.l4
  h4 : z.l4.length = z.n4
  m4 : z.n4 ≤ maxLen
  i0 : -9223372036854775808 ≤ z.ct
  i1 : z.ct ≤ 9223372036854775807
  i2 : -9223372036854775808 ≤ z.st
  i3 : z.st ≤ 9223372036854775807
theorem ZAt.below {w w' : World} {b o : Nat} {z : Zn} (h : ZAt w b o z) (hb : Below w.heap.size w w') : ZAt w' b o z :=
  ⟨cell_later hb h.e0, cell_later hb h.e1, cell_later hb h.e2, cell_later hb h.e3, cell_later hb h.e4, cell_later hb h.s0, h.H0.below hb, h.h0, h.m0, cell_later hb h.s1, h.H1.below hb, h.h1, h.m1, cell_later hb h.s2, h.H2.below hb, h.h2, h.m2, cell_later hb h.s3, h.H3.below hb, h.h3, h.m3, cell_later hb h.s4, h.H4.below hb, h.h4, h.m4, h.i0, h.i1, h.i2, h.i3⟩
def Zones (w : World) (a : Option Addr) (l : List Zn) : Prop :=
  0 < l.length → ∃ b off, a = some ⟨b, off, none⟩ ∧ ∀ i z, l[i]? = some z → ZAt w b (off + i * 10) z
def resL (n a : Int) : List Zn → Int × Int × Int
  | [] => (n, a, 0)
  | z :: r => if inB z.mn = false then (0, 0, 2) else resL (if z.kd = 0 then n + z.mn else n) (a + z.mn) r
def reserve (l : List Zn) : Int × Int × Int := if 6 < l.length then (0, 0, 2) else resL 0 0 l
def tup3 (p : Int × Int × Int) : Value := .tuple #[.int .i64 p.1, .int .i64 p.2.1, .int .i64 p.2.2]
theorem res_step {n a : Int} {l : List Zn} {i : Nat} {z : Zn} (h : l[i]? = some z) : resL n a (l.drop i) = if inB z.mn = false then (0, 0, 2) else resL (if z.kd = 0 then n + z.mn else n) (a + z.mn) (l.drop (i + 1)) := by
  rw [drop_get h]; rfl
theorem results3 {fn : Func} {p q r : Tmp} (h : fn.results = #[.tmp p, .tmp q, .tmp r]) (tmps : Array Value) (w : World) {x y z : Value} (hx : tmps.getD p undef = x) (hy : tmps.getD q undef = y) (hz : tmps.getD r undef = z) :
    (results fn tmps).run Try.prog w = .ok (.tuple #[x, y, z]) w := by
  have h1 : tmps[p]?.getD undef = x := by simpa using hx
  have h2 : tmps[q]?.getD undef = y := by simpa using hy
  have h3 : tmps[r]?.getD undef = z := by simpa using hz
  simp [results, h, h1, h2, h3]
set_option maxRecDepth 100000 in set_option maxHeartbeats 3200000 in
theorem reserve_24 (a : Option Addr) (l : List Zn) (n c : Nat) (w : World) (H : Zones w a l) (hn : l.length = n) (hm : n ≤ 1000000) :
    Calls Try.prog 24 #[.slice a n c] w fun e w' => e = .returned (tup3 (reserve l)) ∧ Below w.heap.size w w' := by
  have HN := Lib.hid hn
  clear hn
  obtain ⟨R, hR⟩ : ∃ R, reserve l = R := ⟨_, rfl⟩
  rw [hR]
  have HR := Lib.hid hR
  clear hR
  rcases Nat.lt_or_ge 6 n with h6 | h6
  · have HRR := Lib.hid (show R = (0, 0, 2) by rw [← HR.out]; unfold reserve; rw [HN.out, if_pos h6])
    go_enter Try.func24, Try.ntmps24
    go_wp2
    refine bodyPost_ret (results3 rfl _ _ rfl rfl rfl) rfl ?_
    exact ⟨by rw [HRR.out]; rfl, Below.refl _ _⟩
  · have HRR := Lib.hid (show R = resL 0 0 l by rw [← HR.out]; unfold reserve; rw [HN.out, if_neg (by omega)])
    go_enter Try.func24, Try.ntmps24
    go_wp2
    go_loopg [5, 6, 14] n (fun g n0 a0 i0 wr => ∃ (i : Nat) (nv av : Int), i + g = n ∧ n0 = .int .i64 nv ∧ a0 = .int .i64 av ∧ i0 = .int .i64 i ∧ 0 ≤ nv ∧ nv ≤ 4096 * i ∧ 0 ≤ av ∧ av ≤ 4096 * i ∧ R = resL nv av (l.drop i) ∧ Below w.heap.size w wr)
    case atStart => exact ⟨0, 0, 0, by omega, rfl, rfl, rfl, by omega, by omega, by omega, by omega, HRR.out, Below.refl _ _⟩
    case round =>
      obtain ⟨i, nv, av, hg, rfl, rfl, rfl, q1, q2, q3, q4, hRi, hb⟩ := hrel
      cases gk with
      | zero =>
        obtain rfl : i = n := by omega
        have HRI := Lib.hid (show R = (nv, av, 0) by rw [hRi, List.drop_eq_nil_of_le (by rw [HN.out]; exact Nat.le_refl _)]; rfl)
        clear hg hRi
        go_wp2
        refine bodyPost_ret (results3 rfl _ _ rfl rfl rfl) rfl ?_
        exact ⟨by rw [HRI.out]; rfl, hb⟩
      | succ g =>
        have hin : i < n := by omega
        obtain ⟨z, hz⟩ := get_some HN.out hin
        obtain ⟨b, off, rfl, hc⟩ := H (by rw [HN.out]; omega)
        have hZ := (hc i z hz).below hb
        obtain ⟨e0, e1, e2, e3, e4, s0, _, _, _, s1, _, _, _, s2, _, _, _, s3, _, _, _, s4, _, _, _, _, _, _, _⟩ := hZ
        have HST := Lib.hid (hRi.trans (res_step hz))
        have HG := Lib.hid hg
        obtain ⟨t, ht⟩ : ∃ t, inB z.mn = t := ⟨_, rfl⟩
        have hin2 := fun W => in_any z.mn W
        rw [ht] at hin2
        have HT := Lib.hid ht; have HIN := Lib.hid hin2
        have hmn : t = true → 0 ≤ z.mn ∧ z.mn ≤ 4096 := fun h => (inB_iff _).1 (by rw [ht]; exact h)
        clear hc hz hRi hg ht hin2
        obtain ⟨nd, kd, st, ct, mn, a0, l0, n0, c0, a1, l1, n1, c1, a2, l2, n2, c2, a3, l3, n3, c3, a4, l4, n4, c4⟩ := z
        simp only at e0 e1 e2 e3 e4 s0 s1 s2 s3 s4 hmn
        go_wp2_with fail
        refine (HIN.out _).mono ?_
        rintro e w2 ⟨rfl, rfl⟩
        cases t with
        | false =>
          go_wp2
          refine bodyPost_ret (results3 rfl _ _ rfl rfl rfl) rfl ?_
          refine ⟨?_, (by repeat (first | with_reducible exact Below.refl _ _ | with_reducible assumption | with_reducible refine below_alloc ?_ _ | with_reducible refine Below.drew ?_ | with_reducible refine below_drewN ?_ _ | with_reducible refine below_then ?_ (by with_reducible assumption)))⟩
          rw [HST.out, if_pos HT.out]; rfl
        | true =>
          obtain ⟨hm0, hm1⟩ := hmn rfl
          have hst := HST.out
          rw [if_neg (by rw [HT.out]; decide)] at hst
          have HS2 := Lib.hid hst
          clear hst hmn
          by_cases hk : kd = 0
          · subst hk
            go_wp2
            go_roundg g
            case rel => exact ⟨i + 1, nv + mn, av + mn, by have := HG.out; omega, by go_num, by go_num, by go_num, by omega, by omega, by omega, by omega, by have h := HS2.out; simpa using h, (by repeat (first | with_reducible exact Below.refl _ _ | with_reducible assumption | with_reducible refine below_alloc ?_ _ | with_reducible refine Below.drew ?_ | with_reducible refine below_drewN ?_ _ | with_reducible refine below_then ?_ (by with_reducible assumption)))⟩
            case measure => omega
          · have t1 : (kd == 0) = false := by simpa using hk
            go_wp2
            go_roundg g
            case rel => exact ⟨i + 1, nv, av + mn, by have := HG.out; omega, by go_num, by go_num, by go_num, by omega, by omega, by omega, by omega, by have h := HS2.out; rw [if_neg hk] at h; exact h, (by repeat (first | with_reducible exact Below.refl _ _ | with_reducible assumption | with_reducible refine below_alloc ?_ _ | with_reducible refine Below.drew ?_ | with_reducible refine below_drewN ?_ _ | with_reducible refine below_then ?_ (by with_reducible assumption)))⟩
            case measure => omega
set_option maxRecDepth 100000 in set_option maxHeartbeats 3200000 in
theorem reserve_25 (a : Option Addr) (l : List Zn) (n c : Nat) (w : World) (H : Zones w a l) (hn : l.length = n) (hm : n ≤ 1000000) :
    Calls Try.prog 25 #[.slice a n c] w fun e w' => e = .returned (tup3 (reserve l)) ∧ Below w.heap.size w w' := by
  have HN := Lib.hid hn
  clear hn
  obtain ⟨R, hR⟩ : ∃ R, reserve l = R := ⟨_, rfl⟩
  rw [hR]
  have HR := Lib.hid hR
  clear hR
  rcases Nat.lt_or_ge 6 n with h6 | h6
  · have HRR := Lib.hid (show R = (0, 0, 2) by rw [← HR.out]; unfold reserve; rw [HN.out, if_pos h6])
    go_enter Try.func25, Try.ntmps25
    go_wp2
    refine bodyPost_ret (results3 rfl _ _ rfl rfl rfl) rfl ?_
    exact ⟨by rw [HRR.out]; rfl, Below.refl _ _⟩
  · have HRR := Lib.hid (show R = resL 0 0 l by rw [← HR.out]; unfold reserve; rw [HN.out, if_neg (by omega)])
    go_enter Try.func25, Try.ntmps25
    go_wp2
    go_loopg [5, 6, 7] n (fun g n0 a0 i0 wr => ∃ (i : Nat) (nv av : Int), i + g = n ∧ n0 = .int .i64 nv ∧ a0 = .int .i64 av ∧ i0 = .int .i64 i ∧ 0 ≤ nv ∧ nv ≤ 4096 * i ∧ 0 ≤ av ∧ av ≤ 4096 * i ∧ R = resL nv av (l.drop i) ∧ Below w.heap.size w wr)
    case atStart => exact ⟨0, 0, 0, by omega, rfl, rfl, rfl, by omega, by omega, by omega, by omega, HRR.out, Below.refl _ _⟩
    case round =>
      obtain ⟨i, nv, av, hg, rfl, rfl, rfl, q1, q2, q3, q4, hRi, hb⟩ := hrel
      cases gk with
      | zero =>
        obtain rfl : i = n := by omega
        have HRI := Lib.hid (show R = (nv, av, 0) by rw [hRi, List.drop_eq_nil_of_le (by rw [HN.out]; exact Nat.le_refl _)]; rfl)
        clear hg hRi
        go_wp2
        refine bodyPost_ret (results3 rfl _ _ rfl rfl rfl) rfl ?_
        exact ⟨by rw [HRI.out]; rfl, hb⟩
      | succ g =>
        have hin : i < n := by omega
        obtain ⟨z, hz⟩ := get_some HN.out hin
        obtain ⟨b, off, rfl, hc⟩ := H (by rw [HN.out]; omega)
        have hZ := (hc i z hz).below hb
        obtain ⟨e0, e1, e2, e3, e4, s0, _, _, _, s1, _, _, _, s2, _, _, _, s3, _, _, _, s4, _, _, _, _, _, _, _⟩ := hZ
        have HST := Lib.hid (hRi.trans (res_step hz))
        have HG := Lib.hid hg
        obtain ⟨t, ht⟩ : ∃ t, inB z.mn = t := ⟨_, rfl⟩
        have hin2 := fun W => in_ref z.mn W
        rw [ht] at hin2
        have HT := Lib.hid ht; have HIN := Lib.hid hin2
        have hmn : t = true → 0 ≤ z.mn ∧ z.mn ≤ 4096 := fun h => (inB_iff _).1 (by rw [ht]; exact h)
        clear hc hz hRi hg ht hin2
        obtain ⟨nd, kd, st, ct, mn, a0, l0, n0, c0, a1, l1, n1, c1, a2, l2, n2, c2, a3, l3, n3, c3, a4, l4, n4, c4⟩ := z
        simp only at e0 e1 e2 e3 e4 s0 s1 s2 s3 s4 hmn
        go_wp2_with fail
        refine (HIN.out _).mono ?_
        rintro e w2 ⟨rfl, rfl⟩
        cases t with
        | false =>
          go_wp2
          refine bodyPost_ret (results3 rfl _ _ rfl rfl rfl) rfl ?_
          refine ⟨?_, (by repeat (first | with_reducible exact Below.refl _ _ | with_reducible assumption | with_reducible refine below_alloc ?_ _ | with_reducible refine Below.drew ?_ | with_reducible refine below_drewN ?_ _ | with_reducible refine below_then ?_ (by with_reducible assumption)))⟩
          rw [HST.out, if_pos HT.out]; rfl
        | true =>
          obtain ⟨hm0, hm1⟩ := hmn rfl
          have hst := HST.out
          rw [if_neg (by rw [HT.out]; decide)] at hst
          have HS2 := Lib.hid hst
          clear hst hmn
          by_cases hk : kd = 0
          · subst hk
            go_wp2
            go_roundg g
            case rel => exact ⟨i + 1, nv + mn, av + mn, by have := HG.out; omega, by go_num, by go_num, by go_num, by omega, by omega, by omega, by omega, by have h := HS2.out; simpa using h, (by repeat (first | with_reducible exact Below.refl _ _ | with_reducible assumption | with_reducible refine below_alloc ?_ _ | with_reducible refine Below.drew ?_ | with_reducible refine below_drewN ?_ _ | with_reducible refine below_then ?_ (by with_reducible assumption)))⟩
            case measure => omega
          · have t1 : (kd == 0) = false := by simpa using hk
            go_wp2
            go_roundg g
            case rel => exact ⟨i + 1, nv, av + mn, by have := HG.out; omega, by go_num, by go_num, by go_num, by omega, by omega, by omega, by omega, by have h := HS2.out; rw [if_neg hk] at h; exact h, (by repeat (first | with_reducible exact Below.refl _ _ | with_reducible assumption | with_reducible refine below_alloc ?_ _ | with_reducible refine Below.drew ?_ | with_reducible refine below_drewN ?_ _ | with_reducible refine below_then ?_ (by with_reducible assumption)))⟩
            case measure => omega
theorem Zones.below {w w' : World} {a : Option Addr} {l : List Zn} (h : Zones w a l) (hb : Below w.heap.size w w') : Zones w' a l := fun h0 => by
  obtain ⟨b, off, ha, hc⟩ := h h0
  exact ⟨b, off, ha, fun i z hz => (hc i z hz).below hb⟩
set_option maxRecDepth 100000 in set_option maxHeartbeats 3200000 in
theorem law_zones (a : Option Addr) (l : List Zn) (n c : Nat) (w : World) (H : Zones w a l) (hn : l.length = n) :
    Calls Try.prog 9 #[.slice a n c] w fun e w' => e = .returned (.bool true) ∧ Below w.heap.size w w' := by
  have HN := Lib.hid hn
  clear hn
  rcases Nat.lt_or_ge 10 n with h10 | h10
  · have h10' : (10 : Int) < (n : Int) := by omega
    go_enter Try.func9, Try.ntmps9
    go_wp2_with (go_at_call 10; refine (awake_any _).mono ?_; rintro e w' ⟨rfl, hz⟩)
    go_ret
    exact ⟨rfl, (by repeat (first | with_reducible exact Below.refl _ _ | with_reducible assumption | with_reducible refine below_alloc ?_ _ | with_reducible refine Below.drew ?_ | with_reducible refine below_drewN ?_ _ | with_reducible refine below_then ?_ (by with_reducible assumption)))⟩
  · obtain ⟨⟨p, q, r⟩, hR⟩ : ∃ R, reserve l = R := ⟨_, rfl⟩
    have HR := Lib.hid hR
    clear hR
    go_enter Try.func9, Try.ntmps9
    go_wp2_with fail
    refine (awake_any w).mono ?_
    rintro e w1 ⟨rfl, b1⟩
    go_wp2
    go_loopg [26] n (fun g i0 wr => ∃ (i : Nat), i + g = n ∧ i0 = .int .i64 i ∧ Below w.heap.size w wr)
    case atStart => exact ⟨0, by omega, rfl, b1⟩
    case round =>
      obtain ⟨i, hg, rfl, hb⟩ := hrel
      cases gk with
      | succ g =>
        have hin : i < n := by omega
        obtain ⟨z, hz⟩ := get_some HN.out hin
        obtain ⟨b, off, rfl, hc⟩ := H (by rw [HN.out]; omega)
        have hZ := (hc i z hz).below hb
        obtain ⟨e0, e1, e2, e3, e4, s0, H0, h0, m0, s1, H1, h1, m1, s2, H2, h2, m2, s3, H3, h3, m3, s4, H4, h4, m4, i0, i1, i2, i3⟩ := hZ
        have HG := Lib.hid hg
        clear hc hz hg
        obtain ⟨nd, kd, st, ct, mn, a0, l0, n0, c0, a1, l1, n1, c1, a2, l2, n2, c2, a3, l3, n3, c3, a4, l4, n4, c4⟩ := z
        simp only at e0 e1 e2 e3 e4 s0 s1 s2 s3 s4 H0 H1 H2 H3 H4 h0 h1 h2 h3 h4 m0 m1 m2 m3 m4 i0 i1 i2 i3
        have bx := below_box wr (.cells #[.int .i64 nd, .int .i64 kd, .int .i64 st, .int .i64 ct, .int .i64 mn, .slice a0 n0 c0, .slice a1 n1 c1, .slice a2 n2 c2, .slice a3 n3 c3, .slice a4 n4 c4] 44)
        have X := Blk.new wr 44 #[.int .i64 nd, .int .i64 kd, .int .i64 st, .int .i64 ct, .int .i64 mn, .slice a0 n0 c0, .slice a1 n1 c1, .slice a2 n2 c2, .slice a3 n3 c3, .slice a4 n4 c4] [.int .i64 nd, .int .i64 kd, .int .i64 st, .int .i64 ct, .int .i64 mn, .slice a0 n0 c0, .slice a1 n1 c1, .slice a2 n2 c2, .slice a3 n3 c3, .slice a4 n4 c4] rfl
        go_wp2_with fail
        have hbk := blocks_22 nd kd st ct mn a0 a1 a2 a3 a4 l0 l1 l2 l3 l4 n0 n1 n2 n3 n4 c0 c1 c2 c3 c4 _ i0 i1 i2 i3 (H0.below bx) (H1.below bx) (H2.below bx) (H3.below bx) (H4.below bx) h0 h1 h2 h3 h4 m0 m1 m2 m3 m4
        obtain ⟨R, hRR⟩ : ∃ R, chk nd kd st ct mn [l0, l1, l2, l3, l4] = R := ⟨_, rfl⟩
        rw [hRR] at hbk
        obtain ⟨Y, hY⟩ : ∃ Y : List Int, (if R = 0 then [(n0 : Int), (n1 : Int), (n2 : Int), (n3 : Int), (n4 : Int)] else []) = Y := ⟨_, rfl⟩
        rw [hY] at hbk
        refine hbk.mono ?_
        rintro e w3 ⟨aY, mY, cY, rfl, hmY, IY, b3⟩
        have X3 := X.later b3
        have bb := below_then bx b3
        have hY5 : mY ≤ 5 := by rw [← hmY, ← hY]; split <;> simp
        have x0 : w3.cell? ⟨wr.heap.size, 0, none⟩ = some (.int .i64 nd) := X3.cell 0
        have x1 : w3.cell? ⟨wr.heap.size, 1, none⟩ = some (.int .i64 kd) := X3.cell 1
        have x2 : w3.cell? ⟨wr.heap.size, 2, none⟩ = some (.int .i64 st) := X3.cell 2
        have x3 : w3.cell? ⟨wr.heap.size, 3, none⟩ = some (.int .i64 ct) := X3.cell 3
        have x4 : w3.cell? ⟨wr.heap.size, 4, none⟩ = some (.int .i64 mn) := X3.cell 4
        have x5 : w3.cell? ⟨wr.heap.size, 5, none⟩ = some (.slice a0 n0 c0) := X3.cell 5
        have x6 : w3.cell? ⟨wr.heap.size, 6, none⟩ = some (.slice a1 n1 c1) := X3.cell 6
        have x7 : w3.cell? ⟨wr.heap.size, 7, none⟩ = some (.slice a2 n2 c2) := X3.cell 7
        have x8 : w3.cell? ⟨wr.heap.size, 8, none⟩ = some (.slice a3 n3 c3) := X3.cell 8
        have x9 : w3.cell? ⟨wr.heap.size, 9, none⟩ = some (.slice a4 n4 c4) := X3.cell 9
        clear hbk e0 e1 e2 e3 e4 s0 s1 s2 s3 s4 X b3 bx
        have HMY := Lib.hid hmY; have HY := Lib.hid hY; have HRR := Lib.hid hRR
        clear hmY hY hRR
        go_wp2_with fail
        have hbk := blocks_23 nd kd st ct mn a0 a1 a2 a3 a4 l0 l1 l2 l3 l4 n0 n1 n2 n3 n4 c0 c1 c2 c3 c4 w3 i0 i1 i2 i3 (H0.below bb) (H1.below bb) (H2.below bb) (H3.below bb) (H4.below bb) h0 h1 h2 h3 h4 m0 m1 m2 m3 m4
        rw [HRR.out, HY.out] at hbk
        refine hbk.mono ?_
        rintro e w5 ⟨aZ, mZ, cZ, rfl, hmZ, IZ, b5⟩
        obtain rfl : mY = mZ := by rw [← HMY.out]; exact hmZ
        have IY := IY.below b5
        have hb5 := below_then hb (below_then bb b5)
        have t1 : (R != R) = false := by simp
        have t2 : ((mY : Int) != (mY : Int)) = false := by simp
        clear hbk x0 x1 x2 x3 x4 x5 x6 x7 x8 x9 X3 hmZ bb b5 hb H0 H1 H2 H3 H4 h0 h1 h2 h3 h4 m0 m1 m2 m3 m4 i0 i1 i2 i3
        go_wp2
        go_loopg [52] mY (fun g2 j0 wi => ∃ (j : Nat), j + g2 = mY ∧ j0 = .int .i64 j ∧ Below w5.heap.size w5 wi)
        case atStart => exact ⟨0, by omega, rfl, Below.refl _ _⟩
        case round =>
          obtain ⟨j, hj, rfl, hbj⟩ := hrel
          cases gk with
          | zero =>
            obtain rfl : j = mY := by omega
            have hb6 := below_then hb5 hbj
            clear hj hbj
            go_wp2
            go_roundg g
            case rel => exact ⟨i + 1, by have := HG.out; omega, by go_num, hb6⟩
            case measure => omega
          | succ g2 =>
            have hjm : j < mY := by omega
            obtain ⟨x, hx⟩ := get_some HMY.out hjm
            obtain ⟨bY, oY, rfl, cx⟩ := (IY.below hbj).at hx
            obtain ⟨bZ, oZ, rfl, cy⟩ := (IZ.below hbj).at hx
            have HJ := Lib.hid hj
            have t3 : (x != x) = false := by simp
            clear hx hj
            go_wp2
            refine wp_region_over (by kernel_rfl) (by kernel_rfl) ?_
            have q0 := fun u => over_cell cx u
            have q1 := fun u => over_cell cy u
            repeat (go_big_quiet_step (fail))
            refine wpQuiet_nil ?_
            rintro _ ⟨u, rfl⟩
            have hb2 := below_then hbj (below_over wr u)
            clear q0 q1
            go_wp2
            go_roundg g2
            case rel => exact ⟨j + 1, by have := HJ.out; omega, by go_num, hb2⟩
            case measure => omega
      | zero =>
        obtain rfl : i = n := by omega
        have h24 : Calls Try.prog 24 #[.slice a i c] wr fun e w' => e = .returned (.tuple #[.int .i64 p, .int .i64 q, .int .i64 r]) ∧ Below wr.heap.size wr w' := by
          have h := reserve_24 a l i c wr (H.below hb) HN.out (by omega)
          rw [HR.out] at h; exact h
        have H24 := Lib.hid h24
        clear hg h24
        go_wp2_with fail
        refine (H24.out).mono ?_
        rintro e w3 ⟨rfl, b3⟩
        have hb3 := below_then hb b3
        have h25 : Calls Try.prog 25 #[.slice a i c] w3 fun e w' => e = .returned (.tuple #[.int .i64 p, .int .i64 q, .int .i64 r]) ∧ Below w3.heap.size w3 w' := by
          have h := reserve_25 a l i c w3 (H.below hb3) HN.out (by omega)
          rw [HR.out] at h; exact h
        have H25 := Lib.hid h25
        clear h25
        go_wp2_with fail
        refine (H25.out).mono ?_
        rintro e w4 ⟨rfl, b4⟩
        have hb4 := below_then hb3 b4
        have t1 : (p == p) = true := by simp
        have t2 : (q == q) = true := by simp
        have t3 : (r == r) = true := by simp
        go_wp2
        go_ret
        exact ⟨rfl, hb4⟩
end Go.Proofs.Ytneibbefkjjlnaa
