/- Walks: a page block is converted. -/
import Derived.Test.YtkiiifmofmbniaaDoorM11
namespace Go.Proofs.YtkiiifmofmbniaaDoor
open Go.RowKit Go.Over Go.Mob Go.Can Go.Seg Go.Grow
theorem Sep.flip {cs : List Value} {u v : Value} {s : Nat} (h : Sep cs u) (hs : s < 16) (hv : cs[1 + s]? = some v) : u.ownBlock = none ∨ u.ownBlock ≠ v.ownBlock := by
  rcases h s v hs hv with h1 | h1
  · rcases hb : u.ownBlock with _ | b
    · exact .inl rfl
    · exact .inr (by rw [h1]; simp)
  · exact .inr (Ne.symm h1)
/-- Lists of two types have no block in common. -/
def Dj (p : P) : Prop := ∀ x a b k, a < 3 → b < 3 → a ≠ b → k < 5 → x ∈ p.fr (5 * a + k) → x ∉ p.fr (5 * b + k)
set_option maxRecDepth 100000 in set_option maxHeartbeats 3200000 in
theorem convert_46 (w0 : World) (g : Nat) (cs : List Value) (p : P) (f : Int) (t : Nat) (w : World) (V : VP w0 g cs p w) (HL : Lst p) (hD : Dj p) (hi : insB p f 0 = true) (ht : t < 3) :
    Calls Tryd.prog 46 #[.pointer (some ⟨g, 0, none⟩), .int .i64 f, .int .i64 t] w fun e w' => e = .returned (.tuple #[]) ∧ (∃ cs', VP w0 g cs' (conv p f t) w') ∧ Kn g w w' := by
  obtain ⟨a, ha, hty⟩ : ∃ a : Nat, a < 3 ∧ tyAt p f = (a : Int) := by
    obtain ⟨r1, r2, r3, r4, r5, r6⟩ := rng_of HL.rng
    obtain ⟨i1, i2, _⟩ := ins_open hi
    have hx : tyAt p f ∈ p.ty := by
      unfold tyAt
      rw [List.getD_eq_getElem?_getD, List.getElem?_eq_getElem (by omega)]
      exact List.getElem_mem _
    have := r6 _ hx
    exact ⟨(tyAt p f).toNat, by omega, by omega⟩
  obtain ⟨i1, i2, _⟩ := ins_open hi
  obtain ⟨z1, z2, z3⟩ := ins_lt HL.rng (by decide) hi
  have hz256 : f < 256 := by have := pw_pos 0; omega
  obtain ⟨i, hie⟩ : ∃ i, ((f - p.st) / 16).toNat = i := ⟨_, rfl⟩
  have hil : i < p.ty.length := by omega
  have e1 : (f - p.st).tdiv 16 = (i : Int) := by rw [Int.tdiv_eq_ediv_of_nonneg (by omega)]; omega
  obtain ⟨R, hR⟩ : ∃ R, conv p f t = R := ⟨_, rfl⟩
  have HR := Lib.hid (show R = ⟨p.st, p.ty.set i t, if a = t then p.fr else convN (f - f % 16) (5 * a) (5 * t) 5 0 p.fr⟩ by
    rw [← hR]; unfold conv base
    rw [hie, hty, Int.toNat_natCast, Int.toNat_natCast]
    by_cases h : a = t
    · rw [if_pos h, if_pos (by omega)]
    · rw [if_neg h, if_neg (by omega)])
  rw [hR]
  have HTY := Lib.hid hty; have HL0 := Lib.hid HL; have HD := Lib.hid hD
  have HI := Lib.hid hi
  obtain ⟨A, hA⟩ : ∃ A, f - f % 16 = A := ⟨_, rfl⟩
  have h15 := andNot_15 z1 hz256
  have hA0 : 0 ≤ A := by omega
  have hA1 : A ≤ 255 := by omega
  rw [hA] at h15
  have h34 := fun W (h : Rpv W (.agg cs.toArray) p) => type_34 _ p f W h HL.rng i1 i2
  have hln : p.ty.length ≤ 16 := (rng_of HL.rng).2.2.2.1
  rw [hA] at HR
  clear hR hty HL hD hi hie z2 z3 hA
  go_enter Tryd.func46, Tryd.ntmps46
  go_wp2_with ((with_reducible refine ld ?_ V.x V.v.len ?_); (focus rfl))
  refine (h34 _ V.rpv).mono ?_
  rintro e w2 ⟨rfl, b2⟩
  have V2 := V.below b2
  have K2 := Kn.below (g := g) b2
  rw [HTY.out]
  clear h34 V b2
  obtain ⟨u, hu, hO0⟩ := OwnP.own V2.o (show 0 < 16 by decide)
  have hO : Own w2 w0.heap.size u p.ty := hO0
  clear hO0
  obtain ⟨b, c, rfl, hb1, hb2, hb3, hb4⟩ := own_pos hO (by omega)
  obtain ⟨n, hn⟩ : ∃ n, p.ty.length = n := ⟨_, rfl⟩
  have HN := Lib.hid hn
  rw [hn] at hu hil hln hb3 i2
  have c1 : w2.cell? ⟨g, 1, none⟩ = some (.slice (some ⟨b, 0, none⟩) n c) := by rw [V2.x.cell]; exact hu
  have c0 : w2.cell? ⟨g, 0, none⟩ = some (.int .i64 p.st) := by rw [V2.x.cell]; exact V2.o.st
  have q3 : w2.ownsRow w0.heap.size 3 1 (.slice (some ⟨b, 0, none⟩) n c) n (nums p.ty) := by
    unfold Own at hO
    rwa [hn] at hO
  clear hn hO
  go_wp2_with fail
  refine wp_region_in (fun w' => w'.cell? ⟨g, 1, none⟩ = some (.slice (some ⟨b, 0, none⟩) n c) ∧ w'.cell? ⟨g, 0, none⟩ = some (.int .i64 p.st)) [(true, 13), (false, 1)] [0, 1, 2, 3, 4, 5, 6, 7, 8, 9, 10, 11, 12, 13] 13 (by kernel_rfl) (by kernel_rfl) ⟨cell_later (Below.refl _ _).drew c1, cell_later (Below.refl _ _).drew c0⟩ ?_
  intro W hW hWe
  have bW : Below w2.heap.size w2 W := by rw [hWe]; exact (Below.refl _ _).drew
  have V3 := V2.below bW
  have K3 := K2.trans (Kn.below bW)
  have q4 := own_later q3 bW
  clear hWe V2 K2 bW q3 c0 c1
  simp only [wpSegsL, inOrder, List.filterMap_cons, List.filterMap_nil, List.getElem?_cons_zero, List.getElem?_cons_succ, List.take_succ_cons, List.take_zero, List.drop_succ_cons, List.drop_zero]
  have q1 := fun z => (hold_ok (S0 := fun w' : World => w'.cell? ⟨g, 1, none⟩ = some (.slice (some ⟨b, 0, none⟩) n c) ∧ w'.cell? ⟨g, 0, none⟩ = some (.int .i64 p.st)) hW z).1
  have q2 := fun z => (hold_ok (S0 := fun w' : World => w'.cell? ⟨g, 1, none⟩ = some (.slice (some ⟨b, 0, none⟩) n c) ∧ w'.cell? ⟨g, 0, none⟩ = some (.int .i64 p.st)) hW z).2
  repeat (go_big_quiet_step (fail))
  refine wpQuiet_nil ?_
  clear q1 q2 hW
  obtain ⟨V4, K4⟩ := V3.typ (i := i) (x := (t : Int)) hu
  have cf := World.ownsRow.frozenAt q4 i
  have cc : W.cell? ⟨b, i, none⟩ = some (.int .i64 (p.ty.getD i 0)) := by
    rw [World.ownsRow.cellAt q4 i (by omega)]
    unfold nums
    have := HN.out
    rw [List.getElem?_map, List.getD_eq_getElem?_getD, List.getElem?_eq_getElem (by omega)]; rfl
  clear q4 hu V3
  go_wp2
  refine ⟨trivial, NoPanic.normal ?_⟩
  have K5 := K3.trans K4
  clear K3 K4 cf cc
  obtain ⟨w3, hw3⟩ : ∃ w3, w3 = W.setCell ⟨b, i, none⟩ (.int .i64 (t : Int)) := ⟨_, rfl⟩
  rw [← hw3] at V4 K5 ⊢
  clear hw3
  by_cases hat : a = t
  · have tat : decide ((a : Int) = (t : Int)) = true := by simp [hat]
    have HRR := Lib.hid (show R = ⟨p.st, p.ty.set i t, p.fr⟩ by rw [HR.out, if_pos hat])
    subst hat
    go_wp2
    exact bodyPost_ret (results_none rfl _ _ _) rfl ⟨rfl, ⟨_, by rw [HRR.out]; exact V4⟩, K5⟩
  · have tat : ((a : Int) == (t : Int)) = false := by simp; omega
    obtain ⟨TY, hTY⟩ : ∃ l, p.ty.set i (t : Int) = l := ⟨_, rfl⟩
    rw [hTY] at V4 HR
    have HRR := Lib.hid (show R = ⟨p.st, TY, convN A (5 * a) (5 * t) 5 0 p.fr⟩ by rw [HR.out, if_neg hat])
    clear HR hTY
    go_wp2
    go_loopg [35] 5 (fun gg v35 wr => ∃ (k : Nat) (fr : Nat → List Int) (cs : List Value), k + gg = 5 ∧ v35 = .int .i64 k ∧ VP w0 g cs ⟨p.st, TY, fr⟩ wr ∧ R = ⟨p.st, TY, convN A (5 * a) (5 * t) gg k fr⟩ ∧ (∀ k', k ≤ k' → k' < 5 → fr (5 * a + k') = p.fr (5 * a + k') ∧ fr (5 * t + k') = p.fr (5 * t + k')) ∧ Kn g w wr)
    case atStart => exact ⟨0, p.fr, cs, by omega, rfl, V4, HRR.out, fun _ _ _ => ⟨rfl, rfl⟩, K5⟩
    case round =>
      clear V4 K5 HRR
      obtain ⟨k, fr, cs, hg, rfl, V5, hRk, hsame, K6⟩ := hrel
      cases gk with
      | zero =>
        have hk5 : ¬ k < 5 := by omega
        have HFIN := Lib.hid (show R = ⟨p.st, TY, fr⟩ from hRk)
        clear hg hRk hsame
        go_wp2
        exact bodyPost_end (results_none rfl _ _ _) rfl ⟨rfl, ⟨_, by rw [HFIN.out]; exact V5⟩, K6⟩
      | succ gg =>
        have hk5 : k < 5 := by omega
        have tk : decide ((k : Int) < 5) = true := by simp; omega
        have HG := Lib.hid hg
        have HRK := Lib.hid (show R = ⟨p.st, TY, convN A (5 * a) (5 * t) gg (k + 1) (convK A fr (5 * a + k) (5 * t + k))⟩ from hRk)
        have HS := Lib.hid hsame
        obtain ⟨l, hl⟩ : ∃ l, fr (5 * a + k) = l := ⟨_, rfl⟩
        obtain ⟨m, hm⟩ : ∃ m, fr (5 * t + k) = m := ⟨_, rfl⟩
        obtain ⟨s1, s2⟩ := hsame k (Nat.le_refl _) hk5
        have hla : List.Pairwise (· < ·) l := by rw [← hl, s1]; exact HL0.out.asc _ (by omega)
        have hma : List.Pairwise (· < ·) m := by rw [← hm, s2]; exact HL0.out.asc _ (by omega)
        have hll : l.length ≤ 256 := by rw [← hl, s1]; exact HL0.out.len (by omega)
        have hml : m.length ≤ 256 := by rw [← hm, s2]; exact HL0.out.len (by omega)
        have HDJ := Lib.hid (show ∀ x ∈ l, x ∉ m by rw [← hl, ← hm, s1, s2]; exact fun x hx => HD.out x a t k ha ht hat hk5 hx)
        have HLA := Lib.hid hla; have HMA := Lib.hid hma; have HLE := Lib.hid hl; have HME := Lib.hid hm
        obtain ⟨v, hu, hO, dc, df⟩ := V5.at ha hk5
        simp only at hO
        rw [hl] at hO
        obtain ⟨aL, cL, rfl, _⟩ := own_form hO
        obtain ⟨nL, hnL⟩ : ∃ n, l.length = n := ⟨_, rfl⟩
        have HNL := Lib.hid hnL
        rw [hnL] at hu dc hll
        have V6 : VP w0 g cs ⟨p.st, TY, upd fr (5 * t + k) (goL A l m 0)⟩ wr := by rw [show goL A l m 0 = m from rfl, upd_noop hm]; exact V5
        clear hg hRk hsame hla hma hl hm s1 s2 hnL hO V5
        go_wp2
        clear dc df
        go_loopg [47, 9] nL (fun g2 v47 v9 wr2 => ∃ (j : Nat) (cs2 : List Value) (a9 : Option Addr) (nR c9 : Nat), j + g2 = nL ∧ v47 = .int .i64 j ∧ v9 = .slice a9 nR c9 ∧ (stL A l j).length = nR ∧ Own wr2 w0.heap.size (.slice a9 nR c9) (stL A l j) ∧ Sep cs2 (.slice a9 nR c9) ∧ cs2[1 + (1 + (5 * a + k))]? = some (.slice aL nL cL) ∧ VP w0 g cs2 ⟨p.st, TY, upd fr (5 * t + k) (goL A l m j)⟩ wr2 ∧ Kn g w wr2)
        case atStart => exact ⟨0, cs, none, 0, 0, by omega, rfl, rfl, rfl, Own.nil _ _, Sep.nil, hu, V6, K6⟩
        case round =>
          clear V6 K6 hu
          obtain ⟨j, cs, a9, nR, c9, hg, rfl, rfl, hnR, hR9, hS9, hu, V7, K7⟩ := hrel
          cases gk with
          | zero =>
            have hjn : ¬ j < nL := by omega
            obtain rfl : j = nL := by omega
            obtain ⟨v, hv, _, dc, df⟩ := V7.at ha hk5
            obtain ⟨V8, K8⟩ := V7.swap ha hk5 hR9 hS9
            simp only at V8
            have hcv := convK_eq (a := A) (fr := fr) (i := 5 * a + k) (j := 5 * t + k) (n := j) (by rw [HLE.out]; exact HNL.out)
            rw [HLE.out, HME.out] at hcv
            rw [← hcv] at V8
            have V9 := V8
            clear hcv
            have K9 := K7.trans K8
            clear hg hnR hR9 hS9 hu V7 K7 V8 K8 hv
            go_wp2
            clear dc df
            obtain ⟨w8, hw8⟩ : ∃ W, W = wr.setCell ⟨g, 2 + a * 5 + k, none⟩ (.slice a9 nR c9) := ⟨_, rfl⟩
            rw [← hw8] at V9 K9 ⊢
            clear hw8
            go_wp2
            go_roundg gg
            case rel =>
              refine ⟨k + 1, _, _, by have := HG.out; omega, by go_num, V9, HRK.out, fun k' h1 h2 => ?_, K9⟩
              obtain ⟨s1, s2⟩ := HS.out k' (by omega) h2
              rw [convK_eq rfl, upd_ne (by omega), upd_ne (by omega), upd_ne (by omega), upd_ne (by omega)]
              exact ⟨s1, s2⟩
            case measure => omega
          | succ g2 =>
            have hjn : j < nL := by omega
            have tj : decide ((j : Int) < (nL : Int)) = true := by simp; omega
            have HG2 := Lib.hid hg
            obtain ⟨x, hx⟩ := get_some HNL.out hjn
            obtain ⟨v, hv, hO, _, _⟩ := V7.at ha hk5
            rw [hu] at hv
            cases hv
            simp only at hO
            rw [upd_ne (by omega), HLE.out] at hO
            obtain ⟨aq, cq, hq, _, _, _, hI⟩ := hO.sl
            cases hq
            obtain ⟨b5, off, rfl, cx⟩ := hI.at hx
            have HX := Lib.hid hx
            have HNR := Lib.hid hnR
            clear hg hx hO hI hnR
            by_cases h1 : A ≤ x
            · by_cases h2 : x < A + 16
              · have hin : inPB A x = true := by unfold inPB; simp; omega
                obtain ⟨q1, q2⟩ := goL_in (m := m) HX.out hin
                have Q1 := Lib.hid q1; have Q2 := Lib.hid q2
                have t1 : decide (A ≤ x) = true := by simpa using h1
                have t2 : decide (x < A + 16) = true := by simpa using h2
                clear q1 q2 hin
                obtain ⟨v, hvt, hOt, dc, df⟩ := V7.at ht hk5
                have hasc := goL_asc (a := A) (i := j) HLA.out HMA.out HDJ.out
                have hlen := goL_len (a := A) (i := j) (l := l) (m := m)
                simp only [upd_self] at hOt
                have hln5 : (goL A l m j).length ≤ 512 := by have := HNL.out; omega
                clear hlen
                go_wp2_with fail
                refine wp_region_plan (fun _ => True) (.quiet [0, 1, 2, 3, 4, 5, 6, 7, 8, 9, 11, 13, 14, 15] (.only 10 (.only 12 (.quiet [16] (.only 17 .done))))) 99 (by kernel_rfl) (by kernel_rfl) trivial ?_
                intro U _ hWe
                have bW : Below wr.heap.size wr U := by rw [hWe]; exact (Below.refl _ _).drew
                have V8 := V7.below bW
                have K8 := K7.trans (Kn.below bW)
                have hO4 := hOt.later bW
                have hR4 := hR9.later bW
                have dc4 := cell_later bW dc
                have df4 := V8.x.frozen (2 + t * 5 + k)
                clear hWe V7 K7 hOt hR9 dc df bW cx
                simp only [wpPlan, inOrder, List.filterMap_cons, List.filterMap_nil, List.getElem?_cons_zero, List.getElem?_cons_succ]
                show wpQuiet _ _ _ _ (_ :: _ :: _ :: _ :: _ :: _ :: _ :: _ :: _ :: _ :: _ :: _ :: _ :: [_]) _
                repeat (go_big_quiet_step (fail))
                refine wpQuiet_nil ?_
                show wpList _ _ _ [_] _ _
                go_wp2
                refine ⟨hold_of (S0 := fun _ => True) trivial, ?_⟩
                show wpList _ _ _ [_] _ _
                go_wp2_with fail
                refine (add_48 w0.heap.size v (goL A l m j) x U hO4 hasc (by omega) V8.b.size).mono ?_
                rintro e w5 ⟨v', rfl, hO5, hg5, hn5⟩
                have V9 := V8.put2 ht hk5 hvt hg5 hO5 hn5
                have K9 := K8.trans (Kn.put hO4 hg5 (2 + t * 5 + k) (u := v'))
                have dc5 : w5.cell? ⟨g, 2 + t * 5 + k, none⟩ = some v := by
                  have := V8.x.grown hg5 (V8.x.not_own hO4 (by decide))
                  rw [this.cell, ← V8.x.cell]; exact dc4
                have hx5 := V8.x.grown hg5 (V8.x.not_own hO4 (by decide))
                have df5 := hx5.frozen (2 + t * 5 + k)
                have hR5 := (hR4.kept hg5 (hS9.flip (by omega) hvt)).far hx5 (by decide) (2 + t * 5 + k) v'
                have hS5 := hS9.set V8.o.len (by omega) hvt hn5 (fun q hq => (World.ownsRow.lt hR4 q hq).2)
                have hu5 : (cs.set (1 + (1 + (5 * t + k))) v')[1 + (1 + (5 * a + k))]? = some (.slice (some ⟨b5, off, none⟩) l.length cL) := by rw [List.getElem?_set_ne (by omega)]; exact hu
                simp only at V9
                rw [upd_upd, ← Q1.out] at V9
                rw [← Q2.out] at hR5
                obtain ⟨a', c', rfl, _⟩ := own_form hO5
                clear V8 K8 hO4 dc4 df4 hO5 hg5 hn5 hasc hln5 hR4 hx5 hS9 hu hvt
                go_wp2
                refine ⟨hold_of (S0 := fun _ => True) trivial, ?_⟩
                show wpQuiet _ _ _ _ ([_]) _
                repeat (go_big_quiet_step (fail))
                refine wpQuiet_nil ?_
                show wpList _ _ _ [_] _ _
                go_wp2
                refine ⟨hold_of (S0 := fun _ => True) trivial, NoPanic.normal ?_⟩
                clear dc5 df5
                obtain ⟨w8, hw8⟩ : ∃ W, W = w5.setCell ⟨g, 2 + t * 5 + k, none⟩ (.slice a' (ins (goL A l m j) x).length c') := ⟨_, rfl⟩
                rw [← hw8] at V9 K9 hR5 ⊢
                clear hw8
                go_wp2
                go_roundg g2
                case rel => exact ⟨j + 1, _, a9, nR, c9, by have := HG2.out; omega, by go_num, rfl, by rw [Q2.out]; exact HNR.out, hR5, hS5, hu5, V9, K9⟩
                case measure => omega
              · have t1 : decide (A ≤ x) = true := by simpa using h1
                have t2 : decide (x < A + 16) = false := by simpa using h2
                have hin : inPB A x = false := by unfold inPB; simp; omega
                obtain ⟨q1, q2⟩ := goL_out (m := m) HX.out hin
                have Q1 := Lib.hid q1; have Q2 := Lib.hid q2
                have hsl := stL_len (a := A) (i := j) (l := l)
                have hw0 := V7.b.size
                have hlt7 := fun (s : Nat) (v : Value) (hs : s < 16) (hv : cs[1 + s]? = some v) (q : Nat) (hq : v.ownBlock = some q) => Nat.lt_succ_of_lt (V7.lt hs hv hq)
                have hsl2 : nR ≤ 256 := by have := HNL.out; have := HNR.out; omega
                have hRa := hR9.later (below_box wr (.cells #[.int .i64 x] 3))
                obtain ⟨VA, KA⟩ : VP w0 g cs ⟨p.st, TY, upd fr (5 * t + k) (goL A l m j)⟩ (wr.alloc (.cells #[.int .i64 x] 3)) ∧ Kn g w (wr.alloc (.cells #[.int .i64 x] 3)) := ⟨V7.below (below_box _ _), K7.trans (Kn.below (below_box _ _))⟩
                have hRo : (wr.alloc (.cells #[.int .i64 x] 3)).ownsRow w0.heap.size 3 1 (.slice a9 nR c9) nR (nums (stL A l j)) := by
                  have := hRa
                  unfold Own at this
                  rwa [HNR.out] at this
                have HRA := Lib.hid hRa
                clear q1 q2 hin hsl hRa V7 K7 hR9
                go_wp2_with (at_builtin; refine wpList_append_k K22 rfl (.tmp 77) (.tmp 79) rfl _ nR (nums (stL A l j)) rfl hRo _ 1 1 _ rfl (src_new wr #[.int .i64 x] 3 1 1 1 rfl (by simp [Value.oneCell'])) ?c1 ?c2 ?_)
                case c1 => omega
                case c2 => exact Nat.le_succ_of_le hw0
                intro v' w5 ho hg5 hn5
                have hR5 : Own w5 w0.heap.size v' (stL A l (j + 1)) := by
                  rw [Q2.out]
                  unfold Own
                  rw [List.length_append, HNR.out]
                  simpa [nums] using ho
                obtain ⟨V9, K9⟩ := VA.other HRA.out hg5 hS9
                obtain ⟨a5, c5, rfl, _⟩ := own_form ho
                have hS5 : Sep cs (.slice a5 (nR + 1) c5) := hS9.grow hn5 hlt7
                rw [← Q1.out] at V9
                have KK := KA.trans K9
                clear VA KA hRo HRA ho hg5 hn5 hS9 K9
                go_wp2
                go_roundg g2
                case rel => exact ⟨j + 1, _, a5, nR + 1, c5, by have := HG2.out; omega, by go_num, rfl, by rw [Q2.out, List.length_append, HNR.out]; rfl, hR5, hS5, hu, V9, KK⟩
                case measure => omega
            · have t1 : decide (A ≤ x) = false := by simpa using h1
              have hin : inPB A x = false := by unfold inPB; simp; omega
              obtain ⟨q1, q2⟩ := goL_out (m := m) HX.out hin
              have Q1 := Lib.hid q1; have Q2 := Lib.hid q2
              have hsl := stL_len (a := A) (i := j) (l := l)
              have hw0 := V7.b.size
              have hlt7 := fun (s : Nat) (v : Value) (hs : s < 16) (hv : cs[1 + s]? = some v) (q : Nat) (hq : v.ownBlock = some q) => Nat.lt_succ_of_lt (V7.lt hs hv hq)
              have hsl2 : nR ≤ 256 := by have := HNL.out; have := HNR.out; omega
              have hRa := hR9.later (below_box wr (.cells #[.int .i64 x] 3))
              obtain ⟨VA, KA⟩ : VP w0 g cs ⟨p.st, TY, upd fr (5 * t + k) (goL A l m j)⟩ (wr.alloc (.cells #[.int .i64 x] 3)) ∧ Kn g w (wr.alloc (.cells #[.int .i64 x] 3)) := ⟨V7.below (below_box _ _), K7.trans (Kn.below (below_box _ _))⟩
              have hRo : (wr.alloc (.cells #[.int .i64 x] 3)).ownsRow w0.heap.size 3 1 (.slice a9 nR c9) nR (nums (stL A l j)) := by
                have := hRa
                unfold Own at this
                rwa [HNR.out] at this
              have HRA := Lib.hid hRa
              clear q1 q2 hin hsl hRa V7 K7 hR9
              go_wp2_with (at_builtin; refine wpList_append_k K22 rfl (.tmp 77) (.tmp 79) rfl _ nR (nums (stL A l j)) rfl hRo _ 1 1 _ rfl (src_new wr #[.int .i64 x] 3 1 1 1 rfl (by simp [Value.oneCell'])) ?c1 ?c2 ?_)
              case c1 => omega
              case c2 => exact Nat.le_succ_of_le hw0
              intro v' w5 ho hg5 hn5
              have hR5 : Own w5 w0.heap.size v' (stL A l (j + 1)) := by
                rw [Q2.out]
                unfold Own
                rw [List.length_append, HNR.out]
                simpa [nums] using ho
              obtain ⟨V9, K9⟩ := VA.other HRA.out hg5 hS9
              obtain ⟨a5, c5, rfl, _⟩ := own_form ho
              have hS5 : Sep cs (.slice a5 (nR + 1) c5) := hS9.grow hn5 hlt7
              rw [← Q1.out] at V9
              have KK := KA.trans K9
              clear VA KA hRo HRA ho hg5 hn5 hS9 K9
              go_wp2
              go_roundg g2
              case rel => exact ⟨j + 1, _, a5, nR + 1, c5, by have := HG2.out; omega, by go_num, rfl, by rw [Q2.out, List.length_append, HNR.out]; rfl, hR5, hS5, hu, V9, KK⟩
              case measure => omega
end Go.Proofs.YtkiiifmofmbniaaDoor
