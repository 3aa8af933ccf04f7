/- Walks: a block is put into lists of a call's own. -/
import Derived.Test.YtkiiifmofmbniaaDoorM6
namespace Go.Mob
open Go.Can
theorem setRow_succ {p : P} {i : Nat} {l : List Int} : setRow p (1 + i) l = ⟨p.st, p.ty, upd p.fr i l⟩ := by
  unfold setRow
  rw [if_neg (by omega), show 1 + i - 1 = i by omega]
theorem pos_lt {l : List Int} {x : Int} (hs : List.Pairwise (· < ·) l) (h : l.contains x = true) : pos l x < l.length ∧ l[pos l x]? = some x := by
  induction l with
  | nil => simp at h
  | cons y r ih =>
    rw [List.pairwise_cons] at hs
    unfold pos
    rw [List.takeWhile_cons]
    by_cases hy : y < x
    · rw [if_pos (by simpa using hy)]
      have hr : r.contains x = true := by
        have h1 : x ∈ y :: r := by simpa using h
        rcases List.mem_cons.1 h1 with h2 | h2
        · omega
        · simpa using h2
      obtain ⟨q1, q2⟩ := ih hs.2 hr
      unfold pos at q1 q2
      simp only [List.length_cons, List.getElem?_cons_succ]
      exact ⟨by omega, q2⟩
    · rw [if_neg (by simpa using hy)]
      have h1 : x ∈ y :: r := by simpa using h
      have : x = y := by
        rcases List.mem_cons.1 h1 with h2 | h2
        · exact h2
        · have := hs.1 x h2; omega
      simp [this]
theorem del_sub {l : List Int} {x y : Int} (h : y ∈ del l x) : y ∈ l := List.mem_of_mem_eraseIdx h
theorem del_asc {l : List Int} {x : Int} (h : List.Pairwise (· < ·) l) : List.Pairwise (· < ·) (del l x) := h.sublist (List.eraseIdx_sublist _ _)
theorem Lst.del {p : P} (h : Lst p) (i : Nat) (x : Int) : Lst ⟨p.st, p.ty, upd p.fr i (Mob.del (p.fr i) x)⟩ := by
  refine ⟨h.rng, fun j hj f hf => ?_, fun j hj => ?_⟩
  · by_cases e : j = i
    · subst e
      simp only [upd_self] at hf
      exact h.ins j hj f (del_sub hf)
    · simp only [upd_ne e] at hf
      exact h.ins j hj f hf
  · by_cases e : j = i
    · subst e
      simp only [upd_self]
      exact del_asc (h.asc j hj)
    · simp only [upd_ne e]
      exact h.asc j hj
theorem ins_par {p : P} (hr : rngB p = true) {f : Int} {k : Nat} (hk : k < 4) (h : insB p f k = true) : insB p (par f k) (k + 1) = true := by
  obtain ⟨r1, r2, r3, r4, r5, _⟩ := rng_of hr
  obtain ⟨i1, i2, i3⟩ := ins_open h
  unfold insB par
  rw [decide_eq_true_eq, pw_succ]
  rcases pw_cases (show k ≤ 4 by omega) with ⟨k1, k2⟩ | ⟨k1, k2⟩ | ⟨k1, k2⟩ | ⟨k1, k2⟩ | ⟨k1, k2⟩ <;> (rw [k2] at i3 ⊢; omega)
end Go.Mob
namespace Go.Proofs.YtkiiifmofmbniaaDoor
open Go.RowKit Go.Over Go.Mob Go.Can Go.Seg Go.Grow
theorem andNot_0 {x : Int} (h0 : 0 ≤ x) (h1 : x < 256) (h2 : x % 1 = 0) : bits BinOp.andNot IntKind.i64 x 1 = par x 0 := by
  have key : ∀ n : Fin 256, ((n.val : Nat) : Int) % 1 = 0 → bits BinOp.andNot IntKind.i64 ((n.val : Nat) : Int) 1 = par ((n.val : Nat) : Int) 0 := by decide +kernel
  have h := key ⟨x.toNat, by omega⟩
  rw [show ((x.toNat : Nat) : Int) = x by omega] at h
  exact h h2
theorem andNot_1 {x : Int} (h0 : 0 ≤ x) (h1 : x < 256) (h2 : x % 2 = 0) : bits BinOp.andNot IntKind.i64 x 2 = par x 1 := by
  have key : ∀ n : Fin 256, ((n.val : Nat) : Int) % 2 = 0 → bits BinOp.andNot IntKind.i64 ((n.val : Nat) : Int) 2 = par ((n.val : Nat) : Int) 1 := by decide +kernel
  have h := key ⟨x.toNat, by omega⟩
  rw [show ((x.toNat : Nat) : Int) = x by omega] at h
  exact h h2
theorem andNot_2 {x : Int} (h0 : 0 ≤ x) (h1 : x < 256) (h2 : x % 4 = 0) : bits BinOp.andNot IntKind.i64 x 4 = par x 2 := by
  have key : ∀ n : Fin 256, ((n.val : Nat) : Int) % 4 = 0 → bits BinOp.andNot IntKind.i64 ((n.val : Nat) : Int) 4 = par ((n.val : Nat) : Int) 2 := by decide +kernel
  have h := key ⟨x.toNat, by omega⟩
  rw [show ((x.toNat : Nat) : Int) = x by omega] at h
  exact h h2
theorem andNot_3 {x : Int} (h0 : 0 ≤ x) (h1 : x < 256) (h2 : x % 8 = 0) : bits BinOp.andNot IntKind.i64 x 8 = par x 3 := by
  have key : ∀ n : Fin 256, ((n.val : Nat) : Int) % 8 = 0 → bits BinOp.andNot IntKind.i64 ((n.val : Nat) : Int) 8 = par ((n.val : Nat) : Int) 3 := by decide +kernel
  have h := key ⟨x.toNat, by omega⟩
  rw [show ((x.toNat : Nat) : Int) = x by omega] at h
  exact h h2
theorem andNot_par {k : Nat} (hk : k < 4) {x : Int} (h0 : 0 ≤ x) (h1 : x < 256) (h2 : x % pw k = 0) : bits BinOp.andNot IntKind.i64 x ((2 ^ k : Nat) : Int) = par x k := by
  rcases (show k = 0 ∨ k = 1 ∨ k = 2 ∨ k = 3 by omega) with rfl | rfl | rfl | rfl
  · exact andNot_0 h0 h1 h2
  · exact andNot_1 h0 h1 h2
  · exact andNot_2 h0 h1 h2
  · exact andNot_3 h0 h1 h2
theorem dele_47 (base : Nat) (V : Value) (l : List Int) (i : Nat) (w : World) (H : Own w base V l) (hi : i < l.length) (hm : l.length ≤ 100000) :
    Calls Tryd.prog 47 #[V, .int .i64 i, .int .i64 ((i : Int) + 1)] w (RowAns w base V (l.eraseIdx i)) := by
  have := delete_47 base V l.length i (nums l) w H nums_one hi hm
  rw [show ((i + 1 : Nat) : Int) = (i : Int) + 1 by omega] at this
  exact this.mono fun e w' h => Own.del hi h
/-- Blocks of other element types are as they were. -/
def Kn (g : Nat) (w w' : World) : Prop := ∀ g' t bs, g' ≠ g → t ≠ 3 → Blk w g' t bs → Blk w' g' t bs
theorem Kn.refl (g : Nat) (w : World) : Kn g w w := fun _ _ _ _ _ h => h
theorem Kn.trans {g : Nat} {w1 w2 w3 : World} (h : Kn g w1 w2) (h' : Kn g w2 w3) : Kn g w1 w3 := fun g' t bs h1 h2 h3 => h' g' t bs h1 h2 (h g' t bs h1 h2 h3)
theorem Kn.below {g : Nat} {w w' : World} (hb : Below w.heap.size w w') : Kn g w w' := fun _ _ _ _ _ h => h.later hb
theorem Kn.put {g B : Nat} {w w' : World} {v u : Value} {l : List Int} (ho : Own w B v l) (hg : w.grownBy w' v.ownBlock) (i : Nat) : Kn g w (w'.setCell ⟨g, i, none⟩ u) := fun _ _ _ h1 h2 h3 =>
  (h3.grown hg (h3.not_own ho (Ne.symm h2))).far (p := ⟨g, i, none⟩) h1 u
/-- The row of a list, in a variable. -/
theorem VP.at {w W : World} {g : Nat} {cs : List Value} {p : P} (h : VP w g cs p W) {t k : Nat} (ht : t < 3) (hk : k < 5) : ∃ v, cs[1 + (1 + (5 * t + k))]? = some v ∧ Own W w.heap.size v (p.fr (5 * t + k)) ∧ W.cell? ⟨g, 2 + t * 5 + k, none⟩ = some v ∧ W.frozen? ⟨g, 2 + t * 5 + k, none⟩ = false := by
  obtain ⟨v, h1, h2⟩ := OwnP.own h.o (show 1 + (5 * t + k) < 16 by omega)
  have e : rowL p (1 + (5 * t + k)) = p.fr (5 * t + k) := by unfold rowL; rw [if_neg (by omega)]; congr 1; omega
  rw [e] at h2
  exact ⟨v, h1, h2, by rw [h.x.cell, ← h1]; congr 1; omega, h.x.frozen _⟩
/-- A row is changed by a call, and stored. -/
theorem VP.put2 {w W W' : World} {g : Nat} {cs : List Value} {p : P} (h : VP w g cs p W) {t k : Nat} (ht : t < 3) (hk : k < 5) {u u' : Value} {l' : List Int} (hu : cs[1 + (1 + (5 * t + k))]? = some u) (hg : W.grownBy W' u.ownBlock) (hO : Own W' w.heap.size u' l') (hn : ∀ k, u'.ownBlock = some k → u.ownBlock = some k ∨ W.heap.size ≤ k) :
    VP w g (cs.set (1 + (1 + (5 * t + k))) u') ⟨p.st, p.ty, upd p.fr (5 * t + k) l'⟩ (W'.setCell ⟨g, 2 + t * 5 + k, none⟩ u') := by
  have := h.put (show 1 + (5 * t + k) < 16 by omega) hu hg hO hn
  rw [setRow_succ] at this
  rwa [show 2 + t * 5 + k = 1 + (1 + (5 * t + k)) by omega]
set_option maxRecDepth 100000 in set_option maxHeartbeats 3200000 in
theorem put_40 (w0 : World) (g : Nat) (cs : List Value) (p : P) (f : Int) (k : Nat) (w : World) (V : VP w0 g cs p w) (HL : Lst p) (hk : k < 5) (hi : insB p f k = true) :
    Calls Tryd.prog 40 #[.pointer (some ⟨g, 0, none⟩), .int .i64 f, .int .i64 k] w fun e w' => e = .returned (.tuple #[]) ∧ (∃ cs', VP w0 g cs' (putP p f k) w') ∧ Kn g w w' := by
  obtain ⟨t, ht, hty⟩ : ∃ t : Nat, t < 3 ∧ tyAt p f = (t : Int) := by
    obtain ⟨r1, r2, r3, r4, r5, r6⟩ := rng_of HL.rng
    obtain ⟨i1, i2, _⟩ := ins_open hi
    have hx : tyAt p f ∈ p.ty := by
      unfold tyAt
      rw [List.getD_eq_getElem?_getD, List.getElem?_eq_getElem (by omega)]
      exact List.getElem_mem _
    have := r6 _ hx
    exact ⟨(tyAt p f).toNat, by omega, by omega⟩
  have hPE : putP p f k = ⟨p.st, p.ty, putN (5 * t) (4 - k) p.fr f k⟩ := by
    unfold putP base
    rw [hty, Int.toNat_natCast]
  obtain ⟨R, hR⟩ : ∃ R, putP p f k = R := ⟨_, rfl⟩
  rw [hR]
  rw [hR] at hPE
  have HPE := Lib.hid hPE; have HTY := Lib.hid hty
  have HI := Lib.hid hi
  have HL0 := HL
  obtain ⟨i1, i2, _⟩ := ins_open hi
  clear hR hPE hty hi
  go_enter Tryd.func40, Tryd.ntmps40
  go_wp2_with fail
  refine wp_region_plan (fun _ => True) (.quiet [0, 1, 2, 4, 6, 7] (.only 3 (.only 5 (.quiet [8, 9] .done)))) 99 (by kernel_rfl) (by kernel_rfl) trivial ?_
  intro W _ hWe
  have V1 : VP w0 g cs p W := by rw [hWe]; exact V.below (Below.refl _ _).drew
  have K1 : Kn g w W := by rw [hWe]; exact Kn.below (Below.refl _ _).drew
  clear hWe V
  simp only [wpPlan, inOrder, List.filterMap_cons, List.filterMap_nil, List.getElem?_cons_zero, List.getElem?_cons_succ]
  show wpQuiet _ _ _ _ (_ :: _ :: _ :: _ :: _ :: [_]) _
  repeat (go_big_quiet_step (fail))
  refine wpQuiet_nil ?_
  show wpList _ _ _ [_] _ _
  go_wp2_with ((with_reducible refine ld ?_ V1.x V1.v.len ?_); (focus rfl))
  refine ⟨hold_of (S0 := fun _ => True) trivial, ?_⟩
  show wpList _ _ _ [_] _ _
  go_wp2_with fail
  refine (type_34 _ p f W V1.rpv HL.rng i1 i2).mono ?_
  rintro e w2 ⟨rfl, b2⟩
  have V2 := V1.below b2
  have K2 := K1.trans (Kn.below b2)
  rw [HTY.out]
  clear V1 K1 b2
  go_wp2
  refine ⟨hold_of (S0 := fun _ => True) trivial, ?_⟩
  show wpQuiet _ _ _ _ (_ :: [_]) _
  repeat (go_big_quiet_step (fail))
  refine wpQuiet_nil ?_
  refine NoPanic.normal ?_
  go_wp2
  go_loopg [1, 2] (4 - k) (fun gg v1 v2 wr => ∃ (f : Int) (k : Nat) (fr : Nat → List Int) (cs : List Value), k + gg = 4 ∧ v1 = .int .i64 f ∧ v2 = .int .i64 k ∧ VP w0 g cs ⟨p.st, p.ty, fr⟩ wr ∧ Lst ⟨p.st, p.ty, fr⟩ ∧ insB p f k = true ∧ R = ⟨p.st, p.ty, putN (5 * t) (4 - k) fr f k⟩ ∧ Kn g w wr)
  case atStart => exact ⟨f, k, p.fr, cs, by omega, rfl, rfl, V2, HL0, HI.out, HPE.out, K2⟩
  case round =>
    clear V2 K2
    obtain ⟨f, k, fr, cs, hg, rfl, rfl, V3, HL3, hi, hRk, K3⟩ := hrel
    cases gk with
    | zero =>
      have hk4 : ¬ k < 4 := by omega
      have hk5 : k < 5 := by omega
      have HFIN := Lib.hid (show R = ⟨p.st, p.ty, upd fr (5 * t + k) (ins (fr (5 * t + k)) f)⟩ by rw [hRk, show 4 - k = 0 by omega]; rfl)
      clear hg hi hRk
      obtain ⟨v, hu, hO, dc, df⟩ := V3.at ht hk5
      have hasc := HL3.asc (5 * t + k) (by omega)
      have hlen := HL3.len (i := 5 * t + k) (by omega)
      simp only at hO hasc hlen
      go_wp2_with fail
      refine wp_region_plan (fun _ => True) (.quiet [0, 1, 2, 3, 4, 5, 7, 9] (.only 6 (.only 8 (.quiet [10] (.only 11 .done))))) 99 (by kernel_rfl) (by kernel_rfl) trivial ?_
      intro U _ hWe
      have bW : Below wr.heap.size wr U := by rw [hWe]; exact (Below.refl _ _).drew
      have V4 := V3.below bW
      have K4 := K3.trans (Kn.below bW)
      have hO4 := hO.later bW
      have dc4 := cell_later bW dc
      have df4 := V4.x.frozen (2 + t * 5 + k)
      clear hWe V3 hO dc df bW
      simp only [wpPlan, inOrder, List.filterMap_cons, List.filterMap_nil, List.getElem?_cons_zero, List.getElem?_cons_succ]
      show wpQuiet _ _ _ _ (_ :: _ :: _ :: _ :: _ :: _ :: _ :: [_]) _
      repeat (go_big_quiet_step (fail))
      refine wpQuiet_nil ?_
      show wpList _ _ _ [_] _ _
      go_wp2
      refine ⟨hold_of (S0 := fun _ => True) trivial, ?_⟩
      show wpList _ _ _ [_] _ _
      go_wp2_with fail
      refine (add_48 w0.heap.size v (fr (5 * t + k)) f U hO4 hasc (by omega) V4.b.size).mono ?_
      rintro e w5 ⟨v', rfl, hO5, hg5, hn5⟩
      have V5 := V4.put2 ht hk5 hu hg5 hO5 hn5
      have K5 := K4.trans (Kn.put hO4 hg5 (2 + t * 5 + k) (u := v'))
      have dc5 : w5.cell? ⟨g, 2 + t * 5 + k, none⟩ = some v := by
        have := V4.x.grown hg5 (V4.x.not_own hO4 (by decide))
        rw [this.cell, ← V4.x.cell]; exact dc4
      have df5 := (V4.x.grown hg5 (V4.x.not_own hO4 (by decide))).frozen (2 + t * 5 + k)
      obtain ⟨a', c', rfl, _⟩ := own_form hO5
      clear V4 K4 hO4 dc4 df4 hO5 hg5 hn5 hasc hlen
      go_wp2
      refine ⟨hold_of (S0 := fun _ => True) trivial, ?_⟩
      show wpQuiet _ _ _ _ ([_]) _
      repeat (go_big_quiet_step (fail))
      refine wpQuiet_nil ?_
      show wpList _ _ _ [_] _ _
      go_wp2
      refine ⟨hold_of (S0 := fun _ => True) trivial, NoPanic.normal ?_⟩
      go_wp2
      exact bodyPost_end (results_none rfl _ _ _) rfl ⟨rfl, ⟨_, by rw [HFIN.out]; exact V5⟩, K5⟩
    | succ gg =>
      have hk4 : k < 4 := by omega
      have hk5 : k < 5 := by omega
      have tk : decide ((k : Int) < 4) = true := by simp; omega
      have HG := Lib.hid hg
      have hRk2 := Lib.hid (show R = ⟨p.st, p.ty, if (fr (5 * t + k)).contains (bud k f) = true then putN (5 * t) (4 - (k + 1)) (upd fr (5 * t + k) (del (fr (5 * t + k)) (bud k f))) (par f k) (k + 1) else upd fr (5 * t + k) (ins (fr (5 * t + k)) f)⟩ by
        rw [hRk, show 4 - k = (4 - (k + 1)) + 1 by omega]; rfl)
      clear hg hRk
      obtain ⟨z1, z2, z3⟩ := ins_lt HL.rng hk5 hi
      obtain ⟨m, hm⟩ : ∃ m, 2 ^ k = m := ⟨_, rfl⟩
      have hwm : wrap64 ((2 : Int) ^ k) = (m : Int) := by rw [← hm]; exact wrap_pow hk5
      have hm0 : 0 < m := by rw [← hm]; exact Nat.pow_pos (by decide)
      have hm1 : f + (m : Int) ≤ 256 := by rw [← hm]; exact z3
      have HM := Lib.hid hm
      clear hm
      have hf256 : f < 256 := by omega
      have hxor : bits BinOp.xor IntKind.i64 f (m : Int) = bud k f := by rw [← HM.out]; exact xor_bud hk4 z1 hf256 (ins_open hi).2.2
      have handn : bits BinOp.andNot IntKind.i64 f (m : Int) = par f k := by rw [← HM.out]; exact andNot_par hk4 z1 hf256 (ins_open hi).2.2
      have HIP := Lib.hid (ins_par HL.rng hk4 hi)
      have HIN := Lib.hid hi
      clear hi z2 z3
      obtain ⟨v, hu, hO, dc, df⟩ := V3.at ht hk5
      have hasc := HL3.asc (5 * t + k) (by omega)
      have hlen := HL3.len (i := 5 * t + k) (by omega)
      simp only at hO hasc hlen
      go_wp2_with fail
      refine wp_region_plan (fun _ => True) (.quiet [0, 1, 2, 3, 5, 6, 7, 8] (.only 4 (.only 9 (.quiet [10, 11, 12, 13, 14] .done)))) 99 (by kernel_rfl) (by kernel_rfl) trivial ?_
      intro W _ hWe
      have bW : Below wr.heap.size wr W := by rw [hWe]; exact (Below.refl _ _).drew
      have V4 := V3.below bW
      have K4 := K3.trans (Kn.below bW)
      have hO4 := hO.later bW
      have dc4 := cell_later bW dc
      clear hWe V3 hO dc df bW K3
      simp only [wpPlan, inOrder, List.filterMap_cons, List.filterMap_nil, List.getElem?_cons_zero, List.getElem?_cons_succ]
      show wpQuiet _ _ _ _ (_ :: _ :: _ :: _ :: _ :: _ :: _ :: [_]) _
      repeat (go_big_quiet_step (fail))
      refine wpQuiet_nil ?_
      show wpList _ _ _ [_] _ _
      go_wp2
      refine ⟨hold_of (S0 := fun _ => True) trivial, ?_⟩
      obtain ⟨a', c', rfl, h1, h2, h3, hI⟩ := hO4.sl
      obtain ⟨n, hn⟩ : ∃ n, (fr (5 * t + k)).length = n := ⟨_, rfl⟩
      have hse := search_35 a' (fr (5 * t + k)) n c' (bud k f) W hI hn (by omega) hasc
      obtain ⟨i, hip⟩ : ∃ i, pos (fr (5 * t + k)) (bud k f) = i := ⟨_, rfl⟩
      obtain ⟨ct, hct⟩ : ∃ b, (fr (5 * t + k)).contains (bud k f) = b := ⟨_, rfl⟩
      rw [hip, hct] at hse
      have HSE := Lib.hid hse; have HIPO := Lib.hid hip; have HCT := Lib.hid hct; have HNN := Lib.hid hn
      clear hse hip hct h1 h2 h3 hI
      show wpList _ _ _ [_] _ _
      rw [hn]
      clear hn
      go_wp2_with fail
      refine HSE.out.mono ?_
      rintro e w5 ⟨rfl, rfl⟩
      go_wp2
      refine ⟨hold_of (S0 := fun _ => True) trivial, ?_⟩
      show wpQuiet _ _ _ _ (_ :: _ :: _ :: _ :: [_]) _
      repeat (go_big_quiet_step (fail))
      refine wpQuiet_nil ?_
      refine NoPanic.normal ?_
      cases ct with
      | false =>
        have HFIN := Lib.hid (show R = ⟨p.st, p.ty, upd fr (5 * t + k) (ins (fr (5 * t + k)) f)⟩ by rw [hRk2.out, if_neg (by rw [HCT.out]; decide)])
        have V3 := V4
        have K3 := K4
        clear V4 K4 dc4 hO4 hu hasc hlen hwm hm0 hm1 hxor handn hRk2 tk hf256 z1
        obtain ⟨v, hu, hO, dc, df⟩ := V3.at ht hk5
        have hasc := HL3.asc (5 * t + k) (by omega)
        have hlen := HL3.len (i := 5 * t + k) (by omega)
        simp only at hO hasc hlen
        go_wp2_with fail
        refine wp_region_plan (fun _ => True) (.quiet [0, 1, 2, 3, 4, 5, 7, 9] (.only 6 (.only 8 (.quiet [10] (.only 11 .done))))) 99 (by kernel_rfl) (by kernel_rfl) trivial ?_
        intro U _ hWe
        have bW : Below W.heap.size W U := by rw [hWe]; exact (Below.refl _ _).drew
        have V4 := V3.below bW
        have K4 := K3.trans (Kn.below bW)
        have hO4 := hO.later bW
        have dc4 := cell_later bW dc
        have df4 := V4.x.frozen (2 + t * 5 + k)
        clear hWe V3 hO dc df bW
        simp only [wpPlan, inOrder, List.filterMap_cons, List.filterMap_nil, List.getElem?_cons_zero, List.getElem?_cons_succ]
        show wpQuiet _ _ _ _ (_ :: _ :: _ :: _ :: _ :: _ :: _ :: [_]) _
        repeat (go_big_quiet_step (fail))
        refine wpQuiet_nil ?_
        show wpList _ _ _ [_] _ _
        go_wp2
        refine ⟨hold_of (S0 := fun _ => True) trivial, ?_⟩
        show wpList _ _ _ [_] _ _
        go_wp2_with fail
        refine (add_48 w0.heap.size v (fr (5 * t + k)) f U hO4 hasc (by omega) V4.b.size).mono ?_
        rintro e w5 ⟨v', rfl, hO5, hg5, hn5⟩
        have V5 := V4.put2 ht hk5 hu hg5 hO5 hn5
        have K5 := K4.trans (Kn.put hO4 hg5 (2 + t * 5 + k) (u := v'))
        have dc5 : w5.cell? ⟨g, 2 + t * 5 + k, none⟩ = some v := by
          have := V4.x.grown hg5 (V4.x.not_own hO4 (by decide))
          rw [this.cell, ← V4.x.cell]; exact dc4
        have df5 := (V4.x.grown hg5 (V4.x.not_own hO4 (by decide))).frozen (2 + t * 5 + k)
        obtain ⟨a', c', rfl, _⟩ := own_form hO5
        clear V4 K4 hO4 dc4 df4 hO5 hg5 hn5 hasc hlen
        go_wp2
        refine ⟨hold_of (S0 := fun _ => True) trivial, ?_⟩
        show wpQuiet _ _ _ _ ([_]) _
        repeat (go_big_quiet_step (fail))
        refine wpQuiet_nil ?_
        show wpList _ _ _ [_] _ _
        go_wp2
        refine ⟨hold_of (S0 := fun _ => True) trivial, NoPanic.normal ?_⟩
        go_wp2
        exact bodyPost_end (results_none rfl _ _ _) rfl ⟨rfl, ⟨_, by rw [HFIN.out]; exact V5⟩, K5⟩
      | true =>
        have hil : i < n := by have := (pos_lt hasc HCT.out).1; rw [HIPO.out, HNN.out] at this; exact this
        have HDEL := Lib.hid (show (fr (5 * t + k)).eraseIdx i = del (fr (5 * t + k)) (bud k f) by unfold del; rw [HIPO.out])
        have HPN := Lib.hid (show R = ⟨p.st, p.ty, putN (5 * t) (4 - (k + 1)) (upd fr (5 * t + k) (del (fr (5 * t + k)) (bud k f))) (par f k) (k + 1)⟩ by rw [hRk2.out, if_pos HCT.out])
        have hi256 : i < 256 := by have := HNN.out; omega
        clear hRk2 hasc hxor
        go_wp2_with fail
        refine wp_region_plan (fun _ => True) (.quiet [0, 1, 2, 3, 4, 5, 7, 8, 9, 11] (.only 6 (.only 10 (.quiet [12] (.only 13 .done))))) 99 (by kernel_rfl) (by kernel_rfl) trivial ?_
        intro U _ hWe
        have bW : Below W.heap.size W U := by rw [hWe]; exact (Below.refl _ _).drew
        have V5 := V4.below bW
        have K5 := K4.trans (Kn.below bW)
        have hO5 := hO4.later bW
        have dc5 := cell_later bW dc4
        clear hWe V4 K4 hO4 dc4 bW
        simp only [wpPlan, inOrder, List.filterMap_cons, List.filterMap_nil, List.getElem?_cons_zero, List.getElem?_cons_succ]
        show wpQuiet _ _ _ _ (_ :: _ :: _ :: _ :: _ :: _ :: _ :: _ :: _ :: [_]) _
        repeat (go_big_quiet_step (fail))
        refine wpQuiet_nil ?_
        have hn := HNN.out
        rw [hn] at hO5 dc5 hu hlen
        clear hn
        show wpList _ _ _ [_] _ _
        go_wp2
        refine ⟨hold_of (S0 := fun _ => True) trivial, ?_⟩
        show wpList _ _ _ [_] _ _
        go_wp2_with fail
        have hde := dele_47 w0.heap.size (.slice a' n c') (fr (5 * t + k)) i U hO5 (by rw [HNN.out]; exact hil) (by rw [HNN.out]; omega)
        refine hde.mono ?_
        rintro e w6 ⟨v', rfl, hO6, hg6, hn6⟩
        rw [HDEL.out] at hO6
        have V6 := V5.put2 ht hk5 hu hg6 hO6 hn6
        have K6 := K5.trans (Kn.put hO5 hg6 (2 + t * 5 + k) (u := v'))
        have dc6 : w6.cell? ⟨g, 2 + t * 5 + k, none⟩ = some (.slice a' n c') := by
          have := V5.x.grown hg6 (V5.x.not_own hO5 (by decide))
          rw [this.cell, ← V5.x.cell]; exact dc5
        have df6 := (V5.x.grown hg6 (V5.x.not_own hO5 (by decide))).frozen (2 + t * 5 + k)
        obtain ⟨a'', c'', rfl, _⟩ := own_form hO6
        clear V5 K5 hO5 dc5 hO6 hg6 hn6 hde
        go_wp2
        refine ⟨hold_of (S0 := fun _ => True) trivial, ?_⟩
        show wpQuiet _ _ _ _ ([_]) _
        repeat (go_big_quiet_step (fail))
        refine wpQuiet_nil ?_
        show wpList _ _ _ [_] _ _
        go_wp2
        refine ⟨hold_of (S0 := fun _ => True) trivial, NoPanic.normal ?_⟩
        clear dc6 df6
        obtain ⟨w7, hw7⟩ : ∃ W, W = w6.setCell ⟨g, 2 + t * 5 + k, none⟩ (.slice a'' (del (fr (5 * t + k)) (bud k f)).length c'') := ⟨_, rfl⟩
        rw [← hw7] at V6 K6 ⊢
        clear hw7
        go_wp2
        go_roundg gg
        case rel => exact ⟨par f k, k + 1, _, _, by have := HG.out; omega, rfl, by go_num, V6, HL3.del _ _, HIP.out, HPN.out, K6⟩
        case measure => omega
end Go.Proofs.YtkiiifmofmbniaaDoor
