/- Walks: Alloc, of the program. -/
import Derived.Test.YthhdiiboblaclaaW18
import Derived.Laws.EntriesVeiled
namespace Go.Proofs.Ythhdiiboblaclaa
open Go.RowKit Go.Over Go.Slb Go.Seg Go.Grow
/-- What the walk of Alloc keeps. -/
def KeepA (w0 : World) (o : Int) (a : Option Addr) (n c : Nat) (fa : Option Addr) (fm fc : Nat) (W : World) : Prop :=
  Below w0.heap.size w0 W ∧ Blk W w0.heap.size 24 [.int .i64 o, .slice a n c] ∧ Blk W (w0.heap.size + 1) 31 [.slice fa fm fc] ∧ Blk W (w0.heap.size + 1 + 1) 24 [.int .i64 0, .slice none 0 0]
theorem KeepA.below {w0 : World} {o : Int} {a : Option Addr} {n c : Nat} {fa : Option Addr} {fm fc : Nat} {W W' : World} (h : KeepA w0 o a n c fa fm fc W) (hb : Below W.heap.size W W') : KeepA w0 o a n c fa fm fc W' :=
  ⟨below_then h.1 hb, h.2.1.later hb, h.2.2.1.later hb, h.2.2.2.later hb⟩
theorem KeepA.start (w0 : World) (o : Int) (a : Option Addr) (n c : Nat) (fa : Option Addr) (fm fc : Nat) :
    KeepA w0 o a n c fa fm fc (((w0.alloc (.cells #[.int .i64 o, .slice a n c] 24)).alloc (.cells #[.slice fa fm fc] 31)).alloc (.cells #[.int .i64 0, .slice none 0 0] 24)) := by
  refine ⟨((below_box w0 _).alloc (by simp) _).alloc (by simp; omega) _, ((Blk.new w0 24 _ _ rfl).alloc _).alloc _, ?_, ?_⟩
  · have := (Blk.new (w0.alloc (.cells #[.int .i64 o, .slice a n c] 24)) 31 #[.slice fa fm fc] [.slice fa fm fc] rfl).alloc (.cells #[.int .i64 0, .slice none 0 0] 24)
    simpa using this
  · have := Blk.new ((w0.alloc (.cells #[.int .i64 o, .slice a n c] 24)).alloc (.cells #[.slice fa fm fc] 31)) 24 #[.int .i64 0, .slice none 0 0] [.int .i64 0, .slice none 0 0] rfl
    simpa using this
theorem KeepA.cells {w0 : World} {o : Int} {a : Option Addr} {n c : Nat} {fa : Option Addr} {fm fc : Nat} {W : World} (h : KeepA w0 o a n c fa fm fc W) :
    W.cell? ⟨w0.heap.size, 0, none⟩ = some (.int .i64 o) ∧ W.cell? ⟨w0.heap.size, 1, none⟩ = some (.slice a n c) ∧ W.cell? ⟨w0.heap.size + 1, 0, none⟩ = some (.slice fa fm fc) ∧ W.cell? ⟨w0.heap.size + 1 + 1, 0, none⟩ = some (.int .i64 0) ∧ W.cell? ⟨w0.heap.size + 1 + 1, 1, none⟩ = some (.slice none 0 0) ∧ W.frozen? ⟨w0.heap.size + 1 + 1, 0, none⟩ = false ∧ W.frozen? ⟨w0.heap.size + 1 + 1, 1, none⟩ = false :=
  ⟨h.2.1.cell 0, h.2.1.cell 1, h.2.2.1.cell 0, h.2.2.2.cell 0, h.2.2.2.cell 1, h.2.2.2.frozen 0, h.2.2.2.frozen 1⟩
/-- What the operations of the insertion keep. -/
def KeepB (w0 : World) (o : Int) (a : Option Addr) (n c : Nat) (fa : Option Addr) (fm fc : Nat) (X : Nat) (V : Value) (W : World) : Prop :=
  KeepA w0 o a n c fa fm fc W ∧ Blk W X 24 [.int .i64 o, V]
theorem KeepB.below {w0 : World} {o : Int} {a : Option Addr} {n c : Nat} {fa : Option Addr} {fm fc X : Nat} {V : Value} {W W' : World} (h : KeepB w0 o a n c fa fm fc X V W) (hb : Below W.heap.size W W') : KeepB w0 o a n c fa fm fc X V W' :=
  ⟨h.1.below hb, h.2.later hb⟩
theorem KeepA.grown {w0 : World} {o : Int} {a : Option Addr} {n c : Nat} {fa : Option Addr} {fm fc : Nat} {U : Value} {W W' : World} {base m e size : Nat} {xs : List Value} (h : KeepA w0 o a n c fa fm fc W) (hg : W.grownBy W' U.ownBlock) (ho : W.ownsRow base e size U m xs) (hb : w0.heap.size ≤ base) (he : e ≠ 24 ∧ e ≠ 31) : KeepA w0 o a n c fa fm fc W' :=
  ⟨h.1.grown hg h.1.size (fun q hq => by have := (World.ownsRow.lt ho q hq).1; omega), h.2.1.grown hg (h.2.1.not_own ho he.1), h.2.2.1.grown hg (h.2.2.1.not_own ho he.2), h.2.2.2.grown hg (h.2.2.2.not_own ho he.1)⟩
theorem KeepB.grown {w0 : World} {o : Int} {a : Option Addr} {n c : Nat} {fa : Option Addr} {fm fc X : Nat} {V U : Value} {W W' : World} {base m e size : Nat} {xs : List Value} (h : KeepB w0 o a n c fa fm fc X V W) (hg : W.grownBy W' U.ownBlock) (ho : W.ownsRow base e size U m xs) (hb : w0.heap.size ≤ base) (he : e ≠ 24 ∧ e ≠ 31) : KeepB w0 o a n c fa fm fc X V W' :=
  ⟨h.1.grown hg ho hb he, h.2.grown hg (h.2.not_own ho he.1)⟩
theorem grown_none {W W' : World} (hg : W.grownBy W' none) : Below W.heap.size W W' := (Below.refl W.heap.size W).grown hg (Nat.le_refl _) (fun k hk => by cases hk)
theorem KeepA.only {w0 : World} {o : Int} {a : Option Addr} {n c : Nat} {fa : Option Addr} {fm fc : Nat} {W W' : World} {V : Value} {rs : List R} (h : KeepA w0 o a n c fa fm fc W) (hO : OwnC W w0.heap.size V rs) (ho : Only (rs.map (·.2.2.1)) W W') : KeepA w0 o a n c fa fm fc W' :=
  ⟨h.1.trans (ho.below hO.gs_low h.1.size), blk_only h.2.1 ho (hO.not_in h.2.1 (by decide)), blk_only h.2.2.1 ho (hO.not_in h.2.2.1 (by decide)), blk_only h.2.2.2 ho (hO.not_in h.2.2.2 (by decide))⟩
theorem own_only {W W' : World} {b base e size n : Nat} {v V : Value} {xs : List Value} {rs : List R} (h : W.ownsRow base e size v n xs) (hO : OwnC W b V rs) (he : e ≠ 4) (ho : Only (rs.map (·.2.2.1)) W W') : W'.ownsRow base e size v n xs := by
  refine ⟨h.1, ?_⟩
  rcases h.2 with h1 | ⟨g, cap, cur, hv, hb, hg, h2⟩
  · exact .inl h1
  · refine .inr ⟨g, cap, cur, hv, hb, ?_, h2⟩
    rw [ho.block g (by have := World.ownsRow.lt h g (by rw [hv]; rfl); exact this.2) ?_]
    · exact hg
    · have hB : Blk W g e cur.toList := by unfold Blk; simpa using hg
      exact hO.not_in hB he
theorem Env.grown {w w' : World} {base X Y : Nat} {a : Option Addr} {m c : Nat} {F : List Int} {U : Value} {b e size k : Nat} {xs : List Value} (h : Env w base X Y a m c F) (hg : w.grownBy w' U.ownBlock) (ho : w.ownsRow b e size U k xs) (hb : base ≤ b) (he : e ≠ 31 ∧ e ≠ 58) : Env w' base X Y a m c F := by
  refine ⟨h.bx.grown hg (h.bx.not_own ho he.1), h.fy.grown hg (h.fy.not_own ho he.2), ?_, h.len, h.low, Nat.le_trans h.base hg.size⟩
  intro h0
  obtain ⟨b', off, rfl, hc⟩ := h.ints h0
  refine ⟨b', off, rfl, fun i hi => ?_⟩
  have hbl : Below base w w' := (Below.refl base w).grown hg h.base (fun q hq => by have := (World.ownsRow.lt ho q hq).1; omega)
  rw [hbl.cell (h.low h0 b' off rfl)]; exact hc i hi
theorem ints_src {w : World} {a : Option Addr} {u : List Int} {n c : Nat} (H : Ints w a u) (hn : u.length = n) (hz : a = none → n = 0 ∧ c = 0) : Grow.Src w 1 a n c (u.map (Value.int .i64)) := by
  refine ⟨by simp [hn], fun v hv => by obtain ⟨x, _, rfl⟩ := List.mem_map.1 hv; rfl, ?_⟩
  cases a with
  | none => exact .inl ⟨rfl, (hz rfl).1, (hz rfl).2⟩
  | some ad =>
    refine .inr ⟨ad, rfl, ?_⟩
    rcases Nat.eq_zero_or_pos u.length with h0 | h0
    · intro j v hj
      rw [List.eq_nil_of_length_eq_zero h0] at hj
      simp at hj
    · obtain ⟨b, off, ha, hcell⟩ := H h0
      cases ha
      intro j v hj
      rw [List.getElem?_map] at hj
      cases hu : u[j]? with
      | none => rw [hu] at hj; cases hj
      | some x =>
        rw [hu] at hj; cases hj
        have hlt : j < u.length := by rw [List.getElem?_eq_some_iff] at hu; exact hu.1
        rw [add_row, hcell j hlt, List.getD_eq_getElem?_getD, hu]; rfl
theorem alloc_ok {o : Int} {l L : List S} {n : Int} {F : List Int} (h : check o l = 0) (h1 : ¬ (n < 1 ∨ (F.length : Int) ≠ needL o l n)) (h2 : addF o F l = (0, L)) :
    allocP o l n F = (0, (tk o (fun f => F.contains f) (n.toNat - (tk o (fun f => !F.contains f) n.toNat L).2.length) (tk o (fun f => !F.contains f) n.toNat L).1).1,
    (tk o (fun f => !F.contains f) n.toNat L).2 ++ (tk o (fun f => F.contains f) (n.toNat - (tk o (fun f => !F.contains f) n.toNat L).2.length) (tk o (fun f => !F.contains f) n.toNat L).1).2) := by
  unfold allocP; rw [if_neg (by simp [h]), if_neg h1, h2, if_neg (by simp)]
theorem mul_small2 {x o : Int} (h1 : 0 ≤ x) (h2 : x ≤ 1000) (h3 : 0 ≤ o) (h4 : o ≤ 32) : 0 ≤ x * o ∧ x * o ≤ 32000 := by
  refine ⟨Int.mul_nonneg h1 h3, ?_⟩
  have a1 := Int.mul_le_mul_of_nonneg_right (show x ≤ 1000 by omega) h3
  omega
theorem good_small {o : Int} {L : List S} (h : Good o L) (h1 : 1 ≤ o) (h2 : o ≤ 32) : Small o L :=
  ⟨by omega, h2, by have := h.count; omega, h.fr, fun s hs => by have := h.len s hs; omega⟩
/-- What the operations of the last region keep. -/
def KeepF (w0 : World) (o : Int) (fa : Option Addr) (fm fc : Nat) (F : List Int) (X Y : Nat) (V : Value) (W : World) : Prop :=
  Below w0.heap.size w0 W ∧ Blk W X 24 [.int .i64 o, V] ∧ Env W w0.heap.size (w0.heap.size + 1) Y fa fm fc F
theorem KeepF.below {w0 : World} {o : Int} {fa : Option Addr} {fm fc : Nat} {F : List Int} {X Y : Nat} {V : Value} {W W' : World} (h : KeepF w0 o fa fm fc F X Y V W) (hb : Below W.heap.size W W') : KeepF w0 o fa fm fc F X Y V W' :=
  ⟨below_then h.1 hb, h.2.1.later hb, h.2.2.later hb⟩
theorem KeepF.only {w0 : World} {o : Int} {fa : Option Addr} {fm fc : Nat} {F : List Int} {X Y : Nat} {V U : Value} {W W' : World} {rs : List R} (h : KeepF w0 o fa fm fc F X Y V W) (hO : OwnC W w0.heap.size U rs) (ho : Only (rs.map (·.2.2.1)) W W') : KeepF w0 o fa fm fc F X Y V W' :=
  ⟨h.1.trans (ho.below hO.gs_low h.1.size), blk_only h.2.1 ho (hO.not_in h.2.1 (by decide)), h.2.2.only hO ho⟩
theorem KeepF.grown {w0 : World} {o : Int} {fa : Option Addr} {fm fc : Nat} {F : List Int} {X Y : Nat} {V U : Value} {W W' : World} {k : Nat} {xs : List Value} (h : KeepF w0 o fa fm fc F X Y V W) (hg : W.grownBy W' U.ownBlock) (ho : W.ownsRow w0.heap.size 3 1 U k xs) : KeepF w0 o fa fm fc F X Y V W' :=
  ⟨h.1.grown hg h.1.size (fun q hq => (World.ownsRow.lt ho q hq).1), h.2.1.grown hg (h.2.1.not_own ho (by decide)), h.2.2.grown hg ho (Nat.le_refl _) (by decide)⟩
theorem own_far {w : World} {base e size n g : Nat} {v : Value} {xs cs : List Value} {t : TypeId} (h : w.ownsRow base e size v n xs) (hg : Blk w g t cs) (h1 : e ≠ t) (i : Nat) (u : Value) : (w.setCell ⟨g, i, none⟩ u).ownsRow base e size v n xs :=
  h.kept (grown_set w g i u) (.inr (hg.not_own h h1))
theorem Env.far {w : World} {base X Y g : Nat} {a : Option Addr} {m c : Nat} {F : List Int} {t : TypeId} {cs : List Value} (h : Env w base X Y a m c F) (hg : Blk w g t cs) (i : Nat) (u : Value) (ht : t ≠ 31 ∧ t ≠ 58 := by decide) (hb : base ≤ g := by omega) : Env (w.setCell ⟨g, i, none⟩ u) base X Y a m c F := by
  refine ⟨h.bx.far (fun e => (h.bx.ne_type hg (Ne.symm ht.1)) e) _, h.fy.far (fun e => (h.fy.ne_type hg (Ne.symm ht.2)) e) _, ?_, h.len, h.low, Nat.le_trans h.base (grown_set w g i u).size⟩
  intro h0
  obtain ⟨b', off, rfl, hc⟩ := h.ints h0
  refine ⟨b', off, rfl, fun j hj => ?_⟩
  have hbl : Below base w (w.setCell ⟨g, i, none⟩ u) := (Below.refl base w).setCell hb _
  rw [hbl.cell (h.low h0 b' off rfl)]; exact hc j hj
set_option maxRecDepth 100000 in set_option maxHeartbeats 3200000 in
theorem alloc_19 (o : Int) (a : Option Addr) (l : List S) (n c : Nat) (N : Int) (fa : Option Addr) (F : List Int) (fm fc : Nat) (w : World) (H : Slabs w a l) (hn : l.length = n) (hm : n ≤ 1000000) (hN1 : -9223372036854775808 ≤ N) (hN2 : N ≤ 9223372036854775807) (HF : Ints w fa F) (hfm : F.length = fm) (hf1 : fm ≤ 1000) :
    Calls Try.prog 19 #[.agg #[.int .i64 o, .slice a n c], .int .i64 N, .slice fa fm fc] w (AllocAns w.heap.size o (allocP o l N F) w) := by
  have HN := Lib.hid hn; have HFM := Lib.hid hfm
  have hK0 := KeepA.start w o a n c fa fm fc
  obtain ⟨w1, hw1⟩ : ∃ W, W = (((w.alloc (.cells #[.int .i64 o, .slice a n c] 24)).alloc (.cells #[.slice fa fm fc] 31)).alloc (.cells #[.int .i64 0, .slice none 0 0] 24)) := ⟨_, rfl⟩
  rw [← hw1] at hK0
  have hck := Lib.hid (check_16 o a l n c w1 (H.below hK0.1) hn hm)
  obtain ⟨R, hR⟩ : ∃ R, check o l = R := ⟨_, rfl⟩
  rw [hR] at hck
  have HR := Lib.hid hR; have HW := Lib.hid hw1
  clear hn hfm hw1 hR
  go_enter Try.func19, Try.ntmps19
  go_wp2_with fail
  rw [← HW.out]
  obtain ⟨k0, k1, k2, k3, k4, k5, k6⟩ := hK0.cells
  have HK0 := Lib.hid hK0
  clear HW hK0
  go_wp2_with fail
  refine (hck.out).mono ?_
  rintro e w2 ⟨rfl, hb2⟩
  have hK2 := HK0.out.below hb2
  clear k0 k1 k2 k3 k4 k5 k6 HK0 hck hb2
  obtain ⟨k0, k1, k2, k3, k4, k5, k6⟩ := hK2.cells
  by_cases hR0 : R = 0
  · subst hR0
    have hok := check_ok.1 HR.out
    by_cases hN : N < 1
    · go_wp2_with fail
      refine wp_region_over (by kernel_rfl) (by kernel_rfl) ?_
      have q0 := fun u => over_cell k0 u
      repeat (go_big_quiet_step (fail))
      refine wpQuiet_nil ?_
      rintro _ ⟨u, rfl⟩
      have hK3 := hK2.below (below_over w2 u)
      clear k0 k1 k2 k3 k4 k5 k6 q0
      obtain ⟨k0, k1, k2, k3, k4, k5, k6⟩ := hK3.cells
      go_wp2
      have hB := (hK3.2.2.2.set 0 (.int .i64 0)).set 1 (.slice none 0 0)
      refine bodyPost_ret (results_cell_two rfl _ _ (w.heap.size + 1 + 1) (.int .i64 0) (.slice none 0 0) (.slice none 0 0) (.int .i64 1) rfl hB rfl rfl) rfl (ans_err (alloc_arg HR.out (.inl hN)) (by decide) rfl ?_)
      exact (hK3.1.setCell (by simp; omega) _).setCell (by simp; omega) _
    · have hnd := fun u => need_29 o a l n c N (over w2 u) (H.below (below_then hK2.1 (below_over w2 u))) HN.out hm hN1 hN2
      obtain ⟨ND, hND⟩ : ∃ v, needL o l N = v := ⟨_, rfl⟩
      rw [hND] at hnd
      obtain ⟨r, hr⟩ : ∃ r, ((fm : Int) == ND) = r := ⟨_, rfl⟩
      have HNE := Lib.hid hND; have HRR := Lib.hid hr
      have hN' : decide (N < 1) = false := by simpa using hN
      go_wp2_with fail
      refine wp_region_over (by kernel_rfl) (by kernel_rfl) ?_
      have q0 := fun u => over_cell k0 u
      have q1 := fun u => over_cell k1 u
      have q2 := fun u => over_cell k2 u
      repeat (go_big_quiet_step ((go_at_call 29; exact calls_over (hnd _))))
      refine wpQuiet_nil ?_
      rintro _ ⟨u, rfl⟩
      have hK3 := hK2.below (below_over w2 u)
      clear k0 k1 k2 k3 k4 k5 k6 q0 q1 q2 hnd
      obtain ⟨w3, hw3⟩ : ∃ W, W = over w2 u := ⟨_, rfl⟩
      rw [← hw3] at hK3 ⊢
      clear hw3 hK2
      obtain ⟨k0, k1, k2, k3, k4, k5, k6⟩ := hK3.cells
      cases r with
      | false =>
        have t2 : ((fm : Int) != ND) = true := by have := HRR.out; simpa using this
        go_wp2
        have hB := (hK3.2.2.2.set 0 (.int .i64 0)).set 1 (.slice none 0 0)
        refine bodyPost_ret (results_cell_two rfl _ _ (w.heap.size + 1 + 1) (.int .i64 0) (.slice none 0 0) (.slice none 0 0) (.int .i64 1) rfl hB rfl rfl) rfl (ans_err (alloc_arg HR.out (.inr (by have := HRR.out; rw [HFM.out, HNE.out]; simpa using this))) (by decide) rfl ?_)
        exact (hK3.1.setCell (by simp; omega) _).setCell (by simp; omega) _
      | true =>
        have t2 : ((fm : Int) != ND) = false := by have := HRR.out; simpa using this
        have HArg := Lib.hid (show ¬ (N < 1 ∨ (F.length : Int) ≠ needL o l N) by
          have := HRR.out
          rw [HFM.out, HNE.out]
          simp at this
          omega)
        have hcl := Lib.hid (clone_35 o a l n c w3 (H.below hK3.1) HN.out (by have := ok_count hok; have := HN.out; omega) (fun s hs => by
          have h1 := hok.len s hs; have h2 := hok.o1; have h3 := hok.o2
          omega))
        clear hr hND
        go_wp2_with fail
        refine (hcl.out).mono ?_
        rintro e w4 ⟨V, rs, rfl, hO, hrs, hb4⟩
        have hK4 := hK3.below hb4
        have hzw := hK3.1.size
        have hO := hO.weaken hzw
        obtain ⟨aV, cV, rfl, _, _, _, _⟩ := hO.slabs (n := n) (by have := congrArg List.length hrs; rw [List.length_map] at this; rw [this]; exact HN.out)
        clear k0 k1 k2 k3 k4 k5 k6 hcl hb4 hzw t2 hK3 hN'
        have hK5 := hK4.below (below_box w4 (.cells #[.int .i64 o, .slice aV n cV] 24))
        have hO5 := hO.alloc (.cells #[.int .i64 o, .slice aV n cV] 24)
        have hX5 := Blk.new w4 24 #[.int .i64 o, .slice aV n cV] [.int .i64 o, .slice aV n cV] rfl
        obtain ⟨w5, hw5⟩ : ∃ W, W = w4.alloc (.cells #[.int .i64 o, .slice aV n cV] 24) := ⟨_, rfl⟩
        rw [← hw5] at hK5 hO5 hX5
        have hX9 := Lib.hid (And.intro hK4.1.size hK4.2.2.2.lt)
        have h0 := Lib.hid (show Good o (rs.map sl) by rw [hrs]; exact ⟨hok.asc, hok.fr, hok.len⟩)
        have HRS := Lib.hid hrs
        have HW5 := Lib.hid hw5
        have k2 : (w4.alloc (.cells #[.int .i64 o, .slice aV n cV] 24)).cell? ⟨w.heap.size + 1, 0, none⟩ = some (.slice fa fm fc) := by rw [← hw5]; exact hK5.cells.2.2.1
        clear hw5 hO hK4 hrs
        go_wp2
        rw [← HW5.out]
        clear HW5
        have ho1 := hok.o1
        have ho2 := hok.o2
        obtain ⟨m, hmo⟩ : ∃ m : Nat, o = (m : Int) := ⟨o.toNat, by omega⟩
        have HMO := Lib.hid hmo
        clear hmo
        go_loopg [38] fm (fun g i0 wr => ∃ (i : Nat) (V : Value) (rs2 : List R), i + g = fm ∧ i0 = .int .i64 i ∧ KeepA w o a n c fa fm fc wr ∧ Blk wr w4.heap.size 24 [.int .i64 o, V] ∧ OwnC wr w.heap.size V rs2 ∧ Good o (rs2.map sl) ∧ addF o F l = addF o (F.drop i) (rs2.map sl))
        case atStart => exact ⟨0, _, rs, by omega, rfl, hK5, hX5, hO5, h0.out, by rw [HRS.out]; rfl⟩
        case round =>
          clear hK5 hX5 hO5 k2
          obtain ⟨i, V, rs2, hg, rfl, hK, hX, hO, hG, hA⟩ := hrel
          obtain ⟨aV, cV, rfl, _, _, _, _⟩ := hO.slabs rfl
          have HG := Lib.hid hG; have HA := Lib.hid hA; have HOw := Lib.hid hO
          clear hG hA
          obtain ⟨k0, k1, k2, k3, k4, k5, k6⟩ := hK.cells
          have x0 : wr.cell? ⟨w4.heap.size, 0, none⟩ = some (.int .i64 o) := hX.cell 0
          have x1 : wr.cell? ⟨w4.heap.size, 1, none⟩ = some (.slice aV rs2.length cV) := hX.cell 1
          cases gk with
          | zero =>
            obtain rfl : i = fm := by omega
            have HADD := Lib.hid (show addF o F l = (0, rs2.map sl) by rw [HA.out, List.drop_eq_nil_of_le (by rw [HFM.out]; exact Nat.le_refl _)]; rfl)
            obtain ⟨M, hM⟩ : ∃ M : Nat, (M : Int) = N := ⟨N.toNat, by omega⟩
            have HM := Lib.hid hM
            have hM6 := Lib.hid (show M ≤ 1000000 by
              have h1 := need_bounds hok (show 1 ≤ N by omega)
              have h2 := free_bound hok
              have h3 := HArg.out
              have h4 : needL o l N = (i : Int) := by rw [HFM.out] at h3; omega
              rw [h4] at h1
              have h5 := mul_small2 (x := (i : Int)) (o := o) (by omega) (by omega) (by omega) ho2
              omega)
            have hKs := hK.below (below_box wr (.cells #[.func (.func 38) #[] #[.pointer (some ⟨w.heap.size + 1, 0, none⟩)]] 58))
            have hXs := hX.alloc (.cells #[.func (.func 38) #[] #[.pointer (some ⟨w.heap.size + 1, 0, none⟩)]] 58)
            have hOs := hO.alloc (.cells #[.func (.func 38) #[] #[.pointer (some ⟨w.heap.size + 1, 0, none⟩)]] 58)
            have hYs := Blk.new wr 58 #[.func (.func 38) #[] #[.pointer (some ⟨w.heap.size + 1, 0, none⟩)]] [.func (.func 38) #[] #[.pointer (some ⟨w.heap.size + 1, 0, none⟩)]] rfl
            obtain ⟨ws, hws⟩ : ∃ W, W = wr.alloc (.cells #[.func (.func 38) #[] #[.pointer (some ⟨w.heap.size + 1, 0, none⟩)]] 58) := ⟨_, rfl⟩
            rw [← hws] at hKs hXs hOs hYs
            have hEs : Env ws w.heap.size (w.heap.size + 1) wr.heap.size fa i fc F := ⟨hKs.2.2.1, hYs, HF.below hKs.1, HFM.out, ints_low HF, hKs.1.size⟩
            have htk := take_41 w.heap.size (w.heap.size + 1) wr.heap.size fa i fc F o aV rs2.length cV rs2 M ws hEs (by omega) hOs rfl (good_small HG.out ho1 ho2) hM6.out
            rw [HM.out] at htk
            have HTK := Lib.hid htk; have HWS := Lib.hid hws
            clear hg htk hws hM hO hYs
            have y0 : (wr.alloc (.cells #[.func (.func 38) #[] #[.pointer (some ⟨w.heap.size + 1, 0, none⟩)]] 58)).cell? ⟨w4.heap.size, 0, none⟩ = some (.int .i64 o) := by rw [← HWS.out]; exact hXs.cell 0
            have y1 : (wr.alloc (.cells #[.func (.func 38) #[] #[.pointer (some ⟨w.heap.size + 1, 0, none⟩)]] 58)).cell? ⟨w4.heap.size, 1, none⟩ = some (.slice aV rs2.length cV) := by rw [← HWS.out]; exact hXs.cell 1
            go_wp2_with fail
            rw [← HWS.out]
            refine (HTK.out).mono ?_
            rintro e w6 ⟨v, rs3, rfl, hO3, hrs3, hgs3, hI3, hon3⟩
            have hK6 := hKs.only hOs hon3
            have hX6 := blk_only hXs hon3 (hOs.not_in hXs (by decide))
            have hE6 := hEs.only hOs hon3
            have hlen3 : rs3.length = rs2.length := by
              have := congrArg List.length hgs3
              rwa [List.length_map, List.length_map] at this
            obtain ⟨L1, hL1⟩ : ∃ L, (tk o (fun x => !F.contains x) M (rs2.map sl)).2 = L := ⟨_, rfl⟩
            obtain ⟨m1, hm1⟩ : ∃ k, L1.length = k := ⟨_, rfl⟩
            have hm1M : m1 ≤ M := by rw [← hm1, ← hL1, tk_two, List.length_take]; omega
            rw [hL1] at hI3
            have hI6 : w6.ownsRow w.heap.size 3 1 v m1 (L1.map (Value.int .i64)) := by
              have h := own_weaken hI3 hKs.1.size
              rw [hm1] at h
              exact h
            have hS3 : Small o (rs3.map sl) := by
              rw [hrs3]
              have hg := HG.out
              refine good_small ⟨asc_of_map hg.asc (tk_fst _ _ _ _).symm, fun s hs => ?_, tk_len _ hg.len⟩ ho1 ho2
              have h1 : s.1 ∈ (tk o (fun x => !F.contains x) M (rs2.map sl)).1.map (·.1) := List.mem_map.2 ⟨s, hs, rfl⟩
              rw [tk_fst] at h1
              obtain ⟨t, ht, hte⟩ := List.mem_map.1 h1
              have := hg.fr t ht
              rw [← hte]; exact this
            obtain ⟨a1, c1, rfl, _, _, _⟩ := own_form hI6
            have HL1 := Lib.hid hL1; have HM1 := Lib.hid hm1; have HRS3 := Lib.hid hrs3; have HS3 := Lib.hid hS3; have HLEN3 := Lib.hid hlen3
            have hB6 := hK6.2.2.2
            have hF6 : KeepF w o fa i fc F w4.heap.size wr.heap.size (.slice aV rs2.length cV) w6 := ⟨hK6.1, hX6, hE6⟩
            clear HTK HWS hKs hXs hOs hEs y0 y1 hK hX x0 x1 k0 k1 k2 k3 k4 k5 k6 hgs3 hon3 hI3 hL1 hm1 hrs3 hS3 hlen3 hK6 hX6 hE6 HOw
            go_wp2
            refine wp_region_in (KeepF w o fa i fc F w4.heap.size wr.heap.size (.slice aV rs2.length cV)) [(true, 8), (false, 1), (false, 1), (false, 1), (true, 2)] [0, 1, 2, 3, 4, 5, 6, 7, 8, 9, 10, 11, 12] 13 (by kernel_rfl) (by kernel_rfl) (KeepF.below hF6 (Below.refl _ _).drew) ?_
            intro W hW hWe
            have hOW : OwnC W w.heap.size (.slice aV rs2.length cV) rs3 := by rw [hWe]; exact hO3.later (Below.refl _ _).drew
            have hIW : W.ownsRow w.heap.size 3 1 (.slice a1 m1 c1) m1 (L1.map (Value.int .i64)) := by rw [hWe]; exact own_later hI6 (Below.refl _ _).drew
            have hBW : Blk W (w.heap.size + 1 + 1) 24 [.int .i64 0, .slice none 0 0] := by rw [hWe]; exact hB6.later (Below.refl _ _).drew
            clear hWe hO3 hI6 hB6 hF6
            simp only [wpSegsL, inOrder, List.filterMap_cons, List.filterMap_nil, List.getElem?_cons_zero, List.getElem?_cons_succ, List.take_succ_cons, List.take_zero, List.drop_succ_cons, List.drop_zero]
            have q0 := fun z => (hold_ok hW z).2.1.cell 0
            have q1 := fun z => (hold_ok hW z).2.1.cell 1
            have q2 := fun z => (hold_ok hW z).2.2.fy.cell 0
            simp only [List.getElem?_cons_zero, List.getElem?_cons_succ] at q0 q1 q2
            have hmM : (m1 : Int) ≤ N := by have := HM.out; omega
            repeat (go_big_quiet_step (fail))
            refine wpQuiet_nil ?_
            clear q0 q1 q2
            have hm2 : ((M - m1 : Nat) : Int) = N - (m1 : Int) := by have := HM.out; omega
            have ht2 := take_38 w.heap.size (w.heap.size + 1) wr.heap.size fa i fc F o aV rs2.length cV rs3 (M - m1) W hW.2.2 (by omega) hOW HLEN3.out HS3.out (by have := hM6.out; omega)
            rw [hm2] at ht2
            have HT2 := Lib.hid ht2
            clear ht2
            go_wp2_with fail
            refine (HT2.out).mono ?_
            rintro e w7 ⟨v2, rs4, rfl, hO4, hrs4, hgs4, hI4, hon4⟩
            have hF7 := hW.only hOW hon4
            have hI7 := own_only hIW hOW (by decide) hon4
            have hB7 := blk_only hBW hon4 (hOW.not_in hBW (by decide))
            obtain ⟨L2, hL2⟩ : ∃ L, (tk o (fun x => F.contains x) (M - m1) (rs3.map sl)).2 = L := ⟨_, rfl⟩
            obtain ⟨m2, hmm2⟩ : ∃ k, L2.length = k := ⟨_, rfl⟩
            have hm2M : m2 ≤ M - m1 := by rw [← hmm2, ← hL2, tk_two, List.length_take]; omega
            rw [hL2] at hI4
            obtain ⟨a2, c2, rfl, hnc2, _, hz2, hInt2⟩ := hI4.ints hmm2
            have hsrc2 := Lib.hid (ints_src (c := c2) hInt2 hmm2 (fun h => by have := hz2 h; omega))
            have HL2 := Lib.hid hL2; have HM2 := Lib.hid hmm2; have HRS4 := Lib.hid hrs4
            clear HT2 hW hOW hIW hBW hgs4 hon4 hI4 hInt2 hL2 hmm2 hrs4
            go_wp2
            refine ⟨hold_of hF7, ?_⟩
            refine wpList_append_k K31 rfl (.tmp 75) (.tmp 82) rfl _ m1 _ rfl hI7 a2 m2 c2 _ rfl hsrc2.out ?c1 ?c2 ?_
            case c1 => have := hM6.out; omega
            case c2 => exact hF7.1.size
            intro v8 w8 hown8 hg8 _
            have hF8 := hF7.grown hg8 hI7
            have hB8 := hB7.grown hg8 (hB7.not_own hI7 (by decide))
            have hO8 : OwnC w8 w.heap.size (.slice aV rs2.length cV) rs4 :=
              ⟨hO4.out.kept hg8 (inner_ne_outer hO4.out hI7 (by decide)), fun r hr => (hO4.inn r hr).kept hg8 (inner_ne_outer (hO4.inn r hr) hI7 (by decide)), hO4.nod⟩
            clear hF7 hI7 hB7 hO4 hg8
            refine wpList_nil ⟨hold_of hF8, ?_⟩
            simp only [Act.put, List.setIfInBounds_toArray, List.set_cons_succ, List.set_cons_zero]
            have d0 : w8.cell? ⟨w.heap.size + 1 + 1, 0, none⟩ = some (.int .i64 0) := hB8.cell 0
            have d1 : w8.cell? ⟨w.heap.size + 1 + 1, 1, none⟩ = some (.slice none 0 0) := hB8.cell 1
            have d2 := hB8.frozen 0
            have d3 := hB8.frozen 1
            go_wp2
            have hne1 : w4.heap.size ≠ w.heap.size + 1 + 1 := by have := hX9.out.2; omega
            have hlow9 : w.heap.size ≤ w.heap.size + 1 + 1 := by omega
            have hF9 : KeepF w o fa i fc F w4.heap.size wr.heap.size (.slice aV rs2.length cV) ((w8.setCell ⟨w.heap.size + 1 + 1, 0, none⟩ (.int .i64 o)).setCell ⟨w.heap.size + 1 + 1, 1, none⟩ (.slice aV rs2.length cV)) :=
              ⟨(hF8.1.setCell hlow9 _).setCell hlow9 _, (hF8.2.1.far hne1 _).far hne1 _, (hF8.2.2.far hB8 0 _).far (hB8.set 0 _) 1 _⟩
            refine ⟨hold_of hF9, ?_⟩
            dsimp only
            repeat (go_big_quiet_step (fail))
            refine wpQuiet_nil ?_
            refine NoPanic.normal ?_
            go_wp2
            have hB9 := (hB8.set 0 (.int .i64 o)).set 1 (.slice aV rs2.length cV)
            have hO9 := (hO8.far hB8 (by decide) (by decide) 0 (.int .i64 o)).far (hB8.set 0 (.int .i64 o)) (by decide) (by decide) 1 (.slice aV rs2.length cV)
            have hL9 := (own_far hown8 hB8 (by decide) 0 (.int .i64 o))
            have hL9 := own_far hL9 (hB8.set 0 (.int .i64 o)) (by decide) 1 (.slice aV rs2.length cV)
            refine bodyPost_ret (results_cell_two rfl _ _ (w.heap.size + 1 + 1) (.int .i64 o) (.slice aV rs2.length cV) v8 (.int .i64 0) rfl hB9 rfl rfl) rfl ?_
            have hMN : N.toNat = M := by have := HM.out; omega
            rw [alloc_ok HR.out HArg.out HADD.out, hMN, HL1.out, HM1.out, ← HRS3.out, HL2.out]
            refine ⟨_, rs4, v8, rfl, hO9, HRS4.out, ?_, hF9.1⟩
            unfold OwnI
            rw [List.map_append, List.length_append, HM1.out, HM2.out]
            exact hL9
          | succ g =>
            have hin : i < fm := by omega
            obtain ⟨b, off, rfl, hc⟩ := HF (by rw [HFM.out]; omega)
            have c0 := hc i (by rw [HFM.out]; exact hin)
            have c0 := cell_later hK.1 c0
            obtain ⟨f, hf⟩ : ∃ f, F.getD i 0 = f := ⟨_, rfl⟩
            rw [hf] at c0
            have hst := addF_step (o := o) (L := rs2.map sl) HFM.out hin
            rw [hf] at hst
            have HST := Lib.hid hst; have HGG := Lib.hid hg
            clear hc hst hf hg
            by_cases hf0 : f < 0
            · have HE := Lib.hid (show addF o F l = (2, []) by rw [HA.out, HST.out, if_pos (.inl hf0)])
              go_wp2
              have hB := (hK.2.2.2.set 0 (.int .i64 0)).set 1 (.slice none 0 0)
              refine bodyPost_ret (results_cell_two rfl _ _ (w.heap.size + 1 + 1) (.int .i64 0) (.slice none 0 0) (.slice none 0 0) (.int .i64 2) rfl hB rfl rfl) rfl (ans_err (alloc_add HR.out HArg.out (by decide) HE.out) (by decide) rfl ?_)
              exact (hK.1.setCell (by simp; omega) _).setCell (by simp; omega) _
            · by_cases hf1 : 256 ≤ f
              · have HE := Lib.hid (show addF o F l = (2, []) by rw [HA.out, HST.out, if_pos (.inr hf1)])
                go_wp2
                have hB := (hK.2.2.2.set 0 (.int .i64 0)).set 1 (.slice none 0 0)
                refine bodyPost_ret (results_cell_two rfl _ _ (w.heap.size + 1 + 1) (.int .i64 0) (.slice none 0 0) (.slice none 0 0) (.int .i64 2) rfl hB rfl rfl) rfl (ans_err (alloc_add HR.out HArg.out (by decide) HE.out) (by decide) rfl ?_)
                exact (hK.1.setCell (by simp; omega) _).setCell (by simp; omega) _
              · have hpl := Lib.hid (place_36 o aV (rs2.map sl) rs2.length cV f (-1) wr (by obtain ⟨a', c', h1, _, _, _, h2⟩ := HOw.out.slabs rfl; cases h1; exact h2) (by simp) (by have := HG.out.count; rw [List.length_map] at this; omega) HG.out.asc HG.out.fr (by omega) (by omega))
                obtain ⟨K, hk⟩ : ∃ K, below f (rs2.map sl) = K := ⟨_, rfl⟩
                obtain ⟨T, hT⟩ : ∃ T, hasF f (rs2.map sl) = T := ⟨_, rfl⟩
                rw [hk, hT] at hpl
                have HK := Lib.hid hk; have HT := Lib.hid hT
                clear hk hT
                go_wp2_with fail
                refine (hpl.out).mono ?_
                rintro e w6 ⟨rfl, hb6⟩
                have hK6 := hK.below hb6
                have hX6 := hX.later hb6
                have hO6 := hO.later hb6
                clear hK hX hO HOw k0 k1 k2 k3 k4 k5 k6 x0 x1 hpl hb6 c0
                obtain ⟨k0, k1, k2, k3, k4, k5, k6⟩ := hK6.cells
                have x0 : w6.cell? ⟨w4.heap.size, 0, none⟩ = some (.int .i64 o) := hX6.cell 0
                have x1 : w6.cell? ⟨w4.heap.size, 1, none⟩ = some (.slice aV rs2.length cV) := hX6.cell 1
                cases T with
                | true =>
                  have HE := Lib.hid (show addF o F l = (7, []) by rw [HA.out, HST.out, if_neg (by omega), if_pos HT.out])
                  go_wp2
                  have hB := (hK6.2.2.2.set 0 (.int .i64 0)).set 1 (.slice none 0 0)
                  refine bodyPost_ret (results_cell_two rfl _ _ (w.heap.size + 1 + 1) (.int .i64 0) (.slice none 0 0) (.slice none 0 0) (.int .i64 7) rfl hB rfl rfl) rfl (ans_err (alloc_add HR.out HArg.out (by decide) HE.out) (by decide) rfl ?_)
                  exact (hK6.1.setCell (by simp; omega) _).setCell (by simp; omega) _
                | false =>
                  go_wp2
                  refine wp_region_in (KeepB w o a n c (some ⟨b, off, none⟩) fm fc w4.heap.size (.slice aV rs2.length cV)) [(true, 6), (false, 1), (true, 1), (false, 1), (false, 1), (true, 1), (false, 1)] [0, 1, 2, 3, 4, 5, 6, 7, 8, 9, 10, 11] 11 (by kernel_rfl) (by kernel_rfl) (KeepB.below ⟨hK6, hX6⟩ (Below.refl _ _).drew) ?_
                  intro W hW hWe
                  have hOW : OwnC W w.heap.size (.slice aV rs2.length cV) rs2 := by rw [hWe]; exact hO6.later (Below.refl _ _).drew
                  clear hWe hO6 hK6 hX6 k0 k1 k2 k3 k4 k5 k6 x0 x1
                  simp only [wpSegsL, inOrder, List.filterMap_cons, List.filterMap_nil, List.getElem?_cons_zero, List.getElem?_cons_succ, List.take_succ_cons, List.take_zero, List.drop_succ_cons, List.drop_zero]
                  have q0 := fun z => (hold_ok hW z).1.2.1.cell 0
                  have q1 := fun z => (hold_ok hW z).2.cell 1
                  simp only [List.getElem?_cons_zero, List.getElem?_cons_succ] at q0 q1
                  repeat (go_big_quiet_step (fail))
                  refine wpQuiet_nil ?_
                  clear q0 q1
                  refine wpList_make_bools W rfl (.tmp 62) (.tmp 62) rfl .i64 .i64 o w.heap.size m rfl rfl HMO.out (by have := HMO.out; omega) hW.1.1.size ?_
                  intro w7 hin7 hg7
                  have hW7 := hW.below (grown_none hg7)
                  have hO7 := hOW.later (grown_none hg7)
                  have hsz7 := (World.ownsRow.lt hin7 _ rfl).2
                  have hrl : ∀ r ∈ rs2, r.2.2.1 ≠ W.heap.size := fun r hr => by have := (World.ownsRow.lt (hOW.inn r hr) r.2.2.1 rfl).2; omega
                  have hVX : (Value.slice aV rs2.length cV).ownBlock ≠ some w7.heap.size := fun h => by have := (World.ownsRow.lt hO7.out _ h).2; omega
                  clear hW hOW hg7
                  refine wpList_nil ⟨hold_of hW7, ?_⟩
                  simp only [Act.put, List.setIfInBounds_toArray, List.set_cons_succ, List.set_cons_zero]
                  repeat (go_big_quiet_step (fail))
                  refine wpQuiet_nil ?_
                  have hW8 := hW7.below (below_box w7 (.cells #[.int .i64 f, .slice (some ⟨W.heap.size, 0, none⟩) m m] 52))
                  have hO8 := hO7.alloc (.cells #[.int .i64 f, .slice (some ⟨W.heap.size, 0, none⟩) m m] 52)
                  have hin8 := own_later hin7 (below_box w7 (.cells #[.int .i64 f, .slice (some ⟨W.heap.size, 0, none⟩) m m] 52))
                  have hv8 := Blk.new w7 52 #[.int .i64 f, .slice (some ⟨W.heap.size, 0, none⟩) m m] [.int .i64 f, .slice (some ⟨W.heap.size, 0, none⟩) m m] rfl
                  have hkl : K ≤ rs2.length := by have := below_le (f := f) (l := rs2.map sl); rw [HK.out, List.length_map] at this; exact this
                  have hins := Lib.hid (insert_37 w.heap.size (.slice aV rs2.length cV) rs2.length K (cellsR rs2) (.int .i64 f) (.slice (some ⟨W.heap.size, 0, none⟩) m m) w7.heap.size _ hO8.out (cellsR_one rs2) hv8 rfl rfl hVX hkl (by have := HG.out.count; rw [List.length_map] at this; omega) hW8.1.1.size)
                  clear hO7 hW7 hin7 hv8 hVX
                  go_wp2
                  refine ⟨hold_of hW8, ?_⟩
                  go_wp2_with fail
                  refine (hins.out).mono ?_
                  rintro e w9 ⟨V9, rfl, hown9, hg9, _⟩
                  have hW9 := hW8.grown hg9 hO8.out (Nat.le_refl _) (by decide)
                  have hO9 := hO8.insert hin8 hkl hrl hg9 hown9
                  obtain ⟨a9, c9, rfl, _, _, _⟩ := own_form hown9
                  clear hW8 hO8 hin8 hins hown9 hg9
                  go_wp2
                  refine ⟨hold_of hW9, ?_⟩
                  dsimp only
                  repeat (go_big_quiet_step (fail))
                  refine wpQuiet_nil ?_
                  have hX9' := hW9.2
                  have d1 : w9.cell? ⟨w4.heap.size, 1, none⟩ = some (.slice aV rs2.length cV) := hX9'.cell 1
                  have d2 := hX9'.frozen 1
                  go_wp2
                  refine ⟨trivial, NoPanic.normal ?_⟩
                  go_wp2
                  go_roundg g
                  case rel =>
                    have hmap := ins_map (f := f) (rs := rs2) (g := W.heap.size) HG.out.asc HT.out HK.out.symm (show m = o.toNat by have := HMO.out; omega)
                    refine ⟨i + 1, _, _, by have := HGG.out; omega, by go_num, ⟨hW9.1.1.setCell (by exact hX9.out.1) _, hW9.1.2.1.far (by have := hX9.out.2; show w.heap.size ≠ w4.heap.size; omega) _, hW9.1.2.2.1.far (by have := hX9.out.2; show w.heap.size + 1 ≠ w4.heap.size; omega) _, hW9.1.2.2.2.far (by have := hX9.out.2; show w.heap.size + 1 + 1 ≠ w4.heap.size; omega) _⟩, hX9'.set 1 _, hO9.far hX9' (by decide) (by decide) 1 _, ?_, ?_⟩
                    · rw [hmap]; exact HG.out.ins (by omega) (by omega) (by omega) HT.out
                    · rw [HA.out, HST.out, if_neg (by omega), if_neg (by rw [HT.out]; simp), hmap]
                  case measure => omega
  · have t1 : (R == 0) = false := by simpa using hR0
    go_wp2
    have hB := (hK2.2.2.2.set 0 (.int .i64 0)).set 1 (.slice none 0 0)
    refine bodyPost_ret (results_cell_two rfl _ _ (w.heap.size + 1 + 1) (.int .i64 0) (.slice none 0 0) (.slice none 0 0) (.int .i64 R) rfl hB rfl rfl) rfl (ans_err (alloc_bad (by rw [HR.out]; exact hR0)) (by rw [HR.out]; exact hR0) (by rw [HR.out]) ?_)
    exact (hK2.1.setCell (by simp; omega) _).setCell (by simp; omega) _
end Go.Proofs.Ythhdiiboblaclaa
