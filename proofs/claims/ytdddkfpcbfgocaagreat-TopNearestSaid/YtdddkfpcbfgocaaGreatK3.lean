/- Walks: a block is put into a zone. Walks: the block of a frame; is a frame free? Walks: a new zone. Walks: a frame is given back to its zone. Walks: how many frames are free in a zone. A zone whose lower rows are a call's own. Walks: a block is taken out of a zone. Parts of blocks: a struct or an array is loaded from, or stored into, a place inside a block of memory. Walks: the zone of a set of frames. A set of numbers that a call has made: a map of numbers whose elements are all true. A processor's cache in memory; the set of its frames; its check. Rows that a call makes, and copies of numbers. Walks: the cache of a processor: its error, a new one, and a copy with another list. -/
import Derived.Laws.Rows
import Derived.Laws.Tables
import Derived.Maps.Own
import Derived.Laws.MakeOwn
import Derived.Test.YtdddkfpcbfgocaaGreatK2
import Derived.Test.YtdddkfpcbfgocaaGreatK0
namespace Go.Proofs.YtdddkfpcbfgocaaGreat
open Go.RowKit Go.Over Go.Zn Go.Can Go.Seg Go.Grow
theorem dele (base : Nat) (V : Value) (l : List Int) (i : Nat) (w : World) (H : Own w base V l) (hi : i < l.length) (hm : l.length ≤ 100000) :
    Calls Tryz.prog 148 #[V, .int .i64 i, .int .i64 ((i : Int) + 1)] w (RowAns w base V (l.eraseIdx i)) := by
  have := delete base V l.length i (nums l) w H nums_one hi hm
  rw [show ((i + 1 : Nat) : Int) = (i : Int) + 1 by omega] at this
  exact this.mono fun e w' h => Own.del hi h
theorem inse (base : Nat) (V : Value) (l : List Int) (x : Int) (vb : Nat) (w : World) (H : Own w base V l) (hv : Blk w vb 3 [.int .i64 x]) (hne : V.ownBlock ≠ some vb) (hm : l.length ≤ 100000) (hb : base ≤ w.heap.size) :
    Calls Tryz.prog 149 #[V, .int .i64 (pos l x), .slice (some ⟨vb, 0, none⟩) 1 1] w (RowAns w base V (ins l x)) := by
  have := insert base V l.length (pos l x) (nums l) (.int .i64 x) vb w H nums_one hv rfl hne pos_le hm hb
  exact this.mono fun e w' h => by
    have := Own.ins pos_le h
    exact this
/-- Blocks of other element types are as they were. -/
def Kn (g : Nat) (w w' : World) : Prop := ∀ g' t bs, g' ≠ g → t ≠ 3 → Blk w g' t bs → Blk w' g' t bs
theorem Kn.refl (g : Nat) (w : World) : Kn g w w := fun _ _ _ _ _ h => h
theorem Kn.trans {g : Nat} {w1 w2 w3 : World} (h : Kn g w1 w2) (h' : Kn g w2 w3) : Kn g w1 w3 := fun g' t bs h1 h2 h3 => h' g' t bs h1 h2 (h g' t bs h1 h2 h3)
theorem Kn.below {g : Nat} {w w' : World} (hb : Below w.heap.size w w') : Kn g w w' := fun _ _ _ _ _ h => h.later hb
theorem Kn.put {g B : Nat} {w w' : World} {v u : Value} {l : List Int} (ho : Own w B v l) (hg : w.grownBy w' v.ownBlock) (i : Nat) : Kn g w (w'.setCell ⟨g, i, none⟩ u) := fun _ _ _ h1 h2 h3 =>
  (h3.grown hg (h3.not_own ho (Ne.symm h2))).far (p := ⟨g, i, none⟩) h1 u
theorem vd_len {z : Z} (hr : Rng z) {fr : Nat → List Int} (h : Vd z.st z.ct fr) {k : Nat} (hk : k < 5) : (fr k).length ≤ 256 :=
  VZ.len (z := { z with fr := fr }) ⟨⟨hr.nd0, hr.nd1, hr.kd, hr.st0, hr.ct0, hr.ct1, hr.mn0, hr.mn1⟩, h⟩ hk
theorem rng_fr {z : Z} (hr : Rng z) (fr : Nat → List Int) : Rng { z with fr := fr } := ⟨hr.nd0, hr.nd1, hr.kd, hr.st0, hr.ct0, hr.ct1, hr.mn0, hr.mn1⟩
/-- What a put gives. -/
def PutAns (w0 : World) (g : Nat) (z : Z) (S : Int → Prop) (w : World) (e : Ending) (w' : World) : Prop :=
  e = .returned (.tuple #[]) ∧ (∃ cs' fr', ZP w0 g cs' { z with fr := fr' } w' ∧ Vd z.st z.ct fr' ∧ ∀ x, Cov (F fr') x ↔ S x) ∧ Kn g w w'
set_option maxRecDepth 100000 in set_option maxHeartbeats 3200000 in
theorem put (w0 : World) (g : Nat) (cs : List Value) (z : Z) (f : Int) (k : Nat) (w : World) (S : Int → Prop) (V : ZP w0 g cs z w) (hr : Rng z) (HP : Put z.st z.ct z.fr f k S) :
    Calls Tryz.prog 101 #[.pointer (some ⟨g, 0, none⟩), .int .i64 f, .int .i64 k] w (PutAns w0 g z S w) := by
  have HR := Lib.hid hr
  have V0 : ZP w0 g cs { z with fr := z.fr } w := V
  have hk4 := HP.r.1
  have HP0 := Lib.hid HP
  clear hr HP V
  go_enter Tryz.func101, Tryz.ntmps101
  go_wp2
  go_loopg [1, 2] (4 - k) (fun gg v1 v2 wr => ∃ (f : Int) (k : Nat) (fr : Nat → List Int) (cs : List Value), k + gg = 4 ∧ v1 = .int .i64 f ∧ v2 = .int .i64 k ∧ ZP w0 g cs { z with fr := fr } wr ∧ Put z.st z.ct fr f k S ∧ Kn g w wr)
  case atStart => exact ⟨f, k, z.fr, cs, by omega, rfl, rfl, V0, HP0.out, Kn.refl _ _⟩
  case round =>
    clear V0 HP0 hk4
    obtain ⟨f, k, fr, cs, hg, rfl, rfl, V3, hp, K3⟩ := hrel
    have HP3 := Lib.hid hp
    clear hp
    cases gk with
    | zero =>
      obtain ⟨k4, hk4⟩ : ∃ k4, k4 = k := ⟨_, rfl⟩
      have tk : decide ((k : Int) < 4) = false := by simp; omega
      have hk5 : k < 5 := by omega
      have HB3 := Lib.hid (HP3.out.done (fun h => by omega))
      clear hg hk4
      obtain ⟨v, hu, hO, dc, df⟩ := V3.at hk5
      have hasc := HP3.out.v.asc k hk5
      have hlen := vd_len HR.out HP3.out.v hk5
      simp only at hO
      obtain ⟨v1, v2⟩ := HB3.out
      obtain ⟨a', c', rfl, h1, h2, h3, hI⟩ := hO.sl
      obtain ⟨n, hn⟩ : ∃ n, (fr k).length = n := ⟨_, rfl⟩
      have hse := search a' (fr k) n c' f wr hI hn (by omega) hasc
      obtain ⟨i, hip⟩ : ∃ i, pos (fr k) f = i := ⟨_, rfl⟩
      obtain ⟨ct, hct⟩ : ∃ b, (fr k).contains f = b := ⟨_, rfl⟩
      rw [hip, hct] at hse
      have HSE := Lib.hid hse; have HIPO := Lib.hid hip; have HNN := Lib.hid hn
      have HOO := Lib.hid hO; have HU := Lib.hid hu
      rw [hn] at dc
      clear hse hip hct h1 h2 h3 hI hn hO hu hasc df
      go_wp2_with fail
      refine HSE.out.mono ?_
      rintro e w5 ⟨rfl, rfl⟩
      go_wp2_with fail
      refine wp_region_plan (fun _ => True) (.quiet [0, 1, 2, 3, 4, 5, 6, 8, 9, 12, 13] (.fork 7 (.only 10 (.only 11 (.quiet [14] (.only 15 .done)))) 10 (.only 7 (.only 11 (.quiet [14] (.only 15 .done)))))) 99 (by kernel_rfl) (by kernel_rfl) trivial ?_
      intro U _ hWe
      have bW : Below wr.heap.size wr U := by rw [hWe]; exact (Below.refl _ _).drew
      have V4 := V3.below bW
      have K4 := K3.trans (Kn.below bW)
      have hO4 := HOO.out.later bW
      have dc4 := cell_later bW dc
      clear hWe V3 dc bW HOO
      simp only [wpPlan, inOrder, List.filterMap_cons, List.filterMap_nil, List.getElem?_cons_zero, List.getElem?_cons_succ]
      show wpQuiet _ _ _ _ (_ :: _ :: _ :: _ :: _ :: _ :: _ :: _ :: _ :: _ :: [_]) _
      repeat (go_big_quiet_step (fail))
      refine wpQuiet_nil ?_
      have bN := below_box U (.cells #[.int .i64 f] 3)
      have hB := Blk.new U 3 #[.int .i64 f] [.int .i64 f] rfl
      have V5 := V4.below bN
      have K5 := K4.trans (Kn.below bN)
      have hO5 := hO4.later bN
      have hne : (Value.slice a' (fr k).length c').ownBlock ≠ some U.heap.size := fun h => by have := (World.ownsRow.lt hO4 _ h).2; omega
      have hin := inse w0.heap.size (.slice a' (fr k).length c') (fr k) f U.heap.size _ hO5 hB hne (by omega) V5.b.size
      rw [HIPO.out, HNN.out] at hin
      have HIN := Lib.hid hin
      have dc5 := cell_later bN dc4
      have HV5 := Lib.hid V5; have HK5 := Lib.hid K5; have HO5 := Lib.hid hO5; have HB5 := Lib.hid bN
      clear hin hne hB V5 K5 hO5 bN V4 K4 hO4
      refine ⟨?_, ?_⟩
      · show wpList _ _ _ [_] _ _
        go_wp2
        refine ⟨hold_of (S0 := fun _ => True) trivial, ?_⟩
        show wpList _ _ _ [_] _ _
        go_wp2
        refine ⟨hold_of (S0 := fun _ => True) trivial, ?_⟩
        have V5 := HV5.out; have K5 := HK5.out; have hO5 := HO5.out; have hin := HIN.out
        clear HV5 HK5 HO5 HIN HB5 dc4
        obtain ⟨w6, hw6⟩ : ∃ W, W = U.alloc (.cells #[.int .i64 f] 3) := ⟨_, rfl⟩
        obtain ⟨vb, hvb⟩ : ∃ g, U.heap.size = g := ⟨_, rfl⟩
        rw [← hw6] at V5 K5 hO5 hin dc5 ⊢
        rw [hvb] at hin ⊢
        have HIN := Lib.hid hin
        clear hw6 hvb hin
        show wpList _ _ _ [_] _ _
        go_wp2_with fail
        refine HIN.out.mono ?_
        rintro e w7 ⟨v', rfl, hO7, hg7, hn7⟩
        have hu := HU.out
        rw [← HNN.out] at hg7 hn7
        have V7 := V5.put hk5 hu hg7 hO7 hn7
        have K7 := K5.trans (Kn.put hO5 hg7 (5 + k) (u := v'))
        have hx7 := V5.x.grown hg7 (V5.x.not_own hO5 (by decide))
        have df7 := hx7.frozen (5 + k)
        have dc7 : w7.cell? ⟨g, 5 + k, none⟩ = some (.slice a' n c') := by rw [hx7.cell, ← V5.x.cell]; exact dc5
        obtain ⟨a'', c'', rfl, _⟩ := own_form hO7
        clear V5 K5 hO5 dc5 hO7 hg7 hn7 hx7 hu HU
        go_wp2
        refine ⟨hold_of (S0 := fun _ => True) trivial, ?_⟩
        show wpQuiet _ _ _ _ ([_]) _
        repeat (go_big_quiet_step (fail))
        refine wpQuiet_nil ?_
        show wpList _ _ _ [_] _ _
        go_wp2
        refine ⟨hold_of (S0 := fun _ => True) trivial, NoPanic.normal ?_⟩
        go_wp2
        exact bodyPost_end (results_none rfl _ _ _) rfl ⟨rfl, ⟨_, _, V7, v1, v2⟩, K7⟩
      · show wpList _ _ _ [_] _ _
        go_wp2
        refine ⟨hold_of (S0 := fun _ => True) trivial, ?_⟩
        show wpList _ _ _ [_] _ _
        go_wp2
        refine ⟨hold_of (S0 := fun _ => True) trivial, ?_⟩
        have V5 := HV5.out; have K5 := HK5.out; have hO5 := HO5.out; have hin := HIN.out
        clear HV5 HK5 HO5 HIN HB5 dc4
        obtain ⟨w6, hw6⟩ : ∃ W, W = U.alloc (.cells #[.int .i64 f] 3) := ⟨_, rfl⟩
        obtain ⟨vb, hvb⟩ : ∃ g, U.heap.size = g := ⟨_, rfl⟩
        rw [← hw6] at V5 K5 hO5 hin dc5 ⊢
        rw [hvb] at hin ⊢
        have HIN := Lib.hid hin
        clear hw6 hvb hin
        show wpList _ _ _ [_] _ _
        go_wp2_with fail
        refine HIN.out.mono ?_
        rintro e w7 ⟨v', rfl, hO7, hg7, hn7⟩
        have hu := HU.out
        rw [← HNN.out] at hg7 hn7
        have V7 := V5.put hk5 hu hg7 hO7 hn7
        have K7 := K5.trans (Kn.put hO5 hg7 (5 + k) (u := v'))
        have hx7 := V5.x.grown hg7 (V5.x.not_own hO5 (by decide))
        have df7 := hx7.frozen (5 + k)
        have dc7 : w7.cell? ⟨g, 5 + k, none⟩ = some (.slice a' n c') := by rw [hx7.cell, ← V5.x.cell]; exact dc5
        obtain ⟨a'', c'', rfl, _⟩ := own_form hO7
        clear V5 K5 hO5 dc5 hO7 hg7 hn7 hx7 hu HU
        go_wp2
        refine ⟨hold_of (S0 := fun _ => True) trivial, ?_⟩
        show wpQuiet _ _ _ _ ([_]) _
        repeat (go_big_quiet_step (fail))
        refine wpQuiet_nil ?_
        show wpList _ _ _ [_] _ _
        go_wp2
        refine ⟨hold_of (S0 := fun _ => True) trivial, NoPanic.normal ?_⟩
        go_wp2
        exact bodyPost_end (results_none rfl _ _ _) rfl ⟨rfl, ⟨_, _, V7, v1, v2⟩, K7⟩
    | succ gg =>
      have hk4 : k < 4 := by omega
      have hk5 : k < 5 := by omega
      have tk : decide ((k : Int) < 4) = true := by simp; omega
      have HG := Lib.hid hg
      clear hg
      obtain ⟨_, p1, p2, hal⟩ := HP3.out.r
      have r4 := HR.out.st0
      have r6 := HR.out.ct1
      have hpp := pw_pos k
      obtain ⟨m, hm⟩ : ∃ m, 2 ^ k = m := ⟨_, rfl⟩
      have hwm : ∀ j : Nat, j = k → wrap64 ((2 : Int) ^ j) = (m : Int) := fun j hj => by subst hj; rw [← hm]; exact wrap_pow hk5
      have HM := Lib.hid hm
      have hf256 : f < 256 := by omega
      have hf0 : 0 ≤ f := by omega
      have hxor : bits BinOp.xor IntKind.i64 f (m : Int) = bud k f := by rw [← hm]; exact xor_bud hk4 hf0 hf256 hal
      have hcase := bud_spec hal hk4
      obtain ⟨bd, hbd⟩ : ∃ b, bud k f = b := ⟨_, rfl⟩
      obtain ⟨pr, hpr⟩ : ∃ p, par f k = p := ⟨_, rfl⟩
      rw [hbd] at hxor
      have hmn : (f < bd ∧ pr = f) ∨ (bd < f ∧ pr = bd) := by
        rcases hcase with ⟨_, c2, c3⟩ | ⟨_, c2, c3⟩
        · left; omega
        · right; omega
      have HBD := Lib.hid hbd; have HPR := Lib.hid hpr; have HMN := Lib.hid hmn
      clear hm hcase hbd hpr hmn p1 p2 hal hpp r4 r6
      obtain ⟨v, hu, hO, dc, df⟩ := V3.at hk5
      have hasc := HP3.out.v.asc k hk5
      have hlen := vd_len HR.out HP3.out.v hk5
      simp only at hO
      obtain ⟨a', c', rfl, h1, h2, h3, hI⟩ := hO.sl
      obtain ⟨n, hn⟩ : ∃ n, (fr k).length = n := ⟨_, rfl⟩
      have hse := search a' (fr k) n c' bd wr hI hn (by omega) hasc
      obtain ⟨i, hip⟩ : ∃ i, pos (fr k) bd = i := ⟨_, rfl⟩
      obtain ⟨ct, hct⟩ : ∃ b, (fr k).contains bd = b := ⟨_, rfl⟩
      rw [hip, hct] at hse
      have HSE := Lib.hid hse; have HIPO := Lib.hid hip; have HCT := Lib.hid hct; have HNN := Lib.hid hn
      rw [hn] at dc
      clear hse hip hct h1 h2 h3 hI hn hO hu hasc df hlen
      go_wp2_with fail
      refine HSE.out.mono ?_
      rintro e w5 ⟨rfl, rfl⟩
      cases ct with
      | false =>
        have HB3 := Lib.hid (HP3.out.done (fun _ _ => by rw [HBD.out]; have := HCT.out; simpa using this))
        clear dc hxor hwm HSE HIPO HCT HNN HMN
        obtain ⟨v, hu, hO, dc, df⟩ := V3.at hk5
        have hasc := HP3.out.v.asc k hk5
        have hlen := vd_len HR.out HP3.out.v hk5
        simp only at hO
        obtain ⟨v1, v2⟩ := HB3.out
        obtain ⟨a', c', rfl, h1, h2, h3, hI⟩ := hO.sl
        obtain ⟨n, hn⟩ : ∃ n, (fr k).length = n := ⟨_, rfl⟩
        have hse := search a' (fr k) n c' f wr hI hn (by omega) hasc
        obtain ⟨i, hip⟩ : ∃ i, pos (fr k) f = i := ⟨_, rfl⟩
        obtain ⟨ct, hct⟩ : ∃ b, (fr k).contains f = b := ⟨_, rfl⟩
        rw [hip, hct] at hse
        have HSE := Lib.hid hse; have HIPO := Lib.hid hip; have HNN := Lib.hid hn
        have HOO := Lib.hid hO; have HU := Lib.hid hu
        rw [hn] at dc
        clear hse hip hct h1 h2 h3 hI hn hO hu hasc df
        go_wp2_with fail
        refine HSE.out.mono ?_
        rintro e w5 ⟨rfl, rfl⟩
        go_wp2_with fail
        refine wp_region_plan (fun _ => True) (.quiet [0, 1, 2, 3, 4, 5, 6, 8, 9, 12, 13] (.fork 7 (.only 10 (.only 11 (.quiet [14] (.only 15 .done)))) 10 (.only 7 (.only 11 (.quiet [14] (.only 15 .done)))))) 99 (by kernel_rfl) (by kernel_rfl) trivial ?_
        intro U _ hWe
        have bW : Below wr.heap.size wr U := by rw [hWe]; exact (Below.refl _ _).drew
        have V4 := V3.below bW
        have K4 := K3.trans (Kn.below bW)
        have hO4 := HOO.out.later bW
        have dc4 := cell_later bW dc
        clear hWe V3 dc bW HOO
        simp only [wpPlan, inOrder, List.filterMap_cons, List.filterMap_nil, List.getElem?_cons_zero, List.getElem?_cons_succ]
        show wpQuiet _ _ _ _ (_ :: _ :: _ :: _ :: _ :: _ :: _ :: _ :: _ :: _ :: [_]) _
        repeat (go_big_quiet_step (fail))
        refine wpQuiet_nil ?_
        have bN := below_box U (.cells #[.int .i64 f] 3)
        have hB := Blk.new U 3 #[.int .i64 f] [.int .i64 f] rfl
        have V5 := V4.below bN
        have K5 := K4.trans (Kn.below bN)
        have hO5 := hO4.later bN
        have hne : (Value.slice a' (fr k).length c').ownBlock ≠ some U.heap.size := fun h => by have := (World.ownsRow.lt hO4 _ h).2; omega
        have hin := inse w0.heap.size (.slice a' (fr k).length c') (fr k) f U.heap.size _ hO5 hB hne (by omega) V5.b.size
        rw [HIPO.out, HNN.out] at hin
        have HIN := Lib.hid hin
        have dc5 := cell_later bN dc4
        have HV5 := Lib.hid V5; have HK5 := Lib.hid K5; have HO5 := Lib.hid hO5; have HB5 := Lib.hid bN
        clear hin hne hB V5 K5 hO5 bN V4 K4 hO4
        refine ⟨?_, ?_⟩
        · show wpList _ _ _ [_] _ _
          go_wp2
          refine ⟨hold_of (S0 := fun _ => True) trivial, ?_⟩
          show wpList _ _ _ [_] _ _
          go_wp2
          refine ⟨hold_of (S0 := fun _ => True) trivial, ?_⟩
          have V5 := HV5.out; have K5 := HK5.out; have hO5 := HO5.out; have hin := HIN.out
          clear HV5 HK5 HO5 HIN HB5 dc4
          obtain ⟨w6, hw6⟩ : ∃ W, W = U.alloc (.cells #[.int .i64 f] 3) := ⟨_, rfl⟩
          obtain ⟨vb, hvb⟩ : ∃ g, U.heap.size = g := ⟨_, rfl⟩
          rw [← hw6] at V5 K5 hO5 hin dc5 ⊢
          rw [hvb] at hin ⊢
          have HIN := Lib.hid hin
          clear hw6 hvb hin
          show wpList _ _ _ [_] _ _
          go_wp2_with fail
          refine HIN.out.mono ?_
          rintro e w7 ⟨v', rfl, hO7, hg7, hn7⟩
          have hu := HU.out
          rw [← HNN.out] at hg7 hn7
          have V7 := V5.put hk5 hu hg7 hO7 hn7
          have K7 := K5.trans (Kn.put hO5 hg7 (5 + k) (u := v'))
          have hx7 := V5.x.grown hg7 (V5.x.not_own hO5 (by decide))
          have df7 := hx7.frozen (5 + k)
          have dc7 : w7.cell? ⟨g, 5 + k, none⟩ = some (.slice a' n c') := by rw [hx7.cell, ← V5.x.cell]; exact dc5
          obtain ⟨a'', c'', rfl, _⟩ := own_form hO7
          clear V5 K5 hO5 dc5 hO7 hg7 hn7 hx7 hu HU
          go_wp2
          refine ⟨hold_of (S0 := fun _ => True) trivial, ?_⟩
          show wpQuiet _ _ _ _ ([_]) _
          repeat (go_big_quiet_step (fail))
          refine wpQuiet_nil ?_
          show wpList _ _ _ [_] _ _
          go_wp2
          refine ⟨hold_of (S0 := fun _ => True) trivial, NoPanic.normal ?_⟩
          go_wp2
          exact bodyPost_end (results_none rfl _ _ _) rfl ⟨rfl, ⟨_, _, V7, v1, v2⟩, K7⟩
        · show wpList _ _ _ [_] _ _
          go_wp2
          refine ⟨hold_of (S0 := fun _ => True) trivial, ?_⟩
          show wpList _ _ _ [_] _ _
          go_wp2
          refine ⟨hold_of (S0 := fun _ => True) trivial, ?_⟩
          have V5 := HV5.out; have K5 := HK5.out; have hO5 := HO5.out; have hin := HIN.out
          clear HV5 HK5 HO5 HIN HB5 dc4
          obtain ⟨w6, hw6⟩ : ∃ W, W = U.alloc (.cells #[.int .i64 f] 3) := ⟨_, rfl⟩
          obtain ⟨vb, hvb⟩ : ∃ g, U.heap.size = g := ⟨_, rfl⟩
          rw [← hw6] at V5 K5 hO5 hin dc5 ⊢
          rw [hvb] at hin ⊢
          have HIN := Lib.hid hin
          clear hw6 hvb hin
          show wpList _ _ _ [_] _ _
          go_wp2_with fail
          refine HIN.out.mono ?_
          rintro e w7 ⟨v', rfl, hO7, hg7, hn7⟩
          have hu := HU.out
          rw [← HNN.out] at hg7 hn7
          have V7 := V5.put hk5 hu hg7 hO7 hn7
          have K7 := K5.trans (Kn.put hO5 hg7 (5 + k) (u := v'))
          have hx7 := V5.x.grown hg7 (V5.x.not_own hO5 (by decide))
          have df7 := hx7.frozen (5 + k)
          have dc7 : w7.cell? ⟨g, 5 + k, none⟩ = some (.slice a' n c') := by rw [hx7.cell, ← V5.x.cell]; exact dc5
          obtain ⟨a'', c'', rfl, _⟩ := own_form hO7
          clear V5 K5 hO5 dc5 hO7 hg7 hn7 hx7 hu HU
          go_wp2
          refine ⟨hold_of (S0 := fun _ => True) trivial, ?_⟩
          show wpQuiet _ _ _ _ ([_]) _
          repeat (go_big_quiet_step (fail))
          refine wpQuiet_nil ?_
          show wpList _ _ _ [_] _ _
          go_wp2
          refine ⟨hold_of (S0 := fun _ => True) trivial, NoPanic.normal ?_⟩
          go_wp2
          exact bodyPost_end (results_none rfl _ _ _) rfl ⟨rfl, ⟨_, _, V7, v1, v2⟩, K7⟩
      | true =>
        have hmn := HMN.out
        clear HMN HSE
        rcases hmn with ⟨hlt, hpe⟩ | ⟨hlt, hpe⟩
        · obtain ⟨b, hb⟩ : ∃ b, insB z.st z.ct pr (k + 1) = b := ⟨_, rfl⟩
          have K : insB z.st z.ct f (k + 1) = b := by rw [← hpe]; exact hb
          have C := inside (.agg cs.toArray) { z with fr := fr } f (k + 1) (by omega) wr V3.rz (rng_fr HR.out fr)
          simp only at C
          rw [K, show ((k + 1 : Nat) : Int) = (k : Int) + 1 from by omega] at C
          have HC := Lib.hid C; have HPE := Lib.hid hpe; have HBB := Lib.hid hb
          clear C K hpe hb
          go_wp2_with ((with_reducible refine ldg ?_ ?_ V3.x V3.v.len ?_); (focus rfl); (focus rfl))
          refine HC.out.mono ?_
          rintro e w9 ⟨rfl, b9⟩
          have V4 := V3.below b9
          have K4 := K3.trans (Kn.below b9)
          clear V3 K3 dc b9 HC hxor hwm
          cases b with
          | false =>
            have HB3 := Lib.hid (HP3.out.done (fun _ hr2 => by
              rw [HPR.out] at hr2
              have := insB_of hr2
              rw [HBB.out] at this; cases this))
            have V3 := V4; have K3 := K4
            clear V4 K4 HIPO HCT HNN HBB HPE hlt
            obtain ⟨v, hu, hO, dc, df⟩ := V3.at hk5
            have hasc := HP3.out.v.asc k hk5
            have hlen := vd_len HR.out HP3.out.v hk5
            simp only at hO
            obtain ⟨v1, v2⟩ := HB3.out
            obtain ⟨a', c', rfl, h1, h2, h3, hI⟩ := hO.sl
            obtain ⟨n, hn⟩ : ∃ n, (fr k).length = n := ⟨_, rfl⟩
            have hse := search a' (fr k) n c' f w9 hI hn (by omega) hasc
            obtain ⟨i, hip⟩ : ∃ i, pos (fr k) f = i := ⟨_, rfl⟩
            obtain ⟨ct, hct⟩ : ∃ b, (fr k).contains f = b := ⟨_, rfl⟩
            rw [hip, hct] at hse
            have HSE := Lib.hid hse; have HIPO := Lib.hid hip; have HNN := Lib.hid hn
            have HOO := Lib.hid hO; have HU := Lib.hid hu
            rw [hn] at dc
            clear hse hip hct h1 h2 h3 hI hn hO hu hasc df
            go_wp2_with fail
            refine HSE.out.mono ?_
            rintro e w5 ⟨rfl, rfl⟩
            go_wp2_with fail
            refine wp_region_plan (fun _ => True) (.quiet [0, 1, 2, 3, 4, 5, 6, 8, 9, 12, 13] (.fork 7 (.only 10 (.only 11 (.quiet [14] (.only 15 .done)))) 10 (.only 7 (.only 11 (.quiet [14] (.only 15 .done)))))) 99 (by kernel_rfl) (by kernel_rfl) trivial ?_
            intro U _ hWe
            have bW : Below w9.heap.size w9 U := by rw [hWe]; exact (Below.refl _ _).drew
            have V4 := V3.below bW
            have K4 := K3.trans (Kn.below bW)
            have hO4 := HOO.out.later bW
            have dc4 := cell_later bW dc
            clear hWe V3 dc bW HOO
            simp only [wpPlan, inOrder, List.filterMap_cons, List.filterMap_nil, List.getElem?_cons_zero, List.getElem?_cons_succ]
            show wpQuiet _ _ _ _ (_ :: _ :: _ :: _ :: _ :: _ :: _ :: _ :: _ :: _ :: [_]) _
            repeat (go_big_quiet_step (fail))
            refine wpQuiet_nil ?_
            have bN := below_box U (.cells #[.int .i64 f] 3)
            have hB := Blk.new U 3 #[.int .i64 f] [.int .i64 f] rfl
            have V5 := V4.below bN
            have K5 := K4.trans (Kn.below bN)
            have hO5 := hO4.later bN
            have hne : (Value.slice a' (fr k).length c').ownBlock ≠ some U.heap.size := fun h => by have := (World.ownsRow.lt hO4 _ h).2; omega
            have hin := inse w0.heap.size (.slice a' (fr k).length c') (fr k) f U.heap.size _ hO5 hB hne (by omega) V5.b.size
            rw [HIPO.out, HNN.out] at hin
            have HIN := Lib.hid hin
            have dc5 := cell_later bN dc4
            have HV5 := Lib.hid V5; have HK5 := Lib.hid K5; have HO5 := Lib.hid hO5; have HB5 := Lib.hid bN
            clear hin hne hB V5 K5 hO5 bN V4 K4 hO4
            refine ⟨?_, ?_⟩
            · show wpList _ _ _ [_] _ _
              go_wp2
              refine ⟨hold_of (S0 := fun _ => True) trivial, ?_⟩
              show wpList _ _ _ [_] _ _
              go_wp2
              refine ⟨hold_of (S0 := fun _ => True) trivial, ?_⟩
              have V5 := HV5.out; have K5 := HK5.out; have hO5 := HO5.out; have hin := HIN.out
              clear HV5 HK5 HO5 HIN HB5 dc4
              obtain ⟨w6, hw6⟩ : ∃ W, W = U.alloc (.cells #[.int .i64 f] 3) := ⟨_, rfl⟩
              obtain ⟨vb, hvb⟩ : ∃ g, U.heap.size = g := ⟨_, rfl⟩
              rw [← hw6] at V5 K5 hO5 hin dc5 ⊢
              rw [hvb] at hin ⊢
              have HIN := Lib.hid hin
              clear hw6 hvb hin
              show wpList _ _ _ [_] _ _
              go_wp2_with fail
              refine HIN.out.mono ?_
              rintro e w7 ⟨v', rfl, hO7, hg7, hn7⟩
              have hu := HU.out
              rw [← HNN.out] at hg7 hn7
              have V7 := V5.put hk5 hu hg7 hO7 hn7
              have K7 := K5.trans (Kn.put hO5 hg7 (5 + k) (u := v'))
              have hx7 := V5.x.grown hg7 (V5.x.not_own hO5 (by decide))
              have df7 := hx7.frozen (5 + k)
              have dc7 : w7.cell? ⟨g, 5 + k, none⟩ = some (.slice a' n c') := by rw [hx7.cell, ← V5.x.cell]; exact dc5
              obtain ⟨a'', c'', rfl, _⟩ := own_form hO7
              clear V5 K5 hO5 dc5 hO7 hg7 hn7 hx7 hu HU
              go_wp2
              refine ⟨hold_of (S0 := fun _ => True) trivial, ?_⟩
              show wpQuiet _ _ _ _ ([_]) _
              repeat (go_big_quiet_step (fail))
              refine wpQuiet_nil ?_
              show wpList _ _ _ [_] _ _
              go_wp2
              refine ⟨hold_of (S0 := fun _ => True) trivial, NoPanic.normal ?_⟩
              go_wp2
              exact bodyPost_end (results_none rfl _ _ _) rfl ⟨rfl, ⟨_, _, V7, v1, v2⟩, K7⟩
            · show wpList _ _ _ [_] _ _
              go_wp2
              refine ⟨hold_of (S0 := fun _ => True) trivial, ?_⟩
              show wpList _ _ _ [_] _ _
              go_wp2
              refine ⟨hold_of (S0 := fun _ => True) trivial, ?_⟩
              have V5 := HV5.out; have K5 := HK5.out; have hO5 := HO5.out; have hin := HIN.out
              clear HV5 HK5 HO5 HIN HB5 dc4
              obtain ⟨w6, hw6⟩ : ∃ W, W = U.alloc (.cells #[.int .i64 f] 3) := ⟨_, rfl⟩
              obtain ⟨vb, hvb⟩ : ∃ g, U.heap.size = g := ⟨_, rfl⟩
              rw [← hw6] at V5 K5 hO5 hin dc5 ⊢
              rw [hvb] at hin ⊢
              have HIN := Lib.hid hin
              clear hw6 hvb hin
              show wpList _ _ _ [_] _ _
              go_wp2_with fail
              refine HIN.out.mono ?_
              rintro e w7 ⟨v', rfl, hO7, hg7, hn7⟩
              have hu := HU.out
              rw [← HNN.out] at hg7 hn7
              have V7 := V5.put hk5 hu hg7 hO7 hn7
              have K7 := K5.trans (Kn.put hO5 hg7 (5 + k) (u := v'))
              have hx7 := V5.x.grown hg7 (V5.x.not_own hO5 (by decide))
              have df7 := hx7.frozen (5 + k)
              have dc7 : w7.cell? ⟨g, 5 + k, none⟩ = some (.slice a' n c') := by rw [hx7.cell, ← V5.x.cell]; exact dc5
              obtain ⟨a'', c'', rfl, _⟩ := own_form hO7
              clear V5 K5 hO5 dc5 hO7 hg7 hn7 hx7 hu HU
              go_wp2
              refine ⟨hold_of (S0 := fun _ => True) trivial, ?_⟩
              show wpQuiet _ _ _ _ ([_]) _
              repeat (go_big_quiet_step (fail))
              refine wpQuiet_nil ?_
              show wpList _ _ _ [_] _ _
              go_wp2
              refine ⟨hold_of (S0 := fun _ => True) trivial, NoPanic.normal ?_⟩
              go_wp2
              exact bodyPost_end (results_none rfl _ _ _) rfl ⟨rfl, ⟨_, _, V7, v1, v2⟩, K7⟩
          | true =>
            have hmem : bd ∈ fr k := by have := HCT.out; simpa using this
            have HJ := Lib.hid (show Put z.st z.ct (upd fr k (del (fr k) bd)) f (k + 1) S from by
              have := HP3.out.join hk4 (by rw [HBD.out]; exact hmem) (by rw [HPR.out]; exact (insB_iff (by omega)).1 HBB.out)
              rw [HBD.out, HPR.out, HPE.out] at this
              exact this)
            have hil : i < n := by have := (pos_lt (HP3.out.v.asc k hk5) hmem).1; rw [HIPO.out, HNN.out] at this; exact this
            have HDEL := Lib.hid (show (fr k).eraseIdx i = del (fr k) bd by unfold del; rw [HIPO.out])
            have hlen := vd_len HR.out HP3.out.v hk5
            obtain ⟨v, hu, hO, dc, df⟩ := V4.at hk5
            simp only at hO
            obtain ⟨a2, c2, rfl, _, _, _, _⟩ := hO.sl
            have hde := fun U hOU => dele w0.heap.size (.slice a2 (fr k).length c2) (fr k) i U hOU (by rw [HNN.out]; exact hil) (by omega)
            have HDE := Lib.hid hde; have HU := Lib.hid hu; have HOO := Lib.hid hO
            rw [HNN.out] at dc hlen
            clear hmem hde hu hO df HBB HCT
            go_wp2_with fail
            refine wp_region_plan (fun _ => True) (.quiet [0, 1, 2, 3, 4, 5, 6, 8, 9, 10, 12, 13] (.only 7 (.only 11 (.quiet [14] (.only 15 .done))))) 99 (by kernel_rfl) (by kernel_rfl) trivial ?_
            intro U _ hWe
            have bW : Below w9.heap.size w9 U := by rw [hWe]; exact (Below.refl _ _).drew
            have V5 := V4.below bW
            have K5 := K4.trans (Kn.below bW)
            have HO5 := Lib.hid (HOO.out.later bW)
            have dc5 := cell_later bW dc
            clear hWe V4 K4 HOO dc bW
            simp only [wpPlan, inOrder, List.filterMap_cons, List.filterMap_nil, List.getElem?_cons_zero, List.getElem?_cons_succ]
            show wpQuiet _ _ _ _ (_ :: _ :: _ :: _ :: _ :: _ :: _ :: _ :: _ :: _ :: _ :: [_]) _
            repeat (go_big_quiet_step (fail))
            refine wpQuiet_nil ?_
            show wpList _ _ _ [_] _ _
            go_wp2
            refine ⟨hold_of (S0 := fun _ => True) trivial, ?_⟩
            have hde := HDE.out U HO5.out
            rw [HNN.out] at hde
            show wpList _ _ _ [_] _ _
            have HDF := Lib.hid hde
            clear hde
            go_wp2_with fail
            refine HDF.out.mono ?_
            rintro e w6 ⟨v', rfl, hO6, hg6, hn6⟩
            rw [HDEL.out] at hO6
            have hu := HU.out
            have hO5 := HO5.out
            rw [← HNN.out] at hg6 hn6
            have V6 := V5.put hk5 hu hg6 hO6 hn6
            have K6 := K5.trans (Kn.put hO5 hg6 (5 + k) (u := v'))
            have hx6 := V5.x.grown hg6 (V5.x.not_own hO5 (by decide))
            have df6 := hx6.frozen (5 + k)
            have dc6 : w6.cell? ⟨g, 5 + k, none⟩ = some (.slice a2 n c2) := by rw [hx6.cell, ← V5.x.cell]; exact dc5
            obtain ⟨a3, c3, rfl, _⟩ := own_form hO6
            clear V5 K5 hO5 HO5 dc5 hO6 hg6 hn6 hx6 hu HU HDF HDE
            go_wp2
            refine ⟨hold_of (S0 := fun _ => True) trivial, ?_⟩
            show wpQuiet _ _ _ _ ([_]) _
            repeat (go_big_quiet_step (fail))
            refine wpQuiet_nil ?_
            show wpList _ _ _ [_] _ _
            go_wp2
            refine ⟨hold_of (S0 := fun _ => True) trivial, NoPanic.normal ?_⟩
            clear dc6 df6
            obtain ⟨w7, hw7⟩ : ∃ W, W = w6.setCell ⟨g, 5 + k, none⟩ (.slice a3 (del (fr k) bd).length c3) := ⟨_, rfl⟩
            rw [← hw7] at V6 K6 ⊢
            clear hw7
            go_wp2
            go_roundg gg
            case rel => exact ⟨f, k + 1, _, _, by have := HG.out; omega, rfl, by go_num, V6, HJ.out, K6⟩
            case measure => omega
        · obtain ⟨b, hb⟩ : ∃ b, insB z.st z.ct pr (k + 1) = b := ⟨_, rfl⟩
          have K : insB z.st z.ct bd (k + 1) = b := by rw [← hpe]; exact hb
          have C := inside (.agg cs.toArray) { z with fr := fr } bd (k + 1) (by omega) wr V3.rz (rng_fr HR.out fr)
          simp only at C
          rw [K, show ((k + 1 : Nat) : Int) = (k : Int) + 1 from by omega] at C
          have HC := Lib.hid C; have HPE := Lib.hid hpe; have HBB := Lib.hid hb
          clear C K hpe hb
          go_wp2_with ((with_reducible refine ldg ?_ ?_ V3.x V3.v.len ?_); (focus rfl); (focus rfl))
          refine HC.out.mono ?_
          rintro e w9 ⟨rfl, b9⟩
          have V4 := V3.below b9
          have K4 := K3.trans (Kn.below b9)
          clear V3 K3 dc b9 HC hxor hwm
          cases b with
          | false =>
            have HB3 := Lib.hid (HP3.out.done (fun _ hr2 => by
              rw [HPR.out] at hr2
              have := insB_of hr2
              rw [HBB.out] at this; cases this))
            have V3 := V4; have K3 := K4
            clear V4 K4 HIPO HCT HNN HBB HPE hlt
            obtain ⟨v, hu, hO, dc, df⟩ := V3.at hk5
            have hasc := HP3.out.v.asc k hk5
            have hlen := vd_len HR.out HP3.out.v hk5
            simp only at hO
            obtain ⟨v1, v2⟩ := HB3.out
            obtain ⟨a', c', rfl, h1, h2, h3, hI⟩ := hO.sl
            obtain ⟨n, hn⟩ : ∃ n, (fr k).length = n := ⟨_, rfl⟩
            have hse := search a' (fr k) n c' f w9 hI hn (by omega) hasc
            obtain ⟨i, hip⟩ : ∃ i, pos (fr k) f = i := ⟨_, rfl⟩
            obtain ⟨ct, hct⟩ : ∃ b, (fr k).contains f = b := ⟨_, rfl⟩
            rw [hip, hct] at hse
            have HSE := Lib.hid hse; have HIPO := Lib.hid hip; have HNN := Lib.hid hn
            have HOO := Lib.hid hO; have HU := Lib.hid hu
            rw [hn] at dc
            clear hse hip hct h1 h2 h3 hI hn hO hu hasc df
            go_wp2_with fail
            refine HSE.out.mono ?_
            rintro e w5 ⟨rfl, rfl⟩
            go_wp2_with fail
            refine wp_region_plan (fun _ => True) (.quiet [0, 1, 2, 3, 4, 5, 6, 8, 9, 12, 13] (.fork 7 (.only 10 (.only 11 (.quiet [14] (.only 15 .done)))) 10 (.only 7 (.only 11 (.quiet [14] (.only 15 .done)))))) 99 (by kernel_rfl) (by kernel_rfl) trivial ?_
            intro U _ hWe
            have bW : Below w9.heap.size w9 U := by rw [hWe]; exact (Below.refl _ _).drew
            have V4 := V3.below bW
            have K4 := K3.trans (Kn.below bW)
            have hO4 := HOO.out.later bW
            have dc4 := cell_later bW dc
            clear hWe V3 dc bW HOO
            simp only [wpPlan, inOrder, List.filterMap_cons, List.filterMap_nil, List.getElem?_cons_zero, List.getElem?_cons_succ]
            show wpQuiet _ _ _ _ (_ :: _ :: _ :: _ :: _ :: _ :: _ :: _ :: _ :: _ :: [_]) _
            repeat (go_big_quiet_step (fail))
            refine wpQuiet_nil ?_
            have bN := below_box U (.cells #[.int .i64 f] 3)
            have hB := Blk.new U 3 #[.int .i64 f] [.int .i64 f] rfl
            have V5 := V4.below bN
            have K5 := K4.trans (Kn.below bN)
            have hO5 := hO4.later bN
            have hne : (Value.slice a' (fr k).length c').ownBlock ≠ some U.heap.size := fun h => by have := (World.ownsRow.lt hO4 _ h).2; omega
            have hin := inse w0.heap.size (.slice a' (fr k).length c') (fr k) f U.heap.size _ hO5 hB hne (by omega) V5.b.size
            rw [HIPO.out, HNN.out] at hin
            have HIN := Lib.hid hin
            have dc5 := cell_later bN dc4
            have HV5 := Lib.hid V5; have HK5 := Lib.hid K5; have HO5 := Lib.hid hO5; have HB5 := Lib.hid bN
            clear hin hne hB V5 K5 hO5 bN V4 K4 hO4
            refine ⟨?_, ?_⟩
            · show wpList _ _ _ [_] _ _
              go_wp2
              refine ⟨hold_of (S0 := fun _ => True) trivial, ?_⟩
              show wpList _ _ _ [_] _ _
              go_wp2
              refine ⟨hold_of (S0 := fun _ => True) trivial, ?_⟩
              have V5 := HV5.out; have K5 := HK5.out; have hO5 := HO5.out; have hin := HIN.out
              clear HV5 HK5 HO5 HIN HB5 dc4
              obtain ⟨w6, hw6⟩ : ∃ W, W = U.alloc (.cells #[.int .i64 f] 3) := ⟨_, rfl⟩
              obtain ⟨vb, hvb⟩ : ∃ g, U.heap.size = g := ⟨_, rfl⟩
              rw [← hw6] at V5 K5 hO5 hin dc5 ⊢
              rw [hvb] at hin ⊢
              have HIN := Lib.hid hin
              clear hw6 hvb hin
              show wpList _ _ _ [_] _ _
              go_wp2_with fail
              refine HIN.out.mono ?_
              rintro e w7 ⟨v', rfl, hO7, hg7, hn7⟩
              have hu := HU.out
              rw [← HNN.out] at hg7 hn7
              have V7 := V5.put hk5 hu hg7 hO7 hn7
              have K7 := K5.trans (Kn.put hO5 hg7 (5 + k) (u := v'))
              have hx7 := V5.x.grown hg7 (V5.x.not_own hO5 (by decide))
              have df7 := hx7.frozen (5 + k)
              have dc7 : w7.cell? ⟨g, 5 + k, none⟩ = some (.slice a' n c') := by rw [hx7.cell, ← V5.x.cell]; exact dc5
              obtain ⟨a'', c'', rfl, _⟩ := own_form hO7
              clear V5 K5 hO5 dc5 hO7 hg7 hn7 hx7 hu HU
              go_wp2
              refine ⟨hold_of (S0 := fun _ => True) trivial, ?_⟩
              show wpQuiet _ _ _ _ ([_]) _
              repeat (go_big_quiet_step (fail))
              refine wpQuiet_nil ?_
              show wpList _ _ _ [_] _ _
              go_wp2
              refine ⟨hold_of (S0 := fun _ => True) trivial, NoPanic.normal ?_⟩
              go_wp2
              exact bodyPost_end (results_none rfl _ _ _) rfl ⟨rfl, ⟨_, _, V7, v1, v2⟩, K7⟩
            · show wpList _ _ _ [_] _ _
              go_wp2
              refine ⟨hold_of (S0 := fun _ => True) trivial, ?_⟩
              show wpList _ _ _ [_] _ _
              go_wp2
              refine ⟨hold_of (S0 := fun _ => True) trivial, ?_⟩
              have V5 := HV5.out; have K5 := HK5.out; have hO5 := HO5.out; have hin := HIN.out
              clear HV5 HK5 HO5 HIN HB5 dc4
              obtain ⟨w6, hw6⟩ : ∃ W, W = U.alloc (.cells #[.int .i64 f] 3) := ⟨_, rfl⟩
              obtain ⟨vb, hvb⟩ : ∃ g, U.heap.size = g := ⟨_, rfl⟩
              rw [← hw6] at V5 K5 hO5 hin dc5 ⊢
              rw [hvb] at hin ⊢
              have HIN := Lib.hid hin
              clear hw6 hvb hin
              show wpList _ _ _ [_] _ _
              go_wp2_with fail
              refine HIN.out.mono ?_
              rintro e w7 ⟨v', rfl, hO7, hg7, hn7⟩
              have hu := HU.out
              rw [← HNN.out] at hg7 hn7
              have V7 := V5.put hk5 hu hg7 hO7 hn7
              have K7 := K5.trans (Kn.put hO5 hg7 (5 + k) (u := v'))
              have hx7 := V5.x.grown hg7 (V5.x.not_own hO5 (by decide))
              have df7 := hx7.frozen (5 + k)
              have dc7 : w7.cell? ⟨g, 5 + k, none⟩ = some (.slice a' n c') := by rw [hx7.cell, ← V5.x.cell]; exact dc5
              obtain ⟨a'', c'', rfl, _⟩ := own_form hO7
              clear V5 K5 hO5 dc5 hO7 hg7 hn7 hx7 hu HU
              go_wp2
              refine ⟨hold_of (S0 := fun _ => True) trivial, ?_⟩
              show wpQuiet _ _ _ _ ([_]) _
              repeat (go_big_quiet_step (fail))
              refine wpQuiet_nil ?_
              show wpList _ _ _ [_] _ _
              go_wp2
              refine ⟨hold_of (S0 := fun _ => True) trivial, NoPanic.normal ?_⟩
              go_wp2
              exact bodyPost_end (results_none rfl _ _ _) rfl ⟨rfl, ⟨_, _, V7, v1, v2⟩, K7⟩
          | true =>
            have hmem : bd ∈ fr k := by have := HCT.out; simpa using this
            have HJ := Lib.hid (show Put z.st z.ct (upd fr k (del (fr k) bd)) bd (k + 1) S from by
              have := HP3.out.join hk4 (by rw [HBD.out]; exact hmem) (by rw [HPR.out]; exact (insB_iff (by omega)).1 HBB.out)
              rw [HBD.out, HPR.out, HPE.out] at this
              exact this)
            have hil : i < n := by have := (pos_lt (HP3.out.v.asc k hk5) hmem).1; rw [HIPO.out, HNN.out] at this; exact this
            have HDEL := Lib.hid (show (fr k).eraseIdx i = del (fr k) bd by unfold del; rw [HIPO.out])
            have hlen := vd_len HR.out HP3.out.v hk5
            obtain ⟨v, hu, hO, dc, df⟩ := V4.at hk5
            simp only at hO
            obtain ⟨a2, c2, rfl, _, _, _, _⟩ := hO.sl
            have hde := fun U hOU => dele w0.heap.size (.slice a2 (fr k).length c2) (fr k) i U hOU (by rw [HNN.out]; exact hil) (by omega)
            have HDE := Lib.hid hde; have HU := Lib.hid hu; have HOO := Lib.hid hO
            rw [HNN.out] at dc hlen
            clear hmem hde hu hO df HBB HCT
            go_wp2_with fail
            refine wp_region_plan (fun _ => True) (.quiet [0, 1, 2, 3, 4, 5, 6, 8, 9, 10, 12, 13] (.only 7 (.only 11 (.quiet [14] (.only 15 .done))))) 99 (by kernel_rfl) (by kernel_rfl) trivial ?_
            intro U _ hWe
            have bW : Below w9.heap.size w9 U := by rw [hWe]; exact (Below.refl _ _).drew
            have V5 := V4.below bW
            have K5 := K4.trans (Kn.below bW)
            have HO5 := Lib.hid (HOO.out.later bW)
            have dc5 := cell_later bW dc
            clear hWe V4 K4 HOO dc bW
            simp only [wpPlan, inOrder, List.filterMap_cons, List.filterMap_nil, List.getElem?_cons_zero, List.getElem?_cons_succ]
            show wpQuiet _ _ _ _ (_ :: _ :: _ :: _ :: _ :: _ :: _ :: _ :: _ :: _ :: _ :: [_]) _
            repeat (go_big_quiet_step (fail))
            refine wpQuiet_nil ?_
            show wpList _ _ _ [_] _ _
            go_wp2
            refine ⟨hold_of (S0 := fun _ => True) trivial, ?_⟩
            have hde := HDE.out U HO5.out
            rw [HNN.out] at hde
            show wpList _ _ _ [_] _ _
            have HDF := Lib.hid hde
            clear hde
            go_wp2_with fail
            refine HDF.out.mono ?_
            rintro e w6 ⟨v', rfl, hO6, hg6, hn6⟩
            rw [HDEL.out] at hO6
            have hu := HU.out
            have hO5 := HO5.out
            rw [← HNN.out] at hg6 hn6
            have V6 := V5.put hk5 hu hg6 hO6 hn6
            have K6 := K5.trans (Kn.put hO5 hg6 (5 + k) (u := v'))
            have hx6 := V5.x.grown hg6 (V5.x.not_own hO5 (by decide))
            have df6 := hx6.frozen (5 + k)
            have dc6 : w6.cell? ⟨g, 5 + k, none⟩ = some (.slice a2 n c2) := by rw [hx6.cell, ← V5.x.cell]; exact dc5
            obtain ⟨a3, c3, rfl, _⟩ := own_form hO6
            clear V5 K5 hO5 HO5 dc5 hO6 hg6 hn6 hx6 hu HU HDF HDE
            go_wp2
            refine ⟨hold_of (S0 := fun _ => True) trivial, ?_⟩
            show wpQuiet _ _ _ _ ([_]) _
            repeat (go_big_quiet_step (fail))
            refine wpQuiet_nil ?_
            show wpList _ _ _ [_] _ _
            go_wp2
            refine ⟨hold_of (S0 := fun _ => True) trivial, NoPanic.normal ?_⟩
            clear dc6 df6
            obtain ⟨w7, hw7⟩ : ∃ W, W = w6.setCell ⟨g, 5 + k, none⟩ (.slice a3 (del (fr k) bd).length c3) := ⟨_, rfl⟩
            rw [← hw7] at V6 K6 ⊢
            clear hw7
            go_wp2
            go_roundg gg
            case rel => exact ⟨bd, k + 1, _, _, by have := HG.out; omega, rfl, by go_num, V6, HJ.out, K6⟩
            case measure => omega
end Go.Proofs.YtdddkfpcbfgocaaGreat
namespace Go.Proofs.YtdddkfpcbfgocaaGreat
open Go.RowKit Go.Over Go.Zn Go.Can Go.Seg Go.Grow
theorem mask_0 {x : Int} (h0 : 0 ≤ x) (h1 : x < 256) : bits BinOp.andNot IntKind.i64 x 0 = x - x % pw 0 := by
  have key : ∀ n : Fin 256, bits BinOp.andNot IntKind.i64 ((n.val : Nat) : Int) 0 = ((n.val : Nat) : Int) - ((n.val : Nat) : Int) % pw 0 := by decide +kernel
  have h := key ⟨x.toNat, by omega⟩
  rw [show ((x.toNat : Nat) : Int) = x by omega] at h
  exact h
theorem mask_1 {x : Int} (h0 : 0 ≤ x) (h1 : x < 256) : bits BinOp.andNot IntKind.i64 x 1 = x - x % pw 1 := by
  have key : ∀ n : Fin 256, bits BinOp.andNot IntKind.i64 ((n.val : Nat) : Int) 1 = ((n.val : Nat) : Int) - ((n.val : Nat) : Int) % pw 1 := by decide +kernel
  have h := key ⟨x.toNat, by omega⟩
  rw [show ((x.toNat : Nat) : Int) = x by omega] at h
  exact h
theorem mask_2 {x : Int} (h0 : 0 ≤ x) (h1 : x < 256) : bits BinOp.andNot IntKind.i64 x 3 = x - x % pw 2 := by
  have key : ∀ n : Fin 256, bits BinOp.andNot IntKind.i64 ((n.val : Nat) : Int) 3 = ((n.val : Nat) : Int) - ((n.val : Nat) : Int) % pw 2 := by decide +kernel
  have h := key ⟨x.toNat, by omega⟩
  rw [show ((x.toNat : Nat) : Int) = x by omega] at h
  exact h
theorem mask_3 {x : Int} (h0 : 0 ≤ x) (h1 : x < 256) : bits BinOp.andNot IntKind.i64 x 7 = x - x % pw 3 := by
  have key : ∀ n : Fin 256, bits BinOp.andNot IntKind.i64 ((n.val : Nat) : Int) 7 = ((n.val : Nat) : Int) - ((n.val : Nat) : Int) % pw 3 := by decide +kernel
  have h := key ⟨x.toNat, by omega⟩
  rw [show ((x.toNat : Nat) : Int) = x by omega] at h
  exact h
theorem mask_4 {x : Int} (h0 : 0 ≤ x) (h1 : x < 256) : bits BinOp.andNot IntKind.i64 x 15 = x - x % pw 4 := by
  have key : ∀ n : Fin 256, bits BinOp.andNot IntKind.i64 ((n.val : Nat) : Int) 15 = ((n.val : Nat) : Int) - ((n.val : Nat) : Int) % pw 4 := by decide +kernel
  have h := key ⟨x.toNat, by omega⟩
  rw [show ((x.toNat : Nat) : Int) = x by omega] at h
  exact h
theorem mask {k : Nat} (hk : k < 5) {x : Int} (h0 : 0 ≤ x) (h1 : x < 256) : bits BinOp.andNot IntKind.i64 x (((2 ^ k : Nat) : Int) - 1) = x - x % pw k := by
  rcases (show k = 0 ∨ k = 1 ∨ k = 2 ∨ k = 3 ∨ k = 4 by omega) with rfl | rfl | rfl | rfl | rfl
  · exact mask_0 h0 h1
  · exact mask_1 h0 h1
  · exact mask_2 h0 h1
  · exact mask_3 h0 h1
  · exact mask_4 h0 h1
/-- The free block of a frame. -/
def BlkAns (z : Z) (x : Int) (e : Ending) : Prop :=
  (∃ k : Nat, k < 5 ∧ x - x % pw k ∈ z.fr k ∧ e = .returned (.tuple #[.int .i64 k, .int .i64 (x - x % pw k)])) ∨ (¬ Cov (F z.fr) x ∧ e = .returned (.tuple #[.int .i64 (-1), .int .i64 0]))
set_option maxRecDepth 100000 in set_option maxHeartbeats 3200000 in
theorem block (v : Value) (z : Z) (x : Int) (w : World) (H : Rz w v z) (hz : VZ z) (h0 : 0 ≤ x) (h1 : x < 256) : Calls Tryz.prog 143 #[v, .int .i64 x] w fun e w' => BlkAns z x e ∧ Below w.heap.size w w' := by
  have HZ := Lib.hid hz
  clear hz
  obtain ⟨cs, rfl, hV⟩ := H
  have X0 := ZX.new hV
  clear hV
  go_enter Tryz.func143, Tryz.ntmps143
  go_upto_region 1 with fail
  obtain ⟨w1, hw1⟩ : ∃ W, W = w.alloc (.cells cs.toArray 102) := ⟨_, rfl⟩
  have X1 : ZX w w.heap.size cs z w1 := by rw [hw1]; exact X0
  rw [← hw1]
  obtain ⟨g, hg0⟩ : ∃ g, w.heap.size = g := ⟨_, rfl⟩
  rw [hg0] at X1 ⊢
  clear hw1 X0 hg0
  go_wp2
  go_loopg [10] 5 (fun gg v10 wr => ∃ k : Nat, k + gg = 5 ∧ v10 = .int .i64 k ∧ (∀ j, j < k → x - x % pw j ∉ z.fr j) ∧ w1 = wr)
  case atStart => exact ⟨0, by omega, rfl, fun j hj => by omega, rfl⟩
  case round =>
    obtain ⟨k, hk, rfl, hno, rfl⟩ := hrel
    have HNO := Lib.hid hno
    clear hno
    cases gk with
    | zero =>
      have tk : decide ((k : Int) < 5) = false := by simp; omega
      have HF := Lib.hid (show ¬ Cov (F z.fr) x from fun hc => by
        obtain ⟨j, j1, j2⟩ := (cov_at HZ.out.l).1 hc
        exact HNO.out j (by omega) j2)
      clear hk
      go_wp2
      go_ret2
      exact ⟨.inr ⟨HF.out, rfl⟩, X1.b⟩
    | succ gg =>
      have hk5 : k < 5 := by omega
      have tk : decide ((k : Int) < 5) = true := by simp; omega
      have HK := Lib.hid hk
      obtain ⟨a, n, c, hc, hn, _, _, _, hI⟩ := X1.v.list X1.x hk5
      have hlen := HZ.out.len hk5
      rw [hn] at hlen
      obtain ⟨m, hm⟩ : ∃ m, 2 ^ k = m := ⟨_, rfl⟩
      have hwm : ∀ j : Nat, j = k → wrap64 ((2 : Int) ^ j) = (m : Int) := fun j hj => by subst hj; rw [← hm]; exact wrap_pow hk5
      have hm0 : 0 < m := by rw [← hm]; exact Nat.pow_pos (by decide)
      have hm16 : m ≤ 16 := by rw [← hm]; exact pow_le16 hk5
      have hmask := mask hk5 h0 h1
      rw [hm] at hmask
      obtain ⟨y, hy⟩ : ∃ y, x - x % pw k = y := ⟨_, rfl⟩
      rw [hy] at hmask
      have HY := Lib.hid hy
      have hse := search a (z.fr k) n c y w1 hI hn (by omega) (HZ.out.l.asc k hk5)
      obtain ⟨i, hip⟩ : ∃ i, pos (z.fr k) y = i := ⟨_, rfl⟩
      obtain ⟨ct, hct⟩ : ∃ b, (z.fr k).contains y = b := ⟨_, rfl⟩
      rw [hip, hct] at hse
      have HSE := Lib.hid hse; have HCT := Lib.hid hct
      clear hk hm hy hse hip hct hI hn
      go_wp2_with fail
      refine HSE.out.mono ?_
      rintro e w5 ⟨rfl, rfl⟩
      cases ct with
      | true =>
        go_wp2
        go_ret2
        refine ⟨.inl ⟨k, hk5, ?_, ?_⟩, X1.b⟩
        · rw [HY.out]; have := HCT.out; simpa using this
        · rw [HY.out]; rfl
      | false =>
        go_wp2
        go_roundg gg
        case rel => exact ⟨k + 1, by have := HK.out; omega, by go_num, fun j hj => by
          by_cases e : j = k
          · subst e; rw [HY.out]; have := HCT.out; simpa using this
          · exact HNO.out j (by omega), rfl⟩
        case measure => omega
set_option maxRecDepth 100000 in set_option maxHeartbeats 3200000 in
theorem isfree (v : Value) (z : Z) (x : Int) (w : World) (H : Rz w v z) (hz : VZ z) (hx : R z.st z.ct x 0) : Calls Tryz.prog 86 #[v, .int .i64 x] w fun e w' => (∃ b, e = .returned (.bool b) ∧ (b = true ↔ Cov (F z.fr) x)) ∧ Below w.heap.size w w' := by
  have HZ := Lib.hid hz
  have h0 : 0 ≤ x := by have := hx.2.1; have := hz.r.st0; omega
  have h1 : x < 256 := by have h2 := hx.2.2.1; have := hz.r.ct1; rw [pw_zero] at h2; omega
  have HX := Lib.hid (insB_of hx)
  clear hz hx
  obtain ⟨cs, rfl, hV⟩ := H
  have X0 := ZX.new hV
  clear hV
  go_enter Tryz.func86, Tryz.ntmps86
  go_upto_region 1 with fail
  obtain ⟨w1, hw1⟩ : ∃ W, W = w.alloc (.cells cs.toArray 102) := ⟨_, rfl⟩
  have X1 : ZX w w.heap.size cs z w1 := by rw [hw1]; exact X0
  rw [← hw1]
  obtain ⟨g, hg0⟩ : ∃ g, w.heap.size = g := ⟨_, rfl⟩
  rw [hg0] at X1 ⊢
  clear hw1 X0 hg0
  go_wp2_with ((with_reducible refine ld ?_ X1.x X1.v.len ?_); (focus rfl))
  refine (check _ z w1 X1.rz HZ.out).mono ?_
  rintro e w2 ⟨rfl, b2⟩
  have X2 := X1.below b2
  clear X1 b2
  go_wp2_with ((with_reducible refine ldg ?_ ?_ X2.x X2.v.len ?_); (focus rfl); (focus rfl))
  refine (inside_0 _ z x w2 X2.rz HZ.out.r).mono ?_
  rw [HX.out]
  rintro e w3 ⟨rfl, b3⟩
  have X3 := X2.below b3
  clear X2 b3
  go_wp2_with ((with_reducible refine ld ?_ X3.x X3.v.len ?_); (focus rfl))
  refine (block _ z x w3 X3.rz HZ.out h0 h1).mono ?_
  rintro e w4 ⟨hA, b4⟩
  have X4 := X3.below b4
  clear X3 b4
  rcases hA with ⟨k, hk, hm, rfl⟩ | ⟨hn, rfl⟩
  · have HC := Lib.hid (show Cov (F z.fr) x from (cov_at HZ.out.l).2 ⟨k, hk, hm⟩)
    have tk : decide (0 ≤ (k : Int)) = true := by simp
    obtain ⟨y, hy⟩ : ∃ y, x - x % pw k = y := ⟨_, rfl⟩
    rw [hy]
    clear hm hy
    go_wp2
    go_ret
    exact ⟨⟨_, rfl, fun _ => HC.out, fun _ => rfl⟩, X4.b⟩
  · have HC := Lib.hid hn
    clear hn
    go_wp2
    go_ret
    exact ⟨⟨_, rfl, fun h => (by cases h), fun h => absurd h HC.out⟩, X4.b⟩
end Go.Proofs.YtdddkfpcbfgocaaGreat
namespace Go.Proofs.YtdddkfpcbfgocaaGreat
open Go.RowKit Go.Over Go.Zn Go.Can Go.Seg Go.Grow
/-- What a call gives that makes a zone in which the frames of a set are free. -/
def AnsV (w : World) (z : Z) (S : Int → Prop) (e : Ending) (w' : World) : Prop :=
  ∃ cs fr, e = .returned (.tuple #[.agg cs.toArray, .int .i64 0]) ∧ OwnZ w' w.heap.size cs { z with fr := fr } ∧ Vd z.st z.ct fr ∧ (∀ x, Cov (F fr) x ↔ S x) ∧ Below w.heap.size w w'
def newC (z : Z) : List Value := [.int .i64 z.nd, .int .i64 z.kd, .int .i64 z.st, .int .i64 z.ct, .int .i64 z.mn, .slice none 0 0, .slice none 0 0, .slice none 0 0, .slice none 0 0, .slice none 0 0]
theorem ownZ_new (W : World) (B : Nat) (z : Z) : OwnZ W B (newC z) { z with fr := fun _ => [] } := by
  refine ⟨⟨rfl, rfl, rfl, rfl, rfl, rfl⟩, fun r hr => ⟨.slice none 0 0, ?_, Own.nil _ _⟩, fun r s u v h1 h2 g1 g2 => .inl ?_⟩
  · rcases (show r = 0 ∨ r = 1 ∨ r = 2 ∨ r = 3 ∨ r = 4 by omega) with rfl | rfl | rfl | rfl | rfl <;> rfl
  · rcases (show r = 0 ∨ r = 1 ∨ r = 2 ∨ r = 3 ∨ r = 4 by omega) with rfl | rfl | rfl | rfl | rfl <;> (simp [newC] at g1; subst g1; rfl)
theorem ZP.new {w W W' : World} {cs : List Value} {z : Z} {bs : List Value} (hO : OwnZ W w.heap.size cs z) (hb : Below w.heap.size w W) (hz : Blk (W.alloc (.cells bs.toArray 102)) W.heap.size 102 bs) (hB : Blk W' W.heap.size 102 cs) (hg : (W.alloc (.cells bs.toArray 102)).grownBy W' (some W.heap.size)) : ZP w W.heap.size cs z W' := by
  have hb2 := below_box W (.cells bs.toArray 102)
  have hb3 := below_then hb hb2
  exact ⟨hb3.grown hg hb3.size (fun k hk => by cases hk; exact hb.size), hb.size, hB, (hO.later hb2).grown hz (by decide) hg⟩
set_option maxRecDepth 100000 in set_option maxHeartbeats 3200000 in
theorem new (z : Z) (w : World) (hr : Rng z) : Calls Tryz.prog 45 #[.int .i64 z.nd, .int .i64 z.kd, .int .i64 z.st, .int .i64 z.ct, .int .i64 z.mn] w (AnsV w z (inZ z)) := by
  have HR := Lib.hid hr
  have hB0 := below_box w (.cells #[.int .i64 0, .int .i64 0, .int .i64 0, .int .i64 0, .int .i64 0, .slice none 0 0, .slice none 0 0, .slice none 0 0, .slice none 0 0, .slice none 0 0] 102)
  have hZ0 := Blk.new w 102 #[.int .i64 0, .int .i64 0, .int .i64 0, .int .i64 0, .int .i64 0, .slice none 0 0, .slice none 0 0, .slice none 0 0, .slice none 0 0, .slice none 0 0] zP rfl
  have r0 := hr.st0; have r1 := hr.ct0; have r2 := hr.ct1
  obtain ⟨n, hn⟩ : ∃ n : Nat, z.ct = (n : Int) := ⟨z.ct.toNat, by omega⟩
  have HN := Lib.hid hn
  clear hr hn
  go_enter Tryz.func45, Tryz.ntmps45
  go_upto_region 1 with fail
  obtain ⟨w1, hw1⟩ : ∃ W, W = w.alloc (.cells #[.int .i64 0, .int .i64 0, .int .i64 0, .int .i64 0, .int .i64 0, .slice none 0 0, .slice none 0 0, .slice none 0 0, .slice none 0 0, .slice none 0 0] 102) := ⟨_, rfl⟩
  rw [← hw1] at hB0 hZ0 ⊢
  clear hw1
  obtain ⟨gr, hgr⟩ : ∃ g, w.heap.size = g := ⟨_, rfl⟩
  rw [hgr] at hZ0 ⊢
  have hlr : w.heap.size ≤ gr := by omega
  clear hgr
  have hO2 : OwnZ w1 w.heap.size (newC z) { z with fr := fun _ => [] } := ownZ_new _ _ _
  have hz2 := Blk.new w1 102 #[.int .i64 0, .int .i64 0, .int .i64 0, .int .i64 0, .int .i64 0, .slice none 0 0, .slice none 0 0, .slice none 0 0, .slice none 0 0, .slice none 0 0] zP rfl
  have hZ2 := hZ0.later (below_box w1 (.cells #[.int .i64 0, .int .i64 0, .int .i64 0, .int .i64 0, .int .i64 0, .slice none 0 0, .slice none 0 0, .slice none 0 0, .slice none 0 0, .slice none 0 0] 102))
  have h1c := hO2.zv.one
  have hne : gr ≠ w1.heap.size := by have := hZ0.lt; omega
  go_upto_region 2 with ((with_reducible refine stZ (cs := newC z) ?_ ?_ hz2 zP_len rfl h1c ?_); (focus rfl); (focus rfl); intro w3 hB3 hg3)
  have V3 := ZP.new hO2 hB0 hz2 hB3 hg3
  have Z3 := hZ2.grown hg3 (by simpa using Ne.symm hne)
  obtain ⟨g, hg⟩ : ∃ g, w1.heap.size = g := ⟨_, rfl⟩
  rw [hg] at V3 hne ⊢
  clear hg hB3 hg3 hZ2 hz2 h1c hO2 hZ0 hB0
  go_wp2_with ((with_reducible refine ld ?_ V3.x V3.v.len ?_); (focus rfl))
  refine (ranges _ _ w3 V3.rz (rng_fr HR.out _)).mono ?_
  rintro e w4 ⟨rfl, b4⟩
  have V4 := V3.below b4
  have Z4 := Z3.later b4
  clear V3 Z3 b4
  have hst := HN.out
  rw [hst] at r1 r2
  obtain ⟨s, hs⟩ : ∃ s, z.st = s := ⟨_, rfl⟩
  have HS := Lib.hid hs
  rw [hs, hst]
  rw [hs] at r0 r2
  clear hst hs
  go_wp2
  go_loopg [13] n (fun gg v13 wr => ∃ (i : Nat) (fr : Nat → List Int) (cs : List Value), i + gg = n ∧ v13 = .int .i64 (s + (i : Int)) ∧ ZP w g cs { z with fr := fr } wr ∧ Blk wr gr 102 zP ∧ Vd z.st z.ct fr ∧ ∀ x, Cov (F fr) x ↔ s ≤ x ∧ x < s + (i : Int))
  case atStart => exact ⟨0, _, _, by omega, by go_num, V4, Z4, vd_empty, fun x => ⟨fun h => absurd h cov_empty, fun h => by omega⟩⟩
  case round =>
    clear V4 Z4
    obtain ⟨i, fr, cs, hg, rfl, V5, Z5, hv, hc⟩ := hrel
    have HV := Lib.hid hv; have HC := Lib.hid hc
    clear hv hc
    cases gk with
    | zero =>
      have hin : ¬ i < n := by omega
      have HE := Lib.hid (show ∀ x, Cov (F fr) x ↔ inZ z x from fun x => by
        rw [HC.out]
        unfold inZ
        rw [HS.out, HN.out]
        omega)
      have h1c := V5.v.one
      clear hg
      go_wp2_with first | ((with_reducible refine ld ?_ V5.x V5.v.len ?_); (focus rfl)) | ((with_reducible refine stZ (cs := cs) ?_ ?_ Z5 zP_len V5.v.len h1c ?_); (focus rfl); (focus rfl); intro w6 hB6 hg6)
      refine bodyPost_ret (results_p1 rfl _ _ gr cs _ rfl hB6 V5.v.len rfl) rfl ?_
      exact ⟨cs, fr, rfl, V5.o.grown Z5 (by decide) hg6, HV.out, HE.out, V5.b.grown hg6 V5.b.size (fun k hk => by cases hk; exact hlr)⟩
    | succ gg =>
      have hin : i < n := by omega
      have HG := Lib.hid hg
      have hp := put w g cs { z with fr := fr } (s + (i : Int)) 0 wr _ V5 (rng_fr HR.out fr) (Put.start HV.out (by
        refine ⟨by omega, ?_, ?_, by rw [pw_zero]; omega⟩
        · show z.st ≤ _; rw [HS.out]; omega
        · show _ + pw 0 ≤ z.st + z.ct; rw [HS.out, HN.out, pw_zero]; omega) (fun x hx hcv => by
        have := (HC.out x).1 hcv
        unfold In at hx
        omega))
      have HP := Lib.hid hp
      clear hg hp
      go_wp2_with fail
      refine HP.out.mono ?_
      rintro e w6 ⟨rfl, ⟨cs', fr', V6, hv6, hc6⟩, K6⟩
      have Z6 := K6 gr 102 zP hne (by decide) Z5
      have HV6 := Lib.hid hv6
      have HC6 := Lib.hid (show ∀ x, Cov (F fr') x ↔ s ≤ x ∧ x < s + ((i + 1 : Nat) : Int) from fun x => by
        rw [hc6]
        simp only
        rw [HC.out]
        unfold In
        rw [pw_zero]
        omega)
      clear HP V5 Z5 K6 hv6 hc6
      go_wp2
      go_roundg gg
      case rel => exact ⟨i + 1, fr', cs', by have := HG.out; omega, by go_num, V6, Z6, HV6.out, HC6.out⟩
      case measure => omega
end Go.Proofs.YtdddkfpcbfgocaaGreat
namespace Go.Proofs.YtdddkfpcbfgocaaGreat
open Go.RowKit Go.Over Go.Zn Go.Can Go.Seg Go.Grow
/-- A zone in a variable, beside a variable for the result. -/
structure ZZ (w : World) (g gr : Nat) (cs : List Value) (z : Z) (W : World) : Prop where
  x : ZX w g cs z W
  z : Blk W gr 102 zP
  l : w.heap.size ≤ gr
theorem ZZ.below {w W W' : World} {g gr : Nat} {cs : List Value} {z : Z} (h : ZZ w g gr cs z W) (hb : Below W.heap.size W W') : ZZ w g gr cs z W' := ⟨h.x.below hb, h.z.later hb, h.l⟩
theorem ZZ.new {w : World} {cs : List Value} {z : Z} (h : ZV w cs z) : ZZ w w.heap.size (w.heap.size + 1) cs z ((w.alloc (.cells cs.toArray 102)).alloc (.cells #[.int .i64 0, .int .i64 0, .int .i64 0, .int .i64 0, .int .i64 0, .slice none 0 0, .slice none 0 0, .slice none 0 0, .slice none 0 0, .slice none 0 0] 102)) := by
  have hs : (w.alloc (.cells cs.toArray 102)).heap.size = w.heap.size + 1 := by simp
  have hz := Blk.new (w.alloc (.cells cs.toArray 102)) 102 #[.int .i64 0, .int .i64 0, .int .i64 0, .int .i64 0, .int .i64 0, .slice none 0 0, .slice none 0 0, .slice none 0 0, .slice none 0 0, .slice none 0 0] zP rfl
  rw [hs] at hz
  exact ⟨(ZX.new h).below (below_box _ _), hz, by omega⟩
set_option maxRecDepth 100000 in set_option maxHeartbeats 3200000 in
theorem free (v : Value) (z : Z) (f : Int) (w : World) (H : Rz w v z) (hz : VZ z) (hf : R z.st z.ct f 0) (hn : ¬ Cov (F z.fr) f) : Calls Tryz.prog 97 #[v, .int .i64 f, .int .i64 0] w (AnsV w z (fun x => Cov (F z.fr) x ∨ x = f)) := by
  have HZ := Lib.hid hz
  have h0 : 0 ≤ f := by have := hf.2.1; have := hz.r.st0; omega
  have h1 : f < 256 := by have h2 := hf.2.2.1; have := hz.r.ct1; rw [pw_zero] at h2; omega
  have HX := Lib.hid (insB_of hf); have HF := Lib.hid hf; have HN := Lib.hid hn
  clear hz hf hn
  obtain ⟨cs, rfl, hV⟩ := H
  have X0 := ZZ.new hV
  clear hV
  go_enter Tryz.func97, Tryz.ntmps97
  go_upto_region 1 with fail
  obtain ⟨w1, hw1⟩ : ∃ W, W = (w.alloc (.cells cs.toArray 102)).alloc (.cells #[.int .i64 0, .int .i64 0, .int .i64 0, .int .i64 0, .int .i64 0, .slice none 0 0, .slice none 0 0, .slice none 0 0, .slice none 0 0, .slice none 0 0] 102) := ⟨_, rfl⟩
  rw [← hw1] at X0 ⊢
  obtain ⟨gr, hgr⟩ : ∃ g, w.heap.size + 1 = g := ⟨_, rfl⟩
  obtain ⟨g, hg0⟩ : ∃ g, w.heap.size = g := ⟨_, rfl⟩
  have X1 : ZZ w g gr cs z w1 := by rw [← hgr, ← hg0]; exact X0
  rw [hgr, hg0]
  clear hw1 X0 hg0 hgr
  go_wp2_with ((with_reducible refine ld ?_ X1.x.x X1.x.v.len ?_); (focus rfl))
  refine (check _ z w1 X1.x.rz HZ.out).mono ?_
  rintro e w2 ⟨rfl, b2⟩
  have X2 := X1.below b2
  clear X1 b2
  go_wp2_with ((with_reducible refine ldg ?_ ?_ X2.x.x X2.x.v.len ?_); (focus rfl); (focus rfl))
  refine (inside_0 _ z f w2 X2.x.rz HZ.out.r).mono ?_
  rw [HX.out]
  rintro e w3 ⟨rfl, b3⟩
  have X3 := X2.below b3
  clear X2 b3
  go_wp2
  go_loopg [9] 1 (fun gg v9 wr => ((gg = 1 ∧ v9 = .int .i64 f) ∨ (gg = 0 ∧ v9 = .int .i64 (f + 1))) ∧ ZZ w g gr cs z wr)
  case atStart => exact ⟨.inl ⟨rfl, rfl⟩, X3⟩
  case round =>
    clear X3
    obtain ⟨hc, X4⟩ := hrel
    rcases hc with ⟨rfl, rfl⟩ | ⟨rfl, rfl⟩
    · have tf : decide (f < f + 1) = true := by simp; omega
      go_wp2_with ((with_reducible refine ld ?_ X4.x.x X4.x.v.len ?_); (focus rfl))
      refine (block _ z f wr X4.x.rz HZ.out h0 h1).mono ?_
      rintro e w5 ⟨hA, b5⟩
      have X5 := X4.below b5
      clear X4 b5
      rcases hA with ⟨k, hk, hm, rfl⟩ | ⟨hn, rfl⟩
      · exact absurd ((cov_at HZ.out.l).2 ⟨k, hk, hm⟩) HN.out
      · clear hn
        go_wp2
        go_roundg 0
        case rel => exact ⟨.inr ⟨rfl, by go_num⟩, X5⟩
        case measure => omega
    · have tf : decide (f + 1 < f + 1) = false := by simp
      go_wp2_with ((with_reducible refine ld ?_ X4.x.x X4.x.v.len ?_); (focus rfl))
      refine (zclone _ z wr X4.x.rz HZ.out).mono ?_
      rintro e w5 ⟨cs2, rfl, hO, b5⟩
      have hO2 := hO.weaken X4.x.b.size
      have X5 := X4.below b5
      clear X4 b5 hO
      have hz2 := Blk.new w5 102 #[.int .i64 0, .int .i64 0, .int .i64 0, .int .i64 0, .int .i64 0, .slice none 0 0, .slice none 0 0, .slice none 0 0, .slice none 0 0, .slice none 0 0] zP rfl
      have hZ2 := X5.z.later (below_box w5 (.cells #[.int .i64 0, .int .i64 0, .int .i64 0, .int .i64 0, .int .i64 0, .slice none 0 0, .slice none 0 0, .slice none 0 0, .slice none 0 0, .slice none 0 0] 102))
      have h1c := hO2.zv.one
      have hl2 := hO2.h.len
      have hne : gr ≠ w5.heap.size := by have := X5.z.lt; omega
      go_upto_region 13 with ((with_reducible refine stZ (cs := cs2) ?_ ?_ hz2 zP_len hl2 h1c ?_); (focus rfl); (focus rfl); intro w6 hB6 hg6)
      have V6 := ZP.new hO2 X5.x.b hz2 hB6 hg6
      have Z6 := hZ2.grown hg6 (by simpa using Ne.symm hne)
      have hlr := X5.l
      obtain ⟨g2, hg2⟩ : ∃ g, w5.heap.size = g := ⟨_, rfl⟩
      rw [hg2] at V6 hne ⊢
      clear hg2 hB6 hg6 hZ2 hz2 h1c hO2 X5 hl2
      have hp := put w g2 cs2 z f 0 w6 _ V6 HZ.out.r (Put.start HZ.out.l HF.out (fun x hx hcv => by
        unfold In at hx
        rw [pw_zero] at hx
        rw [show x = f by omega] at hcv
        exact HN.out hcv))
      have HP := Lib.hid hp
      clear hp
      go_wp2_with fail
      refine HP.out.mono ?_
      rintro e w7 ⟨rfl, ⟨cs', fr', V7, hv7, hc7⟩, K7⟩
      have Z7 := K7 gr 102 zP hne (by decide) Z6
      have HV7 := Lib.hid hv7
      have HC7 := Lib.hid (show ∀ x, Cov (F fr') x ↔ (Cov (F z.fr) x ∨ x = f) from fun x => by
        rw [hc7]
        simp only
        unfold In
        rw [pw_zero]
        constructor
        · rintro (h | h)
          · exact .inl h
          · exact .inr (by omega)
        · rintro (h | h)
          · exact .inl h
          · exact .inr (by omega))
      clear HP V6 Z6 K7 hv7 hc7
      have h1c := V7.v.one
      go_wp2_with first | ((with_reducible refine ld ?_ V7.x V7.v.len ?_); (focus rfl)) | ((with_reducible refine stZ (cs := cs') ?_ ?_ Z7 zP_len V7.v.len h1c ?_); (focus rfl); (focus rfl); intro w8 hB8 hg8)
      refine bodyPost_ret (results_p1 rfl _ _ gr cs' _ rfl hB8 V7.v.len rfl) rfl ?_
      exact ⟨cs', fr', rfl, V7.o.grown Z7 (by decide) hg8, HV7.out, HC7.out, V7.b.grown hg8 V7.b.size (fun k hk => by cases hk; exact hlr)⟩
end Go.Proofs.YtdddkfpcbfgocaaGreat
namespace Go.Proofs.YtdddkfpcbfgocaaGreat
open Go.RowKit Go.Over Go.Zn Go.Can Go.Seg Go.Grow
set_option maxRecDepth 100000 in set_option maxHeartbeats 3200000 in
theorem last (v : Value) (z : Z) (w : World) (H : Rz w v z) (hz : VZ z) : Calls Tryz.prog 151 #[v] w fun e w' => e = .returned (.int .i64 (((z.fr 4).length * 16 : Nat) : Int)) ∧ Below w.heap.size w w' := by
  have HZ := Lib.hid hz
  clear hz
  obtain ⟨cs, rfl, hV⟩ := H
  have X0 := ZX.new hV
  clear hV
  go_enter Tryz.func151, Tryz.ntmps151
  go_upto_region 1 with fail
  obtain ⟨w1, hw1⟩ : ∃ W, W = w.alloc (.cells cs.toArray 102) := ⟨_, rfl⟩
  have X1 : ZX w w.heap.size cs z w1 := by rw [hw1]; exact X0
  rw [← hw1]
  obtain ⟨g, hg0⟩ : ∃ g, w.heap.size = g := ⟨_, rfl⟩
  rw [hg0] at X1 ⊢
  clear hw1 X0 hg0
  go_wp2_with ((with_reducible refine ld ?_ X1.x X1.v.len ?_); (focus rfl))
  refine (check _ z w1 X1.rz HZ.out).mono ?_
  rintro e w2 ⟨rfl, b2⟩
  have X2 := X1.below b2
  clear X1 b2
  obtain ⟨a, n, c, hc, hn, _, _, _, _⟩ := X2.v.list X2.x (show 4 < 5 by decide)
  have hlen := HZ.out.len (show 4 < 5 by decide)
  rw [hn] at hlen
  have HN := Lib.hid hn
  clear hn
  simp only [Nat.reduceAdd] at hc
  go_wp2
  go_ret
  exact ⟨ret_int (by rw [HN.out]; omega), X2.b⟩
theorem cnt_le {z : Z} (hz : VZ z) : ∀ {n : Nat}, n ≤ 5 → cntN z.fr n ≤ n * 4096
  | 0, _ => Nat.le_refl _
  | n + 1, h => by
    have h1 := cnt_le hz (n := n) (by omega)
    have h2 := hz.len (show n < 5 by omega)
    have h3 := pow_le16 (show n < 5 by omega)
    have h4 : (z.fr n).length * 2 ^ n ≤ 256 * 16 := Nat.mul_le_mul h2 h3
    show cntN z.fr n + (z.fr n).length * 2 ^ n ≤ (n + 1) * 4096
    omega
theorem wrap_sum {T n k : Nat} (hT : T ≤ 100000) (hn : n ≤ 256) (hk : k < 5) : wrap64 ((T : Int) + wrap64 ((n : Int) * 2 ^ k)) = ((T + n * 2 ^ k : Nat) : Int) := by
  rcases (show k = 0 ∨ k = 1 ∨ k = 2 ∨ k = 3 ∨ k = 4 by omega) with rfl | rfl | rfl | rfl | rfl <;> (unfold wrap64; omega)
set_option maxRecDepth 100000 in set_option maxHeartbeats 3200000 in
theorem unusable (v : Value) (z : Z) (w : World) (H : Rz w v z) (hz : VZ z) : Calls Tryz.prog 150 #[v, .int .i64 4] w fun e w' => e = .returned (.int .i64 ((cntN z.fr 4 : Nat) : Int)) ∧ Below w.heap.size w w' := by
  have HZ := Lib.hid hz
  clear hz
  obtain ⟨cs, rfl, hV⟩ := H
  have X0 := ZX.new hV
  clear hV
  go_enter Tryz.func150, Tryz.ntmps150
  go_upto_region 1 with fail
  obtain ⟨w1, hw1⟩ : ∃ W, W = w.alloc (.cells cs.toArray 102) := ⟨_, rfl⟩
  have X1 : ZX w w.heap.size cs z w1 := by rw [hw1]; exact X0
  rw [← hw1]
  obtain ⟨g, hg0⟩ : ∃ g, w.heap.size = g := ⟨_, rfl⟩
  rw [hg0] at X1 ⊢
  clear hw1 X0 hg0
  go_wp2_with ((with_reducible refine ld ?_ X1.x X1.v.len ?_); (focus rfl))
  refine (check _ z w1 X1.rz HZ.out).mono ?_
  rintro e w2 ⟨rfl, b2⟩
  have X2 := X1.below b2
  clear X1 b2
  go_wp2
  go_loopg [5, 23] 4 (fun gg v5 v23 wr => ∃ k : Nat, k + gg = 4 ∧ v23 = .int .i64 k ∧ v5 = .int .i64 ((cntN z.fr k : Nat) : Int) ∧ w2 = wr)
  case atStart => exact ⟨0, by omega, rfl, rfl, rfl⟩
  case round =>
    obtain ⟨k, hk, rfl, rfl, rfl⟩ := hrel
    cases gk with
    | zero =>
      obtain rfl : k = 4 := by omega
      obtain ⟨R, hR⟩ : ∃ R, cntN z.fr 4 = R := ⟨_, rfl⟩
      rw [hR]
      have HR := Lib.hid hR
      clear hk hR
      go_wp2
      go_ret
      exact ⟨ret_int (by rw [HR.out]), X2.b⟩
    | succ gg =>
      have hk4 : k < 4 := by omega
      have tk : decide ((k : Int) < 4) = true := by simp; omega
      obtain ⟨a, n, c, hc, hn, _, _, _, _⟩ := X2.v.list X2.x (show k < 5 by omega)
      have hlen := HZ.out.len (show k < 5 by omega)
      rw [hn] at hlen
      have hle := cnt_le HZ.out (show k ≤ 5 by omega)
      have HN := Lib.hid hn; have HK := Lib.hid hk
      obtain ⟨T, hT⟩ : ∃ T, cntN z.fr k = T := ⟨_, rfl⟩
      rw [hT] at hle ⊢
      have HT := Lib.hid hT
      clear hn hk hT
      go_wp2
      go_roundg gg
      case rel => exact ⟨k + 1, by have := HK.out; omega, by go_num, by rw [wrap_sum (show T ≤ 100000 by omega) hlen (show k < 5 by omega)]; exact congrArg _ (by rw [show cntN z.fr (k + 1) = cntN z.fr k + (z.fr k).length * 2 ^ k from rfl, HT.out, HN.out]), rfl⟩
      case measure => omega
theorem quiet_run {P : Program} {o : Oper} {a : Act} {C : World → Prop} {K : Act → Prop} {v : Value} (h : ∀ w, C w → (execOp a.eval o).run P w = .ok (.value v) w) (hk : K (a.put o.dst v)) : o.quiet P a C K :=
  ⟨v, fun w hw => by unfold Oper.quietAt; rw [h w hw]; exact ⟨rfl, rfl⟩, hk⟩
theorem run_load_row {P : Program} {w : World} {ρ : Operand → Value} {o : Oper} {ty : TypeId} {x : Operand} (ho : o.op = .load ty x) (g : Nat) (hx : ρ x = .pointer (some ⟨g, 0, none⟩)) (t : TypeId) (cs : Array Value) (fr : Nat × Nat) (d : TypeDesc) (hg : w.heap[g]? = some (.cells cs t fr))
    (hu : P.underlying ty = some d) (hd : (match d with | .struct _ | .array _ _ => true | _ => false) = true) (hi : (P.info? ty).map (·.size) = some cs.size) :
    (execOp ρ o).run P w = .ok (.value (.agg cs)) w := by
  unfold execOp
  simp only [ho, hx, Instr.loadAt, Instr.sureAddr, Sem.run_bind, Sem.run_pure, Result.andThen_ok, run_loadVar_row w g t ty cs fr d hg hu hd hi]
set_option maxRecDepth 100000 in set_option maxHeartbeats 3200000 in
theorem count (v : Value) (z : Z) (w : World) (H : Rz w v z) (hz : VZ z) : Calls Tryz.prog 104 #[v] w fun e w' => e = .returned (.int .i64 ((cntN z.fr 5 : Nat) : Int)) ∧ Below w.heap.size w w' := by
  have HZ := Lib.hid hz
  have HC := Lib.hid (show cntN z.fr 5 = cntN z.fr 4 + (z.fr 4).length * 16 from rfl)
  have hle := cnt_le hz (show 5 ≤ 5 by decide)
  obtain ⟨R, hR⟩ : ∃ R, cntN z.fr 5 = R := ⟨_, rfl⟩
  rw [hR] at hle ⊢
  clear hz
  obtain ⟨cs, rfl, hV⟩ := H
  have X0 := ZX.new hV
  clear hV
  go_enter Tryz.func104, Tryz.ntmps104
  go_upto_region 1 with fail
  obtain ⟨w1, hw1⟩ : ∃ W, W = w.alloc (.cells cs.toArray 102) := ⟨_, rfl⟩
  have X1 : ZX w w.heap.size cs z w1 := by rw [hw1]; exact X0
  rw [← hw1]
  obtain ⟨g, hg0⟩ : ∃ g, w.heap.size = g := ⟨_, rfl⟩
  rw [hg0] at X1 ⊢
  clear hw1 X0 hg0
  have K1 := fun u => calls_over (unusable _ z _ (X1.below (below_over w1 u)).rz HZ.out)
  have K2 := fun u => calls_over (last _ z _ (X1.below (below_over w1 u)).rz HZ.out)
  obtain ⟨A, hA⟩ : ∃ A, cntN z.fr 4 = A := ⟨_, rfl⟩
  obtain ⟨B, hB⟩ : ∃ B, (z.fr 4).length * 16 = B := ⟨_, rfl⟩
  have hsum : R = A + B := by rw [← hR, HC.out, hA, hB]
  rw [hA] at K1
  rw [hB] at K2
  have C1 := Lib.hid K1; have C2 := Lib.hid K2; have HS := Lib.hid hsum
  clear K1 K2 hR hA hB HC hsum
  have hA2 : A ≤ 20480 := by have := HS.out; omega
  have hB2 : B ≤ 20480 := by have := HS.out; omega
  clear hle
  go_wp2_with fail
  refine wp_region_over (by kernel_rfl) (by kernel_rfl) ?_
  go_big_quiet_want
  rename_i K hK
  refine quiet_run (v := .agg cs.toArray) (fun w' hw' => ?_) ?_
  · obtain ⟨u, rfl⟩ := hw'
    exact run_load_row rfl g rfl 102 cs.toArray (0, 0) _ (X1.x.later (below_over w1 u)) Tryz.underlying102 rfl (by rw [infoZ]; simp [X1.v.len])
  refine hK _ ?_
  clear hK K
  simp only [Act.put, List.setIfInBounds_toArray, List.set_cons_succ, List.set_cons_zero]
  go_big_quiet_step ((go_at_call 150; exact C1.out _))
  go_big_quiet_want
  rename_i K hK
  refine quiet_run (v := .agg cs.toArray) (fun w' hw' => ?_) ?_
  · obtain ⟨u, rfl⟩ := hw'
    exact run_load_row rfl g rfl 102 cs.toArray (0, 0) _ (X1.x.later (below_over w1 u)) Tryz.underlying102 rfl (by rw [infoZ]; simp [X1.v.len])
  refine hK _ ?_
  clear hK K
  simp only [Act.put, List.setIfInBounds_toArray, List.set_cons_succ, List.set_cons_zero]
  go_big_quiet_step ((go_at_call 151; exact C2.out _))
  repeat (go_big_quiet_step (fail))
  refine wpQuiet_nil ?_
  rintro _ ⟨u, rfl⟩
  have hfin := (X1.below (below_over w1 u)).b
  go_wp2
  go_ret
  exact ⟨ret_int (by rw [HS.out]; omega), hfin⟩
end Go.Proofs.YtdddkfpcbfgocaaGreat
namespace Go.Proofs.YtdddkfpcbfgocaaGreat
open Go.RowKit Go.Over Go.Zn Go.Can Go.Seg Go.Grow
/-- Five rows: those below m are the call's own. -/
structure MixZ (W : World) (B : Nat) (cs : List Value) (z : Z) (m : Nat) : Prop where
  h : Hd5 cs z
  row : ∀ r, r < 5 → ∃ v, cs[5 + r]? = some v ∧ Sl W v (z.fr r) ∧ (r < m → Own W B v (z.fr r))
  ap : ∀ r s u v, r < s → s < m → cs[5 + r]? = some u → cs[5 + s]? = some v → u.ownBlock = none ∨ u.ownBlock ≠ v.ownBlock
  up : ∀ r s u a n c, r < m → m ≤ s → s < 5 → cs[5 + r]? = some u → cs[5 + s]? = some (.slice (some a) n c) → u.ownBlock ≠ some a.block
section
variable {W W' : World} {B m : Nat} {cs : List Value} {z : Z}
theorem MixZ.zv (h : MixZ W B cs z m) : ZV W cs z :=
  ⟨h.h.len, h.h.nd, h.h.kd, h.h.st, h.h.ct, h.h.mn, fun k hk => by obtain ⟨v, h1, h2, _⟩ := h.row k hk; exact ⟨v, h1, h2⟩⟩
theorem MixZ.later (h : MixZ W B cs z m) (hb : Below W.heap.size W W') : MixZ W' B cs z m :=
  ⟨h.h, fun r hr => by obtain ⟨v, h1, h2, h3⟩ := h.row r hr; exact ⟨v, h1, h2.below hb, fun hm => (h3 hm).later hb⟩, h.ap, h.up⟩
/-- A slice of numbers is read as before where its block is not the one that changes. -/
theorem Sl.kept {v : Value} {l : List Int} {row : Option Nat} (h : Sl W v l) (hg : W.grownBy W' row) (hne : ∀ a n c, v = .slice (some a) n c → some a.block ≠ row) : Sl W' v l := by
  obtain ⟨a, c, h1, h2, h3, h4, h5⟩ := h
  refine ⟨a, c, h1, h2, h3, h4, fun h0 => ?_⟩
  obtain ⟨b, off, ha, ⟨bs, hbs⟩, hc⟩ := h5 h0
  have h6 := hne ⟨b, off, none⟩ l.length c (by rw [h1, ha])
  exact ⟨b, off, ha, ⟨bs, hbs.grown hg (Ne.symm h6)⟩, fun i hi => hg.cell (hc i hi) h6⟩
theorem MixZ.put {r : Nat} {u u' : Value} {l' : List Int} (h : MixZ W B cs z m) (hm : m ≤ 5) (hr : r < m) (hu : cs[5 + r]? = some u) (hg : W.grownBy W' u.ownBlock) (hO : Own W' B u' l') (hk : ∀ k, u'.ownBlock = some k → u.ownBlock = some k ∨ W.heap.size ≤ k)
    (hlt : ∀ s a n c, m ≤ s → s < 5 → cs[5 + s]? = some (.slice (some a) n c) → a.block < W.heap.size) : MixZ W' B (cs.set (5 + r) u') (setF z r l') m := by
  have hl := h.h.len
  have apart : ∀ s v, s ≠ r → s < m → cs[5 + s]? = some v → v.ownBlock = none ∨ v.ownBlock ≠ u.ownBlock := fun s v hs hsm hv => by
    rcases Nat.lt_or_ge s r with h3 | h3
    · exact h.ap s r v u h3 hr hv hu
    · rcases h.ap r s u v (by omega) hsm hu hv with h4 | h4
      · rcases hb : v.ownBlock with _ | b
        · exact .inl rfl
        · exact .inr (by rw [h4]; simp)
      · exact .inr (Ne.symm h4)
  have apt : ∀ s v, s ≠ r → s < m → cs[5 + s]? = some v → v.ownBlock = none ∨ v.ownBlock ≠ u'.ownBlock := fun s v hs hsm hv => by
    rcases hb : v.ownBlock with _ | b
    · exact .inl rfl
    · refine .inr fun e => ?_
      obtain ⟨v', q1, _, q2⟩ := h.row s (by omega)
      rw [hv] at q1
      cases q1
      rcases hk b e.symm with h1 | h1
      · rcases apart s v hs hsm hv with h2 | h2
        · rw [hb] at h2; cases h2
        · exact h2 (by rw [hb, h1])
      · have := (World.ownsRow.lt (q2 hsm) b hb).2
        omega
  refine ⟨h.h.set r u' l', fun s hs => ?_, fun s t x y h1 h2 g1 g2 => ?_, fun s t x a n c h1 h2 h3 g1 g2 => ?_⟩
  · by_cases e : s = r
    · subst e
      rw [setF_self]
      exact ⟨u', List.getElem?_set_self (by omega), hO.sl, fun _ => hO⟩
    · obtain ⟨v, q1, q2, q3⟩ := h.row s hs
      rw [setF_ne e]
      refine ⟨v, by rw [List.getElem?_set_ne (by omega)]; exact q1, ?_, fun hsm => (q3 hsm).kept hg (apart s v e hsm q1)⟩
      rcases Nat.lt_or_ge s m with hsm | hsm
      · exact ((q3 hsm).kept hg (apart s v e hsm q1)).sl
      · exact Sl.kept q2 hg fun a n c hv hh => h.up r s u a n c hr hsm hs hu (by rw [q1, hv]) hh.symm
  · by_cases e1 : s = r
    · subst e1
      rw [List.getElem?_set_self (by omega)] at g1
      cases g1
      rw [List.getElem?_set_ne (by omega)] at g2
      rcases apt t y (by omega) h2 g2 with h3 | h3
      · rcases hb : u'.ownBlock with _ | b
        · exact .inl rfl
        · exact .inr (by rw [h3]; simp)
      · exact .inr (Ne.symm h3)
    · rw [List.getElem?_set_ne (by omega)] at g1
      by_cases e2 : t = r
      · subst e2
        rw [List.getElem?_set_self (by omega)] at g2
        cases g2
        exact apt s x e1 (by omega) g1
      · rw [List.getElem?_set_ne (by omega)] at g2
        exact h.ap s t x y h1 h2 g1 g2
  · rw [List.getElem?_set_ne (by omega)] at g2
    by_cases e1 : s = r
    · subst e1
      rw [List.getElem?_set_self (by omega)] at g1
      cases g1
      intro hb
      rcases hk a.block hb with h4 | h4
      · exact h.up s t u a n c h1 h2 h3 hu g2 h4
      · have := hlt t a n c h2 h3 g2; omega
    · rw [List.getElem?_set_ne (by omega)] at g1
      exact h.up s t x a n c h1 h2 h3 g1 g2
end
end Go.Proofs.YtdddkfpcbfgocaaGreat
namespace Go.Zn
open Go.Can
/-- The first block of the lists from an order on. -/
def First (fr : Nat → List Int) (k : Nat) (f : Int) : Prop := ∃ j r, k ≤ j ∧ j < 5 ∧ (∀ i, k ≤ i → i < j → fr i = []) ∧ fr j = f :: r
theorem del_head {f : Int} {l : List Int} : del (f :: l) f = l := by
  unfold del pos
  rw [List.takeWhile_cons, if_neg (by simp)]
  rfl
end Go.Zn
namespace Go.Proofs.YtdddkfpcbfgocaaGreat
open Go.RowKit Go.Over Go.Zn Go.Can Go.Seg Go.Grow
/-- Rows that lie in blocks from B on. -/
def Lo (B : Nat) (cs : List Value) : Prop := ∀ (s : Nat) (a : Addr) (n c : Nat), s < 5 → cs[5 + s]? = some (.slice (some a) n c) → B ≤ a.block
theorem Lo.set {B r : Nat} {cs : List Value} {v : Value} (h : Lo B cs) (hv : ∀ a n c, v = .slice (some a) n c → B ≤ a.block) : Lo B (cs.set (5 + r) v) := fun s a n c hs h3 => by
  by_cases e : s = r
  · subst e
    by_cases hl : 5 + s < cs.length
    · rw [List.getElem?_set_self hl] at h3
      cases h3
      exact hv a n c rfl
    · rw [List.getElem?_eq_none (by simp; omega)] at h3
      cases h3
  · rw [List.getElem?_set_ne (by omega)] at h3
    exact h s a n c hs h3
theorem OwnZ.lo {W : World} {B : Nat} {cs : List Value} {z : Z} (h : OwnZ W B cs z) : Lo B cs := fun s a n c hs h3 => by
  obtain ⟨v, q1, q2⟩ := h.row s hs
  rw [h3] at q1
  cases q1
  exact (World.ownsRow.lt q2 a.block rfl).1
/-- A zone whose rows lie in late blocks is read as before when earlier ones change. -/
theorem ZV.late {W W' : World} {B : Nat} {cs : List Value} {z : Z} (h : ZV W cs z) (hl : Lo B cs) (hk : ∀ b bs, B ≤ b → Blk W b 3 bs → Blk W' b 3 bs) : ZV W' cs z :=
  ⟨h.len, h.nd, h.kd, h.st, h.ct, h.mn, fun k hk5 => by
    obtain ⟨v, h1, a, c, rfl, h2, h3, h4, h5⟩ := h.fr k hk5
    refine ⟨_, h1, a, c, rfl, h2, h3, h4, fun h0 => ?_⟩
    obtain ⟨b, off, ha, ⟨ds, hcs⟩, hc⟩ := h5 h0
    subst ha
    have h6 := hk b ds (hl k _ _ _ hk5 h1) hcs
    exact ⟨b, off, rfl, ⟨ds, h6⟩, fun i hi => by rw [h6.cell, ← hcs.cell]; exact hc i hi⟩⟩
/-- A variable that holds a zone whose lower rows are the call's own. -/
structure MP (w : World) (g : Nat) (cs : List Value) (z : Z) (m : Nat) (W : World) : Prop where
  b : Below w.heap.size w W
  l : w.heap.size ≤ g
  x : Blk W g 102 cs
  o : MixZ W w.heap.size cs z m
  m5 : m ≤ 5
  up : ∀ s a n c, m ≤ s → s < 5 → cs[5 + s]? = some (.slice (some a) n c) → a.block < W.heap.size
  lo : Lo w.heap.size cs
section
variable {w W W' : World} {g m : Nat} {cs : List Value} {z : Z}
theorem MP.below (h : MP w g cs z m W) (hb : Below W.heap.size W W') : MP w g cs z m W' := ⟨below_then h.b hb, h.l, h.x.later hb, h.o.later hb, h.m5, fun s a n c h1 h2 h3 => Nat.lt_of_lt_of_le (h.up s a n c h1 h2 h3) hb.size, h.lo⟩
theorem MP.v (h : MP w g cs z m W) : ZV W cs z := h.o.zv
theorem MP.put {r : Nat} {u u' : Value} {l' : List Int} (h : MP w g cs z m W) (hr : r < m) (hu : cs[5 + r]? = some u) (hg : W.grownBy W' u.ownBlock) (hO : Own W' w.heap.size u' l') (hk : ∀ k, u'.ownBlock = some k → u.ownBlock = some k ∨ W.heap.size ≤ k) :
    MP w g (cs.set (5 + r) u') (setF z r l') m (W'.setCell ⟨g, 5 + r, none⟩ u') := by
  have hm := h.m5
  have hl := h.o.h.len
  obtain ⟨v, q1, _, q2⟩ := h.o.row r (by omega)
  rw [hu] at q1
  cases q1
  have q3 := q2 hr
  have hx := h.x.grown hg (h.x.not_own q3 (by decide))
  have hb : Below w.heap.size w W' := h.b.grown hg h.b.size (fun k hk => (World.ownsRow.lt q3 k hk).1)
  have ho := h.o.put hm hr hu hg hO hk h.up
  have hgr : W'.grownBy (W'.setCell ⟨g, 5 + r, none⟩ u') (some g) := ⟨rfl, rfl, rfl, by simp [World.setCell], fun k _ hk => Below.heap_setCell W' ⟨g, 5 + r, none⟩ u' k (fun e => hk (by rw [e]))⟩
  refine ⟨hb.setCell (p := ⟨g, 5 + r, none⟩) h.l _, h.l, hx.set (5 + r) u', ⟨ho.h, fun s hs => ?_, ho.ap, ho.up⟩, hm, fun s a n c h1 h2 h3 => ?_, h.lo.set fun a n c e => (World.ownsRow.lt hO a.block (by rw [e]; rfl)).1⟩
  · obtain ⟨v, g1, g2, g3⟩ := ho.row s hs
    exact ⟨v, g1, g2.grown hx (by decide) hgr, fun hsm => (g3 hsm).far hx (by decide) _ _⟩
  · rw [List.getElem?_set_ne (by omega)] at h3
    have := h.up s a n c h1 h2 h3
    exact Nat.lt_of_lt_of_le this (Nat.le_trans hg.size hgr.size)
theorem MP.at (h : MP w g cs z m W) {k : Nat} (hk : k < m) : ∃ v, cs[5 + k]? = some v ∧ Own W w.heap.size v (z.fr k) ∧ W.cell? ⟨g, 5 + k, none⟩ = some v ∧ W.frozen? ⟨g, 5 + k, none⟩ = false := by
  obtain ⟨v, h1, _, h2⟩ := h.o.row k (by have := h.m5; omega)
  exact ⟨v, h1, h2 hk, by rw [h.x.cell]; exact h1, h.x.frozen _⟩
/-- The head of a row is cut off. -/
theorem ZP.cut {k : Nat} {l : List Int} {u u' : Value} {b : Nat} (h : ZP w g cs z W) (hk : k < 5) (hu : cs[5 + k]? = some u) (hb : u.ownBlock = some b) (hs : Sl W u' l) (hu' : ∀ a n c, u' = .slice (some a) n c → a.block = b) :
    MP w g (cs.set (5 + k) u') (setF z k l) k (W.setCell ⟨g, 5 + k, none⟩ u') := by
  have hl := h.o.h.len
  have hgr : W.grownBy (W.setCell ⟨g, 5 + k, none⟩ u') (some g) := ⟨rfl, rfl, rfl, by simp [World.setCell], fun j _ hj => Below.heap_setCell W ⟨g, 5 + k, none⟩ u' j (fun e => hj (by rw [e]))⟩
  have hblk : ∀ s v a n c, s < 5 → cs[5 + s]? = some v → v = .slice (some a) n c → a.block < W.heap.size := fun s v a n c hs hv e => by
    obtain ⟨v', q1, q2⟩ := h.o.row s hs
    rw [hv] at q1
    cases q1
    exact (World.ownsRow.lt q2 a.block (by rw [e]; rfl)).2
  refine ⟨h.b.setCell (p := ⟨g, 5 + k, none⟩) h.l _, h.l, h.x.set _ _, ⟨h.o.h.set k u' l, fun r hr => ?_, fun r s x y h1 h2 g1 g2 => ?_, fun r s x a n c h1 h2 h3 g1 g2 => ?_⟩, by omega, fun s a n c h1 h2 h3 => ?_, h.o.lo.set fun a n c e => by
    rw [hu' a n c e]
    obtain ⟨v', q1, q2⟩ := h.o.row k hk
    rw [hu] at q1; cases q1
    exact (World.ownsRow.lt q2 b hb).1⟩
  · by_cases e : r = k
    · subst e
      rw [setF_self]
      exact ⟨u', List.getElem?_set_self (by omega), hs.far h.x (by decide) _ _, fun h => by omega⟩
    · obtain ⟨v, q1, q2⟩ := h.o.row r hr
      rw [setF_ne e]
      have q3 := q2.far h.x (by decide) (5 + k) u'
      exact ⟨v, by rw [List.getElem?_set_ne (by omega)]; exact q1, q3.sl, fun _ => q3⟩
  · rw [List.getElem?_set_ne (by omega)] at g1 g2
    exact h.o.ap r s x y h1 (by omega) g1 g2
  · rw [List.getElem?_set_ne (by omega)] at g1
    by_cases e : s = k
    · subst e
      rw [List.getElem?_set_self (by omega)] at g2
      cases g2
      rw [hu' a n c rfl, ← hb]
      rcases h.o.apart (Nat.ne_of_lt h1) (by omega) h3 g1 hu with h4 | h4
      · rw [h4, hb]; simp
      · exact h4
    · rw [List.getElem?_set_ne (by omega)] at g2
      rcases h.o.apart (show r ≠ s by omega) (by omega) h3 g1 g2 with h4 | h4
      · rw [h4]; simp
      · exact h4
  · have hsz := hgr.size
    by_cases e : s = k
    · subst e
      rw [List.getElem?_set_self (by omega)] at h3
      cases h3
      have hlt := (World.ownsRow.lt (show Own W w.heap.size u (z.fr s) from by
        obtain ⟨v', q1, q2⟩ := h.o.row s h2
        rw [hu] at q1; cases q1; exact q2) b hb).2
      rw [hu' a n c rfl]; omega
    · rw [List.getElem?_set_ne (by omega)] at h3
      have := hblk s _ a n c h2 h3 rfl
      omega
end
/-- What a call gives that takes a block. -/
def AllocAns (w : World) (z : Z) (k : Nat) (e : Ending) (w' : World) : Prop :=
  Below w.heap.size w w' ∧
    ((∃ cs f fr, e = .returned (.tuple #[.agg cs.toArray, .int .i64 f, .int .i64 0]) ∧ (ZV w' cs { z with fr := fr } ∧ Lo w.heap.size cs) ∧ Vd z.st z.ct fr ∧ R z.st z.ct f k ∧ (∀ x, In f k x → Cov (F z.fr) x) ∧ (∀ x, Cov (F fr) x ↔ Cov (F z.fr) x ∧ ¬ In f k x) ∧ First z.fr k f) ∨
     ((∀ j, k ≤ j → j < 5 → z.fr j = []) ∧ e = .returned (.tuple #[.agg (newC noZ).toArray, .int .i64 0, .int .i64 16])))
set_option maxRecDepth 100000 in set_option maxHeartbeats 3200000 in
theorem alloc (v : Value) (z : Z) (k0 : Nat) (w : World) (H : Rz w v z) (hz : VZ z) (hk0 : k0 < 5) : Calls Tryz.prog 108 #[v, .int .i64 k0] w (AllocAns w z k0) := by
  have HZ := Lib.hid hz
  clear hz
  obtain ⟨cs, rfl, hV⟩ := H
  have X0 := ZZ.new hV
  clear hV
  go_enter Tryz.func108, Tryz.ntmps108
  go_upto_region 1 with fail
  obtain ⟨w1, hw1⟩ : ∃ W, W = (w.alloc (.cells cs.toArray 102)).alloc (.cells #[.int .i64 0, .int .i64 0, .int .i64 0, .int .i64 0, .int .i64 0, .slice none 0 0, .slice none 0 0, .slice none 0 0, .slice none 0 0, .slice none 0 0] 102) := ⟨_, rfl⟩
  rw [← hw1] at X0 ⊢
  obtain ⟨gr, hgr⟩ : ∃ g, w.heap.size + 1 = g := ⟨_, rfl⟩
  obtain ⟨g, hg0⟩ : ∃ g, w.heap.size = g := ⟨_, rfl⟩
  have X1 : ZZ w g gr cs z w1 := by rw [← hgr, ← hg0]; exact X0
  rw [hgr, hg0]
  clear hw1 X0 hg0 hgr
  go_wp2_with ((with_reducible refine ld ?_ X1.x.x X1.x.v.len ?_); (focus rfl))
  refine (check _ z w1 X1.x.rz HZ.out).mono ?_
  rintro e w2 ⟨rfl, b2⟩
  have X2 := X1.below b2
  clear X1 b2
  go_wp2
  go_loopg [8] (5 - k0) (fun gg v8 wr => ∃ k : Nat, k + gg = 5 ∧ k0 ≤ k ∧ v8 = .int .i64 k ∧ (∀ j, k0 ≤ j → j < k → z.fr j = []) ∧ w2 = wr)
  case atStart => exact ⟨k0, by omega, by omega, rfl, fun j _ _ => by omega, rfl⟩
  case round =>
    obtain ⟨k, hk, hk1, rfl, hno, rfl⟩ := hrel
    have HNO := Lib.hid hno
    clear hno
    cases gk with
    | zero =>
      obtain rfl : k = 5 := by omega
      have HN5 := Lib.hid (show ∀ j, k0 ≤ j → j < 5 → z.fr j = [] from HNO.out)
      have h1c := (ownZ_new w2 0 noZ).zv.one
      have hzl : (newC noZ).length = 10 := rfl
      clear hk
      go_wp2_with ((with_reducible refine stZ (cs := newC noZ) ?_ ?_ X2.z zP_len hzl h1c ?_); (focus rfl); (focus rfl); intro wA hBA hgA)
      refine bodyPost_ret (results_p2 rfl _ _ gr (newC noZ) _ _ rfl hBA hzl rfl rfl) rfl ?_
      exact ⟨X2.x.b.grown hgA X2.x.b.size (fun k hk => by cases hk; exact X2.l), .inr ⟨HN5.out, rfl⟩⟩
    | succ gg =>
      have hk5 : k < 5 := by omega
      have tk : decide ((k : Int) ≤ 4) = true := by simp; omega
      have HK := Lib.hid hk
      obtain ⟨a, n, c, hc, hn, _, _, _, _⟩ := X2.x.v.list X2.x.x hk5
      clear hk
      by_cases hn0 : n = 0
      · subst hn0
        have HN := Lib.hid hn
        clear hn
        go_wp2
        go_roundg gg
        case rel => exact ⟨k + 1, by have := HK.out; omega, by omega, by go_num, fun j h1 h2 => by
          by_cases e : j = k
          · subst e; exact List.eq_nil_of_length_eq_zero HN.out
          · exact HNO.out j h1 (by omega), rfl⟩
        case measure => omega
      · have tn : ((n : Int) == 0) = false := by simp; omega
        have t4 : decide ((k : Int) > 4) = false := by simp; omega
        have hne0 : 0 < (z.fr k).length := by omega
        obtain ⟨f, l, hfl⟩ : ∃ f l, z.fr k = f :: l := by
          cases h : z.fr k with
          | nil => rw [h] at hne0; simp at hne0
          | cons f l => exact ⟨f, l, rfl⟩
        have hmem : f ∈ z.fr k := by rw [hfl]; simp
        have hp := Put.of HZ.out.l hk5 hmem
        rw [hfl, del_head] at hp
        have HP := Lib.hid hp; have HFL := Lib.hid hfl; have HM := Lib.hid hmem
        clear hp hfl hmem hne0 hn
        go_wp2_with ((with_reducible refine ld ?_ X2.x.x X2.x.v.len ?_); (focus rfl))
        refine (zclone _ z w2 X2.x.rz HZ.out).mono ?_
        rintro e w5 ⟨cs2, rfl, hO, b5⟩
        have hO2 := hO.weaken X2.x.b.size
        have X5 := X2.below b5
        clear X2 b5 hO hc
        have hz2 := Blk.new w5 102 #[.int .i64 0, .int .i64 0, .int .i64 0, .int .i64 0, .int .i64 0, .slice none 0 0, .slice none 0 0, .slice none 0 0, .slice none 0 0, .slice none 0 0] zP rfl
        have hZ2 := X5.z.later (below_box w5 (.cells #[.int .i64 0, .int .i64 0, .int .i64 0, .int .i64 0, .int .i64 0, .slice none 0 0, .slice none 0 0, .slice none 0 0, .slice none 0 0, .slice none 0 0] 102))
        have h1c := hO2.zv.one
        have hl2 := hO2.h.len
        have hne : gr ≠ w5.heap.size := by have := X5.z.lt; omega
        go_upto_region 12 with ((with_reducible refine stZ (cs := cs2) ?_ ?_ hz2 zP_len hl2 h1c ?_); (focus rfl); (focus rfl); intro w6 hB6 hg6)
        have V6 := ZP.new hO2 X5.x.b hz2 hB6 hg6
        have Z6 := hZ2.grown hg6 (by simpa using Ne.symm hne)
        have hlr := X5.l
        obtain ⟨g2, hg2⟩ : ∃ g, w5.heap.size = g := ⟨_, rfl⟩
        rw [hg2] at V6 hne ⊢
        clear hg2 hB6 hg6 hZ2 hz2 h1c hO2 X5 hl2
        obtain ⟨v, hu, hO, dc, df⟩ := V6.at hk5
        rw [HFL.out] at hO
        obtain ⟨bk, cap, cur, rfl, _, hB, hnc, hcm, hcl, htk, _⟩ := row_open hO (by simp)
        obtain ⟨q, hq⟩ : ∃ q, l.length = q := ⟨_, rfl⟩
        have hlq : (f :: l).length = q + 1 := by rw [List.length_cons, hq]
        rw [hlq] at dc hu hnc htk
        have hcur : ∀ i, i < q + 1 → cur[i]? = (nums (f :: l))[i]? := fun i hi => by rw [← htk, List.getElem?_take, if_pos hi]
        have c0 : w6.cell? ⟨bk, 0, none⟩ = some (.int .i64 f) := by rw [hB.cell, hcur 0 (by omega)]; rfl
        have hq256 : q + 1 ≤ 256 := by have := HZ.out.len hk5; rw [HFL.out, hlq] at this; exact this
        have hsl : ∀ off c, (0 < q → off = 1) → q ≤ c → c ≤ maxLen → Sl w6 (.slice (some ⟨bk, off, none⟩) q c) l := fun off c ho h1 h2 => by
          refine ⟨some ⟨bk, off, none⟩, c, by rw [hq], by omega, h2, fun h => (by cases h), fun h0 => ⟨bk, off, rfl, ⟨cur, hB⟩, fun i hi => ?_⟩⟩
          rw [hB.cell, ho (by omega), show 1 + i = i + 1 by omega, hcur (i + 1) (by omega)]
          simp [nums, List.getElem?_eq_getElem hi, List.getD_eq_getElem?_getD]
        have hcut : ∀ off c, (0 < q → off = 1) → q ≤ c → c ≤ maxLen → MP w g2 (cs2.set (5 + k) (.slice (some ⟨bk, off, none⟩) q c)) { z with fr := upd z.fr k l } k (w6.setCell ⟨g2, 5 + k, none⟩ (.slice (some ⟨bk, off, none⟩) q c)) ∧ Blk (w6.setCell ⟨g2, 5 + k, none⟩ (.slice (some ⟨bk, off, none⟩) q c)) gr 102 zP := fun off c ho h1 h2 =>
          ⟨V6.cut hk5 hu rfl (hsl off c ho h1 h2) (fun a n c' e => by cases e; rfl), Z6.far (p := ⟨g2, 5 + k, none⟩) hne _⟩
        have HCUT := Lib.hid hcut
        unfold maxLen at hcm
        have hfin : ∀ (u : Value) (W : World) (cs : List Value), MP w g2 cs { z with fr := upd z.fr k l } k W → Blk W gr 102 zP → True := fun _ _ _ _ _ => trivial
        clear hcut hsl hcur hO hB hcl htk hu hlq hfin V6 Z6
        by_cases hc1 : cap = 1
        · subst hc1
          obtain rfl : q = 0 := by omega
          go_upto_region 14 with fail
          clear dc df c0
          obtain ⟨V8, Z8⟩ := HCUT.out 0 (0) (by omega) (by omega) (by unfold maxLen; omega)
          obtain ⟨w9, hw9⟩ : ∃ W, W = w6.setCell ⟨g2, 5 + k, none⟩ (.slice (some ⟨bk, 0, none⟩) 0 0) := ⟨_, rfl⟩
          rw [← hw9] at V8 Z8 ⊢
          clear hw9 HCUT
          have HFR := Lib.hid hk5
          go_wp2
          go_loopg [8] (k - k0) (fun gg v8 wr => ∃ (fr : Nat → List Int) (cs : List Value), v8 = .int .i64 ((k0 + gg : Nat) : Int) ∧ MP w g2 cs { z with fr := fr } k wr ∧ Blk wr gr 102 zP ∧ Put z.st z.ct fr f (k0 + gg) (Cov (F z.fr)) ∧ k0 + gg ≤ k)
          case atStart => exact ⟨_, _, by rw [show k0 + (k - k0) = k by omega], V8, Z8, by rw [show k0 + (k - k0) = k by omega]; exact HP.out, by omega⟩
          case round =>
            clear V8 Z8 HP
            obtain ⟨fr, cs', rfl, V9, Z9, hp, hle⟩ := hrel
            have HP := Lib.hid hp
            clear hp
            cases gk with
            | zero =>
              have hr := HP.out.r
              have HE := Lib.hid (show AllocAns w z k0 (.returned (.tuple #[.agg cs'.toArray, .int .i64 f, .int .i64 0])) wr from by
                refine ⟨V9.b, .inl ⟨cs', f, fr, rfl, ⟨V9.v, V9.lo⟩, HP.out.v, HP.out.r, fun x hx => (HP.out.c x).1 (.inr hx), HP.out.left, ⟨k, l, hk1, hk5, HNO.out, HFL.out⟩⟩⟩)
              have h1c := V9.v.one
              clear hr
              go_wp2_with first | ((with_reducible refine ld ?_ V9.x V9.v.len ?_); (focus rfl)) | ((with_reducible refine stZ (cs := cs') ?_ ?_ Z9 zP_len V9.v.len h1c ?_); (focus rfl); (focus rfl); intro wA hBA hgA)
              refine bodyPost_ret (results_p2 rfl _ _ gr cs' _ _ rfl hBA V9.v.len rfl rfl) rfl ?_
              have hvA : ZV wA cs' { z with fr := fr } := ⟨V9.v.len, V9.v.nd, V9.v.kd, V9.v.st, V9.v.ct, V9.v.mn, fun k hk => by obtain ⟨v, h1, h2⟩ := V9.v.fr k hk; exact ⟨v, h1, h2.grown Z9 (by decide) hgA⟩⟩
              exact ⟨V9.b.grown hgA V9.b.size (fun k hk => by cases hk; exact hlr), .inl ⟨cs', f, fr, rfl, ⟨hvA, V9.lo⟩, HP.out.v, HP.out.r, fun x hx => (HP.out.c x).1 (.inr hx), HP.out.left, ⟨k, l, hk1, hk5, HNO.out, HFL.out⟩⟩⟩
            | succ g' =>
              obtain ⟨k', hk'⟩ : ∃ k', k0 + g' = k' := ⟨_, rfl⟩
              have HK' := Lib.hid hk'
              rw [show k0 + (g' + 1) = k' + 1 by omega] at HP hle ⊢
              have hkk : k0 ≤ k' := by omega
              clear hk'
              have hk'5 : k' < 5 := by omega
              have ek : ((k' + 1 : Nat) : Int) - 1 = (k' : Int) := by omega
              have tg : decide ((k0 : Int) < ((k' + 1 : Nat) : Int)) = true := by simp; omega
              obtain ⟨m, hm⟩ : ∃ m, 2 ^ k' = m := ⟨_, rfl⟩
              have hwm : ∀ j : Nat, j = k' → wrap64 ((2 : Int) ^ j) = (m : Int) := fun j hj => by subst hj; rw [← hm]; exact wrap_pow hk'5
              have hm16 : m ≤ 16 := by rw [← hm]; exact pow_le16 hk'5
              have hpm : pw k' = (m : Int) := by rw [← hm]; rfl
              have hf0 : 0 ≤ f := by have := HP.out.r.2.1; have := HZ.out.r.st0; omega
              have hf1 : f ≤ 256 := by have := HP.out.r.2.2.1; have := HZ.out.r.ct1; have := pw_pos (k' + 1); omega
              have HH := Lib.hid (HP.out.split (g := f) (o := f + (m : Int)) (.inl ⟨rfl, by rw [hpm]⟩))
              obtain ⟨v, hu, hO, dc, df⟩ := V9.at (show k' < k by omega)
              have hlen := vd_len HZ.out.r HP.out.v hk'5
              obtain ⟨oo, hoo⟩ : ∃ o, f + (m : Int) = o := ⟨_, rfl⟩
              rw [hoo] at HH
              simp only at hO
              obtain ⟨a', c', rfl, q1, q2, q3, hI⟩ := hO.sl
              obtain ⟨n, hn⟩ : ∃ n, (fr k').length = n := ⟨_, rfl⟩
              have hse := search a' (fr k') n c' oo wr hI hn (by omega) (HP.out.v.asc k' hk'5)
              obtain ⟨i, hip⟩ : ∃ i, pos (fr k') oo = i := ⟨_, rfl⟩
              obtain ⟨ct, hct⟩ : ∃ b, (fr k').contains oo = b := ⟨_, rfl⟩
              have bN := below_box wr (.cells #[.int .i64 oo] 3)
              have hB := Blk.new wr 3 #[.int .i64 oo] [.int .i64 oo] rfl
              have VN := V9.below bN
              have ZN := Z9.later bN
              have hON := hO.later bN
              have hne5 : (Value.slice a' (fr k').length c').ownBlock ≠ some wr.heap.size := fun h => by have := (World.ownsRow.lt hO _ h).2; omega
              have hin := inse w.heap.size (.slice a' (fr k').length c') (fr k') oo wr.heap.size _ hON hB hne5 (by omega) VN.b.size
              rw [hip] at hse hin
              rw [hct] at hse
              rw [hn] at hin dc
              have HSE := Lib.hid hse; have HIN := Lib.hid hin; have HNN := Lib.hid hn; have HOO := Lib.hid hON; have HU := Lib.hid hu
              have HVN := Lib.hid VN; have HZN := Lib.hid ZN; have HLE := Lib.hid hle
              clear hse hin hip hct q1 q2 q3 hI hn hO hON hu hB bN hne5 VN ZN hm hlen hpm V9 Z9 hle
              have dcN : (wr.alloc (.cells #[.int .i64 oo] 3)).cell? ⟨g2, 5 + k', none⟩ = some (.slice a' n c') := by
                obtain ⟨v2, u1, _, u2, _⟩ := HVN.out.at (show k' < k by have := HLE.out; omega)
                rw [HU.out] at u1
                cases u1
                rw [u2, HNN.out]
              have fin : ∀ (w8 : World) (v' : Value), Own w8 w.heap.size v' (ins (fr k') oo) → (wr.alloc (.cells #[.int .i64 oo] 3)).grownBy w8 (Value.slice a' n c').ownBlock → (∀ k, v'.ownBlock = some k → (Value.slice a' n c').ownBlock = some k ∨ (wr.alloc (.cells #[.int .i64 oo] 3)).heap.size ≤ k) →
                  MP w g2 (cs'.set (5 + k') v') { z with fr := upd fr k' (ins (fr k') oo) } k (w8.setCell ⟨g2, 5 + k', none⟩ v') ∧ Blk (w8.setCell ⟨g2, 5 + k', none⟩ v') gr 102 zP ∧ w8.frozen? ⟨g2, 5 + k', none⟩ = false ∧ w8.cell? ⟨g2, 5 + k', none⟩ = some (.slice a' n c') := fun w8 v' hO8 hg8 hn8 => by
                have hu := HU.out
                rw [← HNN.out] at hg8 hn8
                have V8 := HVN.out.put (show k' < k by have := HLE.out; omega) hu hg8 hO8 hn8
                have K8 := Kn.put (g := g2) HOO.out hg8 (5 + k') (u := v')
                have hx8 := HVN.out.x.grown hg8 (HVN.out.x.not_own HOO.out (by decide))
                exact ⟨V8, K8 gr 102 zP hne (by decide) HZN.out, hx8.frozen (5 + k'), by rw [hx8.cell, ← HVN.out.x.cell]; exact dcN⟩
              have FIN := Lib.hid fin
              clear fin HVN HZN
              go_wp2_with fail
              refine HSE.out.mono ?_
              rintro e w7 ⟨rfl, rfl⟩
              go_wp2_with fail
              refine HIN.out.mono ?_
              rintro e w8 ⟨v', rfl, hO8, hg8, hn8⟩
              obtain ⟨V8, Z8, df8, dc8⟩ := FIN.out w8 v' hO8 hg8 hn8
              obtain ⟨a3, c3, rfl, _⟩ := own_form hO8
              clear hO8 hg8 hn8 FIN HIN HSE dc df dcN
              go_wp2
              go_roundg g'
              case rel => exact ⟨_, _, by rw [HK'.out], V8, Z8, by rw [HK'.out]; exact HH.out, by have := HLE.out; have := HK'.out; omega⟩
              case measure => omega
        · go_upto_region 14 with fail
          clear dc df c0
          obtain ⟨V8, Z8⟩ := HCUT.out 1 ((cap - 1)) (by omega) (by omega) (by unfold maxLen; omega)
          obtain ⟨w9, hw9⟩ : ∃ W, W = w6.setCell ⟨g2, 5 + k, none⟩ (.slice (some ⟨bk, 1, none⟩) q (cap - 1)) := ⟨_, rfl⟩
          rw [← hw9] at V8 Z8 ⊢
          clear hw9 HCUT
          have HFR := Lib.hid hk5
          go_wp2
          go_loopg [8] (k - k0) (fun gg v8 wr => ∃ (fr : Nat → List Int) (cs : List Value), v8 = .int .i64 ((k0 + gg : Nat) : Int) ∧ MP w g2 cs { z with fr := fr } k wr ∧ Blk wr gr 102 zP ∧ Put z.st z.ct fr f (k0 + gg) (Cov (F z.fr)) ∧ k0 + gg ≤ k)
          case atStart => exact ⟨_, _, by rw [show k0 + (k - k0) = k by omega], V8, Z8, by rw [show k0 + (k - k0) = k by omega]; exact HP.out, by omega⟩
          case round =>
            clear V8 Z8 HP
            obtain ⟨fr, cs', rfl, V9, Z9, hp, hle⟩ := hrel
            have HP := Lib.hid hp
            clear hp
            cases gk with
            | zero =>
              have hr := HP.out.r
              have HE := Lib.hid (show AllocAns w z k0 (.returned (.tuple #[.agg cs'.toArray, .int .i64 f, .int .i64 0])) wr from by
                refine ⟨V9.b, .inl ⟨cs', f, fr, rfl, ⟨V9.v, V9.lo⟩, HP.out.v, HP.out.r, fun x hx => (HP.out.c x).1 (.inr hx), HP.out.left, ⟨k, l, hk1, hk5, HNO.out, HFL.out⟩⟩⟩)
              have h1c := V9.v.one
              clear hr
              go_wp2_with first | ((with_reducible refine ld ?_ V9.x V9.v.len ?_); (focus rfl)) | ((with_reducible refine stZ (cs := cs') ?_ ?_ Z9 zP_len V9.v.len h1c ?_); (focus rfl); (focus rfl); intro wA hBA hgA)
              refine bodyPost_ret (results_p2 rfl _ _ gr cs' _ _ rfl hBA V9.v.len rfl rfl) rfl ?_
              have hvA : ZV wA cs' { z with fr := fr } := ⟨V9.v.len, V9.v.nd, V9.v.kd, V9.v.st, V9.v.ct, V9.v.mn, fun k hk => by obtain ⟨v, h1, h2⟩ := V9.v.fr k hk; exact ⟨v, h1, h2.grown Z9 (by decide) hgA⟩⟩
              exact ⟨V9.b.grown hgA V9.b.size (fun k hk => by cases hk; exact hlr), .inl ⟨cs', f, fr, rfl, ⟨hvA, V9.lo⟩, HP.out.v, HP.out.r, fun x hx => (HP.out.c x).1 (.inr hx), HP.out.left, ⟨k, l, hk1, hk5, HNO.out, HFL.out⟩⟩⟩
            | succ g' =>
              obtain ⟨k', hk'⟩ : ∃ k', k0 + g' = k' := ⟨_, rfl⟩
              have HK' := Lib.hid hk'
              rw [show k0 + (g' + 1) = k' + 1 by omega] at HP hle ⊢
              have hkk : k0 ≤ k' := by omega
              clear hk'
              have hk'5 : k' < 5 := by omega
              have ek : ((k' + 1 : Nat) : Int) - 1 = (k' : Int) := by omega
              have tg : decide ((k0 : Int) < ((k' + 1 : Nat) : Int)) = true := by simp; omega
              obtain ⟨m, hm⟩ : ∃ m, 2 ^ k' = m := ⟨_, rfl⟩
              have hwm : ∀ j : Nat, j = k' → wrap64 ((2 : Int) ^ j) = (m : Int) := fun j hj => by subst hj; rw [← hm]; exact wrap_pow hk'5
              have hm16 : m ≤ 16 := by rw [← hm]; exact pow_le16 hk'5
              have hpm : pw k' = (m : Int) := by rw [← hm]; rfl
              have hf0 : 0 ≤ f := by have := HP.out.r.2.1; have := HZ.out.r.st0; omega
              have hf1 : f ≤ 256 := by have := HP.out.r.2.2.1; have := HZ.out.r.ct1; have := pw_pos (k' + 1); omega
              have HH := Lib.hid (HP.out.split (g := f) (o := f + (m : Int)) (.inl ⟨rfl, by rw [hpm]⟩))
              obtain ⟨v, hu, hO, dc, df⟩ := V9.at (show k' < k by omega)
              have hlen := vd_len HZ.out.r HP.out.v hk'5
              obtain ⟨oo, hoo⟩ : ∃ o, f + (m : Int) = o := ⟨_, rfl⟩
              rw [hoo] at HH
              simp only at hO
              obtain ⟨a', c', rfl, q1, q2, q3, hI⟩ := hO.sl
              obtain ⟨n, hn⟩ : ∃ n, (fr k').length = n := ⟨_, rfl⟩
              have hse := search a' (fr k') n c' oo wr hI hn (by omega) (HP.out.v.asc k' hk'5)
              obtain ⟨i, hip⟩ : ∃ i, pos (fr k') oo = i := ⟨_, rfl⟩
              obtain ⟨ct, hct⟩ : ∃ b, (fr k').contains oo = b := ⟨_, rfl⟩
              have bN := below_box wr (.cells #[.int .i64 oo] 3)
              have hB := Blk.new wr 3 #[.int .i64 oo] [.int .i64 oo] rfl
              have VN := V9.below bN
              have ZN := Z9.later bN
              have hON := hO.later bN
              have hne5 : (Value.slice a' (fr k').length c').ownBlock ≠ some wr.heap.size := fun h => by have := (World.ownsRow.lt hO _ h).2; omega
              have hin := inse w.heap.size (.slice a' (fr k').length c') (fr k') oo wr.heap.size _ hON hB hne5 (by omega) VN.b.size
              rw [hip] at hse hin
              rw [hct] at hse
              rw [hn] at hin dc
              have HSE := Lib.hid hse; have HIN := Lib.hid hin; have HNN := Lib.hid hn; have HOO := Lib.hid hON; have HU := Lib.hid hu
              have HVN := Lib.hid VN; have HZN := Lib.hid ZN; have HLE := Lib.hid hle
              clear hse hin hip hct q1 q2 q3 hI hn hO hON hu hB bN hne5 VN ZN hm hlen hpm V9 Z9 hle
              have dcN : (wr.alloc (.cells #[.int .i64 oo] 3)).cell? ⟨g2, 5 + k', none⟩ = some (.slice a' n c') := by
                obtain ⟨v2, u1, _, u2, _⟩ := HVN.out.at (show k' < k by have := HLE.out; omega)
                rw [HU.out] at u1
                cases u1
                rw [u2, HNN.out]
              have fin : ∀ (w8 : World) (v' : Value), Own w8 w.heap.size v' (ins (fr k') oo) → (wr.alloc (.cells #[.int .i64 oo] 3)).grownBy w8 (Value.slice a' n c').ownBlock → (∀ k, v'.ownBlock = some k → (Value.slice a' n c').ownBlock = some k ∨ (wr.alloc (.cells #[.int .i64 oo] 3)).heap.size ≤ k) →
                  MP w g2 (cs'.set (5 + k') v') { z with fr := upd fr k' (ins (fr k') oo) } k (w8.setCell ⟨g2, 5 + k', none⟩ v') ∧ Blk (w8.setCell ⟨g2, 5 + k', none⟩ v') gr 102 zP ∧ w8.frozen? ⟨g2, 5 + k', none⟩ = false ∧ w8.cell? ⟨g2, 5 + k', none⟩ = some (.slice a' n c') := fun w8 v' hO8 hg8 hn8 => by
                have hu := HU.out
                rw [← HNN.out] at hg8 hn8
                have V8 := HVN.out.put (show k' < k by have := HLE.out; omega) hu hg8 hO8 hn8
                have K8 := Kn.put (g := g2) HOO.out hg8 (5 + k') (u := v')
                have hx8 := HVN.out.x.grown hg8 (HVN.out.x.not_own HOO.out (by decide))
                exact ⟨V8, K8 gr 102 zP hne (by decide) HZN.out, hx8.frozen (5 + k'), by rw [hx8.cell, ← HVN.out.x.cell]; exact dcN⟩
              have FIN := Lib.hid fin
              clear fin HVN HZN
              go_wp2_with fail
              refine HSE.out.mono ?_
              rintro e w7 ⟨rfl, rfl⟩
              go_wp2_with fail
              refine HIN.out.mono ?_
              rintro e w8 ⟨v', rfl, hO8, hg8, hn8⟩
              obtain ⟨V8, Z8, df8, dc8⟩ := FIN.out w8 v' hO8 hg8 hn8
              obtain ⟨a3, c3, rfl, _⟩ := own_form hO8
              clear hO8 hg8 hn8 FIN HIN HSE dc df dcN
              go_wp2
              go_roundg g'
              case rel => exact ⟨_, _, by rw [HK'.out], V8, Z8, by rw [HK'.out]; exact HH.out, by have := HLE.out; have := HK'.out; omega⟩
              case measure => omega
end Go.Proofs.YtdddkfpcbfgocaaGreat
namespace Go.Grow
open Go.RowKit Go.Over
theorem add_off (g o j : Nat) : (⟨g, o, none⟩ : Addr).add j = ⟨g, o + j, none⟩ := by unfold Addr.add; split <;> simp_all
/-- A part of a row. -/
def seg (zs : List Value) (o n : Nat) : List Value := (zs.drop o).take n
theorem seg_len {zs : List Value} {o n : Nat} (h : o + n ≤ zs.length) : (seg zs o n).length = n := by simp [seg]; omega
theorem seg_get {zs : List Value} {o n j : Nat} (hj : j < n) : (seg zs o n)[j]? = zs[o + j]? := by
  simp [seg, List.getElem?_drop, hj]
theorem lay_same {L cs : List Value} {o : Nat} (h : o + cs.length ≤ L.length) : seg (lay L o cs) o cs.length = cs := by
  apply List.ext_getElem?
  intro j
  rcases Nat.lt_or_ge j cs.length with hj | hj
  · rw [seg_get hj]
    unfold lay
    have h1 : (L.take o).length = o := by simp; omega
    rw [List.append_assoc, List.getElem?_append_right (by omega), h1, show o + j - o = j by omega, List.getElem?_append_left hj]
  · rw [List.getElem?_eq_none hj, List.getElem?_eq_none (by rw [seg_len]; exact hj; rw [lay_len h]; exact h)]
theorem lay_get {L cs : List Value} {o j : Nat} (h : o + cs.length ≤ L.length) (hj : j < o ∨ o + cs.length ≤ j) : (lay L o cs)[j]? = L[j]? := by
  unfold lay
  have h1 : (L.take o).length = o := by simp; omega
  rcases hj with hj | hj
  · rw [List.append_assoc, List.getElem?_append_left (by omega), List.getElem?_take, if_pos hj]
  · rw [List.getElem?_append_right (by simp; omega), List.getElem?_drop]
    congr 1
    simp; omega
theorem lay_other {L cs : List Value} {o p n : Nat} (h : o + cs.length ≤ L.length) (hj : p + n ≤ o ∨ o + cs.length ≤ p) : seg (lay L o cs) p n = seg L p n := by
  apply List.ext_getElem?
  intro j
  rcases Nat.lt_or_ge j n with hjn | hjn
  · rw [seg_get hjn, seg_get hjn, lay_get h (by omega)]
  · simp [seg, List.getElem?_take, Nat.not_lt.2 hjn]
section
variable {P : Program}
theorem run_loadVar_part {w : World} {g o : Nat} {t ty : TypeId} {zs cs : List Value} {d : TypeDesc} (hB : Blk w g t zs) (hcs : ∀ j v, cs[j]? = some v → zs[o + j]? = some v)
    (hu : P.underlying ty = some d) (hd : (match d with | .struct _ | .array _ _ => true | _ => false) = true) (hi : (P.info? ty).map (·.size) = some cs.length) :
    (loadVar ty ⟨g, o, none⟩).run P w = .ok (.agg cs.toArray) w := by
  have hl : (loadCells ⟨g, o, none⟩ cs.length).run P w = .ok cs.toArray w :=
    run_loadCells_list (P := P) w ⟨g, o, none⟩ cs (fun j v hv => by
      rw [add_off, hB.cell]
      exact hcs j v hv)
  cases hq : P.info? ty with
  | none => simp [hq] at hi
  | some i =>
    have hs : i.size = cs.length := by simpa [hq] using hi
    have hagg : (isAgg ty).run P w = .ok true w := by
      unfold isAgg
      rw [Sem.run_bind, run_underlying hu w]
      cases d <;> simp_all
    simp [loadVar, Sem.run_bind, hagg, sizeOf, typeInfo, hq, hs, hl]
theorem wp_load_part {o : Oper} {a : Act} {w : World} {K : Act → World → Prop} {Q : Exit → Act → World → Prop} (ty : TypeId) (x : Operand) (ho : o.op = .load ty x)
    (g off : Nat) (hx : a.eval x = .pointer (some ⟨g, off, none⟩)) (t : TypeId) (zs cs : List Value) (d : TypeDesc) (hB : Blk w g t zs) (hcs : ∀ j v, cs[j]? = some v → zs[off + j]? = some v)
    (hu : P.underlying ty = some d) (hd : (match d with | .struct _ | .array _ _ => true | _ => false) = true) (hi : (P.info? ty).map (·.size) = some cs.length)
    (h : K (a.put o.dst (.agg cs.toArray)) w) : o.wp P a w K Q := by
  unfold Oper.wp execOp
  simp only [ho, hx, Instr.loadAt, Instr.sureAddr, Sem.run_bind, Sem.run_pure, Result.andThen_ok, run_loadVar_part hB hcs hu hd hi]
  exact h
theorem run_load_part {w : World} {ρ : Operand → Value} {o : Oper} {ty : TypeId} {x : Operand} (ho : o.op = .load ty x) (g off : Nat) (hx : ρ x = .pointer (some ⟨g, off, none⟩)) (t : TypeId) (zs cs : List Value) (d : TypeDesc) (hB : Blk w g t zs) (hcs : ∀ j v, cs[j]? = some v → zs[off + j]? = some v)
    (hu : P.underlying ty = some d) (hd : (match d with | .struct _ | .array _ _ => true | _ => false) = true) (hi : (P.info? ty).map (·.size) = some cs.length) :
    (execOp ρ o).run P w = .ok (.value (.agg cs.toArray)) w := by
  unfold execOp
  simp only [ho, hx, Instr.loadAt, Instr.sureAddr, Sem.run_bind, Sem.run_pure, Result.andThen_ok, run_loadVar_part hB hcs hu hd hi]
theorem run_storeVar_part {w : World} {g off : Nat} {t ty : TypeId} {zs cs : List Value} (hB : Blk w g t zs) (hfit : off + cs.length ≤ zs.length) (hi : (P.info? ty).map (·.size) = some cs.length) (h1 : ∀ v ∈ cs, v.oneCell' = true) :
    (storeVar ty ⟨g, off, none⟩ (.agg cs.toArray)).run P w = .ok () (w.setRow g (lay zs off cs).toArray) := by
  have := run_storeCells_at P g off t cs 0 zs.toArray w hB (by simpa using hfit) h1
  simp only [Nat.add_zero] at this
  cases hq : P.info? ty with
  | none => simp [hq] at hi
  | some i =>
    have hs : i.size = cs.length := by simpa [hq] using hi
    simp [storeVar, sizeOf, typeInfo, hq, Value.cells, hs, this, lay]
theorem wp_store_part {o : Oper} {a : Act} {w : World} {K : Act → World → Prop} {Q : Exit → Act → World → Prop} (ty : TypeId) (x y : Operand) (ho : o.op = .store ty x y)
    (g off : Nat) (hx : a.eval x = .pointer (some ⟨g, off, none⟩)) (t : TypeId) (zs cs : List Value) (hy : a.eval y = .agg cs.toArray) (hB : Blk w g t zs) (hfit : off + cs.length ≤ zs.length)
    (hi : (P.info? ty).map (·.size) = some cs.length) (h1 : ∀ v ∈ cs, v.oneCell' = true)
    (h : ∀ W, Blk W g t (lay zs off cs) → w.grownBy W (some g) → K (a.put o.dst undef) W) : o.wp P a w K Q := by
  obtain ⟨q1, q2⟩ := blk_setRow (new := lay zs off cs) hB
  unfold Oper.wp execOp
  simp only [ho, hx, hy, Instr.storeAt, Instr.sureAddr, Sem.run_bind, Sem.run_pure, Result.andThen_ok, run_storeVar_part hB hfit hi h1]
  exact h _ q1 q2
section
variable {ops : Array Oper} {rest : List Oper} {a : Act} {w : World} {Q : Exit → Act → World → Prop} {g off d i j : Nat} {t ty ty' : TypeId} {pos : String} {af : Array Edge} {zs cs : List Value} {D : TypeDesc}
/-- A part is loaded. -/
theorem wpList_load_part (hu : P.underlying ty = some D) (hd : (match D with | .struct _ | .array _ _ => true | _ => false) = true) (hi : (P.info? ty).map (·.size) = some cs.length)
    (hx : a.eval (.tmp i) = .pointer (some ⟨g, off, none⟩)) (hB : Blk w g t zs) (hcs : ∀ j v, cs[j]? = some v → zs[off + j]? = some v)
    (h : wpList P ops Q rest (a.put (some d) (.agg cs.toArray)) w) :
    wpList P ops Q ({ dst := some d, op := .load ty (.tmp i), type := ty', pos := pos, after := af, guard := none } :: rest) a w :=
  wpList_plain rfl fun _ hK => wp_load_part ty (.tmp i) rfl g off hx t zs cs D hB hcs hu hd hi (hK _ _ h)
theorem wpList_load_part_g {gd : Nat × Bool} (hu : P.underlying ty = some D) (hd : (match D with | .struct _ | .array _ _ => true | _ => false) = true) (hi : (P.info? ty).map (·.size) = some cs.length)
    (hw : Region.wanted { dst := some d, op := .load ty (.tmp i), type := ty', pos := pos, after := af, guard := some gd } (yielded ops a.tmps) = true)
    (hx : a.eval (.tmp i) = .pointer (some ⟨g, off, none⟩)) (hB : Blk w g t zs) (hcs : ∀ j v, cs[j]? = some v → zs[off + j]? = some v)
    (h : wpList P ops Q rest (a.put (some d) (.agg cs.toArray)) w) :
    wpList P ops Q ({ dst := some d, op := .load ty (.tmp i), type := ty', pos := pos, after := af, guard := some gd } :: rest) a w := by
  refine wpList_step fun K hK => ?_
  simp only [hw, if_true]
  exact wp_load_part ty (.tmp i) rfl g off hx t zs cs D hB hcs hu hd hi (hK _ _ h)
/-- A part is stored. -/
theorem wpList_store_part (hi : (P.info? ty).map (·.size) = some cs.length)
    (hx : a.eval (.tmp i) = .pointer (some ⟨g, off, none⟩)) (hy : a.eval (.tmp j) = .agg cs.toArray) (hB : Blk w g t zs) (hfit : off + cs.length ≤ zs.length) (h1 : ∀ v ∈ cs, v.oneCell' = true)
    (h : ∀ W, Blk W g t (lay zs off cs) → w.grownBy W (some g) → wpList P ops Q rest (a.put none undef) W) :
    wpList P ops Q ({ dst := none, op := .store ty (.tmp i) (.tmp j), type := ty', pos := pos, after := af, guard := none } :: rest) a w :=
  wpList_plain rfl fun _ hK => wp_store_part ty (.tmp i) (.tmp j) rfl g off hx t zs cs hy hB hfit hi h1 (fun W q1 q2 => hK _ _ (h W q1 q2))
/-- A constant is stored into a part. -/
theorem wpList_store_part_c (hi : (P.info? ty).map (·.size) = some cs.length) {v : Value}
    (hx : a.eval (.tmp i) = .pointer (some ⟨g, off, none⟩)) (hy : a.eval (.const v) = .agg cs.toArray) (hB : Blk w g t zs) (hfit : off + cs.length ≤ zs.length) (h1 : ∀ v ∈ cs, v.oneCell' = true)
    (h : ∀ W, Blk W g t (lay zs off cs) → w.grownBy W (some g) → wpList P ops Q rest (a.put none undef) W) :
    wpList P ops Q ({ dst := none, op := .store ty (.tmp i) (.const v), type := ty', pos := pos, after := af, guard := none } :: rest) a w :=
  wpList_plain rfl fun _ hK => wp_store_part ty (.tmp i) (.const v) rfl g off hx t zs cs hy hB hfit hi h1 (fun W q1 q2 => hK _ _ (h W q1 q2))
end
end
end Go.Grow
namespace Go.Zn
theorem take_mem {l : List Int} {i : Nat} {x y : Int} (h : l[i]? = some x) : y ∈ l.take (i + 1) ↔ y ∈ l.take i ∨ y = x := by
  rw [List.take_add_one, h, List.mem_append]
  simp
theorem take_not {l : List Int} (hs : List.Pairwise (· < ·) l) {i : Nat} {x : Int} (h : l[i]? = some x) : x ∉ l.take i := by
  intro hm
  obtain ⟨j, hj⟩ := List.getElem?_of_mem hm
  rw [List.getElem?_take] at hj
  split at hj
  · rename_i hji
    have hj2 : j < l.length := by rw [List.getElem?_eq_some_iff] at hj; exact hj.1
    have hi2 : i < l.length := by rw [List.getElem?_eq_some_iff] at h; exact h.1
    have := List.pairwise_iff_getElem.1 hs j i hj2 hi2 hji
    rw [List.getElem?_eq_getElem hj2] at hj
    rw [List.getElem?_eq_getElem hi2] at h
    have e1 := Option.some.inj hj
    have e2 := Option.some.inj h
    omega
  · cases hj
end Go.Zn
namespace Go.Grow
open Go.RowKit Go.Over Go.ChangeMaps Go.MapKept
open Go.WideElems (Fit rd_mk rd_key rd_val)
open Go.Maps (Keyed fit_look int_keyed keyOf_int_mk)
/-- Block m is a map whose keys are the numbers of l, and whose elements are true. -/
def MapS (P : Program) (k e : TypeId) (w : World) (m : Nat) (l : List Int) : Prop :=
  ∃ es clock, w.heap[m]? = some (.map es clock) ∧ Fit P k (plainElem (H := Unit) P e) es clock ∧ es.size = l.length ∧ (∀ x, (∃ y ∈ es.toList, y.key = .int .i64 x) ↔ x ∈ l) ∧ ∀ y ∈ es.toList, y.val = .bool true
section
variable {P : Program} {k e t ty : TypeId} {w w' : World} {m : Nat} {l : List Int}
theorem MapS.made (w : World) (P : Program) (k e : TypeId) : MapS P k e (w.alloc (.map #[] 0)) w.heap.size [] :=
  ⟨#[], 0, (MapKept.heap_alloc w _).1, ⟨by simp, stamped_empty 0, by simp⟩, rfl, by simp, by simp⟩
theorem MapS.lt (h : MapS P k e w m l) : m < w.heap.size := by
  obtain ⟨es, clock, hb, _⟩ := h
  exact (Array.getElem?_eq_some_iff.1 hb).1
theorem MapS.later (h : MapS P k e w m l) (hb : Below w.heap.size w w') : MapS P k e w' m l := by
  have hlt := h.lt
  obtain ⟨es, clock, h1, h2⟩ := h
  exact ⟨es, clock, (hb.block m hlt).trans h1, h2⟩
theorem MapS.kept {row : Option Nat} (h : MapS P k e w m l) (hg : w.grownBy w' row) (hne : some m ≠ row) : MapS P k e w' m l := by
  have hlt := h.lt
  obtain ⟨es, clock, h1, h2⟩ := h
  exact ⟨es, clock, (hg.block m hlt hne).trans h1, h2⟩
theorem MapS.look (h : MapS P k e w m l) (ht : P.underlying t = some (.map k e)) (hk : P.underlying k = some (.int .i64)) (hz : (zeroValue e).run P w = .ok (.bool false) w) {x : Int} (hx : (Lit.int .i64 x).wf = true) :
    (Instr.lookup t (.map (some m)) (.int .i64 x) false).run P w = .ok (.bool (l.contains x)) w := by
  obtain ⟨es, clock, h1, h2, h3, h4, h5⟩ := h
  rcases fit_look false (int_keyed hk) ht hz h1 h2 (keyOf_int_mk hk hx) with ⟨hr, hn, _⟩ | ⟨e0, y, hm, hkey, hr, _⟩
  · have : ¬ x ∈ l := fun hm => by obtain ⟨y, hy, hk⟩ := (h4 x).2 hm; exact hn y hy hk
    rw [hr, show l.contains x = false by simpa using this]
    rfl
  · have : x ∈ l := (h4 x).1 ⟨e0, hm, hkey⟩
    rw [hr, show l.contains x = true by simpa using this]
    simp [h5 e0 hm]
theorem MapS.add (h : MapS P k e w m l) (ht : P.underlying t = some (.map k e)) (hk : P.underlying k = some (.int .i64)) (he : P.underlying e = some .bool) {x : Int} (hx : (Lit.int .i64 x).wf = true) (hn : x ∉ l) (hl : l.length < maxLen) :
    ∃ w', (Instr.mapUpdate t (.map (some m)) (.int .i64 x) (.bool true)).run P w = .ok () w' ∧ MapS P k e w' m (l ++ [x]) ∧ w.grownBy w' (some m) := by
  obtain ⟨es, clock, h1, h2, h3, h4, h5⟩ := h
  have K := int_keyed (P := P) hk
  have hkey := keyOf_int_mk (P := P) hk hx
  rcases K.find w hkey es.toList (fun y hy => by obtain ⟨z, hz⟩ := h2.reads y hy; exact ⟨_, rd_key hz⟩) with ⟨q1, q2⟩ | ⟨j, e0, q1, q2, q3⟩
  · refine ⟨setBlock w m (.map (es.push ⟨.int .i64 x, .bool true, clock⟩) (clock + 1)), ?_, ⟨es.push ⟨.int .i64 x, .bool true, clock⟩, clock + 1, heap_setBlock_same h1 _, ⟨by simp; omega, stamped_push h2.stamped q2, ?_⟩, by simp [h3], fun y => ?_, ?_⟩, ⟨rfl, rfl, rfl, by simp [setBlock], fun i _ hi => heap_setBlock_other h1 _ (fun e => hi (by rw [e]))⟩⟩
    · simp [Instr.mapUpdate, run_underlying ht, MapKept.run_getObj_map h1, K.check w false hkey, q1, MapKept.run_setObj_map _ h1, Result.andThen, setBlock]
    · intro y hy
      simp only [Array.toList_push, List.mem_append, List.mem_singleton] at hy
      rcases hy with hy | rfl
      · exact h2.reads y hy
      · exact ⟨_, rd_mk hkey (plainElem_bool he true)⟩
    · simp only [Array.toList_push, List.mem_append, List.mem_singleton]
      constructor
      · rintro ⟨z, hz | rfl, hzk⟩
        · exact .inl ((h4 y).1 ⟨z, hz, hzk⟩)
        · simp at hzk; exact .inr hzk.symm
      · rintro (hy | rfl)
        · obtain ⟨z, hz, hzk⟩ := (h4 y).2 hy
          exact ⟨z, .inl hz, hzk⟩
        · exact ⟨_, .inr rfl, rfl⟩
    · intro y hy
      simp only [Array.toList_push, List.mem_append, List.mem_singleton] at hy
      rcases hy with hy | rfl
      · exact h5 y hy
      · rfl
  · exact absurd ((h4 x).1 ⟨e0, List.mem_of_getElem? q2, q3⟩) hn
theorem MapS.len (h : MapS P k e w m l) (ht : P.underlying t = some (.map k e)) : (Builtin.len_ #[t] ty #[.map (some m)]).run P w = .ok (goInt l.length) w := by
  obtain ⟨es, clock, h1, _, h3, _⟩ := h
  rw [← h3]
  exact run_len_map w t ty m es clock (by simp [Program.mapKeyOf, Program.mapElemOf, ht]) h1
/-- The operation, for the walk. -/
theorem wpList_add {ops : Array Oper} {rest : List Oper} {dst : Option Nat} {i j : Nat} {ty : TypeId} {pos : String} {af : Array Edge} {a : Act} {Q : Exit → Act → World → Prop} {x : Int}
    (ht : P.underlying t = some (.map k e)) (hk : P.underlying k = some (.int .i64)) (he : P.underlying e = some .bool)
    (hi : a.eval (.tmp i) = .map (some m)) (hj : a.eval (.tmp j) = .int .i64 x) (h : MapS P k e w m l) (hx : (Lit.int .i64 x).wf = true) (hn : x ∉ l) (hl : l.length < maxLen)
    (hK : ∀ w', MapS P k e w' m (l ++ [x]) → w.grownBy w' (some m) → wpList P ops Q rest (a.put dst undef) w') :
    wpList P ops Q ({ dst := dst, op := .mapUpdate t (.tmp i) (.tmp j) (.const (.bool true)), type := ty, pos := pos, after := af, guard := none } :: rest) a w := by
  refine wpList_plain rfl fun K' hK' => ?_
  obtain ⟨w', hrun, r1, r2⟩ := h.add ht hk he hx hn hl
  unfold Oper.wp
  have hc : a.eval (.const (.bool true)) = .bool true := rfl
  simp only [execOp, hi, hj, hc, Sem.run_bind, hrun, Result.andThen_ok, Sem.run_pure]
  exact hK' _ _ (hK w' r1 r2)
end
end Go.Grow
namespace Go.Zn
theorem flat_take {L : List (List Int)} {i : Nat} {l : List Int} (h : L[i]? = some l) : (L.take (i + 1)).flatten = (L.take i).flatten ++ l := by
  rw [List.take_add_one, h]
  simp
theorem flat_at {L : List (List Int)} {i : Nat} {l : List Int} (h : L[i]? = some l) {j : Nat} {x : Int} (hx : l[j]? = some x) : ∃ r, L.flatten = ((L.take i).flatten ++ l.take j) ++ x :: r := by
  have hi : i < L.length := by rw [List.getElem?_eq_some_iff] at h; exact h.1
  have hj : j < l.length := by rw [List.getElem?_eq_some_iff] at hx; exact hx.1
  have e1 : L = L.take i ++ l :: L.drop (i + 1) := by
    have hd : L.drop i = l :: L.drop (i + 1) := by
      rw [List.drop_eq_getElem_cons hi]
      rw [List.getElem?_eq_getElem hi] at h
      rw [Option.some.inj h]
    rw [← hd, List.take_append_drop]
  have e2 : l = l.take j ++ x :: l.drop (j + 1) := by
    have hd : l.drop j = x :: l.drop (j + 1) := by
      rw [List.drop_eq_getElem_cons hj]
      rw [List.getElem?_eq_getElem hj] at hx
      rw [Option.some.inj hx]
    rw [← hd, List.take_append_drop]
  refine ⟨l.drop (j + 1) ++ (L.drop (i + 1)).flatten, ?_⟩
  conv => lhs; rw [e1]
  rw [List.flatten_append, List.flatten_cons]
  conv => lhs; rw [e2]
  simp
/-- The lists of a valid cache. -/
structure VC (L : List (List Int)) : Prop where
  l1 : 1 ≤ L.length
  l6 : L.length ≤ 6
  nd : L.flatten.Nodup
  rg : ∀ x ∈ L.flatten, 0 ≤ x ∧ x < 256
theorem VC.flat_len {L : List (List Int)} (h : VC L) : L.flatten.length ≤ 256 := by
  have := nodup_len h.nd (cov_nodup (n := 256) (f := 0)) fun x hx => mem_cov.2 (by have := h.rg x hx; omega)
  rw [cov_len] at this
  exact this
theorem VC.new {L : List (List Int)} (h : VC L) {i j : Nat} {l : List Int} {x : Int} (hl : L[i]? = some l) (hx : l[j]? = some x) : x ∉ (L.take i).flatten ++ l.take j ∧ ((L.take i).flatten ++ l.take j).length < 256 ∧ 0 ≤ x ∧ x < 256 := by
  obtain ⟨r, hr⟩ := flat_at hl hx
  have h1 := h.nd
  have h2 := h.flat_len
  have h3 := h.rg x (by rw [hr]; simp)
  rw [hr] at h1 h2
  refine ⟨fun hm => ?_, by rw [List.length_append] at h2; simp only [List.length_cons] at h2; omega, h3⟩
  rw [List.nodup_append] at h1
  exact h1.2.2 x hm x (by simp) rfl
theorem VC.mem {L : List (List Int)} (_ : VC L) {i : Nat} {l : List Int} (hl : L[i]? = some l) : ∀ x ∈ l, x ∈ L.flatten := fun _ hx => List.mem_flatten.2 ⟨l, List.mem_of_getElem? hl, hx⟩
theorem VC.len {L : List (List Int)} (h : VC L) {i : Nat} {l : List Int} (hl : L[i]? = some l) : l.length ≤ 256 := by
  have h2 := h.flat_len
  have h1 : l.length ≤ L.flatten.length := (List.sublist_flatten_of_mem (List.mem_of_getElem? hl)).length_le
  omega
end Go.Zn
namespace Go.Proofs.YtdddkfpcbfgocaaGreat
open Go.RowKit Go.Over Go.Zn Go.Can Go.Seg Go.Grow
/-- Rows of numbers behind a block of slices. -/
structure LV (w : World) (b : Nat) (bs : List Value) (L : List (List Int)) : Prop where
  x : Blk w b 24 bs
  n : L.length ≤ bs.length
  row : ∀ (i : Nat) (l : List Int), L[i]? = some l → ∃ v, bs[i]? = some v ∧ Sl w v l
theorem LV.below {w w' : World} {b : Nat} {bs : List Value} {L : List (List Int)} (h : LV w b bs L) (hb : Below w.heap.size w w') : LV w' b bs L :=
  ⟨h.x.later hb, h.n, fun i l hl => by obtain ⟨v, h1, h2⟩ := h.row i l hl; exact ⟨v, h1, h2.below hb⟩⟩
theorem LV.at {w : World} {b : Nat} {bs : List Value} {L : List (List Int)} (h : LV w b bs L) {i : Nat} {l : List Int} (hl : L[i]? = some l) :
    ∃ a n c, w.cell? ⟨b, i, none⟩ = some (.slice a n c) ∧ l.length = n ∧ n ≤ c ∧ c ≤ maxLen ∧ (a = none → c = 0) ∧ Ints w a l := by
  obtain ⟨v, h1, a, c, rfl, h2⟩ := h.row i l hl
  exact ⟨a, _, c, by rw [h.x.cell]; exact h1, rfl, h2⟩
theorem LV.grown {w w' : World} {b : Nat} {bs : List Value} {L : List (List Int)} {g t : Nat} {cs : List Value} (h : LV w b bs L) (hB : Blk w g t cs) (ht : 3 ≠ t) (hne : g ≠ b) (hg : w.grownBy w' (some g)) : LV w' b bs L :=
  ⟨h.x.grown hg (by simpa using hne), h.n, fun i l hl => by obtain ⟨v, h1, h2⟩ := h.row i l hl; exact ⟨v, h1, h2.grown hB ht hg⟩⟩
/-- The value of a cache. -/
def Lc (w : World) (v : Value) (L : List (List Int)) : Prop := ∃ b c bs, v = .slice (some ⟨b, 0, none⟩) L.length c ∧ L.length ≤ c ∧ c ≤ maxLen ∧ LV w b bs L
def Rc (w : World) (v : Value) (L : List (List Int)) : Prop := ∃ v0, v = .agg #[v0] ∧ Lc w v0 L
theorem Lc.below {w w' : World} {v : Value} {L : List (List Int)} (h : Lc w v L) (hb : Below w.heap.size w w') : Lc w' v L := by
  obtain ⟨b, c, bs, h1, h2, h3, h4⟩ := h
  exact ⟨b, c, bs, h1, h2, h3, h4.below hb⟩
theorem Rc.below {w w' : World} {v : Value} {L : List (List Int)} (h : Rc w v L) (hb : Below w.heap.size w w') : Rc w' v L := by
  obtain ⟨v0, h1, h2⟩ := h
  exact ⟨v0, h1, h2.below hb⟩
/-- A slice lies in a block from B on. -/
def LoV (B : Nat) (v : Value) : Prop := ∀ a n c, v = .slice (some a) n c → B ≤ a.block
theorem LoV.weaken {B B' : Nat} {v : Value} (h : LoV B v) (hb : B' ≤ B) : LoV B' v := fun a n c e => Nat.le_trans hb (h a n c e)
theorem LoV.nil {B : Nat} : LoV B (.slice none 0 0) := fun a n c e => by cases e
theorem Own.lov {W : World} {B : Nat} {v : Value} {l : List Int} (h : Own W B v l) : LoV B v := fun a n c e => by
  subst e
  exact (World.ownsRow.lt h a.block rfl).1
/-- The lists of a cache lie in blocks from B on. -/
def LoL (w : World) (B : Nat) (v : Value) : Prop := ∃ b n k bs, v = .slice (some ⟨b, 0, none⟩) n k ∧ Blk w b 24 bs ∧ ∀ y u, y < n → bs[y]? = some u → LoV B u
theorem LoL.weaken {w : World} {B B' : Nat} {v : Value} (h : LoL w B v) (hb : B' ≤ B) : LoL w B' v := by
  obtain ⟨b, n, k, bs, h1, h2, h3⟩ := h
  exact ⟨b, n, k, bs, h1, h2, fun y u hy hu => (h3 y u hy hu).weaken hb⟩
theorem LoL.past {w w' : World} {B : Nat} {v : Value} (h : LoL w B v) (hi : ∀ b bs, Blk w b 24 bs → Blk w' b 24 bs) : LoL w' B v := by
  obtain ⟨b, n, k, bs, h1, h2, h3⟩ := h
  exact ⟨b, n, k, bs, h1, hi b bs h2, h3⟩
/-- A variable that holds a cache, in a call that makes new memory alone. -/
structure CX (w : World) (g : Nat) (r c : Nat) (bs : List Value) (L : List (List Int)) (W : World) : Prop where
  b : Below w.heap.size w W
  l : w.heap.size ≤ g
  x : Blk W g 93 [.slice (some ⟨r, 0, none⟩) L.length c]
  v : LV W r bs L
theorem CX.below {w W W' : World} {g b c : Nat} {bs : List Value} {L : List (List Int)} (h : CX w g b c bs L W) (hb : Below W.heap.size W W') : CX w g b c bs L W' := ⟨below_then h.b hb, h.l, h.x.later hb, h.v.below hb⟩
theorem CX.new {w : World} {b c : Nat} {bs : List Value} {L : List (List Int)} (h : LV w b bs L) : CX w w.heap.size b c bs L (w.alloc (.cells #[.slice (some ⟨b, 0, none⟩) L.length c] 93)) :=
  ⟨below_box _ _, Nat.le_refl _, Blk.new _ _ _ _ rfl, h.below (below_box _ _)⟩
theorem CX.c0 {w W : World} {g b c : Nat} {bs : List Value} {L : List (List Int)} (h : CX w g b c bs L W) : W.cell? ⟨g, 0, none⟩ = some (.slice (some ⟨b, 0, none⟩) L.length c) := by rw [h.x.cell]; rfl
/-- The set of the program's numbers. -/
abbrev Ms (w : World) (m : Nat) (l : List Int) : Prop := MapS Tryz.prog 3 4 w m l
theorem wf_small {x : Int} (h0 : 0 ≤ x) (h1 : x < 256) : (Lit.int .i64 x).wf = true := by
  have key : ∀ n : Fin 256, (Lit.int .i64 ((n.val : Nat) : Int)).wf = true := by decide +kernel
  have h := key ⟨x.toNat, by omega⟩
  rw [show ((x.toNat : Nat) : Int) = x by omega] at h
  exact h
theorem zero_bool (w : World) : (zeroValue 4).run Tryz.prog w = .ok (.bool false) w := by
  have h : (Tryz.prog.info? 4).map (fun i => i.zero) = some (some (.bool false)) := by kernel_rfl
  cases hi : Tryz.prog.info? 4 with
  | none => rw [hi] at h; cases h
  | some i =>
    rw [hi] at h
    simp at h
    simp [zeroValue, typeInfo, hi, h, go_sem]
theorem Ms.run {w : World} {m : Nat} {l : List Int} (h : Ms w m l) {x : Int} (h0 : 0 ≤ x) (h1 : x < 256) : (Instr.lookup 160 (.map (some m)) (.int .i64 x) false).run Tryz.prog w = .ok (.bool (l.contains x)) w :=
  MapS.look h Tryz.underlying160 Tryz.underlying3 (zero_bool w) (wf_small h0 h1)
theorem Ms.num {w : World} {m : Nat} {l : List Int} (h : Ms w m l) (ty : TypeId) : (Builtin.len_ #[160] ty #[.map (some m)]).run Tryz.prog w = .ok (goInt l.length) w := MapS.len h Tryz.underlying160
/-- A block of cells is none that is a map. -/
theorem Ms.ne {w : World} {m g t : Nat} {l : List Int} {cs : List Value} (h : Ms w m l) (hB : Blk w g t cs) : m ≠ g := by
  intro e
  subst e
  obtain ⟨es, clock, hb, _⟩ := h
  unfold Blk at hB
  rw [hb] at hB
  cases hB
theorem Ints.kept {w w' : World} {a : Option Addr} {l s : List Int} {m : Nat} (h : Ints w a l) (hg : w.grownBy w' (some m)) (hm : Ms w m s) : Ints w' a l := fun h0 => by
  obtain ⟨b, off, ha, ⟨cs, hcs⟩, hc⟩ := h h0
  have h6 := hcs.grown hg (by simpa using hm.ne hcs)
  exact ⟨b, off, ha, ⟨cs, h6⟩, fun i hi => by rw [h6.cell, ← hcs.cell]; exact hc i hi⟩
theorem LV.kept {w w' : World} {b : Nat} {bs : List Value} {L : List (List Int)} {m : Nat} {s : List Int} (h : LV w b bs L) (hg : w.grownBy w' (some m)) (hm : Ms w m s) : LV w' b bs L :=
  ⟨h.x.grown hg (by simpa using hm.ne h.x), h.n, fun i l hl => by
    obtain ⟨v, h1, a, c, h2, h3, h4, h5, h6⟩ := h.row i l hl
    exact ⟨v, h1, a, c, h2, h3, h4, h5, h6.kept hg hm⟩⟩
theorem CX.kept {w W W' : World} {g b c m : Nat} {bs : List Value} {L : List (List Int)} {s : List Int} (h : CX w g b c bs L W) (hg : W.grownBy W' (some m)) (hm : Ms W m s) (hl : w.heap.size ≤ m) : CX w g b c bs L W' :=
  ⟨h.b.grown hg h.b.size (fun k hk => by cases hk; exact hl), h.l, h.x.grown hg (by simpa using hm.ne h.x), h.v.kept hg hm⟩
set_option maxRecDepth 100000 in set_option maxHeartbeats 3200000 in
theorem isframe (x : Int) (w : World) (h0 : 0 ≤ x) (h1 : x < 256) : Calls Tryz.prog 94 #[.int .i64 x] w fun e w' => e = .returned (.bool true) ∧ w = w' := by
  go_enter Tryz.func94, Tryz.ntmps94
  go_wp2
  go_ret
  exact ⟨rfl, rfl⟩
set_option maxRecDepth 100000 in set_option maxHeartbeats 3200000 in
theorem frames (v : Value) (L : List (List Int)) (w : World) (H : Rc w v L) (hL : VC L) : Calls Tryz.prog 95 #[v] w fun e w' => ∃ m, e = .returned (.map (some m)) ∧ Ms w' m L.flatten ∧ Below w.heap.size w w' ∧ w.heap.size ≤ m := by
  have HL := Lib.hid hL
  have hn6 := hL.l6
  clear hL
  obtain ⟨_, rfl, b, c, bs, rfl, hlc, hcm, hV⟩ := H
  have X0 := CX.new (c := c) hV
  clear hV
  obtain ⟨n, hn⟩ : ∃ n, L.length = n := ⟨_, rfl⟩
  rw [hn] at hlc hn6 ⊢
  have HN := Lib.hid hn
  clear hn
  go_enter Tryz.func95, Tryz.ntmps95
  go_upto_region 1 with fail
  obtain ⟨w1, hw1⟩ : ∃ W, W = w.alloc (.cells #[.slice (some ⟨b, 0, none⟩) n c] 93) := ⟨_, rfl⟩
  have X1 : CX w w.heap.size b c bs L w1 := by rw [hw1, ← HN.out]; exact X0
  rw [← hw1]
  obtain ⟨g, hg0⟩ : ∃ g, w.heap.size = g := ⟨_, rfl⟩
  rw [hg0] at X1 ⊢
  clear hw1 X0 hg0
  have hmk := run_makeMap (P := Tryz.prog) 160 w1
  go_upto_region 2 with fail
  clear hmk
  have b2 := below_box w1 (.map #[] 0)
  have M2 : Ms (w1.alloc (.map #[] 0)) w1.heap.size (L.take 0).flatten := MapS.made _ _ _ _
  have X2 := X1.below b2
  have hlm : w.heap.size ≤ w1.heap.size := X1.b.size
  obtain ⟨w2, hw2⟩ : ∃ W, W = w1.alloc (.map #[] 0) := ⟨_, rfl⟩
  obtain ⟨m, hm⟩ : ∃ m, w1.heap.size = m := ⟨_, rfl⟩
  rw [← hw2] at M2 X2 ⊢
  rw [hm] at M2 hlm ⊢
  clear hw2 hm b2 X1
  have c0 := X2.c0
  rw [HN.out] at c0
  go_wp2
  go_loopg [12] n (fun gg v12 wr => ∃ i : Nat, i + gg = n ∧ v12 = .int .i64 i ∧ Below w.heap.size w wr ∧ CX w g b c bs L wr ∧ Ms wr m (L.take i).flatten)
  case atStart => exact ⟨0, by omega, rfl, X2.b, X2, M2⟩
  case round =>
    clear X2 M2 c0
    obtain ⟨i, hi, rfl, B3, X3, M3⟩ := hrel
    cases gk with
    | zero =>
      have hin : ¬ i < n := by omega
      rw [List.take_of_length_le (by rw [HN.out]; omega)] at M3
      clear hi
      go_wp2
      go_ret
      exact ⟨m, rfl, M3, B3, hlm⟩
    | succ gg =>
      have hin : i < n := by omega
      have HI := Lib.hid hi
      obtain ⟨l, hl⟩ := get_some HN.out hin
      obtain ⟨a', nl, c', cl, hnl, h2, h3, h4, hI⟩ := X3.v.at hl
      have hnl6 := HL.out.len hl
      rw [hnl] at hnl6
      have HNL := Lib.hid hnl; have HLL := Lib.hid hl
      have M30 : Ms wr m ((L.take i).flatten ++ l.take 0) := by simpa using M3
      clear hi hl hnl h2 h3 h4 M3
      go_wp2
      go_loopg [18] nl (fun g2 v18 wj => ∃ j : Nat, j + g2 = nl ∧ v18 = .int .i64 j ∧ Below w.heap.size w wj ∧ CX w g b c bs L wj ∧ Ints wj a' l ∧ Ms wj m ((L.take i).flatten ++ l.take j))
      case atStart => exact ⟨0, by omega, rfl, B3, X3, hI, M30⟩
      case round =>
        clear B3 X3 hI M30 cl
        obtain ⟨j, hj, rfl, B4, X4, hI, M4⟩ := hrel
        cases gk with
        | zero =>
          have hjn : ¬ j < nl := by omega
          have HE := Lib.hid (show (L.take (i + 1)).flatten = (L.take i).flatten ++ l.take j by
            rw [flat_take HLL.out, List.take_of_length_le (l := l) (by rw [HNL.out]; omega)])
          clear hj
          go_wp2
          go_roundg gg
          case rel => exact ⟨i + 1, by have := HI.out; omega, by go_num, B4, X4, by rw [HE.out]; exact M4⟩
          case measure => omega
        | succ g2 =>
          have hjn : j < nl := by omega
          obtain ⟨x, hx⟩ := get_some HNL.out hjn
          obtain ⟨q1, q2, q3, q4⟩ := HL.out.new HLL.out hx
          obtain ⟨b', off, rfl, cx⟩ := hI.at hx
          have hwf := wf_small q3 q4
          have hln : ((L.take i).flatten ++ l.take j).length < maxLen := by unfold maxLen; omega
          have HE := Lib.hid (show (L.take i).flatten ++ l.take (j + 1) = ((L.take i).flatten ++ l.take j) ++ [x] by
            rw [List.take_add_one, hx, List.append_assoc]; rfl)
          have HJ := Lib.hid hj
          clear hj hx q2
          go_wp2_with ((with_reducible refine wpList_add Tryz.underlying160 Tryz.underlying3 Tryz.underlying4 ?_ ?_ M4 hwf q1 hln ?_); (focus rfl); (focus rfl); intro w5 M5 hg5)
          have B5 : Below w.heap.size w w5 := B4.grown hg5 B4.size (fun k hk => by cases hk; exact hlm)
          have X5 : CX w g b c bs L w5 := X4.kept hg5 M4 hlm
          have hI5 := hI.kept hg5 M4
          rw [← HE.out] at M5
          clear M4 hg5 B4 X4 hI cx
          go_wp2
          go_roundg g2
          case rel => exact ⟨j + 1, by have := HJ.out; omega, by go_num, B5, X5, hI5, M5⟩
          case measure => omega
theorem sum_le {L : List (List Int)} (h : VC L) (i : Nat) : (L.take i).flatten.length ≤ 256 := by
  have h2 := h.flat_len
  have h1 : (L.take i).flatten.length ≤ L.flatten.length := by
    conv => rhs; rw [← List.take_append_drop i L]
    rw [List.flatten_append, List.length_append]
    omega
  omega
set_option maxRecDepth 100000 in set_option maxHeartbeats 3200000 in
theorem pcheck (v : Value) (L : List (List Int)) (w : World) (H : Rc w v L) (hL : VC L) : Calls Tryz.prog 85 #[v, .int .i64 L.length] w fun e w' => e = .returned (.int .i64 0) ∧ Below w.heap.size w w' := by
  have HL := Lib.hid hL
  have hn6 := hL.l6
  have hn1 := hL.l1
  clear hL
  obtain ⟨_, rfl, b, c, bs, rfl, hlc, hcm, hV⟩ := H
  have X0 := CX.new (c := c) hV
  clear hV
  obtain ⟨n, hn⟩ : ∃ n, L.length = n := ⟨_, rfl⟩
  rw [hn] at hlc hn6 ⊢
  have HN := Lib.hid hn
  clear hn
  go_enter Tryz.func85, Tryz.ntmps85
  go_upto_region 1 with fail
  obtain ⟨w1, hw1⟩ : ∃ W, W = w.alloc (.cells #[.slice (some ⟨b, 0, none⟩) n c] 93) := ⟨_, rfl⟩
  have X1 : CX w w.heap.size b c bs L w1 := by rw [hw1, ← HN.out]; exact X0
  rw [← hw1]
  obtain ⟨g, hg0⟩ : ∃ g, w.heap.size = g := ⟨_, rfl⟩
  rw [hg0] at X1 ⊢
  clear hw1 X0 hg0
  rw [HN.out] at hn1
  have c0 := X1.c0
  rw [HN.out] at c0
  go_wp2
  go_loopg [24, 5] n (fun gg v24 v5 wr => ∃ i : Nat, i + gg = n ∧ v24 = .int .i64 i ∧ v5 = .int .i64 (((L.take i).flatten.length : Nat) : Int) ∧ CX w g b c bs L wr)
  case atStart => exact ⟨0, by omega, rfl, rfl, X1⟩
  case round =>
    clear X1 c0
    obtain ⟨i, hi, rfl, rfl, X3⟩ := hrel
    cases gk with
    | zero =>
      have hin : ¬ i < n := by omega
      have HE := Lib.hid (show (L.take i).flatten = L.flatten by rw [List.take_of_length_le (by rw [HN.out]; omega)])
      rw [HE.out]
      have hfl := HL.out.flat_len
      obtain ⟨q, hq⟩ : ∃ q, L.flatten.length = q := ⟨_, rfl⟩
      have HQ := Lib.hid hq
      rw [hq] at hfl ⊢
      have c0 := X3.c0
      rw [HN.out] at c0
      have hfr := frames (.agg #[.slice (some ⟨b, 0, none⟩) n c]) L wr ⟨_, rfl, b, c, bs, by rw [HN.out], by rw [HN.out]; exact hlc, hcm, X3.v⟩ HL.out
      have HFR := Lib.hid hfr
      clear hi hq hfr HE
      go_wp2_with fail
      refine HFR.out.mono ?_
      rintro e w5 ⟨m, rfl, M5, b5, _⟩
      have hnum := fun ty => Ms.num M5 ty
      rw [HQ.out] at hnum
      have X5 := X3.below b5
      clear X3 c0 M5 b5
      go_wp2
      go_ret
      exact ⟨rfl, X5.b⟩
    | succ gg =>
      have hin : i < n := by omega
      have HI := Lib.hid hi
      obtain ⟨l, hl⟩ := get_some HN.out hin
      obtain ⟨a', nl, c', cl, hnl, h2, h3, h4, hI⟩ := X3.v.at hl
      have hnl6 := HL.out.len hl
      rw [hnl] at hnl6
      have hT := sum_le HL.out i
      have HE := Lib.hid (show (L.take (i + 1)).flatten.length = (L.take i).flatten.length + nl by
        rw [flat_take hl, List.length_append, hnl])
      obtain ⟨T, hTT⟩ : ∃ T, (L.take i).flatten.length = T := ⟨_, rfl⟩
      rw [hTT] at hT ⊢
      have HNL := Lib.hid hnl; have HLL := Lib.hid hl; have HT := Lib.hid hTT
      clear hi hl hnl h2 h3 h4 hTT
      go_wp2
      go_loopg [30] nl (fun g2 v30 wj => ∃ j : Nat, j + g2 = nl ∧ v30 = .int .i64 j ∧ wr = wj)
      case atStart => exact ⟨0, by omega, rfl, rfl⟩
      case round =>
        obtain ⟨j, hj, rfl, rfl⟩ := hrel
        cases gk with
        | zero =>
          have hjn : ¬ j < nl := by omega
          clear hj
          go_wp2
          go_roundg gg
          case rel => exact ⟨i + 1, by have := HI.out; omega, by go_num, by rw [HE.out, HT.out]; go_num, X3⟩
          case measure => omega
        | succ g2 =>
          have hjn : j < nl := by omega
          obtain ⟨x, hx⟩ := get_some HNL.out hjn
          obtain ⟨q1, q2, q3, q4⟩ := HL.out.new HLL.out hx
          obtain ⟨b', off, rfl, cx⟩ := hI.at hx
          have HJ := Lib.hid hj
          clear hj hx q2 q1
          go_wp2_with fail
          refine (isframe x _ q3 q4).mono ?_
          rintro e w5 ⟨rfl, rfl⟩
          go_wp2
          go_roundg g2
          case rel => exact ⟨j + 1, by have := HJ.out; omega, by go_num, rfl⟩
          case measure => omega
end Go.Proofs.YtdddkfpcbfgocaaGreat
namespace Go.Proofs.YtdddkfpcbfgocaaGreat
open Go.RowKit Go.Over Go.Zn Go.Can Go.Seg Go.Grow
section
variable {P : Program} {ops : Array Oper} {rest : List Oper} {d i j : Nat} {ty : TypeId} {pos : String} {af : Array Edge} {a : Act} {w : World} {Q : Exit → Act → World → Prop}
theorem made_rep (z : Value) (n : Nat) : (madeCells #[z] n).toList = List.replicate n z := by
  apply List.ext_getElem?
  intro k
  by_cases hk : k < n
  · simp [madeCells, hk, Nat.mod_one]
  · simp [madeCells, hk]
/-- A row of zero values is made. -/
theorem wpList_mk {t e : TypeId} (z : Value) {bytes : Nat} (ht : P.underlying t = some (.slice e)) (hinfo : (P.info? e).map (fun i => (i.zero, i.size, i.bytes)) = some (some z, 1, bytes)) (hz1 : z.cells = #[z]) {n c : Nat}
    (hl : a.eval (.tmp i) = .int .i64 (n : Int)) (hc : a.eval (.tmp j) = .int .i64 (c : Int)) (hnc : n ≤ c) (hb : bytes * c ≤ 281474976710656) (h63 : c ≤ 1000000)
    (hK : ∀ W, Blk W w.heap.size e (List.replicate c z) → Below w.heap.size w W → W.heap.size = w.heap.size + 1 → wpList P ops Q rest (a.put (some d) (.slice (some ⟨w.heap.size, 0, none⟩) n c)) W) :
    wpList P ops Q ({ dst := some d, op := .makeSlice t (.tmp i) (.tmp j), type := ty, pos := pos, after := af, guard := none } :: rest) a w := by
  obtain ⟨inf, hi, hzz⟩ := Option.map_eq_some_iff.1 hinfo
  simp only [Prod.mk.injEq] at hzz
  obtain ⟨hz, hs, hby⟩ := hzz
  have hr := run_make (P := P) w t e inf z ht hi hz .i64 .i64 (n : Int) (c : Int) (by omega) (by omega) (by rw [hby]; omega) (by omega)
  simp only [Int.toNat_natCast, hs, Nat.mul_one, hz1] at hr
  refine wpList_plain rfl fun K hK' => ?_
  unfold Oper.wp
  simp only [execOp, hl, hc, Sem.run_bind, hr, Result.andThen_ok, Sem.run_pure]
  exact hK' _ _ (hK _ (Blk.new _ _ _ _ (by rw [← made_rep, Array.toArray_toList])) (below_box _ _) (by simp))
end
section
variable {ops : Array Oper} {rest : List Oper} {dst : Option Nat} {i j : Nat} {ty : TypeId} {pos : String} {af : Array Edge} {a : Act} {w : World} {Q : Exit → Act → World → Prop}
theorem Sl.src {v : Value} {l : List Int} {m : Nat} (H : Sl w v l) (hm : m ≤ l.length) : (v = .slice none 0 0 ∧ l = []) ∨ ∃ ad c, v = .slice (some ad) l.length c ∧ ∀ k u, (nums (l.take m))[k]? = some u → w.cell? (ad.add k) = some u := by
  obtain ⟨ad, c, rfl, h1, h2, h3, h4⟩ := H
  cases ad with
  | none =>
    have := h3 rfl
    have h0 : l.length = 0 := by omega
    obtain rfl := List.eq_nil_of_length_eq_zero h0
    exact .inl ⟨by rw [this]; rfl, rfl⟩
  | some ad =>
    refine .inr ⟨ad, c, rfl, fun k u hk => ?_⟩
    have hkm : k < m := by
      rw [List.getElem?_eq_some_iff] at hk
      obtain ⟨h, _⟩ := hk
      simp only [nums, List.length_map, List.length_take] at h
      omega
    obtain ⟨b, off, ha, _, hc⟩ := h4 (by omega)
    cases ha
    rw [add_off, hc k (by omega)]
    rw [← hk]
    simp [nums, hkm, List.getElem?_eq_getElem (show k < l.length by omega), List.getD_eq_getElem?_getD]
/-- Numbers are copied. -/
theorem wpList_cp {g off n c m : Nat} {v : Value} {l : List Int} {cur : List Value} (hd : a.eval (.tmp i) = .slice (some ⟨g, off, none⟩) n c) (hs : a.eval (.tmp j) = v) (H : Sl w v l) (hB : Blk w g 3 cur) (hm : m = Nat.min l.length n) (hfit : off + m ≤ cur.length)
    (h : ∀ w', Blk w' g 3 (lay cur off (nums (l.take m))) → w.grownBy w' (some g) → wpList Tryz.prog ops Q rest (a.put dst (goInt m)) w') :
    wpList Tryz.prog ops Q ({ dst := dst, op := .call { callee := .builtin .copy, args := #[.tmp i, .tmp j], argTypes := #[24, 24] }, type := ty, pos := pos, after := af, guard := none } :: rest) a w := by
  have hml : m ≤ l.length := by rw [hm]; exact Nat.min_le_left _ _
  rcases H.src hml with ⟨rfl, rfl⟩ | ⟨ad, cc, rfl, hsrc⟩
  · obtain rfl : m = 0 := by rw [hm]; simp
    have hz : (Tryz.prog.info? 3).map (·.size) = some 1 := by kernel_rfl
    obtain ⟨inf, hi, hsz⟩ := Option.map_eq_some_iff.1 hz
    refine wpList_plain rfl fun K hK => ?_
    have hr : (Builtin.copy_ #[24, 24] ty #[.slice (some ⟨g, off, none⟩) n c, .slice none 0 0]).run Tryz.prog w = .ok (goInt 0) w := by
      simp [Builtin.copy_, run_underlying Tryz.underlying24, Builtin.lenOf, Builtin.firstCells, sizeOf, typeInfo, hi, storeCells]
    unfold Oper.wp execOp
    simp only [resolve, invoke, builtin, Sem.run_bind, Sem.run_pure, Result.andThen_ok, List.map_toArray, List.map_cons, List.map_nil, hd, hs, hr]
    refine hK _ _ (h w ?_ ⟨rfl, rfl, rfl, Nat.le_refl _, fun _ _ _ => rfl⟩)
    have : lay cur off (nums ((([] : List Int)).take 0)) = cur := by simp [lay, nums]
    rw [this]; exact hB
  · refine wpList_copy_k K22 rfl (.tmp i) (.tmp j) rfl g off n c ad l.length cc hd hs cur 3 (nums (l.take m)) hB ?_ hsrc ?_ nums_one ?_
    · simp only [nums, List.length_map, List.length_take, Nat.mul_one]; rw [← hm]; omega
    · simp only [nums, List.length_map, List.length_take]; omega
    · intro w' h1 h2
      have := h w' h1 h2
      rw [hm] at this
      exact this
end
end Go.Proofs.YtdddkfpcbfgocaaGreat
namespace Go.Proofs.YtdddkfpcbfgocaaGreat
open Go.RowKit Go.Over Go.Zn Go.Can Go.Seg Go.Grow
theorem CX.rc {w W : World} {g b c n : Nat} {bs : List Value} {L : List (List Int)} (h : CX w g b c bs L W) (hn : L.length = n) (hlc : n ≤ c) (hcm : c ≤ maxLen) : Rc W (.agg #[.slice (some ⟨b, 0, none⟩) n c]) L := ⟨_, rfl, b, c, bs, by rw [hn], by rw [hn]; exact hlc, hcm, h.v⟩
set_option maxRecDepth 100000 in set_option maxHeartbeats 3200000 in
theorem pcerr (v : Value) (L : List (List Int)) (z : Nat) (w : World) (H : Rc w v L) (hL : VC L) (hz : z < L.length) : Calls Tryz.prog 93 #[v, .int .i64 z] w fun e w' => e = .returned (.int .i64 0) ∧ Below w.heap.size w w' := by
  have HL := Lib.hid hL
  have hn6 := hL.l6
  clear hL
  obtain ⟨_, rfl, b, c, bs, rfl, hlc, hcm, hV⟩ := H
  have X0 := CX.new (c := c) hV
  clear hV
  obtain ⟨n, hn⟩ : ∃ n, L.length = n := ⟨_, rfl⟩
  rw [hn] at hlc hn6 ⊢
  have HN := Lib.hid hn
  clear hn
  go_enter Tryz.func93, Tryz.ntmps93
  go_upto_region 1 with fail
  obtain ⟨w1, hw1⟩ : ∃ W, W = w.alloc (.cells #[.slice (some ⟨b, 0, none⟩) n c] 93) := ⟨_, rfl⟩
  have X1 : CX w w.heap.size b c bs L w1 := by rw [hw1, ← HN.out]; exact X0
  rw [← hw1]
  obtain ⟨g, hg0⟩ : ∃ g, w.heap.size = g := ⟨_, rfl⟩
  rw [hg0] at X1 ⊢
  clear hw1 X0 hg0
  rw [HN.out] at hz
  have c0 := X1.c0
  rw [HN.out] at c0
  have hch := pcheck _ L w1 (X1.rc HN.out hlc hcm) HL.out
  rw [HN.out] at hch
  have HCH := Lib.hid hch
  clear hch
  go_wp2_with fail
  refine HCH.out.mono ?_
  rintro e w5 ⟨rfl, b5⟩
  have X5 := X1.below b5
  have c5 := cell_later b5 c0
  have tz : decide ((n : Int) ≤ (z : Int)) = false := by simp; omega
  clear X1 c0 b5
  go_wp2
  go_ret
  exact ⟨rfl, X5.b⟩
theorem infoI : (Tryz.prog.info? 3).map (fun i => (i.zero, i.size, i.bytes)) = some (some (.int .i64 0), 1, 8) := by kernel_rfl
theorem infoL : (Tryz.prog.info? 24).map (fun i => (i.zero, i.size, i.bytes)) = some (some (.slice none 0 0), 1, 24) := by kernel_rfl
theorem rep_get {α : Type} {v : α} {n i : Nat} (h : i < n) : (List.replicate n v)[i]? = some v := by rw [List.getElem?_replicate, if_pos h]
theorem Sl.nil (w : World) : Sl w (.slice none 0 0) [] := ⟨none, 0, rfl, Nat.le_refl _, Nat.zero_le _, fun _ => rfl, fun h => by simp at h⟩
theorem infoC : (Tryz.prog.info? 93).map (·.size) = some 1 := by kernel_rfl
section
variable {ops : Array Oper} {rest : List Oper} {i j d : Nat} {ty : TypeId} {pos : String} {af : Array Edge} {a : Act} {w : World} {Q : Exit → Act → World → Prop} {g : Nat} {u v : Value}
/-- A cache is stored whole. -/
theorem stC (hx : a.eval (.tmp i) = .pointer (some ⟨g, 0, none⟩)) (hy : a.eval (.tmp j) = .agg #[v]) (hB : Blk w g 93 [u]) (h1 : v.oneCell' = true)
    (h : ∀ W, Blk W g 93 [v] → w.grownBy W (some g) → wpList Tryz.prog ops Q rest (a.put none undef) W) :
    wpList Tryz.prog ops Q ({ dst := none, op := .store 93 (.tmp i) (.tmp j), type := ty, pos := pos, after := af, guard := none } :: rest) a w :=
  wpList_store_part (cs := [v]) infoC hx hy hB (by simp) (by intro x hx; simp at hx; subst hx; exact h1) fun W q1 q2 => h W q1 q2
theorem ldC (hx : a.eval (.tmp i) = .pointer (some ⟨g, 0, none⟩)) (hB : Blk w g 93 [v]) (h : wpList Tryz.prog ops Q rest (a.put (some d) (.agg #[v])) w) :
    wpList Tryz.prog ops Q ({ dst := some d, op := .load 93 (.tmp i), type := ty, pos := pos, after := af, guard := none } :: rest) a w :=
  wpList_load_row rfl 93 (.tmp i) rfl g hx 93 #[v] (0, 0) _ hB Tryz.underlying93 rfl (by rw [infoC]; rfl) h
theorem resC {fn : Func} {p : Tmp} (h : fn.results = #[.cell p 93]) (tmps : Array Value) (w : World) (g : Nat) (v : Value) (hp : tmps.getD p undef = .pointer (some ⟨g, 0, none⟩)) (hg : Blk w g 93 [v]) :
    (results fn tmps).run Tryz.prog w = .ok (.agg #[v]) w :=
  results_cell_row h tmps w g 93 #[v] (0, 0) _ hp hg Tryz.underlying93 rfl (by rw [infoC]; rfl)
theorem resC1 {fn : Func} {p q : Tmp} (h : fn.results = #[.cell p 93, .tmp q]) (tmps : Array Value) (w : World) (g : Nat) (v y : Value) (hp : tmps.getD p undef = .pointer (some ⟨g, 0, none⟩)) (hg : Blk w g 93 [v]) (hv : tmps.getD q undef = y) :
    (results fn tmps).run Tryz.prog w = .ok (.tuple #[.agg #[v], y]) w := by
  have hp' : tmps[p]?.getD undef = .pointer (some ⟨g, 0, none⟩) := by simpa using hp
  have hv' : tmps[q]?.getD undef = y := by simpa using hv
  have hl := run_loadVar_row (P := Tryz.prog) w g 93 93 #[v] (0, 0) _ hg Tryz.underlying93 rfl (by rw [infoC]; rfl)
  simp [results, h, hp', hv', asAddr, hl]
theorem resC2 {fn : Func} {p q r : Tmp} (h : fn.results = #[.cell p 93, .tmp q, .tmp r]) (tmps : Array Value) (w : World) (g : Nat) (v y z : Value) (hp : tmps.getD p undef = .pointer (some ⟨g, 0, none⟩)) (hg : Blk w g 93 [v]) (hv : tmps.getD q undef = y) (hz : tmps.getD r undef = z) :
    (results fn tmps).run Tryz.prog w = .ok (.tuple #[.agg #[v], y, z]) w := by
  have hp' : tmps[p]?.getD undef = .pointer (some ⟨g, 0, none⟩) := by simpa using hp
  have hv' : tmps[q]?.getD undef = y := by simpa using hv
  have hz' : tmps[r]?.getD undef = z := by simpa using hz
  have hl := run_loadVar_row (P := Tryz.prog) w g 93 93 #[v] (0, 0) _ hg Tryz.underlying93 rfl (by rw [infoC]; rfl)
  simp [results, h, hp', hv', hz', asAddr, hl]
end
set_option maxRecDepth 100000 in set_option maxHeartbeats 3200000 in
theorem pcnew (n : Nat) (w : World) (h1 : 1 ≤ n) (h6 : n ≤ 6) : Calls Tryz.prog 46 #[.int .i64 n] w fun e w' => ∃ v, e = .returned (.tuple #[v, .int .i64 0]) ∧ Rc w' v (List.replicate n []) ∧ Below w.heap.size w w' := by
  have b1 := below_box w (.cells #[.slice none 0 0] 93)
  have Z1 := Blk.new w 93 #[.slice none 0 0] [.slice none 0 0] rfl
  have tn : decide ((6 : Int) < (n : Int)) = false := by simp; omega
  go_enter Tryz.func46, Tryz.ntmps46
  go_upto_region 1 with fail
  obtain ⟨w1, hw1⟩ : ∃ W, W = w.alloc (.cells #[.slice none 0 0] 93) := ⟨_, rfl⟩
  rw [← hw1] at b1 Z1 ⊢
  obtain ⟨gr, hgr⟩ : ∃ g, w.heap.size = g := ⟨_, rfl⟩
  rw [hgr] at Z1 ⊢
  clear hw1
  have c1 : w1.cell? ⟨gr, 0, none⟩ = some (.slice none 0 0) := by rw [Z1.cell]; rfl
  have hne : gr ≠ w1.heap.size := by have := Z1.lt; omega
  go_wp2_with first | ((with_reducible refine wpList_mk (.slice none 0 0) Tryz.underlying91 infoL rfl ?_ ?_ (Nat.le_refl n) (by omega) (by omega) ?_); (focus rfl); (focus rfl); intro w2 hB2 b2 hs2; have Z2 := Z1.later b2) | ((with_reducible refine stC (u := .slice none 0 0) (v := .slice (some ⟨w1.heap.size, 0, none⟩) n n) ?_ ?_ Z2 ?_ ?_); (focus rfl); (focus rfl); (focus rfl); intro w3 hB3 hg3)
  refine bodyPost_ret (resC1 rfl _ _ gr _ _ rfl hB3 rfl) rfl ?_
  have hB3' := hB2.grown hg3 (by simpa using hne)
  refine ⟨_, rfl, ⟨_, rfl, w1.heap.size, n, List.replicate n (.slice none 0 0), by rw [List.length_replicate], by simp, by unfold maxLen; omega, hB3', by simp, fun i l hl => ?_⟩, ?_⟩
  · have hin : i < n := by rw [List.getElem?_eq_some_iff] at hl; obtain ⟨h, _⟩ := hl; simpa using h
    rw [rep_get hin] at hl
    cases hl
    exact ⟨_, rep_get hin, Sl.nil _⟩
  · exact (below_then b1 b2).grown hg3 (Nat.le_trans b1.size b2.size) (fun k hk => by cases hk; omega)
end Go.Proofs.YtdddkfpcbfgocaaGreat
