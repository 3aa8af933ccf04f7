/- Walks: a copy of a device, of the program: its blocks. -/
import Derived.Test.YtlhbjmoncdljoaaD6
namespace Go.Proofs.Ytlhbjmoncdljoaa
open Go.RowKit Go.Over Go.Dev Go.Seg Go.Grow
/-- What is known of the blocks of a copy under way. -/
structure Keep (w0 : World) (A C D : List Value) (X T : Nat) (E : List Value) (W : World) : Prop where
  b : Below w0.heap.size w0 W
  a : Blk W w0.heap.size 26 A
  c : Blk W (w0.heap.size + 1) 26 C
  d : Blk W (w0.heap.size + 1 + 1) 26 D
  x : Blk W X T E
section
variable {w0 : World} {A C D : List Value} {X T : Nat} {E : List Value} {W W' : World}
theorem Keep.below (h : Keep w0 A C D X T E W) (hb : Below W.heap.size W W') : Keep w0 A C D X T E W' :=
  ⟨below_then h.b hb, h.a.later hb, h.c.later hb, h.d.later hb, h.x.later hb⟩
theorem Keep.grown {U : Value} {base m e size : Nat} {xs : List Value} (h : Keep w0 A C D X T E W) (hg : W.grownBy W' U.ownBlock) (ho : W.ownsRow base e size U m xs) (hb : w0.heap.size ≤ base) (he : e ≠ 26) (hX : U.ownBlock ≠ some X) : Keep w0 A C D X T E W' :=
  ⟨h.b.grown hg h.b.size (fun q hq => by have := (World.ownsRow.lt ho q hq).1; omega), h.a.grown hg (h.a.not_own ho he), h.c.grown hg (h.c.not_own ho he), h.d.grown hg (h.d.not_own ho he), h.x.grown hg hX⟩
theorem Keep.other {X' T' : Nat} {E' : List Value} (h : Keep w0 A C D X T E W) (hx : Blk W X' T' E') : Keep w0 A C D X' T' E' W := ⟨h.b, h.a, h.c, h.d, hx⟩
theorem Keep.store (h : Keep w0 A C D X T E W) (i : Nat) (u : Value) : Keep w0 A C (D.set i u) w0.heap.size 26 A (W.setCell ⟨w0.heap.size + 1 + 1, i, none⟩ u) := by
  have ha : Blk (W.setCell ⟨w0.heap.size + 1 + 1, i, none⟩ u) w0.heap.size 26 A := h.a.far (by show w0.heap.size ≠ w0.heap.size + 1 + 1; omega) _
  exact ⟨h.b.setCell (by show w0.heap.size ≤ w0.heap.size + 1 + 1; omega) _, ha, h.c.far (by show w0.heap.size + 1 ≠ w0.heap.size + 1 + 1; omega) _, h.d.set i u, ha⟩
theorem Keep.boxed (h : Keep w0 A C D X T E W) (T' : Nat) (cs : Array Value) (l : List Value) (hl : cs = l.toArray) : Keep w0 A C D W.heap.size T' l (W.alloc (.cells cs T')) := ((h.below (below_box W _)).other (Blk.new W T' cs l hl))
end
def zD : List Value := [.int .i64 0, .int .i64 0, .slice none 0 0, .slice none 0 0, .slice none 0 0]
theorem keep_start (w : World) (dp nx : Int) (sB sC sQ : Value) :
    Keep w [.int .i64 dp, .int .i64 nx, sB, sC, sQ] zD [.int .i64 dp, .int .i64 nx, .slice none 0 0, .slice none 0 0, .slice none 0 0] w.heap.size 26 [.int .i64 dp, .int .i64 nx, sB, sC, sQ]
      (((w.alloc (.cells #[.int .i64 dp, .int .i64 nx, sB, sC, sQ] 26)).alloc (.cells #[.int .i64 0, .int .i64 0, .slice none 0 0, .slice none 0 0, .slice none 0 0] 26)).alloc (.cells #[.int .i64 dp, .int .i64 nx, .slice none 0 0, .slice none 0 0, .slice none 0 0] 26)) := by
  have ha := ((Blk.new w 26 #[.int .i64 dp, .int .i64 nx, sB, sC, sQ] [.int .i64 dp, .int .i64 nx, sB, sC, sQ] rfl).alloc (.cells #[.int .i64 0, .int .i64 0, .slice none 0 0, .slice none 0 0, .slice none 0 0] 26)).alloc (.cells #[.int .i64 dp, .int .i64 nx, .slice none 0 0, .slice none 0 0, .slice none 0 0] 26)
  refine ⟨(by repeat (first | with_reducible exact Below.refl _ _ | with_reducible assumption | with_reducible refine below_alloc ?_ _ | with_reducible refine Below.drew ?_ | with_reducible refine below_drewN ?_ _ | with_reducible refine below_then ?_ (by with_reducible assumption))), ha, ?_, ?_, ha⟩
  · have := (Blk.new (w.alloc (.cells #[.int .i64 dp, .int .i64 nx, sB, sC, sQ] 26)) 26 #[.int .i64 0, .int .i64 0, .slice none 0 0, .slice none 0 0, .slice none 0 0] zD rfl).alloc (.cells #[.int .i64 dp, .int .i64 nx, .slice none 0 0, .slice none 0 0, .slice none 0 0] 26)
    simpa using this
  · have := Blk.new ((w.alloc (.cells #[.int .i64 dp, .int .i64 nx, sB, sC, sQ] 26)).alloc (.cells #[.int .i64 0, .int .i64 0, .slice none 0 0, .slice none 0 0, .slice none 0 0] 26)) 26 #[.int .i64 dp, .int .i64 nx, .slice none 0 0, .slice none 0 0, .slice none 0 0] [.int .i64 dp, .int .i64 nx, .slice none 0 0, .slice none 0 0, .slice none 0 0] rfl
    simpa using this
/-- A block of the row's own type, but another one. -/
theorem Row.farX {α : Type} {e size B : Nat} {R : World → List Value → α → Prop} {w : World} {V : Value} {l : List α} (E : Ent size R) (h : Row e size R w B V l) {g t : Nat} {cs : List Value} (hg : Blk w g t cs) (h2 : t ≠ 5) (hV : V.ownBlock ≠ some g) (i : Nat) (u : Value) : Row e size R (w.setCell ⟨g, i, none⟩ u) B V l := by
  obtain ⟨xs, ho, ha⟩ := h
  have hgr : w.grownBy (w.setCell ⟨g, i, none⟩ u) (some g) := ⟨rfl, rfl, rfl, by simp [World.setCell], fun k _ hk => Below.heap_setCell w ⟨g, i, none⟩ u k (fun e => hk (by rw [e]))⟩
  exact ⟨xs, ho.kept hgr (.inr hV), ha.mono fun x s hr => E.k5 _ _ _ _ (K5.set hg h2 i u) hr⟩
/-- A device in rows of a call's own. -/
def OwnD (w : World) (B : Nat) (v : Value) (d : D) : Prop := ∃ VB VC VQ, v = .agg #[.int .i64 d.dp, .int .i64 d.nx, VB, VC, VQ] ∧ Row 31 1 RB w B VB d.bl ∧ Row 64 2 RC w B VC d.ca ∧ Row 39 4 RQ w B VQ d.qu
theorem take_len {α : Type} {l : List α} {n i : Nat} (hn : l.length = n) (hi : i ≤ n) : (l.take i).length = i := by rw [List.length_take]; omega
theorem take_snoc {α : Type} {l : List α} {i : Nat} {s : α} (hs : l[i]? = some s) : l.take (i + 1) = l.take i ++ [s] := by rw [List.take_add_one, hs]; rfl
set_option maxRecDepth 100000 in set_option maxHeartbeats 3200000 in
theorem clone_45 (dp nx : Int) (aB aC aQ : Option Addr) (bl : List (List Int)) (ca : List Ca) (qu : List Rq) (nB cB nC cC nQ cQ : Nat) (w : World) (HB : Bls w aB bl) (HC : Cas w aC ca) (HQ : Rqs w aQ qu) (hB : bl.length = nB) (hC : ca.length = nC) (hQ : qu.length = nQ) (mB : nB ≤ 1000) (mC : nC ≤ 1000) (mQ : nQ ≤ 1000)
    (lB : ∀ b ∈ bl, b.length ≤ 1000) (lC : ∀ c ∈ ca, c.2.length ≤ 1000) (lQ : ∀ q ∈ qu, q.2.2.2.length ≤ 1000) :
    Calls Try.prog 45 #[.agg #[.int .i64 dp, .int .i64 nx, .slice aB nB cB, .slice aC nC cC, .slice aQ nQ cQ]] w fun e w' => ∃ v, e = .returned v ∧ OwnD w' w.heap.size v ⟨dp, nx, bl, ca, qu⟩ ∧ Below w.heap.size w w' := by
  have NB := Lib.hid hB; have NC := Lib.hid hC; have NQ := Lib.hid hQ
  have LB := Lib.hid lB; have LC := Lib.hid lC; have LQ := Lib.hid lQ
  clear hB hC hQ lB lC lQ
  go_enter Try.func45, Try.ntmps45
  go_wp2
  have hK0 := keep_start w dp nx (.slice aB nB cB) (.slice aC nC cC) (.slice aQ nQ cQ)
  go_loopg [18] nB (fun g i0 wr => ∃ (i : Nat) (V : Value), i + g = nB ∧ i0 = .int .i64 i ∧ Row 31 1 RB wr w.heap.size V (bl.take i) ∧ Keep w [.int .i64 dp, .int .i64 nx, .slice aB nB cB, .slice aC nC cC, .slice aQ nQ cQ] zD [.int .i64 dp, .int .i64 nx, V, .slice none 0 0, .slice none 0 0] w.heap.size 26 [.int .i64 dp, .int .i64 nx, .slice aB nB cB, .slice aC nC cC, .slice aQ nQ cQ] wr)
  case atStart => exact ⟨0, .slice none 0 0, by omega, rfl, Row.nil _ _, hK0⟩
  case round =>
    clear hK0
    obtain ⟨i, V, hg, rfl, hR, hK⟩ := hrel
    obtain ⟨aV, cV, rfl, _, _, _⟩ := hR.form (take_len NB.out (by omega))
    cases gk with
    | zero =>
      obtain rfl : i = nB := by omega
      have hRB : Row 31 1 RB wr w.heap.size (.slice aV i cV) bl := by rw [List.take_of_length_le (by rw [NB.out]; exact Nat.le_refl _)] at hR; exact hR
      have a3 := hK.a.cell 3
      simp only [List.getElem?_cons_zero, List.getElem?_cons_succ] at a3
      clear hg hR
      go_wp2
      clear a3
      go_loopg [33] nC (fun g i0 wr => ∃ (j : Nat) (V : Value), j + g = nC ∧ i0 = .int .i64 j ∧ Row 64 2 RC wr w.heap.size V (ca.take j) ∧ Row 31 1 RB wr w.heap.size (.slice aV i cV) bl ∧ Keep w [.int .i64 dp, .int .i64 nx, .slice aB i cB, .slice aC nC cC, .slice aQ nQ cQ] zD [.int .i64 dp, .int .i64 nx, .slice aV i cV, V, .slice none 0 0] w.heap.size 26 [.int .i64 dp, .int .i64 nx, .slice aB i cB, .slice aC nC cC, .slice aQ nQ cQ] wr)
      case atStart => exact ⟨0, .slice none 0 0, by omega, rfl, Row.nil _ _, hRB, hK⟩
      case round =>
        clear hRB hK
        obtain ⟨j, V, hg, rfl, hR, hRB, hK⟩ := hrel
        obtain ⟨aW, cW, rfl, _, _, _⟩ := hR.form (take_len NC.out (by omega))
        cases gk with
        | zero =>
          obtain rfl : j = nC := by omega
          have hRC : Row 64 2 RC wr w.heap.size (.slice aW j cW) ca := by rw [List.take_of_length_le (by rw [NC.out]; exact Nat.le_refl _)] at hR; exact hR
          have a4 := hK.a.cell 4
          simp only [List.getElem?_cons_zero, List.getElem?_cons_succ] at a4
          clear hg hR
          go_wp2
          clear a4
          go_loopg [52] nQ (fun g i0 wr => ∃ (k : Nat) (V : Value), k + g = nQ ∧ i0 = .int .i64 k ∧ Row 39 4 RQ wr w.heap.size V (qu.take k) ∧ Row 31 1 RB wr w.heap.size (.slice aV i cV) bl ∧ Row 64 2 RC wr w.heap.size (.slice aW j cW) ca ∧ Keep w [.int .i64 dp, .int .i64 nx, .slice aB i cB, .slice aC j cC, .slice aQ nQ cQ] zD [.int .i64 dp, .int .i64 nx, .slice aV i cV, .slice aW j cW, V] w.heap.size 26 [.int .i64 dp, .int .i64 nx, .slice aB i cB, .slice aC j cC, .slice aQ nQ cQ] wr)
          case atStart => exact ⟨0, .slice none 0 0, by omega, rfl, Row.nil _ _, hRB, hRC, hK⟩
          case round =>
            clear hRB hRC hK
            obtain ⟨k, V, hg, rfl, hR, hRB, hRC, hK⟩ := hrel
            obtain ⟨aU, cU, rfl, _, _, _⟩ := hR.form (take_len NQ.out (by omega))
            cases gk with
            | zero =>
              obtain rfl : k = nQ := by omega
              have hRQ : Row 39 4 RQ wr w.heap.size (.slice aU k cU) qu := by rw [List.take_of_length_le (by rw [NQ.out]; exact Nat.le_refl _)] at hR; exact hR
              have e0 := hK.d.cell 0
              have e1 := hK.d.cell 1
              have e2 := hK.d.cell 2
              have e3 := hK.d.cell 3
              have e4 := hK.d.cell 4
              have f0 := hK.c.cell 0
              have f1 := hK.c.cell 1
              have f2 := hK.c.cell 2
              have f3 := hK.c.cell 3
              have f4 := hK.c.cell 4
              have g0 := hK.c.frozen 0
              have g1 := hK.c.frozen 1
              have g2 := hK.c.frozen 2
              have g3 := hK.c.frozen 3
              have g4 := hK.c.frozen 4
              simp only [zD, List.getElem?_cons_zero, List.getElem?_cons_succ] at e0 e1 e2 e3 e4 f0 f1 f2 f3 f4
              clear hg hR
              go_wp2
              clear e0 e1 e2 e3 e4 f0 f1 f2 f3 f4 g0 g1 g2 g3 g4
              have C1 := hK.c.set 0 (.int .i64 dp)
              have C2 := C1.set 1 (.int .i64 nx)
              have C3 := C2.set 2 (.slice aV i cV)
              have C4 := C3.set 3 (.slice aW j cW)
              have C5 := C4.set 4 (.slice aU k cU)
              refine bodyPost_ret (v := .agg #[.int .i64 dp, .int .i64 nx, .slice aV i cV, .slice aW j cW, .slice aU k cU]) (results_cell_row (p := 2) (ty := 26) rfl _ _ (w.heap.size + 1) 26 #[.int .i64 dp, .int .i64 nx, .slice aV i cV, .slice aW j cW, .slice aU k cU] (0, 0) _ rfl C5 Try.underlying26 rfl (by kernel_rfl)) rfl ⟨_, rfl, ⟨_, _, _, rfl, ?_, ?_, ?_⟩, ?_⟩
              · exact ((((hRB.far EB hK.c (by decide) (by decide) 0 _).far EB C1 (by decide) (by decide) 1 _).far EB C2 (by decide) (by decide) 2 _).far EB C3 (by decide) (by decide) 3 _).far EB C4 (by decide) (by decide) 4 _
              · exact ((((hRC.far EC hK.c (by decide) (by decide) 0 _).far EC C1 (by decide) (by decide) 1 _).far EC C2 (by decide) (by decide) 2 _).far EC C3 (by decide) (by decide) 3 _).far EC C4 (by decide) (by decide) 4 _
              · exact ((((hRQ.far EQ hK.c (by decide) (by decide) 0 _).far EQ C1 (by decide) (by decide) 1 _).far EQ C2 (by decide) (by decide) 2 _).far EQ C3 (by decide) (by decide) 3 _).far EQ C4 (by decide) (by decide) 4 _
              · exact ((((hK.b.setCell (by simp) _).setCell (by simp) _).setCell (by simp) _).setCell (by simp) _).setCell (by simp) _
            | succ g =>
              have hin : k < nQ := by omega
              obtain ⟨⟨q1, q2, q3, s⟩, hs⟩ := get_some NQ.out hin
              have hsl := LQ.out _ (List.mem_of_getElem? hs)
              have TS := Lib.hid (take_snoc hs)
              have TL := Lib.hid (take_len NQ.out (show k ≤ nQ by omega))
              obtain ⟨b, off, rfl, hc⟩ := (HQ.below hK.b) (by rw [NQ.out]; omega)
              obtain ⟨s1, s2, s3, a', c', s0, hc1, hc2, hc3, hbt⟩ := hc k _ hs
              obtain ⟨m, hm⟩ : ∃ m, s.length = m := ⟨_, rfl⟩
              simp only [hm] at s0 s1 s2 s3 hc1 hsl
              have HM := Lib.hid hm; have HG := Lib.hid hg
              clear hc hs hm hg
              have hKx := hK.boxed 39 #[.int .i64 q1, .int .i64 q2, .int .i64 q3, .slice a' m c'] [.int .i64 q1, .int .i64 q2, .int .i64 q3, .slice a' m c'] rfl
              have hRx := hR.later EQ (below_box wr (.cells #[.int .i64 q1, .int .i64 q2, .int .i64 q3, .slice a' m c'] 39))
              have hRBx := hRB.later EB (below_box wr (.cells #[.int .i64 q1, .int .i64 q2, .int .i64 q3, .slice a' m c'] 39))
              have hRCx := hRC.later EC (below_box wr (.cells #[.int .i64 q1, .int .i64 q2, .int .i64 q3, .slice a' m c'] 39))
              have hbx := hbt.below (below_box wr (.cells #[.int .i64 q1, .int .i64 q2, .int .i64 q3, .slice a' m c'] 39))
              have hVX : (Value.slice aU k cU).ownBlock ≠ some wr.heap.size := fun h => by
                obtain ⟨_, ho, _⟩ := hR
                have := (World.ownsRow.lt ho _ h).2
                omega
              have hwr := hK.b.size
              clear hK hR hRB hRC hbt
              go_wp2_with fail
              refine (clone_44 a' s m c' _ hbx HM.out hc3 hc1 (by omega)).mono ?_
              rintro e w2 ⟨v, rfl, hv, hb2⟩
              obtain ⟨a2, c2, rfl, _, _, _, _⟩ := hv.form HM.out
              have hK2 := hKx.below hb2
              have hR2 := hRx.later EQ hb2
              have hRB2 := hRBx.later EB hb2
              have hRC2 := hRCx.later EC hb2
              have x3 := hK2.x.cell 3
              have y3 := hK2.x.frozen 3
              have x0 := hK2.x.cell 0
              have x1 := hK2.x.cell 1
              have x2 := hK2.x.cell 2
              have d4 := hK2.d.cell 4
              have y4 := hK2.d.frozen 4
              simp only [List.getElem?_cons_zero, List.getElem?_cons_succ] at x0 x1 x2 x3 d4
              have hne := hK2.d.ne_type hK2.x (by decide)
              have hneA := hK2.a.ne_type hK2.x (by decide)
              have hneC := hK2.c.ne_type hK2.x (by decide)
              have hK3 : Keep w [.int .i64 dp, .int .i64 nx, .slice aB i cB, .slice aC j cC, .slice (some ⟨b, off, none⟩) nQ cQ] zD [.int .i64 dp, .int .i64 nx, .slice aV i cV, .slice aW j cW, .slice aU k cU] wr.heap.size 39 [.int .i64 q1, .int .i64 q2, .int .i64 q3, .slice a2 m c2] (w2.setCell ⟨wr.heap.size, 3, none⟩ (.slice a2 m c2)) := ⟨hK2.b.setCell (by show w.heap.size ≤ wr.heap.size; exact hwr) _, hK2.a.far hneA _, hK2.c.far hneC _, hK2.d.far hne _, hK2.x.set 3 (.slice a2 m c2)⟩
              have hR3 := Row.farX EQ hR2 hK2.x (by decide) hVX 3 (.slice a2 m c2)
              have hRB3 := hRB2.far EB hK2.x (by decide) (by decide) 3 (.slice a2 m c2)
              have hRC3 := hRC2.far EC hK2.x (by decide) (by decide) 3 (.slice a2 m c2)
              have hv3 := hv.k5 (K5.set hK2.x (by decide) 3 (.slice a2 m c2))
              have hK4 := hK3.below (below_box _ (.cells #[.int .i64 q1, .int .i64 q2, .int .i64 q3, .slice a2 m c2] 39))
              have hR4 := hR3.later EQ (below_box _ (.cells #[.int .i64 q1, .int .i64 q2, .int .i64 q3, .slice a2 m c2] 39))
              have hRB4 := hRB3.later EB (below_box _ (.cells #[.int .i64 q1, .int .i64 q2, .int .i64 q3, .slice a2 m c2] 39))
              have hRC4 := hRC3.later EC (below_box _ (.cells #[.int .i64 q1, .int .i64 q2, .int .i64 q3, .slice a2 m c2] 39))
              have hv4 := hv3.k5 (K5.below (below_box _ (.cells #[.int .i64 q1, .int .i64 q2, .int .i64 q3, .slice a2 m c2] 39)))
              obtain ⟨xs, hown0, hall⟩ := hR4
              rw [TL.out] at hown0
              have z0 := hK3.x.cell 0
              have z1 := hK3.x.cell 1
              have z2 := hK3.x.cell 2
              have z3 := hK3.x.cell 3
              have z4 := hK3.d.cell 4
              simp only [List.getElem?_cons_zero, List.getElem?_cons_succ] at z0 z1 z2 z3 z4
              clear hK2 hR2 hRB2 hRC2 hRBx hRCx hRx hKx hbx hb2 hR3 hRB3 hRC3 hv3 hv x0 x1 x2 d4 y4 s0 s1 s2 s3
              have hsz3 : (w2.setCell ⟨wr.heap.size, 3, none⟩ (.slice a2 m c2)).heap.size = w2.heap.size := by simp [World.setCell]
              have hsrc := src_new (w2.setCell ⟨wr.heap.size, 3, none⟩ (.slice a2 m c2)) #[.int .i64 q1, .int .i64 q2, .int .i64 q3, .slice a2 m c2] 39 4 1 1 rfl (by simp [Value.oneCell'])
              rw [hsz3] at hsrc
              have HSRC := Lib.hid hsrc; have HSZ := Lib.hid hsz3; clear hsrc hsz3
              go_wp2_with (at_builtin; refine wpList_append_k K24 rfl (.tmp 61) (.tmp 63) rfl _ _ _ rfl hown0 _ 1 1 _ rfl HSRC.out ?c1 ?c2 ?_)
              case c1 => omega
              case c2 => exact hK4.b.size
              intro V5 w5 hown hgrow _
              have hK5 := hK4.grown hgrow hown0 (Nat.le_refl _) (by decide) hVX
              have hk5 := K5.grown hgrow hown0 (by decide)
              have hR5 : Row 39 4 RQ w5 w.heap.size V5 (qu.take (k + 1)) := by
                rw [TS.out]
                exact Row.push EQ hall hk5 hown (by rw [TL.out]) ⟨_, rfl, hv4.k5 hk5⟩
              have hRB5 := hRB4.other EB hgrow hown0 (by decide) (by decide)
              have hRC5 := hRC4.other EC hgrow hown0 (by decide) (by decide)
              obtain ⟨a4, c4, rfl, _, _, _⟩ := hR5.form (n := _ + 1) (take_len NQ.out hin)
              have d1 := hK5.d.cell 4
              have d2 := hK5.d.frozen 4
              simp only [List.getElem?_cons_zero, List.getElem?_cons_succ] at d1
              clear hown hgrow hown0 hall hk5 hv4 hK3 hK4 hRB4 hRC4 z0 z1 z2 z3 z4
              go_wp2
              go_roundg g
              case rel =>
                refine ⟨k + 1, _, by have := HG.out; omega, by go_num, hR5.far EQ hK5.d (by decide) (by decide) 4 _, hRB5.far EB hK5.d (by decide) (by decide) 4 _, hRC5.far EC hK5.d (by decide) (by decide) 4 _, ?_⟩
                exact hK5.store 4 _
              case measure => omega
        | succ g =>
          have hin : j < nC := by omega
          obtain ⟨⟨k0, s⟩, hs⟩ := get_some NC.out hin
          have hsl := LC.out _ (List.mem_of_getElem? hs)
          have TS := Lib.hid (take_snoc hs)
          have TL := Lib.hid (take_len NC.out (show j ≤ nC by omega))
          obtain ⟨b, off, rfl, hc⟩ := (HC.below hK.b) (by rw [NC.out]; omega)
          obtain ⟨s1, a', c', s0, hc1, hc2, hc3, hbt⟩ := hc j _ hs
          obtain ⟨m, hm⟩ : ∃ m, s.length = m := ⟨_, rfl⟩
          simp only [hm] at s0 s1 hc1 hsl
          have HM := Lib.hid hm; have HG := Lib.hid hg
          clear hc hs hm hg
          have hKx := hK.boxed 64 #[.int .i64 k0, .slice a' m c'] [.int .i64 k0, .slice a' m c'] rfl
          have hRx := hR.later EC (below_box wr (.cells #[.int .i64 k0, .slice a' m c'] 64))
          have hRBx := hRB.later EB (below_box wr (.cells #[.int .i64 k0, .slice a' m c'] 64))
          have hbx := hbt.below (below_box wr (.cells #[.int .i64 k0, .slice a' m c'] 64))
          have hVX : (Value.slice aW j cW).ownBlock ≠ some wr.heap.size := fun h => by
            obtain ⟨_, ho, _⟩ := hR
            have := (World.ownsRow.lt ho _ h).2
            omega
          clear hK hR hRB hbt
          go_wp2
          clear s0 s1
          refine wp_region_in (Keep w [.int .i64 dp, .int .i64 nx, .slice aB i cB, .slice (some ⟨b, off, none⟩) nC cC, .slice aQ nQ cQ] zD [.int .i64 dp, .int .i64 nx, .slice aV i cV, .slice aW j cW, .slice none 0 0] wr.heap.size 64 [.int .i64 k0, .slice a' m c']) [(true, 6), (false, 1), (true, 1), (false, 1), (false, 1), (true, 1), (false, 1)] [0, 1, 2, 3, 4, 5, 6, 7, 8, 9, 10, 11] 11 (by kernel_rfl) (by kernel_rfl) (hKx.below (Below.refl _ _).drew) ?_
          intro W hW hWe
          have hRW : Row 64 2 RC W w.heap.size (.slice aW j cW) (ca.take j) := by rw [hWe]; exact hRx.later EC (Below.refl _ _).drew
          have hRBW : Row 31 1 RB W w.heap.size (.slice aV i cV) bl := by rw [hWe]; exact hRBx.later EB (Below.refl _ _).drew
          have hbW : Bt W a' s := by rw [hWe]; exact hbx.below (Below.refl _ _).drew
          clear hWe hRx hRBx hbx hKx
          simp only [wpSegsL, inOrder, List.filterMap_cons, List.filterMap_nil, List.getElem?_cons_zero, List.getElem?_cons_succ, List.take_succ_cons, List.take_zero, List.drop_succ_cons, List.drop_zero]
          have q1 := fun z => (hold_ok hW z).d.cell 3
          have q2 := fun z => (hold_ok hW z).x.cell 0
          have q3 := fun z => (hold_ok hW z).x.cell 1
          simp only [List.getElem?_cons_zero, List.getElem?_cons_succ] at q1 q2 q3
          repeat (go_big_quiet_step (fail))
          refine wpQuiet_nil ?_
          clear q1 q2 q3
          go_wp2_with fail
          refine (clone_44 a' s m c' W hbW HM.out hc3 hc1 (by omega)).mono ?_
          rintro e w2 ⟨v, rfl, hv, hb2⟩
          obtain ⟨a2, c2, rfl, _, _, _, _⟩ := hv.form HM.out
          have hK2 := hW.below hb2
          have hR2 := hRW.later EC hb2
          have hRB2 := hRBW.later EB hb2
          clear hW hRW hRBW hbW hb2
          go_wp2
          refine ⟨hold_of hK2, ?_⟩
          dsimp only
          repeat (go_big_quiet_step (fail))
          refine wpQuiet_nil ?_
          go_wp2
          have hK3 := hK2.below (below_box w2 (.cells #[.int .i64 k0, .slice a2 m c2] 64))
          have hR3 := hR2.later EC (below_box w2 (.cells #[.int .i64 k0, .slice a2 m c2] 64))
          have hRB3 := hRB2.later EB (below_box w2 (.cells #[.int .i64 k0, .slice a2 m c2] 64))
          have hv3 := hv.k5 (K5.below (below_box w2 (.cells #[.int .i64 k0, .slice a2 m c2] 64)))
          refine ⟨hold_of hK3, ?_⟩
          obtain ⟨xs, hown0, hall⟩ := hR3
          rw [TL.out] at hown0
          refine wpList_append_k K23 rfl (.tmp 38) (.tmp 45) rfl _ _ _ rfl hown0 _ 1 1 _ rfl (src_new w2 #[.int .i64 k0, .slice a2 m c2] 64 2 1 1 rfl (by simp [Value.oneCell'])) ?c1 ?c2 ?_
          case c1 => omega
          case c2 => exact hK3.b.size
          intro V4 w4 hown hgrow _
          have hK4 := hK3.grown hgrow hown0 (Nat.le_refl _) (by decide) hVX
          have hk5 := K5.grown hgrow hown0 (by decide)
          have hR4 : Row 64 2 RC w4 w.heap.size V4 (ca.take (j + 1)) := by
            rw [TS.out]
            exact Row.push EC hall hk5 hown (by rw [TL.out]) ⟨_, rfl, hv3.k5 hk5⟩
          have hRB4 := hRB3.other EB hgrow hown0 (by decide) (by decide)
          clear hown hgrow hown0 hall hk5 hv3 hv hK3 hR2 hK2 hRB2 hRB3
          obtain ⟨a4, c4, rfl, _, _, _⟩ := hR4.form (n := _ + 1) (take_len NC.out hin)
          refine wpList_nil ⟨hold_of hK4, ?_⟩
          simp only [Act.put, List.setIfInBounds_toArray, List.set_cons_succ, List.set_cons_zero]
          repeat (go_big_quiet_step (fail))
          refine wpQuiet_nil ?_
          have d1 := hK4.d.cell 3
          have d2 := hK4.d.frozen 3
          simp only [List.getElem?_cons_zero, List.getElem?_cons_succ] at d1
          go_wp2
          refine ⟨trivial, NoPanic.normal ?_⟩
          go_wp2
          go_roundg g
          case rel =>
            refine ⟨j + 1, _, by have := HG.out; omega, by go_num, hR4.far EC hK4.d (by decide) (by decide) 3 _, hRB4.far EB hK4.d (by decide) (by decide) 3 _, ?_⟩
            exact hK4.store 3 _
          case measure => omega
    | succ g =>
      have hin : i < nB := by omega
      obtain ⟨s, hs⟩ := get_some NB.out hin
      have hsl := LB.out _ (List.mem_of_getElem? hs)
      have TS := Lib.hid (take_snoc hs)
      have TL := Lib.hid (take_len NB.out (show i ≤ nB by omega))
      obtain ⟨b, off, rfl, hc⟩ := (HB.below hK.b) (by rw [NB.out]; omega)
      obtain ⟨a', c', s0, hc1, hc2, hc3, hbt⟩ := hc i _ hs
      obtain ⟨m, hm⟩ : ∃ m, s.length = m := ⟨_, rfl⟩
      rw [hm] at s0 hc1 hsl
      have HM := Lib.hid hm; have HG := Lib.hid hg
      clear hc hs hm hg
      go_wp2
      refine wp_region_in (Keep w [.int .i64 dp, .int .i64 nx, .slice (some ⟨b, off, none⟩) nB cB, .slice aC nC cC, .slice aQ nQ cQ] zD [.int .i64 dp, .int .i64 nx, .slice aV i cV, .slice none 0 0, .slice none 0 0] w.heap.size 26 [.int .i64 dp, .int .i64 nx, .slice (some ⟨b, off, none⟩) nB cB, .slice aC nC cC, .slice aQ nQ cQ]) [(true, 3), (false, 1), (false, 1), (false, 1), (true, 1), (false, 1)] [0, 1, 2, 3, 4, 5, 6, 7] 7 (by kernel_rfl) (by kernel_rfl) (hK.below (Below.refl _ _).drew) ?_
      intro W hW hWe
      have hRW : Row 31 1 RB W w.heap.size (.slice aV i cV) (bl.take i) := by rw [hWe]; exact hR.later EB (Below.refl _ _).drew
      have hbW : Bt W a' s := by rw [hWe]; exact hbt.below (Below.refl _ _).drew
      clear hWe hR hbt hK s0
      simp only [wpSegsL, inOrder, List.filterMap_cons, List.filterMap_nil, List.getElem?_cons_zero, List.getElem?_cons_succ, List.take_succ_cons, List.take_zero, List.drop_succ_cons, List.drop_zero]
      have q1 := fun z => (hold_ok hW z).d.cell 2
      simp only [List.getElem?_cons_zero, List.getElem?_cons_succ] at q1
      repeat (go_big_quiet_step (fail))
      refine wpQuiet_nil ?_
      clear q1
      go_wp2_with fail
      refine (clone_44 a' s m c' W hbW HM.out hc3 hc1 (by omega)).mono ?_
      rintro e w2 ⟨v, rfl, hv, hb2⟩
      have hK2 := hW.below hb2
      have hR2 := hRW.later EB hb2
      clear hW hRW hbW hb2
      obtain ⟨a2, c2, rfl, _, _, _, _⟩ := hv.form HM.out
      go_wp2
      refine ⟨hold_of hK2, ?_⟩
      have hK3 := hK2.below (below_box w2 (.cells #[.slice a2 m c2] 31))
      have hR3 := hR2.later EB (below_box w2 (.cells #[.slice a2 m c2] 31))
      have hv3 := hv.k5 (K5.below (below_box w2 (.cells #[.slice a2 m c2] 31)))
      go_wp2
      refine ⟨hold_of hK3, ?_⟩
      obtain ⟨xs, hown0, hall⟩ := hR3
      rw [TL.out] at hown0
      refine wpList_append_k K22 rfl (.tmp 23) (.tmp 26) rfl _ _ _ rfl hown0 _ 1 1 _ rfl (src_new w2 #[.slice a2 m c2] 31 1 1 1 rfl (by simpa using hv.one)) ?c1 ?c2 ?_
      case c1 => omega
      case c2 => exact hK3.b.size
      intro V4 w4 hown hgrow _
      have hK4 := hK3.grown hgrow hown0 (Nat.le_refl _) (by decide) (hK3.x.not_own hown0 (by decide))
      have hk5 := K5.grown hgrow hown0 (by decide)
      have hR4 : Row 31 1 RB w4 w.heap.size V4 (bl.take (i + 1)) := by
        rw [TS.out]
        exact Row.push EB hall hk5 hown (by rw [TL.out]) ⟨_, rfl, hv3.k5 hk5⟩
      clear hown hgrow hown0 hall hk5 hv3 hv hK3 hR2 hK2
      obtain ⟨a4, c4, rfl, _, _, _⟩ := hR4.form (n := _ + 1) (take_len NB.out hin)
      refine wpList_nil ⟨hold_of hK4, ?_⟩
      simp only [Act.put, List.setIfInBounds_toArray, List.set_cons_succ, List.set_cons_zero]
      repeat (go_big_quiet_step (fail))
      refine wpQuiet_nil ?_
      have d1 := hK4.d.cell 2
      have d2 := hK4.d.frozen 2
      simp only [List.getElem?_cons_zero, List.getElem?_cons_succ] at d1
      go_wp2
      refine ⟨trivial, NoPanic.normal ?_⟩
      go_wp2
      go_roundg g
      case rel =>
        refine ⟨i + 1, _, by have := HG.out; omega, by go_num, hR4.far EB hK4.d (by decide) (by decide) 2 _, ?_⟩
        exact hK4.store 2 _
      case measure => omega
end Go.Proofs.Ytlhbjmoncdljoaa
