/- Tables and lists: what is kept and what is changed. Walks: a page is taken out of the tables. Walks: a page is put into the tables. Walks: the pages of one space are put into another. Walks: Of. Walks: empty page tables. Walks: the small example of the tables. Walks: the statement on reverse maps. The arguments of the statement on reverse maps opened. -/
import Derived.Deep.CutBlock
import Derived.Test.YtdddkfpcbfgocaaGreatRows
import Derived.Test.YtdddkfpcbfgocaaGreatRv3
import Derived.Test.YtdddkfpcbfgocaaGreatRv0
namespace Go.Pt
/-- Frames one after another. -/
def frs (nx : Int) (i : Nat) : List Int := (List.range i).map fun j => nx + (j : Nat)
theorem frs_len (nx : Int) (i : Nat) : (frs nx i).length = i := by simp [frs]
theorem frs_next (nx : Int) (i : Nat) : frs nx (i + 1) = frs nx i ++ [nx + (i : Nat)] := by
  unfold frs
  rw [List.range_succ, List.map_append]
  rfl
theorem frs_get {nx : Int} {i j : Nat} {f : Int} (h : (frs nx i)[j]? = some f) : j < i ∧ f = nx + (j : Nat) := by
  unfold frs at h
  rw [List.getElem?_map] at h
  rcases Nat.lt_or_ge j i with hj | hj
  · rw [List.getElem?_range hj] at h
    exact ⟨hj, (Option.some.inj h).symm⟩
  · rw [List.getElem?_eq_none (by simpa using hj)] at h; cases h
theorem frs_asc {N : List Nd} {nx : Int} {i : Nat} (h : ∀ x ∈ N, x.f < nx) (h0 : 0 ≤ nx) (h1 : nx + i ≤ 4294967295) : Asc N (frs nx i) 0 (nx + i) := by
  refine ⟨fun x hx => by have := h x hx; omega, fun f hf => ?_, fun f hf => ?_, fun x hx j f _ hf => ?_, fun a b f g hab ha hb => ?_⟩
  · obtain ⟨j, hj⟩ := List.getElem?_of_mem hf
    obtain ⟨h2, rfl⟩ := frs_get hj
    omega
  · obtain ⟨j, hj⟩ := List.getElem?_of_mem hf
    obtain ⟨h2, rfl⟩ := frs_get hj
    omega
  · obtain ⟨h2, rfl⟩ := frs_get hf
    have := h x hx
    omega
  · obtain ⟨h2, rfl⟩ := frs_get ha
    obtain ⟨h3, rfl⟩ := frs_get hb
    omega
end Go.Pt
namespace Go.Proofs.YtdddkfpcbfgocaaGreat
open Go.RowKit Go.Over Go.Seg Go.Grow Go.Pt
section
variable {nt : Nat} {E : Nat → Nat → En} {M : Nat → List Nat} {s p f : Nat} {M' : List Nat}
/-- An entry is put in, and its mapping. -/
theorem Agr.put (h : Agr nt E M) (hs : s < nt) (hp : p < 512) (hf : f < 32) (hk : (E s p).k = 0) (wb : Bool) (hm : ML M') (hy : ∀ y, y ∈ M' ↔ y ∈ M f ∨ y = 512 * s + p) : Agr nt (upd E s (upd (E s) p ⟨1, f, wb⟩)) (upd M f M') := by
  have ent : ∀ t q, (t ≠ s ∨ q ≠ p) → upd E s (upd (E s) p ⟨1, f, wb⟩) t q = E t q := fun t q h => by
    by_cases e : t = s
    · subst e
      rw [upd_self, upd_ne]
      rcases h with h | h
      · exact absurd rfl h
      · exact h
    · rw [upd_ne _ _ e]
  have ent1 : upd E s (upd (E s) p ⟨1, f, wb⟩) s p = ⟨1, f, wb⟩ := by rw [upd_self, upd_self]
  refine ⟨fun j hj => ?_, fun j k hj => ?_, fun t q ht hq hk2 => ?_⟩
  · by_cases e : j = f
    · subst e; rw [upd_self]; exact hm
    · rw [upd_ne _ _ e]; exact h.ml j hj
  · by_cases e : k = 512 * s + p
    · subst e
      rw [show (512 * s + p) / 512 = s by omega, show (512 * s + p) % 512 = p by omega, ent1]
      by_cases e2 : j = f
      · subst e2
        rw [upd_self, hy]
        exact ⟨fun _ => ⟨hs, (by show (1 : Int) ≠ 0; decide), rfl⟩, fun _ => .inr rfl⟩
      · rw [upd_ne _ _ e2, h.mem j _ hj, show (512 * s + p) / 512 = s by omega, show (512 * s + p) % 512 = p by omega]
        constructor
        · rintro ⟨_, h2, _⟩; exact absurd hk h2
        · rintro ⟨_, _, h3⟩; exact absurd (show (f : Int) = j from h3) (by omega)
    · rw [ent _ _ (by omega)]
      by_cases e2 : j = f
      · subst e2
        rw [upd_self, hy, h.mem j _ hj]
        exact ⟨fun hh => hh.resolve_right e, .inl⟩
      · rw [upd_ne _ _ e2, h.mem j _ hj]
  · by_cases e : t = s ∧ q = p
    · obtain ⟨rfl, rfl⟩ := e
      rw [ent1]
      exact ⟨f, hf, rfl⟩
    · rw [ent _ _ (by omega)] at hk2 ⊢
      exact h.fr t q ht hq hk2
/-- An entry is taken out, and its mapping. -/
theorem Agr.cut (h : Agr nt E M) (hf : f < 32) (hp : p < 512) (hn : (E s p).n = f) (hm : ML M') (hy : ∀ y, y ∈ M' ↔ y ∈ M f ∧ y ≠ 512 * s + p) : Agr nt (upd E s (upd (E s) p e0)) (upd M f M') := by
  have ent : ∀ t q, (t ≠ s ∨ q ≠ p) → upd E s (upd (E s) p e0) t q = E t q := fun t q h => by
    by_cases e : t = s
    · subst e
      rw [upd_self, upd_ne]
      rcases h with h | h
      · exact absurd rfl h
      · exact h
    · rw [upd_ne _ _ e]
  have ent1 : upd E s (upd (E s) p e0) s p = e0 := by rw [upd_self, upd_self]
  refine ⟨fun j hj => ?_, fun j k hj => ?_, fun t q ht hq hk2 => ?_⟩
  · by_cases e : j = f
    · subst e; rw [upd_self]; exact hm
    · rw [upd_ne _ _ e]; exact h.ml j hj
  · by_cases e : k = 512 * s + p
    · subst e
      rw [show (512 * s + p) / 512 = s by omega, show (512 * s + p) % 512 = p by omega, ent1]
      by_cases e2 : j = f
      · subst e2
        rw [upd_self, hy]
        exact ⟨fun hh => absurd rfl hh.2, fun hh => absurd rfl hh.2.1⟩
      · rw [upd_ne _ _ e2, h.mem j _ hj, show (512 * s + p) / 512 = s by omega, show (512 * s + p) % 512 = p by omega]
        constructor
        · rintro ⟨_, _, h3⟩; rw [hn] at h3; omega
        · rintro ⟨_, h2, _⟩; exact absurd rfl h2
    · rw [ent _ _ (by omega)]
      by_cases e2 : j = f
      · subst e2
        rw [upd_self, hy, h.mem j _ hj]
        exact ⟨fun hh => hh.1, fun hh => ⟨hh, e⟩⟩
      · rw [upd_ne _ _ e2, h.mem j _ hj]
  · by_cases e : t = s ∧ q = p
    · obtain ⟨rfl, rfl⟩ := e
      rw [ent1] at hk2
      exact absurd rfl hk2
    · rw [ent _ _ (by omega)] at hk2 ⊢
      exact h.fr t q ht hq hk2
end
/-- All is kept but tables, lists and what holds them. -/
structure KeepB (g bt bm : Nat) (w w' : World) : Prop where
  size : w.heap.size ≤ w'.heap.size
  blk : ∀ (q : Nat) (t : TypeId) (zs : List Value), t ≠ 76 → t ≠ 120 → t ≠ 123 → Blk w q t zs → Blk w' q t zs
  os : w'.os = w.os
  tape : w'.tape = w.tape
  output : w'.output = w.output
  low : ∀ k, k < w.heap.size → k ≠ g → k ≠ bt → k ≠ bm → w'.heap[k]? = w.heap[k]?
section
variable {w w' w'' : World} {g bt bm : Nat}
theorem KeepB.refl (w : World) : KeepB g bt bm w w := ⟨Nat.le_refl _, fun _ _ _ _ _ _ h => h, rfl, rfl, rfl, fun _ _ _ _ _ => rfl⟩
theorem KeepB.trans (h : KeepB g bt bm w w') (h' : KeepB g bt bm w' w'') : KeepB g bt bm w w'' :=
  ⟨Nat.le_trans h.size h'.size, fun q t zs h1 h2 h3 hB => h'.blk q t zs h1 h2 h3 (h.blk q t zs h1 h2 h3 hB), h'.os.trans h.os, h'.tape.trans h.tape, h'.output.trans h.output,
    fun k hk h1 h2 h3 => (h'.low k (Nat.lt_of_lt_of_le hk h.size) h1 h2 h3).trans (h.low k hk h1 h2 h3)⟩
theorem KeepB.below (h : Below w.heap.size w w') : KeepB g bt bm w w' := ⟨h.size, fun _ _ _ _ _ _ hB => hB.later h, h.os, h.tape, h.output, fun k hk _ _ _ => h.block k hk⟩
theorem KeepB.grown {q : Nat} {u : TypeId} {cs : List Value} (hB : Blk w q u cs) (hu : (u = 76 ∧ q = g) ∨ (u = 120 ∧ q = bt) ∨ (u = 123 ∧ q = bm)) (hg : w.grownBy w' (some q)) : KeepB g bt bm w w' :=
  ⟨hg.size, fun p t zs h1 h2 h3 hq => hq.grown hg (by
    have : u ≠ t := by rcases hu with ⟨rfl, _⟩ | ⟨rfl, _⟩ | ⟨rfl, _⟩ <;> exact fun e => by subst e; contradiction
    simpa using hB.ne_type hq this), hg.os, hg.tape, hg.output, fun k hk h1 h2 h3 => hg.block k hk fun e => by
    have e := Option.some.inj e
    rcases hu with ⟨_, rfl⟩ | ⟨_, rfl⟩ | ⟨_, rfl⟩
    · exact h1 e
    · exact h2 e
    · exact h3 e⟩
/-- What lies below what holds the tables is kept. -/
theorem KeepB.low_of {B : Nat} (h : KeepB g bt bm w w') (hB : B ≤ w.heap.size) (h1 : B ≤ g) (h2 : B ≤ bt) (h3 : B ≤ bm) : Below B w w' :=
  ⟨h.os, h.tape, h.output, h.size, fun k hk => h.low k (Nat.lt_of_lt_of_le hk hB) (by omega) (by omega) (by omega)⟩
theorem KeepB.own {B t k n : Nat} {v : Value} {xs : List Value} (h : KeepB g bt bm w w') (hO : w.ownsRow B t k v n xs) (h1 : t ≠ 76) (h2 : t ≠ 120) (h3 : t ≠ 123) : w'.ownsRow B t k v n xs := by
  refine ⟨hO.1, ?_⟩
  rcases hO.2 with hn | ⟨g, cap, cur, rfl, hb, hgg, rest⟩
  · exact .inl hn
  · have hB : Blk w g t cur.toList := by unfold Blk; simpa using hgg
    have := h.blk g t _ h1 h2 h3 hB
    unfold Blk at this
    exact .inr ⟨g, cap, cur, rfl, hb, by simpa using this, rest⟩
theorem TV.grown {r : Int} {b n c : Nat} {ns : List Value} {N : List Nd} {mid low : Nat → Option Int} {ent : Nat → En} {g : Nat} {t : TypeId} {cs : List Value} (h : TV w r b n c ns N mid low ent) (hB : Blk w g t cs) (ht : t ≠ 183) (hg : w.grownBy w' (some g)) : TV w' r b n c ns N mid low ent := ⟨h.nv.grown hB ht hg, h.ln, h.tr⟩
theorem TV.own {r : Int} {b n c : Nat} {ns : List Value} {N : List Nd} {mid low : Nat → Option Int} {ent : Nat → En} {B t k m : Nat} {v : Value} {xs : List Value} (h : TV w r b n c ns N mid low ent) (hO : w.ownsRow B t k v m xs) (ht : t ≠ 183) (hg : w.grownBy w' v.ownBlock) : TV w' r b n c ns N mid low ent := ⟨⟨h.nv.x.grown hg (h.nv.x.not_own hO ht), h.nv.n, h.nv.row⟩, h.ln, h.tr⟩
theorem TB.mono {bt nt : Nat} {zs : List Value} {E : Nat → Nat → En} {nx nx' : Int} (h : TB w bt nt zs E nx) (hx : nx ≤ nx') : TB w bt nt zs E nx' :=
  ⟨h.x, h.ln, fun s hs => by obtain ⟨r, b, n, c, ns, N, mid, low, h1, h2, h3⟩ := h.row s hs; exact ⟨r, b, n, c, ns, N, mid, low, h1, h2, fun x hx2 => by have := h3 x hx2; omega⟩⟩
theorem TB.grown {bt nt : Nat} {zs : List Value} {E : Nat → Nat → En} {nx : Int} {g : Nat} {t : TypeId} {cs : List Value} (h : TB w bt nt zs E nx) (hB : Blk w g t cs) (h1 : t ≠ 183) (h2 : t ≠ 120) (hg : w.grownBy w' (some g)) : TB w' bt nt zs E nx :=
  ⟨h.x.grown hg (by simpa using hB.ne_type h.x h2), h.ln, fun s hs => by obtain ⟨r, b, n, c, ns, N, mid, low, q1, q2, q3⟩ := h.row s hs; exact ⟨r, b, n, c, ns, N, mid, low, q1, q2.grown hB h1 hg, q3⟩⟩
theorem TB.own {bt nt : Nat} {zs : List Value} {E : Nat → Nat → En} {nx : Int} {B t k m : Nat} {v : Value} {xs : List Value} (h : TB w bt nt zs E nx) (hO : w.ownsRow B t k v m xs) (h1 : t ≠ 183) (h2 : t ≠ 120) (hg : w.grownBy w' v.ownBlock) : TB w' bt nt zs E nx :=
  ⟨h.x.grown hg (h.x.not_own hO h2), h.ln, fun s hs => by obtain ⟨r, b, n, c, ns, N, mid, low, q1, q2, q3⟩ := h.row s hs; exact ⟨r, b, n, c, ns, N, mid, low, q1, q2.own hO h1 hg, q3⟩⟩
theorem MV.grown {m B g : Nat} {vs : List Value} {E : Nat → List Nat} {h : Nat} {t : TypeId} {cs : List Value} (hm : MV w g vs m B E) (hB : Blk w h t cs) (h1 : t ≠ 123) (h2 : t ≠ 126) (hg : w.grownBy w' (some h)) : MV w' g vs m B E :=
  ⟨hm.x.grown hg (by simpa using hB.ne_type hm.x h1), hm.n, fun f hf => by obtain ⟨v, q1, q2⟩ := hm.row f hf; exact ⟨v, q1, World.ownsRow.kept q2 hg (.inr (hB.not_own q2 (Ne.symm h2)))⟩⟩
theorem MV.own {m B g : Nat} {vs : List Value} {E : Nat → List Nat} {B' t k n : Nat} {v : Value} {xs : List Value} (hm : MV w g vs m B E) (hO : w.ownsRow B' t k v n xs) (h1 : t ≠ 123) (h2 : t ≠ 126) (hg : w.grownBy w' v.ownBlock) : MV w' g vs m B E :=
  ⟨hm.x.grown hg (hm.x.not_own hO h1), hm.n, fun f hf => by
    obtain ⟨u, q1, q2⟩ := hm.row f hf
    refine ⟨u, q1, World.ownsRow.kept q2 hg ?_⟩
    cases hq : u.ownBlock with
    | none => exact .inl rfl
    | some q =>
      refine .inr fun e => ?_
      have hb : ∃ zs, Blk w q 126 zs := by
        rcases q2.2 with ⟨rfl, _⟩ | ⟨g', cap, cur, rfl, _, hh, _⟩
        · cases hq
        · simp [Value.ownBlock] at hq
          subst hq
          exact ⟨cur.toList, by unfold Blk; simpa using hh⟩
      obtain ⟨zs, hz⟩ := hb
      exact hz.not_own hO h2 e.symm⟩
/-- A table and a list are put in their places. -/
theorem BT.put {V V1 W : World} {g bt ct bm nt : Nat} {nx : Int} {E : Nat → Nat → En} {M : Nat → List Nat} {zs ms : List Value} {s f : Nat} {r : Int} {b n c : Nat} {ns : List Value} {N : List Nd} {mid low : Nat → Option Int} {e : Nat → En} {v : Value} {L : List Nat} {B : Nat}
    (hx : Blk V g 76 (btC bt nt ct bm nx)) (hT : TB V bt nt zs E nx) (hM : MV V bm ms 32 0 M) (hA : Agr nt (upd E s e) (upd M f L)) (hs : s < nt) (hf : f < 32) (n8 : nt ≤ 8) (nc : nt ≤ ct) (lo : 0 ≤ nx)
    (hN : TV V r b n c ns N mid low e) (hfr : ∀ x ∈ N, x.f < nx) (hO : OwnM V B v L)
    (h1 : Blk V1 bt 120 (lay zs (s * 3) (ptC r b n c))) (g1 : V.grownBy V1 (some bt)) (h2 : Blk W bm 123 (ms.set f v)) (g2 : V1.grownBy W (some bm)) : BT W g bt ct bm nt nx (upd E s e) (upd M f L) ∧ KeepB g bt bm V W := by
  have hfit : s * 3 + (ptC r b n c).length ≤ zs.length := by
    have h3 := hT.ln
    have h4 : (s + 1) * 3 ≤ nt * 3 := Nat.mul_le_mul_right 3 hs
    rw [ptC_len]; omega
  have hM1 := hM.grown hT.x (by decide) (by decide) g1
  have K1 := KeepB.grown (g := g) (bt := bt) (bm := bm) hT.x (.inr (.inl ⟨rfl, rfl⟩)) g1
  have K2 := KeepB.grown (g := g) (bt := bt) (bm := bm) hM1.x (.inr (.inr ⟨rfl, rfl⟩)) g2
  have x1 := hx.grown g1 (by simpa using hT.x.ne_type hx (by decide))
  have O1 : OwnM V1 B v L := World.ownsRow.kept hO g1 (.inr (hT.x.not_own hO (by decide)))
  refine ⟨⟨x1.grown g2 (by simpa using hM1.x.ne_type x1 (by decide)), ⟨_, h1.grown g2 (by simpa using hM1.x.ne_type h1 (by decide)), by rw [lay_len hfit]; exact hT.ln, fun t ht => ?_⟩, ⟨_, h2, by rw [List.length_set]; exact hM.n, fun j hj => ?_⟩, hA, n8, nc, lo⟩, K1.trans K2⟩
  · by_cases e1 : t = s
    · subst e1
      refine ⟨r, b, n, c, ns, N, mid, low, fun j u hu => ?_, ?_, hfr⟩
      · have hj : j < 3 := by rw [← ptC_len r b n c]; exact (List.getElem?_eq_some_iff.1 hu).1
        have h5 := lay_same (L := zs) (cs := ptC r b n c) (o := t * 3) hfit
        unfold lay
        have hl : (zs.take (t * 3)).length = t * 3 := by rw [List.length_take]; omega
        rw [List.getElem?_append_left (by rw [List.length_append, hl]; rw [ptC_len]; omega), List.getElem?_append_right (by rw [hl]; omega), hl, Nat.add_sub_cancel_left]
        exact hu
      · rw [upd_self]
        exact (hN.grown hT.x (by decide) g1).grown hM1.x (by decide) g2
    · obtain ⟨r', b', n', c', ns', N', mid', low', q1, q2, q3⟩ := hT.row t ht
      refine ⟨r', b', n', c', ns', N', mid', low', fun j u hu => ?_, ?_, q3⟩
      · have hj : j < 3 := by rw [← ptC_len r' b' n' c']; exact (List.getElem?_eq_some_iff.1 hu).1
        rw [lay_get hfit (by rw [ptC_len]; omega)]
        exact q1 j u hu
      · rw [upd_ne _ _ e1]
        exact (q2.grown hT.x (by decide) g1).grown hM1.x (by decide) g2
  · by_cases e1 : j = f
    · subst e1
      refine ⟨v, by rw [List.getElem?_set_self (by rw [hM.n]; exact hj)], ?_⟩
      rw [upd_self]
      exact own_weaken (World.ownsRow.kept O1 g2 (.inr (hM1.x.not_own O1 (by decide)))) (Nat.zero_le _)
    · obtain ⟨u, hu, hU⟩ := hM1.row j hj
      refine ⟨u, by rw [List.getElem?_set_ne (Ne.symm e1)]; exact hu, ?_⟩
      rw [upd_ne _ _ e1]
      exact World.ownsRow.kept hU g2 (.inr (hM1.x.not_own hU (by decide)))
end
end Go.Proofs.YtdddkfpcbfgocaaGreat
namespace Go.Proofs.YtdddkfpcbfgocaaGreat
open Go.RowKit Go.Over Go.Seg Go.Grow Go.Pt
theorem ptC_one (r : Int) (b n c : Nat) : ∀ v ∈ ptC r b n c, v.oneCell' = true := by
  intro u hu
  simp [ptC] at hu
  rcases hu with rfl | rfl | rfl <;> rfl
/-- What remove does. -/
def RemAns (w : World) (g bt ct bm nt : Nat) (nx : Int) (E : Nat → Nat → En) (M : Nat → List Nat) (s p f : Nat) (e : Ending) (w' : World) : Prop :=
  e = .returned (.bool true) ∧ (∃ L, ML L ∧ (∀ y, y ∈ L ↔ y ∈ M f ∧ y ≠ 512 * s + p) ∧ BT w' g bt ct bm nt nx (upd E s (upd (E s) p e0)) (upd M f L)) ∧ KeepB g bt bm w w'
/-- What a region keeps that puts a table and a list in their places. -/
def SPut (g g9 bt nt ct bm : Nat) (nx r : Int) (b n c : Nat) (U : World) : Prop := Blk U g 76 (btC bt nt ct bm nx) ∧ Blk U g9 120 (ptC r b n c)
set_option maxRecDepth 100000 in set_option maxHeartbeats 3200000 in
theorem remove (g bt ct bm nt : Nat) (nx : Int) (E : Nat → Nat → En) (M : Nat → List Nat) (s p f : Nat) (w : World) (H : BT w g bt ct bm nt nx E M) (hs : s < nt) (hp : p < 512) (hf : f < 32) (hk : (E s p).k = 1) (hn : (E s p).n = f) :
    Calls Tryz.prog 27 #[.pointer (some ⟨g, 0, none⟩), .int .i64 (s : Nat), .int .i64 (p : Nat), .int .i64 (f : Nat)] w (RemAns w g bt ct bm nt nx E M s p f) := by
  obtain ⟨zs, hT⟩ := H.tb
  obtain ⟨ms, hM⟩ := H.mv
  obtain ⟨r, b, n, c, ns, N, mid, low, hrow, hT1, hfr⟩ := hT.row s hs
  obtain ⟨v, hv, hO⟩ := hM.row f hf
  have hx := hT.x
  have c0 : w.cell? ⟨g, 0, none⟩ = some (.slice (some ⟨bt, 0, none⟩) nt ct) := by rw [H.x.cell]; rfl
  have hkM : 512 * s + p ∈ M f := by
    rw [H.ag.mem f _ hf, show (512 * s + p) / 512 = s by omega, show (512 * s + p) % 512 = p by omega]
    exact ⟨hs, by omega, hn⟩
  have HH := Lib.hid H; have HTB := Lib.hid hT; have HMV := Lib.hid hM; have HROW := Lib.hid hrow; have HFR := Lib.hid hfr; have HV := Lib.hid hv; have HO := Lib.hid hO; have HN := Lib.hid hn; have HKM := Lib.hid hkM
  have HCL := Lib.hid (clear r b n c ns N mid low (E s) p w hT1 hp hk)
  have HN8 := H.n8
  have HNC := H.nc
  clear H hT hM hrow hT1 hfr hv hO hn hk hkM
  go_enter Tryz.func27, Tryz.ntmps27
  go_wp2_with ((with_reducible refine wpList_load_part (off := s * 3) (cs := ptC r b n c) Tryz.underlying120 rfl (by rw [infoPT]; exact congrArg some (ptC_len r b n c).symm) ?_ hx HROW.out ?_); (focus rfl))
  refine HCL.out.mono ?_
  rintro e w2 ⟨b', n', c', ns', N', mid', low', v5, v6, rfl, hT2, hN2, _, b2⟩
  have HT2 := Lib.hid hT2; have HN2 := Lib.hid hN2
  have hz := Blk.new w2 120 #[.int .i64 0, .slice none 0 0, .slice none 0 0] _ rfl
  have bz := below_box w2 (.cells #[.int .i64 0, .slice none 0 0, .slice none 0 0] 120)
  clear HCL hx c0 hT2 hN2
  go_upto_region 2 with ((with_reducible refine stPT (r := r) (b := b') (n := n') (c := c') ?_ ?_ hz rfl ?_); (focus rfl); (focus rfl); intro w3 hB3 hg3)
  have b3 := bz.grown hg3 bz.size (fun k hk => by cases hk; exact Nat.le_refl _)
  have u3 := below_then b2 b3
  have HT3 := Lib.hid (HT2.out.below b3)
  obtain ⟨g9, hg9⟩ : ∃ q, w2.heap.size = q := ⟨_, rfl⟩
  have hlt9 : w.heap.size ≤ g9 := by rw [← hg9]; exact b2.size
  rw [hg9] at hB3 ⊢
  clear hz bz hg3 b2 b3 hg9 HT2
  have H3 := HH.out.below u3
  have M3 := HMV.out.below u3
  have c1 : w3.cell? ⟨g, 1, none⟩ = some (.slice (some ⟨bm, 0, none⟩) 32 32) := by rw [H3.x.cell]; rfl
  have c2 : w3.cell? ⟨bm, f, none⟩ = some v := by rw [M3.x.cell]; exact HV.out
  have O3 := HO.out.later u3
  have HRM := rremove v (M f) 0 (512 * s + p) w3 O3 (HH.out.ag.ml f hf) HKM.out
  rw [mpC_at hp] at HRM
  have HRM := Lib.hid HRM
  clear H3 M3 O3
  go_wp2_with fail
  refine HRM.out.mono ?_
  rintro e w4 ⟨V, L, rfl, O4, ml4, hy4, b4⟩
  have u4 := below_then u3 b4
  have HT4 := Lib.hid (HT3.out.below b4)
  have hB4 := hB3.later b4
  obtain ⟨a4, c4, rfl, _⟩ := O4.rd
  obtain ⟨n4, hn4⟩ : ∃ n, L.length = n := ⟨_, rfl⟩
  rw [hn4] at O4 ⊢
  have HO4 := Lib.hid O4; have HML := Lib.hid ml4; have HY := Lib.hid hy4
  clear HRM HT3 hB3 u3 b4 O4 ml4 hy4 c1 c2 hn4
  go_upto_region 5 with fail
  have hS : SPut g g9 bt nt ct bm nx r b' n' c' w4 := ⟨(HH.out.below u4).x, hB4⟩
  refine wp_region_plan (SPut g g9 bt nt ct bm nx r b' n' c') (.quiet [0, 1, 2, 3, 4, 5, 6, 7, 8, 9, 10, 11, 12] (.only 13 (.quiet [14] (.only 15 .done)))) 99 (by kernel_rfl) (by kernel_rfl) hS ?_
  intro W5 hWW hWe
  have bW : Below w4.heap.size w4 W5 := by rw [hWe]; exact (Below.refl _ _).drew
  clear hWe hS hB4
  simp only [wpPlan, inOrder, List.filterMap_cons, List.filterMap_nil, List.getElem?_cons_zero, List.getElem?_cons_succ]
  have q1 : ∀ z, (hold (SPut g g9 bt nt ct bm nx r b' n' c') W5 z).cell? ⟨g, 0, none⟩ = some (.slice (some ⟨bt, 0, none⟩) nt ct) := fun z => by rw [(hold_ok (S0 := SPut g g9 bt nt ct bm nx r b' n' c') hWW z).1.cell]; rfl
  have q2 : ∀ z, (hold (SPut g g9 bt nt ct bm nx r b' n' c') W5 z).cell? ⟨g, 1, none⟩ = some (.slice (some ⟨bm, 0, none⟩) 32 32) := fun z => by rw [(hold_ok (S0 := SPut g g9 bt nt ct bm nx r b' n' c') hWW z).1.cell]; rfl
  show wpQuiet _ _ _ _ (_ :: _ :: _ :: _ :: _ :: _ :: _ :: _ :: _ :: _ :: _ :: _ :: [_]) _
  repeat (go_big_quiet_step (fail))
  refine wpQuiet_load_part (off := 0) (cs := ptC r b' n' c') Tryz.underlying120 rfl (by rw [infoPT]; rfl) rfl (fun U ⟨z, hz⟩ => by rw [hz]; exact (hold_ok (S0 := SPut g g9 bt nt ct bm nx r b' n' c') hWW z).2) (fun j v hv => by rw [Nat.zero_add]; exact hv) ?_
  simp only [Act.put, List.setIfInBounds_toArray, List.set_cons_succ, List.set_cons_zero]
  repeat (go_big_quiet_step (fail))
  refine wpQuiet_nil ?_
  have HW := Lib.hid hWW
  have u5 := below_then u4 bW
  have H5 := HH.out.below u5
  have T5 := HTB.out.below u5
  have M5 := HMV.out.below u5
  have HT5 := Lib.hid (HT4.out.below bW)
  have O5 := HO4.out.later bW
  have hfit : s * 3 + (ptC r b' n' c').length ≤ zs.length := by
    have h3 := T5.ln
    have h4 : (s + 1) * 3 ≤ nt * 3 := Nat.mul_le_mul_right 3 hs
    rw [ptC_len]; omega
  clear q1 q2 hWW bW HT4
  refine wpList_store_part (off := s * 3) (cs := ptC r b' n' c') (by rw [infoPT]; rfl) rfl rfl T5.x hfit (ptC_one r b' n' c') ?_
  intro W6 B6 g6
  have hne : bt ≠ g9 := by have := HTB.out.x.lt; omega
  have hS6 : SPut g g9 bt nt ct bm nx r b' n' c' W6 := ⟨HW.out.1.grown g6 (by simpa using T5.x.ne_type HW.out.1 (by decide)), HW.out.2.grown g6 (by simpa using hne)⟩
  have M6 := M5.grown T5.x (by decide) (by decide) g6
  simp only [Act.put]
  go_wp2
  refine ⟨hold_of hS6, ?_⟩
  show wpQuiet _ _ _ _ ([_]) _
  repeat (go_big_quiet_step (fail))
  refine wpQuiet_nil ?_
  have hb0 : W6.cell? ⟨bm, f, none⟩ = some v := by rw [M6.x.cell]; exact HV.out
  have hfz := M6.x.frozen f
  have hB7 := M6.x.set f (.slice a4 n4 c4)
  have g7 : W6.grownBy (W6.setCell ⟨bm, f, none⟩ (.slice a4 n4 c4)) (some bm) := ⟨rfl, rfl, rfl, by simp [World.setCell], fun k _ hk => Below.heap_setCell W6 ⟨bm, f, none⟩ _ k (fun e => hk (by rw [e]))⟩
  have PUT := BT.put H5.x T5 M5 (HH.out.ag.cut (p := p) hf hp HN.out HML.out HY.out) hs hf HN8 HNC H5.lo HT5.out (fun x hx => by
    obtain ⟨y, hy, he⟩ := List.mem_map.1 (HN2.out x hx)
    rw [← he]; exact HFR.out y hy) O5 B6 g6 hB7 g7
  have HPUT := Lib.hid PUT; have HU5 := Lib.hid u5
  have hS7 : SPut g g9 bt nt ct bm nx r b' n' c' (W6.setCell ⟨bm, f, none⟩ (.slice a4 n4 c4)) := ⟨hS6.1.grown g7 (by simpa using M6.x.ne_type hS6.1 (by decide)), hS6.2.grown g7 (by simpa using M6.x.ne_type hS6.2 (by decide))⟩
  clear PUT u5 g7 hB7 O5 HT5 M5 T5 H5 B6 g6 M6 hfit
  show wpList _ _ _ [_] _ _
  go_wp2_with fail
  refine ⟨hold_of hS7, ?_⟩
  refine NoPanic.normal ?_
  obtain ⟨W7, hW7⟩ : ∃ V, V = W6.setCell ⟨bm, f, none⟩ (.slice a4 n4 c4) := ⟨_, rfl⟩
  rw [← hW7] at HPUT ⊢
  clear hb0 hfz hS6 hS7 hW7
  go_wp2
  go_ret
  exact ⟨rfl, ⟨L, HML.out, HY.out, HPUT.out.1⟩, (KeepB.below (g := g) (bt := bt) (bm := bm) HU5.out).trans HPUT.out.2⟩
end Go.Proofs.YtdddkfpcbfgocaaGreat
namespace Go.Proofs.YtdddkfpcbfgocaaGreat
open Go.RowKit Go.Over Go.Seg Go.Grow Go.Pt
theorem encW (n : Int) (wb : Bool) (h0 : 0 ≤ n) (h1 : n ≤ 4294967295) (w : World) : Calls Tryz.prog 65 #[.agg #[.int .i64 1, .int .i64 n, .bool wb, .bool false, .bool false, .bool false]] w fun e w' => e = .returned (.tuple #[.int .u64 (wd ⟨1, n, wb⟩), .int .i64 0]) ∧ Below w.heap.size w w' := by
  cases wb with
  | true => exact enc9 n h0 h1 w
  | false => exact enc1 n h0 h1 w
/-- What install does. -/
def InstAns (w : World) (g bt ct bm nt : Nat) (nx : Int) (E : Nat → Nat → En) (M : Nat → List Nat) (s p f : Nat) (wb : Bool) (e : Ending) (w' : World) : Prop :=
  e = .returned (.bool true) ∧ (∃ nx' L, nx ≤ nx' ∧ nx' ≤ nx + 2 ∧ ML L ∧ (∀ y, y ∈ L ↔ y ∈ M f ∨ y = 512 * s + p) ∧ BT w' g bt ct bm nt nx' (upd E s (upd (E s) p ⟨1, f, wb⟩)) (upd M f L)) ∧ KeepB g bt bm w w'
/-- Where install stands that takes the numbers of frames. -/
structure IL (w : World) (g bt ct bm nt : Nat) (nx : Int) (E : Nat → Nat → En) (M : Nat → List Nat) (zs ms : List Value) (r : Int) (b n c : Nat) (ns : List Value) (N : List Nd) (mid low : Nat → Option Int) (e : Nat → En) (i : Nat) (v : Value) (W : World) : Prop where
  o : Own W w.heap.size v (frs nx i)
  x : Blk W g 76 (btC bt nt ct bm (nx + (i : Nat)))
  tb : TB W bt nt zs E nx
  mv : MV W bm ms 32 0 M
  tv : TV W r b n c ns N mid low e
  kb : KeepB g bt bm w W
section
variable {w W W' : World} {g bt ct bm nt : Nat} {nx : Int} {E : Nat → Nat → En} {M : Nat → List Nat} {zs ms : List Value} {r : Int} {b n c : Nat} {ns : List Value} {N : List Nd} {mid low : Nat → Option Int} {e : Nat → En} {i : Nat} {v : Value}
theorem IL.below (h : IL w g bt ct bm nt nx E M zs ms r b n c ns N mid low e i v W) (hb : Below W.heap.size W W') : IL w g bt ct bm nt nx E M zs ms r b n c ns N mid low e i v W' :=
  ⟨own_later h.o hb, h.x.later hb, h.tb.below hb, h.mv.below hb, h.tv.below hb, h.kb.trans (KeepB.below (g := g) (bt := bt) (bm := bm) hb)⟩
/-- One number more is taken. -/
theorem IL.step {v' : Value} (h : IL w g bt ct bm nt nx E M zs ms r b n c ns N mid low e i v W) (hO : Own W' w.heap.size v' (frs nx i ++ [nx + (i : Nat)])) (hg : W.grownBy W' v.ownBlock) :
    W'.cell? ⟨g, 2, none⟩ = some (.int .i64 (nx + (i : Nat))) ∧ W'.frozen? ⟨g, 2, none⟩ = false ∧ IL w g bt ct bm nt nx E M zs ms r b n c ns N mid low e (i + 1) v' (W'.setCell ⟨g, 2, none⟩ (.int .i64 (nx + (i : Nat) + 1))) := by
  have hx := h.x.grown hg (h.x.not_own h.o (by decide))
  have hT := h.tb.own h.o (by decide) (by decide) hg
  have hM := h.mv.own h.o (by decide) (by decide) hg
  have hV := h.tv.own h.o (by decide) hg
  have hK : KeepB g bt bm w W' := ⟨Nat.le_trans h.kb.size hg.size, fun q t zs q1 q2 q3 hq => by
    have h1 := h.kb.blk q t zs q1 q2 q3 hq
    refine h1.grown hg fun e => ?_
    have := (World.ownsRow.lt h.o _ e).1
    have := hq.lt
    omega, hg.os.trans h.kb.os, hg.tape.trans h.kb.tape, hg.output.trans h.kb.output, fun k hk h1 h2 h3 => (hg.block k (Nat.lt_of_lt_of_le hk h.kb.size) (fun e => by
      have := (World.ownsRow.lt h.o _ e.symm).1
      omega)).trans (h.kb.low k hk h1 h2 h3)⟩
  have g2 : W'.grownBy (W'.setCell ⟨g, 2, none⟩ (.int .i64 (nx + (i : Nat) + 1))) (some g) := ⟨rfl, rfl, rfl, by simp [World.setCell], fun k _ hk => Below.heap_setCell W' ⟨g, 2, none⟩ _ k (fun e => hk (by rw [e]))⟩
  have hx2 := hx.set 2 (.int .i64 (nx + (i : Nat) + 1))
  refine ⟨by rw [hx.cell]; rfl, hx.frozen 2, ?_, ?_, hT.grown hx (by decide) (by decide) g2, hM.grown hx (by decide) (by decide) g2, hV.grown hx (by decide) g2, hK.trans (KeepB.grown (g := g) (bt := bt) (bm := bm) hx (.inl ⟨rfl, rfl⟩) g2)⟩
  · rw [frs_next]
    exact World.ownsRow.kept hO g2 (.inr (hx.not_own hO (by decide)))
  · rw [show nx + ((i + 1 : Nat) : Int) = nx + (i : Nat) + 1 by omega]
    exact hx2
end
set_option maxRecDepth 100000 in set_option maxHeartbeats 3200000 in
theorem install (g bt ct bm nt : Nat) (nx : Int) (E : Nat → Nat → En) (M : Nat → List Nat) (s p f : Nat) (wb : Bool) (w : World) (H : BT w g bt ct bm nt nx E M) (hs : s < nt) (hp : p < 512) (hf : f < 32) (hk : (E s p).k = 0) (hnx : nx ≤ 4294960000) :
    Calls Tryz.prog 26 #[.pointer (some ⟨g, 0, none⟩), .int .i64 (s : Nat), .int .i64 (p : Nat), .int .i64 (f : Nat), .bool wb] w (InstAns w g bt ct bm nt nx E M s p f wb) := by
  obtain ⟨zs, hT⟩ := H.tb
  obtain ⟨ms, hM⟩ := H.mv
  obtain ⟨r, b, n, c, ns, N, mid, low, hrow, hT1, hfr⟩ := hT.row s hs
  obtain ⟨v, hv, hO⟩ := hM.row f hf
  have hkM : 512 * s + p ∉ M f := by
    rw [H.ag.mem f _ hf, show (512 * s + p) / 512 = s by omega, show (512 * s + p) % 512 = p by omega]
    exact fun h => h.2.1 hk
  have HH := Lib.hid H; have HTB := Lib.hid hT; have HMV := Lib.hid hM; have HROW := Lib.hid hrow; have HFR := Lib.hid hfr; have HV := Lib.hid hv; have HO := Lib.hid hO; have HK := Lib.hid hk; have HKM := Lib.hid hkM; have HT1 := Lib.hid hT1
  have HEN := Lib.hid (encW (f : Nat) wb (by omega) (by omega) w)
  obtain ⟨W0, hW0⟩ : ∃ q, wd ⟨1, (f : Nat), wb⟩ = q := ⟨_, rfl⟩
  have HW0 := Lib.hid hW0
  rw [hW0] at HEN
  have HN8 := H.n8
  have HNC := H.nc
  clear H hT hM hrow hT1 hfr hv hO hk hkM hW0
  go_enter Tryz.func26, Tryz.ntmps26
  go_wp2_with fail
  refine HEN.out.mono ?_
  rintro e w2 ⟨rfl, b2⟩
  have H2 := HH.out.below b2
  have T2 := HTB.out.below b2
  have hx := T2.x
  have c0 : w2.cell? ⟨g, 0, none⟩ = some (.slice (some ⟨bt, 0, none⟩) nt ct) := by rw [H2.x.cell]; rfl
  have HMS := Lib.hid (missing r b n c ns N mid low (E s) p w2 (HT1.out.below b2) hp)
  have hL2 : endL mid low p ≤ 2 := by unfold endL; split <;> (try split) <;> omega
  obtain ⟨L, hL⟩ : ∃ q, endL mid low p = q := ⟨_, rfl⟩
  have HL := Lib.hid hL
  rw [hL] at hL2
  clear HEN hL H2 T2
  go_wp2_with ((with_reducible refine wpList_load_part (off := s * 3) (cs := ptC r b n c) Tryz.underlying120 rfl (by rw [infoPT]; exact congrArg some (ptC_len r b n c).symm) ?_ hx HROW.out ?_); (focus rfl))
  refine HMS.out.mono ?_
  rintro e w3 ⟨rfl, b3⟩
  rw [HL.out]
  have u3 := below_then b2 b3
  have I3 : IL w g bt ct bm nt nx E M zs ms r b n c ns N mid low (E s) 0 (.slice none 0 0) w3 :=
    ⟨World.ownsRow_nil _ _ _ _, by rw [show nx + ((0 : Nat) : Int) = nx by omega]; exact HH.out.x.later u3, HTB.out.below u3, HMV.out.below u3, HT1.out.below u3, KeepB.below (g := g) (bt := bt) (bm := bm) u3⟩
  clear HMS hx c0 b2 b3 u3
  go_wp2
  go_loopg [15, 52] L (fun gg v15 v52 wr => ∃ i : Nat, i + gg = L ∧ v52 = .int .i64 i ∧ IL w g bt ct bm nt nx E M zs ms r b n c ns N mid low (E s) i v15 wr)
  case atStart => exact ⟨0, by omega, rfl, I3⟩
  case round =>
    clear I3
    obtain ⟨i, hi, rfl, I4⟩ := hrel
    cases gk with
    | zero =>
      obtain rfl : L = i := by omega
      have hin : ¬ L < L := by omega
      clear hi
      have c0 : wr.cell? ⟨g, 0, none⟩ = some (.slice (some ⟨bt, 0, none⟩) nt ct) := by rw [I4.x.cell]; rfl
      have hx := I4.tb.x
      have hSl : Sl wr u15 (frs nx L) := Own.sl I4.o
      have HI4 := Lib.hid I4
      have hST := set r b n c ns N mid low (E s) p (f : Nat) wb u15 (frs nx L) (nx + (L : Nat)) wr I4.tv hp ⟨by omega, by omega⟩ HK.out hSl (by rw [frs_len, HL.out]) (frs_asc HFR.out HH.out.lo (by omega))
      rw [HW0.out] at hST
      have HST := Lib.hid hST
      clear I4 hSl hST
      go_wp2_with ((with_reducible refine wpList_load_part (off := s * 3) (cs := ptC r b n c) Tryz.underlying120 rfl (by rw [infoPT]; exact congrArg some (ptC_len r b n c).symm) ?_ hx HROW.out ?_); (focus rfl))
      refine HST.out.mono ?_
      rintro e w5 ⟨b', n', c', ns', N', mid', low', rfl, hT5, hN5, _, b5⟩
      have I5 := HI4.out.below b5
      have HT5 := Lib.hid hT5; have HN5 := Lib.hid hN5
      have hz := Blk.new w5 120 #[.int .i64 0, .slice none 0 0, .slice none 0 0] _ rfl
      have bz := below_box w5 (.cells #[.int .i64 0, .slice none 0 0, .slice none 0 0] 120)
      clear HST hx c0 b5 hT5 hN5 HI4
      go_upto_region 12 with ((with_reducible refine stPT (r := r) (b := b') (n := n') (c := c') ?_ ?_ hz rfl ?_); (focus rfl); (focus rfl); intro w6 hB6 hg6)
      have b6 := bz.grown hg6 bz.size (fun k hk => by cases hk; exact Nat.le_refl _)
      have I6 := I5.below b6
      have HT6 := Lib.hid (HT5.out.below b6)
      obtain ⟨g9, hg9⟩ : ∃ q, w5.heap.size = q := ⟨_, rfl⟩
      have hlt9 : bt < g9 := by rw [← hg9]; exact I5.tb.x.lt
      rw [hg9] at hB6 ⊢
      clear hz bz hg6 b6 hg9 HT5 I5
      have c1 : w6.cell? ⟨g, 1, none⟩ = some (.slice (some ⟨bm, 0, none⟩) 32 32) := by rw [I6.x.cell]; rfl
      have c2 : w6.cell? ⟨bm, f, none⟩ = some v := by rw [I6.mv.x.cell]; exact HV.out
      obtain ⟨v', hv', O6⟩ := I6.mv.row f hf
      obtain rfl : v' = v := by rw [HV.out] at hv'; exact (Option.some.inj hv').symm
      have HRM := radd v' (M f) 0 (512 * s + p) w6 O6 (HH.out.ag.ml f hf) (by omega) HKM.out
      rw [mpC_at hp] at HRM
      have HRM := Lib.hid HRM
      have HI6 := Lib.hid I6
      clear O6 hv' I6
      go_wp2_with fail
      refine HRM.out.mono ?_
      rintro e w7 ⟨V, LL, rfl, O7, ml7, hy7, b7⟩
      have I7 := HI6.out.below b7
      have HT7 := Lib.hid (HT6.out.below b7)
      have hB7 := hB6.later b7
      obtain ⟨a7, c7, rfl, _⟩ := O7.rd
      obtain ⟨n7, hn7⟩ : ∃ n, LL.length = n := ⟨_, rfl⟩
      rw [hn7] at O7 ⊢
      have HO7 := Lib.hid O7; have HML := Lib.hid ml7; have HY := Lib.hid hy7
      obtain ⟨nxL, hnxL⟩ : ∃ q, nx + ((L : Nat) : Int) = q := ⟨_, rfl⟩
      have HNX := Lib.hid hnxL
      have HI7 := Lib.hid I7
      clear HRM HT6 hB6 b7 O7 ml7 hy7 c1 c2 hn7 HI6 I7
      rw [hnxL] at HN5
      clear hnxL
      go_upto_region 15 with fail
      have hS : SPut g g9 bt nt ct bm nxL r b' n' c' w7 := ⟨by rw [← HNX.out]; exact HI7.out.x, hB7⟩
      refine wp_region_plan (SPut g g9 bt nt ct bm nxL r b' n' c') (.quiet [0, 1, 2, 3, 4, 5, 6, 7, 8, 9, 10, 11, 12] (.only 13 (.quiet [14] (.only 15 .done)))) 99 (by kernel_rfl) (by kernel_rfl) hS ?_
      intro W5 hWW hWe
      have bW : Below w7.heap.size w7 W5 := by rw [hWe]; exact (Below.refl _ _).drew
      clear hWe hS hB7
      simp only [wpPlan, inOrder, List.filterMap_cons, List.filterMap_nil, List.getElem?_cons_zero, List.getElem?_cons_succ]
      have q1 : ∀ z, (hold (SPut g g9 bt nt ct bm nxL r b' n' c') W5 z).cell? ⟨g, 0, none⟩ = some (.slice (some ⟨bt, 0, none⟩) nt ct) := fun z => by rw [(hold_ok (S0 := SPut g g9 bt nt ct bm nxL r b' n' c') hWW z).1.cell]; rfl
      have q2 : ∀ z, (hold (SPut g g9 bt nt ct bm nxL r b' n' c') W5 z).cell? ⟨g, 1, none⟩ = some (.slice (some ⟨bm, 0, none⟩) 32 32) := fun z => by rw [(hold_ok (S0 := SPut g g9 bt nt ct bm nxL r b' n' c') hWW z).1.cell]; rfl
      show wpQuiet _ _ _ _ (_ :: _ :: _ :: _ :: _ :: _ :: _ :: _ :: _ :: _ :: _ :: _ :: [_]) _
      repeat (go_big_quiet_step (fail))
      refine wpQuiet_load_part (off := 0) (cs := ptC r b' n' c') Tryz.underlying120 rfl (by rw [infoPT]; rfl) rfl (fun U ⟨z, hz⟩ => by rw [hz]; exact (hold_ok (S0 := SPut g g9 bt nt ct bm nxL r b' n' c') hWW z).2) (fun j v hv => by rw [Nat.zero_add]; exact hv) ?_
      simp only [Act.put, List.setIfInBounds_toArray, List.set_cons_succ, List.set_cons_zero]
      repeat (go_big_quiet_step (fail))
      refine wpQuiet_nil ?_
      have HW := Lib.hid hWW
      have I5 := HI7.out.below bW
      have T5 := I5.tb
      have M5 := I5.mv
      have HT8 := Lib.hid (HT7.out.below bW)
      have O5 := HO7.out.later bW
      have hfit : s * 3 + (ptC r b' n' c').length ≤ zs.length := by
        have h3 := T5.ln
        have h4 : (s + 1) * 3 ≤ nt * 3 := Nat.mul_le_mul_right 3 hs
        rw [ptC_len]; omega
      have HK5 := Lib.hid I5.kb
      clear q1 q2 hWW bW HT7 I5
      refine wpList_store_part (off := s * 3) (cs := ptC r b' n' c') (by rw [infoPT]; rfl) rfl rfl T5.x hfit (ptC_one r b' n' c') ?_
      intro W6 B6 g6
      have hne : bt ≠ g9 := by omega
      have hS6 : SPut g g9 bt nt ct bm nxL r b' n' c' W6 := ⟨HW.out.1.grown g6 (by simpa using T5.x.ne_type HW.out.1 (by decide)), HW.out.2.grown g6 (by simpa using hne)⟩
      have M6 := M5.grown T5.x (by decide) (by decide) g6
      simp only [Act.put]
      go_wp2
      refine ⟨hold_of hS6, ?_⟩
      show wpQuiet _ _ _ _ ([_]) _
      repeat (go_big_quiet_step (fail))
      refine wpQuiet_nil ?_
      have hb0 : W6.cell? ⟨bm, f, none⟩ = some v' := by rw [M6.x.cell]; exact HV.out
      have hfz := M6.x.frozen f
      have hB8 := M6.x.set f (.slice a7 n7 c7)
      have g7 : W6.grownBy (W6.setCell ⟨bm, f, none⟩ (.slice a7 n7 c7)) (some bm) := ⟨rfl, rfl, rfl, by simp [World.setCell], fun k _ hk => Below.heap_setCell W6 ⟨bm, f, none⟩ _ k (fun e => hk (by rw [e]))⟩
      have PUT := BT.put HW.out.1 (T5.mono (nx' := nxL) (by have := HNX.out; omega)) M5 (HH.out.ag.put hs hp hf HK.out wb HML.out HY.out) hs hf HN8 HNC (by have := HNX.out; have := HH.out.lo; omega) HT8.out HN5.out O5 B6 g6 hB8 g7
      have HPUT := Lib.hid PUT
      have hS7 : SPut g g9 bt nt ct bm nxL r b' n' c' (W6.setCell ⟨bm, f, none⟩ (.slice a7 n7 c7)) := ⟨hS6.1.grown g7 (by simpa using M6.x.ne_type hS6.1 (by decide)), hS6.2.grown g7 (by simpa using M6.x.ne_type hS6.2 (by decide))⟩
      clear PUT g7 hB8 O5 HT8 M5 T5 B6 g6 M6 hfit
      show wpList _ _ _ [_] _ _
      go_wp2_with fail
      refine ⟨hold_of hS7, ?_⟩
      refine NoPanic.normal ?_
      obtain ⟨W7, hW7⟩ : ∃ V, V = W6.setCell ⟨bm, f, none⟩ (.slice a7 n7 c7) := ⟨_, rfl⟩
      rw [← hW7] at HPUT ⊢
      clear hb0 hfz hS6 hS7 hW7
      go_wp2
      go_ret
      exact ⟨rfl, ⟨nxL, LL, by have := HNX.out; omega, by have := HNX.out; omega, HML.out, HY.out, HPUT.out.1⟩, HK5.out.trans HPUT.out.2⟩
    | succ gg =>
      have hin : i < L := by omega
      have HI1 := Lib.hid hi
      clear hi
      have c2 : wr.cell? ⟨g, 2, none⟩ = some (.int .i64 (nx + (i : Nat))) := by rw [I4.x.cell]; rfl
      obtain ⟨X, hX⟩ : ∃ q, nx + ((i : Nat) : Int) = q := ⟨_, rfl⟩
      have hXr : 0 ≤ X ∧ X ≤ 4294960002 := by have := HH.out.lo; omega
      have HX := Lib.hid hX
      rw [hX] at c2
      have y5 := Blk.new wr 3 #[.int .i64 X] _ rfl
      have b5 := below_box wr (.cells #[.int .i64 X] 3)
      have I5 := I4.below b5
      have hl5 : (frs nx i).length ≤ 900000 := by rw [frs_len]; omega
      have hs5 := I5.kb.size
      have c2' := cell_later b5 c2
      have HS6 := Lib.hid (fun (v' : Value) (W' : World) (hO : Own W' w.heap.size v' (frs nx i ++ [X])) (hg : _) => I5.step (v' := v') (W' := W') (by rw [hX]; exact hO) hg)
      rw [hX] at HS6
      have O5 := I5.o
      clear hX I4 I5
      go_upto_region 9 with ((with_reducible refine wpList_appI (base := w.heap.size) (b := wr.heap.size) (x := X) ?_ ?_ O5 y5 hl5 hs5 ?_); (focus rfl); (focus rfl); intro v6 w6 O6 hg6)
      obtain ⟨d2, z2, I7⟩ := HS6.out v6 w6 O6 hg6
      have HI7 := Lib.hid I7
      clear I7 O6 hg6 O5 y5 b5 hl5 hs5 c2' HS6
      go_upto_region 10 with fail
      obtain ⟨w7, hw7⟩ : ∃ V, V = w6.setCell ⟨g, 2, none⟩ (.int .i64 (X + 1)) := ⟨_, rfl⟩
      rw [← hw7] at HI7 ⊢
      clear hw7 d2 z2
      go_wp2
      go_roundg gg
      case rel => exact ⟨i + 1, by have := HI1.out; omega, by go_num, HI7.out⟩
      case measure => omega
end Go.Proofs.YtdddkfpcbfgocaaGreat
namespace Go.Pt
theorem pgs_lt {ent : Nat → En} {i j a b : Nat} (hi : (pgs ent 512)[i]? = some a) (hj : (pgs ent 512)[j]? = some b) (hij : i < j) : a < b := by
  have h : List.Pairwise (· < ·) (pgs ent 512) := (List.pairwise_lt_range (n := 512)).filter _
  have := List.pairwise_iff_getElem.1 h
  rw [List.getElem?_eq_some_iff] at hi hj
  have h2 := this i j hi.1 hj.1 hij
  rw [hi.2, hj.2] at h2
  exact h2
theorem pgs_nil {ent : Nat → En} (h : (pgs ent 512).length = 0) (p : Nat) (hp : p < 512) : (ent p).k = 0 := by
  have h1 := List.eq_nil_of_length_eq_zero h
  unfold pgs at h1
  rw [List.filter_eq_nil_iff] at h1
  have := h1 p (List.mem_range.2 hp)
  simpa using this
end Go.Pt
namespace Go.Proofs.YtdddkfpcbfgocaaGreat
open Go.RowKit Go.Over Go.Seg Go.Grow Go.Pt
theorem KeepB.ownM {w w' : World} {g bt bm B : Nat} {v : Value} {M : List Nat} (h : KeepB g bt bm w w') (hO : OwnM w B v M) : OwnM w' B v M := h.own hO (by decide) (by decide) (by decide)
/-- What fork does. -/
def ForkAns (w : World) (g bt ct bm nt : Nat) (nx : Int) (e : Ending) (w' : World) : Prop :=
  e = .returned (.bool true) ∧ (∃ nx' E' M', nx ≤ nx' ∧ nx' ≤ nx + 1024 ∧ BT w' g bt ct bm nt nx' E' M') ∧ KeepB g bt bm w w'
def S13 (g g10 bt nt ct bm : Nat) (nx : Int) (k n : Int) (b : Bool) (ms : List Value) (U : World) : Prop := Blk U g 76 (btC bt nt ct bm nx) ∧ Blk U g10 131 (enC k n b) ∧ Blk U bm 123 ms
/-- Where fork stands. -/
structure FL (w w3 : World) (g bt ct bm nt : Nat) (nx : Int) (E : Nat → Nat → En) (s t i : Nat) (W : World) : Prop where
  b : ∃ nx' E' M', nx ≤ nx' ∧ nx' ≤ nx + 2 * (i : Nat) ∧ BT W g bt ct bm nt nx' E' M' ∧ E' s = E s ∧ ∀ j p, i ≤ j → (pgs (E s) 512)[j]? = some p → (E' t p).k = 0
  k3 : KeepB g bt bm w3 W
  k : KeepB g bt bm w W
set_option maxRecDepth 100000 in set_option maxHeartbeats 3200000 in
theorem fork (g bt ct bm nt : Nat) (nx : Int) (E : Nat → Nat → En) (M : Nat → List Nat) (s t : Nat) (w : World) (H : BT w g bt ct bm nt nx E M) (hs : s < nt) (ht : t < nt) (hst : s ≠ t) (hnx : nx ≤ 4294950000) :
    Calls Tryz.prog 28 #[.pointer (some ⟨g, 0, none⟩), .int .i64 (s : Nat), .int .i64 (t : Nat)] w (ForkAns w g bt ct bm nt nx) := by
  obtain ⟨zs, hT⟩ := H.tb
  obtain ⟨r, b, n, c, ns, N, mid, low, hrow, hT1, _⟩ := hT.row s hs
  obtain ⟨r', b', n', c', ns', N', mid', low', hrow', hT2, _⟩ := hT.row t ht
  have hx := hT.x
  have c0 : w.cell? ⟨g, 0, none⟩ = some (.slice (some ⟨bt, 0, none⟩) nt ct) := by rw [H.x.cell]; rfl
  have HH := Lib.hid H; have HROW := Lib.hid hrow; have HROW' := Lib.hid hrow'; have HT2 := Lib.hid hT2; have HTB := Lib.hid hT
  have HVE := Lib.hid hT1.tr.ve; have HPG := Lib.hid hT1.tr.pg
  have HLS := Lib.hid (list r b n c ns N mid low (E s) w hT1)
  have HN8 := H.n8
  have HNC := H.nc
  have hm := pgs_len (E s) 512
  obtain ⟨m, hme⟩ : ∃ m, (pgs (E s) 512).length = m := ⟨_, rfl⟩
  have HM := Lib.hid hme
  rw [hme] at hm
  clear H hT hrow hrow' hT1 hT2 hme
  go_enter Tryz.func28, Tryz.ntmps28
  go_wp2_with ((with_reducible refine wpList_load_part (off := s * 3) (cs := ptC r b n c) Tryz.underlying120 rfl (by rw [infoPT]; exact congrArg some (ptC_len r b n c).symm) ?_ hx HROW.out ?_); (focus rfl))
  refine HLS.out.mono ?_
  rintro e w2 ⟨v, rfl, O2, b2⟩
  unfold OwnP at O2
  rw [HM.out] at O2
  obtain ⟨a, cp, rfl, _, _, _⟩ := own_form O2
  have hrd : ∀ i p, (pgs (E s) 512)[i]? = some p → ∃ (q : Nat) (zs : List Value), a = some ⟨q, 0, none⟩ ∧ Blk w2 q 145 zs ∧ ∀ j u, (peC (E s) p)[j]? = some u → zs[i * 2 + j]? = some u := fun i p hp => by
    obtain ⟨q, cq, zs0, hv, _, _, _, hB, hrow⟩ := own_blk O2 (by rw [← HM.out, List.getElem?_eq_some_iff] at *; have := hp.1; omega)
    cases hv
    exact ⟨q, zs0, rfl, hB, fun j u hu => hrow _ _ (flat_get (peC_len (E s)) hp hu)⟩
  have HRD := Lib.hid hrd
  have x2 := (HTB.out.below b2).x
  have c2 : w2.cell? ⟨g, 0, none⟩ = some (.slice (some ⟨bt, 0, none⟩) nt ct) := cell_later b2 c0
  have HL2 := Lib.hid (list r' b' n' c' ns' N' mid' low' (E t) w2 (HT2.out.below b2))
  clear O2 hrd HLS hx c0
  go_wp2_with ((with_reducible refine wpList_load_part (off := t * 3) (cs := ptC r' b' n' c') Tryz.underlying120 rfl (by rw [infoPT]; exact congrArg some (ptC_len r' b' n' c').symm) ?_ x2 HROW'.out ?_); (focus rfl))
  refine HL2.out.mono ?_
  rintro e w3 ⟨v3, rfl, O3, b3⟩
  unfold OwnP at O3
  obtain ⟨m3, hm3⟩ : ∃ m, (pgs (E t) 512).length = m := ⟨_, rfl⟩
  have HM3 := Lib.hid hm3
  have hm512 := pgs_len (E t) 512
  rw [hm3] at O3 hm512
  obtain ⟨a3, cp3, rfl, _, _, _⟩ := own_form O3
  have u3 := below_then b2 b3
  have HRD3 := Lib.hid (fun i p hp => by obtain ⟨q, zs, h1, h2, h3⟩ := HRD.out i p hp; exact (⟨q, zs, h1, h2.later b3, h3⟩ : ∃ (q : Nat) (zs : List Value), a = some ⟨q, 0, none⟩ ∧ Blk w3 q 145 zs ∧ ∀ j u, (peC (E s) p)[j]? = some u → zs[i * 2 + j]? = some u))
  clear HL2 O3 x2 c2 hm3 HRD b2 b3
  by_cases h0 : 0 < m3
  · go_wp2
    go_ret
    exact ⟨rfl, ⟨nx, E, M, by omega, by omega, HH.out.below u3⟩, KeepB.below (g := g) (bt := bt) (bm := bm) u3⟩
  · obtain rfl : m3 = 0 := by omega
    have HZ := Lib.hid (pgs_nil HM3.out)
    have B3 := HH.out.below u3
    have K3 := KeepB.below (g := g) (bt := bt) (bm := bm) u3
    clear h0 u3
    have F3 : FL w w3 g bt ct bm nt nx E s t 0 w3 := ⟨⟨nx, E, M, by omega, by omega, B3, rfl, fun j p _ hp => HZ.out p (pgs_in hp).1⟩, KeepB.refl (g := g) (bt := bt) (bm := bm) _, K3⟩
    clear B3 K3
    go_wp2
    go_loopg [34] m (fun gg v34 wr => ∃ i : Nat, i + gg = m ∧ v34 = .int .i64 i ∧ FL w w3 g bt ct bm nt nx E s t i wr)
    case atStart => exact ⟨0, by omega, rfl, F3⟩
    case round =>
      clear F3
      obtain ⟨i, hi, rfl, F4⟩ := hrel
      cases gk with
      | zero =>
        obtain rfl : m = i := by omega
        have hin : ¬ m < m := by omega
        clear hi
        go_wp2
        go_ret
        obtain ⟨nx', E', M', h1, h2, h3, _⟩ := F4.b
        exact ⟨rfl, ⟨nx', E', M', h1, by omega, h3⟩, F4.k⟩
      | succ gg =>
        have hin : i < m := by omega
        have HI1 := Lib.hid hi
        obtain ⟨p, hp⟩ := get_some HM.out hin
        obtain ⟨q, zs3, rfl, hB, hz⟩ := HRD3.out i p hp
        have hB := F4.k3.blk q _ zs3 (by decide) (by decide) (by decide) hB
        have HP := Lib.hid hp; have HZS := Lib.hid hz
        have hZ := Blk.new wr 145 #[.int .i64 0, .int .u64 0] _ rfl
        have bz := below_box wr (.cells #[.int .i64 0, .int .u64 0] 145)
        obtain ⟨nx1, E1, M1, hn1, hn2, B4, hE1, hE2⟩ := F4.b
        have K4 := F4.k; have K34 := F4.k3
        have HE1 := Lib.hid hE1; have HE2 := Lib.hid hE2
        clear hi hp hz F4 hE1 hE2
        go_upto_region 7 with first | ((with_reducible refine wpList_load_part (off := i * 2) (cs := peC (E s) p) Tryz.underlying145 rfl (by rw [infoPE]; exact congrArg some (peC_len (E s) p).symm) ?_ hB HZS.out ?_); (focus rfl)) | ((with_reducible refine stPE (ent := E s) (p := p) ?_ ?_ hZ rfl ?_); (focus rfl); (focus rfl); intro w4 hB4 hg4)
        obtain ⟨q4, hg4'⟩ : ∃ g, wr.heap.size = g := ⟨_, rfl⟩
        have b4 := bz.grown hg4 bz.size (fun k hk => by cases hk; exact Nat.le_refl _)
        have B5 := B4.below b4
        have K5 := K4.trans (KeepB.below (g := g) (bt := bt) (bm := bm) b4)
        have K35 := K34.trans (KeepB.below (g := g) (bt := bt) (bm := bm) b4)
        rw [hg4'] at hB4 ⊢
        obtain ⟨hp5, hpk⟩ := pgs_in HP.out
        have hpk1 : (E s p).k = 1 := by
          rcases HPG.out p hp5 with h | h
          · exact absurd h hpk
          · exact h
        have hve := HVE.out p hp5
        obtain ⟨f, hf, hfn⟩ := HH.out.ag.fr s p hs hp5 hpk
        have HPK := Lib.hid hpk1
        have HFN := Lib.hid hfn
        have HDE := Lib.hid (fun u => decE hve u)
        have c1 : w4.cell? ⟨q4, 1, none⟩ = some (.int .u64 (wd (E s p))) := by rw [hB4.cell]; rfl
        have HB4 := Lib.hid hB4
        obtain ⟨W0, hW0⟩ : ∃ q, wd (E s p) = q := ⟨_, rfl⟩
        rw [hW0] at c1 HDE
        clear hZ bz hg4 b4 hg4' hB hpk hpk1 hve hW0 hB4 B4 K4 K34 hfn
        go_wp2_with fail
        refine (HDE.out w4).mono ?_
        rintro e w5 ⟨rfl, b5⟩
        have B6 := B5.below b5
        have K6 := K5.trans (KeepB.below (g := g) (bt := bt) (bm := bm) b5)
        have K36 := K35.trans (KeepB.below (g := g) (bt := bt) (bm := bm) b5)
        have X6 := HB4.out.later b5
        have hz := Blk.new w5 131 #[.int .i64 0, .int .i64 0, .bool false, .bool false, .bool false, .bool false] _ rfl
        have bz := below_box w5 (.cells #[.int .i64 0, .int .i64 0, .bool false, .bool false, .bool false, .bool false] 131)
        clear b5 c1 HDE HB4 B5 K5 K35
        go_upto_region 8 with ((with_reducible refine stE (k := (E s p).k) (n := (E s p).n) (b := (E s p).b) ?_ ?_ hz rfl ?_); (focus rfl); (focus rfl); intro w6 hB6 hg6)
        obtain ⟨q6, hq6⟩ : ∃ g, w5.heap.size = g := ⟨_, rfl⟩
        have b6 := bz.grown hg6 bz.size (fun k hk => by cases hk; exact Nat.le_refl _)
        have B7 := B6.below b6
        have K7 := K6.trans (KeepB.below (g := g) (bt := bt) (bm := bm) b6)
        have K37 := K36.trans (KeepB.below (g := g) (bt := bt) (bm := bm) b6)
        have X7 := X6.later b6
        rw [hq6] at hB6 ⊢
        rw [HPK.out, HFN.out] at hB6
        obtain ⟨wb, hwb⟩ : ∃ q, (E s p).b = q := ⟨_, rfl⟩
        rw [hwb] at hB6
        have d0 : w6.cell? ⟨q6, 0, none⟩ = some (.int .i64 1) := by rw [hB6.cell]; rfl
        have d1 : w6.cell? ⟨q6, 1, none⟩ = some (.int .i64 (f : Nat)) := by rw [hB6.cell]; rfl
        have cg : w6.cell? ⟨g, 1, none⟩ = some (.slice (some ⟨bm, 0, none⟩) 32 32) := by rw [B7.x.cell]; rfl
        clear hz bz hg6 b6 hq6 B6 K6 K36 X6 hwb
        have e0 := over_cell d0; have e1 := over_cell d1; have eg := over_cell cg
        clear d0 d1 cg
        have tn : decide (((f : Nat) : Int) < 0) = false := decide_eq_false (by omega)
        have tm : decide ((32 : Int) ≤ (f : Nat)) = false := decide_eq_false (by omega)
        refine wp_region_over (by kernel_rfl) (by kernel_rfl) ?_
        repeat (go_big_quiet_step (fail))
        refine wpQuiet_nil ?_
        rintro _ ⟨u, rfl⟩
        have bo := below_over w6 u
        have B8 := B7.below bo
        have K8 := K7.trans (KeepB.below (g := g) (bt := bt) (bm := bm) bo)
        have K38 := K37.trans (KeepB.below (g := g) (bt := bt) (bm := bm) bo)
        have X8 := X7.later bo
        have hB8 := hB6.later bo
        obtain ⟨w8, hw8⟩ : ∃ V, V = over w6 u := ⟨_, rfl⟩
        rw [← hw8] at B8 K8 K38 X8 hB8 ⊢
        clear tn tm bo hw8 e0 e1 eg B7 K7 K37 X7 hB6
        go_upto_region 10 with fail
        obtain ⟨ms, hMV⟩ := B8.mv
        obtain ⟨v0, hv0, hO0⟩ := hMV.row f hf
        have d1 : w8.cell? ⟨q6, 1, none⟩ = some (.int .i64 (f : Nat)) := by rw [hB8.cell]; rfl
        have cg : w8.cell? ⟨g, 1, none⟩ = some (.slice (some ⟨bm, 0, none⟩) 32 32) := by rw [B8.x.cell]; rfl
        have cm : w8.cell? ⟨bm, f, none⟩ = some v0 := by rw [hMV.x.cell]; exact hv0
        have e1 := over_cell d1; have eg := over_cell cg; have em := over_cell cm
        clear d1 cg cm hMV hv0
        refine wp_region_over (by kernel_rfl) (by kernel_rfl) ?_
        repeat (go_big_quiet_step (fail))
        refine wpQuiet_nil ?_
        rintro _ ⟨u, rfl⟩
        have bo := below_over w8 u
        have B9 := B8.below bo
        have K9 := K8.trans (KeepB.below (g := g) (bt := bt) (bm := bm) bo)
        have K39 := K38.trans (KeepB.below (g := g) (bt := bt) (bm := bm) bo)
        have X9 := X8.later bo
        have hB9 := hB8.later bo
        have O9 := hO0.later bo
        obtain ⟨w9, hw9⟩ : ∃ V, V = over w8 u := ⟨_, rfl⟩
        rw [← hw9] at B9 K9 K39 X9 hB9 O9 ⊢
        clear bo hw9 e1 eg em B8 K8 K38 X8 hB8 hO0
        have c0 : w9.cell? ⟨q4, 0, none⟩ = some (.int .i64 (p : Nat)) := by rw [X9.cell]; rfl
        have d1 : w9.cell? ⟨q6, 1, none⟩ = some (.int .i64 (f : Nat)) := by rw [hB9.cell]; rfl
        have HIN := Lib.hid (install g bt ct bm nt nx1 E1 M1 t p f false w9 B9 ht hp5 hf (HE2.out i p (Nat.le_refl _) HP.out) (by omega))
        have HB9 := Lib.hid B9; have HX9 := Lib.hid X9; have HBE := Lib.hid hB9
        clear B9 X9 hB9
        go_wp2_with fail
        refine HIN.out.mono ?_
        rintro e w10 ⟨rfl, ⟨nx2, LL, h1, h2, hml, hy, B10⟩, K10⟩
        have hE2s : upd E1 t (upd (E1 t) p ⟨1, (f : Nat), false⟩) s = E s := by rw [upd_ne _ _ hst]; exact HE1.out
        have hE2t : ∀ j p', i + 1 ≤ j → (pgs (E s) 512)[j]? = some p' → (upd E1 t (upd (E1 t) p ⟨1, (f : Nat), false⟩) t p').k = 0 := fun j p' hj hp' => by
          have := pgs_lt HP.out hp' (by omega)
          rw [upd_self, upd_ne _ _ (by omega)]
          exact HE2.out j p' (by omega) hp'
        have hM2 : upd M1 f LL f = LL := upd_self _ _ _
        obtain ⟨E2, hE2⟩ : ∃ q, upd E1 t (upd (E1 t) p ⟨1, (f : Nat), false⟩) = q := ⟨_, rfl⟩
        obtain ⟨M2, hM2'⟩ : ∃ q, upd M1 f LL = q := ⟨_, rfl⟩
        rw [hE2] at hE2s hE2t B10
        rw [hM2'] at hM2 B10
        have HE3 := Lib.hid hE2s; have HE4 := Lib.hid hE2t
        have O10 := K10.ownM O9
        have K11 := K9.trans K10; have K31 := K39.trans K10
        have hBE := K10.blk _ _ _ (by decide) (by decide) (by decide) HBE.out
        obtain ⟨ms2, hMV⟩ := B10.mv
        obtain ⟨v2, hv2, hO2⟩ := hMV.row f hf
        rw [hM2] at hO2
        have HV2 := Lib.hid hv2
        have hms := hMV.x
        have HML := Lib.hid hml; have HY := Lib.hid hy; have HM1 := Lib.hid (HB9.out.ag.ml f hf)
        clear HIN c0 d1 HX9 HBE K9 K39 K10 hE2s hE2t hE2 hM2' hM2 hMV hv2 O9 hml hy
        go_upto_region 13 with fail
        have hS : S13 g q6 bt nt ct bm nx2 1 (f : Nat) wb ms2 w10 := ⟨B10.x, hBE, hms⟩
        refine wp_region_plan (S13 g q6 bt nt ct bm nx2 1 (f : Nat) wb ms2) (.quiet [0, 1, 2, 3, 4, 5, 6, 7, 8] (.only 9 (.quiet [10] .done))) 99 (by kernel_rfl) (by kernel_rfl) hS ?_
        intro W5 hWW hWe
        have bW : Below w10.heap.size w10 W5 := by rw [hWe]; exact (Below.refl _ _).drew
        clear hWe hS hBE hms
        simp only [wpPlan, inOrder, List.filterMap_cons, List.filterMap_nil, List.getElem?_cons_zero, List.getElem?_cons_succ]
        have q1 : ∀ z, (hold (S13 g q6 bt nt ct bm nx2 1 (f : Nat) wb ms2) W5 z).cell? ⟨g, 1, none⟩ = some (.slice (some ⟨bm, 0, none⟩) 32 32) := fun z => by rw [(hold_ok (S0 := S13 g q6 bt nt ct bm nx2 1 (f : Nat) wb ms2) hWW z).1.cell]; rfl
        have q2 : ∀ z, (hold (S13 g q6 bt nt ct bm nx2 1 (f : Nat) wb ms2) W5 z).cell? ⟨q6, 1, none⟩ = some (.int .i64 (f : Nat)) := fun z => by rw [(hold_ok (S0 := S13 g q6 bt nt ct bm nx2 1 (f : Nat) wb ms2) hWW z).2.1.cell]; rfl
        have q3 : ∀ z, (hold (S13 g q6 bt nt ct bm nx2 1 (f : Nat) wb ms2) W5 z).cell? ⟨bm, f, none⟩ = some v2 := fun z => by rw [(hold_ok (S0 := S13 g q6 bt nt ct bm nx2 1 (f : Nat) wb ms2) hWW z).2.2.cell]; exact HV2.out
        show wpQuiet _ _ _ _ (_ :: _ :: _ :: _ :: _ :: _ :: _ :: _ :: [_]) _
        repeat (go_big_quiet_step (fail))
        refine wpQuiet_nil ?_
        have HW := Lib.hid hWW
        clear q1 q2 q3 hWW
        have HDR := Lib.hid (rdrop v2 LL 0 t W5 (hO2.later bW) HML.out)
        show wpList _ _ _ [_] _ _
        go_wp2_with fail
        refine HDR.out.mono ?_
        rintro e w11 ⟨V1, rfl, O11, b11⟩
        have hS11 : S13 g q6 bt nt ct bm nx2 1 (f : Nat) wb ms2 w11 := ⟨HW.out.1.later b11, HW.out.2.1.later b11, HW.out.2.2.later b11⟩
        have bW2 := below_then bW b11
        have B12 := B10.below bW2
        have O12 := O10.later bW2
        have K12 := K11.trans (KeepB.below (g := g) (bt := bt) (bm := bm) bW2); have K32 := K31.trans (KeepB.below (g := g) (bt := bt) (bm := bm) bW2)
        clear HDR bW b11 hO2 B10 O10 K11 K31 bW2 HW
        go_wp2
        refine ⟨hold_of hS11, ?_⟩
        show wpQuiet _ _ _ _ ([_]) _
        repeat (go_big_quiet_step (fail))
        refine wpQuiet_nil ?_
        refine NoPanic.normal ?_
        have HDR := Lib.hid (rdrop v0 (M1 f) 0 t w11 O12 HM1.out)
        clear hS11 O12
        go_wp2_with fail
        refine HDR.out.mono ?_
        rintro e w13 ⟨V3, rfl, O13, b13⟩
        have hEq : (M1 f).filter (fun k => decide (¬ k / 512 = t)) = LL.filter (fun k => decide (¬ k / 512 = t)) := ML.ext (HM1.out.filter _) (HML.out.filter _) fun x => by
          rw [List.mem_filter, List.mem_filter, HY.out]
          constructor
          · rintro ⟨q1, q2⟩; exact ⟨.inl q1, q2⟩
          · rintro ⟨q1 | q1, q2⟩
            · exact ⟨q1, q2⟩
            · subst q1
              rw [show (512 * t + p) / 512 = t by omega] at q2
              simp at q2
        rw [hEq] at O13
        have hll : (LL.filter (fun k => decide (¬ k / 512 = t))).length ≤ 100000 := by have := (HML.out.filter (fun k => decide (¬ k / 512 = t))).len; omega
        have HSM := Lib.hid (sameM V1 V3 _ _ _ w13 (O11.later b13) O13 hll)
        have B14 := B12.below b13
        have K14 := K12.trans (KeepB.below (g := g) (bt := bt) (bm := bm) b13); have K34 := K32.trans (KeepB.below (g := g) (bt := bt) (bm := bm) b13)
        clear HDR O11 O13 hEq hll b13 B12 K12 K32
        go_wp2_with fail
        refine HSM.out.mono ?_
        rintro e w15 ⟨rfl, b15⟩
        have B15 := B14.below b15
        have K15 := K14.trans (KeepB.below (g := g) (bt := bt) (bm := bm) b15); have K35 := K34.trans (KeepB.below (g := g) (bt := bt) (bm := bm) b15)
        clear HSM b15 B14 K14 K34
        go_wp2
        go_roundg gg
        case rel => exact ⟨i + 1, by have := HI1.out; omega, by go_num, ⟨nx2, E2, M2, by omega, by omega, B15, HE3.out, HE4.out⟩, K35, K15⟩
        case measure => omega
end Go.Proofs.YtdddkfpcbfgocaaGreat
namespace Go.Pt
theorem invP_stay {E : Nat → Nat → En} {s i f p : Nat} (hp : (pgs (E s) 512)[i]? = some p) (hn : ¬ (E s p).n = (f : Int)) : invP E s (i + 1) f = invP E s i f := by
  unfold invP invB
  generalize pgs (E s) 512 = l at hp ⊢
  rw [filter_next hp]
  simp [hn]
theorem invP_more {E : Nat → Nat → En} {s i f p : Nat} (hp : (pgs (E s) 512)[i]? = some p) (hn : (E s p).n = (f : Int)) : invP E s (i + 1) f = invP E s i f ++ [512 * s + p] := by
  rw [invP_next hp hn, updR_at]
/-- A number at the end of a list, if two numbers are equal. -/
def putIf (a b : Nat) (R : List Nat) (x : Nat) : List Nat := if a = b then R ++ [x] else R
end Go.Pt
namespace Go.Proofs.YtdddkfpcbfgocaaGreat
open Go.RowKit Go.Over Go.Seg Go.Grow Go.Pt
/-- What Of keeps from space to space. -/
structure OO (W0 : World) (g1 g2 f : Nat) (R : List Nat) (W : World) : Prop where
  u : Below W0.heap.size W0 W
  fr : Blk W g1 3 [.int .i64 (f : Nat)]
  ls : ∃ v, Blk W g2 123 [v] ∧ OwnM W W0.heap.size v R
  h2 : W0.heap.size ≤ g2
/-- What the function keeps that is called for each page of a space. -/
structure IO (W0 : World) (g1 g2 g3 f s : Nat) (R : List Nat) (W : World) : Prop where
  o : OO W0 g1 g2 f R W
  sp : Blk W g3 3 [.int .i64 (s : Nat)]
section
variable {W0 W W' W'' : World} {g1 g2 g3 f s : Nat} {R : List Nat}
theorem OO.below (h : OO W0 g1 g2 f R W) (hb : Below W.heap.size W W') : OO W0 g1 g2 f R W' :=
  ⟨below_then h.u hb, h.fr.later hb, by obtain ⟨v, q1, q2⟩ := h.ls; exact ⟨v, q1.later hb, q2.later hb⟩, h.h2⟩
theorem IO.below (h : IO W0 g1 g2 g3 f s R W) (hb : Below W.heap.size W W') : IO W0 g1 g2 g3 f s R W' := ⟨h.o.below hb, h.sp.later hb⟩
/-- The list is put longer. -/
theorem IO.put {v v' : Value} {M : List Nat} (h : IO W0 g1 g2 g3 f s R W) (hv : Blk W g2 123 [v]) (hO : OwnM W W0.heap.size v R) (hO' : OwnM W' W0.heap.size v' M) (hg : W.grownBy W' v.ownBlock) :
    W'.cell? ⟨g2, 0, none⟩ = some v ∧ W'.frozen? ⟨g2, 0, none⟩ = false ∧ IO W0 g1 g2 g3 f s M (W'.setCell ⟨g2, 0, none⟩ v') ∧ KeepT 145 W (W'.setCell ⟨g2, 0, none⟩ v') := by
  have hx := hv.grown hg (hv.not_own hO (by decide))
  have g' : W'.grownBy (W'.setCell ⟨g2, 0, none⟩ v') (some g2) := ⟨rfl, rfl, rfl, by simp [World.setCell], fun k _ hk => Below.heap_setCell W' ⟨g2, 0, none⟩ _ k (fun e => hk (by rw [e]))⟩
  have two : ∀ {q : Nat} {t : TypeId} {cs : List Value}, Blk W q t cs → t ≠ 126 → t ≠ 123 → Blk (W'.setCell ⟨g2, 0, none⟩ v') q t cs := fun hq h1 h2 => by
    have a1 := hq.grown hg (hq.not_own hO (Ne.symm h1))
    exact a1.grown g' (by simpa using hx.ne_type a1 (Ne.symm h2))
  have hx2 := hx.set 0 v'
  refine ⟨by rw [hx.cell]; rfl, hx.frozen 0, ⟨⟨?_, two h.o.fr (by decide) (by decide), ⟨v', hx2, World.ownsRow.kept hO' g' (.inr (hx.not_own hO' (by decide)))⟩, h.o.h2⟩, two h.sp (by decide) (by decide)⟩, fun q zs hq => two hq (by decide) (by decide)⟩
  exact (h.o.u.grown hg h.o.u.size fun k hk => (World.ownsRow.lt hO k hk).1).grown g' (Nat.le_trans h.o.u.size hg.size) (fun k hk => by cases hk; exact h.o.h2)
end
/-- What the function does that is called for each page. -/
def Of1Ans (W0 : World) (g1 g2 g3 f s : Nat) (R : List Nat) (w : World) (e : Ending) (w' : World) : Prop := e = .returned (.tuple #[]) ∧ IO W0 g1 g2 g3 f s R w' ∧ KeepT 145 w w'
set_option maxRecDepth 100000 in set_option maxHeartbeats 3200000 in
theorem of1 (W0 : World) (g1 g2 g3 s p f f' : Nat) (R : List Nat) (w : World) (H : IO W0 g1 g2 g3 f s R w) (hp : p < 512) (hl : R.length ≤ 900000) :
    Calls Tryz.prog 111 #[.int .i64 p, .int .i64 (f' : Nat), .pointer (some ⟨g1, 0, none⟩), .pointer (some ⟨g2, 0, none⟩), .pointer (some ⟨g3, 0, none⟩)] w (Of1Ans W0 g1 g2 g3 f s (putIf f' f R (512 * s + p)) w) := by
  have c1 : w.cell? ⟨g1, 0, none⟩ = some (.int .i64 (f : Nat)) := by rw [H.o.fr.cell]; rfl
  have c3 : w.cell? ⟨g3, 0, none⟩ = some (.int .i64 (s : Nat)) := by rw [H.sp.cell]; rfl
  obtain ⟨v, hv, hO⟩ := H.o.ls
  have c2 : w.cell? ⟨g2, 0, none⟩ = some v := by rw [hv.cell]; rfl
  have b3 := below_box w (.cells #[.int .i64 (s : Nat), .int .i64 (p : Nat)] 126)
  have y3 := Blk.new w 126 #[.int .i64 (s : Nat), .int .i64 (p : Nat)] (mpC (512 * s + p)) (by rw [mpC_at hp])
  have HS := Lib.hid (fun (v' : Value) (W' : World) (hO' : OwnM W' W0.heap.size v' (R ++ [512 * s + p])) (hg : _) => (H.below b3).put (hv.later b3) (hO.later b3) hO' hg)
  have O3 := hO.later b3
  have hs3 := (H.below b3).o.u.size
  have K3 := KeepT.below (t := 145) b3
  have HH := Lib.hid H
  clear H hv hO b3
  by_cases e : f' = f
  · subst e
    have HP := Lib.hid (show putIf f' f' R (512 * s + p) = R ++ [512 * s + p] from if_pos rfl)
    go_enter Tryz.func111, Tryz.ntmps111
    go_wp2_with ((with_reducible refine wpList_appM (base := W0.heap.size) (b := w.heap.size) (k := 512 * s + p) (M := R) (v := v) ?_ ?_ O3 y3 hl hs3 ?_); (focus rfl); (focus rfl); intro v6 w6 O6 hg6 hw6; obtain ⟨a6, c6, rfl, _⟩ := O6.rd; obtain ⟨d2, z2, I7⟩ := HS.out _ w6 O6 hg6; obtain ⟨n6, hn6⟩ : ∃ n, (R ++ [512 * s + p]).length = n := ⟨_, rfl⟩; rw [hn6] at I7 ⊢; have HI7 := Lib.hid I7; clear hn6 I7 O6 hg6 hw6)
    refine bodyPost_end (results_none rfl _ _ _) rfl ?_
    rw [HP.out]
    exact ⟨rfl, HI7.out.1, K3.trans HI7.out.2⟩
  · have HP := Lib.hid (show putIf f' f R (512 * s + p) = R from if_neg e)
    clear HS O3 hs3 K3 y3 hl
    go_enter Tryz.func111, Tryz.ntmps111
    go_wp2
    refine bodyPost_end (results_none rfl _ _ _) rfl ?_
    rw [HP.out]
    exact ⟨rfl, HH.out, fun _ _ h => h⟩
/-- What is done for the pages of one space. -/
theorem ofS (W0 : World) (g1 g2 g3 f s nt : Nat) (E : Nat → Nat → En) (M : Nat → List Nat) (hA : Agr nt E M) (hs : s < nt) (hn : nt ≤ 8) (r : Int) (b n c : Nat) (ns : List Value) (N : List Nd) (mid low : Nat → Option Int) (w : World) (H : TV w r b n c ns N mid low (E s)) (h0 : IO W0 g1 g2 g3 f s (invL E s f) w) :
    Calls Tryz.prog 74 #[.agg #[.int .i64 r, .slice (some ⟨b, 0, none⟩) n c, .slice none 0 0], .func (.func 111) #[] #[.pointer (some ⟨g1, 0, none⟩), .pointer (some ⟨g2, 0, none⟩), .pointer (some ⟨g3, 0, none⟩)]] w fun e w' => e = .returned (.tuple #[]) ∧ OO W0 g1 g2 f (invL E (s + 1) f) w' := by
  have h := namedO g1 g2 g3 r b n c ns N mid low (E s) (fun i W => IO W0 g1 g2 g3 f s (invP E s i f) W) w H (fun i W W' h hb => h.below hb) (fun i p W hp hI => ?_) (by rw [invP_zero]; exact h0)
  · refine h.mono ?_
    rintro e w' ⟨rfl, hI⟩
    rw [invP_last] at hI
    exact ⟨rfl, hI.o⟩
  · obtain ⟨hp5, hk⟩ := pgs_in hp
    obtain ⟨f', hf, hfn⟩ := hA.fr s p hs hp5 hk
    have := of1 W0 g1 g2 g3 s p f f' (invP E s i f) W hI hp5 (invP_len (by omega))
    rw [hfn]
    refine this.mono ?_
    rintro e w' ⟨rfl, h1, h2⟩
    have he : putIf f' f (invP E s i f) (512 * s + p) = invP E s (i + 1) f := by
      by_cases e : f' = f
      · subst e
        rw [invP_more hp hfn]
        exact if_pos rfl
      · rw [invP_stay hp (by rw [hfn]; omega)]
        exact if_neg e
    rw [he] at h1
    exact ⟨rfl, h1, h2⟩
/-- What Of gives. -/
def OfAns (w : World) (E : Nat → Nat → En) (nt f : Nat) (e : Ending) (w' : World) : Prop := ∃ v, e = .returned v ∧ OwnM w' w.heap.size v (invL E nt f) ∧ Below w.heap.size w w'
set_option maxRecDepth 100000 in set_option maxHeartbeats 3200000 in
theorem of_ (bt nt ct f : Nat) (zs : List Value) (E : Nat → Nat → En) (nx : Int) (M : Nat → List Nat) (w : World) (H : TB w bt nt zs E nx) (hA : Agr nt E M) (hn : nt ≤ 8) (hc : nt ≤ ct) :
    Calls Tryz.prog 62 #[.slice (some ⟨bt, 0, none⟩) nt ct, .int .i64 (f : Nat)] w (OfAns w E nt f) := by
  have HH := Lib.hid H; have HA := Lib.hid hA
  have b0 := below_box w (.cells #[.int .i64 (f : Nat)] 3)
  have x0 := Blk.new w 3 #[.int .i64 (f : Nat)] _ rfl
  clear H hA
  go_enter Tryz.func62, Tryz.ntmps62
  go_upto_region 1 with fail
  obtain ⟨w1, hw1⟩ : ∃ V, V = w.alloc (.cells #[.int .i64 (f : Nat)] 3) := ⟨_, rfl⟩
  obtain ⟨g3, hg3⟩ : ∃ g, w.heap.size = g := ⟨_, rfl⟩
  rw [← hw1] at b0 x0 ⊢
  rw [hg3] at x0 ⊢
  clear hw1 hg3
  go_upto_region 2 with fail
  have b2 := below_box w1 (.cells #[.slice none 0 0] 123)
  have x2 := Blk.new w1 123 #[.slice none 0 0] _ rfl
  have V4 : OO w g3 w1.heap.size f (invL E 0 f) (w1.alloc (.cells #[.slice none 0 0] 123)) :=
    ⟨below_then b0 b2, x0.later b2, ⟨_, x2, OwnM.nil _ _⟩, b0.size⟩
  obtain ⟨w4, hw4⟩ : ∃ V, V = w1.alloc (.cells #[.slice none 0 0] 123) := ⟨_, rfl⟩
  obtain ⟨g5, hg5⟩ : ∃ g, w1.heap.size = g := ⟨_, rfl⟩
  rw [hg5] at V4 ⊢
  rw [← hw4] at V4 ⊢
  clear hw4 hg5 b2 x2 x0 b0
  go_wp2
  have hm1 : min (nt : Int) 8 = (nt : Int) := by omega
  have hm2 : max (nt : Int) 0 = (nt : Int) := by omega
  simp only [hm1, hm2, Int.toNat_natCast]
  clear hm1 hm2
  go_loopg [14] nt (fun gg v14 wr => ∃ i : Nat, i + gg = nt ∧ v14 = .int .i64 i ∧ OO w g3 g5 f (invL E i f) wr)
  case atStart => exact ⟨0, by omega, rfl, V4⟩
  case round =>
    clear V4
    obtain ⟨i, hi, rfl, V5⟩ := hrel
    cases gk with
    | zero =>
      obtain rfl : nt = i := by omega
      have hin : ¬ nt < nt := by omega
      clear hi
      obtain ⟨v, hv, hO⟩ := V5.ls
      have c5 : wr.cell? ⟨g5, 0, none⟩ = some v := by rw [hv.cell]; rfl
      have HV := Lib.hid V5.u; have HO := Lib.hid hO
      clear V5 hv hO
      go_wp2
      go_ret
      exact ⟨v, rfl, HO.out, HV.out⟩
    | succ gg =>
      have hin : i < nt := by omega
      have HI1 := Lib.hid hi
      have T5 := HH.out.below V5.u
      obtain ⟨r, b, n, c, ns, N, mid, low, hrow, hT, hN⟩ := T5.row i hin
      have hx := T5.x
      have HX := Lib.hid hrow; have HT := Lib.hid hT
      clear hi hrow hN T5 hT
      have b5 := below_box wr (.cells #[.int .i64 (i : Nat)] 3)
      have s5 := Blk.new wr 3 #[.int .i64 (i : Nat)] _ rfl
      have b6 := below_box (wr.alloc (.cells #[.int .i64 (i : Nat)] 3)) (.cells #[.int .i64 0, .slice none 0 0, .slice none 0 0] 120)
      have hz : Blk ((wr.alloc (.cells #[.int .i64 (i : Nat)] 3)).alloc (.cells #[.int .i64 0, .slice none 0 0, .slice none 0 0] 120)) (wr.heap.size + 1) 120 [.int .i64 0, .slice none 0 0, .slice none 0 0] := by
        have := Blk.new (wr.alloc (.cells #[.int .i64 (i : Nat)] 3)) 120 #[.int .i64 0, .slice none 0 0, .slice none 0 0] _ rfl
        simpa using this
      go_upto_region 5 with first | ((with_reducible refine wpList_load_part (off := i * 3) (cs := ptC r b n c) Tryz.underlying120 rfl (by rw [infoPT]; exact congrArg some (ptC_len r b n c).symm) ?_ hx HX.out ?_); (focus rfl)) | ((with_reducible refine stPT (r := r) (b := b) (n := n) (c := c) ?_ ?_ hz rfl ?_); (focus rfl); (focus rfl); intro w6 hB6 hg6)
      have b7 := ((below_then b5 b6)).grown hg6 (below_then b5 b6).size (fun k hk => by cases hk; omega)
      have V6 : IO w g3 g5 wr.heap.size f i (invL E i f) w6 := ⟨V5.below b7, (s5.later b6).grown hg6 (by simp)⟩
      have T6 := HT.out.below b7
      have HNM := Lib.hid (ofS w g3 g5 wr.heap.size f i nt E M HA.out hin hn r b n c ns N mid low w6 T6 V6)
      obtain ⟨g7, hg7⟩ : ∃ g, wr.heap.size = g := ⟨_, rfl⟩
      rw [hg7] at hB6 HNM ⊢
      clear b5 s5 b6 hz hg6 b7 V6 T6 hx V5 hg7
      go_wp2_with ((with_reducible refine ldPT ?_ hB6 ?_); (focus rfl))
      refine HNM.out.mono ?_
      rintro e w7 ⟨rfl, V7⟩
      clear HNM hB6
      go_wp2
      go_roundg gg
      case rel => exact ⟨i + 1, by have := HI1.out; omega, by go_num, V7⟩
      case measure => omega
end Go.Proofs.YtdddkfpcbfgocaaGreat
namespace Go.Proofs.YtdddkfpcbfgocaaGreat
open Go.RowKit Go.Over Go.Seg Go.Grow Go.Pt
/-- A page table that is empty. -/
def ptX (x : Int × Nat) : List Value := ptC x.1 x.2 1 1
theorem ptX_len (x : Int × Nat) : (ptX x).length = 3 := rfl
theorem K73 : Kind Tryz.prog 73 120 3 56 := Kind.mk' (z := .agg #[.int .i64 0, .slice none 0 0, .slice none 0 0]) Tryz.underlying73 (by kernel_rfl) rfl (by decide) (by decide)
/-- Empty page tables in a row of a call's own. -/
def OwnT (w : World) (B : Nat) (v : Value) (L : List (Int × Nat)) : Prop := w.ownsRow B 120 3 v L.length (L.flatMap ptX)
section
variable {ops : Array Oper} {rest : List Oper} {d i j : Nat} {ty : TypeId} {pos : String} {af : Array Edge} {a : Act} {w : World} {Q : Exit → Act → World → Prop}
/-- A page table is appended. -/
theorem wpList_appT {base b : Nat} {v : Value} {L : List (Int × Nat)} {x : Int × Nat} (hs : a.eval (.tmp i) = v) (hx : a.eval (.tmp j) = .slice (some ⟨b, 0, none⟩) 1 1) (hO : OwnT w base v L) (hB : Blk w b 120 (ptX x)) (hl : L.length ≤ 900000) (hb : base ≤ w.heap.size)
    (h : ∀ v' w', OwnT w' base v' (L ++ [x]) → w.grownBy w' v.ownBlock → wpList Tryz.prog ops Q rest (a.put (some d) v') w') :
    wpList Tryz.prog ops Q ({ dst := some d, op := .call { callee := .builtin .append, args := #[.tmp i, .tmp j], argTypes := #[73, 73] }, type := ty, pos := pos, after := af, guard := none } :: rest) a w := by
  refine wpList_append_k K73 rfl (.tmp i) (.tmp j) rfl v L.length (L.flatMap ptX) hs hO (some ⟨b, 0, none⟩) 1 1 (ptX x) hx ⟨rfl, ptC_one _ _ _ _, .inr ⟨_, rfl, fun k u hk => ?_⟩⟩ (by omega) hb fun v' w' q1 q2 _ => h v' w' ?_ q2
  · rw [add_off, Nat.zero_add, hB.cell]; exact hk
  · unfold OwnT
    rw [List.flatMap_append, List.length_append]
    simpa using q1
end
/-- Where bEmpty stands. -/
structure EV (w : World) (g bm : Nat) (X : Int) (v : Value) (L : List (Int × Nat)) (W : World) : Prop where
  u : Below w.heap.size w W
  x : Blk W g 76 [v, .slice (some ⟨bm, 0, none⟩) 32 32, .int .i64 X]
  o : OwnT W w.heap.size v L
  tv : ∀ x ∈ L, x.1 < X ∧ ∃ ns, TV W x.1 x.2 1 1 ns [ndE x.1] (fun _ => none) (fun _ => none) (fun _ => e0)
  mv : MV W bm (List.replicate 32 (.slice none 0 0)) 32 0 (fun _ => [])
  hg : w.heap.size ≤ g
  hb : w.heap.size ≤ bm
section
variable {w W W' : World} {g bm : Nat} {X : Int} {v v' : Value} {L : List (Int × Nat)} {x : Int × Nat} {ns : List Value}
theorem grown_set (W : World) (g k : Nat) (z : Value) : W.grownBy (W.setCell ⟨g, k, none⟩ z) (some g) := ⟨rfl, rfl, rfl, by simp [World.setCell], fun j _ hj => Below.heap_setCell W ⟨g, k, none⟩ _ j (fun e => hj (by rw [e]))⟩
theorem EV.below (h : EV w g bm X v L W) (hb : Below W.heap.size W W') : EV w g bm X v L W' :=
  ⟨below_then h.u hb, h.x.later hb, own_later h.o hb, fun x hx => by obtain ⟨q1, ns, q2⟩ := h.tv x hx; exact ⟨q1, ns, q2.below hb⟩, h.mv.below hb, h.hg, h.hb⟩
theorem EV.next (h : EV w g bm X v L W) : W.cell? ⟨g, 2, none⟩ = some (.int .i64 X) ∧ W.frozen? ⟨g, 2, none⟩ = false ∧ EV w g bm (X + 1) v L (W.setCell ⟨g, 2, none⟩ (.int .i64 (X + 1))) := by
  have g2 := grown_set W g 2 (.int .i64 (X + 1))
  have hx2 := h.x.set 2 (.int .i64 (X + 1))
  exact ⟨by rw [h.x.cell]; rfl, h.x.frozen 2, h.u.grown g2 h.u.size (fun k hk => by cases hk; exact h.hg), hx2, World.ownsRow.kept h.o g2 (.inr (h.x.not_own h.o (by decide))), fun x hx => by
    obtain ⟨q1, ns, q2⟩ := h.tv x hx
    exact ⟨by omega, ns, q2.grown h.x (by decide) g2⟩, h.mv.grown h.x (by decide) (by decide) g2, h.hg, h.hb⟩
theorem EV.app (h : EV w g bm X v L W) (hO : OwnT W' w.heap.size v' (L ++ [x])) (hg : W.grownBy W' v.ownBlock) (hx : x.1 < X) (hT : TV W x.1 x.2 1 1 ns [ndE x.1] (fun _ => none) (fun _ => none) (fun _ => e0)) :
    W'.cell? ⟨g, 0, none⟩ = some v ∧ W'.frozen? ⟨g, 0, none⟩ = false ∧ EV w g bm X v' (L ++ [x]) (W'.setCell ⟨g, 0, none⟩ v') := by
  have hx1 := h.x.grown hg (h.x.not_own h.o (by decide))
  have g2 := grown_set W' g 0 v'
  have hx2 := hx1.set 0 v'
  refine ⟨by rw [hx1.cell]; rfl, hx1.frozen 0, (h.u.grown hg h.u.size fun k hk => (World.ownsRow.lt h.o k hk).1).grown g2 (Nat.le_trans h.u.size hg.size) (fun k hk => by cases hk; exact h.hg), hx2, World.ownsRow.kept hO g2 (.inr (hx1.not_own hO (by decide))), fun y hy => ?_, (h.mv.own h.o (by decide) (by decide) hg).grown hx1 (by decide) (by decide) g2, h.hg, h.hb⟩
  rcases List.mem_append.1 hy with hy | hy
  · obtain ⟨q1, ns, q2⟩ := h.tv y hy
    exact ⟨q1, ns, (q2.own h.o (by decide) hg).grown hx1 (by decide) g2⟩
  · obtain rfl := List.mem_singleton.1 hy
    exact ⟨hx, ns, (hT.own h.o (by decide) hg).grown hx1 (by decide) g2⟩
theorem Agr.none (nt : Nat) : Agr nt (fun _ _ => e0) (fun _ => []) :=
  ⟨fun _ _ => ⟨List.Pairwise.nil, fun _ h => (by cases h)⟩, fun f k _ => ⟨fun h => (by cases h), fun h => absurd rfl h.2.1⟩, fun _ _ _ _ h => absurd rfl h⟩
theorem EV.bt {n : Nat} (h : EV w g bm X v L W) (hn : L.length = n) (h0 : 0 < n) (h8 : n ≤ 8) (hX : 0 ≤ X) : ∃ bt ct, w.heap.size ≤ bt ∧ BT W g bt ct bm n X (fun _ _ => e0) (fun _ => []) := by
  have hO := h.o
  unfold OwnT at hO
  rw [hn] at hO
  obtain ⟨bt, ct, zs, rfl, hbt, hc, _, hB, hrow⟩ := own_blk hO h0
  refine ⟨bt, ct, hbt, h.x, ⟨zs, hB, ?_, fun s hs => ?_⟩, ⟨_, h.mv⟩, Agr.none n, h8, hc, hX⟩
  · have hl := flat_len ptX_len L
    rw [hn] at hl
    have h1 : n * 3 - 1 < (L.flatMap ptX).length := by omega
    obtain ⟨u, hu⟩ : ∃ u, (L.flatMap ptX)[n * 3 - 1]? = some u := ⟨_, List.getElem?_eq_getElem h1⟩
    have := (List.getElem?_eq_some_iff.1 (hrow _ u hu)).1
    omega
  · obtain ⟨y, hy⟩ : ∃ y, L[s]? = some y := ⟨_, List.getElem?_eq_getElem (by omega)⟩
    obtain ⟨q1, ns, q2⟩ := h.tv y (List.mem_of_getElem? hy)
    refine ⟨y.1, y.2, 1, 1, ns, _, _, _, fun j u hu => hrow _ u (flat_get ptX_len hy hu), q2, fun z hz => ?_⟩
    obtain rfl := List.mem_singleton.1 hz
    exact q1
end
/-- What bEmpty gives. -/
def EmptyAns (w : World) (n : Nat) (e : Ending) (w' : World) : Prop := ∃ g bt ct bm, e = .returned (.tuple #[.pointer (some ⟨g, 0, none⟩), .bool true]) ∧ BT w' g bt ct bm n (100 + (n : Nat)) (fun _ _ => e0) (fun _ => []) ∧ Below w.heap.size w w' ∧ w.heap.size ≤ g ∧ w.heap.size ≤ bt ∧ w.heap.size ≤ bm
def S8 (g g5 bm : Nat) (X : Int) (v : Value) (r : Int) (b : Nat) (U : World) : Prop := Blk U g 76 [v, .slice (some ⟨bm, 0, none⟩) 32 32, .int .i64 X] ∧ Blk U g5 120 (ptC r b 1 1)
set_option maxRecDepth 100000 in set_option maxHeartbeats 3200000 in
theorem empty (n : Nat) (w : World) (h0 : 0 < n) (h8 : n ≤ 8) : Calls Tryz.prog 23 #[.int .i64 (n : Nat)] w (EmptyAns w n) := by
  have HN := Lib.hid h0
  clear h0
  go_enter Tryz.func23, Tryz.ntmps23
  go_upto_region 2 with ((with_reducible refine wpList_mkr (.slice none 0 0) Tryz.underlying74 infoMM rfl (n := 32) (c := 32) ?_ ?_ (Nat.le_refl 32) (by omega) (by omega) ?_); (focus rfl); (focus rfl); intro w2 hB2 b2 hs2; clear hs2)
  have b3 := below_box w2 (.cells #[.slice none 0 0, .slice (some ⟨w.heap.size, 0, none⟩) 32 32, .int .i64 100] 76)
  have x3 := Blk.new w2 76 #[.slice none 0 0, .slice (some ⟨w.heap.size, 0, none⟩) 32 32, .int .i64 100] _ rfl
  have V3 : EV w w2.heap.size w.heap.size 100 (.slice none 0 0) [] (w2.alloc (.cells #[.slice none 0 0, .slice (some ⟨w.heap.size, 0, none⟩) 32 32, .int .i64 100] 76)) :=
    ⟨below_then b2 b3, x3, World.ownsRow_nil _ _ _ _, fun x hx => (by cases hx), MV.zeros (hB2.later b3), b2.size, Nat.le_refl _⟩
  obtain ⟨w3, hw3⟩ : ∃ V, V = w2.alloc (.cells #[.slice none 0 0, .slice (some ⟨w.heap.size, 0, none⟩) 32 32, .int .i64 100] 76) := ⟨_, rfl⟩
  obtain ⟨g, hg⟩ : ∃ g, w2.heap.size = g := ⟨_, rfl⟩
  rw [← hw3] at V3 ⊢
  rw [hg] at V3 ⊢
  obtain ⟨bm, hbm⟩ : ∃ g, w.heap.size = g := ⟨_, rfl⟩
  rw [hbm] at V3
  clear hw3 hg hbm b3 x3 hB2 b2
  go_wp2
  go_loopg [11] n (fun gg v11 wr => ∃ (i : Nat) (v : Value) (L : List (Int × Nat)), i + gg = n ∧ L.length = i ∧ v11 = .int .i64 i ∧ EV w g bm (100 + (i : Nat)) v L wr)
  case atStart => exact ⟨0, _, [], by omega, rfl, rfl, V3⟩
  case round =>
    clear V3
    obtain ⟨i, v, L, hi, hL, rfl, V4⟩ := hrel
    cases gk with
    | zero =>
      obtain rfl : n = i := by omega
      have hin : ¬ n < n := by omega
      have HL := Lib.hid hL; have HV := Lib.hid V4
      clear hi hL V4
      go_wp2
      go_ret2
      obtain ⟨bt, ct, hbt, h1⟩ := HV.out.bt HL.out HN.out h8 (by omega)
      exact ⟨g, bt, ct, bm, rfl, h1, HV.out.u, HV.out.hg, hbt, HV.out.hb⟩
    | succ gg =>
      have hin : i < n := by omega
      have HI1 := Lib.hid hi
      obtain ⟨X, hX⟩ : ∃ q, (100 : Int) + ((i : Nat) : Int) = q := ⟨_, rfl⟩
      have HX := Lib.hid hX
      have hXr : 0 ≤ X ∧ X ≤ 1000 := by omega
      rw [hX] at V4
      have hl9 : L.length ≤ 900000 := by omega
      have HL := Lib.hid hL; have HL9 := Lib.hid hl9
      clear hi hX hL hl9
      have c2 : wr.cell? ⟨g, 2, none⟩ = some (.int .i64 X) := by rw [V4.x.cell]; rfl
      have HNW := Lib.hid (newPT X wr hXr.1 (by omega))
      go_wp2_with fail
      refine HNW.out.mono ?_
      rintro e w4 ⟨b, ns, rfl, hT, _, b4⟩
      have V5 := V4.below b4
      have hlt : ∀ q, v.ownBlock = some q → q < w4.heap.size := fun q hq => (World.ownsRow.lt V5.o q hq).2
      have hz := Blk.new w4 120 #[.int .i64 0, .slice none 0 0, .slice none 0 0] _ rfl
      have bz := below_box w4 (.cells #[.int .i64 0, .slice none 0 0, .slice none 0 0] 120)
      have HT := Lib.hid hT; have HLT := Lib.hid hlt
      clear HNW c2 b4 V4 hT hlt
      go_upto_region 5 with ((with_reducible refine stPT (r := X) (b := b) (n := 1) (c := 1) ?_ ?_ hz rfl ?_); (focus rfl); (focus rfl); intro w5 hB5 hg5)
      have b5 := bz.grown hg5 bz.size (fun k hk => by cases hk; exact Nat.le_refl _)
      have V6 := V5.below b5
      have hT6 := HT.out.below b5
      obtain ⟨g5, hg5'⟩ : ∃ q, w4.heap.size = q := ⟨_, rfl⟩
      rw [hg5'] at hB5 HLT ⊢
      obtain ⟨c6, z6, V7⟩ := V6.next
      have hT7 := hT6.grown V6.x (by decide) (grown_set w5 g 2 (.int .i64 (X + 1)))
      have hB7 := hB5.grown (grown_set w5 g 2 (.int .i64 (X + 1))) (by simpa using V6.x.ne_type hB5 (by decide))
      have HV7 := Lib.hid V7; have HT7 := Lib.hid hT7; have HB7 := Lib.hid hB7
      clear hz bz hg5 b5 V5 HT V6 hT6 hg5' V7 hT7 hB7 hB5
      go_upto_region 8 with fail
      obtain ⟨w7, hw7⟩ : ∃ V, V = w5.setCell ⟨g, 2, none⟩ (.int .i64 (X + 1)) := ⟨_, rfl⟩
      rw [← hw7] at HV7 HT7 HB7 ⊢
      have hS : S8 g g5 bm (X + 1) v X b w7 := ⟨HV7.out.x, HB7.out⟩
      clear c6 z6 hw7
      refine wp_region_stages (S8 g g5 bm (X + 1) v X b) (.quiet [0, 1, 2, 3, 4, 5] (.only 6 (.only 7 (.brk 8 (.only 9 (.only 10 .done)))))) [8] (by kernel_rfl) (by kernel_rfl) hS ?_
      intro W5 hWW hWe
      have bW : Below w7.heap.size w7 W5 := by rw [hWe]; exact (Below.refl _ _).drew
      clear hWe hS
      simp only [wpPlan2, wpPlan, inOrder, List.filterMap_cons, List.filterMap_nil, List.getElem?_cons_zero, List.getElem?_cons_succ]
      have q1 : ∀ z, (hold (S8 g g5 bm (X + 1) v X b) W5 z).cell? ⟨g, 0, none⟩ = some v := fun z => by rw [(hold_ok (S0 := S8 g g5 bm (X + 1) v X b) hWW z).1.cell]; rfl
      show wpQuiet _ _ _ _ (_ :: _ :: _ :: _ :: _ :: [_]) _
      repeat (go_big_quiet_step (fail))
      refine wpQuiet_load_part (off := 0) (cs := ptC X b 1 1) Tryz.underlying120 rfl (by rw [infoPT]; rfl) rfl (fun U ⟨z, hz⟩ => by rw [hz]; exact (hold_ok (S0 := S8 g g5 bm (X + 1) v X b) hWW z).2) (fun j v hv => by rw [Nat.zero_add]; exact hv) ?_
      simp only [Act.put, ptC, List.setIfInBounds_toArray, List.set_cons_succ, List.set_cons_zero]
      refine wpQuiet_nil ?_
      have V8 := HV7.out.below bW
      have hT8 := HT7.out.below bW
      have b9 := below_box W5 (.cells #[.int .i64 X, .slice (some ⟨b, 0, none⟩) 1 1, .slice none 0 0] 120)
      have y9 := Blk.new W5 120 #[.int .i64 X, .slice (some ⟨b, 0, none⟩) 1 1, .slice none 0 0] (ptX (X, b)) rfl
      have V9 := V8.below b9
      have HT9 := Lib.hid (hT8.below b9)
      have hS9 : S8 g g5 bm (X + 1) v X b (W5.alloc (.cells #[.int .i64 X, .slice (some ⟨b, 0, none⟩) 1 1, .slice none 0 0] 120)) := ⟨hWW.1.later b9, hWW.2.later b9⟩
      clear q1 hWW bW hT8 b9 V8 HV7 HT7 HB7
      show wpList _ _ _ [_] _ _
      go_wp2_with fail
      refine ⟨hold_of hS9, ?_⟩
      obtain ⟨w9, hw9⟩ : ∃ V, V = W5.alloc (.cells #[.int .i64 X, .slice (some ⟨b, 0, none⟩) 1 1, .slice none 0 0] 120) := ⟨_, rfl⟩
      obtain ⟨gb, hgb⟩ : ∃ q, W5.heap.size = q := ⟨_, rfl⟩
      rw [← hw9] at hS9 V9 HT9 y9 ⊢
      rw [hgb] at y9 ⊢
      clear hw9 hgb
      show wpList _ _ _ [_] _ _
      refine wpList_appT (base := w.heap.size) (b := gb) (x := (X, b)) (L := L) (v := v) ?_ ?_ V9.o y9 HL9.out V9.u.size ?_
      · rfl
      · rfl
      intro v' w10 O10 g10
      have hS10 : S8 g g5 bm (X + 1) v X b w10 := ⟨hS9.1.grown g10 (hS9.1.not_own V9.o (by decide)), hS9.2.grown g10 (fun e => absurd (HLT.out _ e) (Nat.lt_irrefl _))⟩
      obtain ⟨c0, z0, V11⟩ := V9.app (x := (X, b)) O10 g10 (by show X < X + 1; omega) HT9.out
      have O11 := O10
      unfold OwnT at O11
      obtain ⟨n7, hn7⟩ : ∃ n, (L ++ [(X, b)]).length = n := ⟨_, rfl⟩
      rw [hn7] at O11
      obtain ⟨a7, c7, rfl, _, _, _⟩ := own_form O11
      have HV11 := Lib.hid V11; have HN7 := Lib.hid hn7
      clear hS9 V9 HT9 y9 O10 g10 V11 O11 hn7 HLT
      simp only [Act.put, List.setIfInBounds_toArray, List.set_cons_succ, List.set_cons_zero]
      go_wp2
      refine ⟨hold_of hS10, ?_⟩
      show wpList _ _ _ [_] _ _
      go_wp2_with fail
      refine ⟨trivial, ?_⟩
      show wpList _ _ _ [_] _ _
      go_wp2_with fail
      refine ⟨trivial, ?_⟩
      show wpList _ _ _ [_] _ _
      go_wp2_with fail
      refine ⟨trivial, ?_⟩
      refine NoPanic.normal ?_
      obtain ⟨w11, hw11⟩ : ∃ V, V = w10.setCell ⟨g, 0, none⟩ (.slice a7 n7 c7) := ⟨_, rfl⟩
      rw [← hw11] at HV11 ⊢
      clear hS10 c0 z0 hw11
      go_wp2
      go_roundg gg
      case rel => exact ⟨i + 1, .slice a7 n7 c7, L ++ [(X, b)], by have := HI1.out; omega, by rw [List.length_append, HL.out]; rfl, by go_num, by have := HX.out; rw [show (100 : Int) + ((i + 1 : Nat) : Int) = X + 1 by omega]; exact HV11.out⟩
      case measure => omega
end Go.Proofs.YtdddkfpcbfgocaaGreat
namespace Go.Proofs.YtdddkfpcbfgocaaGreat
open Go.RowKit Go.Over Go.Seg Go.Grow Go.Pt
def S46 (g b bt ct bm : Nat) (nx : Int) (zs : List Value) (U : World) : Prop := Blk U g 76 (btC bt 2 ct bm nx) ∧ Blk U b 126 zs
theorem S46.later {g b bt ct bm : Nat} {nx : Int} {zs : List Value} {U V : World} (h : S46 g b bt ct bm nx zs U) (hb : Below U.heap.size U V) : S46 g b bt ct bm nx zs V := ⟨h.1.later hb, h.2.later hb⟩
def P0 : Nat → Nat → En := fun _ _ => e0
def P1 : Nat → Nat → En := upd P0 0 (upd (P0 0) 60 ⟨1, (3 : Nat), true⟩)
def P2 : Nat → Nat → En := upd P1 1 (upd (P1 1) 63 ⟨1, (3 : Nat), false⟩)
def P3 : Nat → Nat → En := upd P2 1 (upd (P2 1) 60 ⟨1, (4 : Nat), true⟩)
def P4 : Nat → Nat → En := upd P3 0 (upd (P3 0) 60 e0)
theorem ml2 : ML [60, 575] := ⟨by decide, by decide⟩
theorem ml1 : ML [575] := ⟨by decide, by decide⟩
theorem shares_eq {L1 L2 L3 : List Nat} (h2 : ML L2) (y1 : ∀ y, y ∈ L1 ↔ y ∈ ([] : List Nat) ∨ y = 512 * 0 + 60) (y2 : ∀ y, y ∈ L2 ↔ y ∈ upd (fun _ => []) 3 L1 3 ∨ y = 512 * 1 + 63) : upd (upd (upd (fun _ => []) 3 L1) 3 L2) 4 L3 3 = [60, 575] := by
  rw [upd_ne _ _ (by decide), upd_self]
  refine ML.ext h2 ml2 fun y => ?_
  rw [y2, upd_self, y1]
  simp
theorem shares_cut {L : List Nat} {M : List Nat} (h : ML L) (hM : M = [60, 575]) (y : ∀ y, y ∈ L ↔ y ∈ M ∧ y ≠ 512 * 0 + 60) : L = [575] := by
  subst hM
  refine ML.ext h ml1 fun z => ?_
  rw [y]
  simp
  omega
set_option maxRecDepth 100000 in set_option maxHeartbeats 3200000 in
theorem shares (w : World) : Calls Tryz.prog 24 #[] w fun e w' => e = .returned (.bool true) ∧ Below w.heap.size w w' := by
  have HE := Lib.hid (show Calls Tryz.prog 23 #[.int .i64 2] w (EmptyAns w 2) from empty 2 w (by decide) (by decide))
  go_enter Tryz.func24, Tryz.ntmps24
  go_wp2_with fail
  refine HE.out.mono ?_
  rintro e w1 ⟨g, bt, ct, bm, rfl, B1, b1, hg, hbt, hbm⟩
  have HLO := Lib.hid (fun (W : World) (h : KeepB g bt bm w1 W) => b1.trans (h.low_of b1.size hg hbt hbm))
  obtain ⟨nx, hnx⟩ : ∃ q, (100 : Int) + ((2 : Nat) : Int) = q := ⟨_, rfl⟩
  rw [hnx] at B1
  have hnx1 : nx = 102 := by rw [← hnx]; rfl
  have HI1 := Lib.hid (show Calls Tryz.prog 26 #[.pointer (some ⟨g, 0, none⟩), .int .i64 0, .int .i64 60, .int .i64 3, .bool true] w1 (InstAns w1 g bt ct bm 2 nx P0 (fun _ => []) 0 60 3 true) from install g bt ct bm 2 nx P0 (fun _ => []) 0 60 3 true w1 B1 (by decide) (by decide) (by decide) rfl (by omega))
  have HX1 := Lib.hid hnx1
  clear HE b1 hg hbt hbm hnx hnx1 B1
  go_wp2_with fail
  refine HI1.out.mono ?_
  rintro e w2 ⟨rfl, ⟨nx2, L1, h1, h2, _, y1, B2⟩, K1⟩
  have hx2 : nx2 ≤ 104 := by have := HX1.out; omega
  have HI2 := Lib.hid (show Calls Tryz.prog 26 #[.pointer (some ⟨g, 0, none⟩), .int .i64 1, .int .i64 63, .int .i64 3, .bool false] w2 (InstAns w2 g bt ct bm 2 nx2 P1 (upd (fun _ => []) 3 L1) 1 63 3 false) from install g bt ct bm 2 nx2 P1 (upd (fun _ => []) 3 L1) 1 63 3 false w2 B2 (by decide) (by decide) (by decide) rfl (by omega))
  have HX2 := Lib.hid hx2; have HY1 := Lib.hid y1
  clear HI1 HX1 h1 h2 hx2 y1 B2
  go_wp2_with fail
  refine HI2.out.mono ?_
  rintro e w3 ⟨rfl, ⟨nx3, L2, h1, h2, ml2, y2, B3⟩, K2⟩
  have hx3 : nx3 ≤ 106 := by have := HX2.out; omega
  have HI3 := Lib.hid (show Calls Tryz.prog 26 #[.pointer (some ⟨g, 0, none⟩), .int .i64 1, .int .i64 60, .int .i64 4, .bool true] w3 (InstAns w3 g bt ct bm 2 nx3 P2 (upd (upd (fun _ => []) 3 L1) 3 L2) 1 60 4 true) from install g bt ct bm 2 nx3 P2 (upd (upd (fun _ => []) 3 L1) 3 L2) 1 60 4 true w3 B3 (by decide) (by decide) (by decide) rfl (by omega))
  have HY2 := Lib.hid y2; have HM2 := Lib.hid ml2
  have K12 := K1.trans K2
  clear HI2 HX2 h1 h2 hx3 y2 B3 ml2 K1 K2
  go_wp2_with fail
  refine HI3.out.mono ?_
  rintro e w4 ⟨rfl, ⟨nx4, L3, _, _, _, _, B4⟩, K3⟩
  have K4 := K12.trans K3
  have HEQ := Lib.hid (shares_eq (L3 := L3) HM2.out HY1.out HY2.out)
  have hB4 : BT w4 g bt ct bm 2 nx4 P3 (upd (upd (upd (fun _ => []) 3 L1) 3 L2) 4 L3) := B4
  obtain ⟨M, hM⟩ : ∃ q, upd (upd (upd (fun _ => []) 3 L1) 3 L2) 4 L3 = q := ⟨_, rfl⟩
  rw [hM] at hB4 HEQ
  have c0 : w4.cell? ⟨g, 0, none⟩ = some (.slice (some ⟨bt, 0, none⟩) 2 ct) := by rw [hB4.x.cell]; rfl
  obtain ⟨zs4, hT4⟩ := hB4.tb
  have HOF := Lib.hid (show Calls Tryz.prog 62 #[.slice (some ⟨bt, 0, none⟩) 2 ct, .int .i64 3] w4 (OfAns w4 P3 2 3) from of_ bt 2 ct 3 zs4 P3 nx4 M w4 hT4 hB4.ag hB4.n8 hB4.nc)
  have HB4 := Lib.hid hB4
  clear HI3 HY1 HY2 HM2 K12 K3 B4 hB4 hM hT4
  go_wp2_with fail
  refine HOF.out.mono ?_
  rintro e w5 ⟨v, rfl, O5, b5⟩
  rw [HB4.out.ag.inv (by decide) 3 (by decide), HEQ.out] at O5
  have hB5 := HB4.out.below b5
  have K5 := K4.trans (KeepB.below b5)
  unfold OwnM at O5
  obtain ⟨b, c, zs, rfl, _, hc2, _, hZ, hrow⟩ := own_blk O5 (by decide)
  have hc2 : 2 ≤ c := hc2
  have hz : ∀ j u, ([.int .i64 1, .int .i64 63] : List Value)[j]? = some u → zs[2 + j]? = some u := fun j u hu => by
    match j, hu with
    | 0, hu => exact hrow 2 u hu
    | 1, hu => exact hrow 3 u hu
    | j + 2, hu => simp at hu
  have HZ := Lib.hid hz; have HB5 := Lib.hid hB5
  have hS : S46 g b bt ct bm nx4 zs w5 := ⟨hB5.x, hZ⟩
  clear HOF HB4 c0 K4 b5 O5 hrow hz hB5 hZ
  obtain ⟨n2, hn2⟩ : ∃ n, ([60, 575] : List Nat).length = n := ⟨_, rfl⟩
  have hn2' : n2 = 2 := by rw [← hn2]; rfl
  subst hn2'
  rw [hn2]
  clear hn2
  go_upto_region 5 with fail
  refine wp_region_plan (S46 g b bt ct bm nx4 zs) (.quiet [0, 1, 2, 3, 4, 5, 6, 7, 8, 9, 10, 11, 12, 13, 14, 15, 16, 17, 18] (.only 19 (.quiet [20, 21, 22] (.only 23 (.quiet [24, 25, 26, 27, 28, 29, 30] (.only 31 (.quiet [32, 33, 34, 35, 36, 37, 38, 39, 40, 41, 42, 43] (.only 44 (.quiet [45, 46] .done))))))))) 99 (by kernel_rfl) (by kernel_rfl) hS ?_
  intro W5 hWW hWe
  have bW : Below w5.heap.size w5 W5 := by rw [hWe]; exact (Below.refl _ _).drew
  clear hWe hS
  simp only [wpPlan, inOrder, List.filterMap_cons, List.filterMap_nil, List.getElem?_cons_zero, List.getElem?_cons_succ]
  have q1 : ∀ z, (hold (S46 g b bt ct bm nx4 zs) W5 z).cell? ⟨g, 0, none⟩ = some (.slice (some ⟨bt, 0, none⟩) 2 ct) := fun z => by rw [(hold_ok (S0 := S46 g b bt ct bm nx4 zs) hWW z).1.cell]; rfl
  have q2 : ∀ z, (hold (S46 g b bt ct bm nx4 zs) W5 z).cell? ⟨g, 1, none⟩ = some (.slice (some ⟨bm, 0, none⟩) 32 32) := fun z => by rw [(hold_ok (S0 := S46 g b bt ct bm nx4 zs) hWW z).1.cell]; rfl
  have heq : ∀ W, (Op.equalIn 10000 126 (.agg #[.int .i64 1, .int .i64 63]) (.agg #[.int .i64 1, .int .i64 63])).run Tryz.prog W = .ok true W := fun W => by
    have := eqMp 1 63 1 63 W
    simpa using this
  show wpQuiet _ _ _ _ (_ :: _ :: _ :: _ :: _ :: _ :: _ :: _ :: _ :: _ :: _ :: _ :: _ :: _ :: _ :: _ :: _ :: _ :: [_]) _
  repeat (go_big_quiet_step (fail))
  refine wpQuiet_load_part_g (off := 2) (cs := [.int .i64 1, .int .i64 63]) rfl Tryz.underlying126 rfl (by rw [infoM]; rfl) rfl (fun U ⟨z, hz⟩ => by rw [hz]; exact (hold_ok (S0 := S46 g b bt ct bm nx4 zs) hWW z).2) HZ.out ?_
  simp only [Act.put, List.setIfInBounds_toArray, List.set_cons_succ, List.set_cons_zero]
  repeat (go_big_quiet_step (fail))
  refine wpQuiet_nil ?_
  have HQ1 := Lib.hid q1; have HQ2 := Lib.hid q2; have HWW := Lib.hid hWW
  have B6 := HB5.out.below bW
  have K6 := K5.trans (KeepB.below bW)
  obtain ⟨zs6, hT6⟩ := B6.tb
  obtain ⟨ms6, hM6⟩ := B6.mv
  have HIN := Lib.hid (inverse bt 2 ct bm 0 zs6 ms6 P3 nx4 M W5 hT6 hM6 B6.ag B6.n8 B6.nc)
  have HB6 := Lib.hid B6
  clear q1 q2 heq hWW bW HB5 K5 HZ hT6 hM6 B6
  show wpList _ _ _ [_] _ _
  go_wp2_with fail
  refine HIN.out.mono ?_
  rintro e w7 ⟨rfl, b7⟩
  have hS7 := HWW.out.later b7
  have B7 := HB6.out.below b7
  have K7 := K6.trans (KeepB.below b7)
  have HRM := Lib.hid (show Calls Tryz.prog 27 #[.pointer (some ⟨g, 0, none⟩), .int .i64 0, .int .i64 60, .int .i64 3] w7 (RemAns w7 g bt ct bm 2 nx4 P3 M 0 60 3) from remove g bt ct bm 2 nx4 P3 M 0 60 3 w7 B7 (by decide) (by decide) (by decide) rfl rfl)
  clear HIN b7 HB6 K6 B7
  go_wp2
  refine ⟨hold_of hS7, ?_⟩
  show wpQuiet _ _ _ _ (_ :: _ :: [_]) _
  repeat (go_big_quiet_step (fail))
  refine wpQuiet_nil ?_
  show wpList _ _ _ [_] _ _
  go_wp2_with fail
  refine HRM.out.mono ?_
  rintro e w8 ⟨rfl, ⟨L, ml, hy, B8⟩, K8⟩
  have hL := shares_cut ml HEQ.out hy
  subst hL
  have B8 : BT w8 g bt ct bm 2 nx4 P4 (upd M 3 [575]) := B8
  have hS8 : S46 g b bt ct bm nx4 zs w8 := ⟨B8.x, K8.blk _ _ _ (by decide) (by decide) (by decide) hS7.2⟩
  have K9 := K7.trans K8
  obtain ⟨ms8, hM8⟩ := B8.mv
  obtain ⟨v8, hv8, hO8⟩ := hM8.row 3 (by decide)
  have hc8 : w8.cell? ⟨bm, 3, none⟩ = some v8 := by rw [hM8.x.cell]; exact hv8
  rw [upd_self] at hO8
  obtain ⟨a8, c8, rfl, _⟩ := hO8.rd
  have hc8 : w8.cell? ⟨bm, 3, none⟩ = some (.slice a8 1 c8) := hc8
  obtain ⟨zs8, hT8⟩ := B8.tb
  have HIN := Lib.hid (inverse bt 2 ct bm 0 zs8 ms8 P4 nx4 _ w8 hT8 hM8 B8.ag B8.n8 B8.nc)
  have q1 := HQ1.out; have q2 := HQ2.out
  clear HRM K7 K8 ml hy hM8 hv8 hO8 hT8 B8 hS7
  go_wp2
  refine ⟨hold_of hS8, ?_⟩
  show wpQuiet _ _ _ _ (_ :: _ :: _ :: _ :: _ :: _ :: [_]) _
  repeat (go_big_quiet_step (fail))
  refine wpQuiet_nil ?_
  show wpList _ _ _ [_] _ _
  go_wp2_with fail
  refine ⟨hold_of hS8, ?_⟩
  show wpQuiet _ _ _ _ (_ :: _ :: _ :: _ :: _ :: _ :: _ :: _ :: _ :: _ :: _ :: [_]) _
  repeat (go_big_quiet_step (fail))
  refine wpQuiet_nil ?_
  clear q1 q2 hc8
  show wpList _ _ _ [_] _ _
  go_wp2_with fail
  refine HIN.out.mono ?_
  rintro e w9 ⟨rfl, b9⟩
  have hS9 := hS8.later b9
  have K10 := K9.trans (KeepB.below b9)
  clear HIN b9 K9 hS8
  go_wp2
  refine ⟨hold_of hS9, ?_⟩
  show wpQuiet _ _ _ _ (_ :: [_]) _
  repeat (go_big_quiet_step (fail))
  refine wpQuiet_nil ?_
  refine NoPanic.normal ?_
  go_wp2
  go_ret
  exact ⟨rfl, HLO.out _ K10⟩
end Go.Proofs.YtdddkfpcbfgocaaGreat
namespace Go.Proofs.YtdddkfpcbfgocaaGreat
open Go.RowKit Go.Over Go.Seg Go.Grow Go.Pt
/-- An operation. -/
structure MO where
  k : Int
  s : Int
  p : Int
  f : Int
def opC (x : MO) : List Value := [.int .u8 x.k, .int .u8 x.s, .int .u8 x.p, .int .u8 x.f]
theorem opC_one (x : MO) : ∀ v ∈ opC x, v.oneCell' = true := by
  intro u hu
  simp [opC] at hu
  rcases hu with rfl | rfl | rfl | rfl <;> rfl
/-- Operations in memory. -/
def MOps (w : World) (a : Option Addr) (l : List MO) : Prop := 0 < l.length → ∃ b off, a = some ⟨b, off, none⟩ ∧ ∀ (i : Nat) (x : MO), l[i]? = some x →
  w.rangeAt b (off + i * 4) (opC x) ∧ 0 ≤ x.k ∧ x.k < 256 ∧ 0 ≤ x.s ∧ x.s < 256 ∧ 0 ≤ x.p ∧ x.p < 256 ∧ 0 ≤ x.f ∧ x.f < 256
theorem infoMO : (Tryz.prog.info? 67).map (·.size) = some 4 := by kernel_rfl
section
variable {ops : Array Oper} {rest : List Oper} {d i j : Nat} {ty : TypeId} {pos : String} {af : Array Edge} {a : Act} {w : World} {Q : Exit → Act → World → Prop} {g b o : Nat} {x : MO}
theorem ldMO (hx : a.eval (.tmp i) = .pointer (some ⟨b, o, none⟩)) (h : w.rangeAt b o (opC x)) (hK : wpList Tryz.prog ops Q rest (a.put (some d) (.agg (opC x).toArray)) w) :
    wpList Tryz.prog ops Q ({ dst := some d, op := .load 67 (.tmp i), type := ty, pos := pos, after := af, guard := none } :: rest) a w :=
  wpList_load_mid rfl 67 (.tmp i) rfl b o hx (opC x) _ h Tryz.underlying67 rfl (by rw [infoMO]; rfl) hK
theorem stMO {zs : List Value} (hx : a.eval (.tmp i) = .pointer (some ⟨g, 0, none⟩)) (hy : a.eval (.tmp j) = .agg (opC x).toArray) (hB : Blk w g 67 zs) (hz : zs.length = 4)
    (h : ∀ W, Blk W g 67 (opC x) → w.grownBy W (some g) → wpList Tryz.prog ops Q rest (a.put none undef) W) :
    wpList Tryz.prog ops Q ({ dst := none, op := .store 67 (.tmp i) (.tmp j), type := ty, pos := pos, after := af, guard := none } :: rest) a w := by
  have e : lay zs 0 (opC x) = opC x := by
    have hl : (opC x).length = 4 := rfl
    unfold lay
    rw [hl, List.take_zero, List.nil_append, List.drop_eq_nil_of_le (by omega), List.append_nil]
  exact wpList_store_part (cs := opC x) (by rw [infoMO]; rfl) hx hy hB (by rw [hz]; exact Nat.le_refl _) (opC_one x) fun W q1 q2 => h W (by rw [← e]; exact q1) q2
end
/-- Where the statement stands. -/
structure RV (w1 : World) (g bt ct bm i : Nat) (W : World) : Prop where
  b : ∃ nx E M, nx ≤ 103 + 1024 * ((i : Nat) : Int) ∧ BT W g bt ct bm 3 nx E M
  k : KeepB g bt bm w1 W
section
variable {w1 W W' : World} {g bt ct bm i : Nat}
theorem RV.below (h : RV w1 g bt ct bm i W) (hb : Below W.heap.size W W') : RV w1 g bt ct bm i W' := ⟨by obtain ⟨nx, E, M, q1, q2⟩ := h.b; exact ⟨nx, E, M, q1, q2.below hb⟩, h.k.trans (KeepB.below hb)⟩
theorem RV.up (h : RV w1 g bt ct bm i W) : RV w1 g bt ct bm (i + 1) W := ⟨by obtain ⟨nx, E, M, q1, q2⟩ := h.b; exact ⟨nx, E, M, by omega, q2⟩, h.k⟩
theorem BT.pg {nt : Nat} {nx : Int} {E : Nat → Nat → En} {M : Nat → List Nat} {s p : Nat} (h : BT W g bt ct bm nt nx E M) (hs : s < nt) (hp : p < 512) : (E s p).k = 0 ∨ (E s p).k = 1 := by
  obtain ⟨zs, hT⟩ := h.tb
  obtain ⟨r, b, n, c, ns, N, mid, low, _, hT1, _⟩ := hT.row s hs
  exact hT1.tr.pg p hp
theorem BT.at_cases {nt : Nat} {nx : Int} {E : Nat → Nat → En} {M : Nat → List Nat} {s p : Nat} (h : BT W g bt ct bm nt nx E M) (hs : s < nt) (hp : p < 512) :
    ((E s p).k = 0 ∧ atV (E s p) = -1) ∨ ∃ f : Nat, f < 32 ∧ (E s p).k = 1 ∧ (E s p).n = ((f : Nat) : Int) ∧ atV (E s p) = ((f : Nat) : Int) := by
  rcases h.pg hs hp with hk | hk
  · exact .inl ⟨hk, by unfold atV; rw [hk]; rfl⟩
  · obtain ⟨f, hf, hn⟩ := h.ag.fr s p hs hp (by rw [hk]; decide)
    exact .inr ⟨f, hf, hk, hn, by unfold atV; rw [if_pos hk, hn]⟩
end
def S21 (g bt ct bm : Nat) (nx : Int) (U : World) : Prop := Blk U g 76 (btC bt 3 ct bm nx)
set_option maxRecDepth 100000 in set_option maxHeartbeats 3200000 in
theorem reverse (oa : Option Addr) (os : List MO) (n c : Nat) (w : World) (hOS : MOps w oa os) (hn : os.length = n) : Calls Tryz.prog 6 #[.slice oa n c] w fun e w' => e = .returned (.bool true) ∧ Below w.heap.size w w' := by
  have HO := Lib.hid hOS; have HN := Lib.hid hn
  have HE := Lib.hid (show Calls Tryz.prog 23 #[.int .i64 3] w (EmptyAns w 3) from empty 3 w (by decide) (by decide))
  clear hOS hn
  go_enter Tryz.func6, Tryz.ntmps6
  go_wp2_with fail
  refine HE.out.mono ?_
  rintro e w1 ⟨g, bt, ct, bm, rfl, B1, b1, hg, hbt, hbm⟩
  have HLO := Lib.hid (fun (W : World) (h : KeepB g bt bm w1 W) => b1.trans (h.low_of b1.size hg hbt hbm))
  have R1 : RV w1 g bt ct bm 0 w1 := ⟨⟨_, _, _, by show (100 : Int) + ((3 : Nat) : Int) ≤ _; omega, B1⟩, KeepB.refl _⟩
  clear HE b1 hg hbt hbm B1
  by_cases h40 : 40 < n
  · have HSH := Lib.hid (shares w1)
    go_wp2_with fail
    refine HSH.out.mono ?_
    rintro e w2 ⟨rfl, b2⟩
    have HB := Lib.hid (HLO.out w2 (KeepB.below b2))
    clear HSH b2 R1
    go_wp2
    go_ret
    exact ⟨rfl, HB.out⟩
  · go_wp2
    go_loopg [31] n (fun gg v31 wr => ∃ i : Nat, i + gg = n ∧ v31 = .int .i64 i ∧ RV w1 g bt ct bm i wr)
    case atStart => exact ⟨0, by omega, rfl, R1⟩
    case round =>
      clear R1
      obtain ⟨i, hi, rfl, R4⟩ := hrel
      cases gk with
      | zero =>
        obtain rfl : n = i := by omega
        have hin : ¬ n < n := by omega
        clear hi
        have HSH := Lib.hid (shares wr)
        have HK := Lib.hid R4.k
        clear R4
        go_wp2_with fail
        refine HSH.out.mono ?_
        rintro e w2 ⟨rfl, b2⟩
        have HB := Lib.hid (HLO.out w2 (HK.out.trans (KeepB.below b2)))
        clear HSH b2 HK
        go_wp2
        go_ret
        exact ⟨rfl, HB.out⟩
      | succ gg =>
        have hin : i < n := by omega
        have HI1 := Lib.hid hi
        obtain ⟨x, hx⟩ := get_some HN.out hin
        obtain ⟨bo, oo, rfl, hoc⟩ := HO.out (by rw [HN.out]; omega)
        obtain ⟨hrg, k0, k1, s0, s1, p0, p1, f0, f1⟩ := hoc i x hx
        have hRG : wr.rangeAt bo (oo + i * 4) (opC x) := fun j v hv => cell_later (HLO.out wr R4.k) (hrg j v hv)
        have hz := Blk.new wr 67 #[.int .u8 0, .int .u8 0, .int .u8 0, .int .u8 0] _ rfl
        have bz := below_box wr (.cells #[.int .u8 0, .int .u8 0, .int .u8 0, .int .u8 0] 67)
        have hi40 : i < 40 := by omega
        clear hi hx hoc hrg h40
        go_upto_region 7 with first | ((with_reducible refine ldMO (x := x) ?_ hRG ?_); (focus rfl)) | ((with_reducible refine stMO (x := x) ?_ ?_ hz rfl ?_); (focus rfl); (focus rfl); intro w2 hB2 hg2)
        simp only [Act.put]
        have b2 := bz.grown hg2 bz.size (fun k hk => by cases hk; exact Nat.le_refl _)
        have R5 := R4.below b2
        obtain ⟨g6, hg6⟩ : ∃ q, wr.heap.size = q := ⟨_, rfl⟩
        rw [hg6] at hB2 ⊢
        obtain ⟨kk, ss, pp, ff⟩ := x
        have k0 : 0 ≤ kk := k0
        have k1 : kk < 256 := k1
        have s0 : 0 ≤ ss := s0
        have s1 : ss < 256 := s1
        have p0 : 0 ≤ pp := p0
        have p1 : pp < 256 := p1
        have f0 : 0 ≤ ff := f0
        have f1 : ff < 256 := f1
        have c1 : w2.cell? ⟨g6, 1, none⟩ = some (.int .u8 ss) := by rw [hB2.cell]; rfl
        have c2 : w2.cell? ⟨g6, 2, none⟩ = some (.int .u8 pp) := by rw [hB2.cell]; rfl
        have c3 : w2.cell? ⟨g6, 3, none⟩ = some (.int .u8 ff) := by rw [hB2.cell]; rfl
        have e1 := over_cell c1; have e2 := over_cell c2; have e3 := over_cell c3
        clear hz bz hg2 b2 R4 hg6 hRG c1 c2 c3
        refine wp_region_over (by kernel_rfl) (by kernel_rfl) ?_
        repeat (go_big_quiet_step (fail))
        refine wpQuiet_nil ?_
        rintro _ ⟨u, rfl⟩
        have bo7 := below_over w2 u
        have R6 := R5.below bo7
        have hB6 := hB2.later bo7
        obtain ⟨w3, hw3⟩ : ∃ V, V = over w2 u := ⟨_, rfl⟩
        rw [← hw3] at R6 hB6 ⊢
        obtain ⟨s, hs⟩ : ∃ m : Nat, ss % 3 = (m : Int) := ⟨(ss % 3).toNat, by omega⟩
        obtain ⟨p, hp⟩ : ∃ m : Nat, pp * 37 % 512 = (m : Int) := ⟨(pp * 37 % 512).toNat, by omega⟩
        obtain ⟨f, hf⟩ : ∃ m : Nat, ff % 32 = (m : Int) := ⟨(ff % 32).toNat, by omega⟩
        have hs3 : s < 3 := by omega
        have hp5 : p < 512 := by omega
        have hf3 : f < 32 := by omega
        rw [hs, hp, hf]
        obtain ⟨nx, E, M, hnx, B6⟩ := R6.b
        have K6 := R6.k
        have c0 : w3.cell? ⟨g6, 0, none⟩ = some (.int .u8 kk) := by rw [hB6.cell]; rfl
        have HAT := Lib.hid (at_ g bt ct bm 3 nx E M s p w3 B6 hs3 hp5)
        have HCA := Lib.hid (B6.at_cases hs3 hp5)
        have hnx2 : nx ≤ 50000 := by omega
        have HNX := Lib.hid hnx
        obtain ⟨A, hA⟩ : ∃ q, atV (E s p) = q := ⟨_, rfl⟩
        rw [hA] at HAT HCA
        clear hA bo7 hw3 hs hp hf R5 R6 hB2 e1 e2 e3 s0 s1 p0 p1 f0 f1 hB6 hnx
        go_wp2_with fail
        refine HAT.out.mono ?_
        rintro e w4 ⟨rfl, b4⟩
        have B7 := B6.below b4
        have K7 := K6.trans (KeepB.below b4)
        replace c0 := cell_later b4 c0
        clear HAT b4 B6 K6
        go_upto_block 2 with fail
        obtain ⟨q, hq⟩ : ∃ q, kk % 4 = q := ⟨_, rfl⟩
        have hq4 : q = 0 ∨ q = 1 ∨ q = 2 ∨ q = 3 := by omega
        rw [hq]
        clear hq k0 k1 c0
        have R7 : RV w1 g bt ct bm (i + 1) w4 := ⟨⟨nx, E, M, by have := HNX.out; omega, B7⟩, K7⟩
        have HR7 := Lib.hid R7
        clear R7
        have ht3 : ((s : Nat) : Int) + 1 = ((s + 1 : Nat) : Int) := by omega
        have HFK := Lib.hid (show Calls Tryz.prog 28 #[.pointer (some ⟨g, 0, none⟩), .int .i64 (s : Nat), .int .i64 ((((s : Nat) : Int) + 1) % 3)] w4 (ForkAns w4 g bt ct bm 3 nx) by
          rw [show (((s : Nat) : Int) + 1) % 3 = (((s + 1) % 3 : Nat) : Int) by omega]
          exact fork g bt ct bm 3 nx E M s ((s + 1) % 3) w4 B7 hs3 (by omega) (by omega) (by omega))
        clear ht3
        go_cut [11] from 55 to 99 (fun v11 W => v11 = .bool true ∧ RV w1 g bt ct bm (i + 1) W)
        case first =>
          rcases HCA.out with ⟨hk0, rfl⟩ | ⟨f', hf', hk1, hn1, rfl⟩
          · rcases hq4 with rfl | rfl | rfl | rfl
            · have HI := Lib.hid (install g bt ct bm 3 nx E M s p f true w4 B7 hs3 hp5 hf3 hk0 (by omega))
              clear hk0 B7 HCA HFK
              go_wp2_with fail
              refine HI.out.mono ?_
              rintro e w5 ⟨rfl, ⟨nx', L, h1, h2, _, _, B8⟩, K8⟩
              have RR := Lib.hid (⟨⟨_, _, _, by have := HNX.out; omega, B8⟩, K7.trans K8⟩ : RV w1 g bt ct bm (i + 1) w5)
              clear HI h1 h2 B8 K8 K7
              go_wp2
              go_meet
              case rel => exact ⟨rfl, RR.out⟩
            · clear hk0 B7 HCA K7 HFK
              go_wp2
              go_meet
              case rel => exact ⟨rfl, HR7.out⟩
            · clear hk0 B7 HCA K7 HFK
              go_wp2
              go_meet
              case rel => exact ⟨rfl, HR7.out⟩
            · skip
              clear hk0 B7 HCA
              go_wp2_with fail
              refine HFK.out.mono ?_
              rintro e w5 ⟨rfl, ⟨nx', E', M', h1, h2, B8⟩, K8⟩
              have RR := Lib.hid (⟨⟨_, _, _, by have := HNX.out; omega, B8⟩, K7.trans K8⟩ : RV w1 g bt ct bm (i + 1) w5)
              clear HFK h1 h2 B8 K8 K7
              go_wp2
              go_meet
              case rel => exact ⟨rfl, RR.out⟩
          · have hn2 : ¬ ((f' : Nat) : Int) < 0 := by omega
            rcases hq4 with rfl | rfl | rfl | rfl
            · skip
              clear hk1 hn1 B7 HCA K7 HFK
              go_wp2
              go_meet
              case rel => exact ⟨rfl, HR7.out⟩
            · have HRM := Lib.hid (remove g bt ct bm 3 nx E M s p f' w4 B7 hs3 hp5 hf' hk1 hn1)
              clear hk1 hn1 B7 HCA HFK
              go_wp2_with fail
              refine HRM.out.mono ?_
              rintro e w5 ⟨rfl, ⟨L, _, _, B8⟩, K8⟩
              have RR := Lib.hid (⟨⟨_, _, _, by have := HNX.out; omega, B8⟩, K7.trans K8⟩ : RV w1 g bt ct bm (i + 1) w5)
              clear HRM B8 K8 K7
              go_wp2
              go_meet
              case rel => exact ⟨rfl, RR.out⟩
            · by_cases hff : f' = f
              · subst hff
                clear hk1 hn1 B7 HCA K7 HFK
                go_wp2
                go_meet
                case rel => exact ⟨rfl, HR7.out⟩
              · have hne : ¬ ((f' : Nat) : Int) = ((f : Nat) : Int) := by omega
                have HRM := Lib.hid (remove g bt ct bm 3 nx E M s p f' w4 B7 hs3 hp5 hf' hk1 hn1)
                clear hk1 hn1 B7 HCA HFK hff
                go_wp2_with fail
                refine HRM.out.mono ?_
                rintro e w5 ⟨rfl, ⟨L, _, _, B8⟩, K8⟩
                have HI := Lib.hid (install g bt ct bm 3 nx _ _ s p f false w5 B8 hs3 hp5 hf3 (by rw [upd_self, upd_self]; rfl) (by omega))
                have K9 := K7.trans K8
                clear HRM B8 K7 K8
                go_wp2_with fail
                refine HI.out.mono ?_
                rintro e w6 ⟨rfl, ⟨nx', L', h1, h2, _, _, B9⟩, K10⟩
                have RR := Lib.hid (⟨⟨_, _, _, by have := HNX.out; omega, B9⟩, K9.trans K10⟩ : RV w1 g bt ct bm (i + 1) w6)
                clear HI h1 h2 B9 K9 K10
                go_wp2
                go_meet
                case rel => exact ⟨rfl, RR.out⟩
            · skip
              clear hk1 hn1 B7 HCA
              go_wp2_with fail
              refine HFK.out.mono ?_
              rintro e w5 ⟨rfl, ⟨nx', E', M', h1, h2, B8⟩, K8⟩
              have RR := Lib.hid (⟨⟨_, _, _, by have := HNX.out; omega, B8⟩, K7.trans K8⟩ : RV w1 g bt ct bm (i + 1) w5)
              clear HFK h1 h2 B8 K8 K7
              go_wp2
              go_meet
              case rel => exact ⟨rfl, RR.out⟩
        case rest =>
          clear HR7 HFK K7 B7 HCA HNX hnx2
          obtain ⟨rfl, R8⟩ := hcut
          obtain ⟨nx, E, M, _, B8⟩ := R8.b
          have hS : S21 g bt ct bm nx wc := B8.x
          have HR8 := Lib.hid R8; have HB8 := Lib.hid B8
          clear R8 B8
          go_upto_region 21 with fail
          refine wp_region_plan (S21 g bt ct bm nx) (.quiet [0, 1, 2, 3, 4, 5, 6, 7, 8, 9, 10] (.only 11 (.quiet [12, 13] .done))) 99 (by kernel_rfl) (by kernel_rfl) hS ?_
          intro W5 hWW hWe
          have bW : Below wc.heap.size wc W5 := by rw [hWe]; exact (Below.refl _ _).drew
          clear hWe hS
          simp only [wpPlan, inOrder, List.filterMap_cons, List.filterMap_nil, List.getElem?_cons_zero, List.getElem?_cons_succ]
          have q1 : ∀ z, (hold (S21 g bt ct bm nx) W5 z).cell? ⟨g, 0, none⟩ = some (.slice (some ⟨bt, 0, none⟩) 3 ct) := fun z => by rw [Blk.cell (hold_ok (S0 := S21 g bt ct bm nx) hWW z)]; rfl
          have q2 : ∀ z, (hold (S21 g bt ct bm nx) W5 z).cell? ⟨g, 1, none⟩ = some (.slice (some ⟨bm, 0, none⟩) 32 32) := fun z => by rw [Blk.cell (hold_ok (S0 := S21 g bt ct bm nx) hWW z)]; rfl
          show wpQuiet _ _ _ _ (_ :: _ :: _ :: _ :: _ :: _ :: _ :: _ :: _ :: _ :: [_]) _
          repeat (go_big_quiet_step (fail))
          refine wpQuiet_nil ?_
          have HW := Lib.hid hWW
          have B9 := HB8.out.below bW
          have R9 := HR8.out.below bW
          obtain ⟨zs9, hT9⟩ := B9.tb
          obtain ⟨ms9, hM9⟩ := B9.mv
          have HIN := Lib.hid (inverse bt 3 ct bm 0 zs9 ms9 E nx M W5 hT9 hM9 B9.ag B9.n8 B9.nc)
          clear q1 q2 hWW bW HR8 HB8 B9 hT9 hM9
          show wpList _ _ _ [_] _ _
          go_wp2_with fail
          refine HIN.out.mono ?_
          rintro e w7 ⟨rfl, b7⟩
          have hS7 : S21 g bt ct bm nx w7 := Blk.later HW.out b7
          have R10 := R9.below b7
          clear HIN b7 R9 HW
          go_wp2
          refine ⟨hold_of hS7, ?_⟩
          show wpQuiet _ _ _ _ (_ :: [_]) _
          repeat (go_big_quiet_step (fail))
          refine wpQuiet_nil ?_
          refine NoPanic.normal ?_
          clear hS7
          go_wp2
          go_roundg gg
          case rel => exact ⟨i + 1, by have := HI1.out; omega, by go_num, R10⟩
          case measure => omega
end Go.Proofs.YtdddkfpcbfgocaaGreat
namespace Go.Proofs.YtdddkfpcbfgocaaGreat
open Go.ChangeShapes Go.WideShapes Go.ChangeAt Go.RowKit Go.Lift Go.Grow Go.Over
theorem own : ownKnob Tryz.prog.godebug = none := by kernel_rfl
theorem laidOut : laidOutB Tryz.prog = true := by kernel_rfl
theorem cells5 : Tryz.prog.cellsOf 5 = 1 := by kernel_rfl
theorem cellsMO : Tryz.prog.cellsOf 67 = 4 := by kernel_rfl
theorem u8_wf {x : Int} (h : (Lit.int .u8 x).wf = true) : 0 ≤ x ∧ x < 256 := by
  simp [Lit.wf, IntKind.min, IntKind.max, IntKind.bits, IntKind.signed] at h
  omega
theorem list_such {β : Type} {Q : Nat → β → Prop} : ∀ (n : Nat), (∀ i, i < n → ∃ x, Q i x) → ∃ l : List β, l.length = n ∧ ∀ i x, l[i]? = some x → Q i x
  | 0, _ => ⟨[], rfl, fun i x h => by simp at h⟩
  | n + 1, h => by
    obtain ⟨l, hl, hq⟩ := list_such n fun i hi => h i (by omega)
    obtain ⟨x, hx⟩ := h n (by omega)
    refine ⟨l ++ [x], by simp [hl], fun i y hy => ?_⟩
    rcases Nat.lt_or_ge i n with hi | hi
    · rw [List.getElem?_append_left (by omega)] at hy
      exact hq i y hy
    · rw [List.getElem?_append_right (by omega), hl] at hy
      have e : i - n = 0 := by
        rw [List.getElem?_eq_some_iff] at hy
        obtain ⟨h1, _⟩ := hy
        simp at h1; omega
      rw [e] at hy
      simp at hy
      subst hy
      have : i = n := by omega
      subst this; exact hx
section
variable {W : World} {v : Value}
theorem spot_none {a : Addr} {u : Value} (h : W.cell? (a.add 0) = some u) : ∃ b off, a = ⟨b, off, none⟩ := by
  obtain ⟨b, off, spot⟩ := a
  have hspot : spot = none := by simpa [Addr.add] using World.cell?_spot h
  subst hspot
  exact ⟨b, off, rfl⟩
set_option maxRecDepth 100000 in
theorem arg_mops (hv : ∃ base, Value.okWide Tryz.prog W .any base 62 v) (hr : Rd Tryz.prog W 62 v.cells.toList) : ∃ a l n c, v = .slice a n c ∧ MOps W a l ∧ l.length = n := by
  obtain ⟨_, hv⟩ := hv
  obtain ⟨a, n, c, rfl⟩ := okWide_slice Tryz.underlying62 hv
  rcases hr.slice Tryz.underlying62 with h | ⟨a', n', c', h, hn, hm, hi⟩
  · simp [Value.cells] at h
    obtain ⟨rfl, rfl, rfl⟩ := h
    exact ⟨_, [], _, _, rfl, fun h => absurd h (by simp), rfl⟩
  · simp [Value.cells] at h
    obtain ⟨rfl, rfl, rfl⟩ := h
    obtain ⟨l, hl, hq⟩ := list_such (Q := fun i (x : MO) => (∀ j u, (opC x)[j]? = some u → W.cell? ((a'.add (i * 4)).add j) = some u) ∧ 0 ≤ x.k ∧ x.k < 256 ∧ 0 ≤ x.s ∧ x.s < 256 ∧ 0 ≤ x.p ∧ x.p < 256 ∧ 0 ≤ x.f ∧ x.f < 256) n fun i hi' => by
      obtain ⟨cs', h1, h2, h3⟩ := hi i (by omega)
      rw [cellsMO] at h1 h2
      obtain ⟨hl, hf⟩ := h3.struct Tryz.underlying67
      obtain ⟨x, hx, wx⟩ := (show Rd Tryz.prog W 5 ((cs'.drop 0).take (Tryz.prog.cellsOf 5)) from hf 0 _ rfl).int Tryz.underlying5
      obtain ⟨y, hy, wy⟩ := (show Rd Tryz.prog W 5 ((cs'.drop 1).take (Tryz.prog.cellsOf 5)) from hf 1 _ rfl).int Tryz.underlying5
      obtain ⟨z, hz, wz⟩ := (show Rd Tryz.prog W 5 ((cs'.drop 2).take (Tryz.prog.cellsOf 5)) from hf 2 _ rfl).int Tryz.underlying5
      obtain ⟨t, ht, wt⟩ := (show Rd Tryz.prog W 5 ((cs'.drop 3).take (Tryz.prog.cellsOf 5)) from hf 3 _ rfl).int Tryz.underlying5
      rw [cells5] at hx hy hz ht
      have e := list4_of h1 hx hy hz ht
      subst e
      refine ⟨⟨x, y, z, t⟩, fun j u hu => ?_, (u8_wf wx).1, (u8_wf wx).2, (u8_wf wy).1, (u8_wf wy).2, (u8_wf wz).1, (u8_wf wz).2, (u8_wf wt).1, (u8_wf wt).2⟩
      have hj : j < 4 := (List.getElem?_eq_some_iff.1 hu).1
      rw [h2 j hj]; exact hu
    subst hl
    refine ⟨some a', l, _, c, rfl, fun h0 => ?_, rfl⟩
    have hc0 := (hq 0 _ (List.getElem?_eq_getElem h0)).1 0 _ rfl
    rw [show (a'.add (0 * 4)).add 0 = a'.add 0 by simp [Addr.add]] at hc0
    obtain ⟨b, off, rfl⟩ := spot_none hc0
    refine ⟨b, off, rfl, fun i x hp => ?_⟩
    obtain ⟨h1, hr⟩ := hq i x hp
    refine ⟨fun j u hu => ?_, hr⟩
    have := h1 j u hu
    rw [add_row, add_row] at this
    exact this
end
end Go.Proofs.YtdddkfpcbfgocaaGreat
