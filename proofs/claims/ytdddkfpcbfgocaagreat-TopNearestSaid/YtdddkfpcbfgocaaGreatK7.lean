/- The plain mathematics of slabs whose frames come from an allocator. Walks: two lists of numbers are the same; two zones are the same. Walks: two caches are the same; two allocators are the same. Memory: an allocator and a cache of slabs in variables; the zones of the machine; a new allocator of them. Walks: objects are allocated, with frames of an allocator. Operations on slabs in memory; how their cache goes on. What is the same in the rows on slabs: the arguments opened. Walks: slabs are allocated and freed by a list of operations. -/
import Derived.Test.YtdddkfpcbfgocaaGreatRows
import Derived.Test.YtdddkfpcbfgocaaGreatK6
import Derived.Test.YtdddkfpcbfgocaaGreatK1
import Derived.Test.YtdddkfpcbfgocaaGreatK3
import Derived.Test.YtdddkfpcbfgocaaGreatK2
namespace Go.Zn
open Go.Can Go.Slb
theorem nS_all {S : Int → Prop} {a : Int} {n : Nat} (h : ∀ x, a ≤ x → x < a + n → S x) : nS S a n = n := by
  rw [nS_ext (T := fun x => a ≤ x ∧ x < a + n) fun x h1 h2 => ⟨fun _ => ⟨h1, h2⟩, fun _ => h x h1 h2⟩, ← nS_of (l := cov a n) cov_nodup (fun x => mem_cov) fun x h => h, cov_len]
/-- A zone with room is found. -/
theorem pick_some {a : A} {c z : Nat} {kernel rsv : Bool} (hz : z < a.zs.length) (hs : suit a.zs kernel z = true) (he : elg a rsv z = true) : pickZ a c kernel rsv ≠ none := by
  unfold pickZ
  intro h
  rw [List.find?_eq_none] at h
  exact h z (mem_ordP.2 ⟨z, hz, rfl, hs⟩) (by simpa using he)
/-- The shape of the allocator in which slabs are laid. -/
structure Sh2 (a : A) : Prop where
  nodes : a.nodes = [0, 1]
  bt : a.bt = 2
  hi : a.hi = 3
  nz : a.zs.length = 2
  nc : a.cs.length = 2
  p0 : Par ⟨0, 0, 0, 16, 2, fun _ => []⟩ (zn a 0)
  p1 : Par ⟨1, 1, 16, 8, 0, fun _ => []⟩ (zn a 1)
theorem Sh2.of {a b : A} (h : Sh2 a) (s : Sa a b) : Sh2 b :=
  ⟨by rw [s.nodes]; exact h.nodes, by rw [s.bt]; exact h.bt, by rw [s.hi]; exact h.hi, by rw [s.nz]; exact h.nz, by rw [s.nc]; exact h.nc, h.p0.trans (s.par 0), h.p1.trans (s.par 1)⟩
theorem Sh2.in0 {a : A} (h : Sh2 a) {x : Int} : inZ (zn a 0) x ↔ 0 ≤ x ∧ x < 16 := by
  unfold inZ
  rw [h.p0.st, h.p0.ct]
  exact Iff.rfl
theorem Sh2.in1 {a : A} (h : Sh2 a) {x : Int} : inZ (zn a 1) x ↔ 16 ≤ x ∧ x < 24 := by
  unfold inZ
  rw [h.p1.st, h.p1.ct]
  exact Iff.rfl
theorem Sh2.suit {a : A} (h : Sh2 a) {z : Nat} (hz : z < 2) : Zn.suit a.zs true z = true ↔ z = 0 := by
  unfold Zn.suit
  have h0 : (a.zs.getD 0 noZ).kd = 0 := h.p0.kd
  have h1 : (a.zs.getD 1 noZ).kd = 1 := h.p1.kd
  rcases (show z = 0 ∨ z = 1 by omega) with rfl | rfl
  · rw [h0]; simp
  · rw [h1]; simp
/-- Only the first zone serves the kernel. -/
theorem Sh2.pick {a : A} (h : Sh2 a) {c z : Nat} {rsv : Bool} (hp : pickZ a c true rsv = some (z : Int)) : z = 0 := by
  unfold pickZ at hp
  have hm := List.mem_of_find?_eq_some hp
  obtain ⟨i, hi, he, hs⟩ := mem_ordP.1 hm
  have e : z = i := by omega
  subst e
  rw [h.nz] at hi
  exact (h.suit hi).1 hs
def frs (l : List S) : List Int := l.map (·.1)
theorem frs_nodup : ∀ {l : List S} {p : Int}, Asc p l → (frs l).Nodup ∧ ∀ x ∈ frs l, p < x
  | [], _, _ => ⟨List.nodup_nil, fun x h => by cases h⟩
  | s :: r, p, h => by
    obtain ⟨h1, h2⟩ := frs_nodup h.2
    refine ⟨List.nodup_cons.2 ⟨fun hm => (by have h3 : s.1 < s.1 := h2 _ hm; omega), h1⟩, fun x hx => ?_⟩
    rcases List.mem_cons.1 hx with rfl | hx
    · exact h.1
    · have := h2 x hx; have := h.1; omega
/-- Slabs and frames in hand are what is not free. -/
structure DG (a : A) (o : Int) (l : List S) (F : List Int) : Prop where
  v : VA a
  s : Sh2 a
  k : Ok o l
  fr : ∀ x ∈ frs l, 0 ≤ x ∧ x < 16
  ff : ∀ x ∈ F, 0 ≤ x ∧ x < 16
  nd : F.Nodup
  ap : ∀ x ∈ F, x ∉ frs l
  z0 : ∀ x, 0 ≤ x → x < 16 → (Fr a 0 x ↔ x ∉ frs l ∧ x ∉ F)
  z1 : ∀ x, 16 ≤ x → x < 24 → Fr a 1 x
section
variable {a b : A} {o : Int} {l : List S} {F : List Int}
theorem DG.cnt0 (h : DG a o l F) : (cntA a 0 : Int) = 16 - (l.length : Int) - (F.length : Int) := by
  have h1 : cntA a 0 = nS (Fr a 0) 0 16 := by
    rw [cnt_fr h.v (by rw [h.s.nz]; omega), h.s.p0.st, h.s.p0.ct]
    rfl
  obtain ⟨hn, _⟩ := frs_nodup h.k.asc
  have h2 : (cset (Fr a 0) 0 16 ++ (frs l ++ F)).length = (cov 0 16).length := by
    refine nodup_eq (List.nodup_append.2 ⟨cset_nodup, List.nodup_append.2 ⟨hn, h.nd, fun x hx y hy e => h.ap y hy (e ▸ hx)⟩, fun x hx y hy e => ?_⟩) cov_nodup fun x => ?_
    · subst e
      obtain ⟨hr, hf⟩ := mem_cset.1 hx
      have := (h.z0 x hr.1 (by simpa using hr.2)).1 hf
      rcases List.mem_append.1 hy with h3 | h3
      · exact this.1 h3
      · exact this.2 h3
    · rw [List.mem_append, List.mem_append, mem_cset, mem_cov]
      constructor
      · rintro (h3 | h3 | h3)
        · exact h3.1
        · have := h.fr x h3; simpa using this
        · have := h.ff x h3; simpa using this
      · intro h3
        by_cases h4 : x ∈ frs l
        · exact .inr (.inl h4)
        · by_cases h5 : x ∈ F
          · exact .inr (.inr h5)
          · exact .inl ⟨h3, (h.z0 x h3.1 (by simpa using h3.2)).2 ⟨h4, h5⟩⟩
  rw [cov_len, List.length_append, List.length_append] at h2
  have h3 : nS (Fr a 0) 0 16 = (cset (Fr a 0) 0 16).length := rfl
  have h4 : (frs l).length = l.length := by simp [frs]
  omega
theorem DG.cnt1 (h : DG a o l F) : cntA a 1 = 8 := by
  rw [cnt_fr h.v (by rw [h.s.nz]; omega), h.s.p1.st, h.s.p1.ct]
  exact nS_all (n := 8) fun x h1 h2 => h.z1 x h1 (by simpa using h2)
theorem DG.hd (h : DG a o l F) : hdN a a.zs.length = 14 - (l.length : Int) - (F.length : Int) := by
  rw [h.s.nz]
  show (0 + if (zn a 0).kd = 0 then (cntA a 0 : Int) - (zn a 0).mn else 0) + (if (zn a 1).kd = 0 then (cntA a 1 : Int) - (zn a 1).mn else 0) = _
  have e1 : (zn a 1).kd = 1 := h.s.p1.kd
  have e0 : (zn a 0).kd = 0 := h.s.p0.kd
  have em : (zn a 0).mn = 2 := h.s.p0.mn
  rw [if_pos e0, e1, if_neg (by decide), em, h.cnt0]
  omega
theorem DG.elg (h : DG a o l F) (hn : (l.length : Int) + (F.length : Int) < 14) : Zn.elg a false 0 = true := by
  have em : (zn a 0).mn = 2 := h.s.p0.mn
  unfold Zn.elg
  rw [em, h.cnt0]
  simp
  omega
theorem DG.find (h : DG a o l F) (hn : (l.length : Int) + (F.length : Int) < 14) (c : Nat) : pickZ a c true false ≠ none :=
  pick_some (by rw [h.s.nz]; omega) ((h.s.suit (by omega)).2 rfl) (h.elg hn)
/-- One frame more in hand. -/
theorem DG.take (h : DG a o l F) {x : Int} (hl : Less a 0 x b) : DG b o l (F ++ [x]) := by
  have hx : inZ (zn a 0) x := h.v.fr_in (by rw [h.s.nz]; omega) hl.m
  have hr := h.s.in0.1 hx
  have hf := (h.z0 x hr.1 hr.2).1 hl.m
  refine ⟨hl.v, h.s.of hl.s, h.k, h.fr, fun y hy => ?_, ?_, fun y hy => ?_, fun y h1 h2 => ?_, fun y h1 h2 => ?_⟩
  · rcases List.mem_append.1 hy with h3 | h3
    · exact h.ff y h3
    · rw [List.mem_singleton.1 h3]; exact hr
  · exact List.nodup_append.2 ⟨h.nd, (by simp), fun y hy z hz e => hf.2 (by rw [← List.mem_singleton.1 hz, ← e]; exact hy)⟩
  · rcases List.mem_append.1 hy with h3 | h3
    · exact h.ap y h3
    · rw [List.mem_singleton.1 h3]; exact hf.1
  · rw [hl.f, h.z0 y h1 h2, List.mem_append, List.mem_singleton]
    constructor
    · rintro ⟨⟨h3, h4⟩, h5⟩
      exact ⟨h3, fun h6 => h6.elim h4 fun h7 => h5 ⟨rfl, h7⟩⟩
    · rintro ⟨h3, h4⟩
      exact ⟨⟨h3, fun h5 => h4 (.inl h5)⟩, fun h5 => h4 (.inr h5.2)⟩
  · exact (hl.f 1 y).2 ⟨h.z1 y h1 h2, fun h3 => by omega⟩
theorem hasF_iff {f : Int} {l : List S} : hasF f l = true ↔ f ∈ frs l := by
  unfold hasF frs
  rw [List.any_eq_true, List.mem_map]
  constructor
  · rintro ⟨s, h1, h2⟩; exact ⟨s, h1, by simpa using h2⟩
  · rintro ⟨s, h1, h2⟩; exact ⟨s, h1, by simpa using h2⟩
theorem add_zero : ∀ {F : List Int} {out : List S}, (∀ f ∈ F, 0 ≤ f ∧ f < 256) → F.Nodup → (∀ f ∈ F, hasF f out = false) → (addF o F out).1 = 0
  | [], _, _, _, _ => rfl
  | f :: r, out, h1, h2, h3 => by
    have hf := h1 f (by simp)
    obtain ⟨n1, n2⟩ := List.nodup_cons.1 h2
    unfold addF
    rw [if_neg (by omega), if_neg (by rw [h3 f (by simp)]; decide)]
    refine add_zero (fun g hg => h1 g (by simp [hg])) n2 fun g hg => ?_
    rw [hasF_ins, h3 g (by simp [hg])]
    have : ¬ (fresh o f).1 = g := fun e => n1 (by rw [show f = g from e]; exact hg)
    simpa using this
theorem DG.done (h : DG a o l F) {n : Int} (hn : 1 ≤ n) (hF : (F.length : Int) = needL o l n) : Done o l n F :=
  ⟨h.k, hn, hF, add_zero (fun f hf => by have := h.ff f hf; omega) h.nd fun f hf => by
    cases he : hasF f l with
    | false => rfl
    | true => exact absurd (hasF_iff.1 he) (h.ap f hf)⟩
/-- The frames in hand become slabs. -/
theorem DG.grown (h : DG a o l F) {n : Int} (hd : Done o l n F) : DG a o (after o l n F) [] ∧ used (after o l n F) = used l + n.toNat ∧ (after o l n F).length = l.length + F.length := by
  have hm : (after o l n F).map (·.1) = (addF o F l).2.map (·.1) := by rw [hd.after_eq, marks_fst]
  obtain ⟨_, _, _, _, _, hl, _, _, hs⟩ := hd.add_ok
  have hmem : ∀ x, x ∈ frs (after o l n F) ↔ x ∈ frs l ∨ x ∈ F := fun x => by
    unfold frs
    rw [hm, List.mem_map]
    constructor
    · rintro ⟨s, h1, rfl⟩
      rcases (hs s).1 h1 with h2 | ⟨f, h2, rfl⟩
      · exact .inl (List.mem_map.2 ⟨s, h2, rfl⟩)
      · exact .inr h2
    · rintro (h1 | h1)
      · obtain ⟨s, h2, rfl⟩ := List.mem_map.1 h1
        exact ⟨s, (hs s).2 (.inl h2), rfl⟩
      · exact ⟨fresh o x, (hs _).2 (.inr ⟨x, h1, rfl⟩), rfl⟩
  refine ⟨⟨h.v, h.s, hd.after_ok, fun x hx => ?_, fun x hx => (by cases hx), List.nodup_nil, fun x hx => (by cases hx), fun x h1 h2 => ?_, h.z1⟩, hd.used_eq, ?_⟩
  · rcases (hmem x).1 hx with h1 | h1
    · exact h.fr x h1
    · exact h.ff x h1
  · rw [h.z0 x h1 h2, hmem]
    constructor
    · rintro ⟨h3, h4⟩; exact ⟨fun h5 => h5.elim h3 h4, by simp⟩
    · rintro ⟨h3, _⟩; exact ⟨fun h4 => h3 (.inl h4), fun h4 => h3 (.inr h4)⟩
  · have := congrArg List.length hm
    simp only [List.length_map] at this
    omega
/-- An object is freed, and its slab keeps others. -/
theorem DG.keep (h : DG a o l []) {x : Int} (hx : x ∈ objs o true l) (hf : freeF o l x = -1) : DG a o (freeL o l x) [] := by
  have hm : frs (freeL o l x) = frs l := by
    rcases h.k.free_frames hx with ⟨_, h1⟩ | ⟨h1, h2, _⟩
    · exact h1
    · omega
  exact ⟨h.v, h.s, h.k.free_ok, fun y hy => h.fr y (by rw [← hm]; exact hy), h.ff, h.nd, fun y hy => (by cases hy), fun y h1 h2 => (by rw [hm]; exact h.z0 y h1 h2), h.z1⟩
/-- .. or leaves. -/
theorem DG.leave (h : DG a o l []) {x : Int} (hx : x ∈ objs o true l) (hf : freeF o l x ≠ -1) : (0 ≤ freeF o l x ∧ freeF o l x < 16 ∧ ¬ Fr a 0 (freeF o l x)) ∧ ∀ b, Go.Proofs.YtdddkfpcbfgocaaGreat.More a 0 (freeF o l x) b → DG b o (freeL o l x) [] := by
  rcases h.k.free_frames hx with ⟨h1, _⟩ | ⟨h1, h2, h3, _, h5⟩
  · exact absurd h1 hf
  · rw [h1]
    have hr := h.fr _ h3
    refine ⟨⟨hr.1, hr.2, fun h4 => ((h.z0 _ hr.1 hr.2).1 h4).1 h3⟩, fun b hb => ⟨hb.v, h.s.of hb.s, h.k.free_ok, fun y hy => h.fr y ((h5 y).1 hy).1, h.ff, h.nd, fun y hy => (by cases hy), fun y g1 g2 => ?_, fun y g1 g2 => (hb.f 1 y).2 (.inl (h.z1 y g1 g2))⟩⟩
    have h6 : y ∈ frs (freeL o l x) ↔ y ∈ frs l ∧ y ≠ x / o := h5 y
    rw [hb.f, h.z0 y g1 g2, h6]
    constructor
    · rintro (⟨g3, _⟩ | ⟨_, g3⟩)
      · exact ⟨fun g4 => g3 g4.1, by simp⟩
      · exact ⟨fun g4 => g4.2 g3, by simp⟩
    · rintro ⟨g3, _⟩
      by_cases e : y = x / o
      · exact .inr ⟨rfl, e⟩
      · exact .inl ⟨fun g4 => g3 ⟨g4, e⟩, by simp⟩
end
end Go.Zn
namespace Go.Proofs.YtdddkfpcbfgocaaGreat
open Go.RowKit Go.Over Go.Zn Go.Can Go.Seg Go.Grow
set_option maxRecDepth 100000 in set_option maxHeartbeats 3200000 in
theorem sameInts (v u : Value) (l : List Int) (w : World) (HA : Sl w v l) (HB : Sl w u l) :
    Calls Tryz.prog 102 #[v, u] w fun e w' => e = .returned (.bool true) ∧ Below w.heap.size w w' := by
  obtain ⟨a, c, rfl, h1, h2, _, HA⟩ := HA
  obtain ⟨b, d, rfl, _, _, _, HB⟩ := HB
  obtain ⟨n, hn⟩ : ∃ n, l.length = n := ⟨_, rfl⟩
  rw [hn] at h1 ⊢
  have hm : n ≤ maxLen := Nat.le_trans h1 h2
  unfold maxLen at hm
  have HN := Lib.hid hn
  clear hn h1 h2
  go_enter Tryz.func102, Tryz.ntmps102
  go_wp2
  go_loopg [5] n (fun gg v5 wr => ∃ i : Nat, i + gg = n ∧ v5 = .int .i64 i ∧ Below w.heap.size w wr)
  case atStart => exact ⟨0, by omega, rfl, Below.refl _ _⟩
  case round =>
    obtain ⟨i, hg, rfl, hb⟩ := hrel
    cases gk with
    | zero =>
      have hin : ¬ i < n := by omega
      clear hg
      go_wp2
      go_ret
      exact ⟨rfl, hb⟩
    | succ gg =>
      have hin : i < n := by omega
      obtain ⟨x, hx⟩ := get_some HN.out hin
      obtain ⟨b1, o1, rfl, c1⟩ := (HA.below hb).at hx
      obtain ⟨b2, o2, rfl, c2⟩ := (HB.below hb).at hx
      have HG := Lib.hid hg
      have tx : (x != x) = false := by simp
      clear hg hx
      go_wp2_with fail
      refine wp_region_over (by kernel_rfl) (by kernel_rfl) ?_
      have z0 := fun u => over_cell c1 u
      have z1 := fun u => over_cell c2 u
      repeat (go_big_quiet_step (fail))
      refine wpQuiet_nil ?_
      rintro _ ⟨u, rfl⟩
      have hb2 := below_then hb (below_over wr u)
      clear z0 z1 c1 c2
      go_wp2
      go_roundg gg
      case rel => exact ⟨i + 1, by have := HG.out; omega, by go_num, hb2⟩
      case measure => omega
set_option maxRecDepth 100000 in set_option maxHeartbeats 3200000 in
theorem sameZone (v v' : Value) (p q : Z) (w : World) (H : Rz w v p) (H' : Rz w v' q) (h0 : q.nd = p.nd) (h1 : q.kd = p.kd) (h2 : q.st = p.st) (h3 : q.ct = p.ct) (h4 : q.mn = p.mn) (h5 : ∀ k, k < 5 → p.fr k = q.fr k) :
    Calls Tryz.prog 48 #[v, v'] w fun e w' => e = .returned (.bool true) ∧ Below w.heap.size w w' := by
  obtain ⟨cs, rfl, hV⟩ := H
  obtain ⟨ds, rfl, hV'⟩ := H'
  have X0 := (ZX.new hV).below (below_box (w.alloc (.cells cs.toArray 102)) (.cells ds.toArray 102))
  have hs : (w.alloc (.cells cs.toArray 102)).heap.size = w.heap.size + 1 := by simp
  have Y0 : ZX w (w.heap.size + 1) ds q ((w.alloc (.cells cs.toArray 102)).alloc (.cells ds.toArray 102)) := by
    have hb := below_box w (.cells cs.toArray 102)
    have hb2 := below_then hb (below_box (w.alloc (.cells cs.toArray 102)) (.cells ds.toArray 102))
    refine ⟨hb2, by omega, ?_, hV'.below hb2⟩
    have := Blk.new (w.alloc (.cells cs.toArray 102)) 102 ds.toArray ds rfl
    rwa [hs] at this
  have H5 := Lib.hid h5
  clear hs hV hV' h5
  go_enter Tryz.func48, Tryz.ntmps48
  go_upto_region 1 with fail
  obtain ⟨w1, hw1⟩ : ∃ W, W = (w.alloc (.cells cs.toArray 102)).alloc (.cells ds.toArray 102) := ⟨_, rfl⟩
  rw [← hw1] at X0 Y0 ⊢
  obtain ⟨g, hg⟩ : ∃ g, w.heap.size = g := ⟨_, rfl⟩
  obtain ⟨g', hg'⟩ : ∃ g, w.heap.size + 1 = g := ⟨_, rfl⟩
  rw [hg'] at Y0 ⊢
  have X1 : ZX w g cs p w1 := by rw [← hg]; exact X0
  rw [hg]
  clear hw1 hg' hg X0
  have a0 := X1.v.c0 X1.x
  have a1 := X1.v.c1 X1.x
  have a2 := X1.v.c2 X1.x
  have a3 := X1.v.c3 X1.x
  have a4 := X1.v.c4 X1.x
  have b0 := Y0.v.c0 Y0.x
  have b1 := Y0.v.c1 Y0.x
  have b2 := Y0.v.c2 Y0.x
  have b3 := Y0.v.c3 Y0.x
  have b4 := Y0.v.c4 Y0.x
  rw [h0] at b0
  rw [h1] at b1
  rw [h2] at b2
  rw [h3] at b3
  rw [h4] at b4
  have t0 : (p.nd != p.nd) = false := by simp
  have t1 : (p.kd != p.kd) = false := by simp
  have t2 : (p.st != p.st) = false := by simp
  have t3 : (p.ct != p.ct) = false := by simp
  have t4 : (p.mn != p.mn) = false := by simp
  clear h0 h1 h2 h3 h4
  go_wp2
  go_loopg [5] 5 (fun g2 v5 wr => ∃ k : Nat, k + g2 = 5 ∧ v5 = .int .i64 k ∧ ZX w g cs p wr ∧ ZX w g' ds q wr)
  case atStart => exact ⟨0, by omega, rfl, X1, Y0⟩
  case round =>
    clear X1 Y0 a0 a1 a2 a3 a4 b0 b1 b2 b3 b4
    obtain ⟨k, hk, rfl, X4, Y4⟩ := hrel
    have HK := Lib.hid hk
    cases gk with
    | zero =>
      have tk : decide ((k : Int) ≤ 4) = false := by simp; omega
      clear hk
      go_wp2
      go_ret
      exact ⟨rfl, X4.b⟩
    | succ g2 =>
      have hk5 : k < 5 := by omega
      have tk : decide ((k : Int) ≤ 4) = true := by simp; omega
      obtain ⟨v1, q1, s1⟩ := X4.v.fr k hk5
      obtain ⟨v2, q2, s2⟩ := Y4.v.fr k hk5
      rw [← H5.out k hk5] at s2
      have hc : wr.cell? ⟨g, 5 + k, none⟩ = some v1 := by rw [X4.x.cell]; exact q1
      have hc' : wr.cell? ⟨g', 5 + k, none⟩ = some v2 := by rw [Y4.x.cell]; exact q2
      have C1 := fun u => calls_over (sameInts v1 v2 (p.fr k) (over wr u) (s1.below (below_over wr u)) (s2.below (below_over wr u)))
      have HC := Lib.hid C1
      clear hk C1 s1 s2 q1 q2
      go_wp2_with fail
      refine wp_region_over (by kernel_rfl) (by kernel_rfl) ?_
      have z0 := fun u => over_cell hc u
      have z1 := fun u => over_cell hc' u
      repeat (go_big_quiet_step (fail))
      go_big_quiet_step ((go_at_call 102; exact HC.out _))
      repeat (go_big_quiet_step (fail))
      refine wpQuiet_nil ?_
      rintro _ ⟨u, rfl⟩
      have X5 := X4.below (below_over wr u)
      have Y5 := Y4.below (below_over wr u)
      clear z0 z1 hc hc' HC X4 Y4
      go_wp2
      go_roundg g2
      case rel => exact ⟨k + 1, by have := HK.out; omega, by go_num, X5, Y5⟩
      case measure => omega
end Go.Proofs.YtdddkfpcbfgocaaGreat
namespace Go.Proofs.YtdddkfpcbfgocaaGreat
open Go.RowKit Go.Over Go.Zn Go.Can Go.Seg Go.Grow
set_option maxRecDepth 100000 in set_option maxHeartbeats 3200000 in
theorem sameList (v u : Value) (l : List Int) (w : World) (HA : Sl w v l) (HB : Sl w u l) :
    Calls Tryz.prog 47 #[v, u] w fun e w' => e = .returned (.bool true) ∧ Below w.heap.size w w' := by
  obtain ⟨a, c, rfl, h1, h2, _, HA⟩ := HA
  obtain ⟨b, d, rfl, _, _, _, HB⟩ := HB
  obtain ⟨n, hn⟩ : ∃ n, l.length = n := ⟨_, rfl⟩
  rw [hn] at h1 ⊢
  have hm : n ≤ maxLen := Nat.le_trans h1 h2
  unfold maxLen at hm
  have HN := Lib.hid hn
  clear hn h1 h2
  go_enter Tryz.func47, Tryz.ntmps47
  go_wp2
  go_loopg [13] n (fun gg v13 wr => ∃ i : Nat, i + gg = n ∧ v13 = .int .i64 i ∧ Below w.heap.size w wr)
  case atStart => exact ⟨0, by omega, rfl, Below.refl _ _⟩
  case round =>
    obtain ⟨i, hg, rfl, hb⟩ := hrel
    cases gk with
    | zero =>
      have hin : ¬ i < n := by omega
      clear hg
      go_wp2
      go_ret
      exact ⟨rfl, hb⟩
    | succ gg =>
      have hin : i < n := by omega
      obtain ⟨x, hx⟩ := get_some HN.out hin
      obtain ⟨b1, o1, rfl, c1⟩ := (HA.below hb).at hx
      obtain ⟨b2, o2, rfl, c2⟩ := (HB.below hb).at hx
      have HG := Lib.hid hg
      have tx : (x != x) = false := by simp
      clear hg hx
      go_wp2_with fail
      refine wp_region_over (by kernel_rfl) (by kernel_rfl) ?_
      have z0 := fun u => over_cell c1 u
      have z1 := fun u => over_cell c2 u
      repeat (go_big_quiet_step (fail))
      refine wpQuiet_nil ?_
      rintro _ ⟨u, rfl⟩
      have hb2 := below_then hb (below_over wr u)
      clear z0 z1 c1 c2
      go_wp2
      go_roundg gg
      case rel => exact ⟨i + 1, by have := HG.out; omega, by go_num, hb2⟩
      case measure => omega
set_option maxRecDepth 100000 in set_option maxHeartbeats 3200000 in
theorem sameCache (v u : Value) (L : List (List Int)) (w : World) (H : Rc w v L) (H' : Rc w u L) (h6 : L.length ≤ 6) :
    Calls Tryz.prog 49 #[v, u] w fun e w' => e = .returned (.bool true) ∧ Below w.heap.size w w' := by
  obtain ⟨v0, rfl, ba, ca, bs, rfl, _, _, hA⟩ := H
  obtain ⟨u0, rfl, bb, cb, bs', rfl, _, _, hB⟩ := H'
  obtain ⟨n, hn⟩ : ∃ n, L.length = n := ⟨_, rfl⟩
  rw [hn] at h6 ⊢
  have HN := Lib.hid hn
  have b1 := below_box w (.cells #[.slice (some ⟨ba, 0, none⟩) n ca] 93)
  have b2 := below_box (w.alloc (.cells #[.slice (some ⟨ba, 0, none⟩) n ca] 93)) (.cells #[.slice (some ⟨bb, 0, none⟩) n cb] 93)
  have hs : (w.alloc (.cells #[.slice (some ⟨ba, 0, none⟩) n ca] 93)).heap.size = w.heap.size + 1 := by simp
  have x1 := (Blk.new w 93 #[.slice (some ⟨ba, 0, none⟩) n ca] _ rfl).later b2
  have x2 := Blk.new (w.alloc (.cells #[.slice (some ⟨ba, 0, none⟩) n ca] 93)) 93 #[.slice (some ⟨bb, 0, none⟩) n cb] _ rfl
  rw [hs] at x2
  have b3 := below_then b1 b2
  have A1 := Lib.hid (hA.below b3)
  have A2 := Lib.hid (hB.below b3)
  clear hn hs hA hB b1 b2
  go_enter Tryz.func49, Tryz.ntmps49
  go_upto_region 1 with fail
  obtain ⟨w1, hw1⟩ : ∃ W, W = (w.alloc (.cells #[.slice (some ⟨ba, 0, none⟩) n ca] 93)).alloc (.cells #[.slice (some ⟨bb, 0, none⟩) n cb] 93) := ⟨_, rfl⟩
  rw [← hw1] at x1 x2 b3 A1 A2 ⊢
  obtain ⟨g1, hg1⟩ : ∃ g, w.heap.size = g := ⟨_, rfl⟩
  obtain ⟨g2, hg2⟩ : ∃ g, w.heap.size + 1 = g := ⟨_, rfl⟩
  rw [hg2] at x2 ⊢
  have x1 : Blk w1 g1 93 [.slice (some ⟨ba, 0, none⟩) n ca] := by rw [← hg1]; exact x1
  rw [hg1]
  clear hw1 hg1 hg2
  have c1 := x1.cell 0
  have c2 := x2.cell 0
  simp only [List.getElem?_cons_zero] at c1 c2
  have tn : ((n : Int) != (n : Int)) = false := by simp
  have C1 := Lib.hid c1; have C2 := Lib.hid c2
  go_wp2
  go_loopg [16] n (fun gg v16 wr => ∃ i : Nat, i + gg = n ∧ v16 = .int .i64 i ∧ Below w1.heap.size w1 wr)
  case atStart => exact ⟨0, by omega, rfl, Below.refl _ _⟩
  case round =>
    clear c1 c2 tn
    obtain ⟨i, hg, rfl, hb⟩ := hrel
    cases gk with
    | zero =>
      have hin : ¬ i < n := by omega
      have hF := below_then b3 hb
      clear hg hb
      go_wp2
      go_ret
      exact ⟨rfl, hF⟩
    | succ gg =>
      have hin : i < n := by omega
      obtain ⟨l, hl⟩ := get_some HN.out hin
      have HG := Lib.hid hg
      have R1 := A1.out.below hb
      have R2 := A2.out.below hb
      obtain ⟨v1, q1, s1⟩ := R1.row i l hl
      obtain ⟨v2, q2, s2⟩ := R2.row i l hl
      have k1 : wr.cell? ⟨ba, i, none⟩ = some v1 := by rw [R1.x.cell]; exact q1
      have k2 : wr.cell? ⟨bb, i, none⟩ = some v2 := by rw [R2.x.cell]; exact q2
      have c1 := cell_later hb C1.out
      have c2 := cell_later hb C2.out
      have HC := Lib.hid (fun u => calls_over (sameList v1 v2 l (over wr u) (s1.below (below_over wr u)) (s2.below (below_over wr u))))
      clear hg hl R1 R2 q1 q2 s1 s2
      go_wp2_with fail
      refine wp_region_over (by kernel_rfl) (by kernel_rfl) ?_
      have z0 := fun u => over_cell c1 u
      have z1 := fun u => over_cell c2 u
      have z2 := fun u => over_cell k1 u
      have z3 := fun u => over_cell k2 u
      repeat (go_big_quiet_step (fail))
      go_big_quiet_step ((go_at_call 47; exact HC.out _))
      repeat (go_big_quiet_step (fail))
      refine wpQuiet_nil ?_
      rintro _ ⟨u, rfl⟩
      have hb2 := below_then hb (below_over wr u)
      clear z0 z1 z2 z3 c1 c2 k1 k2 HC hb
      go_wp2
      go_roundg gg
      case rel => exact ⟨i + 1, by have := HG.out; omega, by go_num, hb2⟩
      case measure => omega
section
variable {ops : Array Oper} {rest : List Oper} {d i : Nat} {ty : TypeId} {pos : String} {af : Array Edge} {a : Act} {g off t : Nat} {S : World → Prop} {R : Act → Prop} {zs cs : List Value}
/-- A part is loaded, in a quiet piece. -/
theorem ldQZ {n : Nat} (hn : (Tryz.prog.info? 102).map (·.size) = some n) (hl : cs.length = n) (hx : a.eval (.tmp i) = .pointer (some ⟨g, off, none⟩)) (hB : ∀ w, S w → Blk w g t zs) (hcs : ∀ j v, cs[j]? = some v → zs[off + j]? = some v) (h : wpQuiet Tryz.prog ops S R rest (a.put (some d) (.agg cs.toArray))) :
    wpQuiet Tryz.prog ops S R ({ dst := some d, op := .load 102 (.tmp i), type := ty, pos := pos, after := af, guard := none } :: rest) a := by
  refine BigFrame.wpQuiet_want rfl fun K hK => ⟨_, fun w hS => ?_, hK _ h⟩
  unfold Oper.quietAt execOp
  simp only [hx, Instr.loadAt, Instr.sureAddr, Sem.run_bind, Sem.run_pure, Result.andThen_ok, run_loadVar_part (hB w hS) hcs Tryz.underlying102 rfl (by rw [hn, hl])]
  exact ⟨rfl, rfl⟩
/-- A part is loaded, in a quiet piece. -/
theorem ldQK {n : Nat} (hn : (Tryz.prog.info? 93).map (·.size) = some n) (hl : cs.length = n) (hx : a.eval (.tmp i) = .pointer (some ⟨g, off, none⟩)) (hB : ∀ w, S w → Blk w g t zs) (hcs : ∀ j v, cs[j]? = some v → zs[off + j]? = some v) (h : wpQuiet Tryz.prog ops S R rest (a.put (some d) (.agg cs.toArray))) :
    wpQuiet Tryz.prog ops S R ({ dst := some d, op := .load 93 (.tmp i), type := ty, pos := pos, after := af, guard := none } :: rest) a := by
  refine BigFrame.wpQuiet_want rfl fun K hK => ⟨_, fun w hS => ?_, hK _ h⟩
  unfold Oper.quietAt execOp
  simp only [hx, Instr.loadAt, Instr.sureAddr, Sem.run_bind, Sem.run_pure, Result.andThen_ok, run_loadVar_part (hB w hS) hcs Tryz.underlying93 rfl (by rw [hn, hl])]
  exact ⟨rfl, rfl⟩
end
/-- Zones of equal parameters and lists. -/
def ZEq (y y' : Z) : Prop := y'.nd = y.nd ∧ y'.kd = y.kd ∧ y'.st = y.st ∧ y'.ct = y.ct ∧ y'.mn = y.mn ∧ ∀ k, k < 5 → y.fr k = y'.fr k
set_option maxRecDepth 100000 in set_option maxHeartbeats 3200000 in
theorem sameAl (v u : Value) (a b : A) (w : World) (H : Ra w v a) (H' : Ra w u b) (hnd : b.nodes = a.nodes) (hbt : b.bt = a.bt) (hhi : b.hi = a.hi) (hz : b.zs.length = a.zs.length) (hzz : ∀ (i : Nat) (y y' : Z), a.zs[i]? = some y → b.zs[i]? = some y' → ZEq y y') (hcs : b.cs = a.cs) (hz6 : a.zs.length ≤ 6) (hc4 : a.cs.length ≤ 4) (hl6 : ∀ L ∈ a.cs, L.length ≤ 6) :
    Calls Tryz.prog 14 #[v, u] w fun e w' => e = .returned (.bool true) ∧ Below w.heap.size w w' := by
  obtain ⟨s, zc, ccs, rfl, hW⟩ := H
  obtain ⟨t, zc', ccs', rfl, hW'⟩ := H'
  have hs : (w.alloc (.cells (s.cells a.bt a.hi).toArray 28)).heap.size = w.heap.size + 1 := by simp
  have bx := below_box w (.cells (s.cells a.bt a.hi).toArray 28)
  have X0 := (AX.new hW).below (below_box (w.alloc (.cells (s.cells a.bt a.hi).toArray 28)) (.cells (t.cells b.bt b.hi).toArray 28))
  have Y0 := AX.new (hW'.below bx)
  rw [hs] at Y0
  have HND := Lib.hid hnd; have HBT := Lib.hid hbt; have HHI := Lib.hid hhi; have HZ0 := Lib.hid hz; have HCS := Lib.hid hcs
  clear hW hW' hnd hbt hhi hz hcs
  go_enter Tryz.func14, Tryz.ntmps14
  go_upto_region 1 with fail
  obtain ⟨w1, hw1⟩ : ∃ W, W = (w.alloc (.cells (s.cells a.bt a.hi).toArray 28)).alloc (.cells (t.cells b.bt b.hi).toArray 28) := ⟨_, rfl⟩
  rw [← hw1] at X0 Y0 ⊢
  have yx := Y0.x
  have yv := Y0.v
  have bF := X0.b
  obtain ⟨g2, hg2⟩ : ∃ g, w.heap.size + 1 = g := ⟨_, rfl⟩
  rw [hg2] at yx ⊢
  have xx := X0.x
  have xv := X0.v
  obtain ⟨g1, hg1⟩ : ∃ g, w.heap.size = g := ⟨_, rfl⟩
  have xx : Blk w1 g1 28 (s.cells a.bt a.hi) := by rw [← hg1]; exact xx
  rw [hg1]
  have hnd := HND.out; have hz := HZ0.out; have hcs := HCS.out
  rw [HBT.out, HHI.out] at yx
  have a0 : w1.cell? ⟨g1, 0, none⟩ = some (.slice s.an s.nn s.cn) := by rw [xx.cell]; rfl
  have a1 : w1.cell? ⟨g1, 1, none⟩ = some (.int .i64 a.bt) := by rw [xx.cell]; rfl
  have a2 : w1.cell? ⟨g1, 2, none⟩ = some (.int .i64 a.hi) := by rw [xx.cell]; rfl
  have a3 : w1.cell? ⟨g1, 3, none⟩ = some (.slice (some ⟨s.bz, 0, none⟩) s.nz s.cz) := by rw [xx.cell]; rfl
  have a4 : w1.cell? ⟨g1, 4, none⟩ = some (.slice (some ⟨s.bc, 0, none⟩) s.nc s.cc) := by rw [xx.cell]; rfl
  have e0 : w1.cell? ⟨g2, 0, none⟩ = some (.slice t.an t.nn t.cn) := by rw [yx.cell]; rfl
  have e1 : w1.cell? ⟨g2, 1, none⟩ = some (.int .i64 a.bt) := by rw [yx.cell]; rfl
  have e2 : w1.cell? ⟨g2, 2, none⟩ = some (.int .i64 a.hi) := by rw [yx.cell]; rfl
  have e3 : w1.cell? ⟨g2, 3, none⟩ = some (.slice (some ⟨t.bz, 0, none⟩) t.nz t.cz) := by rw [yx.cell]; rfl
  have e4 : w1.cell? ⟨g2, 4, none⟩ = some (.slice (some ⟨t.bc, 0, none⟩) t.nc t.cc) := by rw [yx.cell]; rfl
  have htz : t.nz = s.nz := by rw [← yv.ez, ← xv.ez, hz]
  have htc : t.nc = s.nc := by rw [← yv.ec, ← xv.ec, hcs]
  rw [htz] at e3
  rw [htc] at e4
  have hnz : s.nz ≤ 6 := by rw [← xv.ez]; exact hz6
  have hnc : s.nc ≤ 4 := by rw [← xv.ec]; exact hc4
  have HNZ := Lib.hid xv.ez
  have HNC := Lib.hid xv.ec
  have HZB := Lib.hid (show b.zs.length = s.nz by rw [hz]; exact xv.ez)
  have HZZ := Lib.hid hzz; have HL6 := Lib.hid hl6
  have HQ1 := Lib.hid xv.q; have HQ2 := Lib.hid yv.q
  have HC1 := Lib.hid xv.c; have HC2 := Lib.hid yv.c
  have HSL := Lib.hid (sameList (.slice s.an s.nn s.cn) (.slice t.an t.nn t.cn) a.nodes w1 xv.nd (by rw [← hnd]; exact yv.nd))
  have A3 := Lib.hid a3; have A4 := Lib.hid a4; have E3 := Lib.hid e3; have E4 := Lib.hid e4
  obtain ⟨nz, hnzz⟩ : ∃ n, s.nz = n := ⟨_, rfl⟩
  obtain ⟨nc, hncc⟩ : ∃ n, s.nc = n := ⟨_, rfl⟩
  rw [hnzz] at a3 e3 A3 E3 hnz HNZ HZB
  rw [hncc] at a4 e4 A4 E4 hnc HNC
  clear hw1 hg1 hg2 X0 Y0 xx yx xv yv hs bx htz htc hnzz hncc hzz hcs hl6 hnd hz hz6 hc4 HBT HHI HND HZ0
  go_wp2_with fail
  refine HSL.out.mono ?_
  rintro e w2 ⟨rfl, b2⟩
  have a1 := cell_later b2 a1
  have a2 := cell_later b2 a2
  have a3 := cell_later b2 a3
  have a4 := cell_later b2 a4
  have e1 := cell_later b2 e1
  have e2 := cell_later b2 e2
  have e3 := cell_later b2 e3
  have e4 := cell_later b2 e4
  have t1 : ((a.bt : Int) != (a.bt : Int)) = false := by simp
  have t2 : ((a.hi : Int) != (a.hi : Int)) = false := by simp
  have t3 : ((nz : Int) != (nz : Int)) = false := by simp
  have t4 : ((nc : Int) != (nc : Int)) = false := by simp
  clear HSL a0 e0
  go_wp2
  go_loopg [5] nz (fun gg v5 wr => ∃ i : Nat, i + gg = nz ∧ v5 = .int .i64 i ∧ Below w1.heap.size w1 wr)
  case atStart => exact ⟨0, by omega, rfl, b2⟩
  case round =>
    clear b2 a1 a2 a3 a4 e1 e2 e3 e4 t1 t2 t3 t4
    obtain ⟨i, hg, rfl, hb⟩ := hrel
    have a3 := cell_later hb A3.out
    have e3 := cell_later hb E3.out
    cases gk with
    | zero =>
      have hin : ¬ i < nz := by omega
      clear hg
      go_wp2
      go_loopg [6] nc (fun g2 v6 wk => ∃ i : Nat, i + g2 = nc ∧ v6 = .int .i64 i ∧ Below w1.heap.size w1 wk)
      case atStart => exact ⟨0, by omega, rfl, hb⟩
      case round =>
        clear a3 e3 hin hb
        obtain ⟨c, hg, rfl, hb⟩ := hrel
        have a4 := cell_later hb A4.out
        have e4 := cell_later hb E4.out
        cases gk with
        | zero =>
          have hin : ¬ c < nc := by omega
          have hF := below_then bF hb
          clear hg hb
          go_wp2
          go_ret
          exact ⟨rfl, hF⟩
        | succ g2 =>
          have hin : c < nc := by omega
          have HG := Lib.hid hg
          obtain ⟨L, hL⟩ := get_some HNC.out hin
          have R1 := HC1.out.below hb
          have R2 := HC2.out.below hb
          obtain ⟨v1, q1, s1⟩ := R1.row c L hL
          obtain ⟨v2, q2, s2⟩ := R2.row c L (by rw [HCS.out]; exact hL)
          have k1 := fun u => R1.x.later (below_over wr u)
          have k2 := fun u => R2.x.later (below_over wr u)
          have m1 : ∀ (j : Nat) (x : Value), [v1][j]? = some x → ccs[c + j]? = some x := fun j x hj => by
            match j, hj with
            | 0, hj => cases hj; exact q1
            | j + 1, hj => simp at hj
          have m2 : ∀ (j : Nat) (x : Value), [v2][j]? = some x → ccs'[c + j]? = some x := fun j x hj => by
            match j, hj with
            | 0, hj => cases hj; exact q2
            | j + 1, hj => simp at hj
          have HC := Lib.hid (fun u => calls_over (sameCache (.agg [v1].toArray) (.agg [v2].toArray) L (over wr u) ⟨v1, rfl, s1.below (below_over wr u)⟩ ⟨v2, rfl, s2.below (below_over wr u)⟩ (HL6.out L (List.mem_of_getElem? hL))))
          clear hg hL R1 R2 s1 s2 q1 q2
          go_wp2_with fail
          refine wp_region_over (by kernel_rfl) (by kernel_rfl) ?_
          have z0 := fun u => over_cell a4 u
          have z1 := fun u => over_cell e4 u
          repeat (go_big_quiet_step (fail))
          refine ldQK (cs := [v1]) infoC rfl rfl (fun W ⟨u, hu⟩ => by rw [hu]; exact k1 u) m1 ?_
          simp only [Act.put, List.setIfInBounds_toArray, List.set_cons_succ, List.set_cons_zero]
          repeat (go_big_quiet_step (fail))
          refine ldQK (cs := [v2]) infoC rfl rfl (fun W ⟨u, hu⟩ => by rw [hu]; exact k2 u) m2 ?_
          simp only [Act.put, List.setIfInBounds_toArray, List.set_cons_succ, List.set_cons_zero]
          repeat (go_big_quiet_step ((go_at_call 49; exact HC.out _)))
          refine wpQuiet_nil ?_
          rintro _ ⟨u, rfl⟩
          have hb2 := below_then hb (below_over wr u)
          clear z0 z1 a4 e4 k1 k2 m1 m2 HC hb
          go_wp2
          go_roundg g2
          case rel => exact ⟨c + 1, by have := HG.out; omega, by go_num, hb2⟩
          case measure => omega
    | succ gg =>
      have hin : i < nz := by omega
      have HG := Lib.hid hg
      obtain ⟨y, hy⟩ := get_some HNZ.out hin
      obtain ⟨y', hy'⟩ := get_some HZB.out hin
      have R1 := HQ1.out.below hb
      have R2 := HQ2.out.below hb
      obtain ⟨h0, h1, h2, h3, h4, h5⟩ := HZZ.out i y y' hy hy'
      have V1 := R1.row i y hy
      have V2 := R2.row i y' hy'
      have k1 := fun u => R1.x.later (below_over wr u)
      have k2 := fun u => R2.x.later (below_over wr u)
      have m1 := R1.get hy
      have m2 := R2.get hy'
      have l1 := V1.len
      have l2 := V2.len
      have HC := Lib.hid (fun u => calls_over (sameZone (.agg (seg zc (i * 10) 10).toArray) (.agg (seg zc' (i * 10) 10).toArray) y y' (over wr u) ⟨_, rfl, V1.below (below_over wr u)⟩ ⟨_, rfl, V2.below (below_over wr u)⟩ h0 h1 h2 h3 h4 h5))
      clear hg hy hy' R1 R2 h0 h1 h2 h3 h4 h5 V1 V2
      go_wp2_with fail
      refine wp_region_over (by kernel_rfl) (by kernel_rfl) ?_
      have z0 := fun u => over_cell a3 u
      have z1 := fun u => over_cell e3 u
      repeat (go_big_quiet_step (fail))
      refine ldQZ (cs := seg zc (i * 10) 10) infoZ l1 rfl (fun W ⟨u, hu⟩ => by rw [hu]; exact k1 u) m1 ?_
      simp only [Act.put, List.setIfInBounds_toArray, List.set_cons_succ, List.set_cons_zero]
      repeat (go_big_quiet_step (fail))
      refine ldQZ (cs := seg zc' (i * 10) 10) infoZ l2 rfl (fun W ⟨u, hu⟩ => by rw [hu]; exact k2 u) m2 ?_
      simp only [Act.put, List.setIfInBounds_toArray, List.set_cons_succ, List.set_cons_zero]
      repeat (go_big_quiet_step ((go_at_call 48; exact HC.out _)))
      refine wpQuiet_nil ?_
      rintro _ ⟨u, rfl⟩
      have hb2 := below_then hb (below_over wr u)
      clear z0 z1 a3 e3 k1 k2 m1 m2 l1 l2 HC hb
      go_wp2
      go_roundg gg
      case rel => exact ⟨i + 1, by have := HG.out; omega, by go_num, hb2⟩
      case measure => omega
end Go.Proofs.YtdddkfpcbfgocaaGreat
namespace Go.Proofs.YtdddkfpcbfgocaaGreat
open Go.RowKit Go.Over Go.Zn Go.Can Go.Seg Go.Grow
theorem own_kept2 {W W' : World} {B e size n : Nat} {V : Value} {xs : List Value} {b' e' size' m : Nat} {v : Value} {ys : List Value} (h : W.ownsRow B e size V n xs) (hO : W.ownsRow b' e' size' v m ys) (hne : e ≠ e') (hg : W.grownBy W' v.ownBlock) : W'.ownsRow B e size V n xs := by
  refine ⟨h.1, ?_⟩
  rcases h.2 with h2 | ⟨g', cap, cur, h1, h2, h3, h4⟩
  · exact .inl h2
  · have hc : Blk W g' e cur.toList := by unfold Blk; simpa using h3
    have hc' := hc.grown hg (hc.not_own hO (Ne.symm hne))
    exact .inr ⟨g', cap, cur, h1, h2, by unfold Blk at hc'; simpa using hc', h4⟩
theorem Sb.OwnC.past {W W' : World} {B : Nat} {V : Value} {rs : List Sb.R} {g t : Nat} {bs : List Value} (h : Sb.OwnC W B V rs) (hB : Blk W g t bs) (h1 : t ≠ 53) (h2 : t ≠ 4) (hg : W.grownBy W' (some g)) : Sb.OwnC W' B V rs :=
  ⟨_root_.Go.Proofs.YtdddkfpcbfgocaaGreat.own_far h.out hB (Ne.symm h1) hg, fun r hr => _root_.Go.Proofs.YtdddkfpcbfgocaaGreat.own_far (h.inn r hr) hB (Ne.symm h2) hg, h.nod⟩
theorem Sb.OwnC.beside {W W' : World} {B : Nat} {V : Value} {rs : List Sb.R} {b e size n : Nat} {v : Value} {xs : List Value} (h : Sb.OwnC W B V rs) (hO : W.ownsRow b e size v n xs) (h1 : e ≠ 53) (h2 : e ≠ 4) (hg : W.grownBy W' v.ownBlock) : Sb.OwnC W' B V rs :=
  ⟨own_kept2 h.out hO (Ne.symm h1) hg, fun r hr => own_kept2 (h.inn r hr) hO (Ne.symm h2) hg, h.nod⟩
theorem Sb.OwnC.one {W : World} {B : Nat} {V : Value} {rs : List Sb.R} (h : Sb.OwnC W B V rs) : V.oneCell' = true := by
  obtain ⟨a, c, rfl, _⟩ := h.slabs rfl
  rfl
/-- The cells of a cache of slabs. -/
def scC (o : Int) (V : Value) : List Value := [.int .i64 o, V]
theorem infoSC : (Tryz.prog.info? 31).map (·.size) = some 2 := by kernel_rfl
section
variable {ops : Array Oper} {rest : List Oper} {d i j : Nat} {ty : TypeId} {pos : String} {af : Array Edge} {a : Act} {w : World} {Q : Exit → Act → World → Prop} {g : Nat} {S : World → Prop} {R : Act → Prop} {o : Int} {V : Value}
/-- A cache of slabs is stored whole. -/
theorem stSC {zs : List Value} (hx : a.eval (.tmp i) = .pointer (some ⟨g, 0, none⟩)) (hy : a.eval (.tmp j) = .agg (scC o V).toArray) (hB : Blk w g 31 zs) (hz : zs.length = 2) (h1 : V.oneCell' = true)
    (h : ∀ W, Blk W g 31 (scC o V) → w.grownBy W (some g) → wpList Tryz.prog ops Q rest (a.put none undef) W) :
    wpList Tryz.prog ops Q ({ dst := none, op := .store 31 (.tmp i) (.tmp j), type := ty, pos := pos, after := af, guard := none } :: rest) a w := by
  have e : lay zs 0 (scC o V) = scC o V := by
    have hl : (scC o V).length = 2 := rfl
    unfold lay
    rw [hl, List.take_zero, List.nil_append, List.drop_eq_nil_of_le (by omega), List.append_nil]
  refine wpList_store_part (cs := scC o V) (by rw [infoSC]; rfl) hx hy hB (by rw [hz]; exact Nat.le_refl _) ?_ fun W q1 q2 => h W (by rw [← e]; exact q1) q2
  intro u hu
  simp [scC] at hu
  rcases hu with rfl | rfl
  · rfl
  · exact h1
theorem ldSC (hx : a.eval (.tmp i) = .pointer (some ⟨g, 0, none⟩)) (hB : Blk w g 31 (scC o V)) (h : wpList Tryz.prog ops Q rest (a.put (some d) (.agg (scC o V).toArray)) w) :
    wpList Tryz.prog ops Q ({ dst := some d, op := .load 31 (.tmp i), type := ty, pos := pos, after := af, guard := none } :: rest) a w :=
  wpList_load_row rfl 31 (.tmp i) rfl g hx 31 (scC o V).toArray (0, 0) _ hB Tryz.underlying31 rfl (by rw [infoSC]; rfl) h
/-- A row is loaded whole, in a quiet piece. -/
theorem ldQA {cs : List Value} {n : Nat} (hn : (Tryz.prog.info? 28).map (·.size) = some n) (hl : cs.length = n) (hx : a.eval (.tmp i) = .pointer (some ⟨g, 0, none⟩)) (hB : ∀ w, S w → Blk w g 28 cs) (h : wpQuiet Tryz.prog ops S R rest (a.put (some d) (.agg cs.toArray))) :
    wpQuiet Tryz.prog ops S R ({ dst := some d, op := .load 28 (.tmp i), type := ty, pos := pos, after := af, guard := none } :: rest) a := by
  refine BigFrame.wpQuiet_want rfl fun K hK => ⟨_, fun w hS => ?_, hK _ h⟩
  unfold Oper.quietAt execOp
  simp only [hx, Instr.loadAt, Instr.sureAddr, Sem.run_bind, Sem.run_pure, Result.andThen_ok, run_loadVar_row w g 28 28 cs.toArray (0, 0) _ (hB w hS) Tryz.underlying28 rfl (by rw [hn]; simp [hl])]
  exact ⟨rfl, rfl⟩
/-- A row is loaded whole, in a quiet piece. -/
theorem ldQC {cs : List Value} {n : Nat} (hn : (Tryz.prog.info? 31).map (·.size) = some n) (hl : cs.length = n) (hx : a.eval (.tmp i) = .pointer (some ⟨g, 0, none⟩)) (hB : ∀ w, S w → Blk w g 31 cs) (h : wpQuiet Tryz.prog ops S R rest (a.put (some d) (.agg cs.toArray))) :
    wpQuiet Tryz.prog ops S R ({ dst := some d, op := .load 31 (.tmp i), type := ty, pos := pos, after := af, guard := none } :: rest) a := by
  refine BigFrame.wpQuiet_want rfl fun K hK => ⟨_, fun w hS => ?_, hK _ h⟩
  unfold Oper.quietAt execOp
  simp only [hx, Instr.loadAt, Instr.sureAddr, Sem.run_bind, Sem.run_pure, Result.andThen_ok, run_loadVar_row w g 31 31 cs.toArray (0, 0) _ (hB w hS) Tryz.underlying31 rfl (by rw [hn]; simp [hl])]
  exact ⟨rfl, rfl⟩
end
theorem resS {fn : Func} {p q r : Tmp} (h : fn.results = #[.cell p 28, .cell q 31, .tmp r]) (tmps : Array Value) (w : World) (g g' : Nat) (cs hs : List Value) (v : Value) (hp : tmps.getD p undef = .pointer (some ⟨g, 0, none⟩)) (hq : tmps.getD q undef = .pointer (some ⟨g', 0, none⟩)) (hg : Blk w g 28 cs) (hl : cs.length = 5) (hg' : Blk w g' 31 hs) (hl' : hs.length = 2) (hv : tmps.getD r undef = v) :
    (results fn tmps).run Tryz.prog w = .ok (.tuple #[.agg cs.toArray, .agg hs.toArray, v]) w := by
  have hp' : tmps[p]?.getD undef = .pointer (some ⟨g, 0, none⟩) := by simpa using hp
  have hq' : tmps[q]?.getD undef = .pointer (some ⟨g', 0, none⟩) := by simpa using hq
  have hv' : tmps[r]?.getD undef = v := by simpa using hv
  have h1 := run_loadVar_row (P := Tryz.prog) w g 28 28 cs.toArray (0, 0) _ hg Tryz.underlying28 rfl (by rw [infoA]; simp [hl])
  have h2 := run_loadVar_row (P := Tryz.prog) w g' 31 31 hs.toArray (0, 0) _ hg' Tryz.underlying31 rfl (by rw [infoSC]; simp [hl'])
  simp [results, h, hp', hq', hv', asAddr, h1, h2]
/-- The zones of the machine in which slabs are laid. -/
def dp0 : Z := ⟨0, 0, 0, 16, 2, fun _ => []⟩
def dp1 : Z := ⟨1, 1, 0, 8, 0, fun _ => []⟩
theorem ps_D : PS [dp0, dp1] := ⟨by decide, by decide, fun z hz => by
  simp at hz; rcases hz with rfl | rfl <;> decide, fun z hz => by
  simp at hz; rcases hz with rfl | rfl
  · exact .inl rfl
  · exact .inr rfl, fun z hz => by simp at hz; rcases hz with rfl | rfl <;> decide, fun z hz => by simp at hz; rcases hz with rfl | rfl <;> decide, by decide⟩
set_option maxRecDepth 100000 in set_option maxHeartbeats 3200000 in
theorem dzones (w : World) : Calls Tryz.prog 13 #[] w fun e w' => ∃ g pc, e = .returned (.slice (some ⟨g, 0, none⟩) 2 2) ∧ SV w' g pc [dp0, dp1] ∧ Below w.heap.size w w' := by
  have hB := Blk.new w 56 #[.int .i64 0, .int .i64 0, .int .i64 16, .int .i64 2, .int .i64 1, .int .i64 1, .int .i64 8, .int .i64 0] _ rfl
  have b := below_box w (.cells #[.int .i64 0, .int .i64 0, .int .i64 16, .int .i64 2, .int .i64 1, .int .i64 1, .int .i64 8, .int .i64 0] 56)
  have hS : SV (w.alloc (.cells #[.int .i64 0, .int .i64 0, .int .i64 16, .int .i64 2, .int .i64 1, .int .i64 1, .int .i64 8, .int .i64 0] 56)) w.heap.size _ [dp0, dp1] := ⟨hB, fun i z hz => by
    match i, hz with
    | 0, hz => cases hz; exact ⟨rfl, rfl, rfl, rfl⟩
    | 1, hz => cases hz; exact ⟨rfl, rfl, rfl, rfl⟩
    | i + 2, hz => simp at hz⟩
  have HS := Lib.hid hS
  clear hB hS
  go_enter Tryz.func13, Tryz.ntmps13
  go_wp2
  go_ret
  exact ⟨_, _, rfl, HS.out, b⟩
/-- What a new allocator of these zones is. -/
def NewD (w : World) (e : Ending) (w' : World) : Prop :=
  ∃ v a, e = .returned (.tuple #[v, .int .i64 0]) ∧ Ra w' v a ∧ VA a ∧ Sh2 a ∧ Below w.heap.size w w' ∧ (∀ z x, z < 2 → inZ (zn a z) x → Fr a z x) ∧ ∀ c z, lst a c z = []
theorem NewQ.d {w w' : World} {e : Ending} (h : NewQ w [0, 1] 2 3 [dp0, dp1] e w') : NewD w e w' := by
  obtain ⟨v, a, rfl, hR, hV, hb, e1, e2, e3, e4, e5, e6, e7⟩ := h
  obtain ⟨p1, p2, p3, p4, p5⟩ := e5 0 dp0 rfl
  obtain ⟨q1, q2, q3, q4, q5⟩ := e5 1 dp1 rfl
  exact ⟨v, a, rfl, hR, hV, ⟨e1, e2, e3, e4, by rw [hV.nc, e1]; rfl, ⟨p1, p2, p3, p4, p5⟩, ⟨q1, q2, q3, q4, q5⟩⟩, hb, fun z x hz hx => .inl (e6 z x hz hx), e7⟩
theorem NewD.dg {a : A} {o : Int} (hV : VA a) (hs : Sh2 a) (hf : ∀ z x, z < 2 → inZ (zn a z) x → Fr a z x) (h1 : 1 ≤ o) (h2 : o ≤ 32) : DG a o [] [] :=
  ⟨hV, hs, ⟨h1, h2, trivial, fun s h => (by cases h), fun s h => (by cases h), fun s h => (by cases h)⟩, fun x h => (by cases h), fun x h => (by cases h), List.nodup_nil, fun x h => (by cases h), fun x h3 h4 => ⟨fun _ => ⟨by simp [frs], by simp⟩, fun _ => hf 0 x (by omega) (hs.in0.2 ⟨h3, h4⟩)⟩, fun x h3 h4 => hf 1 x (by omega) (hs.in1.2 ⟨h3, h4⟩)⟩
theorem sl_two (w : World) (x y : Int) : Sl (w.alloc (.cells #[.int .i64 x, .int .i64 y] 3)) (.slice (some ⟨w.heap.size, 0, none⟩) 2 2) [x, y] := by
  have NB := Blk.new w 3 #[.int .i64 x, .int .i64 y] [.int .i64 x, .int .i64 y] rfl
  refine ⟨_, 2, rfl, Nat.le_refl _, by unfold maxLen; omega, fun h => (by cases h), fun _ => ⟨w.heap.size, 0, rfl, ⟨_, NB⟩, fun k hk => ?_⟩⟩
  rw [NB.cell]
  have hk : k < 2 := hk
  rcases (show k = 0 ∨ k = 1 by omega) with rfl | rfl <;> rfl
end Go.Proofs.YtdddkfpcbfgocaaGreat
namespace Go.Zn
open Go.Slb
/-- How a cache grows when N objects are asked for. -/
def Grew (o : Int) (l : List S) (N : Int) (l' : List S) : Prop :=
  (14 - (l.length : Int) < needL o l N ∧ l' = l) ∨ (needL o l N ≤ 14 - (l.length : Int) ∧ used l' = used l + N.toNat ∧ (l'.length : Int) = l.length + needL o l N)
end Go.Zn
namespace Go.Proofs.YtdddkfpcbfgocaaGreat
open Go.RowKit Go.Over Go.Zn Go.Can Go.Seg Go.Grow
/-- An allocator and a cache, beside variables for the results. -/
structure GM (w : World) (g4 g5 g8 g9 B : Nat) (s : Sh) (zc ccs : List Value) (a : A) (o : Int) (V : Value) (rs : List Sb.R) (W : World) : Prop where
  b : Below w.heap.size w W
  l4 : w.heap.size ≤ g4
  l5 : w.heap.size ≤ g5
  l8 : w.heap.size ≤ g8
  l9 : w.heap.size ≤ g9
  n48 : g4 ≠ g8
  n59 : g5 ≠ g9
  x4 : Blk W g4 28 (s.cells a.bt a.hi)
  x5 : Blk W g5 31 (scC o V)
  z8 : Blk W g8 28 nilA
  z9 : Blk W g9 31 (scC 0 (.slice none 0 0))
  v : AW W s zc ccs a
  c : Sb.OwnC W B V rs
section
variable {w W W' : World} {g4 g5 g8 g9 B : Nat} {s : Sh} {zc ccs : List Value} {a : A} {o : Int} {V : Value} {rs : List Sb.R}
theorem GM.below (h : GM w g4 g5 g8 g9 B s zc ccs a o V rs W) (hb : Below W.heap.size W W') : GM w g4 g5 g8 g9 B s zc ccs a o V rs W' :=
  ⟨below_then h.b hb, h.l4, h.l5, h.l8, h.l9, h.n48, h.n59, h.x4.later hb, h.x5.later hb, h.z8.later hb, h.z9.later hb, h.v.below hb, h.c.later hb⟩
/-- Another variable for an allocator changes. -/
theorem GM.aset {g : Nat} {cs : List Value} (h : GM w g4 g5 g8 g9 B s zc ccs a o V rs W) (hB : Blk W g 28 cs) (h4 : g ≠ g4) (h8 : g ≠ g8) (hl : w.heap.size ≤ g) (hg : W.grownBy W' (some g)) : GM w g4 g5 g8 g9 B s zc ccs a o V rs W' := by
  have kp : ∀ {q t : Nat} {bs : List Value}, t ≠ 28 → Blk W q t bs → Blk W' q t bs := fun ht hq => hq.grown hg (by simpa using hB.ne_type hq (Ne.symm ht))
  exact ⟨h.b.grown hg h.b.size (fun q hq => by cases hq; exact hl), h.l4, h.l5, h.l8, h.l9, h.n48, h.n59, h.x4.grown hg (by simpa using h4), kp (by decide) h.x5, h.z8.grown hg (by simpa using h8), kp (by decide) h.z9, h.v.past (kp (by decide) h.v.q.x) (kp (by decide) h.v.c.x) (fun _ _ => kp (by decide)) (fun _ _ => kp (by decide)), h.c.past hB (by decide) (by decide) hg⟩
/-- A row of numbers of the call's own grows. -/
theorem GM.own {v : Value} {l : List Int} (h : GM w g4 g5 g8 g9 B s zc ccs a o V rs W) (hO : Own W w.heap.size v l) (hg : W.grownBy W' v.ownBlock) (hv : AW W' s zc ccs a) : GM w g4 g5 g8 g9 B s zc ccs a o V rs W' := by
  have kp : ∀ {q t : Nat} {bs : List Value}, t ≠ 3 → Blk W q t bs → Blk W' q t bs := fun ht hq => hq.grown hg (hq.not_own hO (Ne.symm ht))
  exact ⟨h.b.grown hg h.b.size (fun k hk => (World.ownsRow.lt hO k hk).1), h.l4, h.l5, h.l8, h.l9, h.n48, h.n59, kp (by decide) h.x4, kp (by decide) h.x5, kp (by decide) h.z8, kp (by decide) h.z9, hv, h.c.beside hO (by decide) (by decide) hg⟩
end
theorem startG (w : World) (cs : List Value) (ds : List Value) :
    Below w.heap.size w ((((w.alloc (.cells cs.toArray 28)).alloc (.cells ds.toArray 31)).alloc (.cells #[.slice none 0 0, .int .i64 0, .int .i64 0, .slice none 0 0, .slice none 0 0] 28)).alloc (.cells #[.int .i64 0, .slice none 0 0] 31)) ∧
    Blk ((((w.alloc (.cells cs.toArray 28)).alloc (.cells ds.toArray 31)).alloc (.cells #[.slice none 0 0, .int .i64 0, .int .i64 0, .slice none 0 0, .slice none 0 0] 28)).alloc (.cells #[.int .i64 0, .slice none 0 0] 31)) w.heap.size 28 cs ∧
    Blk ((((w.alloc (.cells cs.toArray 28)).alloc (.cells ds.toArray 31)).alloc (.cells #[.slice none 0 0, .int .i64 0, .int .i64 0, .slice none 0 0, .slice none 0 0] 28)).alloc (.cells #[.int .i64 0, .slice none 0 0] 31)) (w.heap.size + 1) 31 ds ∧
    Blk ((((w.alloc (.cells cs.toArray 28)).alloc (.cells ds.toArray 31)).alloc (.cells #[.slice none 0 0, .int .i64 0, .int .i64 0, .slice none 0 0, .slice none 0 0] 28)).alloc (.cells #[.int .i64 0, .slice none 0 0] 31)) (w.heap.size + 1 + 1) 28 nilA ∧
    Blk ((((w.alloc (.cells cs.toArray 28)).alloc (.cells ds.toArray 31)).alloc (.cells #[.slice none 0 0, .int .i64 0, .int .i64 0, .slice none 0 0, .slice none 0 0] 28)).alloc (.cells #[.int .i64 0, .slice none 0 0] 31)) (w.heap.size + 1 + 1 + 1) 31 (scC 0 (.slice none 0 0)) := by
  have s1 : (w.alloc (.cells cs.toArray 28)).heap.size = w.heap.size + 1 := by simp
  have s2 : ((w.alloc (.cells cs.toArray 28)).alloc (.cells ds.toArray 31)).heap.size = w.heap.size + 1 + 1 := by simp
  have s3 : (((w.alloc (.cells cs.toArray 28)).alloc (.cells ds.toArray 31)).alloc (.cells #[.slice none 0 0, .int .i64 0, .int .i64 0, .slice none 0 0, .slice none 0 0] 28)).heap.size = w.heap.size + 1 + 1 + 1 := by simp
  have b1 := below_box w (.cells cs.toArray 28)
  have b2 := below_box (w.alloc (.cells cs.toArray 28)) (.cells ds.toArray 31)
  have b3 := below_box ((w.alloc (.cells cs.toArray 28)).alloc (.cells ds.toArray 31)) (.cells #[.slice none 0 0, .int .i64 0, .int .i64 0, .slice none 0 0, .slice none 0 0] 28)
  have b4 := below_box (((w.alloc (.cells cs.toArray 28)).alloc (.cells ds.toArray 31)).alloc (.cells #[.slice none 0 0, .int .i64 0, .int .i64 0, .slice none 0 0, .slice none 0 0] 28)) (.cells #[.int .i64 0, .slice none 0 0] 31)
  have x1 := Blk.new w 28 cs.toArray cs rfl
  have x2 := Blk.new (w.alloc (.cells cs.toArray 28)) 31 ds.toArray ds rfl
  have x3 := Blk.new ((w.alloc (.cells cs.toArray 28)).alloc (.cells ds.toArray 31)) 28 #[.slice none 0 0, .int .i64 0, .int .i64 0, .slice none 0 0, .slice none 0 0] nilA rfl
  have x4 := Blk.new (((w.alloc (.cells cs.toArray 28)).alloc (.cells ds.toArray 31)).alloc (.cells #[.slice none 0 0, .int .i64 0, .int .i64 0, .slice none 0 0, .slice none 0 0] 28)) 31 #[.int .i64 0, .slice none 0 0] (scC 0 (.slice none 0 0)) rfl
  rw [s1] at x2
  rw [s2] at x3
  rw [s3] at x4
  exact ⟨below_then (below_then (below_then b1 b2) b3) b4, x1.later (below_then (below_then b2 b3) b4), x2.later (below_then b3 b4), x3.later b4, x4⟩
/-- What the growth gives. -/
def GrownQ (w : World) (B : Nat) (o : Int) (l : List Go.Slb.S) (N : Int) (e : Ending) (w' : World) : Prop :=
  ∃ (s : Sh) (zc ccs : List Value) (a : A) (V : Value) (rs : List Sb.R), e = .returned (.tuple #[.agg (s.cells a.bt a.hi).toArray, .agg (scC o V).toArray, .bool true]) ∧ AW w' s zc ccs a ∧ Sb.OwnC w' B V rs ∧ DG a o (rs.map Sb.sl) [] ∧ Below w.heap.size w w' ∧ Grew o l N (rs.map Sb.sl)
set_option maxRecDepth 100000 in set_option maxHeartbeats 3200000 in
theorem grownD (a : A) (o : Int) (s : Sh) (zc ccs : List Value) (V : Value) (rs : List Sb.R) (N : Int) (c B : Nat) (w : World) (hA : AW w s zc ccs a) (hC : Sb.OwnC w B V rs) (hD : DG a o (rs.map Sb.sl) []) (hB : B ≤ w.heap.size) (n1 : 1 ≤ N) (n9 : N ≤ 9) (hc : c < 2) :
    Calls Tryz.prog 31 #[.agg (s.cells a.bt a.hi).toArray, .agg (scC o V).toArray, .int .i64 N, .int .i64 c] w (GrownQ w B o (rs.map Sb.sl) N) := by
  obtain ⟨nl, hnl⟩ : ∃ n, rs.length = n := ⟨_, rfl⟩
  obtain ⟨aV, cV, rfl, _, _, _, _⟩ := hC.slabs hnl
  obtain ⟨b1, x4, x5, z8, z9⟩ := startG w (s.cells a.bt a.hi) (scC o (.slice aV nl cV))
  obtain ⟨m, rfl⟩ : ∃ m : Nat, N = m := ⟨N.toNat, by omega⟩
  have HA := Lib.hid hA
  have HD := Lib.hid hD
  have HNR := Lib.hid hnl
  clear hnl
  go_enter Tryz.func31, Tryz.ntmps31
  go_upto_region 1 with fail
  obtain ⟨w1, hw1⟩ : ∃ W, W = (((w.alloc (.cells (s.cells a.bt a.hi).toArray 28)).alloc (.cells (scC o (.slice aV nl cV)).toArray 31)).alloc (.cells #[.slice none 0 0, .int .i64 0, .int .i64 0, .slice none 0 0, .slice none 0 0] 28)).alloc (.cells #[.int .i64 0, .slice none 0 0] 31) := ⟨_, rfl⟩
  rw [← hw1] at b1 x4 x5 z8 z9 ⊢
  have G1 : GM w w.heap.size (w.heap.size + 1) (w.heap.size + 1 + 1) (w.heap.size + 1 + 1 + 1) B s zc ccs a o (.slice aV nl cV) rs w1 := ⟨b1, Nat.le_refl _, by omega, by omega, by omega, by omega, by omega, x4, x5, z8, z9, hA.below b1, hC.later b1⟩
  obtain ⟨g9, hg9⟩ : ∃ g, w.heap.size + 1 + 1 + 1 = g := ⟨_, rfl⟩
  obtain ⟨g8, hg8⟩ : ∃ g, w.heap.size + 1 + 1 = g := ⟨_, rfl⟩
  obtain ⟨g5, hg5⟩ : ∃ g, w.heap.size + 1 = g := ⟨_, rfl⟩
  obtain ⟨g4, hg4⟩ : ∃ g, w.heap.size = g := ⟨_, rfl⟩
  rw [hg9, hg8, hg5] at G1 ⊢
  have G1 : GM w g4 g5 g8 g9 B s zc ccs a o (.slice aV nl cV) rs w1 := by rw [← hg4]; exact G1
  rw [hg4]
  clear hw1 hg9 hg8 hg5 hg4 x4 x5 z8 z9 b1 hA hC hD
  have hhd := HD.out.hd
  simp only [List.length_nil, Int.natCast_zero, Int.sub_zero] at hhd
  obtain ⟨l, hl⟩ : ∃ l, rs.map Sb.sl = l := ⟨_, rfl⟩
  rw [hl] at HD hhd ⊢
  have hnl : l.length = nl := by rw [← hl, List.length_map]; exact HNR.out
  have HL := Lib.hid hl
  have ho1 := HD.out.k.o1; have ho2 := HD.out.k.o2
  have hl16 : l.length ≤ 14 ∨ ¬ l.length ≤ 14 := by omega
  have hlm : l.length ≤ 256 := Sb.ok_count HD.out.k
  rw [hnl] at hhd hl16 hlm
  have HNL := Lib.hid hnl
  have HHD := Lib.hid (headroom (.agg (s.cells a.bt a.hi).toArray) a)
  obtain ⟨H2, hH2⟩ : ∃ H, hdA a a.zs.length = H := ⟨_, rfl⟩
  rw [hhd, hH2] at HHD
  have hnb := Go.Slb.need_bounds HD.out.k n1
  obtain ⟨M, hM⟩ : ∃ M : Nat, Go.Slb.needL o l m = (M : Int) := ⟨(Go.Slb.needL o l m).toNat, by omega⟩
  have hM9 : M ≤ 9 := by
    have h0 : 0 ≤ Go.Slb.free o l := by have := Go.Slb.used_le (l := l) HD.out.k.len; unfold Go.Slb.free; omega
    have h3 := hnb.2.2
    rw [hM] at h3
    rcases Nat.lt_or_ge 9 M with h | h
    · have h4 := h3 (by omega)
      have h5 : ((M : Int) - 1) * 1 ≤ ((M : Int) - 1) * o := Int.mul_le_mul_of_nonneg_left ho1 (by omega)
      omega
    · exact h
  have HM := Lib.hid hM
  have HND := Lib.hid (fun W (hs : Sb.Slabs W aV l) => Sb.need_29 o aV l nl cV m W hs HNL.out (by omega) (by omega) (by omega))
  rw [hM] at HND
  have HSL := Lib.hid (fun W (h : Sb.OwnC W B (.slice aV nl cV) rs) => (show Sb.Slabs W aV l from by
    obtain ⟨aV', cV', e, _, _, _, hs⟩ := h.slabs HNR.out
    cases e
    rw [HL.out] at hs
    exact hs))
  clear hl hnl hhd hH2 hnb hM
  go_wp2_with ((with_reducible refine lda ?_ G1.x4 ?_); (focus rfl))
  refine (HHD.out w1 ⟨s, zc, ccs, rfl, G1.v⟩ HD.out.v).mono ?_
  rintro e w2 ⟨rfl, b2⟩
  have G2 := G1.below b2
  clear G1 b2 HHD
  go_wp2_with ((with_reducible refine ldSC ?_ G2.x5 ?_); (focus rfl))
  refine (HND.out w2 (HSL.out w2 G2.c)).mono ?_
  rintro e w3 ⟨rfl, b3⟩
  have G3 := G2.below b3
  clear G2 b3 HND
  by_cases hgt : 14 - (nl : Int) < (M : Int)
  · have HG := Lib.hid (show Grew o l m l from .inl ⟨by rw [HNL.out, HM.out]; exact hgt, rfl⟩)
    have tg : decide (14 - (nl : Int) < (M : Int)) = true := by simpa using hgt
    clear hgt
    go_upto_region 4 with fail
    clear tg
    have XA := G3.x4; have XC := G3.x5; have ZA := G3.z8; have ZC := G3.z9; have AV := G3.v; have CV' := G3.c; have BW := G3.b; have nA := G3.n48; have nC := G3.n59; have l8 := G3.l8; have l9 := G3.l9; have HV1 : (Value.slice aV nl cV).oneCell' = true := rfl
    clear G3
    refine wp_region_plan (fun U => Blk U g4 28 (s.cells a.bt a.hi) ∧ Blk U g5 31 (scC o (.slice aV nl cV))) (.quiet [0, 1] (.only 2 (.only 3 (.quiet [4] .done)))) 99 (by kernel_rfl) (by kernel_rfl) ⟨XA.later (Below.refl _ _).drew, XC.later (Below.refl _ _).drew⟩ ?_
    intro W hW hWe
    have bD : Below w3.heap.size w3 W := by rw [hWe]; exact (Below.refl _ _).drew
    replace XA := XA.later bD; replace XC := XC.later bD; replace ZA := ZA.later bD; replace ZC := ZC.later bD; replace AV := AV.below bD; replace CV' := CV'.later bD; replace BW := below_then BW bD
    clear hWe bD
    simp only [wpPlan, inOrder, List.filterMap_cons, List.filterMap_nil, List.getElem?_cons_zero, List.getElem?_cons_succ]
    show wpQuiet _ _ _ _ (_ :: [_]) _
    refine ldQA infoA rfl rfl (fun U ⟨z, hz⟩ => by rw [hz]; exact (hold_ok (S0 := fun U => Blk U g4 28 (s.cells a.bt a.hi) ∧ Blk U g5 31 (scC o (.slice aV nl cV))) hW z).1) ?_
    simp only [Act.put, List.setIfInBounds_toArray, List.set_cons_succ, List.set_cons_zero]
    refine ldQC infoSC rfl rfl (fun U ⟨z, hz⟩ => by rw [hz]; exact (hold_ok (S0 := fun U => Blk U g4 28 (s.cells a.bt a.hi) ∧ Blk U g5 31 (scC o (.slice aV nl cV))) hW z).2) ?_
    simp only [Act.put, List.setIfInBounds_toArray, List.set_cons_succ, List.set_cons_zero]
    repeat (go_big_quiet_step (fail))
    refine wpQuiet_nil ?_
    show wpList _ _ _ [_] _ _
    go_wp2_with ((with_reducible refine stA (s := s) (bt := a.bt) (hi := a.hi) ?_ ?_ ZA rfl ?_); (focus rfl); (focus rfl); intro w6 hB6 hg6)
    have kp : ∀ {q t : Nat} {bs : List Value}, t ≠ 28 → Blk W q t bs → Blk w6 q t bs := fun ht hq => hq.grown hg6 (by simpa using ZA.ne_type hq (Ne.symm ht))
    replace XA := XA.grown hg6 (by simpa using Ne.symm nA)
    replace XC := kp (by decide) XC
    replace ZC := kp (by decide) ZC
    replace AV := AV.past (kp (by decide) AV.q.x) (kp (by decide) AV.c.x) (fun _ _ => kp (by decide)) (fun _ _ => kp (by decide))
    replace CV' := CV'.past ZA (by decide) (by decide) hg6
    replace BW := BW.grown hg6 BW.size (fun q hq => by cases hq; exact l8)
    refine ⟨hold_of (S0 := fun U => Blk U g4 28 (s.cells a.bt a.hi) ∧ Blk U g5 31 (scC o (.slice aV nl cV))) ⟨XA, XC⟩, ?_⟩
    show wpList _ _ _ [_] _ _
    go_wp2_with ((with_reducible refine stSC (o := o) (V := (.slice aV nl cV)) ?_ ?_ ZC rfl HV1 ?_); (focus rfl); (focus rfl); intro w7 hB7 hg7)
    have kq : ∀ {q t : Nat} {bs : List Value}, t ≠ 31 → Blk w6 q t bs → Blk w7 q t bs := fun ht hq => hq.grown hg7 (by simpa using ZC.ne_type hq (Ne.symm ht))
    replace XA := kq (by decide) XA
    replace XC := XC.grown hg7 (by simpa using Ne.symm nC)
    have hB8 := kq (by decide) hB6
    replace AV := AV.past (kq (by decide) AV.q.x) (kq (by decide) AV.c.x) (fun _ _ => kq (by decide)) (fun _ _ => kq (by decide))
    replace CV' := CV'.past ZC (by decide) (by decide) hg7
    replace BW := BW.grown hg7 BW.size (fun q hq => by cases hq; exact l9)
    refine ⟨hold_of (S0 := fun U => Blk U g4 28 (s.cells a.bt a.hi) ∧ Blk U g5 31 (scC o (.slice aV nl cV))) ⟨XA, XC⟩, ?_⟩
    show wpQuiet _ _ _ _ [_] _
    simp only [Act.put]
    repeat (go_big_quiet_step (fail))
    refine wpQuiet_nil ?_
    refine NoPanic.normal ?_
    clear kp kq XA XC ZA ZC hB6 hg6 hg7 hW
    go_wp2
    refine bodyPost_ret (resS rfl _ _ g8 g9 _ _ _ rfl rfl hB8 rfl hB7 rfl rfl) rfl ?_
    exact ⟨s, zc, ccs, a, _, rs, rfl, AV, CV', by rw [HL.out]; exact HD.out, BW, by rw [HL.out]; exact HG.out⟩
  · have tg : decide (14 - (nl : Int) < (M : Int)) = false := by simpa using hgt
    have hlt : (M : Int) ≤ 14 - (nl : Int) := by omega
    have HLT := Lib.hid hlt
    clear hgt hlt
    have hz5 := Blk.new w3 28 #[.slice none 0 0, .int .i64 0, .int .i64 0, .slice none 0 0, .slice none 0 0] nilA rfl
    go_upto_region 6 with first | ((with_reducible refine lda ?_ G3.x4 ?_); (focus rfl)) | ((with_reducible refine stA (s := s) (bt := a.bt) (hi := a.hi) ?_ ?_ hz5 ?_ ?_); (focus rfl); (focus rfl); (focus rfl); intro w5 hB5 hg5)
    have b5 : Below w3.heap.size w3 w5 := (below_box w3 (.cells #[.slice none 0 0, .int .i64 0, .int .i64 0, .slice none 0 0, .slice none 0 0] 28)).grown hg5 (below_box w3 _).size (fun k hk => by cases hk; exact Nat.le_refl _)
    have n4 : w3.heap.size ≠ g4 := by have := G3.x4.lt; omega
    have n8 : w3.heap.size ≠ g8 := by have := G3.z8.lt; omega
    have l14 : w.heap.size ≤ w3.heap.size := G3.b.size
    have G5 := G3.below b5
    have A5 : AW w5 s zc ccs a := G5.v
    have O5 : Own w5 w.heap.size (.slice none 0 0) [] := Own.nil _ _
    obtain ⟨g14, hg14⟩ : ∃ g, w3.heap.size = g := ⟨_, rfl⟩
    rw [hg14] at hB5 n4 n8 l14 ⊢
    clear tg hz5 hg5 b5 hg14 G3
    go_wp2
    go_loopg [15, 16] M (fun gg v15 v16 wr => ∃ (i : Nat) (F : List Int) (s' : Sh) (zc' ccs' : List Value) (b : A), i + gg = M ∧ v16 = .int .i64 i ∧ F.length = i ∧ GM w g4 g5 g8 g9 B s zc ccs a o (.slice aV nl cV) rs wr ∧ Blk wr g14 28 (s'.cells b.bt b.hi) ∧ AW wr s' zc' ccs' b ∧ Own wr w.heap.size v15 F ∧ DG b o l F)
    case atStart => exact ⟨0, [], s, zc, ccs, a, by omega, rfl, rfl, G5, hB5, A5, O5, HD.out⟩
    case round =>
      clear G5 hB5 A5 O5 HD
      obtain ⟨i, F, s', zc', ccs', b, hi, rfl, hF, G6, X6, A6, O6, D6⟩ := hrel
      have HD := Lib.hid D6; have HF := Lib.hid hF; have HI := Lib.hid hi
      clear D6 hF
      cases gk with
      | zero =>
        obtain rfl : i = M := by omega
        have hin : ¬ i < i := by omega
        have hd := HD.out.done (n := m) n1 (by rw [HF.out]; exact HM.out.symm)
        obtain ⟨aF, cF, hvF, _, _, _, hIF⟩ := Sb.OwnI.ints (show Sb.OwnI wr w.heap.size u15 F from O6) HF.out
        subst hvF
        have HAL := Lib.hid (show Calls Tryz.prog 79 #[.agg (scC o (.slice aV nl cV)).toArray, .int .i64 m, .slice aF i cF] wr (fun e w' => ∃ V rs' v, e = .returned (.tuple #[.agg (scC o V).toArray, v, .int .i64 0]) ∧ Sb.OwnC w' wr.heap.size V rs' ∧ rs'.map Sb.sl = Go.Slb.after o l m F ∧ Sb.OwnI w' wr.heap.size v (Go.Slb.took o l m F) ∧ Below wr.heap.size wr w') from
          (Sb.alloc_19 o aV l nl cV m aF F i cF wr (HSL.out wr G6.c) HNL.out (by omega) (by omega) (by omega) hIF HF.out (by omega)).mono fun e w' h => by
            rw [hd.alloc] at h
            obtain ⟨V, rs', v, rfl, h1, h2, h3, h4⟩ := h
            exact ⟨V, rs', v, by simp [scC], h1, h2, h3, h4⟩)
        have HDN := Lib.hid hd
        clear hi hd hIF O6
        go_wp2_with ((with_reducible refine ldSC ?_ G6.x5 ?_); (focus rfl))
        refine HAL.out.mono ?_
        rintro e w7 ⟨V, rs', v, rfl, hC7, hs7, hI7, b7⟩
        obtain ⟨av, cv, rfl, _, _, _, _⟩ := Sb.OwnI.ints hI7 HDN.out.took_len
        have HV1 := hC7.one
        have G7 := G6.below b7
        have X7 := X6.later b7
        have A7 := A6.below b7
        have hC7 := hC7.weaken (Nat.le_trans hB G6.b.size)
        have hz20 := Blk.new w7 31 #[.int .i64 0, .slice none 0 0] (scC 0 (.slice none 0 0)) rfl
        have HS7 := Lib.hid hs7
        clear G6 X6 A6 hI7 b7 hs7 HAL hin
        go_upto_region 16 with ((with_reducible refine stSC (o := o) (V := V) ?_ ?_ hz20 rfl HV1 ?_); (focus rfl); (focus rfl); intro w8 hB8 hg8)
        have b8 : Below w7.heap.size w7 w8 := (below_box w7 (.cells #[.int .i64 0, .slice none 0 0] 31)).grown hg8 (below_box w7 _).size (fun k hk => by cases hk; exact Nat.le_refl _)
        have G8 := G7.below b8
        have XA := X7.later b8
        have XC := hB8
        have AV := A7.below b8
        have CV' := hC7.later b8
        have ZA := G8.z8; have ZC := G8.z9; have BW := G8.b; have l8 := G8.l8; have l9 := G8.l9
        have nC : w7.heap.size ≠ g9 := by have := G7.z9.lt; omega
        have nA := n8
        have HG := Lib.hid (HDN.out)
        obtain ⟨q1, q2, q3⟩ := HD.out.grown HDN.out
        rw [← HS7.out] at q1 q2 q3
        have HQ1 := Lib.hid q1
        have HGR := Lib.hid (show Grew o l m (rs'.map Sb.sl) from .inr ⟨by rw [HNL.out, HM.out]; exact HLT.out, q2, by rw [q3, HM.out, HF.out, Int.natCast_add]⟩)
        obtain ⟨g20, hg20⟩ : ∃ g, w7.heap.size = g := ⟨_, rfl⟩
        rw [hg20] at XC nC ⊢
        clear q1 q2 q3 hz20 hB8 hg8 b8 G7 G8 X7 A7 hC7 hg20
        refine wp_region_plan (fun U => Blk U g14 28 (s'.cells b.bt b.hi) ∧ Blk U g20 31 (scC o V)) (.quiet [0, 1, 2, 3, 4, 5, 6, 7, 8, 9] (.only 10 (.only 11 (.quiet [12] .done)))) 99 (by kernel_rfl) (by kernel_rfl) ⟨XA.later (Below.refl _ _).drew, XC.later (Below.refl _ _).drew⟩ ?_
        intro W hW hWe
        have bD : Below w8.heap.size w8 W := by rw [hWe]; exact (Below.refl _ _).drew
        replace XA := XA.later bD; replace XC := XC.later bD; replace ZA := ZA.later bD; replace ZC := ZC.later bD; replace AV := AV.below bD; replace CV' := CV'.later bD; replace BW := below_then BW bD
        clear hWe bD
        simp only [wpPlan, inOrder, List.filterMap_cons, List.filterMap_nil, List.getElem?_cons_zero, List.getElem?_cons_succ]
        show wpQuiet _ _ _ _ (_ :: _ :: _ :: _ :: _ :: _ :: _ :: _ :: _ :: [_]) _
        refine ldQA infoA rfl rfl (fun U ⟨z, hz⟩ => by rw [hz]; exact (hold_ok (S0 := fun U => Blk U g14 28 (s'.cells b.bt b.hi) ∧ Blk U g20 31 (scC o V)) hW z).1) ?_
        simp only [Act.put, List.setIfInBounds_toArray, List.set_cons_succ, List.set_cons_zero]
        refine ldQC infoSC rfl rfl (fun U ⟨z, hz⟩ => by rw [hz]; exact (hold_ok (S0 := fun U => Blk U g14 28 (s'.cells b.bt b.hi) ∧ Blk U g20 31 (scC o V)) hW z).2) ?_
        simp only [Act.put, List.setIfInBounds_toArray, List.set_cons_succ, List.set_cons_zero]
        repeat (go_big_quiet_step (fail))
        refine wpQuiet_nil ?_
        show wpList _ _ _ [_] _ _
        go_wp2_with ((with_reducible refine stA (s := s') (bt := b.bt) (hi := b.hi) ?_ ?_ ZA rfl ?_); (focus rfl); (focus rfl); intro w6 hB6 hg6)
        have kp : ∀ {q t : Nat} {bs : List Value}, t ≠ 28 → Blk W q t bs → Blk w6 q t bs := fun ht hq => hq.grown hg6 (by simpa using ZA.ne_type hq (Ne.symm ht))
        replace XA := XA.grown hg6 (by simpa using Ne.symm nA)
        replace XC := kp (by decide) XC
        replace ZC := kp (by decide) ZC
        replace AV := AV.past (kp (by decide) AV.q.x) (kp (by decide) AV.c.x) (fun _ _ => kp (by decide)) (fun _ _ => kp (by decide))
        replace CV' := CV'.past ZA (by decide) (by decide) hg6
        replace BW := BW.grown hg6 BW.size (fun q hq => by cases hq; exact l8)
        refine ⟨hold_of (S0 := fun U => Blk U g14 28 (s'.cells b.bt b.hi) ∧ Blk U g20 31 (scC o V)) ⟨XA, XC⟩, ?_⟩
        show wpList _ _ _ [_] _ _
        go_wp2_with ((with_reducible refine stSC (o := o) (V := V) ?_ ?_ ZC rfl HV1 ?_); (focus rfl); (focus rfl); intro w7 hB7 hg7)
        have kq : ∀ {q t : Nat} {bs : List Value}, t ≠ 31 → Blk w6 q t bs → Blk w7 q t bs := fun ht hq => hq.grown hg7 (by simpa using ZC.ne_type hq (Ne.symm ht))
        replace XA := kq (by decide) XA
        replace XC := XC.grown hg7 (by simpa using Ne.symm nC)
        have hB8 := kq (by decide) hB6
        replace AV := AV.past (kq (by decide) AV.q.x) (kq (by decide) AV.c.x) (fun _ _ => kq (by decide)) (fun _ _ => kq (by decide))
        replace CV' := CV'.past ZC (by decide) (by decide) hg7
        replace BW := BW.grown hg7 BW.size (fun q hq => by cases hq; exact l9)
        refine ⟨hold_of (S0 := fun U => Blk U g14 28 (s'.cells b.bt b.hi) ∧ Blk U g20 31 (scC o V)) ⟨XA, XC⟩, ?_⟩
        show wpQuiet _ _ _ _ [_] _
        simp only [Act.put]
        repeat (go_big_quiet_step (fail))
        refine wpQuiet_nil ?_
        refine NoPanic.normal ?_
        clear kp kq XA XC ZA ZC hB6 hg6 hg7 hW
        go_wp2
        refine bodyPost_ret (resS rfl _ _ g8 g9 _ _ _ rfl rfl hB8 rfl hB7 rfl rfl) rfl ?_
        exact ⟨s', zc', ccs', b, V, rs', rfl, AV, CV', HQ1.out, BW, by rw [HL.out]; exact HGR.out⟩
      | succ gg =>
        have hin : i < M := by omega
        have h20 : i < 20 := by omega
        have hnl14 : (l.length : Int) + (F.length : Int) < 14 := by rw [HNL.out, HF.out]; have := HLT.out; omega
        have HAL := Lib.hid (allocA (.agg (s'.cells b.bt b.hi).toArray) b c true false wr ⟨s', zc', ccs', rfl, A6⟩ HD.out.v (by rw [HD.out.s.nc]; exact hc))
        have HFI := Lib.hid (HD.out.find hnl14 c)
        clear hi hnl14
        go_wp2_with ((with_reducible refine lda ?_ X6 ?_); (focus rfl))
        refine HAL.out.mono ?_
        rintro e w7 (⟨z, v, x, d, hp, _, rfl, ⟨s7, zc7, ccs7, rfl, A7, F7⟩, hless, b7, _⟩ | ⟨hp, _, _⟩)
        case inr => exact absurd hp HFI.out
        have hz0 := HD.out.s.pick hp
        subst hz0
        have HDT := Lib.hid (HD.out.take hless)
        have HOL := Lib.hid (fun k hk => (World.ownsRow.lt O6 k hk).2)
        have G7 := G6.below b7
        have X7 := X6.later b7
        have O7 := O6.later b7
        have n14 : w7.heap.size ≠ g14 := by have := X7.lt; omega
        have hz17 := Blk.new w7 28 #[.slice none 0 0, .int .i64 0, .int .i64 0, .slice none 0 0, .slice none 0 0] nilA rfl
        clear G6 X6 A6 O6 b7 hp hless HAL HFI
        go_upto_region 11 with ((with_reducible refine stA (s := s7) (bt := d.bt) (hi := d.hi) ?_ ?_ hz17 ?_ ?_); (focus rfl); (focus rfl); (focus rfl); intro w8 hB8 hg8)
        have b8 : Below w7.heap.size w7 w8 := (below_box w7 (.cells #[.slice none 0 0, .int .i64 0, .int .i64 0, .slice none 0 0, .slice none 0 0] 28)).grown hg8 (below_box w7 _).size (fun k hk => by cases hk; exact Nat.le_refl _)
        have G8 := G7.below b8
        have X8 := X7.later b8
        have O8 := O7.later b8
        have A8 := A7.below b8
        have F8 := F7.below b8
        clear hz17 hg8 b8 G7 X7 O7 A7 F7
        go_upto_region 14 with first | ((with_reducible refine lda ?_ hB8 ?_); (focus rfl)) | ((with_reducible refine stA (s := s7) (bt := d.bt) (hi := d.hi) ?_ ?_ X8 ?_ ?_); (focus rfl); (focus rfl); (focus rfl); intro w9 hB9 hg9)
        have kp : ∀ {q t : Nat} {bs : List Value}, t ≠ 28 → Blk w8 q t bs → Blk w9 q t bs := fun ht hq => hq.grown hg9 (by simpa using X8.ne_type hq (Ne.symm ht))
        have G9 := G8.aset X8 n4 n8 l14 hg9
        have A9 := A8.past (kp (by decide) A8.q.x) (kp (by decide) A8.c.x) (fun _ _ => kp (by decide)) (fun _ _ => kp (by decide))
        have F9 := F8.past fun _ _ => kp (by decide)
        have O9 := O8.kept hg9 (.inr (X8.not_own O8 (by decide)))
        have bN := below_box w9 (.cells #[.int .i64 x] 3)
        have G10 := G9.below bN
        have A10 := A9.below bN
        have F10 := F9.below bN
        have O10 := O9.later bN
        have X10 := hB9.later bN
        have hB10 := Blk.new w9 3 #[.int .i64 x] [.int .i64 x] rfl
        have hb10 := G10.b.size
        have hl10 : F.length ≤ 900000 := by rw [HF.out]; omega
        clear kp hB8 hB9 hg9 bN G8 X8 O8 A8 F8 G9 A9 F9 O9 n14
        go_wp2_with ((with_reducible refine wpList_app1 (base := w.heap.size) (b := w9.heap.size) (x := x) ?_ ?_ O10 hB10 hl10 hb10 ?_); (focus rfl); (focus rfl); intro v11 w11 O11 hg11)
        have b11 := G10.b.grown hg11 G10.b.size (fun k hk => (World.ownsRow.lt O10 k hk).1)
        have A11 := A10.late F10 (W' := w11) fun q t bs ht hq => by
          rcases ht with ht | ht
          · exact hq.grown hg11 (hq.not_own O10 (Ne.symm ht))
          · exact hq.grown hg11 fun e => absurd (HOL.out q e) (by omega)
        have G11 := G10.own O10 hg11 (HA.out.below b11)
        have X11 := X10.grown hg11 (X10.not_own O10 (by decide))
        clear G10 A10 F10 O10 X10 hB10 hb10 hl10 hg11 b11 HOL
        go_roundg gg
        case rel => exact ⟨i + 1, F ++ [x], s7, zc7, ccs7, d, by have := HI.out; omega, by go_num, by rw [List.length_append, HF.out]; rfl, G11, X11, A11, O11, HDT.out⟩
        case measure => omega
end Go.Proofs.YtdddkfpcbfgocaaGreat
namespace Go.Zn
open Go.Slb
/-- What is known of a cache while operations go on. -/
structure SSteps (o : Int) (os : List (Int × Int)) (P : Nat → List S → Prop) : Prop where
  start : P 0 []
  grow : ∀ (i : Nat) (x y : Int) (l l' : List S), os[i]? = some (x, y) → 0 < x → P i l → Ok o l → Ok o l' → Grew o l (1 + x % 9) l' → P (i + 1) l'
  idle : ∀ (i : Nat) (x y : Int) (l : List S), os[i]? = some (x, y) → ¬ 0 < x → P i l → Ok o l → objs o true l = [] → P (i + 1) l
  free : ∀ (i : Nat) (x y : Int) (l : List S) (n k : Nat) (q : Int), os[i]? = some (x, y) → ¬ 0 < x → P i l → Ok o l → (objs o true l).length = n → y % n = k → (objs o true l)[k]? = some q → P (i + 1) (freeL o l q)
end Go.Zn
namespace Go.Proofs.YtdddkfpcbfgocaaGreat
open Go.RowKit Go.Over Go.Zn Go.Can Go.Seg Go.Grow
def SOps (w : World) (a : Option Addr) (l : List (Int × Int)) : Prop := 0 < l.length → ∃ b off, a = some ⟨b, off, none⟩ ∧ ∀ (i : Nat) (x y : Int), l[i]? = some (x, y) →
  w.cell? ⟨b, off + i * 2, none⟩ = some (.int .u8 x) ∧ w.cell? ⟨b, off + i * 2 + 1, none⟩ = some (.int .u8 y) ∧ (0 ≤ x ∧ x < 256) ∧ (0 ≤ y ∧ y < 256)
theorem SOps.below {w w' : World} {a : Option Addr} {l : List (Int × Int)} (h : SOps w a l) (hb : Below w.heap.size w w') : SOps w' a l := fun h0 => by
  obtain ⟨b, off, ha, hc⟩ := h h0
  refine ⟨b, off, ha, fun i x y hx => ?_⟩
  obtain ⟨c0, c1, hr⟩ := hc i x y hx
  exact ⟨cell_later hb c0, cell_later hb c1, hr⟩
section
variable {w W W' : World} {g4 g5 g8 g9 B : Nat} {s s' : Sh} {zc ccs zc' ccs' : List Value} {a a' : A} {o : Int} {V V' : Value} {rs rs' : List Sb.R}
/-- The allocator is another. -/
theorem GM.aput (h : GM w g4 g5 g8 g9 B s zc ccs a o V rs W) (hB : Blk W' g4 28 (s'.cells a'.bt a'.hi)) (hv : AW W s' zc' ccs' a') (hg : W.grownBy W' (some g4)) : GM w g4 g5 g8 g9 B s' zc' ccs' a' o V rs W' := by
  have kp : ∀ {q t : Nat} {bs : List Value}, t ≠ 28 → Blk W q t bs → Blk W' q t bs := fun ht hq => hq.grown hg (by simpa using h.x4.ne_type hq (Ne.symm ht))
  exact ⟨h.b.grown hg h.b.size (fun q hq => by cases hq; exact h.l4), h.l4, h.l5, h.l8, h.l9, h.n48, h.n59, hB, kp (by decide) h.x5, h.z8.grown hg (by simpa using h.n48), kp (by decide) h.z9, hv.past (kp (by decide) hv.q.x) (kp (by decide) hv.c.x) (fun _ _ => kp (by decide)) (fun _ _ => kp (by decide)), h.c.past h.x4 (by decide) (by decide) hg⟩
/-- The cache is another. -/
theorem GM.cput (h : GM w g4 g5 g8 g9 B s zc ccs a o V rs W) (hB : Blk W' g5 31 (scC o V')) (hc : Sb.OwnC W B V' rs') (hg : W.grownBy W' (some g5)) : GM w g4 g5 g8 g9 B s zc ccs a o V' rs' W' := by
  have kp : ∀ {q t : Nat} {bs : List Value}, t ≠ 31 → Blk W q t bs → Blk W' q t bs := fun ht hq => hq.grown hg (by simpa using h.x5.ne_type hq (Ne.symm ht))
  exact ⟨h.b.grown hg h.b.size (fun q hq => by cases hq; exact h.l5), h.l4, h.l5, h.l8, h.l9, h.n48, h.n59, kp (by decide) h.x4, hB, kp (by decide) h.z8, h.z9.grown hg (by simpa using h.n59), h.v.past (kp (by decide) h.v.q.x) (kp (by decide) h.v.c.x) (fun _ _ => kp (by decide)) (fun _ _ => kp (by decide)), hc.past h.x5 (by decide) (by decide) hg⟩
/-- Another variable for a cache changes. -/
theorem GM.cset {g : Nat} {cs : List Value} (h : GM w g4 g5 g8 g9 B s zc ccs a o V rs W) (hB : Blk W g 31 cs) (h5 : g ≠ g5) (h9 : g ≠ g9) (hl : w.heap.size ≤ g) (hg : W.grownBy W' (some g)) : GM w g4 g5 g8 g9 B s zc ccs a o V rs W' := by
  have kp : ∀ {q t : Nat} {bs : List Value}, t ≠ 31 → Blk W q t bs → Blk W' q t bs := fun ht hq => hq.grown hg (by simpa using hB.ne_type hq (Ne.symm ht))
  exact ⟨h.b.grown hg h.b.size (fun q hq => by cases hq; exact hl), h.l4, h.l5, h.l8, h.l9, h.n48, h.n59, kp (by decide) h.x4, h.x5.grown hg (by simpa using h5), kp (by decide) h.z8, h.z9.grown hg (by simpa using h9), h.v.past (kp (by decide) h.v.q.x) (kp (by decide) h.v.c.x) (fun _ _ => kp (by decide)) (fun _ _ => kp (by decide)), h.c.past hB (by decide) (by decide) hg⟩
/-- A step of an allocator and a cache that are not yet in the variables. -/
structure Nx (o : Int) (l : List Go.Slb.S) (N : Int) (g12 g13 B : Nat) (W : World) : Prop where
  h : ∃ (s' : Sh) (zc' ccs' : List Value) (a' : A) (V' : Value) (rs' : List Sb.R), Blk W g12 28 (s'.cells a'.bt a'.hi) ∧ Blk W g13 31 (scC o V') ∧ AW W s' zc' ccs' a' ∧ Sb.OwnC W B V' rs' ∧ DG a' o (rs'.map Sb.sl) [] ∧ Grew o l N (rs'.map Sb.sl)
end
end Go.Proofs.YtdddkfpcbfgocaaGreat
namespace Go.Proofs.YtdddkfpcbfgocaaGreat
open Go.ChangeShapes Go.WideShapes Go.ChangeAt Go.RowKit Go.Lift Go.Grow Go.Over Go.Zn
theorem own : ownKnob Tryz.prog.godebug = none := by kernel_rfl
theorem laidOut : laidOutB Tryz.prog = true := by kernel_rfl
theorem cells5 : Tryz.prog.cellsOf 5 = 1 := by kernel_rfl
theorem cells79 : Tryz.prog.cellsOf 79 = 2 := by kernel_rfl
theorem u8_wf {x : Int} (h : (Lit.int .u8 x).wf = true) : 0 ≤ x ∧ x < 256 := by
  simp [Lit.wf, IntKind.min, IntKind.max, IntKind.bits, IntKind.signed] at h
  omega
theorem list_such {β : Type} {Q : Nat → β → Prop} : ∀ (n : Nat), (∀ i, i < n → ∃ x, Q i x) → ∃ l : List β, l.length = n ∧ ∀ i x, l[i]? = some x → Q i x
  | 0, _ => ⟨[], rfl, fun i x h => by simp at h⟩
  | n + 1, h => by
    obtain ⟨l, hl, hq⟩ := list_such n fun i hi => h i (by omega)
    obtain ⟨x, hx⟩ := h n (by omega)
    refine ⟨l ++ [x], by simp [hl], fun i y hy => ?_⟩
    rcases Nat.lt_or_ge i n with hi | hi
    · rw [List.getElem?_append_left (by omega)] at hy
      exact hq i y hy
    · rw [List.getElem?_append_right (by omega), hl] at hy
      have e : i - n = 0 := by
        rw [List.getElem?_eq_some_iff] at hy
        obtain ⟨h1, _⟩ := hy
        simp at h1; omega
      rw [e] at hy
      simp at hy
      subst hy
      have : i = n := by omega
      subst this; exact hx
theorem list2_of {α : Type} {l : List α} {x y : α} (h : l.length = 2) (h0 : (l.drop 0).take 1 = [x]) (h1 : (l.drop 1).take 1 = [y]) : l = [x, y] := by
  match l, h with
  | [a, b], _ => simp at h0 h1; simp [h0, h1]
section
variable {W : World} {v : Value}
theorem spot_none {a : Addr} {u : Value} (h : W.cell? (a.add 0) = some u) : ∃ b off, a = ⟨b, off, none⟩ := by
  obtain ⟨b, off, spot⟩ := a
  have hspot : spot = none := by simpa [Addr.add] using World.cell?_spot h
  subst hspot
  exact ⟨b, off, rfl⟩
set_option maxRecDepth 100000 in
theorem arg_sops (hv : ∃ base, Value.okWide Tryz.prog W .any base 22 v) (hr : Rd Tryz.prog W 22 v.cells.toList) : ∃ a l n c, v = .slice a n c ∧ SOps W a l ∧ l.length = n := by
  obtain ⟨_, hv⟩ := hv
  obtain ⟨a, n, c, rfl⟩ := okWide_slice Tryz.underlying22 hv
  rcases hr.slice Tryz.underlying22 with h | ⟨a', n', c', h, hn, hm, hi⟩
  · simp [Value.cells] at h
    obtain ⟨rfl, rfl, rfl⟩ := h
    exact ⟨_, [], _, _, rfl, fun h => absurd h (by simp), rfl⟩
  · simp [Value.cells] at h
    obtain ⟨rfl, rfl, rfl⟩ := h
    obtain ⟨l, hl, hq⟩ := list_such (Q := fun i (p : Int × Int) => (W.cell? ((a'.add (i * 2)).add 0) = some (.int .u8 p.1) ∧ W.cell? ((a'.add (i * 2)).add 1) = some (.int .u8 p.2)) ∧ (0 ≤ p.1 ∧ p.1 < 256) ∧ (0 ≤ p.2 ∧ p.2 < 256)) n fun i hi' => by
      obtain ⟨cs', h1, h2, h3⟩ := hi i (by omega)
      rw [cells79] at h1 h2
      obtain ⟨hl, hf⟩ := h3.struct Tryz.underlying79
      obtain ⟨x, hx, wx⟩ := (show Rd Tryz.prog W 5 ((cs'.drop 0).take (Tryz.prog.cellsOf 5)) from hf 0 _ rfl).int Tryz.underlying5
      obtain ⟨y, hy, wy⟩ := (show Rd Tryz.prog W 5 ((cs'.drop 1).take (Tryz.prog.cellsOf 5)) from hf 1 _ rfl).int Tryz.underlying5
      rw [cells5] at hx hy
      have e := list2_of h1 hx hy
      subst e
      exact ⟨⟨x, y⟩, ⟨h2 0 (by omega), h2 1 (by omega)⟩, u8_wf wx, u8_wf wy⟩
    subst hl
    refine ⟨some a', l, _, c, rfl, fun h0 => ?_, rfl⟩
    have hc0 := (hq 0 _ (List.getElem?_eq_getElem h0)).1.1
    rw [show (a'.add (0 * 2)).add 0 = a'.add 0 by simp [Addr.add]] at hc0
    obtain ⟨b, off, rfl⟩ := spot_none hc0
    refine ⟨b, off, rfl, fun i x y hp => ?_⟩
    obtain ⟨⟨h1, h2⟩, hr⟩ := hq i (x, y) hp
    rw [add_row, add_row] at h1 h2
    exact ⟨h1, h2, hr⟩
set_option maxRecDepth 100000 in
theorem arg_u8 (hv : ∃ base, Value.okWide Tryz.prog W .any base 5 v) (hr : Rd Tryz.prog W 5 v.cells.toList) : ∃ n, v = .int .u8 n ∧ 0 ≤ n ∧ n < 256 := by
  obtain ⟨_, hv⟩ := hv
  obtain ⟨n, rfl⟩ := okWide_int Tryz.underlying5 hv
  obtain ⟨m, h, wm⟩ := hr.int Tryz.underlying5
  simp [Value.cells] at h
  subst h
  exact ⟨_, rfl, u8_wf wm⟩
end
end Go.Proofs.YtdddkfpcbfgocaaGreat
namespace Go.Proofs.YtdddkfpcbfgocaaGreat
open Go.RowKit Go.Over Go.Zn Go.Can Go.Seg Go.Grow
/-- What is read while the cache grows. -/
def S9 (gA gC : Nat) (cs ds : List Value) (bo k : Nat) (x : Int) (U : World) : Prop := Blk U gA 28 cs ∧ Blk U gC 31 ds ∧ U.cell? ⟨bo, k, none⟩ = some (.int .u8 x)
/-- What is read while an object is freed. -/
def S15 (gC : Nat) (ds : List Value) (bo k : Nat) (y : Int) (vb vk : Nat) (q : Int) (U : World) : Prop := Blk U gC 31 ds ∧ U.cell? ⟨bo, k, none⟩ = some (.int .u8 y) ∧ U.cell? ⟨vb, vk, none⟩ = some (.int .i64 q)
/-- What the operations give. -/
def SlabsQ (w : World) (o : Int) (n : Nat) (P : Nat → List Go.Slb.S → Prop) (e : Ending) (w' : World) : Prop :=
  ∃ (s : Sh) (zc ccs : List Value) (a : A) (V : Value) (rs : List Sb.R), e = .returned (.tuple #[.agg (s.cells a.bt a.hi).toArray, .agg (scC o V).toArray, .bool true]) ∧ AW w' s zc ccs a ∧ Sb.OwnC w' w.heap.size V rs ∧ DG a o (rs.map Sb.sl) [] ∧ Below w.heap.size w w' ∧ P n (rs.map Sb.sl)
set_option maxRecDepth 100000 in set_option maxHeartbeats 3200000 in
theorem dslabs (o : Int) (P : Nat → List Go.Slb.S → Prop) (oa : Option Addr) (os : List (Int × Int)) (n c : Nat) (w : World) (hO : SOps w oa os) (hn : os.length = n) (hP : SSteps o os P) (o1 : 1 ≤ o) (o2 : o ≤ 32) (h40 : n ≤ 40) :
    Calls Tryz.prog 8 #[.slice oa n c, .int .i64 o] w (SlabsQ w o n P) := by
  have b1 := below_then (below_box w (.cells #[.slice none 0 0, .int .i64 0, .int .i64 0, .slice none 0 0, .slice none 0 0] 28)) (below_box (w.alloc (.cells #[.slice none 0 0, .int .i64 0, .int .i64 0, .slice none 0 0, .slice none 0 0] 28)) (.cells #[.int .i64 0, .slice none 0 0] 31))
  have z8 := (Blk.new w 28 #[.slice none 0 0, .int .i64 0, .int .i64 0, .slice none 0 0, .slice none 0 0] nilA rfl).later (below_box (w.alloc (.cells #[.slice none 0 0, .int .i64 0, .int .i64 0, .slice none 0 0, .slice none 0 0] 28)) (.cells #[.int .i64 0, .slice none 0 0] 31))
  have z9 := Blk.new (w.alloc (.cells #[.slice none 0 0, .int .i64 0, .int .i64 0, .slice none 0 0, .slice none 0 0] 28)) 31 #[.int .i64 0, .slice none 0 0] (scC 0 (.slice none 0 0)) rfl
  have hs1 : (w.alloc (.cells #[.slice none 0 0, .int .i64 0, .int .i64 0, .slice none 0 0, .slice none 0 0] 28)).heap.size = w.heap.size + 1 := by simp
  rw [hs1] at z9
  have HO := Lib.hid hO; have HN := Lib.hid hn; have HP := Lib.hid hP
  clear hO hn hP hs1
  go_enter Tryz.func8, Tryz.ntmps8
  go_upto_region 1 with fail
  obtain ⟨w1, hw1⟩ : ∃ W, W = (w.alloc (.cells #[.slice none 0 0, .int .i64 0, .int .i64 0, .slice none 0 0, .slice none 0 0] 28)).alloc (.cells #[.int .i64 0, .slice none 0 0] 31) := ⟨_, rfl⟩
  rw [← hw1] at b1 z8 z9 ⊢
  have l9 : w.heap.size ≤ w.heap.size + 1 := by omega
  have l8 : w.heap.size ≤ w.heap.size := Nat.le_refl _
  obtain ⟨g9, hg9⟩ : ∃ g, w.heap.size + 1 = g := ⟨_, rfl⟩
  rw [hg9] at z9 l9 ⊢
  obtain ⟨g8, hg8⟩ : ∃ g, w.heap.size = g := ⟨_, rfl⟩
  have z8 : Blk w1 g8 28 nilA := by rw [← hg8]; exact z8
  have l8 : w.heap.size ≤ g8 := by omega
  rw [hg8]
  clear hw1 hg9 hg8
  have HS := Lib.hid (sl_two w1 0 1)
  have bs := below_box w1 (.cells #[.int .i64 0, .int .i64 1] 3)
  go_wp2_with fail
  refine (dzones (w1.alloc (.cells #[.int .i64 0, .int .i64 1] 3))).mono ?_
  rintro e w2 ⟨gz, pc, rfl, hSV, b2⟩
  have HS2 := Lib.hid (HS.out.below b2)
  have B2 := below_then (below_then b1 bs) b2
  replace z8 := (z8.later bs).later b2
  replace z9 := (z9.later bs).later b2
  clear b1 bs b2 HS
  go_wp2_with fail
  refine ((newA _ [0, 1] 2 3 gz 2 2 pc [dp0, dp1] w2 HS2.out (by decide) (by decide) (by decide) (by decide) (by decide) (by decide) hSV rfl ps_D).mono fun e w' h => NewQ.d h).mono ?_
  rintro e w3 ⟨_, a, rfl, ⟨s, zc, ccs, rfl, hA⟩, hV, hsh, b3, hfr, _⟩
  have HD := Lib.hid (NewD.dg hV hsh hfr o1 o2)
  replace B2 := below_then B2 b3
  replace z8 := z8.later b3
  replace z9 := z9.later b3
  have hz := Blk.new w3 28 #[.slice none 0 0, .int .i64 0, .int .i64 0, .slice none 0 0, .slice none 0 0] nilA rfl
  clear hSV hV hsh b3 hfr HS2
  go_upto_region 2 with ((with_reducible refine stA (s := s) (bt := a.bt) (hi := a.hi) ?_ ?_ hz rfl ?_); (focus rfl); (focus rfl); intro w4 hB4 hg4)
  have b4 : Below w3.heap.size w3 w4 := (below_box w3 (.cells #[.slice none 0 0, .int .i64 0, .int .i64 0, .slice none 0 0, .slice none 0 0] 28)).grown hg4 (below_box w3 _).size (fun k hk => by cases hk; exact Nat.le_refl _)
  have lA : w.heap.size ≤ w3.heap.size := B2.size
  have nA : w3.heap.size ≠ g8 := by have := z8.lt; omega
  replace z8 := z8.later b4
  replace z9 := z9.later b4
  replace hA := hA.below b4
  replace B2 := below_then B2 b4
  obtain ⟨gA, hgA⟩ : ∃ g, w3.heap.size = g := ⟨_, rfl⟩
  rw [hgA] at hB4 lA nA ⊢
  clear hz hg4 b4 hgA
  have HNW := Lib.hid (show Calls Tryz.prog 30 #[.int .i64 o] w4 (fun e w' => e = .returned (.tuple #[.agg (scC o (.slice none 0 0)).toArray, .int .i64 0]) ∧ Below w4.heap.size w4 w') from
    (Sb.new_30 o w4).mono fun e w' h => by
      rw [if_neg (by omega), if_neg (by omega)] at h
      exact h)
  go_wp2_with fail
  refine HNW.out.mono ?_
  rintro e w5 ⟨rfl, b5⟩
  have hz := Blk.new w5 31 #[.int .i64 0, .slice none 0 0] (scC 0 (.slice none 0 0)) rfl
  replace z8 := z8.later b5
  replace z9 := z9.later b5
  replace hA := hA.below b5
  replace B2 := below_then B2 b5
  replace hB4 := hB4.later b5
  clear b5 HNW
  go_upto_region 3 with ((with_reducible refine stSC (o := o) (V := .slice none 0 0) ?_ ?_ hz rfl rfl ?_); (focus rfl); (focus rfl); intro w6 hB6 hg6)
  have b6 : Below w5.heap.size w5 w6 := (below_box w5 (.cells #[.int .i64 0, .slice none 0 0] 31)).grown hg6 (below_box w5 _).size (fun k hk => by cases hk; exact Nat.le_refl _)
  have lC : w.heap.size ≤ w5.heap.size := B2.size
  have nC : w5.heap.size ≠ g9 := by have := z9.lt; omega
  have G6 : GM w gA w5.heap.size g8 g9 w.heap.size s zc ccs a o (.slice none 0 0) [] w6 := ⟨below_then B2 b6, lA, lC, l8, l9, nA, nC, hB4.later b6, hB6, z8.later b6, z9.later b6, hA.below b6, Sb.OwnC.nil _ _⟩
  obtain ⟨gC, hgC⟩ : ∃ g, w5.heap.size = g := ⟨_, rfl⟩
  rw [hgC] at G6 ⊢
  clear hz hg6 b6 hgC z8 z9 hA B2 hB4 hB6 lA lC nA nC l8 l9
  go_wp2
  go_loopg [11] n (fun gg v11 wr => ∃ (i : Nat) (s : Sh) (zc ccs : List Value) (a : A) (V : Value) (rs : List Sb.R), i + gg = n ∧ v11 = .int .i64 i ∧ GM w gA gC g8 g9 w.heap.size s zc ccs a o V rs wr ∧ DG a o (rs.map Sb.sl) [] ∧ P i (rs.map Sb.sl))
  case atStart => exact ⟨0, s, zc, ccs, a, _, [], by omega, rfl, G6, HD.out, HP.out.start⟩
  case round =>
    clear G6 HD
    obtain ⟨i, s, zc, ccs, a, V, rs, hi, rfl, G7, hd, hp⟩ := hrel
    have HD := Lib.hid hd; have HPI := Lib.hid hp
    clear hd hp
    cases gk with
    | zero =>
      obtain rfl : i = n := by omega
      have hin : ¬ i < i := by omega
      clear hi
      go_upto_region 23 with fail
      have XA := G7.x4; have XC := G7.x5; have ZA := G7.z8; have ZC := G7.z9; have AV := G7.v; have CV' := G7.c; have BW := G7.b; have nA := G7.n48; have nC := G7.n59; have l8 := G7.l8; have l9 := G7.l9; have HV1 := G7.c.one
      clear G7
      refine wp_region_plan (fun U => Blk U gA 28 (s.cells a.bt a.hi) ∧ Blk U gC 31 (scC o V)) (.quiet [0, 1] (.only 2 (.only 3 (.quiet [4] .done)))) 99 (by kernel_rfl) (by kernel_rfl) ⟨XA.later (Below.refl _ _).drew, XC.later (Below.refl _ _).drew⟩ ?_
      intro W hW hWe
      have bD : Below wr.heap.size wr W := by rw [hWe]; exact (Below.refl _ _).drew
      replace XA := XA.later bD; replace XC := XC.later bD; replace ZA := ZA.later bD; replace ZC := ZC.later bD; replace AV := AV.below bD; replace CV' := CV'.later bD; replace BW := below_then BW bD
      clear hWe bD
      simp only [wpPlan, inOrder, List.filterMap_cons, List.filterMap_nil, List.getElem?_cons_zero, List.getElem?_cons_succ]
      show wpQuiet _ _ _ _ (_ :: [_]) _
      refine ldQA infoA rfl rfl (fun U ⟨z, hz⟩ => by rw [hz]; exact (hold_ok (S0 := fun U => Blk U gA 28 (s.cells a.bt a.hi) ∧ Blk U gC 31 (scC o V)) hW z).1) ?_
      simp only [Act.put, List.setIfInBounds_toArray, List.set_cons_succ, List.set_cons_zero]
      refine ldQC infoSC rfl rfl (fun U ⟨z, hz⟩ => by rw [hz]; exact (hold_ok (S0 := fun U => Blk U gA 28 (s.cells a.bt a.hi) ∧ Blk U gC 31 (scC o V)) hW z).2) ?_
      simp only [Act.put, List.setIfInBounds_toArray, List.set_cons_succ, List.set_cons_zero]
      repeat (go_big_quiet_step (fail))
      refine wpQuiet_nil ?_
      show wpList _ _ _ [_] _ _
      go_wp2_with ((with_reducible refine stA (s := s) (bt := a.bt) (hi := a.hi) ?_ ?_ ZA rfl ?_); (focus rfl); (focus rfl); intro w6 hB6 hg6)
      have kp : ∀ {q t : Nat} {bs : List Value}, t ≠ 28 → Blk W q t bs → Blk w6 q t bs := fun ht hq => hq.grown hg6 (by simpa using ZA.ne_type hq (Ne.symm ht))
      replace XA := XA.grown hg6 (by simpa using Ne.symm nA)
      replace XC := kp (by decide) XC
      replace ZC := kp (by decide) ZC
      replace AV := AV.past (kp (by decide) AV.q.x) (kp (by decide) AV.c.x) (fun _ _ => kp (by decide)) (fun _ _ => kp (by decide))
      replace CV' := CV'.past ZA (by decide) (by decide) hg6
      replace BW := BW.grown hg6 BW.size (fun q hq => by cases hq; exact l8)
      refine ⟨hold_of (S0 := fun U => Blk U gA 28 (s.cells a.bt a.hi) ∧ Blk U gC 31 (scC o V)) ⟨XA, XC⟩, ?_⟩
      show wpList _ _ _ [_] _ _
      go_wp2_with ((with_reducible refine stSC (o := o) (V := V) ?_ ?_ ZC rfl HV1 ?_); (focus rfl); (focus rfl); intro w7 hB7 hg7)
      have kq : ∀ {q t : Nat} {bs : List Value}, t ≠ 31 → Blk w6 q t bs → Blk w7 q t bs := fun ht hq => hq.grown hg7 (by simpa using ZC.ne_type hq (Ne.symm ht))
      replace XA := kq (by decide) XA
      replace XC := XC.grown hg7 (by simpa using Ne.symm nC)
      have hB8 := kq (by decide) hB6
      replace AV := AV.past (kq (by decide) AV.q.x) (kq (by decide) AV.c.x) (fun _ _ => kq (by decide)) (fun _ _ => kq (by decide))
      replace CV' := CV'.past ZC (by decide) (by decide) hg7
      replace BW := BW.grown hg7 BW.size (fun q hq => by cases hq; exact l9)
      refine ⟨hold_of (S0 := fun U => Blk U gA 28 (s.cells a.bt a.hi) ∧ Blk U gC 31 (scC o V)) ⟨XA, XC⟩, ?_⟩
      show wpQuiet _ _ _ _ [_] _
      simp only [Act.put]
      repeat (go_big_quiet_step (fail))
      refine wpQuiet_nil ?_
      refine NoPanic.normal ?_
      clear kp kq XA XC ZA ZC hB6 hg6 hg7 hW
      go_wp2
      refine bodyPost_ret (resS rfl _ _ g8 g9 _ _ _ rfl rfl hB8 rfl hB7 rfl rfl) rfl ?_
      exact ⟨s, zc, ccs, a, V, rs, rfl, AV, CV', HD.out, BW, HPI.out⟩
    | succ gg =>
      have hin : i < n := by omega
      have HI := Lib.hid hi
      obtain ⟨⟨x, y⟩, hx⟩ := get_some HN.out hin
      obtain ⟨bo, oo, rfl, hoc⟩ := HO.out (by rw [HN.out]; omega)
      obtain ⟨d0, d1, r0, r1⟩ := hoc i x y hx
      have HCL := Lib.hid (fun W (b : Below w.heap.size w W) => cell_later b d0)
      have c0 := cell_later G7.b d0
      have c1 := cell_later G7.b d1
      have HX := Lib.hid hx
      obtain ⟨cn, hcn⟩ : ∃ m : Nat, (i : Int) % 2 = (m : Int) := ⟨i % 2, by omega⟩
      have hc2 : cn < 2 := by omega
      clear hi hx hoc d0 d1
      by_cases hxp : 0 < x
      · have hN1 : 1 ≤ 1 + x % 9 ∧ 1 + x % 9 ≤ 9 := by omega
        have HGD := Lib.hid (fun W (h : GM w gA gC g8 g9 w.heap.size s zc ccs a o V rs W) => grownD a o s zc ccs V rs (1 + x % 9) cn w.heap.size W h.v h.c HD.out h.b.size hN1.1 hN1.2 hc2)
        clear c1 r1
        go_upto_region 9 with fail
        go_cut [12, 13, 14] from 50 to 66 (fun v12 v13 v14 W => ∃ g12 g13 : Nat, v12 = .pointer (some ⟨g12, 0, none⟩) ∧ v13 = .pointer (some ⟨g13, 0, none⟩) ∧ v14 = .bool true ∧ GM w gA gC g8 g9 w.heap.size s zc ccs a o V rs W ∧ Nx o (rs.map Sb.sl) (1 + x % 9) g12 g13 w.heap.size W ∧ g12 ≠ gA ∧ g13 ≠ gC)
        case first =>
          refine wp_region_plan3 (S9 gA gC (s.cells a.bt a.hi) (scC o V) bo (oo + i * 2) x) (.quiet [0, 1, 2, 3, 4, 5, 6, 7, 8, 9, 10, 11] (.fork3 12 (.quiet [13, 14, 15, 16] (.fork 17 (.only 18 (.only 19 (.only 20 (.quiet [21] .done)))) 18 (.only 17 (.only 19 (.only 20 (.quiet [21] .done)))))) 17 (.fork 12 (.quiet [13, 14, 15, 16] (.only 18 (.only 19 (.only 20 (.quiet [21] .done))))) 18 (.only 12 (.quiet [13, 14, 15, 16] (.only 19 (.only 20 (.quiet [21] .done)))))) 18 (.fork 12 (.quiet [13, 14, 15, 16] (.only 17 (.only 19 (.only 20 (.quiet [21] .done))))) 17 (.only 12 (.quiet [13, 14, 15, 16] (.only 19 (.only 20 (.quiet [21] .done)))))))) 99 (by kernel_rfl) (by kernel_rfl) ⟨G7.x4.later (Below.refl _ _).drew, G7.x5.later (Below.refl _ _).drew, cell_later (Below.refl _ _).drew c0⟩ ?_
          intro W1 hWW hWe
          have bW : Below wr.heap.size wr W1 := by rw [hWe]; exact (Below.refl _ _).drew
          clear hWe
          have X1 := G7.below bW
          replace c0 := cell_later bW c0
          clear G7 bW
          simp only [wpPlanT, inOrder, List.filterMap_cons, List.filterMap_nil, List.getElem?_cons_zero, List.getElem?_cons_succ]
          have q1 := fun z => (hold_ok (S0 := S9 gA gC (s.cells a.bt a.hi) (scC o V) bo (oo + i * 2) x) hWW z).1
          have q2 := fun z => (hold_ok (S0 := S9 gA gC (s.cells a.bt a.hi) (scC o V) bo (oo + i * 2) x) hWW z).2.1
          have q3 := fun z => (hold_ok (S0 := S9 gA gC (s.cells a.bt a.hi) (scC o V) bo (oo + i * 2) x) hWW z).2.2
          show wpQuiet _ _ _ _ (_ :: _ :: _ :: _ :: _ :: _ :: _ :: _ :: _ :: _ :: _ :: [_]) _
          refine ldQA infoA rfl rfl (fun U ⟨z, hz⟩ => by rw [hz]; exact q1 z) ?_
          simp only [Act.put, List.setIfInBounds_toArray, List.set_cons_succ, List.set_cons_zero]
          refine ldQC infoSC rfl rfl (fun U ⟨z, hz⟩ => by rw [hz]; exact q2 z) ?_
          simp only [Act.put, List.setIfInBounds_toArray, List.set_cons_succ, List.set_cons_zero]
          repeat (go_big_quiet_step (fail))
          refine wpQuiet_nil ?_
          clear q1 q2 q3 hWW
          refine ⟨?_, ?_, ?_⟩
          · skip
            show wpList _ _ _ [_] _ _
            go_wp2_with fail
            refine (HGD.out W1 X1).mono ?_
            rintro e W2 ⟨s', zc', ccs', a', V', rs', rfl, AV, CV', hdg, bC, hgr⟩
            have X2 := X1.below bC
            have HDX := Lib.hid (And.intro hdg hgr)
            have HV1 := CV'.one
            replace c0 := cell_later bC c0
            clear hdg hgr
            go_wp2
            refine ⟨hold_of (S0 := S9 gA gC (s.cells a.bt a.hi) (scC o V) bo (oo + i * 2) x) ⟨X2.x4, X2.x5, c0⟩, ?_⟩
            show wpQuiet _ _ _ _ (_ :: _ :: _ :: [_]) _
            repeat (go_big_quiet_step (fail))
            refine wpQuiet_nil ?_
            refine ⟨?_, ?_⟩
            · skip
              show wpList _ _ _ [_] _ _
              have A17 := Blk.new W2 28 #[.slice none 0 0, .int .i64 0, .int .i64 0, .slice none 0 0, .slice none 0 0] nilA rfl
              have bA := below_box W2 (.cells #[.slice none 0 0, .int .i64 0, .int .i64 0, .slice none 0 0, .slice none 0 0] 28)
              have X3 := X2.below bA
              replace c0 := cell_later bA c0
              go_wp2
              refine ⟨hold_of (S0 := S9 gA gC (s.cells a.bt a.hi) (scC o V) bo (oo + i * 2) x) ⟨X3.x4, X3.x5, c0⟩, ?_⟩
              obtain ⟨W3, hwA⟩ : ∃ U, U = W2.alloc (.cells #[.slice none 0 0, .int .i64 0, .int .i64 0, .slice none 0 0, .slice none 0 0] 28) := ⟨_, rfl⟩
              obtain ⟨g12, hgp⟩ : ∃ g, W2.heap.size = g := ⟨_, rfl⟩
              rw [← hwA] at A17 bA X3 c0 ⊢
              rw [hgp] at A17 ⊢
              have l12 : w.heap.size ≤ g12 := by rw [← hgp]; exact X2.b.size
              have n12a : g12 ≠ gA := by have := X2.x4.lt; omega
              have n12b : g12 ≠ g8 := by have := X2.z8.lt; omega
              clear hwA hgp
              replace AV := AV.below bA; replace CV' := CV'.later bA
              show wpList _ _ _ [_] _ _
              have A18 := Blk.new W3 31 #[.int .i64 0, .slice none 0 0] (scC 0 (.slice none 0 0)) rfl
              have bB := below_box W3 (.cells #[.int .i64 0, .slice none 0 0] 31)
              have X4 := X3.below bB
              replace c0 := cell_later bB c0
              go_wp2
              refine ⟨hold_of (S0 := S9 gA gC (s.cells a.bt a.hi) (scC o V) bo (oo + i * 2) x) ⟨X4.x4, X4.x5, c0⟩, ?_⟩
              obtain ⟨W4, hwA⟩ : ∃ U, U = W3.alloc (.cells #[.int .i64 0, .slice none 0 0] 31) := ⟨_, rfl⟩
              obtain ⟨g13, hgp⟩ : ∃ g, W3.heap.size = g := ⟨_, rfl⟩
              rw [← hwA] at A18 bB X4 c0 ⊢
              rw [hgp] at A18 ⊢
              have l13 : w.heap.size ≤ g13 := by rw [← hgp]; exact X3.b.size
              have n13a : g13 ≠ gC := by have := X3.x5.lt; omega
              have n13b : g13 ≠ g9 := by have := X3.z9.lt; omega
              clear hwA hgp
              replace AV := AV.below bB; replace CV' := CV'.later bB; replace A17 := A17.later bB
              show wpList _ _ _ [_] _ _
              go_wp2_with ((with_reducible refine stA (s := s') (bt := a'.bt) (hi := a'.hi) ?_ ?_ A17 rfl ?_); (focus rfl); (focus rfl); intro w5 hB5 hg5)
              have kp : ∀ {q t : Nat} {bs : List Value}, t ≠ 28 → Blk W4 q t bs → Blk w5 q t bs := fun ht hq => hq.grown hg5 (by simpa using A17.ne_type hq (Ne.symm ht))
              have c5 : w5.cell? ⟨bo, oo + i * 2, none⟩ = some (.int .u8 x) := HCL.out w5 (X4.aset A17 n12a n12b l12 hg5).b
              have X5 := X4.aset A17 n12a n12b l12 hg5
              replace A18 := kp (by decide) A18
              replace AV := AV.past (kp (by decide) AV.q.x) (kp (by decide) AV.c.x) (fun _ _ => kp (by decide)) (fun _ _ => kp (by decide))
              replace CV' := CV'.past A17 (by decide) (by decide) hg5
              clear X4 A17 hg5 kp c0
              refine ⟨hold_of (S0 := S9 gA gC (s.cells a.bt a.hi) (scC o V) bo (oo + i * 2) x) ⟨X5.x4, X5.x5, c5⟩, ?_⟩
              show wpList _ _ _ [_] _ _
              go_wp2_with ((with_reducible refine stSC (o := o) (V := V') ?_ ?_ A18 rfl HV1 ?_); (focus rfl); (focus rfl); intro w6 hB6 hg6)
              have kp : ∀ {q t : Nat} {bs : List Value}, t ≠ 31 → Blk w5 q t bs → Blk w6 q t bs := fun ht hq => hq.grown hg6 (by simpa using A18.ne_type hq (Ne.symm ht))
              have X6 := X5.cset A18 n13a n13b l13 hg6
              have c6 : w6.cell? ⟨bo, oo + i * 2, none⟩ = some (.int .u8 x) := HCL.out w6 X6.b
              have hB5 := kp (by decide) hB5
              replace AV := AV.past (kp (by decide) AV.q.x) (kp (by decide) AV.c.x) (fun _ _ => kp (by decide)) (fun _ _ => kp (by decide))
              replace CV' := CV'.past A18 (by decide) (by decide) hg6
              clear X5 A18 hg6 kp c5
              refine ⟨hold_of (S0 := S9 gA gC (s.cells a.bt a.hi) (scC o V) bo (oo + i * 2) x) ⟨X6.x4, X6.x5, c6⟩, ?_⟩
              show wpQuiet _ _ _ _ [_] _
              simp only [Act.put]
              repeat (go_big_quiet_step (fail))
              refine wpQuiet_nil ?_
              refine NoPanic.normal ?_
              clear c6
              go_wp2
              go_meet
              case rel => exact ⟨g12, g13, rfl, rfl, rfl, X6, ⟨⟨s', zc', ccs', a', V', rs', hB5, hB6, AV, CV', HDX.out.1, HDX.out.2⟩⟩, n12a, n13a⟩
            · skip
              show wpList _ _ _ [_] _ _
              have A18 := Blk.new W2 31 #[.int .i64 0, .slice none 0 0] (scC 0 (.slice none 0 0)) rfl
              have bB := below_box W2 (.cells #[.int .i64 0, .slice none 0 0] 31)
              have X3 := X2.below bB
              replace c0 := cell_later bB c0
              go_wp2
              refine ⟨hold_of (S0 := S9 gA gC (s.cells a.bt a.hi) (scC o V) bo (oo + i * 2) x) ⟨X3.x4, X3.x5, c0⟩, ?_⟩
              obtain ⟨W3, hwA⟩ : ∃ U, U = W2.alloc (.cells #[.int .i64 0, .slice none 0 0] 31) := ⟨_, rfl⟩
              obtain ⟨g13, hgp⟩ : ∃ g, W2.heap.size = g := ⟨_, rfl⟩
              rw [← hwA] at A18 bB X3 c0 ⊢
              rw [hgp] at A18 ⊢
              have l13 : w.heap.size ≤ g13 := by rw [← hgp]; exact X2.b.size
              have n13a : g13 ≠ gC := by have := X2.x5.lt; omega
              have n13b : g13 ≠ g9 := by have := X2.z9.lt; omega
              clear hwA hgp
              replace AV := AV.below bB; replace CV' := CV'.later bB
              show wpList _ _ _ [_] _ _
              have A17 := Blk.new W3 28 #[.slice none 0 0, .int .i64 0, .int .i64 0, .slice none 0 0, .slice none 0 0] nilA rfl
              have bA := below_box W3 (.cells #[.slice none 0 0, .int .i64 0, .int .i64 0, .slice none 0 0, .slice none 0 0] 28)
              have X4 := X3.below bA
              replace c0 := cell_later bA c0
              go_wp2
              refine ⟨hold_of (S0 := S9 gA gC (s.cells a.bt a.hi) (scC o V) bo (oo + i * 2) x) ⟨X4.x4, X4.x5, c0⟩, ?_⟩
              obtain ⟨W4, hwA⟩ : ∃ U, U = W3.alloc (.cells #[.slice none 0 0, .int .i64 0, .int .i64 0, .slice none 0 0, .slice none 0 0] 28) := ⟨_, rfl⟩
              obtain ⟨g12, hgp⟩ : ∃ g, W3.heap.size = g := ⟨_, rfl⟩
              rw [← hwA] at A17 bA X4 c0 ⊢
              rw [hgp] at A17 ⊢
              have l12 : w.heap.size ≤ g12 := by rw [← hgp]; exact X3.b.size
              have n12a : g12 ≠ gA := by have := X3.x4.lt; omega
              have n12b : g12 ≠ g8 := by have := X3.z8.lt; omega
              clear hwA hgp
              replace AV := AV.below bA; replace CV' := CV'.later bA; replace A18 := A18.later bA
              show wpList _ _ _ [_] _ _
              go_wp2_with ((with_reducible refine stA (s := s') (bt := a'.bt) (hi := a'.hi) ?_ ?_ A17 rfl ?_); (focus rfl); (focus rfl); intro w5 hB5 hg5)
              have kp : ∀ {q t : Nat} {bs : List Value}, t ≠ 28 → Blk W4 q t bs → Blk w5 q t bs := fun ht hq => hq.grown hg5 (by simpa using A17.ne_type hq (Ne.symm ht))
              have c5 : w5.cell? ⟨bo, oo + i * 2, none⟩ = some (.int .u8 x) := HCL.out w5 (X4.aset A17 n12a n12b l12 hg5).b
              have X5 := X4.aset A17 n12a n12b l12 hg5
              replace A18 := kp (by decide) A18
              replace AV := AV.past (kp (by decide) AV.q.x) (kp (by decide) AV.c.x) (fun _ _ => kp (by decide)) (fun _ _ => kp (by decide))
              replace CV' := CV'.past A17 (by decide) (by decide) hg5
              clear X4 A17 hg5 kp c0
              refine ⟨hold_of (S0 := S9 gA gC (s.cells a.bt a.hi) (scC o V) bo (oo + i * 2) x) ⟨X5.x4, X5.x5, c5⟩, ?_⟩
              show wpList _ _ _ [_] _ _
              go_wp2_with ((with_reducible refine stSC (o := o) (V := V') ?_ ?_ A18 rfl HV1 ?_); (focus rfl); (focus rfl); intro w6 hB6 hg6)
              have kp : ∀ {q t : Nat} {bs : List Value}, t ≠ 31 → Blk w5 q t bs → Blk w6 q t bs := fun ht hq => hq.grown hg6 (by simpa using A18.ne_type hq (Ne.symm ht))
              have X6 := X5.cset A18 n13a n13b l13 hg6
              have c6 : w6.cell? ⟨bo, oo + i * 2, none⟩ = some (.int .u8 x) := HCL.out w6 X6.b
              have hB5 := kp (by decide) hB5
              replace AV := AV.past (kp (by decide) AV.q.x) (kp (by decide) AV.c.x) (fun _ _ => kp (by decide)) (fun _ _ => kp (by decide))
              replace CV' := CV'.past A18 (by decide) (by decide) hg6
              clear X5 A18 hg6 kp c5
              refine ⟨hold_of (S0 := S9 gA gC (s.cells a.bt a.hi) (scC o V) bo (oo + i * 2) x) ⟨X6.x4, X6.x5, c6⟩, ?_⟩
              show wpQuiet _ _ _ _ [_] _
              simp only [Act.put]
              repeat (go_big_quiet_step (fail))
              refine wpQuiet_nil ?_
              refine NoPanic.normal ?_
              clear c6
              go_wp2
              go_meet
              case rel => exact ⟨g12, g13, rfl, rfl, rfl, X6, ⟨⟨s', zc', ccs', a', V', rs', hB5, hB6, AV, CV', HDX.out.1, HDX.out.2⟩⟩, n12a, n13a⟩
          · skip
            show wpList _ _ _ [_] _ _
            have A17 := Blk.new W1 28 #[.slice none 0 0, .int .i64 0, .int .i64 0, .slice none 0 0, .slice none 0 0] nilA rfl
            have bA := below_box W1 (.cells #[.slice none 0 0, .int .i64 0, .int .i64 0, .slice none 0 0, .slice none 0 0] 28)
            have X2 := X1.below bA
            replace c0 := cell_later bA c0
            go_wp2
            refine ⟨hold_of (S0 := S9 gA gC (s.cells a.bt a.hi) (scC o V) bo (oo + i * 2) x) ⟨X2.x4, X2.x5, c0⟩, ?_⟩
            obtain ⟨W2, hwA⟩ : ∃ U, U = W1.alloc (.cells #[.slice none 0 0, .int .i64 0, .int .i64 0, .slice none 0 0, .slice none 0 0] 28) := ⟨_, rfl⟩
            obtain ⟨g12, hgp⟩ : ∃ g, W1.heap.size = g := ⟨_, rfl⟩
            rw [← hwA] at A17 bA X2 c0 ⊢
            rw [hgp] at A17 ⊢
            have l12 : w.heap.size ≤ g12 := by rw [← hgp]; exact X1.b.size
            have n12a : g12 ≠ gA := by have := X1.x4.lt; omega
            have n12b : g12 ≠ g8 := by have := X1.z8.lt; omega
            clear hwA hgp
            refine ⟨?_, ?_⟩
            · skip
              show wpList _ _ _ [_] _ _
              go_wp2_with fail
              refine (HGD.out W2 X2).mono ?_
              rintro e W3 ⟨s', zc', ccs', a', V', rs', rfl, AV, CV', hdg, bC, hgr⟩
              have X3 := X2.below bC
              have HDX := Lib.hid (And.intro hdg hgr)
              have HV1 := CV'.one
              replace c0 := cell_later bC c0
              clear hdg hgr
              go_wp2
              refine ⟨hold_of (S0 := S9 gA gC (s.cells a.bt a.hi) (scC o V) bo (oo + i * 2) x) ⟨X3.x4, X3.x5, c0⟩, ?_⟩
              show wpQuiet _ _ _ _ (_ :: _ :: _ :: [_]) _
              repeat (go_big_quiet_step (fail))
              refine wpQuiet_nil ?_
              replace A17 := A17.later bC
              show wpList _ _ _ [_] _ _
              have A18 := Blk.new W3 31 #[.int .i64 0, .slice none 0 0] (scC 0 (.slice none 0 0)) rfl
              have bB := below_box W3 (.cells #[.int .i64 0, .slice none 0 0] 31)
              have X4 := X3.below bB
              replace c0 := cell_later bB c0
              go_wp2
              refine ⟨hold_of (S0 := S9 gA gC (s.cells a.bt a.hi) (scC o V) bo (oo + i * 2) x) ⟨X4.x4, X4.x5, c0⟩, ?_⟩
              obtain ⟨W4, hwA⟩ : ∃ U, U = W3.alloc (.cells #[.int .i64 0, .slice none 0 0] 31) := ⟨_, rfl⟩
              obtain ⟨g13, hgp⟩ : ∃ g, W3.heap.size = g := ⟨_, rfl⟩
              rw [← hwA] at A18 bB X4 c0 ⊢
              rw [hgp] at A18 ⊢
              have l13 : w.heap.size ≤ g13 := by rw [← hgp]; exact X3.b.size
              have n13a : g13 ≠ gC := by have := X3.x5.lt; omega
              have n13b : g13 ≠ g9 := by have := X3.z9.lt; omega
              clear hwA hgp
              replace AV := AV.below bB; replace CV' := CV'.later bB; replace A17 := A17.later bB
              show wpList _ _ _ [_] _ _
              go_wp2_with ((with_reducible refine stA (s := s') (bt := a'.bt) (hi := a'.hi) ?_ ?_ A17 rfl ?_); (focus rfl); (focus rfl); intro w5 hB5 hg5)
              have kp : ∀ {q t : Nat} {bs : List Value}, t ≠ 28 → Blk W4 q t bs → Blk w5 q t bs := fun ht hq => hq.grown hg5 (by simpa using A17.ne_type hq (Ne.symm ht))
              have c5 : w5.cell? ⟨bo, oo + i * 2, none⟩ = some (.int .u8 x) := HCL.out w5 (X4.aset A17 n12a n12b l12 hg5).b
              have X5 := X4.aset A17 n12a n12b l12 hg5
              replace A18 := kp (by decide) A18
              replace AV := AV.past (kp (by decide) AV.q.x) (kp (by decide) AV.c.x) (fun _ _ => kp (by decide)) (fun _ _ => kp (by decide))
              replace CV' := CV'.past A17 (by decide) (by decide) hg5
              clear X4 A17 hg5 kp c0
              refine ⟨hold_of (S0 := S9 gA gC (s.cells a.bt a.hi) (scC o V) bo (oo + i * 2) x) ⟨X5.x4, X5.x5, c5⟩, ?_⟩
              show wpList _ _ _ [_] _ _
              go_wp2_with ((with_reducible refine stSC (o := o) (V := V') ?_ ?_ A18 rfl HV1 ?_); (focus rfl); (focus rfl); intro w6 hB6 hg6)
              have kp : ∀ {q t : Nat} {bs : List Value}, t ≠ 31 → Blk w5 q t bs → Blk w6 q t bs := fun ht hq => hq.grown hg6 (by simpa using A18.ne_type hq (Ne.symm ht))
              have X6 := X5.cset A18 n13a n13b l13 hg6
              have c6 : w6.cell? ⟨bo, oo + i * 2, none⟩ = some (.int .u8 x) := HCL.out w6 X6.b
              have hB5 := kp (by decide) hB5
              replace AV := AV.past (kp (by decide) AV.q.x) (kp (by decide) AV.c.x) (fun _ _ => kp (by decide)) (fun _ _ => kp (by decide))
              replace CV' := CV'.past A18 (by decide) (by decide) hg6
              clear X5 A18 hg6 kp c5
              refine ⟨hold_of (S0 := S9 gA gC (s.cells a.bt a.hi) (scC o V) bo (oo + i * 2) x) ⟨X6.x4, X6.x5, c6⟩, ?_⟩
              show wpQuiet _ _ _ _ [_] _
              simp only [Act.put]
              repeat (go_big_quiet_step (fail))
              refine wpQuiet_nil ?_
              refine NoPanic.normal ?_
              clear c6
              go_wp2
              go_meet
              case rel => exact ⟨g12, g13, rfl, rfl, rfl, X6, ⟨⟨s', zc', ccs', a', V', rs', hB5, hB6, AV, CV', HDX.out.1, HDX.out.2⟩⟩, n12a, n13a⟩
            · skip
              show wpList _ _ _ [_] _ _
              have A18 := Blk.new W2 31 #[.int .i64 0, .slice none 0 0] (scC 0 (.slice none 0 0)) rfl
              have bB := below_box W2 (.cells #[.int .i64 0, .slice none 0 0] 31)
              have X3 := X2.below bB
              replace c0 := cell_later bB c0
              go_wp2
              refine ⟨hold_of (S0 := S9 gA gC (s.cells a.bt a.hi) (scC o V) bo (oo + i * 2) x) ⟨X3.x4, X3.x5, c0⟩, ?_⟩
              obtain ⟨W3, hwA⟩ : ∃ U, U = W2.alloc (.cells #[.int .i64 0, .slice none 0 0] 31) := ⟨_, rfl⟩
              obtain ⟨g13, hgp⟩ : ∃ g, W2.heap.size = g := ⟨_, rfl⟩
              rw [← hwA] at A18 bB X3 c0 ⊢
              rw [hgp] at A18 ⊢
              have l13 : w.heap.size ≤ g13 := by rw [← hgp]; exact X2.b.size
              have n13a : g13 ≠ gC := by have := X2.x5.lt; omega
              have n13b : g13 ≠ g9 := by have := X2.z9.lt; omega
              clear hwA hgp
              replace A17 := A17.later bB
              show wpList _ _ _ [_] _ _
              go_wp2_with fail
              refine (HGD.out W3 X3).mono ?_
              rintro e W4 ⟨s', zc', ccs', a', V', rs', rfl, AV, CV', hdg, bC, hgr⟩
              have X4 := X3.below bC
              have HDX := Lib.hid (And.intro hdg hgr)
              have HV1 := CV'.one
              replace c0 := cell_later bC c0
              clear hdg hgr
              go_wp2
              refine ⟨hold_of (S0 := S9 gA gC (s.cells a.bt a.hi) (scC o V) bo (oo + i * 2) x) ⟨X4.x4, X4.x5, c0⟩, ?_⟩
              show wpQuiet _ _ _ _ (_ :: _ :: _ :: [_]) _
              repeat (go_big_quiet_step (fail))
              refine wpQuiet_nil ?_
              replace A17 := A17.later bC; replace A18 := A18.later bC
              show wpList _ _ _ [_] _ _
              go_wp2_with ((with_reducible refine stA (s := s') (bt := a'.bt) (hi := a'.hi) ?_ ?_ A17 rfl ?_); (focus rfl); (focus rfl); intro w5 hB5 hg5)
              have kp : ∀ {q t : Nat} {bs : List Value}, t ≠ 28 → Blk W4 q t bs → Blk w5 q t bs := fun ht hq => hq.grown hg5 (by simpa using A17.ne_type hq (Ne.symm ht))
              have c5 : w5.cell? ⟨bo, oo + i * 2, none⟩ = some (.int .u8 x) := HCL.out w5 (X4.aset A17 n12a n12b l12 hg5).b
              have X5 := X4.aset A17 n12a n12b l12 hg5
              replace A18 := kp (by decide) A18
              replace AV := AV.past (kp (by decide) AV.q.x) (kp (by decide) AV.c.x) (fun _ _ => kp (by decide)) (fun _ _ => kp (by decide))
              replace CV' := CV'.past A17 (by decide) (by decide) hg5
              clear X4 A17 hg5 kp c0
              refine ⟨hold_of (S0 := S9 gA gC (s.cells a.bt a.hi) (scC o V) bo (oo + i * 2) x) ⟨X5.x4, X5.x5, c5⟩, ?_⟩
              show wpList _ _ _ [_] _ _
              go_wp2_with ((with_reducible refine stSC (o := o) (V := V') ?_ ?_ A18 rfl HV1 ?_); (focus rfl); (focus rfl); intro w6 hB6 hg6)
              have kp : ∀ {q t : Nat} {bs : List Value}, t ≠ 31 → Blk w5 q t bs → Blk w6 q t bs := fun ht hq => hq.grown hg6 (by simpa using A18.ne_type hq (Ne.symm ht))
              have X6 := X5.cset A18 n13a n13b l13 hg6
              have c6 : w6.cell? ⟨bo, oo + i * 2, none⟩ = some (.int .u8 x) := HCL.out w6 X6.b
              have hB5 := kp (by decide) hB5
              replace AV := AV.past (kp (by decide) AV.q.x) (kp (by decide) AV.c.x) (fun _ _ => kp (by decide)) (fun _ _ => kp (by decide))
              replace CV' := CV'.past A18 (by decide) (by decide) hg6
              clear X5 A18 hg6 kp c5
              refine ⟨hold_of (S0 := S9 gA gC (s.cells a.bt a.hi) (scC o V) bo (oo + i * 2) x) ⟨X6.x4, X6.x5, c6⟩, ?_⟩
              show wpQuiet _ _ _ _ [_] _
              simp only [Act.put]
              repeat (go_big_quiet_step (fail))
              refine wpQuiet_nil ?_
              refine NoPanic.normal ?_
              clear c6
              go_wp2
              go_meet
              case rel => exact ⟨g12, g13, rfl, rfl, rfl, X6, ⟨⟨s', zc', ccs', a', V', rs', hB5, hB6, AV, CV', HDX.out.1, HDX.out.2⟩⟩, n12a, n13a⟩
          · skip
            show wpList _ _ _ [_] _ _
            have A18 := Blk.new W1 31 #[.int .i64 0, .slice none 0 0] (scC 0 (.slice none 0 0)) rfl
            have bB := below_box W1 (.cells #[.int .i64 0, .slice none 0 0] 31)
            have X2 := X1.below bB
            replace c0 := cell_later bB c0
            go_wp2
            refine ⟨hold_of (S0 := S9 gA gC (s.cells a.bt a.hi) (scC o V) bo (oo + i * 2) x) ⟨X2.x4, X2.x5, c0⟩, ?_⟩
            obtain ⟨W2, hwA⟩ : ∃ U, U = W1.alloc (.cells #[.int .i64 0, .slice none 0 0] 31) := ⟨_, rfl⟩
            obtain ⟨g13, hgp⟩ : ∃ g, W1.heap.size = g := ⟨_, rfl⟩
            rw [← hwA] at A18 bB X2 c0 ⊢
            rw [hgp] at A18 ⊢
            have l13 : w.heap.size ≤ g13 := by rw [← hgp]; exact X1.b.size
            have n13a : g13 ≠ gC := by have := X1.x5.lt; omega
            have n13b : g13 ≠ g9 := by have := X1.z9.lt; omega
            clear hwA hgp
            refine ⟨?_, ?_⟩
            · skip
              show wpList _ _ _ [_] _ _
              go_wp2_with fail
              refine (HGD.out W2 X2).mono ?_
              rintro e W3 ⟨s', zc', ccs', a', V', rs', rfl, AV, CV', hdg, bC, hgr⟩
              have X3 := X2.below bC
              have HDX := Lib.hid (And.intro hdg hgr)
              have HV1 := CV'.one
              replace c0 := cell_later bC c0
              clear hdg hgr
              go_wp2
              refine ⟨hold_of (S0 := S9 gA gC (s.cells a.bt a.hi) (scC o V) bo (oo + i * 2) x) ⟨X3.x4, X3.x5, c0⟩, ?_⟩
              show wpQuiet _ _ _ _ (_ :: _ :: _ :: [_]) _
              repeat (go_big_quiet_step (fail))
              refine wpQuiet_nil ?_
              replace A18 := A18.later bC
              show wpList _ _ _ [_] _ _
              have A17 := Blk.new W3 28 #[.slice none 0 0, .int .i64 0, .int .i64 0, .slice none 0 0, .slice none 0 0] nilA rfl
              have bA := below_box W3 (.cells #[.slice none 0 0, .int .i64 0, .int .i64 0, .slice none 0 0, .slice none 0 0] 28)
              have X4 := X3.below bA
              replace c0 := cell_later bA c0
              go_wp2
              refine ⟨hold_of (S0 := S9 gA gC (s.cells a.bt a.hi) (scC o V) bo (oo + i * 2) x) ⟨X4.x4, X4.x5, c0⟩, ?_⟩
              obtain ⟨W4, hwA⟩ : ∃ U, U = W3.alloc (.cells #[.slice none 0 0, .int .i64 0, .int .i64 0, .slice none 0 0, .slice none 0 0] 28) := ⟨_, rfl⟩
              obtain ⟨g12, hgp⟩ : ∃ g, W3.heap.size = g := ⟨_, rfl⟩
              rw [← hwA] at A17 bA X4 c0 ⊢
              rw [hgp] at A17 ⊢
              have l12 : w.heap.size ≤ g12 := by rw [← hgp]; exact X3.b.size
              have n12a : g12 ≠ gA := by have := X3.x4.lt; omega
              have n12b : g12 ≠ g8 := by have := X3.z8.lt; omega
              clear hwA hgp
              replace AV := AV.below bA; replace CV' := CV'.later bA; replace A18 := A18.later bA
              show wpList _ _ _ [_] _ _
              go_wp2_with ((with_reducible refine stA (s := s') (bt := a'.bt) (hi := a'.hi) ?_ ?_ A17 rfl ?_); (focus rfl); (focus rfl); intro w5 hB5 hg5)
              have kp : ∀ {q t : Nat} {bs : List Value}, t ≠ 28 → Blk W4 q t bs → Blk w5 q t bs := fun ht hq => hq.grown hg5 (by simpa using A17.ne_type hq (Ne.symm ht))
              have c5 : w5.cell? ⟨bo, oo + i * 2, none⟩ = some (.int .u8 x) := HCL.out w5 (X4.aset A17 n12a n12b l12 hg5).b
              have X5 := X4.aset A17 n12a n12b l12 hg5
              replace A18 := kp (by decide) A18
              replace AV := AV.past (kp (by decide) AV.q.x) (kp (by decide) AV.c.x) (fun _ _ => kp (by decide)) (fun _ _ => kp (by decide))
              replace CV' := CV'.past A17 (by decide) (by decide) hg5
              clear X4 A17 hg5 kp c0
              refine ⟨hold_of (S0 := S9 gA gC (s.cells a.bt a.hi) (scC o V) bo (oo + i * 2) x) ⟨X5.x4, X5.x5, c5⟩, ?_⟩
              show wpList _ _ _ [_] _ _
              go_wp2_with ((with_reducible refine stSC (o := o) (V := V') ?_ ?_ A18 rfl HV1 ?_); (focus rfl); (focus rfl); intro w6 hB6 hg6)
              have kp : ∀ {q t : Nat} {bs : List Value}, t ≠ 31 → Blk w5 q t bs → Blk w6 q t bs := fun ht hq => hq.grown hg6 (by simpa using A18.ne_type hq (Ne.symm ht))
              have X6 := X5.cset A18 n13a n13b l13 hg6
              have c6 : w6.cell? ⟨bo, oo + i * 2, none⟩ = some (.int .u8 x) := HCL.out w6 X6.b
              have hB5 := kp (by decide) hB5
              replace AV := AV.past (kp (by decide) AV.q.x) (kp (by decide) AV.c.x) (fun _ _ => kp (by decide)) (fun _ _ => kp (by decide))
              replace CV' := CV'.past A18 (by decide) (by decide) hg6
              clear X5 A18 hg6 kp c5
              refine ⟨hold_of (S0 := S9 gA gC (s.cells a.bt a.hi) (scC o V) bo (oo + i * 2) x) ⟨X6.x4, X6.x5, c6⟩, ?_⟩
              show wpQuiet _ _ _ _ [_] _
              simp only [Act.put]
              repeat (go_big_quiet_step (fail))
              refine wpQuiet_nil ?_
              refine NoPanic.normal ?_
              clear c6
              go_wp2
              go_meet
              case rel => exact ⟨g12, g13, rfl, rfl, rfl, X6, ⟨⟨s', zc', ccs', a', V', rs', hB5, hB6, AV, CV', HDX.out.1, HDX.out.2⟩⟩, n12a, n13a⟩
            · skip
              show wpList _ _ _ [_] _ _
              have A17 := Blk.new W2 28 #[.slice none 0 0, .int .i64 0, .int .i64 0, .slice none 0 0, .slice none 0 0] nilA rfl
              have bA := below_box W2 (.cells #[.slice none 0 0, .int .i64 0, .int .i64 0, .slice none 0 0, .slice none 0 0] 28)
              have X3 := X2.below bA
              replace c0 := cell_later bA c0
              go_wp2
              refine ⟨hold_of (S0 := S9 gA gC (s.cells a.bt a.hi) (scC o V) bo (oo + i * 2) x) ⟨X3.x4, X3.x5, c0⟩, ?_⟩
              obtain ⟨W3, hwA⟩ : ∃ U, U = W2.alloc (.cells #[.slice none 0 0, .int .i64 0, .int .i64 0, .slice none 0 0, .slice none 0 0] 28) := ⟨_, rfl⟩
              obtain ⟨g12, hgp⟩ : ∃ g, W2.heap.size = g := ⟨_, rfl⟩
              rw [← hwA] at A17 bA X3 c0 ⊢
              rw [hgp] at A17 ⊢
              have l12 : w.heap.size ≤ g12 := by rw [← hgp]; exact X2.b.size
              have n12a : g12 ≠ gA := by have := X2.x4.lt; omega
              have n12b : g12 ≠ g8 := by have := X2.z8.lt; omega
              clear hwA hgp
              replace A18 := A18.later bA
              show wpList _ _ _ [_] _ _
              go_wp2_with fail
              refine (HGD.out W3 X3).mono ?_
              rintro e W4 ⟨s', zc', ccs', a', V', rs', rfl, AV, CV', hdg, bC, hgr⟩
              have X4 := X3.below bC
              have HDX := Lib.hid (And.intro hdg hgr)
              have HV1 := CV'.one
              replace c0 := cell_later bC c0
              clear hdg hgr
              go_wp2
              refine ⟨hold_of (S0 := S9 gA gC (s.cells a.bt a.hi) (scC o V) bo (oo + i * 2) x) ⟨X4.x4, X4.x5, c0⟩, ?_⟩
              show wpQuiet _ _ _ _ (_ :: _ :: _ :: [_]) _
              repeat (go_big_quiet_step (fail))
              refine wpQuiet_nil ?_
              replace A17 := A17.later bC; replace A18 := A18.later bC
              show wpList _ _ _ [_] _ _
              go_wp2_with ((with_reducible refine stA (s := s') (bt := a'.bt) (hi := a'.hi) ?_ ?_ A17 rfl ?_); (focus rfl); (focus rfl); intro w5 hB5 hg5)
              have kp : ∀ {q t : Nat} {bs : List Value}, t ≠ 28 → Blk W4 q t bs → Blk w5 q t bs := fun ht hq => hq.grown hg5 (by simpa using A17.ne_type hq (Ne.symm ht))
              have c5 : w5.cell? ⟨bo, oo + i * 2, none⟩ = some (.int .u8 x) := HCL.out w5 (X4.aset A17 n12a n12b l12 hg5).b
              have X5 := X4.aset A17 n12a n12b l12 hg5
              replace A18 := kp (by decide) A18
              replace AV := AV.past (kp (by decide) AV.q.x) (kp (by decide) AV.c.x) (fun _ _ => kp (by decide)) (fun _ _ => kp (by decide))
              replace CV' := CV'.past A17 (by decide) (by decide) hg5
              clear X4 A17 hg5 kp c0
              refine ⟨hold_of (S0 := S9 gA gC (s.cells a.bt a.hi) (scC o V) bo (oo + i * 2) x) ⟨X5.x4, X5.x5, c5⟩, ?_⟩
              show wpList _ _ _ [_] _ _
              go_wp2_with ((with_reducible refine stSC (o := o) (V := V') ?_ ?_ A18 rfl HV1 ?_); (focus rfl); (focus rfl); intro w6 hB6 hg6)
              have kp : ∀ {q t : Nat} {bs : List Value}, t ≠ 31 → Blk w5 q t bs → Blk w6 q t bs := fun ht hq => hq.grown hg6 (by simpa using A18.ne_type hq (Ne.symm ht))
              have X6 := X5.cset A18 n13a n13b l13 hg6
              have c6 : w6.cell? ⟨bo, oo + i * 2, none⟩ = some (.int .u8 x) := HCL.out w6 X6.b
              have hB5 := kp (by decide) hB5
              replace AV := AV.past (kp (by decide) AV.q.x) (kp (by decide) AV.c.x) (fun _ _ => kp (by decide)) (fun _ _ => kp (by decide))
              replace CV' := CV'.past A18 (by decide) (by decide) hg6
              clear X5 A18 hg6 kp c5
              refine ⟨hold_of (S0 := S9 gA gC (s.cells a.bt a.hi) (scC o V) bo (oo + i * 2) x) ⟨X6.x4, X6.x5, c6⟩, ?_⟩
              show wpQuiet _ _ _ _ [_] _
              simp only [Act.put]
              repeat (go_big_quiet_step (fail))
              refine wpQuiet_nil ?_
              refine NoPanic.normal ?_
              clear c6
              go_wp2
              go_meet
              case rel => exact ⟨g12, g13, rfl, rfl, rfl, X6, ⟨⟨s', zc', ccs', a', V', rs', hB5, hB6, AV, CV', HDX.out.1, HDX.out.2⟩⟩, n12a, n13a⟩
        case rest =>
          clear G7 HGD c0
          obtain ⟨g12, g13, rfl, rfl, rfl, GX, ⟨s', zc', ccs', a', V', rs', X12, X13, AV, CV', hdg, hgr⟩, n12, n13⟩ := hcut
          have HV1 := CV'.one
          have HNP := Lib.hid (HP.out.grow i x y _ _ HX.out hxp HPI.out HD.out.k hdg.k hgr)
          have HDG := Lib.hid hdg
          clear hdg hgr
          go_upto_region 12 with fail
          refine wp_region_plan (fun U => Blk U g12 28 (s'.cells a'.bt a'.hi) ∧ Blk U g13 31 (scC o V')) (.quiet [0, 1] (.only 2 (.only 3 .done))) 99 (by kernel_rfl) (by kernel_rfl) ⟨X12.later (Below.refl _ _).drew, X13.later (Below.refl _ _).drew⟩ ?_
          intro W hW hWe
          have bD : Below wc.heap.size wc W := by rw [hWe]; exact (Below.refl _ _).drew
          have X1 := GX.below bD
          replace X12 := X12.later bD; replace X13 := X13.later bD; replace AV := AV.below bD; replace CV' := CV'.later bD
          clear hWe bD GX
          simp only [wpPlan, inOrder, List.filterMap_cons, List.filterMap_nil, List.getElem?_cons_zero, List.getElem?_cons_succ]
          show wpQuiet _ _ _ _ (_ :: [_]) _
          refine ldQA infoA rfl rfl (fun U ⟨z, hz⟩ => by rw [hz]; exact (hold_ok (S0 := fun U => Blk U g12 28 (s'.cells a'.bt a'.hi) ∧ Blk U g13 31 (scC o V')) hW z).1) ?_
          simp only [Act.put, List.setIfInBounds_toArray, List.set_cons_succ, List.set_cons_zero]
          refine ldQC infoSC rfl rfl (fun U ⟨z, hz⟩ => by rw [hz]; exact (hold_ok (S0 := fun U => Blk U g12 28 (s'.cells a'.bt a'.hi) ∧ Blk U g13 31 (scC o V')) hW z).2) ?_
          simp only [Act.put, List.setIfInBounds_toArray, List.set_cons_succ, List.set_cons_zero]
          refine wpQuiet_nil ?_
          show wpList _ _ _ [_] _ _
          go_wp2_with ((with_reducible refine stA (s := s') (bt := a'.bt) (hi := a'.hi) ?_ ?_ X1.x4 rfl ?_); (focus rfl); (focus rfl); intro w5 hB5 hg5)
          have X5 := X1.aput hB5 AV hg5
          replace X12 := X12.grown hg5 (by simpa using Ne.symm n12)
          replace X13 := X13.grown hg5 (by simpa using X1.x4.ne_type X13 (by decide))
          replace CV' := CV'.past X1.x4 (by decide) (by decide) hg5
          clear X1 AV hB5 hg5
          refine ⟨hold_of (S0 := fun U => Blk U g12 28 (s'.cells a'.bt a'.hi) ∧ Blk U g13 31 (scC o V')) ⟨X12, X13⟩, ?_⟩
          show wpList _ _ _ [_] _ _
          go_wp2_with ((with_reducible refine stSC (o := o) (V := V') ?_ ?_ X5.x5 rfl HV1 ?_); (focus rfl); (focus rfl); intro w6 hB6 hg6)
          have X6 := X5.cput hB6 CV' hg6
          replace X12 := X12.grown hg6 (by simpa using X5.x5.ne_type X12 (by decide))
          replace X13 := X13.grown hg6 (by simpa using Ne.symm n13)
          refine ⟨hold_of (S0 := fun U => Blk U g12 28 (s'.cells a'.bt a'.hi) ∧ Blk U g13 31 (scC o V')) ⟨X12, X13⟩, NoPanic.normal ?_⟩
          simp only [Act.put]
          clear X5 X12 X13 CV' hB6 hg6 hW
          go_wp2
          go_roundg gg
          case rel => exact ⟨i + 1, s', zc', ccs', a', V', rs', by have := HI.out; omega, by go_num, X6, HDG.out, HNP.out⟩
          case measure => omega
      · obtain ⟨nl, hnl⟩ : ∃ n, rs.length = n := ⟨_, rfl⟩
        obtain ⟨aV, cV, rfl, _, _, _, _⟩ := G7.c.slabs hnl
        obtain ⟨l, hl⟩ : ∃ l, rs.map Sb.sl = l := ⟨_, rfl⟩
        rw [hl] at HD HPI
        have hln : l.length = nl := by rw [← hl, List.length_map]; exact hnl
        have hlm : nl ≤ 256 := by rw [← hln]; exact Sb.ok_count HD.out.k
        have HSL := Lib.hid (fun W (h : Sb.OwnC W w.heap.size (.slice aV nl cV) rs) => (show Sb.Slabs W aV l from by
          obtain ⟨aV', cV', e, _, _, _, hs⟩ := h.slabs hnl
          cases e
          rw [hl] at hs
          exact hs))
        have HOB := Lib.hid (show ∀ W, Sb.OwnC W w.heap.size (.slice aV nl cV) rs → Calls Tryz.prog 9 #[.agg (scC o (.slice aV nl cV)).toArray] W (fun e w' => ∃ v, e = .returned v ∧ Sb.OwnI w' W.heap.size v (Go.Slb.objs o true l) ∧ Below W.heap.size W w') from fun W h => by
          have := Sb.objects_30 o aV l nl cV W (HSL.out W h) hln (by omega)
          rw [if_pos (Go.Slb.check_ok.2 HD.out.k)] at this
          exact this)
        have HLN := Lib.hid hln
        have HL := Lib.hid hl
        clear hl hnl hln
        go_upto_region 13 with fail
        clear c0
        go_wp2_with ((with_reducible refine ldSC ?_ G7.x5 ?_); (focus rfl))
        refine (HOB.out wr G7.c).mono ?_
        rintro e w2 ⟨v, rfl, hI, b2⟩
        obtain ⟨m, hm⟩ : ∃ m, (Go.Slb.objs o true l).length = m := ⟨_, rfl⟩
        obtain ⟨av, cv, rfl, _, _, _, hints⟩ := hI.ints hm
        have G8 := G7.below b2
        replace c1 := cell_later b2 c1
        have HM := Lib.hid hm
        clear G7 HOB hI b2 hm
        by_cases hm0 : m = 0
        · have t0 : ((m : Int) == 0) = true := by simp; omega
          have HNP := Lib.hid (HP.out.idle i x y l HX.out (by omega) HPI.out HD.out.k (List.eq_nil_of_length_eq_zero (by rw [HM.out]; exact hm0)))
          clear hints hm0 c1
          go_wp2
          go_roundg gg
          case rel => exact ⟨i + 1, s, zc, ccs, a, _, rs, by have := HI.out; omega, by go_num, G8, by rw [HL.out]; exact HD.out, by rw [HL.out]; exact HNP.out⟩
          case measure => omega
        · have t0 : ((m : Int) == 0) = false := by simp; omega
          obtain ⟨k, hk⟩ : ∃ k : Nat, y % (m : Int) = (k : Int) := ⟨(y % (m : Int)).toNat, by have := Int.emod_nonneg y (show (m : Int) ≠ 0 by omega); omega⟩
          have hkm : k < m := by have := Int.emod_lt_of_pos y (show (0 : Int) < m by omega); omega
          obtain ⟨q, hq⟩ := get_some HM.out hkm
          obtain ⟨vb, vo, hav, hnt⟩ := hints (by rw [HM.out]; omega)
          subst hav
          have d1 := hnt k (by rw [HM.out]; exact hkm)
          rw [getD_of hq] at d1
          have hqm := List.mem_of_getElem? hq
          have hq0 : 0 ≤ q ∧ q ≤ 16384 := by
            obtain ⟨_, s0, h1, h2, h3, _⟩ := HD.out.k.slab hqm
            have hf := HD.out.k.fr s0 (List.mem_of_getElem? h1)
            have ho1 := HD.out.k.o1; have ho2 := HD.out.k.o2
            have h4 := Int.lt_ediv_add_one_mul_self q (show 0 < o by omega)
            have h5 : (q / o + 1) * o ≤ 256 * 32 := Int.mul_le_mul (by omega) ho2 (by omega) (by omega)
            exact ⟨h3, by omega⟩
          obtain ⟨ff, hff⟩ : ∃ f, Go.Slb.freeF o l q = f := ⟨_, rfl⟩
          have HFR := Lib.hid (show ∀ W, Sb.OwnC W w.heap.size (.slice aV nl cV) rs → Calls Tryz.prog 10 #[.agg (scC o (.slice aV nl cV)).toArray, .int .i64 q] W (fun e w' => ∃ V' rs', e = .returned (.tuple #[.agg (scC o V').toArray, .int .i64 ff, .int .i64 0]) ∧ Sb.OwnC w' W.heap.size V' rs' ∧ rs'.map Sb.sl = Go.Slb.freeL o l q ∧ Below W.heap.size W w') from fun W h => by
            refine (Sb.free_22 o aV l nl cV q W (HSL.out W h) HLN.out (by omega) (by omega) (by omega)).mono fun e w' hh => ?_
            rw [Sb.freeP_ok (Go.Slb.check_ok.2 HD.out.k) hqm, hff] at hh
            obtain ⟨V', rs', rfl, h1, h2, h3⟩ := hh
            exact ⟨V', rs', by simp [scC], h1, h2, h3⟩)
          have HNP := Lib.hid (HP.out.free i x y l m k q HX.out (by omega) HPI.out HD.out.k HM.out hk hq)
          have HQ := Lib.hid hqm; have HFF := Lib.hid hff
          have HCL2 := Lib.hid (fun W (b : Below w2.heap.size w2 W) => And.intro (cell_later b c1) (cell_later b d1))
          clear hm0 hq hqm hff hints hnt HCL hq0
          go_upto_region 15 with fail
          go_cut [16, 17, 18] from 78 to 95 (fun v16 v17 v18 W => ∃ (g16 : Nat) (V' : Value) (rs' : List Sb.R), v16 = .pointer (some ⟨g16, 0, none⟩) ∧ v17 = .int .i64 ff ∧ v18 = .int .i64 0 ∧ GM w gA gC g8 g9 w.heap.size s zc ccs a o (.slice aV nl cV) rs W ∧ Blk W g16 31 (scC o V') ∧ Sb.OwnC W w.heap.size V' rs' ∧ rs'.map Sb.sl = Go.Slb.freeL o l q ∧ g16 ≠ gC)
          case first =>
            refine wp_region_plan3 (S15 gC (scC o (.slice aV nl cV)) bo (oo + i * 2 + 1) y vb (vo + k) q) (.quiet [0, 1, 2, 3, 4, 5, 6, 7, 8, 9, 10, 11, 12] (.fork 13 (.quiet [14, 15, 16, 17] (.only 18 (.only 19 (.quiet [20, 21] .done)))) 18 (.only 13 (.quiet [14, 15, 16, 17] (.only 19 (.quiet [20, 21] .done)))))) 99 (by kernel_rfl) (by kernel_rfl) ⟨G8.x5.later (Below.refl _ _).drew, cell_later (Below.refl _ _).drew c1, cell_later (Below.refl _ _).drew d1⟩ ?_
            intro W1 hWW hWe
            have bW : Below w2.heap.size w2 W1 := by rw [hWe]; exact (Below.refl _ _).drew
            clear hWe
            have X1 := G8.below bW
            have e1 := bW
            replace c1 := cell_later bW c1
            replace d1 := cell_later bW d1
            clear G8 bW
            simp only [wpPlanT, inOrder, List.filterMap_cons, List.filterMap_nil, List.getElem?_cons_zero, List.getElem?_cons_succ]
            have q1 := fun z => (hold_ok (S0 := S15 gC (scC o (.slice aV nl cV)) bo (oo + i * 2 + 1) y vb (vo + k) q) hWW z).1
            have q2 := fun z => (hold_ok (S0 := S15 gC (scC o (.slice aV nl cV)) bo (oo + i * 2 + 1) y vb (vo + k) q) hWW z).2.1
            have q3 := fun z => (hold_ok (S0 := S15 gC (scC o (.slice aV nl cV)) bo (oo + i * 2 + 1) y vb (vo + k) q) hWW z).2.2
            show wpQuiet _ _ _ _ (_ :: _ :: _ :: _ :: _ :: _ :: _ :: _ :: _ :: _ :: _ :: _ :: [_]) _
            refine ldQC infoSC rfl rfl (fun U ⟨z, hz⟩ => by rw [hz]; exact q1 z) ?_
            simp only [Act.put, List.setIfInBounds_toArray, List.set_cons_succ, List.set_cons_zero]
            repeat (go_big_quiet_step (fail))
            refine wpQuiet_nil ?_
            clear q1 q2 q3 hWW
            refine ⟨?_, ?_⟩
            · skip
              show wpList _ _ _ [_] _ _
              go_wp2_with fail
              refine (HFR.out W1 X1.c).mono ?_
              rintro e W2 ⟨V', rs', rfl, CV', hsl', bC⟩
              have X2 := X1.below bC
              have HS := Lib.hid hsl'
              have HV1 := CV'.one
              replace CV' := CV'.weaken X1.b.size
              replace c1 := cell_later bC c1
              replace d1 := cell_later bC d1
              replace e1 := below_then e1 bC
              clear hsl'
              go_wp2
              refine ⟨hold_of (S0 := S15 gC (scC o (.slice aV nl cV)) bo (oo + i * 2 + 1) y vb (vo + k) q) ⟨X2.x5, c1, d1⟩, ?_⟩
              show wpQuiet _ _ _ _ (_ :: _ :: _ :: [_]) _
              repeat (go_big_quiet_step (fail))
              refine wpQuiet_nil ?_
              show wpList _ _ _ [_] _ _
              have A18 := Blk.new W2 31 #[.int .i64 0, .slice none 0 0] (scC 0 (.slice none 0 0)) rfl
              have bB := below_box W2 (.cells #[.int .i64 0, .slice none 0 0] 31)
              have X3 := X2.below bB
              replace c1 := cell_later bB c1
              replace d1 := cell_later bB d1
              go_wp2
              refine ⟨hold_of (S0 := S15 gC (scC o (.slice aV nl cV)) bo (oo + i * 2 + 1) y vb (vo + k) q) ⟨X3.x5, c1, d1⟩, ?_⟩
              obtain ⟨W3, hwA⟩ : ∃ U, U = W2.alloc (.cells #[.int .i64 0, .slice none 0 0] 31) := ⟨_, rfl⟩
              obtain ⟨g16, hgp⟩ : ∃ g, W2.heap.size = g := ⟨_, rfl⟩
              rw [← hwA] at A18 bB X3 c1 d1 ⊢
              rw [hgp] at A18 ⊢
              have l13 : w.heap.size ≤ g16 := by rw [← hgp]; exact X2.b.size
              have l16 : w2.heap.size ≤ g16 := by rw [← hgp]; exact e1.size
              replace e1 := below_then e1 bB
              have n13a : g16 ≠ gC := by have := X2.x5.lt; omega
              have n13b : g16 ≠ g9 := by have := X2.z9.lt; omega
              clear hwA hgp
              replace CV' := CV'.later bB
              show wpList _ _ _ [_] _ _
              go_wp2_with ((with_reducible refine stSC (o := o) (V := V') ?_ ?_ A18 rfl HV1 ?_); (focus rfl); (focus rfl); intro w6 hB6 hg6)
              have X6 := X3.cset A18 n13a n13b l13 hg6
              replace CV' := CV'.past A18 (by decide) (by decide) hg6
              replace e1 := e1.grown hg6 e1.size (fun q hq => by cases hq; exact l16)
              clear A18 hg6 X3
              refine ⟨hold_of (S0 := S15 gC (scC o (.slice aV nl cV)) bo (oo + i * 2 + 1) y vb (vo + k) q) ⟨X6.x5, (HCL2.out w6 e1).1, (HCL2.out w6 e1).2⟩, ?_⟩
              show wpQuiet _ _ _ _ (_ :: [_]) _
              simp only [Act.put]
              repeat (go_big_quiet_step (fail))
              refine wpQuiet_nil ?_
              refine NoPanic.normal ?_
              clear c1 d1
              go_wp2
              go_meet
              case rel => exact ⟨g16, V', rs', rfl, rfl, rfl, X6, hB6, CV', HS.out, n13a⟩
            · skip
              show wpList _ _ _ [_] _ _
              have A18 := Blk.new W1 31 #[.int .i64 0, .slice none 0 0] (scC 0 (.slice none 0 0)) rfl
              have bB := below_box W1 (.cells #[.int .i64 0, .slice none 0 0] 31)
              have X2 := X1.below bB
              replace c1 := cell_later bB c1
              replace d1 := cell_later bB d1
              go_wp2
              refine ⟨hold_of (S0 := S15 gC (scC o (.slice aV nl cV)) bo (oo + i * 2 + 1) y vb (vo + k) q) ⟨X2.x5, c1, d1⟩, ?_⟩
              obtain ⟨W2, hwA⟩ : ∃ U, U = W1.alloc (.cells #[.int .i64 0, .slice none 0 0] 31) := ⟨_, rfl⟩
              obtain ⟨g16, hgp⟩ : ∃ g, W1.heap.size = g := ⟨_, rfl⟩
              rw [← hwA] at A18 bB X2 c1 d1 ⊢
              rw [hgp] at A18 ⊢
              have l13 : w.heap.size ≤ g16 := by rw [← hgp]; exact X1.b.size
              have l16 : w2.heap.size ≤ g16 := by rw [← hgp]; exact e1.size
              replace e1 := below_then e1 bB
              have n13a : g16 ≠ gC := by have := X1.x5.lt; omega
              have n13b : g16 ≠ g9 := by have := X1.z9.lt; omega
              clear hwA hgp
              show wpList _ _ _ [_] _ _
              go_wp2_with fail
              refine (HFR.out W2 X2.c).mono ?_
              rintro e W3 ⟨V', rs', rfl, CV', hsl', bC⟩
              have X3 := X2.below bC
              have HS := Lib.hid hsl'
              have HV1 := CV'.one
              replace CV' := CV'.weaken X2.b.size
              replace c1 := cell_later bC c1
              replace d1 := cell_later bC d1
              replace e1 := below_then e1 bC
              clear hsl'
              go_wp2
              refine ⟨hold_of (S0 := S15 gC (scC o (.slice aV nl cV)) bo (oo + i * 2 + 1) y vb (vo + k) q) ⟨X3.x5, c1, d1⟩, ?_⟩
              show wpQuiet _ _ _ _ (_ :: _ :: _ :: [_]) _
              repeat (go_big_quiet_step (fail))
              refine wpQuiet_nil ?_
              replace A18 := A18.later bC
              show wpList _ _ _ [_] _ _
              go_wp2_with ((with_reducible refine stSC (o := o) (V := V') ?_ ?_ A18 rfl HV1 ?_); (focus rfl); (focus rfl); intro w6 hB6 hg6)
              have X6 := X3.cset A18 n13a n13b l13 hg6
              replace CV' := CV'.past A18 (by decide) (by decide) hg6
              replace e1 := e1.grown hg6 e1.size (fun q hq => by cases hq; exact l16)
              clear A18 hg6 X3
              refine ⟨hold_of (S0 := S15 gC (scC o (.slice aV nl cV)) bo (oo + i * 2 + 1) y vb (vo + k) q) ⟨X6.x5, (HCL2.out w6 e1).1, (HCL2.out w6 e1).2⟩, ?_⟩
              show wpQuiet _ _ _ _ (_ :: [_]) _
              simp only [Act.put]
              repeat (go_big_quiet_step (fail))
              refine wpQuiet_nil ?_
              refine NoPanic.normal ?_
              clear c1 d1
              go_wp2
              go_meet
              case rel => exact ⟨g16, V', rs', rfl, rfl, rfl, X6, hB6, CV', HS.out, n13a⟩
          case rest =>
            clear G8 HFR c1 d1 HCL2
            obtain ⟨g16, V', rs', rfl, rfl, rfl, GX, X16, CV', hs', n16⟩ := hcut
            have HV1 := CV'.one
            have HSF := Lib.hid hs'
            clear hs'
            go_upto_region 19 with first | ((with_reducible refine ldSC ?_ X16 ?_); (focus rfl)) | ((with_reducible refine stSC (o := o) (V := V') ?_ ?_ GX.x5 rfl HV1 ?_); (focus rfl); (focus rfl); intro w6 hB6 hg6)
            have X6 := GX.cput hB6 CV' hg6
            clear GX X16 CV' hB6 hg6 n16
            by_cases hk1 : ff = -1
            · have HDK := Lib.hid (HD.out.keep HQ.out (by rw [HFF.out]; exact hk1))
              have tk : decide ((0 : Int) ≤ ff) = false := by simp; omega
              clear hk1
              go_wp2
              go_roundg gg
              case rel => exact ⟨i + 1, s, zc, ccs, a, V', rs', by have := HI.out; omega, by go_num, X6, by rw [HSF.out]; exact HDK.out, by rw [HSF.out]; exact HNP.out⟩
              case measure => omega
            · obtain ⟨⟨f1, f2, f3⟩, f4⟩ := HD.out.leave HQ.out (by rw [HFF.out]; exact hk1)
              rw [HFF.out] at f1 f2 f3 f4
              have HDL := Lib.hid f4
              have tk : decide ((0 : Int) ≤ ff) = true := by simp; omega
              have HFA := Lib.hid (freeA (.agg (s.cells a.bt a.hi).toArray) a cn 0 ff w6 ⟨s, zc, ccs, rfl, X6.v⟩ HD.out.v (by rw [HD.out.s.nc]; exact hc2) (by rw [HD.out.s.nz]; omega) (HD.out.s.in0.2 ⟨f1, f2⟩) f3)
              clear hk1 f3 f4
              go_wp2_with ((with_reducible refine lda ?_ X6.x4 ?_); (focus rfl))
              refine HFA.out.mono ?_
              rintro e w7 ⟨_, a7, rfl, ⟨s7, zc7, ccs7, rfl, A7⟩, hmore, b7⟩
              have HD7 := Lib.hid (HDL.out a7 hmore)
              have X7 := X6.below b7
              clear X6 b7 hmore HFA HDL
              go_upto_region 21 with ((with_reducible refine stA (s := s7) (bt := a7.bt) (hi := a7.hi) ?_ ?_ X7.x4 rfl ?_); (focus rfl); (focus rfl); intro w8 hB8 hg8)
              have X8 := X7.aput hB8 A7 hg8
              clear X7 hB8 hg8 A7
              go_wp2
              go_roundg gg
              case rel => exact ⟨i + 1, s7, zc7, ccs7, a7, V', rs', by have := HI.out; omega, by go_num, X8, by rw [HSF.out]; exact HD7.out, by rw [HSF.out]; exact HNP.out⟩
              case measure => omega
end Go.Proofs.YtdddkfpcbfgocaaGreat
