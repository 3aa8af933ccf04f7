/- The memory of an allocation: what a taking of objects changes, and what it keeps; the two tests of frames. -/
import Derived.Test.YthhdiiboblaclaaW15
namespace Go.Proofs.Ythhdiiboblaclaa
open Go.RowKit Go.Over Go.Slb Go.Seg Go.Grow
/-- One slab's taking, where the frame is wanted. -/
def tkW (b : Bool) (f o : Int) (k n : Nat) (u : List Bool) : List Bool × List Int := if b = true then tkU f o k n u else (u, [])
theorem tkW_nil {b : Bool} {f o : Int} {k n : Nat} : tkW b f o k n [] = ([], []) := by cases b <;> rfl
theorem tkW_hit {f o : Int} {k n : Nat} {r : List Bool} (h : 0 < n) : tkW true f o k n (false :: r) = (true :: (tkW true f o (k + 1) (n - 1) r).1, (f * o + k) :: (tkW true f o (k + 1) (n - 1) r).2) := by
  show tkU f o k n (false :: r) = _
  unfold tkU
  rw [if_pos ⟨h, rfl⟩]; rfl
theorem tkW_miss {b : Bool} {f o : Int} {k n : Nat} {x : Bool} {r : List Bool} (h : ¬ (b = true ∧ 0 < n ∧ x = false)) : tkW b f o k n (x :: r) = (x :: (tkW b f o (k + 1) n r).1, (tkW b f o (k + 1) n r).2) := by
  cases b with
  | false => rfl
  | true =>
    show tkU f o k n (x :: r) = _
    unfold tkU
    rw [if_neg (fun hh => h ⟨rfl, hh⟩)]; rfl
theorem tk_cons {o : Int} {want : Int → Bool} {n : Nat} {s : S} {r : List S} : tk o want n (s :: r) = ((s.1, (tkW (want s.1) s.1 o 0 n s.2).1) :: (tk o want (n - (tkW (want s.1) s.1 o 0 n s.2).2.length) r).1, (tkW (want s.1) s.1 o 0 n s.2).2 ++ (tk o want (n - (tkW (want s.1) s.1 o 0 n s.2).2.length) r).2) := by
  unfold tkW
  by_cases h : want s.1 = true
  · rw [if_pos h]
    show (if want s.1 = true then _ else _) = _
    rw [if_pos h]
  · rw [if_neg h]
    show (if want s.1 = true then _ else _) = _
    rw [if_neg h]; rfl
/-- The state of a taking inside a slab: what is behind, the flags done, the list so far; what is ahead. -/
def Mid (o : Int) (want : Int → Bool) (N : Nat) (T : List S × List Int) (P : List S) (f : Int) (b : Bool) (j : Nat) (p q : List Bool) (L : List Int) (l' : List S) : Prop :=
  T = (P ++ (f, p ++ (tkW b f o j (N - L.length) q).1) :: (tk o want (N - (L.length + (tkW b f o j (N - L.length) q).2.length)) l').1, L ++ ((tkW b f o j (N - L.length) q).2 ++ (tk o want (N - (L.length + (tkW b f o j (N - L.length) q).2.length)) l').2))
theorem Mid.start {o : Int} {want : Int → Bool} {N : Nat} {T : List S × List Int} {P : List S} {s : S} {L : List Int} {l' : List S} (h : T = (P ++ (tk o want (N - L.length) (s :: l')).1, L ++ (tk o want (N - L.length) (s :: l')).2)) : Mid o want N T P s.1 (want s.1) 0 [] s.2 L l' := by
  unfold Mid
  rw [h, tk_cons]
  simp only [List.nil_append, Nat.sub_sub]
theorem Mid.hit {o : Int} {want : Int → Bool} {N : Nat} {T : List S × List Int} {P : List S} {f : Int} {j : Nat} {p q : List Bool} {L : List Int} {l' : List S} (h : Mid o want N T P f true j p (false :: q) L l') (hN : L.length < N) :
    Mid o want N T P f true (j + 1) (p ++ [true]) q (L ++ [f * o + (j : Int)]) l' := by
  unfold Mid at h ⊢
  rw [tkW_hit (by omega)] at h
  have e : N - L.length - 1 = N - (L ++ [f * o + (j : Int)]).length := by simp; omega
  rw [e] at h
  rw [h]
  have e2 : ∀ x : Nat, L.length + (x + 1) = (L ++ [f * o + (j : Int)]).length + x := by intro x; simp; omega
  simp only [List.length_cons, e2, List.append_assoc, List.cons_append, List.nil_append]
theorem Mid.miss {o : Int} {want : Int → Bool} {N : Nat} {T : List S × List Int} {P : List S} {f : Int} {b x : Bool} {j : Nat} {p q : List Bool} {L : List Int} {l' : List S} (h : Mid o want N T P f b j p (x :: q) L l') (hN : ¬ (b = true ∧ L.length < N ∧ x = false)) :
    Mid o want N T P f b (j + 1) (p ++ [x]) q L l' := by
  unfold Mid at h ⊢
  rw [tkW_miss (fun hh => hN ⟨hh.1, by omega, hh.2.2⟩)] at h
  rw [h]
  simp only [List.append_assoc, List.cons_append, List.nil_append]
theorem Mid.stop {o : Int} {want : Int → Bool} {N : Nat} {T : List S × List Int} {P : List S} {f : Int} {b : Bool} {j : Nat} {p : List Bool} {L : List Int} {l' : List S} (h : Mid o want N T P f b j p [] L l') :
    T = (P ++ [(f, p)] ++ (tk o want (N - L.length) l').1, L ++ (tk o want (N - L.length) l').2) := by
  unfold Mid at h
  rw [tkW_nil] at h
  rw [h]
  simp
/-- Only the blocks of a list, of those that were there, are changed. -/
structure Only (gs : List Nat) (w w' : World) : Prop where
  os : w'.os = w.os
  tape : w'.tape = w.tape
  output : w'.output = w.output
  size : w.heap.size ≤ w'.heap.size
  block : ∀ k, k < w.heap.size → k ∉ gs → w'.heap[k]? = w.heap[k]?
theorem Only.refl (gs : List Nat) (w : World) : Only gs w w := ⟨rfl, rfl, rfl, Nat.le_refl _, fun _ _ _ => rfl⟩
theorem Only.then {gs : List Nat} {w w1 w2 : World} (h : Only gs w w1) (h' : Below w1.heap.size w1 w2) : Only gs w w2 :=
  ⟨h'.os.trans h.os, h'.tape.trans h.tape, h'.output.trans h.output, Nat.le_trans h.size h'.size, fun k hk hn => (h'.block k (by have := h.size; omega)).trans (h.block k hk hn)⟩
theorem Only.grown {gs : List Nat} {w w1 w2 : World} {row : Option Nat} (h : Only gs w w1) (h' : w1.grownBy w2 row) (hr : ∀ k, row = some k → w.heap.size ≤ k ∨ k ∈ gs) : Only gs w w2 := by
  refine ⟨h'.os.trans h.os, h'.tape.trans h.tape, h'.output.trans h.output, Nat.le_trans h.size h'.size, fun k hk hn => ?_⟩
  refine (h'.block k (by have := h.size; omega) (fun e => ?_)).trans (h.block k hk hn)
  rcases hr k e.symm with h1 | h1
  · omega
  · exact hn h1
theorem Only.trans {gs : List Nat} {w w1 w2 : World} (h : Only gs w w1) (h' : Only gs w1 w2) : Only gs w w2 :=
  ⟨h'.os.trans h.os, h'.tape.trans h.tape, h'.output.trans h.output, Nat.le_trans h.size h'.size, fun k hk hn => (h'.block k (by have := h.size; omega) hn).trans (h.block k hk hn)⟩
theorem Only.below {gs : List Nat} {w w' : World} {B : Nat} (h : Only gs w w') (hg : ∀ g ∈ gs, B ≤ g) (hB : B ≤ w.heap.size) : Below B w w' :=
  ⟨h.os, h.tape, h.output, h.size, fun k hk => h.block k (by omega) (fun hm => by have := hg k hm; omega)⟩
theorem blk_only {gs : List Nat} {w w' : World} {g : Nat} {t : TypeId} {cs : List Value} (h : Blk w g t cs) (ho : Only gs w w') (hn : g ∉ gs) : Blk w' g t cs := by
  unfold Blk at h ⊢
  rw [ho.block g (by have := Blk.lt (w := w) (g := g) (t := t) (cs := cs) h; exact this) hn]; exact h
theorem OwnC.not_in {w : World} {base : Nat} {V : Value} {rs : List R} (h : OwnC w base V rs) {g : Nat} {t : TypeId} {cs : List Value} (hb : Blk w g t cs) (ht : t ≠ 4) : g ∉ rs.map (·.2.2.1) := by
  intro hm
  obtain ⟨r, hr, rfl⟩ := List.mem_map.1 hm
  exact hb.not_own (h.inn r hr) (Ne.symm ht) rfl
theorem OwnC.gs_low {w : World} {base : Nat} {V : Value} {rs : List R} (h : OwnC w base V rs) : ∀ g ∈ rs.map (·.2.2.1), base ≤ g := by
  intro g hm
  obtain ⟨r, hr, rfl⟩ := List.mem_map.1 hm
  exact (World.ownsRow.lt (h.inn r hr) _ rfl).1
/-- What the two tests of frames read. -/
structure Env (w : World) (base X Y : Nat) (a : Option Addr) (m c : Nat) (F : List Int) : Prop where
  bx : Blk w X 31 [.slice a m c]
  fy : Blk w Y 58 [.func (.func 38) #[] #[.pointer (some ⟨X, 0, none⟩)]]
  ints : Ints w a F
  len : F.length = m
  low : 0 < F.length → ∀ b off, a = some ⟨b, off, none⟩ → b < base
  base : base ≤ w.heap.size
theorem Env.only {w w' : World} {base X Y : Nat} {a : Option Addr} {m c : Nat} {F : List Int} {V : Value} {rs : List R} (h : Env w base X Y a m c F) (hO : OwnC w base V rs) (ho : Only (rs.map (·.2.2.1)) w w') : Env w' base X Y a m c F := by
  refine ⟨blk_only h.bx ho (hO.not_in h.bx (by decide)), blk_only h.fy ho (hO.not_in h.fy (by decide)), ?_, h.len, h.low, Nat.le_trans h.base ho.size⟩
  intro h0
  obtain ⟨b, off, rfl, hc⟩ := h.ints h0
  refine ⟨b, off, rfl, fun i hi => ?_⟩
  have hbl := ho.below hO.gs_low h.base
  rw [hbl.cell (h.low h0 b off rfl)]; exact hc i hi
theorem Env.later {w w' : World} {base X Y : Nat} {a : Option Addr} {m c : Nat} {F : List Int} (h : Env w base X Y a m c F) (hb : Below w.heap.size w w') : Env w' base X Y a m c F :=
  ⟨h.bx.later hb, h.fy.later hb, h.ints.below hb, h.len, h.low, Nat.le_trans h.base hb.size⟩
set_option maxRecDepth 100000 in set_option maxHeartbeats 1600000 in
theorem fresh_38 (base X Y : Nat) (a : Option Addr) (m c : Nat) (F : List Int) (f : Int) (w : World) (E : Env w base X Y a m c F) (hm : m ≤ 1000000) :
    Calls Try.prog 38 #[.int .i64 f, .pointer (some ⟨X, 0, none⟩)] w fun e w' => e = .returned (.bool (F.contains f)) ∧ w = w' := by
  have hI := contains_39 a F m c f w E.ints E.len hm
  have c0 : w.cell? ⟨X, 0, none⟩ = some (.slice a m c) := E.bx.cell 0
  obtain ⟨r, hr⟩ : ∃ r, F.contains f = r := ⟨_, rfl⟩
  rw [hr] at hI ⊢
  have HI := Lib.hid hI; clear hI hr E
  go_enter Try.func38, Try.ntmps38
  go_wp2_with (go_at_call 39; refine HI.out.mono ?_; rintro e w' ⟨rfl, rfl⟩)
  go_ret
  exact ⟨rfl, rfl⟩
set_option maxRecDepth 100000 in set_option maxHeartbeats 1600000 in
theorem stale_41 (base X Y : Nat) (a : Option Addr) (m c : Nat) (F : List Int) (f : Int) (w : World) (E : Env w base X Y a m c F) (hm : m ≤ 1000000) :
    Calls Try.prog 41 #[.int .i64 f, .pointer (some ⟨Y, 0, none⟩)] w fun e w' => e = .returned (.bool (!F.contains f)) ∧ w = w' := by
  have hI := fresh_38 base X Y a m c F f w E hm
  have c0 : w.cell? ⟨Y, 0, none⟩ = some (.func (.func 38) #[] #[.pointer (some ⟨X, 0, none⟩)]) := E.fy.cell 0
  obtain ⟨r, hr⟩ : ∃ r, F.contains f = r := ⟨_, rfl⟩
  rw [hr] at hI ⊢
  have HI := Lib.hid hI; clear hI hr E
  go_enter Try.func41, Try.ntmps41
  go_wp2_with (go_at_call 38; refine HI.out.mono ?_; rintro e w' ⟨rfl, rfl⟩)
  go_ret
  exact ⟨rfl, rfl⟩
end Go.Proofs.Ythhdiiboblaclaa
