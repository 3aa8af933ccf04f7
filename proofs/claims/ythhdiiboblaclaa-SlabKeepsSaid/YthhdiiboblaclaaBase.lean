/- Caches in memory. -/
import Derived.Test.YthhdiiboblaclaaOver
import Derived.Test.YthhdiiboblaclaaSeg2
import Derived.Test.YthhdiiboblaclaaRows
import Derived.Test.YthhdiiboblaclaaPure6
import Derived.OwnWalk
import Derived.Deep.LoopGhost
namespace Go.Proofs.Ythhdiiboblaclaa
open Go.RowKit Go.Over Go.Slb Go.Seg
/-- Flags that lie at a. -/
def Flags (w : World) (a : Option Addr) (u : List Bool) : Prop :=
  0 < u.length → ∃ b off, a = some ⟨b, off, none⟩ ∧ ∀ i, i < u.length → w.cell? ⟨b, off + i, none⟩ = some (.bool (u.getD i false))
/-- A slab that lies at place o of block b. -/
def SlabAt (w : World) (b o : Nat) (s : S) : Prop :=
  w.cell? ⟨b, o, none⟩ = some (.int .i64 s.1) ∧ ∃ a c, w.cell? ⟨b, o + 1, none⟩ = some (.slice a s.2.length c) ∧ s.2.length ≤ c ∧ c ≤ maxLen ∧ (a = none → c = 0) ∧ Flags w a s.2
def Slabs (w : World) (a : Option Addr) (l : List S) : Prop :=
  0 < l.length → ∃ b off, a = some ⟨b, off, none⟩ ∧ ∀ i s, l[i]? = some s → SlabAt w b (off + i * 2) s
theorem Flags.below {w w' : World} {a : Option Addr} {u : List Bool} (h : Flags w a u) (hb : Below w.heap.size w w') : Flags w' a u := fun h0 => by
  obtain ⟨b, off, ha, hc⟩ := h h0
  exact ⟨b, off, ha, fun i hi => cell_later hb (hc i hi)⟩
theorem SlabAt.below {w w' : World} {b o : Nat} {s : S} (h : SlabAt w b o s) (hb : Below w.heap.size w w') : SlabAt w' b o s := by
  obtain ⟨h1, a, c, h2, h3, h4, h5, h6⟩ := h
  exact ⟨cell_later hb h1, a, c, cell_later hb h2, h3, h4, h5, h6.below hb⟩
theorem Slabs.below {w w' : World} {a : Option Addr} {l : List S} (h : Slabs w a l) (hb : Below w.heap.size w w') : Slabs w' a l := fun h0 => by
  obtain ⟨b, off, ha, hc⟩ := h h0
  exact ⟨b, off, ha, fun i s hs => (hc i s hs).below hb⟩
/-- Every slab has at most 40 flags, and there are at most n slabs. -/
def fewB : Nat → List S → Bool
  | _, [] => true
  | 0, _ :: _ => false
  | n + 1, s :: r => decide (s.2.length ≤ 40) && fewB n r
/-- A cache's own two cells. -/
theorem box_cells (w : World) (x y : Value) (t : TypeId) : (w.alloc (.cells #[x, y] t)).cell? ⟨w.heap.size, 0, none⟩ = some x ∧ (w.alloc (.cells #[x, y] t)).cell? ⟨w.heap.size, 1, none⟩ = some y := by
  constructor <;> simp [go_sem]
theorem below_box (w : World) (o : Obj) : Below w.heap.size w (w.alloc o) := below_alloc (Below.refl _ _) o
theorem drop_get {α : Type} {l : List α} {i : Nat} {s : α} (h : l[i]? = some s) : l.drop i = s :: l.drop (i + 1) := by
  have hlt : i < l.length := by rw [List.getElem?_eq_some_iff] at h; obtain ⟨h, _⟩ := h; exact h
  rw [List.drop_eq_getElem_cons hlt]
  rw [List.getElem?_eq_getElem hlt] at h
  rw [Option.some.inj h]
theorem get_some {α : Type} {l : List α} {i n : Nat} (hn : l.length = n) (h : i < n) : ∃ s, l[i]? = some s := ⟨l[i]'(by omega), List.getElem?_eq_getElem (by omega)⟩
set_option maxRecDepth 100000 in set_option maxHeartbeats 1600000 in
theorem few_12 (o : Int) (a : Option Addr) (l : List S) (n c : Nat) (w : World) (H : Slabs w a l) (hn : l.length = n) :
    Calls Try.prog 12 #[.agg #[.int .i64 o, .slice a n c], .int .i64 20] w fun e w' => e = .returned (.bool (fewB 20 l)) ∧ Below w.heap.size w w' := by
  have HN := Lib.hid hn; clear hn
  obtain ⟨w1, hw1⟩ : ∃ w1, w1 = w.alloc (.cells #[.int .i64 o, .slice a n c] 24) := ⟨_, rfl⟩
  obtain ⟨k0, k1⟩ := box_cells w (.int .i64 o) (.slice a n c) 24
  have B1 := below_box w (.cells #[.int .i64 o, .slice a n c] 24)
  rw [← hw1] at k0 k1 B1
  have H1 := H.below B1
  have hz1 : w.heap.size < w1.heap.size := by rw [hw1]; simp
  have HW := Lib.hid hw1; clear hw1
  have K0 := Lib.hid k0; have K1 := Lib.hid k1; clear k0 k1
  go_enter Try.func12, Try.ntmps12
  go_wp2
  rw [← HW.out]
  clear HW
  go_loopg [5] 20 (fun g i0 wr => ∃ (i : Nat), i + g = 20 ∧ i ≤ n ∧ i0 = .int .i64 i ∧ fewB 20 l = fewB g (l.drop i) ∧ Below w1.heap.size w1 wr)
  case atStart => exact ⟨0, by omega, by omega, rfl, rfl, Below.refl _ _⟩
  case round =>
    obtain ⟨i, hg, hi, rfl, hF, hb⟩ := hrel
    have c1 := cell_later hb K1.out
    have HF := Lib.hid hF; clear hF
    by_cases hin : i < n
    · by_cases h20 : i < 20
      · obtain ⟨s, hs⟩ := get_some HN.out hin
        obtain ⟨b, off, rfl, hc⟩ := (H1.below hb) (by rw [HN.out]; omega)
        obtain ⟨s0, a', c', s1, hc1, hc2, hc3, hf⟩ := hc i s hs
        obtain ⟨g, rfl⟩ : ∃ g, gk = g + 1 := ⟨gk - 1, by omega⟩
        have HF2 := Lib.hid (show fewB 20 l = (decide (s.2.length ≤ 40) && fewB g (l.drop (i + 1))) by rw [HF.out, drop_get hs]; rfl)
        have HS := Lib.hid hs; have HG := Lib.hid hg
        clear hc hs hg
        by_cases h40 : s.2.length ≤ 40
        · go_wp2
          go_roundg g
          case rel => exact ⟨i + 1, by have := HG.out; omega, by omega, by go_num, by rw [HF2.out]; simp [h40], hb⟩
          case measure => omega
        · go_wp2
          go_ret
          exact ⟨by rw [HF2.out]; simp [h40], below_then B1 hb⟩
      · obtain rfl : i = 20 := by omega
        obtain rfl : gk = 0 := by omega
        have HF2 := Lib.hid (show fewB 20 l = false by
          rw [HF.out]
          obtain ⟨s, hs⟩ := get_some HN.out hin
          rw [drop_get hs]; rfl)
        clear hg
        go_wp2
        go_ret
        exact ⟨by rw [HF2.out]; simp; omega, below_then B1 hb⟩
    · obtain rfl : i = n := by omega
      have HF2 := Lib.hid (show fewB 20 l = true by
        rw [HF.out, List.drop_eq_nil_of_le (by rw [HN.out]; exact Nat.le_refl _)]
        cases gk <;> rfl)
      have hle : (i : Int) ≤ 20 := by omega
      clear hg hin
      go_wp2
      go_ret
      exact ⟨by rw [HF2.out]; rfl, below_then B1 hb⟩
end Go.Proofs.Ythhdiiboblaclaa
