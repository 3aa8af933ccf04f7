/- The match encoding of the program: packMatches. -/
import Derived.Test.YtaapgfhcnfaemaaFlush
namespace Go.Proofs.Ytaapgfhcnfaemaa
open Go.RowKit Go.Over Go.Zip Go.Seg
/-- The outer loop's state, in plain terms. -/
def MatAt (l : List Int) (i st : Nat) (L : List Int) : Prop := st ≤ i ∧ i ≤ 32 ∧ L.length ≤ 1 + 2 * st ∧ ∃ f, 33 ≤ i + f ∧ L ++ matL l f i st = 2 :: matL l 33 0 0
theorem matL_step {l : List Int} {f i a : Nat} (h : i < l.length) : matL l (f + 1) i a = if (matchL l i).1 < 3 then matL l f (i + 1) a
      else lits l a i ++ (((matchL l i).1 + 29 : Nat) : Int) :: (((matchL l i).2 : Nat) : Int) :: matL l f (i + (matchL l i).1) (i + (matchL l i).1) := by
  simp only [matL]; rw [if_pos h]
theorem matL_end {l : List Int} {f i a : Nat} (h : ¬ i < l.length) : matL l (f + 1) i a = lits l a l.length := by
  simp only [matL]; rw [if_neg h]
theorem lits_length {l : List Int} {a b : Nat} : (lits l a b).length ≤ 2 * (b - a) := by
  unfold lits; split
  · simp; omega
  · simp
theorem MatAt.skip {l : List Int} (hl : l.length = 32) {i st : Nat} {L : List Int} (h : MatAt l i st L) (hi : i < 32) (hm : (matchL l i).1 < 3) : MatAt l (i + 1) st L := by
  obtain ⟨h1, h2, h3, f, h4, h5⟩ := h
  cases f with
  | zero => omega
  | succ f =>
    rw [matL_step (by omega), if_pos hm] at h5
    exact ⟨by omega, by omega, h3, f, by omega, h5⟩
theorem MatAt.take {l : List Int} (hl : l.length = 32) {i st : Nat} {L : List Int} (h : MatAt l i st L) (hi : i < 32) (hm : ¬ (matchL l i).1 < 3) :
    MatAt l (i + (matchL l i).1) (i + (matchL l i).1) ((L ++ lits l st i) ++ [(((matchL l i).1 + 29 : Nat) : Int), (((matchL l i).2 : Nat) : Int)]) := by
  obtain ⟨h1, h2, h3, f, h4, h5⟩ := h
  have h6 := matchL_le (l := l) (i := i) (by omega)
  have h7 := lits_length (l := l) (a := st) (b := i)
  cases f with
  | zero => omega
  | succ f =>
    rw [matL_step (by omega), if_neg hm] at h5
    exact ⟨Nat.le_refl _, by omega, by simp; omega, f, by omega, by simpa using h5⟩
theorem MatAt.fin {l : List Int} (hl : l.length = 32) {i st : Nat} {L : List Int} (h : MatAt l i st L) (hi : ¬ i < 32) : L ++ lits l st 32 = 2 :: matL l 33 0 0 := by
  obtain ⟨h1, h2, h3, f, h4, h5⟩ := h
  cases f with
  | zero => omega
  | succ f =>
    rw [matL_end (by omega), hl] at h5
    exact h5
theorem below_grown {w w' : World} (hb : Below w.heap.size w w') : w.grownBy w' none := ⟨hb.os, hb.tape, hb.output, hb.size, fun k hk _ => hb.block k hk⟩
theorem own_none (v : Value) : v.ownBlock = none ∨ v.ownBlock ≠ none := by cases v.ownBlock <;> simp
theorem St.below {w0 w w' : World} {Bs Bo Ba : Nat} {a : Option Addr} {c st : Nat} {v : Value} {L : List Int} (h : St w0 w Bs Bo Ba a c st v L) (hb : Below w.heap.size w w') : St w0 w' Bs Bo Ba a c st v L :=
  ⟨h.s.kept (below_grown hb) (by simp), h.o.kept (below_grown hb) (by simp), h.a.kept (below_grown hb) (by simp), h.own.kept (below_grown hb) (own_none v), below_then h.b hb, h.no, h.n1, h.n2⟩
theorem St.grow {w0 w w' : World} {Bs Bo Ba : Nat} {a : Option Addr} {c st : Nat} {v : Value} {L : List Int} (h : St w0 w Bs Bo Ba a c st v L) (o : Obj) (hg : (w.alloc o).grownBy w' v.ownBlock) : Keep w0 Bs Bo Ba a c st v w' :=
  Keep.kept (W := w.alloc o) ⟨h.s.alloc o, h.o.alloc o, h.a.alloc o, below_alloc h.b o⟩ hg (h.own.alloc o)
theorem owns_mono {w : World} {b b' : Nat} {v : Value} {l : List Int} (h : Owns w b v l) (hb : b' ≤ b) : Owns w b' v l := by
  obtain ⟨h1, h2⟩ := h
  refine ⟨h1, ?_⟩
  rcases h2 with h2 | ⟨g, cap, cur, rfl, hg, rest⟩
  · exact .inl h2
  · exact .inr ⟨g, cap, cur, rfl, Nat.le_trans hb hg, rest⟩
theorem St.start (w : World) (a : Option Addr) (c : Nat) : St w ((((w.alloc (.cells #[.slice a 32 c] 22)).alloc (.cells #[.int .u8 2] 5)).alloc (.cells #[.slice (some ⟨w.heap.size + 1, 0, none⟩) 1 1] 22)).alloc (.cells #[.int .i64 0] 3))
    (w.heap.size + 1 + 1 + 1) (w.heap.size + 1 + 1) w.heap.size a c 0 (.slice (some ⟨w.heap.size + 1, 0, none⟩) 1 1) [2] := by
  have e1 : (w.alloc (.cells #[.slice a 32 c] 22)).heap.size = w.heap.size + 1 := by simp
  have e2 : ((w.alloc (.cells #[.slice a 32 c] 22)).alloc (.cells #[.int .u8 2] 5)).heap.size = w.heap.size + 2 := by simp
  have e3 : (((w.alloc (.cells #[.slice a 32 c] 22)).alloc (.cells #[.int .u8 2] 5)).alloc (.cells #[.slice (some ⟨w.heap.size + 1, 0, none⟩) 1 1] 22)).heap.size = w.heap.size + 3 := by simp
  refine ⟨?_, ?_, ?_, ?_, below_alloc (below_alloc (below_alloc (below_alloc (Below.refl _ _) _) _) _) _, by omega, by omega, by omega⟩
  · have h := fun t v => Boxed.new (((w.alloc (.cells #[.slice a 32 c] 22)).alloc (.cells #[.int .u8 2] 5)).alloc (.cells #[.slice (some ⟨w.heap.size + 1, 0, none⟩) 1 1] 22)) t v; rw [e3] at h; exact h _ _
  · have h := fun t v => Boxed.new ((w.alloc (.cells #[.slice a 32 c] 22)).alloc (.cells #[.int .u8 2] 5)) t v; rw [e2] at h; exact (h _ _).alloc _
  · exact (((Boxed.new _ _ _).alloc _).alloc _).alloc _
  · have h := owns_lit (w.alloc (.cells #[.slice a 32 c] 22)) 2
    rw [e1] at h
    exact owns_mono ((h.alloc _).alloc _) (by omega)
set_option maxHeartbeats 3200000 in
theorem mats_21 (a : Option Addr) (l : List Int) (c : Nat) (w : World) (H : Bytes w a l) (h : l.length = 32) (hc : 32 ≤ c) (hcm : c ≤ maxLen) :
    Calls Try.prog 21 #[.slice a 32 c] w fun e w' => ∃ v, e = .returned v ∧ Owns w' w.heap.size v (2 :: matL l 33 0 0) ∧ Below w.heap.size w w' := by
  obtain ⟨i0, hi0, hz0, hz1, hz2⟩ := info_parts Try.info5
  have HL := Lib.hid h; clear h
  go_enter Try.func21, Try.ntmps21
  go_wp2
  go_loopg [6] 33 (fun g x wr => ∃ (i st : Nat) (v : Value) (L : List Int), i + g = 33 ∧ x = .int .i64 i ∧ MatAt l i st L ∧ St w wr (w.heap.size + 1 + 1 + 1) (w.heap.size + 1 + 1) w.heap.size a c st v L)
  case atStart => exact ⟨0, 0, _, [2], rfl, rfl, ⟨by omega, by omega, by simp, 33, by omega, rfl⟩, St.start w a c⟩
  case round =>
    obtain ⟨i, st, v, L, hig, rfl, hM, hS⟩ := hrel
    have q1 := hS.a.cell
    have hLl := hM.2.2.1
    have hst := hM.1
    by_cases hi : i < 32
    · cases gk with
      | zero => omega
      | succ g =>
      obtain ⟨n, hn⟩ : ∃ n, n = (matchL l i).1 := ⟨_, rfl⟩
      obtain ⟨o, ho⟩ : ∃ o, o = (matchL l i).2 := ⟨_, rfl⟩
      have hnl := matchL_le (l := l) (i := i) (by have := HL.out; omega)
      have hol := best_bound HL.out hi i
      rw [show best l i i = matchL l i from rfl, ← hn, ← ho] at hol
      rw [← hn, HL.out] at hnl
      have HG := Lib.hid hig; clear hig
      by_cases hm : n < 3
      · have hM2 := hM.skip HL.out hi (by rw [← hn]; exact hm)
        have HN := Lib.hid hn; have HO := Lib.hid ho; clear hn ho
        go_wp2_with (go_at_call 32; refine (match_32 a l c i _ (H.below hS.b) HL.out hi).mono ?_; rintro e w1 ⟨rfl, hb⟩; rw [← HN.out, ← HO.out])
        go_roundg g
        case rel => exact ⟨i + 1, st, v, L, by have := HG.out; omega, by go_num, hM2, hS.below hb⟩
        case measure => omega
      · have hM2 := hM.take HL.out hi (by rw [← hn]; exact hm)
        have hll := lits_length (l := l) (a := st) (b := i)
        rw [← hn, ← ho] at hM2
        have HN := Lib.hid hn; have HO := Lib.hid ho; have HM := Lib.hid hM2; clear hn ho hM2
        have hn9 : (n : Int) ≤ 32 := by omega
        have ho9 : (o : Int) ≤ 32 := by omega
        go_wp2_with (first | (go_at_call 32; refine (match_32 a l c i _ (H.below hS.b) HL.out hi).mono ?_; rintro e w1 ⟨rfl, hb⟩; rw [← HN.out, ← HO.out]) | (go_at_call 31; refine (flush_any w a c l H HL.out hc hcm w1 st i _ _ _ v L (hS.below hb) (by omega) (by omega)).mono ?_; rintro e w2 ⟨rfl, v2, hS2⟩; have q2 := hS2.o.cell) | (at_builtin; refine wpList_append_own _ rfl (.tmp 28) (.tmp 34) 22 rfl w.heap.size 5 i0 (.int .u8 0) 1 1 Try.underlying22 hi0 hz0 hz1 hz2 rfl (by decide) _ _ _ rfl (hS2.own.alloc _) ⟨w2.heap.size, 0, none⟩ 2 2 [.int .u8 ((n + 29 : Nat) : Int), .int .u8 o] rfl ?c1 (two_cells w2 _ _) ?c2 ?c3 ?c4 ?c5 ?_))
        case c1 => rfl
        case c2 => exact u8_one [((n + 29 : Nat) : Int), (o : Int)]
        case c3 => simp only [List.length_append]; unfold maxLen; omega
        case c4 => simp only [List.length_append]; omega
        case c5 => have := hS2.b.size; simp; omega
        intro v3 w3 hown hgrow _
        have hK := hS2.grow _ hgrow
        have hO3 : Owns w3 w.heap.size v3 ((L ++ lits l st i) ++ [((n + 29 : Nat) : Int), (o : Int)]) := by
          unfold Owns
          simpa [Nat.add_assoc] using hown
        clear hown hgrow
        have hO4 := hO3
        unfold Owns at hO4
        rw [show ((L ++ lits l st i) ++ [((n + 29 : Nat) : Int), (o : Int)]).length = ((L ++ lits l st i).length + 1) + 1 by rw [List.length_append]; rfl] at hO4
        obtain ⟨g', cap, rfl⟩ := ownsRow_succ hO4
        clear hO4
        obtain ⟨k, hk⟩ : ∃ k, k = (L ++ lits l st i).length + 1 := ⟨_, rfl⟩
        rw [← hk] at hO3 ⊢
        clear hk
        have q3 := hK.2.1.cell
        have q4 := hK.2.1.frozen
        have hg1 := grownBy_setCell' w3 (w.heap.size + 1 + 1) (.slice (some ⟨g', 0, none⟩) (k + 1) cap)
        have b1 := hK.1.kept hg1 (by simp)
        have b2 := hK.2.1.set (.slice (some ⟨g', 0, none⟩) (k + 1) cap)
        have b3 := hK.2.2.1.kept hg1 (by simp; omega)
        have o1 := hO3.kept hg1 (.inr (hK.2.1.not_row (by decide) hO3).symm)
        have q5 := b1.cell
        have q6 := b1.frozen
        have hg2 := grownBy_setCell' (w3.setCell ⟨w.heap.size + 1 + 1, 0, none⟩ (.slice (some ⟨g', 0, none⟩) (k + 1) cap)) (w.heap.size + 1 + 1 + 1) (.int .i64 ((i + n : Nat) : Int))
        have S5 : St w _ (w.heap.size + 1 + 1 + 1) (w.heap.size + 1 + 1) w.heap.size a c (i + n) (.slice (some ⟨g', 0, none⟩) (k + 1) cap) _ :=
          ⟨b1.set _, b2.kept hg2 (by simp), b3.kept hg2 (by simp; omega), o1.kept hg2 (.inr (b1.not_row (by decide) o1).symm), (hK.2.2.2.setCell (p := ⟨w.heap.size + 1 + 1, 0, none⟩) (by simp; omega) _).setCell (p := ⟨w.heap.size + 1 + 1 + 1, 0, none⟩) (by simp; omega) _, by omega, by omega, by omega⟩
        clear hg1 hg2 b1 b2 b3 o1 hK hO3
        rw [Int.natCast_add] at S5
        go_wp2
        go_roundg (g + 1 - n)
        case rel => exact ⟨i + n, i + n, _, _, by have := HG.out; omega, by go_num, HM.out, S5⟩
        case measure => omega
    · obtain rfl : i = 32 := by have := hM.2.1; omega
      have hF := hM.fin HL.out hi
      have HF := Lib.hid hF; clear hF
      go_wp2_with (go_at_call 31; refine (flush_any w a c l H HL.out hc hcm wr st 32 _ _ _ v L hS (by omega) (by omega)).mono ?_; rintro e w2 ⟨rfl, v2, hS2⟩; have q2 := hS2.o.cell)
      go_ret
      have hO := hS2.own
      rw [HF.out] at hO
      exact ⟨v2, rfl, hO, hS2.b⟩
end Go.Proofs.Ytaapgfhcnfaemaa
