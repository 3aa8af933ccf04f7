/- The match encoding of the reference: matches. -/
import Derived.Test.YtaapgfhcnfaemaaTwo
namespace Go.Proofs.Ytaapgfhcnfaemaa
open Go.RowKit Go.Over Go.Zip Go.Seg
/-- Two rows of the call's own: the tokens so far, and the literals that wait. -/
structure Two (w0 w : World) (v : Value) (L : List Int) (u : Value) (P : List Int) : Prop where
  ov : Owns w w0.heap.size v L
  ou : Owns w w0.heap.size u P
  ap : ∀ k, u.ownBlock = some k → v.ownBlock ≠ some k
  b : Below w0.heap.size w0 w
theorem Two.below {w0 w w' : World} {v u : Value} {L P : List Int} (h : Two w0 w v L u P) (hb : Below w.heap.size w w') : Two w0 w' v L u P :=
  ⟨h.ov.kept (below_grown hb) (own_none v), h.ou.kept (below_grown hb) (own_none u), h.ap, below_then h.b hb⟩
theorem Two.alloc {w0 w : World} {v u : Value} {L P : List Int} (h : Two w0 w v L u P) (o : Obj) : Two w0 (w.alloc o) v L u P := h.below (below_alloc (Below.refl _ _) o)
theorem Two.growV {w0 w w' : World} {v u v' : Value} {L P L' : List Int} (h : Two w0 w v L u P) (hO : Owns w' w0.heap.size v' L') (hg : w.grownBy w' v.ownBlock) (hw : ∀ k, v'.ownBlock = some k → v.ownBlock = some k ∨ w.heap.size ≤ k) : Two w0 w' v' L' u P := by
  refine ⟨hO, h.ou.kept hg ?_, fun k hk hv => ?_, h.b.grown hg h.b.size (fun k hk => (h.ov.lt k hk).1)⟩
  · cases hu : u.ownBlock with
    | none => exact .inl rfl
    | some k => exact .inr (h.ap k hu).symm
  · rcases hw k hv with h1 | h1
    · exact h.ap k hk h1
    · have := (h.ou.lt k hk).2; omega
theorem Two.growU {w0 w w' : World} {v u u' : Value} {L P P' : List Int} (h : Two w0 w v L u P) (hO : Owns w' w0.heap.size u' P') (hg : w.grownBy w' u.ownBlock) (hw : ∀ k, u'.ownBlock = some k → u.ownBlock = some k ∨ w.heap.size ≤ k) : Two w0 w' v L u' P' := by
  refine ⟨h.ov.kept hg ?_, hO, fun k hk hv => ?_, h.b.grown hg h.b.size (fun k hk => (h.ou.lt k hk).1)⟩
  · cases hu : u.ownBlock with
    | none => cases v.ownBlock <;> simp
    | some k => exact .inr (h.ap k hu)
  · rcases hw k hk with h1 | h1
    · exact h.ap k h1 hv
    · have := (h.ov.lt k hv).2; omega
theorem Two.drop {w0 w : World} {v u : Value} {L P : List Int} (h : Two w0 w v L u P) : Two w0 w v L (.slice none 0 0) [] := ⟨h.ov, Owns.nil w _, by simp [Value.ownBlock], h.b⟩
theorem owns_shape {w : World} {base : Nat} {v : Value} (h : Owns w base v []) : ∃ b c, v = .slice b 0 c := by
  rcases h.2 with ⟨rfl, _⟩ | ⟨g, cap, cur, rfl, _⟩
  · exact ⟨_, _, rfl⟩
  · exact ⟨_, _, rfl⟩
def piece (l : List Int) (st i : Nat) : List Int := (l.drop st).take (i - st)
theorem piece_len {l : List Int} {st i : Nat} (h : i ≤ l.length) : (piece l st i).length = i - st := by unfold piece; simp; omega
theorem piece_succ {l : List Int} {st i : Nat} (h : st ≤ i) (hi : i < l.length) : piece l st (i + 1) = piece l st i ++ [get l i] := by
  unfold piece
  rw [show i + 1 - st = (i - st) + 1 by omega, take_succ (by simp; omega)]
  congr 2
  simp only [Zip.get, List.getD_eq_getElem?_getD, List.getElem?_drop]
  rw [show st + (i - st) = i by omega]
theorem piece_self (l : List Int) (i : Nat) : piece l i i = [] := by unfold piece; simp
theorem lits_piece {l : List Int} {st i m : Nat} (h : i - st = m + 1) : lits l st i = [(m : Int)] ++ piece l st i := by
  unfold lits piece; rw [if_pos (by omega), show i - st - 1 = m by omega]; rfl
theorem lits_self (l : List Int) (i : Nat) : lits l i i = [] := by unfold lits; simp
set_option maxHeartbeats 6400000 in
theorem rmats_23 (a : Option Addr) (l : List Int) (c : Nat) (w : World) (H : Bytes w a l) (h : l.length = 32) :
    Calls Try.prog 23 #[.slice a 32 c] w fun e w' => ∃ v, e = .returned v ∧ Owns w' w.heap.size v (2 :: matL l 33 0 0) ∧ Below w.heap.size w w' := by
  obtain ⟨i0, hi0, hz0, hz1, hz2⟩ := info_parts Try.info5
  obtain ⟨b, off, rfl, _⟩ := H.2.1 (by omega)
  have HL := Lib.hid h; clear h
  go_enter Try.func23, Try.ntmps23
  go_wp2
  go_loopg [3, 4, 5] 33 (fun g v0 u0 x wr => ∃ (i st : Nat) (v u : Value) (L : List Int), i + g = 33 ∧ v = v0 ∧ u = u0 ∧ x = .int .i64 i ∧ MatAt l i st L ∧ Two w wr v L u (piece l st i))
  case atStart => exact ⟨0, 0, _, _, [2], rfl, rfl, rfl, rfl, ⟨by omega, by omega, by simp, 33, by omega, rfl⟩, ⟨owns_lit w 2, by rw [piece_self]; exact Owns.nil _ _, by simp [Value.ownBlock], below_alloc (Below.refl _ _) _⟩⟩
  case round =>
    obtain ⟨i, st, v, u, L, hig, rfl, rfl, rfl, hM, hS⟩ := hrel
    have hLl := hM.2.2.1
    have hst := hM.1
    have hi32 := hM.2.1
    cases gk with
    | zero => omega
    | succ g =>
    have HG := Lib.hid hig; clear hig
    by_cases hi : i < 32
    · obtain ⟨n, hn⟩ : ∃ n, n = (matchL l i).1 := ⟨_, rfl⟩
      obtain ⟨o, ho⟩ : ∃ o, o = (matchL l i).2 := ⟨_, rfl⟩
      have hnl := matchL_le (l := l) (i := i) (by have := HL.out; omega)
      have hol := best_bound HL.out hi i
      rw [show best l i i = matchL l i from rfl, ← hn, ← ho] at hol
      rw [← hn, HL.out] at hnl
      have hn9 : (n : Int) ≤ 32 := by omega
      have ho9 : (o : Int) ≤ 32 := by omega
      have hpl := piece_len (l := l) (st := st) (i := i) (by have := HL.out; omega)
      by_cases hm : n < 3
      · have hM2 := hM.skip HL.out hi (by rw [← hn]; exact hm)
        have hps := piece_succ (l := l) hst (by have := HL.out; omega)
        have HN := Lib.hid hn; have HO := Lib.hid ho; have HP := Lib.hid hps; clear hn ho hps
        go_wp2_with (first | (go_at_call 33; refine (match_33 (some ⟨b, off, none⟩) l c i _ (H.below hS.b) HL.out hi).mono ?_; rintro e w1 ⟨rfl, hb⟩; rw [← HN.out, ← HO.out]; obtain ⟨b', off', hab, hcell⟩ := (H.below (hS.below hb).b).2.1 (by have := HL.out; omega); cases hab; have ci := hcell i (by have := HL.out; omega); clear hcell) | (at_builtin; refine wpList_append_where rfl (.tmp 31) (.tmp 36) rfl hi0 hz0 hz1 hz2 u (piece l st i) rfl ((hS.below hb).alloc _).ou ⟨w1.heap.size, 0, none⟩ 1 1 [get l i] rfl rfl (one_cell w1 _) ?c1 ?c2 ?_))
        case c1 => omega
        case c2 => have := (hS.below hb).b.size; simp; omega
        intro u2 w2 hown hgrow hwh
        have hT := ((hS.below hb).alloc _).growU hown hgrow (fun k hk => by simpa using hwh k hk)
        clear hown hgrow hwh
        go_wp2
        go_roundg g
        case rel => exact ⟨i + 1, st, _, _, _, by have := HG.out; omega, rfl, rfl, by go_num, hM2, by rw [HP.out]; exact hT⟩
        case measure => omega
      · have hM2 := hM.take HL.out hi (by rw [← hn]; exact hm)
        rw [← hn, ← ho] at hM2
        by_cases hsi : st < i
        · obtain ⟨m, hmm⟩ : ∃ m, i - st = m + 1 := ⟨i - st - 1, by omega⟩
          have hlp := lits_piece (l := l) hmm
          rw [hlp] at hM2
          obtain ⟨gu, cap, rfl⟩ := ownsRow_succ (k := m) (by have := hS.ou; unfold Owns at this; rw [hpl, hmm] at this; exact this)
          have hm9 : (m : Int) ≤ 31 := by omega
          have HN := Lib.hid hn; have HO := Lib.hid ho; have HM := Lib.hid hM2; have HPL := Lib.hid (hpl.trans hmm); clear hn ho hM2 hlp hpl hmm
          go_wp2_with (first | (go_at_call 33; refine (match_33 (some ⟨b, off, none⟩) l c i _ (H.below hS.b) HL.out hi).mono ?_; rintro e w1 ⟨rfl, hb⟩; rw [← HN.out, ← HO.out]) | (at_builtin; refine wpList_append_where rfl (.tmp 43) (.tmp 48) rfl hi0 hz0 hz1 hz2 v L rfl ((hS.below hb).alloc _).ov ⟨w1.heap.size, 0, none⟩ 1 1 [(m : Int)] rfl rfl (one_cell w1 _) ?c1 ?c2 ?_))
          case c1 => omega
          case c2 => have := (hS.below hb).b.size; simp; omega
          intro v2 w2 hown hgrow hwh
          have hT := ((hS.below hb).alloc _).growV hown hgrow (fun k hk => by simpa using hwh k hk)
          clear hown hgrow hwh
          have hcu := World.ownsRow.cells hT.ou (g := gu) rfl
          go_wp2_with (at_builtin; refine wpList_append_where rfl (.tmp 49) (.tmp 50) rfl hi0 hz0 hz1 hz2 v2 _ rfl hT.ov ⟨gu, 0, none⟩ (m + 1) cap (piece l st i) rfl HPL.out hcu ?d1 ?d2 ?_)
          case d1 => simp; omega
          case d2 => exact hT.b.size
          intro v3 w3 hown hgrow hwh
          have hT3 := hT.growV hown hgrow hwh
          clear hown hgrow hwh hT hcu
          have hT4 := hT3.drop
          clear hT3
          have hne : ¬ ((i : Int) = 32) := by omega
          go_wp2_with (at_builtin; refine wpList_append_where rfl (.tmp 57) (.tmp 63) rfl hi0 hz0 hz1 hz2 v3 _ rfl (hT4.alloc _).ov ⟨w3.heap.size, 0, none⟩ 2 2 [((n + 29 : Nat) : Int), (o : Int)] rfl rfl (two_cells w3 _ _) ?e1 ?e2 ?_)
          case e1 => have := HPL.out; simp; omega
          case e2 => have := hT4.b.size; simp; omega
          intro v4 w4 hown hgrow hwh
          have hT5 := (hT4.alloc _).growV hown hgrow (fun k hk => by simpa using hwh k hk)
          clear hown hgrow hwh hT4
          go_wp2
          go_roundg (g + 1 - n)
          case rel => exact ⟨i + n, i + n, _, _, _, by have := HG.out; omega, rfl, rfl, by go_num, by simpa using HM.out, by rw [piece_self]; exact hT5⟩
          case measure => omega
        · obtain rfl : st = i := by omega
          have hS' := hS
          rw [piece_self] at hS'
          rw [lits_self, List.append_nil] at hM2
          obtain ⟨bu, cu, rfl⟩ := owns_shape hS'.ou
          have HN := Lib.hid hn; have HO := Lib.hid ho; have HM := Lib.hid hM2; clear hn ho hM2
          have hne : ¬ ((st : Int) = 32) := by omega
          go_wp2_with (first | (go_at_call 33; refine (match_33 (some ⟨b, off, none⟩) l c st _ (H.below hS.b) HL.out hi).mono ?_; rintro e w1 ⟨rfl, hb⟩; rw [← HN.out, ← HO.out]) | (at_builtin; refine wpList_append_where rfl (.tmp 57) (.tmp 63) rfl hi0 hz0 hz1 hz2 v L rfl ((hS.below hb).alloc _).ov ⟨w1.heap.size, 0, none⟩ 2 2 [((n + 29 : Nat) : Int), (o : Int)] rfl rfl (two_cells w1 _ _) ?f1 ?f2 ?_))
          case f1 => omega
          case f2 => have := (hS.below hb).b.size; simp; omega
          intro v4 w4 hown hgrow hwh
          have hT6 := ((hS'.below hb).alloc _).growV hown hgrow (fun k hk => by simpa using hwh k hk)
          clear hown hgrow hwh
          go_wp2
          go_roundg (g + 1 - n)
          case rel => exact ⟨st + n, st + n, _, _, _, by have := HG.out; omega, rfl, rfl, by go_num, by simpa using HM.out, by rw [piece_self]; exact hT6⟩
          case measure => omega
    · obtain rfl : i = 32 := by omega
      have hF := hM.fin HL.out hi
      have hpl := piece_len (l := l) (st := st) (i := 32) (by have := HL.out; omega)
      by_cases hsi : st < 32
      · obtain ⟨m, hmm⟩ : ∃ m, 32 - st = m + 1 := ⟨32 - st - 1, by omega⟩
        have hlp := lits_piece (l := l) hmm
        rw [hlp] at hF
        obtain ⟨gu, cap, rfl⟩ := ownsRow_succ (k := m) (by have := hS.ou; unfold Owns at this; rw [hpl, hmm] at this; exact this)
        have hm9 : (m : Int) ≤ 31 := by omega
        have HF := Lib.hid hF; have HPL := Lib.hid (hpl.trans hmm); clear hF hlp hpl hmm
        go_wp2_with (at_builtin; refine wpList_append_where rfl (.tmp 43) (.tmp 48) rfl hi0 hz0 hz1 hz2 v L rfl (hS.alloc _).ov ⟨wr.heap.size, 0, none⟩ 1 1 [(m : Int)] rfl rfl (one_cell wr _) ?g1 ?g2 ?_)
        case g1 => omega
        case g2 => have := hS.b.size; simp; omega
        intro v2 w2 hown hgrow hwh
        have hT := (hS.alloc _).growV hown hgrow (fun k hk => by simpa using hwh k hk)
        clear hown hgrow hwh
        have hcu := World.ownsRow.cells hT.ou (g := gu) rfl
        go_wp2_with (at_builtin; refine wpList_append_where rfl (.tmp 49) (.tmp 50) rfl hi0 hz0 hz1 hz2 v2 _ rfl hT.ov ⟨gu, 0, none⟩ (m + 1) cap (piece l st 32) rfl HPL.out hcu ?h1 ?h2 ?_)
        case h1 => simp; omega
        case h2 => exact hT.b.size
        intro v3 w3 hown hgrow hwh
        have hT3 := hT.growV hown hgrow hwh
        clear hown hgrow hwh hT hcu
        go_wp2
        go_ret
        refine ⟨v3, rfl, ?_, hT3.b⟩
        rw [← HF.out]
        have := hT3.ov
        simpa using this
      · obtain rfl : st = 32 := by omega
        have hS' := hS
        rw [piece_self] at hS'
        rw [lits_self, List.append_nil] at hF
        obtain ⟨bu, cu, rfl⟩ := owns_shape hS'.ou
        have HF := Lib.hid hF; clear hF
        go_wp2
        go_ret
        refine ⟨v, rfl, ?_, hS.b⟩
        rw [← HF.out]
        exact hS.ov
end Go.Proofs.Ytaapgfhcnfaemaa
