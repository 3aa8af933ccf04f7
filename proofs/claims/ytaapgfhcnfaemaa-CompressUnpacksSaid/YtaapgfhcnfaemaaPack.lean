/- Pack, of the program and of the reference. -/
import Derived.Test.YtaapgfhcnfaemaaRMats
namespace Go.Proofs.Ytaapgfhcnfaemaa
open Go.RowKit Go.Over Go.Zip Go.Seg
theorem runsL_bytes {l : List Int} (hl : l.length = 32) (hb : ∀ x ∈ l, 0 ≤ x ∧ x ≤ 255) : ∀ f i, ∀ x ∈ runsL l f i, 0 ≤ x ∧ x ≤ 255
  | 0, i, x, h => by simp [runsL] at h
  | f + 1, i, x, h => by
    simp only [runsL] at h
    split at h
    · rename_i hi
      have h1 := runLen_le hi
      simp only [List.mem_cons] at h
      rcases h with rfl | rfl | h
      · omega
      · rw [get_lt hi]; exact hb _ (List.getElem_mem hi)
      · exact runsL_bytes hl hb f _ x h
    · simp at h
theorem lits_bytes {l : List Int} (hb : ∀ x ∈ l, 0 ≤ x ∧ x ≤ 255) {a b : Nat} (hab : b ≤ 32) : ∀ x ∈ lits l a b, 0 ≤ x ∧ x ≤ 255 := by
  intro x h
  unfold lits at h
  split at h
  · simp only [List.mem_cons] at h
    rcases h with rfl | h
    · omega
    · exact hb x (List.mem_of_mem_drop (List.mem_of_mem_take h))
  · simp at h
theorem matL_bytes {l : List Int} (hl : l.length = 32) (hb : ∀ x ∈ l, 0 ≤ x ∧ x ≤ 255) : ∀ f i a, i ≤ 32 → ∀ x ∈ matL l f i a, 0 ≤ x ∧ x ≤ 255
  | 0, i, a, _, x, h => by simp [matL] at h
  | f + 1, i, a, h2, x, h => by
    simp only [matL] at h
    split at h
    · rename_i hi
      split at h
      · exact matL_bytes hl hb f (i + 1) a (by omega) x h
      · rename_i hm
        have h3 := matchL_le (l := l) (i := i) (by omega)
        have h4 := matchL_ok hm
        simp only [List.mem_append, List.mem_cons] at h
        rcases h with h | rfl | rfl | h
        · exact lits_bytes hb (by omega) x h
        · omega
        · omega
        · exact matL_bytes hl hb f _ _ (by omega) x h
    · exact lits_bytes hb (by omega) x h
theorem packL_bytes {l : List Int} (hl : l.length = 32) (hb : ∀ x ∈ l, 0 ≤ x ∧ x ≤ 255) : ∀ x ∈ packL l, 0 ≤ x ∧ x ≤ 255 := by
  intro x h
  unfold packL at h
  split at h
  · simp only [List.mem_cons, List.not_mem_nil, or_false] at h
    rcases h with rfl | rfl
    · omega
    · rw [get_lt (by omega)]; exact hb _ (List.getElem_mem (by omega))
  · split at h
    · simp only [List.mem_cons] at h
      rcases h with rfl | h
      · omega
      · exact hb x h
    · unfold shorter at h
      split at h
      · simp only [List.mem_cons] at h
        rcases h with rfl | h
        · omega
        · exact matL_bytes hl hb 33 0 0 (by omega) x h
      · simp only [List.mem_cons] at h
        rcases h with rfl | h
        · omega
        · exact runsL_bytes hl hb 32 0 x h
theorem owns_len {w : World} {base n : Nat} {v : Value} {l : List Int} (h : Owns w base v l) (hn : l.length = n) : ∃ b c, v = .slice b n c := by
  subst hn
  rcases h.2 with ⟨rfl, h0⟩ | ⟨g, cap, cur, rfl, _⟩
  · exact ⟨_, _, by rw [h0]⟩
  · exact ⟨_, _, rfl⟩
theorem owns_two (w : World) (x y : Int) : Owns (w.alloc (.cells #[.int .u8 x, .int .u8 y] 5)) w.heap.size (.slice (some ⟨w.heap.size, 0, none⟩) 2 2) [x, y] :=
  World.ownsRow_lit w #[.int .u8 x, .int .u8 y] 2 (Nat.le_refl _) (by unfold maxLen; omega) rfl
set_option maxHeartbeats 6400000 in
theorem pack_no_12 (a : Option Addr) (l : List Int) (c : Nat) (w : World) (H : Bytes w a l) (h : l.length ≠ 32) :
    Calls Try.prog 12 #[.slice a l.length c] w fun e w' => e = .returned (.tuple #[.slice none 0 0, .int .i64 3]) ∧ w = w' := by
  have hl := H.1
  have hn : ((l.length : Int) != 32) = true := by simp; omega
  clear h
  go_enter Try.func12, Try.ntmps12
  go_wp2
  go_ret2
  exact ⟨rfl, rfl⟩
set_option maxHeartbeats 6400000 in
theorem pack_no_13 (a : Option Addr) (l : List Int) (c : Nat) (w : World) (H : Bytes w a l) (h : l.length ≠ 32) :
    Calls Try.prog 13 #[.slice a l.length c] w fun e w' => e = .returned (.tuple #[.slice none 0 0, .int .i64 3]) ∧ w = w' := by
  have hl := H.1
  have hn : ((l.length : Int) != 32) = true := by simp; omega
  clear h
  go_enter Try.func13, Try.ntmps13
  go_wp2
  go_ret2
  exact ⟨rfl, rfl⟩
set_option maxHeartbeats 6400000 in
theorem pack_full_12 (a : Option Addr) (l : List Int) (c : Nat) (w : World) (H : Bytes w a l) (h : l.length = 32) (hc : 32 ≤ c) (hcm : c ≤ maxLen) (hf : fullB l = true) :
    Calls Try.prog 12 #[.slice a 32 c] w fun e w' => ∃ v, e = .returned (.tuple #[v, .int .i64 0]) ∧ New w' w.heap.size v (packL l) ∧ Below w.heap.size w w' := by
  have hpb := packL_bytes h H.2.2
  have hp : packL l = [0, get l 0] := by unfold packL; rw [if_pos hf]
  rw [hp] at hpb ⊢
  have HF := Lib.hid hf; have HL := Lib.hid h; clear h hf hp
  have HPB := Lib.hid hpb; clear hpb
  go_enter Try.func12, Try.ntmps12
  go_wp2_with (go_at_call 14; refine (filled_32 _ l c _ H HL.out hc hcm).mono ?_; rintro e w1 ⟨rfl, hb1⟩; rw [HF.out, if_pos rfl])
  go_ret2
  refine ⟨_, rfl, (owns_mono (owns_two w1 0 (get l 0)) hb1.size).new HPB.out (by simp), below_alloc hb1 _⟩
set_option maxHeartbeats 6400000 in
theorem pack_rest_12 (a : Option Addr) (l : List Int) (c : Nat) (w : World) (H : Bytes w a l) (h : l.length = 32) (hc : 32 ≤ c) (hcm : c ≤ maxLen) (hf : fullB l = false) :
    Calls Try.prog 12 #[.slice a 32 c] w fun e w' => ∃ v, e = .returned (.tuple #[v, .int .i64 0]) ∧ New w' w.heap.size v (packL l) ∧ Below w.heap.size w w' := by
  obtain ⟨i0, hi0, hz0, hz1, hz2⟩ := info_parts Try.info5
  obtain ⟨b, off, rfl, _⟩ := H.2.1 (by omega)
  have hpb := packL_bytes h H.2.2
  have hpl := packL_length h
  obtain ⟨n6, hn6⟩ : ∃ n, (1 :: runsL l 32 0).length = n := ⟨_, rfl⟩
  obtain ⟨n7, hn7⟩ : ∃ n, (2 :: matL l 33 0 0).length = n := ⟨_, rfl⟩
  have hs : (shorter l).length = if n7 < n6 then n7 else n6 := by unfold shorter; rw [hn6, hn7]; split <;> assumption
  have hsl : shorter l = if n7 < n6 then 2 :: matL l 33 0 0 else 1 :: runsL l 32 0 := by unfold shorter; rw [hn6, hn7]
  have HF := Lib.hid hf; have HL := Lib.hid h; clear h hf
  have HN6 := Lib.hid hn6; have HN7 := Lib.hid hn7; clear hn6 hn7
  by_cases h1 : n7 < n6
  · rw [if_pos h1] at hs hsl
    have HS := Lib.hid hs; have HSL := Lib.hid hsl; clear hs hsl
    by_cases h2 : n7 > 33
    · skip
      have hp : packL l = 3 :: l := by unfold packL; rw [if_neg (by rw [HF.out]; decide), if_pos (by rw [HS.out]; omega)]
      rw [hp] at hpb hpl ⊢
      have HPB := Lib.hid hpb; clear hpb hp hpl
      go_enter Try.func12, Try.ntmps12
      go_wp2_with (first | (first | (go_at_call 14; refine (filled_32 _ l c _ H HL.out hc hcm).mono ?_; rintro e w1 ⟨rfl, hb1⟩; rw [HF.out, if_neg (by decide)]) | (go_at_call 20; refine (runs_20 _ l c _ (H.below hb1) HL.out).mono ?_; rintro e w2 ⟨v6, rfl, hO6, hb2⟩; obtain ⟨b6, c6, rfl⟩ := owns_len hO6 HN6.out) | (go_at_call 21; refine (mats_21 _ l c _ (H.below (below_then hb1 hb2)) HL.out hc hcm).mono ?_; rintro e w3 ⟨v7, rfl, hO7, hb3⟩; obtain ⟨b7, c7, rfl⟩ := owns_len hO7 HN7.out)) | (at_builtin; refine wpList_append_where rfl (.tmp 32) (.tmp 33) rfl hi0 hz0 hz1 hz2 _ [3] rfl (owns_mono (owns_lit w3 3) (b' := w.heap.size) (by have := hb1.size; have := hb2.size; have := hb3.size; omega)) ⟨b, off, none⟩ 32 c l rfl HL.out (Bytes.cells (H.below (below_alloc (below_then (below_then hb1 hb2) hb3) _))) ?c1 ?c2 ?_))
      case c1 => simp
      case c2 => have := hb1.size; have := hb2.size; have := hb3.size; simp; omega
      intro v8 w8 hown hgrow _
      have hb8 : Below w.heap.size w w8 := (below_alloc (below_then (below_then hb1 hb2) hb3) _).grown hgrow (by have := hb1.size; have := hb2.size; have := hb3.size; simp; omega) (fun k hk => by simp [Value.ownBlock] at hk; have := hb1.size; have := hb2.size; have := hb3.size; omega)
      clear hgrow
      go_wp2
      go_ret2
      exact ⟨_, rfl, Owns.new hown HPB.out (by have := HL.out; simp; omega), hb8⟩
    · have hp : packL l = 2 :: matL l 33 0 0 := by unfold packL; rw [if_neg (by rw [HF.out]; decide), if_neg (by rw [HS.out]; omega), HSL.out]
      rw [hp] at hpb hpl ⊢
      have HPB := Lib.hid hpb; have HP2 := Lib.hid hpl; clear hpb hp hpl
      go_enter Try.func12, Try.ntmps12
      go_wp2_with (first | (go_at_call 14; refine (filled_32 _ l c _ H HL.out hc hcm).mono ?_; rintro e w1 ⟨rfl, hb1⟩; rw [HF.out, if_neg (by decide)]) | (go_at_call 20; refine (runs_20 _ l c _ (H.below hb1) HL.out).mono ?_; rintro e w2 ⟨v6, rfl, hO6, hb2⟩; obtain ⟨b6, c6, rfl⟩ := owns_len hO6 HN6.out) | (go_at_call 21; refine (mats_21 _ l c _ (H.below (below_then hb1 hb2)) HL.out hc hcm).mono ?_; rintro e w3 ⟨v7, rfl, hO7, hb3⟩; obtain ⟨b7, c7, rfl⟩ := owns_len hO7 HN7.out))
      go_ret2
      exact ⟨_, rfl, Owns.new (owns_mono hO7 (by have := hb1.size; have := hb2.size; omega)) HPB.out (by have := HP2.out; omega), below_then (below_then hb1 hb2) hb3⟩
  · rw [if_neg h1] at hs hsl
    have HS := Lib.hid hs; have HSL := Lib.hid hsl; clear hs hsl
    by_cases h2 : n6 > 33
    · skip
      have hp : packL l = 3 :: l := by unfold packL; rw [if_neg (by rw [HF.out]; decide), if_pos (by rw [HS.out]; omega)]
      rw [hp] at hpb hpl ⊢
      have HPB := Lib.hid hpb; clear hpb hp hpl
      go_enter Try.func12, Try.ntmps12
      go_wp2_with (first | (first | (go_at_call 14; refine (filled_32 _ l c _ H HL.out hc hcm).mono ?_; rintro e w1 ⟨rfl, hb1⟩; rw [HF.out, if_neg (by decide)]) | (go_at_call 20; refine (runs_20 _ l c _ (H.below hb1) HL.out).mono ?_; rintro e w2 ⟨v6, rfl, hO6, hb2⟩; obtain ⟨b6, c6, rfl⟩ := owns_len hO6 HN6.out) | (go_at_call 21; refine (mats_21 _ l c _ (H.below (below_then hb1 hb2)) HL.out hc hcm).mono ?_; rintro e w3 ⟨v7, rfl, hO7, hb3⟩; obtain ⟨b7, c7, rfl⟩ := owns_len hO7 HN7.out)) | (at_builtin; refine wpList_append_where rfl (.tmp 32) (.tmp 33) rfl hi0 hz0 hz1 hz2 _ [3] rfl (owns_mono (owns_lit w3 3) (b' := w.heap.size) (by have := hb1.size; have := hb2.size; have := hb3.size; omega)) ⟨b, off, none⟩ 32 c l rfl HL.out (Bytes.cells (H.below (below_alloc (below_then (below_then hb1 hb2) hb3) _))) ?c1 ?c2 ?_))
      case c1 => simp
      case c2 => have := hb1.size; have := hb2.size; have := hb3.size; simp; omega
      intro v8 w8 hown hgrow _
      have hb8 : Below w.heap.size w w8 := (below_alloc (below_then (below_then hb1 hb2) hb3) _).grown hgrow (by have := hb1.size; have := hb2.size; have := hb3.size; simp; omega) (fun k hk => by simp [Value.ownBlock] at hk; have := hb1.size; have := hb2.size; have := hb3.size; omega)
      clear hgrow
      go_wp2
      go_ret2
      exact ⟨_, rfl, Owns.new hown HPB.out (by have := HL.out; simp; omega), hb8⟩
    · have hp : packL l = 1 :: runsL l 32 0 := by unfold packL; rw [if_neg (by rw [HF.out]; decide), if_neg (by rw [HS.out]; omega), HSL.out]
      rw [hp] at hpb hpl ⊢
      have HPB := Lib.hid hpb; have HP2 := Lib.hid hpl; clear hpb hp hpl
      go_enter Try.func12, Try.ntmps12
      go_wp2_with (first | (go_at_call 14; refine (filled_32 _ l c _ H HL.out hc hcm).mono ?_; rintro e w1 ⟨rfl, hb1⟩; rw [HF.out, if_neg (by decide)]) | (go_at_call 20; refine (runs_20 _ l c _ (H.below hb1) HL.out).mono ?_; rintro e w2 ⟨v6, rfl, hO6, hb2⟩; obtain ⟨b6, c6, rfl⟩ := owns_len hO6 HN6.out) | (go_at_call 21; refine (mats_21 _ l c _ (H.below (below_then hb1 hb2)) HL.out hc hcm).mono ?_; rintro e w3 ⟨v7, rfl, hO7, hb3⟩; obtain ⟨b7, c7, rfl⟩ := owns_len hO7 HN7.out))
      go_ret2
      exact ⟨_, rfl, Owns.new (owns_mono (hO6.kept (below_grown hb3) (own_none _)) hb1.size) HPB.out (by have := HP2.out; omega), below_then (below_then hb1 hb2) hb3⟩
theorem pack_any_12 (a : Option Addr) (l : List Int) (c : Nat) (w : World) (H : Bytes w a l) (h : l.length = 32) (hc : 32 ≤ c) (hcm : c ≤ maxLen) :
    Calls Try.prog 12 #[.slice a 32 c] w fun e w' => ∃ v, e = .returned (.tuple #[v, .int .i64 0]) ∧ New w' w.heap.size v (packL l) ∧ Below w.heap.size w w' := by
  cases hf : fullB l
  · exact pack_rest_12 a l c w H h hc hcm hf
  · exact pack_full_12 a l c w H h hc hcm hf
set_option maxHeartbeats 6400000 in
theorem pack_full_13 (a : Option Addr) (l : List Int) (c : Nat) (w : World) (H : Bytes w a l) (h : l.length = 32)  (hf : fullB l = true) :
    Calls Try.prog 13 #[.slice a 32 c] w fun e w' => ∃ v, e = .returned (.tuple #[v, .int .i64 0]) ∧ New w' w.heap.size v (packL l) ∧ Below w.heap.size w w' := by
  have hpb := packL_bytes h H.2.2
  have hp : packL l = [0, get l 0] := by unfold packL; rw [if_pos hf]
  rw [hp] at hpb ⊢
  have HF := Lib.hid hf; have HL := Lib.hid h; clear h hf hp
  have HPB := Lib.hid hpb; clear hpb
  go_enter Try.func13, Try.ntmps13
  go_wp2_with (go_at_call 15; refine (rfilled_32 _ l c _ H HL.out).mono ?_; rintro e w1 ⟨rfl, hb1⟩; rw [HF.out, if_pos rfl])
  go_ret2
  refine ⟨_, rfl, (owns_mono (owns_two w1 0 (get l 0)) hb1.size).new HPB.out (by simp), below_alloc hb1 _⟩
set_option maxHeartbeats 6400000 in
theorem pack_rest_13 (a : Option Addr) (l : List Int) (c : Nat) (w : World) (H : Bytes w a l) (h : l.length = 32)  (hf : fullB l = false) :
    Calls Try.prog 13 #[.slice a 32 c] w fun e w' => ∃ v, e = .returned (.tuple #[v, .int .i64 0]) ∧ New w' w.heap.size v (packL l) ∧ Below w.heap.size w w' := by
  obtain ⟨i0, hi0, hz0, hz1, hz2⟩ := info_parts Try.info5
  obtain ⟨b, off, rfl, _⟩ := H.2.1 (by omega)
  have hpb := packL_bytes h H.2.2
  have hpl := packL_length h
  obtain ⟨n6, hn6⟩ : ∃ n, (1 :: runsL l 32 0).length = n := ⟨_, rfl⟩
  obtain ⟨n7, hn7⟩ : ∃ n, (2 :: matL l 33 0 0).length = n := ⟨_, rfl⟩
  have hs : (shorter l).length = if n7 < n6 then n7 else n6 := by unfold shorter; rw [hn6, hn7]; split <;> assumption
  have hsl : shorter l = if n7 < n6 then 2 :: matL l 33 0 0 else 1 :: runsL l 32 0 := by unfold shorter; rw [hn6, hn7]
  have HF := Lib.hid hf; have HL := Lib.hid h; clear h hf
  have HN6 := Lib.hid hn6; have HN7 := Lib.hid hn7; clear hn6 hn7
  by_cases h1 : n7 < n6
  · rw [if_pos h1] at hs hsl
    have HS := Lib.hid hs; have HSL := Lib.hid hsl; clear hs hsl
    by_cases h2 : n7 > 33
    · skip
      have hp : packL l = 3 :: l := by unfold packL; rw [if_neg (by rw [HF.out]; decide), if_pos (by rw [HS.out]; omega)]
      rw [hp] at hpb hpl ⊢
      have HPB := Lib.hid hpb; clear hpb hp hpl
      go_enter Try.func13, Try.ntmps13
      go_wp2_with (first | (first | (go_at_call 15; refine (rfilled_32 _ l c _ H HL.out).mono ?_; rintro e w1 ⟨rfl, hb1⟩; rw [HF.out, if_neg (by decide)]) | (go_at_call 22; refine (runs_22 _ l c _ (H.below hb1) HL.out).mono ?_; rintro e w2 ⟨v6, rfl, hO6, hb2⟩; obtain ⟨b6, c6, rfl⟩ := owns_len hO6 HN6.out) | (go_at_call 23; refine (rmats_23 _ l c _ (H.below (below_then hb1 hb2)) HL.out).mono ?_; rintro e w3 ⟨v7, rfl, hO7, hb3⟩; obtain ⟨b7, c7, rfl⟩ := owns_len hO7 HN7.out)) | (at_builtin; refine wpList_append_where rfl (.tmp 32) (.tmp 33) rfl hi0 hz0 hz1 hz2 _ [3] rfl (owns_mono (owns_lit w3 3) (b' := w.heap.size) (by have := hb1.size; have := hb2.size; have := hb3.size; omega)) ⟨b, off, none⟩ 32 c l rfl HL.out (Bytes.cells (H.below (below_alloc (below_then (below_then hb1 hb2) hb3) _))) ?c1 ?c2 ?_))
      case c1 => simp
      case c2 => have := hb1.size; have := hb2.size; have := hb3.size; simp; omega
      intro v8 w8 hown hgrow _
      have hb8 : Below w.heap.size w w8 := (below_alloc (below_then (below_then hb1 hb2) hb3) _).grown hgrow (by have := hb1.size; have := hb2.size; have := hb3.size; simp; omega) (fun k hk => by simp [Value.ownBlock] at hk; have := hb1.size; have := hb2.size; have := hb3.size; omega)
      clear hgrow
      go_wp2
      go_ret2
      exact ⟨_, rfl, Owns.new hown HPB.out (by have := HL.out; simp; omega), hb8⟩
    · have hp : packL l = 2 :: matL l 33 0 0 := by unfold packL; rw [if_neg (by rw [HF.out]; decide), if_neg (by rw [HS.out]; omega), HSL.out]
      rw [hp] at hpb hpl ⊢
      have HPB := Lib.hid hpb; have HP2 := Lib.hid hpl; clear hpb hp hpl
      go_enter Try.func13, Try.ntmps13
      go_wp2_with (first | (go_at_call 15; refine (rfilled_32 _ l c _ H HL.out).mono ?_; rintro e w1 ⟨rfl, hb1⟩; rw [HF.out, if_neg (by decide)]) | (go_at_call 22; refine (runs_22 _ l c _ (H.below hb1) HL.out).mono ?_; rintro e w2 ⟨v6, rfl, hO6, hb2⟩; obtain ⟨b6, c6, rfl⟩ := owns_len hO6 HN6.out) | (go_at_call 23; refine (rmats_23 _ l c _ (H.below (below_then hb1 hb2)) HL.out).mono ?_; rintro e w3 ⟨v7, rfl, hO7, hb3⟩; obtain ⟨b7, c7, rfl⟩ := owns_len hO7 HN7.out))
      go_ret2
      exact ⟨_, rfl, Owns.new (owns_mono hO7 (by have := hb1.size; have := hb2.size; omega)) HPB.out (by have := HP2.out; omega), below_then (below_then hb1 hb2) hb3⟩
  · rw [if_neg h1] at hs hsl
    have HS := Lib.hid hs; have HSL := Lib.hid hsl; clear hs hsl
    by_cases h2 : n6 > 33
    · skip
      have hp : packL l = 3 :: l := by unfold packL; rw [if_neg (by rw [HF.out]; decide), if_pos (by rw [HS.out]; omega)]
      rw [hp] at hpb hpl ⊢
      have HPB := Lib.hid hpb; clear hpb hp hpl
      go_enter Try.func13, Try.ntmps13
      go_wp2_with (first | (first | (go_at_call 15; refine (rfilled_32 _ l c _ H HL.out).mono ?_; rintro e w1 ⟨rfl, hb1⟩; rw [HF.out, if_neg (by decide)]) | (go_at_call 22; refine (runs_22 _ l c _ (H.below hb1) HL.out).mono ?_; rintro e w2 ⟨v6, rfl, hO6, hb2⟩; obtain ⟨b6, c6, rfl⟩ := owns_len hO6 HN6.out) | (go_at_call 23; refine (rmats_23 _ l c _ (H.below (below_then hb1 hb2)) HL.out).mono ?_; rintro e w3 ⟨v7, rfl, hO7, hb3⟩; obtain ⟨b7, c7, rfl⟩ := owns_len hO7 HN7.out)) | (at_builtin; refine wpList_append_where rfl (.tmp 32) (.tmp 33) rfl hi0 hz0 hz1 hz2 _ [3] rfl (owns_mono (owns_lit w3 3) (b' := w.heap.size) (by have := hb1.size; have := hb2.size; have := hb3.size; omega)) ⟨b, off, none⟩ 32 c l rfl HL.out (Bytes.cells (H.below (below_alloc (below_then (below_then hb1 hb2) hb3) _))) ?c1 ?c2 ?_))
      case c1 => simp
      case c2 => have := hb1.size; have := hb2.size; have := hb3.size; simp; omega
      intro v8 w8 hown hgrow _
      have hb8 : Below w.heap.size w w8 := (below_alloc (below_then (below_then hb1 hb2) hb3) _).grown hgrow (by have := hb1.size; have := hb2.size; have := hb3.size; simp; omega) (fun k hk => by simp [Value.ownBlock] at hk; have := hb1.size; have := hb2.size; have := hb3.size; omega)
      clear hgrow
      go_wp2
      go_ret2
      exact ⟨_, rfl, Owns.new hown HPB.out (by have := HL.out; simp; omega), hb8⟩
    · have hp : packL l = 1 :: runsL l 32 0 := by unfold packL; rw [if_neg (by rw [HF.out]; decide), if_neg (by rw [HS.out]; omega), HSL.out]
      rw [hp] at hpb hpl ⊢
      have HPB := Lib.hid hpb; have HP2 := Lib.hid hpl; clear hpb hp hpl
      go_enter Try.func13, Try.ntmps13
      go_wp2_with (first | (go_at_call 15; refine (rfilled_32 _ l c _ H HL.out).mono ?_; rintro e w1 ⟨rfl, hb1⟩; rw [HF.out, if_neg (by decide)]) | (go_at_call 22; refine (runs_22 _ l c _ (H.below hb1) HL.out).mono ?_; rintro e w2 ⟨v6, rfl, hO6, hb2⟩; obtain ⟨b6, c6, rfl⟩ := owns_len hO6 HN6.out) | (go_at_call 23; refine (rmats_23 _ l c _ (H.below (below_then hb1 hb2)) HL.out).mono ?_; rintro e w3 ⟨v7, rfl, hO7, hb3⟩; obtain ⟨b7, c7, rfl⟩ := owns_len hO7 HN7.out))
      go_ret2
      exact ⟨_, rfl, Owns.new (owns_mono (hO6.kept (below_grown hb3) (own_none _)) hb1.size) HPB.out (by have := HP2.out; omega), below_then (below_then hb1 hb2) hb3⟩
theorem pack_any_13 (a : Option Addr) (l : List Int) (c : Nat) (w : World) (H : Bytes w a l) (h : l.length = 32)  :
    Calls Try.prog 13 #[.slice a 32 c] w fun e w' => ∃ v, e = .returned (.tuple #[v, .int .i64 0]) ∧ New w' w.heap.size v (packL l) ∧ Below w.heap.size w w' := by
  cases hf : fullB l
  · exact pack_rest_13 a l c w H h  hf
  · exact pack_full_13 a l c w H h  hf
end Go.Proofs.Ytaapgfhcnfaemaa
