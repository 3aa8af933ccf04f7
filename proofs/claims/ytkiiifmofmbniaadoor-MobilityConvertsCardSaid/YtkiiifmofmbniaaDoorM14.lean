/- Walks: the type of a page block, the free frames of a type; of the program. -/
import Derived.Test.YtkiiifmofmbniaaDoorM13
namespace Go.Proofs.YtkiiifmofmbniaaDoor
open Go.RowKit Go.Over Go.Mob Go.Can Go.Seg Go.Grow
set_option maxRecDepth 100000 in set_option maxHeartbeats 3200000 in
theorem type_24 (v : Value) (p : P) (f : Int) (w : World) (H : Rpv w v p) : Calls Tryd.prog 24 #[v, .int .i64 f] w fun e w' => e = .returned (.int .i64 (typeP p f)) ∧ Below w.heap.size w w' := by
  obtain ⟨R, hR⟩ : ∃ R, typeP p f = R := ⟨_, rfl⟩
  rw [hR]
  have HR := Lib.hid hR
  clear hR
  obtain ⟨cs, rfl, hV⟩ := H
  have X0 := PX.new hV
  clear hV
  go_enter Tryd.func24, Tryd.ntmps24
  go_upto_region 1 with fail
  obtain ⟨w1, hw1⟩ : ∃ W, W = w.alloc (.cells cs.toArray 26) := ⟨_, rfl⟩
  have X1 : PX w w.heap.size cs p w1 := by rw [hw1]; exact X0
  rw [← hw1]
  obtain ⟨g, hg0⟩ : ∃ g, w.heap.size = g := ⟨_, rfl⟩
  rw [hg0] at X1 ⊢
  clear hw1 X0 hg0
  go_wp2_with ((with_reducible refine ld ?_ X1.x X1.v.len ?_); (focus rfl))
  refine (check_14 _ p w1 X1.rpv).mono ?_
  rintro e w2 ⟨rfl, b2⟩
  have X2 := X1.below b2
  clear X1 b2
  obtain ⟨c, hc⟩ : ∃ c, chk p = c := ⟨_, rfl⟩
  rw [hc]
  by_cases hc0 : c = 0
  · subst hc0
    have HV := Lib.hid (vd_of hc)
    obtain ⟨E, hE⟩ : ∃ E, insB p f 0 = E := ⟨_, rfl⟩
    have HR2 := Lib.hid (show R = if E = true then tyAt p f else -1 by
      rw [← HR.out, ← hE]
      unfold typeP
      by_cases h : insB p f 0 = true
      · rw [if_pos ⟨hc, h⟩, if_pos h]
      · rw [if_neg (fun g => h g.2), if_neg h])
    have HE := Lib.hid hE
    clear HR hc hE
    go_wp2_with ((with_reducible refine ldg ?_ ?_ X2.x X2.v.len ?_); (focus rfl); (focus rfl))
    refine (inside_33 _ p f 0 (by decide) w2 X2.rpv HV.out.l.rng).mono ?_
    rintro e w3 ⟨rfl, b3⟩
    have X3 := X2.below b3
    rw [HE.out]
    clear X2 b3
    cases E with
    | false =>
      have HF := Lib.hid (show R = -1 by rw [HR2.out]; rfl)
      go_wp2
      go_ret
      exact ⟨ret_int HF.out.symm, X3.b⟩
    | true =>
      have HF := Lib.hid (show R = tyAt p f by rw [HR2.out]; rfl)
      obtain ⟨i1, i2, _⟩ := ins_open HE.out
      go_wp2_with ((with_reducible refine ld ?_ X3.x X3.v.len ?_); (focus rfl))
      refine (type_34 _ p f w3 X3.rpv HV.out.l.rng i1 i2).mono ?_
      rintro e w4 ⟨rfl, b4⟩
      have X4 := X3.below b4
      clear X3 b4
      rw [← HF.out]
      go_wp2
      go_ret
      exact ⟨rfl, X4.b⟩
  · have HF := Lib.hid (show R = -1 by rw [← HR.out]; unfold typeP; rw [if_neg (fun g => hc0 (by rw [← hc]; exact g.1))])
    have t0 : (c != 0) = true := by simpa using hc0
    go_wp2
    go_ret
    exact ⟨ret_int HF.out.symm, X2.b⟩
theorem cnt_len {p : P} (h : Lst p) {t : Nat} (ht : t < 3) : ∀ (n k : Nat), k + n = 5 → 0 ≤ cntN p (5 * t) n k ∧ cntN p (5 * t) n k ≤ 4096 * (n : Int)
  | 0, k, _ => by show 0 ≤ (0 : Int) ∧ (0 : Int) ≤ _; omega
  | n + 1, k, hk => by
    obtain ⟨h1, h2⟩ := cnt_len h ht n (k + 1) (by omega)
    have h3 := h.len (i := 5 * t + k) (by omega)
    have e : cntN p (5 * t) (n + 1) k = (((p.fr (5 * t + k)).length : Nat) : Int) * pw k + cntN p (5 * t) n (k + 1) := rfl
    rw [e]
    rcases pw_cases (show k ≤ 4 by omega) with ⟨k1, k2⟩ | ⟨k1, k2⟩ | ⟨k1, k2⟩ | ⟨k1, k2⟩ | ⟨k1, k2⟩ <;> (rw [k2]; omega)
end Go.Proofs.YtkiiifmofmbniaaDoor
