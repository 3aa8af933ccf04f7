/- The plain mathematics of devices: what the laws on games need. -/
import Derived.Test.YtlhbjmoncdljoaaP5
namespace Go.Dev
theorem contD_ok {d : D} (h : Ok d) {f : Nat} (hf : f < d.bl.length) : contD d f = cont d f := by unfold contD; rw [if_pos ⟨chk_ok.2 h, by omega, by omega⟩]
theorem durD_ok {d : D} (h : Ok d) {f : Nat} (hf : f < d.bl.length) : durD d f = d.bl.getD f [] := by unfold durD; rw [if_pos ⟨chk_ok.2 h, by omega, by omega⟩, Int.toNat_natCast]
theorem fails_spec {d : D} {n p : Nat} (h : PD d n) (hn : n ≤ 40) (hp : p < d.qu.length) :
    ∃ C Q A, cmpD d p false = (C, Q, 0) ∧ d.qu[p]? = some Q ∧ PD C n ∧ (∀ f : Nat, f < 4 → contD C f = contD d f) ∧ (∀ f : Nat, f < 4 → durD C f = durD d f) ∧ C.qu.length + 1 = d.qu.length ∧
      subD C Q.2.1 Q.2.2.1 Q.2.2.2 = (A, d.nx, 0) ∧ A.qu.length = d.qu.length ∧ PD A (n + 1) ∧ Q.2.2.2.length ≤ 32 := by
  obtain ⟨Q, hq⟩ := get_some (l := d.qu) rfl hp
  have hm := h.ok.qu Q (List.mem_of_getElem? hq)
  have hC : PD ⟨d.dp, d.nx, d.bl, d.ca, d.qu.eraseIdx p⟩ n := ⟨ok_erase h.ok p, h.dp, h.nb, h.nx⟩
  have hl : (d.qu.eraseIdx p).length + 1 = d.qu.length := by rw [List.length_eraseIdx, if_pos hp]; omega
  have hq4 := h.q4
  have hnb := h.nb
  obtain ⟨s1, s2⟩ := pd_sub hC (by omega) (by simp only; omega) (kd := Q.2.1) (b := Q.2.2.1) (s := Q.2.2.2) (by have := hm.2; rw [hnb] at this; exact this)
  refine ⟨_, Q, _, cmpD_fail (chk_ok.2 h.ok) hq, hq, hC, fun f hf => ?_, fun f hf => ?_, hl, s1, by simp only [List.length_append, List.length_singleton]; omega, s2, rqE_len hm.2⟩
  · rw [contD_ok hC.ok (by simp only; omega), contD_ok h.ok (by omega)]; rfl
  · rw [durD_ok hC.ok (by simp only; omega), durD_ok h.ok (by omega)]
theorem mod_ok {d : D} (h : Ok d) (f : Int) : (contD d f).length ≤ 1000 ∧ (durD d f).length ≤ 1000 := by
  constructor
  · unfold contD
    split
    · unfold cont
      cases hcl : conL f d.ca with
      | none =>
        show (d.bl.getD f.toNat []).length ≤ _
        rw [List.getD_eq_getElem?_getD]
        cases hb : d.bl[f.toNat]? with
        | none => simp
        | some x => have := h.bl x (List.mem_of_getElem? hb); simp; omega
      | some x =>
        show x.length ≤ _
        have : ∀ {l : List Ca}, conL f l = some x → ∃ c ∈ l, c.2 = x := by
          intro l
          induction l with
          | nil => intro h; cases h
          | cons c r ih =>
            intro h
            rw [conL] at h
            split at h
            · cases h; exact ⟨c, by simp, rfl⟩
            · obtain ⟨c', h1, h2⟩ := ih h; exact ⟨c', by simp [h1], h2⟩
        obtain ⟨c, h1, rfl⟩ := this hcl
        have := h.cd c h1; omega
    · simp
  · unfold durD
    split
    · rw [List.getD_eq_getElem?_getD]
      cases hb : d.bl[f.toNat]? with
      | none => simp
      | some x => have := h.bl x (List.mem_of_getElem? hb); simp; omega
    · simp
end Go.Dev
