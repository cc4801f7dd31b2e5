import Derived.Test.YtgojfccaohngaaaRRing2
/-! The reference's ring, Steal whole: what it does to the two rings is rsteal. -/
namespace Go.Proofs.Ytgojfccaohngaaa
open Go Go.Proofs Go.RowKit

set_option maxHeartbeats 400000 in
theorem rrsteal_nothing (b o : Nat) (row : List Int) (nxt onxt : Option Int) (w : World) (h : RRing w b row nxt) (ho : RRing w o [] onxt) (hne : b ≠ o) (hgo : onxt = none ∨ row.length = 256) :
    Calls Try.prog 36 #[.pointer (some ⟨b, 0, none⟩), .pointer (some ⟨o, 0, none⟩)] w fun e w' => e = .returned (.int .i64 0) ∧ w' = w := by
  obtain ⟨A1, n1, c1, A2, n2, c2, hr, h1, h2, t1, t2⟩ := h
  obtain ⟨B1, m1, d1, B2, m2, d2, hro, k1, k2, s1, s2⟩ := ho
  have hp := rr_ptr_ne hro hr (fun e => hne e.symm)
  have hc1 : w.cell? ⟨b, 1, none⟩ = some (.slice A2 n2 c2) := hr.cell (by omega)
  have hk0 : w.cell? ⟨o, 0, none⟩ = some (.slice B1 m1 d1) := hro.cell (by omega)
  have hk1 : w.cell? ⟨o, 1, none⟩ = some (.slice B2 m2 d2) := hro.cell (by omega)
  have hm2 : m2 = 0 := k2.len.symm
  subst hm2
  cases onxt with
  | none =>
    have hm1 : m1 = 0 := k1.len.symm
    subst hm1
    go_enter Try.func36, Try.ntmps36
    go_wp2
    go_ret
    exact ⟨rfl, rfl⟩
  | some g =>
    have hm1 : m1 = 1 := k1.len.symm
    subst hm1
    have hn : n2 = 256 := by
      rcases hgo with e | e
      · cases e
      · rw [← h2.len, e]
    subst hn
    go_enter Try.func36, Try.ntmps36
    go_wp2
    go_ret
    exact ⟨rfl, rfl⟩

theorem rrsteal_any (b o : Nat) (row orow : List Int) (nxt onxt : Option Int) (w : World) (h : RRing w b row nxt) (ho : RRing w o orow onxt) (hne : b ≠ o) (hlen : row.length ≤ 256) (holen : orow.length ≤ 256) :
    Calls Try.prog 36 #[.pointer (some ⟨b, 0, none⟩), .pointer (some ⟨o, 0, none⟩)] w fun e w' =>
      e = .returned (.int .i64 ((rsteal row orow onxt).1 : Nat)) ∧ RRing w' b (rsteal row orow onxt).2.1 nxt ∧ RRing w' o (rsteal row orow onxt).2.2.1 (rsteal row orow onxt).2.2.2 ∧ Mod (fun i => i = b ∨ i = o) w w' := by
  cases orow with
  | cons x r => exact rrsteal_row b o row (x :: r) nxt onxt w h ho hne (by simp) hlen holen
  | nil =>
    by_cases hgo : onxt = none ∨ row.length = 256
    · have e : rsteal row [] onxt = (0, row, [], onxt) := by
        rcases hgo with e | e
        · subst e; simp [rsteal]
        · cases onxt with
          | none => simp [rsteal]
          | some g => simp [rsteal, e]
      rw [e]
      exact (rrsteal_nothing b o row nxt onxt w h ho hne hgo).mono (fun e w' ⟨e1, e2⟩ => by subst e2; exact ⟨e1, h, ho, Mod.refl _ _⟩)
    · cases onxt with
      | none => exact absurd (.inl rfl) hgo
      | some g =>
        have h3 : row.length < 256 := by omega
        have e : rsteal row [] (some g) = (1, row ++ [g], [], none) := by simp [rsteal, h3]
        rw [e]
        exact rrsteal_next b o row nxt g w h ho hne h3
end Go.Proofs.Ytgojfccaohngaaa
