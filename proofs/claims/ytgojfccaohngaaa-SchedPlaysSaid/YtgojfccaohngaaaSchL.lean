/-
  Plain facts on a scheduler's model.
-/
import Derived.Test.YtgojfccaohngaaaSchM
namespace Go.Proofs.Ytgojfccaohngaaa
open Go.RowKit

theorem upd_upd {α : Type} (f : Nat → α) (k : Nat) (x y : α) : upd (upd f k x) k y = upd f k y := by
  funext i
  by_cases e : i = k
  · rw [e, upd_same, upd_same]
  · rw [upd_ne _ _ e, upd_ne _ _ e, upd_ne _ _ e]
theorem upd_self {α : Type} (f : Nat → α) (k : Nat) : upd f k (f k) = f := by
  funext i
  by_cases e : i = k
  · rw [e, upd_same]
  · rw [upd_ne _ _ e]
theorem upd_comm {α : Type} (f : Nat → α) {j k : Nat} (h : j ≠ k) (x y : α) : upd (upd f j x) k y = upd (upd f k y) j x := by
  funext i
  by_cases e : i = k
  · subst e
    rw [upd_same, upd_ne _ _ (fun e => h e.symm), upd_same]
  · rw [upd_ne _ _ e]
    by_cases e2 : i = j
    · subst e2
      rw [upd_same, upd_same]
    · rw [upd_ne _ _ e2, upd_ne _ _ e2, upd_ne _ _ e]
theorem put2_room (A : RM) (g : Int) (h : A.1.length < 256) : put2 A g false = (A.1 ++ [g], A.2) ∧ over2 A g false = [] := by
  unfold put2 over2
  rw [rput_room _ _ _ h]
  exact ⟨rfl, rfl⟩
theorem ready_room (R : Nat → RM) (Q : List Int) (p : Nat) (g : Int) {row : List Int} {nxt : Option Int} (e : R p = (row, nxt)) (h : row.length < 256) : ready R p g false = upd R p (row ++ [g], nxt) ∧ readyQ R Q p g false = Q := by
  obtain ⟨e1, e2⟩ := put2_room (R p) g (by rw [e]; exact h)
  unfold ready readyQ
  rw [e1, e2, e, List.append_nil]
  exact ⟨rfl, rfl⟩
theorem ready_next (R : Nat → RM) (Q : List Int) (p : Nat) (g : Int) {row : List Int} (e : R p = (row, none)) : ready R p g true = upd R p (row, some g) ∧ readyQ R Q p g true = Q := by
  unfold ready readyQ put2 over2
  rw [e, rput_first, List.append_nil]
  exact ⟨rfl, rfl⟩
theorem pickM_fair (R : Nat → RM) (x : Int) (L : List Int) (ps p : Nat) (tick v : Int) (h : ¬ tick = 0) (h1 : tick.tmod 61 = 0) : pickM R (x :: L) ps p tick v = ((x, true), R, L) := by
  unfold pickM
  rw [if_pos ⟨h, h1, by simp⟩]
  rfl
theorem pickM_row (R : Nat → RM) (Q : List Int) (ps p : Nat) (tick v : Int) (h : ¬ Fair tick Q) {x : Int} {row : List Int} (e : R p = (x :: row, none)) : pickM R Q ps p tick v = ((x, true), upd R p (row, none), Q) := by
  have e1 : all2 (R p) = x :: row := by rw [e]; rfl
  have e2 : get2 (R p) = (row, none) := by rw [e]; rfl
  unfold pickM getR
  rw [if_neg h, e1, e2]
theorem pickM_none (R : Nat → RM) (ps p : Nat) (tick v : Int) (e : R p = ([], none)) (hv : ¬ (0 ≤ v ∧ v < ps ∧ ¬ v = p)) : pickM R [] ps p tick v = ((0, false), R, []) := by
  have e1 : all2 (R p) = [] := by rw [e]; rfl
  unfold pickM
  rw [if_neg (fun h => h.2.2 rfl), e1]
  simp only []
  rw [if_neg hv]
theorem pickM_steal (R : Nat → RM) (ps p : Nat) (tick : Int) (v : Nat) (e : R p = ([], none)) (hv : v < ps) (hne : v ≠ p) :
    pickM R [] ps p tick v = ((rget (stA (R p) (R v)).1 (stA (R p) (R v)).2).1, getR (stealR R p v) p, []) := by
  have e1 : all2 (R p) = [] := by rw [e]; rfl
  unfold pickM
  rw [if_neg (fun h => h.2.2 rfl), e1]
  simp only []
  rw [if_pos ⟨by omega, by omega, by omega⟩, Int.toNat_natCast]
theorem not_fair_nil (tick : Int) : ¬ Fair tick [] := fun h => h.2.2 rfl
theorem not_fair_mod {tick : Int} (Q : List Int) (h : ¬ tick.tmod 61 = 0) : ¬ Fair tick Q := fun hf => h hf.2.1

end Go.Proofs.Ytgojfccaohngaaa
