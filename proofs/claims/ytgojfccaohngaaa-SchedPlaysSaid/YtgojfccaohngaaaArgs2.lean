/-
  Slices of structs that are only read.
-/
import Derived.Test.YtgojfccaohngaaaArgs
namespace Go.Proofs.Ytgojfccaohngaaa
open Go.RowKit Go.WideShapes Go.ChangeShapes

theorem list_of {α : Type} (d : α) (n : Nat) (P : Nat → α → Prop) (h : ∀ i, i < n → ∃ a, P i a) : ∃ l : List α, l.length = n ∧ ∀ j, j < n → P j (l.getD j d) := by
  induction n with
  | zero => exact ⟨[], rfl, fun j hj => by omega⟩
  | succ n ih =>
    obtain ⟨l, hl, hp⟩ := ih (fun i hi => h i (by omega))
    obtain ⟨a, ha⟩ := h n (by omega)
    refine ⟨l ++ [a], by simp [hl], fun j hj => ?_⟩
    by_cases e : j = n
    · subst e
      rw [List.getD_eq_getElem?_getD, List.getElem?_append_right (by omega), hl, Nat.sub_self]
      exact ha
    · have := hp j (by omega)
      rw [List.getD_eq_getElem?_getD, List.getElem?_append_left (by omega), ← List.getD_eq_getElem?_getD]
      exact this

section
variable {H : Type} {enc : TypeId × Value → H} {W : World}

theorem open_slice {fuel : Nat} {t e k : Nat} {A : Option Addr} {n c : Nat} {x : DataW H × List MemPlace} (ht : Try.prog.underlying t = some (.slice e)) (hk : Try.prog.cellsOf e = k) (hk0 : 0 < k)
    (h : DataW.trod enc Try.prog W 0 (fun _ => true) true fuel t [.slice A n c] = some x) :
    n ≤ c ∧ c ≤ maxLen ∧ (0 < n → ∃ g o, A = some ⟨g, o, none⟩ ∧ g < W.heap.size ∧ ∀ i, i < n → ∃ cs m y, cs.length = k ∧ (∀ j, j < k → W.cell? ⟨g, o + (i * k + j), none⟩ = cs[j]?) ∧ DataW.trod enc Try.prog W 0 (fun _ => true) true m e cs = some y) := by
  rcases DataW.trod_slice ht h with ⟨h0, _⟩ | ⟨a, len, cap, elems, rest, m, _, h1, _, _, hl, hm, hlen, hel, _, _⟩
  · injection h0 with h0
    injection h0 with e1 e2 e3
    subst e1; subst e2; subst e3
    exact ⟨Nat.le_refl _, Nat.zero_le _, fun h => absurd h (by omega)⟩
  · injection h1 with h1
    injection h1 with e1 e2 e3
    subst e1; subst e2; subst e3
    refine ⟨hl, hm, fun hn => ?_⟩
    have each : ∀ i, i < n → ∃ cs y, cs.length = k ∧ (∀ j, j < k → W.cell? ((a.add (i * k)).add j) = cs[j]?) ∧ DataW.trod enc Try.prog W 0 (fun _ => true) true m e cs = some y := by
      intro i hi
      have h2 := hel i hi
      rw [hk, List.getElem?_eq_getElem (by omega), Option.bind_eq_some_iff] at h2
      obtain ⟨cs, hcs, hy⟩ := h2
      obtain ⟨_, h3, h4⟩ := World.cells?_some hcs
      exact ⟨cs, _, h3, h4, hy⟩
    obtain ⟨cs, y, hcl, hc, _⟩ := each 0 hn
    have hc0 := hc 0 hk0
    rw [List.getElem?_eq_getElem (by omega)] at hc0
    have hspot := World.cell?_spot hc0
    obtain ⟨g, o, s⟩ := a
    have hs : s = none := by simpa [Addr.add] using hspot
    subst hs
    refine ⟨g, o, rfl, ?_, fun i hi => ?_⟩
    · have := World.block_lt_of_cell? W _ hc0
      simpa [Addr.add] using this
    · obtain ⟨cs, y, h3, h4, h5⟩ := each i hi
      refine ⟨cs, m, y, h3, fun j hj => ?_, h5⟩
      have := h4 j hj
      rw [add_plain, add_plain, Nat.add_assoc] at this
      exact this
end

end Go.Proofs.Ytgojfccaohngaaa
