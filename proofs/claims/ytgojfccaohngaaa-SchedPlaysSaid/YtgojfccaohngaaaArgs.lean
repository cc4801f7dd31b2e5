/-
  Arguments that are only read: what of them the walks want.
-/
import Derived.Test.YtgojfccaohngaaaProg
import Derived.Test.YtgojfccaohngaaaBase
import Derived.ProofKit
import Derived.OpenShut
namespace Go.Proofs.Ytgojfccaohngaaa
open Go.RowKit Go.WideShapes Go.ChangeShapes

theorem Try.laidOut : laidOutB Try.prog = true := by kernel_rfl
theorem cells3 : Try.prog.cellsOf 3 = 1 := by kernel_rfl

theorem arg_ints {H : Type} {enc : TypeId × Value → H} {W : World} {r : Reach} {base : Nat} {v : Value} {d : DataW H} {p : List MemPlace} (hv : Value.okWide Try.prog W r base 27 v)
    (h : DataW.Trod enc Try.prog W 0 (fun _ => true) true 27 v d p) : ∃ A n c l, v = .slice A n c ∧ n ≤ maxLen ∧ (0 < n → IsL W A n c l) := by
  obtain ⟨A, n, c, rfl⟩ := okWide_slice Try.underlying27 hv
  obtain ⟨fuel, hf⟩ := h
  rcases open_ints Try.underlying27 Try.underlying3 cells3 hf with ⟨hcs, _⟩ | ⟨a, len, cap, zs, hcs, _, hl, hm, hz, _, hcell, _⟩
  · have e : Value.slice A n c = .slice none 0 0 := by simpa [Value.cells] using hcs
    injection e with e1 e2 e3
    subst e2
    exact ⟨A, 0, c, [], rfl, Nat.zero_le _, fun h => absurd h (by omega)⟩
  · have e : Value.slice A n c = .slice (some a) len cap := by simpa [Value.cells] using hcs
    injection e with e1 e2 e3
    subst e1; subst e2; subst e3
    refine ⟨_, n, c, zs.take n, rfl, by omega, fun hn => ?_⟩
    rw [if_pos rfl] at hz
    obtain ⟨g, o, rfl, hc⟩ := ints_at hcell (by omega)
    refine ⟨by rw [List.length_take]; omega, hl, hm, fun d hd => ?_, fun _ => ⟨g, o, rfl, fun j hj => ?_⟩⟩
    · cases hd
      have := World.block_lt_of_cell? W _ (hc 0 (by omega))
      exact this
    · rw [hc j (by omega), List.getD_eq_getElem?_getD, List.getD_eq_getElem?_getD, List.getElem?_take, if_pos hj]

end Go.Proofs.Ytgojfccaohngaaa
