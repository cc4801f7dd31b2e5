/-
  Pairs and bools that are only read.
-/
import Derived.Test.YtjjbcfbljnekgaaArgs2
import Derived.Test.YtjjbcfbljnekgaaBarrier
namespace Go.Proofs.Ytjjbcfbljnekgaa
open Go.RowKit Go.WideShapes Go.ChangeShapes

theorem cells31 : Try.prog.cellsOf 31 = 2 := by kernel_rfl
theorem cells4 : Try.prog.cellsOf 4 = 1 := by kernel_rfl

/-- The slice value '.slice A n c' reads as the list of bools l. -/
def IsB (w : World) (A : Option Addr) (n : Nat) (l : List Bool) : Prop :=
  l.length = n ∧ (0 < n → ∃ g o, A = some ⟨g, o, none⟩ ∧ g < w.heap.size ∧ ∀ j, j < n → w.cell? ⟨g, o + j, none⟩ = some (.bool (l.getD j false)))
theorem IsB.keep {S : Nat → Prop} {w w' : World} {A : Option Addr} {n : Nat} {l : List Bool} (h : IsB w A n l) (m : Mod S w w') (hs : ∀ d, A = some d → d.block < w.heap.size → ¬ S d.block) : IsB w' A n l := by
  refine ⟨h.1, fun hn => ?_⟩
  obtain ⟨g, o, e, hg, hc⟩ := h.2 hn
  exact ⟨g, o, e, Nat.lt_of_lt_of_le hg m.size, fun j hj => (m.cell (p := ⟨g, o + j, none⟩) hg (hs ⟨g, o, none⟩ e hg)).trans (hc j hj)⟩

section
variable {H : Type} {enc : TypeId × Value → H} {W : World}

set_option maxRecDepth 100000 in
theorem arg_pairs {r : Reach} {base : Nat} {v : Value} {d : DataW H} {p : List MemPlace} (hv : Value.okWide Try.prog W r base 22 v)
    (h : DataW.Trod enc Try.prog W 0 (fun _ => true) true 22 v d p) : ∃ A n c l, v = .slice A n c ∧ n ≤ maxLen ∧ IsP W A n l := by
  obtain ⟨A, n, c, rfl⟩ := okWide_slice Try.underlying22 hv
  obtain ⟨fuel, hf⟩ := h
  have hf' : DataW.trod enc Try.prog W 0 (fun _ => true) true fuel 22 [.slice A n c] = some (d, p) := by simpa [Value.cells] using hf
  obtain ⟨h1, h2, h3⟩ := open_slice Try.underlying22 cells31 (by omega) hf'
  by_cases hn : 0 < n
  · obtain ⟨g, o, rfl, hg, hc⟩ := h3 hn
    obtain ⟨l, hl, hp⟩ := list_of ((0 : Int), (0 : Int)) n (fun i q => W.cell? ⟨g, o + 2 * i, none⟩ = some (.int .i64 q.1) ∧ W.cell? ⟨g, o + (2 * i + 1), none⟩ = some (.int .i64 q.2)) (fun i hi => by
      obtain ⟨cs, m, y, hcl, hcc, hy⟩ := hc i hi
      obtain ⟨y0, y1, m2, _, _, g0, g1⟩ := trod_struct2 Try.underlying31 hy
      obtain ⟨a, e0, _, _⟩ := DataW.trod_int Try.underlying3 g0
      obtain ⟨b, e1, _, _⟩ := DataW.trod_int Try.underlying3 g1
      match cs, hcl with
      | [x0, x1], _ =>
        simp [cells3] at e0 e1
        subst e0; subst e1
        have c0 := hcc 0 (by omega)
        have c1 := hcc 1 (by omega)
        rw [Nat.mul_comm i 2] at c0 c1
        exact ⟨(a, b), c0, c1⟩)
    exact ⟨_, n, c, l, rfl, by omega, hl, fun _ => ⟨g, o, rfl, hg, hp⟩⟩
  · exact ⟨A, n, c, [], rfl, by omega, by simp; omega, fun h => absurd h hn⟩

set_option maxRecDepth 100000 in
theorem arg_bools {r : Reach} {base : Nat} {v : Value} {d : DataW H} {p : List MemPlace} (hv : Value.okWide Try.prog W r base 23 v)
    (h : DataW.Trod enc Try.prog W 0 (fun _ => true) true 23 v d p) : ∃ A n c l, v = .slice A n c ∧ n ≤ maxLen ∧ IsB W A n l := by
  obtain ⟨A, n, c, rfl⟩ := okWide_slice Try.underlying23 hv
  obtain ⟨fuel, hf⟩ := h
  have hf' : DataW.trod enc Try.prog W 0 (fun _ => true) true fuel 23 [.slice A n c] = some (d, p) := by simpa [Value.cells] using hf
  obtain ⟨h1, h2, h3⟩ := open_slice Try.underlying23 cells4 (by omega) hf'
  by_cases hn : 0 < n
  · obtain ⟨g, o, rfl, hg, hc⟩ := h3 hn
    obtain ⟨l, hl, hp⟩ := list_of false n (fun i q => W.cell? ⟨g, o + i, none⟩ = some (.bool q)) (fun i hi => by
      obtain ⟨cs, m, y, hcl, hcc, hy⟩ := hc i hi
      obtain ⟨b, e0, _⟩ := DataW.trod_bool Try.underlying4 hy
      subst e0
      have c0 := hcc 0 (by omega)
      rw [Nat.mul_one] at c0
      exact ⟨b, c0⟩)
    exact ⟨_, n, c, l, rfl, by omega, hl, fun _ => ⟨g, o, rfl, hg, hp⟩⟩
  · exact ⟨A, n, c, [], rfl, by omega, by simp; omega, fun h => absurd h hn⟩
end

end Go.Proofs.Ytjjbcfbljnekgaa
