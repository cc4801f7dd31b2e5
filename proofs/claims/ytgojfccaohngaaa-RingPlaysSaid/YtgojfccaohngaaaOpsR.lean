/-
  The ops of the law of the rings, as an argument that is only read: structs of two ints and a bool.
-/
import Derived.Test.YtgojfccaohngaaaArgs2
namespace Go.Proofs.Ytgojfccaohngaaa
open Go.RowKit Go.WideShapes Go.ChangeShapes

theorem cells57 : Try.prog.cellsOf 57 = 3 := by kernel_rfl
theorem cells4' : Try.prog.cellsOf 4 = 1 := by kernel_rfl

/-- The slice value '.slice A n c' reads as the ops l: (Kind, G, Next). -/
def IsO10 (w : World) (A : Option Addr) (n : Nat) (l : List (Int × Int × Bool)) : Prop :=
  l.length = n ∧ (0 < n → ∃ g o, A = some ⟨g, o, none⟩ ∧ g < w.heap.size ∧ ∀ j, j < n → w.cell? ⟨g, o + j * 3, none⟩ = some (.int .i64 (l.getD j (0, 0, false)).1) ∧ w.cell? ⟨g, o + j * 3 + 1, none⟩ = some (.int .i64 (l.getD j (0, 0, false)).2.1) ∧
    w.cell? ⟨g, o + j * 3 + 2, none⟩ = some (.bool (l.getD j (0, 0, false)).2.2))

section
variable {H : Type} {enc : TypeId × Value → H} {W : World}

set_option maxRecDepth 100000 in
theorem arg_ops10 {r : Reach} {base : Nat} {v : Value} {d : DataW H} {p : List MemPlace} (hv : Value.okWide Try.prog W r base 52 v)
    (h : DataW.Trod enc Try.prog W 0 (fun _ => true) true 52 v d p) : ∃ A n c l, v = .slice A n c ∧ n ≤ maxLen ∧ IsO10 W A n l := by
  obtain ⟨A, n, c, rfl⟩ := okWide_slice Try.underlying52 hv
  obtain ⟨fuel, hf⟩ := h
  have hf' : DataW.trod enc Try.prog W 0 (fun _ => true) true fuel 52 [.slice A n c] = some (d, p) := by simpa [Value.cells] using hf
  obtain ⟨h1, h2, h3⟩ := open_slice Try.underlying52 cells57 (by omega) hf'
  by_cases hn : 0 < n
  · obtain ⟨g, o, rfl, hg, hc⟩ := h3 hn
    obtain ⟨l, hl, hp⟩ := list_of ((0 : Int), (0 : Int), false) n (fun i q => W.cell? ⟨g, o + i * 3, none⟩ = some (.int .i64 q.1) ∧ W.cell? ⟨g, o + i * 3 + 1, none⟩ = some (.int .i64 q.2.1) ∧
        W.cell? ⟨g, o + i * 3 + 2, none⟩ = some (.bool q.2.2)) (fun i hi => by
      obtain ⟨cs, m, y, hcl, hcc, hy⟩ := hc i hi
      obtain ⟨xs, m2, _, _, _, hlen, hfl⟩ := DataW.trod_struct Try.underlying57 hy
      match xs, hlen with
      | [y0, y1, y2], _ =>
        have g0 := hfl 0 _ rfl
        have g1 := hfl 1 _ rfl
        have g2 := hfl 2 _ rfl
        match cs, hcl with
        | [x0, x1, x2], _ =>
          simp [cells3, cells4'] at g0 g1 g2
          obtain ⟨a, e0, _, _⟩ := DataW.trod_int Try.underlying3 g0
          obtain ⟨b, e1, _, _⟩ := DataW.trod_int Try.underlying3 g1
          obtain ⟨d2, e3, _⟩ := DataW.trod_bool Try.underlying4 g2
          simp at e0 e1 e3
          subst e0; subst e1; subst e3
          exact ⟨(a, b, d2), hcc 0 (by omega), hcc 1 (by omega), hcc 2 (by omega)⟩)
    exact ⟨_, n, c, l, rfl, by omega, hl, fun _ => ⟨g, o, rfl, hg, hp⟩⟩
  · exact ⟨A, n, c, [], rfl, by omega, by simp; omega, fun h => absurd h hn⟩
end

end Go.Proofs.Ytgojfccaohngaaa
