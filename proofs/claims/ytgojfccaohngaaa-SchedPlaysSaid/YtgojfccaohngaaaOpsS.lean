/-
  The ops of the laws of the scheduler, as an argument that is only read: structs of five ints and a bool.
-/
import Derived.Test.YtgojfccaohngaaaArgs2
namespace Go.Proofs.Ytgojfccaohngaaa
open Go.RowKit Go.WideShapes Go.ChangeShapes

theorem cells66 : Try.prog.cellsOf 66 = 6 := by kernel_rfl
theorem cells4s : Try.prog.cellsOf 4 = 1 := by kernel_rfl

structure OpS where
  kind : Int
  p : Int
  g : Int
  tick : Int
  victim : Int
  next : Bool
def OpS.zero : OpS := ⟨0, 0, 0, 0, 0, false⟩
def opS (q : OpS) : Nat → Value := fun i => if i = 0 then .int .i64 q.kind else if i = 1 then .int .i64 q.p else if i = 2 then .int .i64 q.g else if i = 3 then .int .i64 q.tick else if i = 4 then .int .i64 q.victim else .bool q.next

/-- The slice value '.slice A n c' reads as the ops l. -/
def IsO27 (w : World) (A : Option Addr) (n : Nat) (l : List OpS) : Prop :=
  l.length = n ∧ (0 < n → ∃ g o, A = some ⟨g, o, none⟩ ∧ g < w.heap.size ∧ ∀ j, j < n → w.cell? ⟨g, o + j * 6, none⟩ = some (.int .i64 (l.getD j OpS.zero).kind) ∧ w.cell? ⟨g, o + j * 6 + 1, none⟩ = some (.int .i64 (l.getD j OpS.zero).p) ∧
    w.cell? ⟨g, o + j * 6 + 2, none⟩ = some (.int .i64 (l.getD j OpS.zero).g) ∧ w.cell? ⟨g, o + j * 6 + 3, none⟩ = some (.int .i64 (l.getD j OpS.zero).tick) ∧ w.cell? ⟨g, o + j * 6 + 4, none⟩ = some (.int .i64 (l.getD j OpS.zero).victim) ∧
    w.cell? ⟨g, o + j * 6 + 5, none⟩ = some (.bool (l.getD j OpS.zero).next))

section
variable {H : Type} {enc : TypeId × Value → H} {W : World}

set_option maxRecDepth 100000 in
theorem arg_ops27 {r : Reach} {base : Nat} {v : Value} {d : DataW H} {p : List MemPlace} (hv : Value.okWide Try.prog W r base 60 v)
    (h : DataW.Trod enc Try.prog W 0 (fun _ => true) true 60 v d p) : ∃ A n c l, v = .slice A n c ∧ n ≤ maxLen ∧ IsO27 W A n l := by
  obtain ⟨A, n, c, rfl⟩ := okWide_slice Try.underlying60 hv
  obtain ⟨fuel, hf⟩ := h
  have hf' : DataW.trod enc Try.prog W 0 (fun _ => true) true fuel 60 [.slice A n c] = some (d, p) := by simpa [Value.cells] using hf
  obtain ⟨h1, h2, h3⟩ := open_slice Try.underlying60 cells66 (by omega) hf'
  by_cases hn : 0 < n
  · obtain ⟨g, o, rfl, hg, hc⟩ := h3 hn
    obtain ⟨l, hl, hp⟩ := list_of OpS.zero n (fun i q => W.cell? ⟨g, o + i * 6, none⟩ = some (.int .i64 q.kind) ∧ W.cell? ⟨g, o + i * 6 + 1, none⟩ = some (.int .i64 q.p) ∧
        W.cell? ⟨g, o + i * 6 + 2, none⟩ = some (.int .i64 q.g) ∧ W.cell? ⟨g, o + i * 6 + 3, none⟩ = some (.int .i64 q.tick) ∧ W.cell? ⟨g, o + i * 6 + 4, none⟩ = some (.int .i64 q.victim) ∧ W.cell? ⟨g, o + i * 6 + 5, none⟩ = some (.bool q.next)) (fun i hi => by
      obtain ⟨cs, m, y, hcl, hcc, hy⟩ := hc i hi
      obtain ⟨xs, m2, _, _, _, hlen, hfl⟩ := DataW.trod_struct Try.underlying66 hy
      match xs, hlen with
      | [y0, y1, y2, y3, y4, y5], _ =>
        have g0 := hfl 0 _ rfl
        have g1 := hfl 1 _ rfl
        have g2 := hfl 2 _ rfl
        have g3 := hfl 3 _ rfl
        have g4 := hfl 4 _ rfl
        have g5 := hfl 5 _ rfl
        match cs, hcl with
        | [x0, x1, x2, x3, x4, x5], _ =>
          simp [cells3, cells4s] at g0 g1 g2 g3 g4 g5
          obtain ⟨a, e0, _, _⟩ := DataW.trod_int Try.underlying3 g0
          obtain ⟨b, e1, _, _⟩ := DataW.trod_int Try.underlying3 g1
          obtain ⟨c2, e2, _, _⟩ := DataW.trod_int Try.underlying3 g2
          obtain ⟨d2, e3, _, _⟩ := DataW.trod_int Try.underlying3 g3
          obtain ⟨f2, e4, _, _⟩ := DataW.trod_int Try.underlying3 g4
          obtain ⟨b2, e5, _⟩ := DataW.trod_bool Try.underlying4 g5
          simp at e0 e1 e2 e3 e4 e5
          subst e0; subst e1; subst e2; subst e3; subst e4; subst e5
          exact ⟨⟨a, b, c2, d2, f2, b2⟩, hcc 0 (by omega), hcc 1 (by omega), hcc 2 (by omega), hcc 3 (by omega), hcc 4 (by omega), hcc 5 (by omega)⟩)
    exact ⟨_, n, c, l, rfl, by omega, hl, fun _ => ⟨g, o, rfl, hg, hp⟩⟩
  · exact ⟨A, n, c, [], rfl, by omega, by simp; omega, fun h => absurd h hn⟩
end

end Go.Proofs.Ytgojfccaohngaaa
