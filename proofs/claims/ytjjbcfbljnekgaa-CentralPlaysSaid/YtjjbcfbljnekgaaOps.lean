/-
  Arguments that are slices of ops (structs of ints and a bool) that are only read.
-/
import Derived.Test.YtjjbcfbljnekgaaArgs2
namespace Go.Proofs.Ytjjbcfbljnekgaa
open Go.RowKit Go.WideShapes Go.ChangeShapes

theorem cells76 : Try.prog.cellsOf 76 = 4 := by kernel_rfl
theorem cells60 : Try.prog.cellsOf 60 = 3 := by kernel_rfl
theorem cells4' : Try.prog.cellsOf 4 = 1 := by kernel_rfl

/-- The slice value '.slice A n c' reads as the ops l: (Kind, Class, Id, Full). -/
def IsO8 (w : World) (A : Option Addr) (n : Nat) (l : List (Int × Int × Int × Bool)) : Prop :=
  l.length = n ∧ (0 < n → ∃ g o, A = some ⟨g, o, none⟩ ∧ g < w.heap.size ∧ ∀ j, j < n → w.cell? ⟨g, o + j * 4, none⟩ = some (.int .i64 (l.getD j (0, 0, 0, false)).1) ∧ w.cell? ⟨g, o + j * 4 + 1, none⟩ = some (.int .i64 (l.getD j (0, 0, 0, false)).2.1) ∧
    w.cell? ⟨g, o + j * 4 + 2, none⟩ = some (.int .i64 (l.getD j (0, 0, 0, false)).2.2.1) ∧ w.cell? ⟨g, o + j * 4 + 3, none⟩ = some (.bool (l.getD j (0, 0, 0, false)).2.2.2))
theorem IsO8.keep {w w' : World} {A : Option Addr} {n : Nat} {l : List (Int × Int × Int × Bool)} (h : IsO8 w A n l) (m : Mod (fun _ => False) w w') : IsO8 w' A n l := by
  refine ⟨h.1, fun hn => ?_⟩
  obtain ⟨g, o, e, hg, hc⟩ := h.2 hn
  refine ⟨g, o, e, Nat.lt_of_lt_of_le hg m.size, fun j hj => ?_⟩
  obtain ⟨h0, h1, h2, h3⟩ := hc j hj
  exact ⟨(m.cell (p := ⟨g, o + j * 4, none⟩) hg (fun h => h)).trans h0, (m.cell (p := ⟨g, o + j * 4 + 1, none⟩) hg (fun h => h)).trans h1, (m.cell (p := ⟨g, o + j * 4 + 2, none⟩) hg (fun h => h)).trans h2, (m.cell (p := ⟨g, o + j * 4 + 3, none⟩) hg (fun h => h)).trans h3⟩

/-- The slice value '.slice A n c' reads as the ops l: (Kind, At, G). -/
def IsO14 (w : World) (A : Option Addr) (n : Nat) (l : List (Int × Int × Int)) : Prop :=
  l.length = n ∧ (0 < n → ∃ g o, A = some ⟨g, o, none⟩ ∧ g < w.heap.size ∧ ∀ j, j < n → w.cell? ⟨g, o + j * 3, none⟩ = some (.int .i64 (l.getD j (0, 0, 0)).1) ∧ w.cell? ⟨g, o + j * 3 + 1, none⟩ = some (.int .i64 (l.getD j (0, 0, 0)).2.1) ∧
    w.cell? ⟨g, o + j * 3 + 2, none⟩ = some (.int .i64 (l.getD j (0, 0, 0)).2.2))
theorem IsO14.keep {w w' : World} {A : Option Addr} {n : Nat} {l : List (Int × Int × Int)} (h : IsO14 w A n l) (m : Mod (fun _ => False) w w') : IsO14 w' A n l := by
  refine ⟨h.1, fun hn => ?_⟩
  obtain ⟨g, o, e, hg, hc⟩ := h.2 hn
  refine ⟨g, o, e, Nat.lt_of_lt_of_le hg m.size, fun j hj => ?_⟩
  obtain ⟨h0, h1, h2⟩ := hc j hj
  exact ⟨(m.cell (p := ⟨g, o + j * 3, none⟩) hg (fun h => h)).trans h0, (m.cell (p := ⟨g, o + j * 3 + 1, none⟩) hg (fun h => h)).trans h1, (m.cell (p := ⟨g, o + j * 3 + 2, none⟩) hg (fun h => h)).trans h2⟩

section
variable {H : Type} {enc : TypeId × Value → H} {W : World}

set_option maxRecDepth 100000 in
theorem arg_ops8 {r : Reach} {base : Nat} {v : Value} {d : DataW H} {p : List MemPlace} (hv : Value.okWide Try.prog W r base 69 v)
    (h : DataW.Trod enc Try.prog W 0 (fun _ => true) true 69 v d p) : ∃ A n c l, v = .slice A n c ∧ n ≤ maxLen ∧ IsO8 W A n l := by
  obtain ⟨A, n, c, rfl⟩ := okWide_slice Try.underlying69 hv
  obtain ⟨fuel, hf⟩ := h
  have hf' : DataW.trod enc Try.prog W 0 (fun _ => true) true fuel 69 [.slice A n c] = some (d, p) := by simpa [Value.cells] using hf
  obtain ⟨h1, h2, h3⟩ := open_slice Try.underlying69 cells76 (by omega) hf'
  by_cases hn : 0 < n
  · obtain ⟨g, o, rfl, hg, hc⟩ := h3 hn
    obtain ⟨l, hl, hp⟩ := list_of ((0 : Int), (0 : Int), (0 : Int), false) n (fun i q => W.cell? ⟨g, o + i * 4, none⟩ = some (.int .i64 q.1) ∧ W.cell? ⟨g, o + i * 4 + 1, none⟩ = some (.int .i64 q.2.1) ∧
        W.cell? ⟨g, o + i * 4 + 2, none⟩ = some (.int .i64 q.2.2.1) ∧ W.cell? ⟨g, o + i * 4 + 3, none⟩ = some (.bool q.2.2.2)) (fun i hi => by
      obtain ⟨cs, m, y, hcl, hcc, hy⟩ := hc i hi
      obtain ⟨xs, m2, _, _, _, hlen, hfl⟩ := DataW.trod_struct Try.underlying76 hy
      match xs, hlen with
      | [y0, y1, y2, y3], _ =>
        have g0 := hfl 0 _ rfl
        have g1 := hfl 1 _ rfl
        have g2 := hfl 2 _ rfl
        have g3 := hfl 3 _ rfl
        match cs, hcl with
        | [x0, x1, x2, x3], _ =>
          simp [cells3, cells4'] at g0 g1 g2 g3
          obtain ⟨a, e0, _, _⟩ := DataW.trod_int Try.underlying3 g0
          obtain ⟨b, e1, _, _⟩ := DataW.trod_int Try.underlying3 g1
          obtain ⟨c2, e2, _, _⟩ := DataW.trod_int Try.underlying3 g2
          obtain ⟨d2, e3, _⟩ := DataW.trod_bool Try.underlying4 g3
          simp at e0 e1 e2 e3
          subst e0; subst e1; subst e2; subst e3
          exact ⟨(a, b, c2, d2), hcc 0 (by omega), hcc 1 (by omega), hcc 2 (by omega), hcc 3 (by omega)⟩)
    exact ⟨_, n, c, l, rfl, by omega, hl, fun _ => ⟨g, o, rfl, hg, hp⟩⟩
  · exact ⟨A, n, c, [], rfl, by omega, by simp; omega, fun h => absurd h hn⟩

set_option maxRecDepth 100000 in
theorem arg_ops14 {r : Reach} {base : Nat} {v : Value} {d : DataW H} {p : List MemPlace} (hv : Value.okWide Try.prog W r base 54 v)
    (h : DataW.Trod enc Try.prog W 0 (fun _ => true) true 54 v d p) : ∃ A n c l, v = .slice A n c ∧ n ≤ maxLen ∧ IsO14 W A n l := by
  obtain ⟨A, n, c, rfl⟩ := okWide_slice Try.underlying54 hv
  obtain ⟨fuel, hf⟩ := h
  have hf' : DataW.trod enc Try.prog W 0 (fun _ => true) true fuel 54 [.slice A n c] = some (d, p) := by simpa [Value.cells] using hf
  obtain ⟨h1, h2, h3⟩ := open_slice Try.underlying54 cells60 (by omega) hf'
  by_cases hn : 0 < n
  · obtain ⟨g, o, rfl, hg, hc⟩ := h3 hn
    obtain ⟨l, hl, hp⟩ := list_of ((0 : Int), (0 : Int), (0 : Int)) n (fun i q => W.cell? ⟨g, o + i * 3, none⟩ = some (.int .i64 q.1) ∧ W.cell? ⟨g, o + i * 3 + 1, none⟩ = some (.int .i64 q.2.1) ∧
        W.cell? ⟨g, o + i * 3 + 2, none⟩ = some (.int .i64 q.2.2)) (fun i hi => by
      obtain ⟨cs, m, y, hcl, hcc, hy⟩ := hc i hi
      obtain ⟨xs, m2, _, _, _, hlen, hfl⟩ := DataW.trod_struct Try.underlying60 hy
      match xs, hlen with
      | [y0, y1, y2], _ =>
        have g0 := hfl 0 _ rfl
        have g1 := hfl 1 _ rfl
        have g2 := hfl 2 _ rfl
        match cs, hcl with
        | [x0, x1, x2], _ =>
          simp [cells3] at g0 g1 g2
          obtain ⟨a, e0, _, _⟩ := DataW.trod_int Try.underlying3 g0
          obtain ⟨b, e1, _, _⟩ := DataW.trod_int Try.underlying3 g1
          obtain ⟨c2, e2, _, _⟩ := DataW.trod_int Try.underlying3 g2
          simp at e0 e1 e2
          subst e0; subst e1; subst e2
          exact ⟨(a, b, c2), hcc 0 (by omega), hcc 1 (by omega), hcc 2 (by omega)⟩)
    exact ⟨_, n, c, l, rfl, by omega, hl, fun _ => ⟨g, o, rfl, hg, hp⟩⟩
  · exact ⟨A, n, c, [], rfl, by omega, by simp; omega, fun h => absurd h hn⟩
end

end Go.Proofs.Ytjjbcfbljnekgaa
