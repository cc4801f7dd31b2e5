/-
  The ops of the law of the queue, as an argument that is only read: structs of four ints and a slice of ints.
-/
import Derived.Test.YtgojfccaohngaaaArgs2
import Derived.Test.YtgojfccaohngaaaAppR
namespace Go.Proofs.Ytgojfccaohngaaa
open Go.RowKit Go.WideShapes Go.ChangeShapes

theorem cells44 : Try.prog.cellsOf 44 = 5 := by kernel_rfl
theorem cells27 : Try.prog.cellsOf 27 = 1 := by kernel_rfl

structure OpQ where
  kind : Int
  ps : Int
  most : Int
  g : Int
  A : Option Addr
  n : Nat
  c : Nat
  l : List Int
def OpQ.zero : OpQ := ⟨0, 0, 0, 0, none, 0, 0, []⟩

/-- The slice value '.slice A n c' reads as the ops l. -/
def IsQ (w : World) (A : Option Addr) (n : Nat) (l : List OpQ) : Prop :=
  l.length = n ∧ (0 < n → ∃ g o, A = some ⟨g, o, none⟩ ∧ g < w.heap.size ∧ ∀ j, j < n → w.cell? ⟨g, o + j * 5, none⟩ = some (.int .i64 (l.getD j OpQ.zero).kind) ∧ w.cell? ⟨g, o + j * 5 + 1, none⟩ = some (.int .i64 (l.getD j OpQ.zero).ps) ∧
    w.cell? ⟨g, o + j * 5 + 2, none⟩ = some (.int .i64 (l.getD j OpQ.zero).most) ∧ w.cell? ⟨g, o + j * 5 + 3, none⟩ = some (.int .i64 (l.getD j OpQ.zero).g) ∧
    w.cell? ⟨g, o + j * 5 + 4, none⟩ = some (.slice (l.getD j OpQ.zero).A (l.getD j OpQ.zero).n (l.getD j OpQ.zero).c) ∧
    ((l.getD j OpQ.zero).ps < 9223372036854775808 ∧ (l.getD j OpQ.zero).most < 9223372036854775808) ∧ (l.getD j OpQ.zero).n ≤ maxLen ∧ RdL w (l.getD j OpQ.zero).A (l.getD j OpQ.zero).n (l.getD j OpQ.zero).c (l.getD j OpQ.zero).l)
theorem IsQ.keep {w w' : World} {A : Option Addr} {n : Nat} {l : List OpQ} (h : IsQ w A n l) (m : Mod (fun _ => False) w w') : IsQ w' A n l := by
  refine ⟨h.1, fun hn => ?_⟩
  obtain ⟨g, o, e, hg, hc⟩ := h.2 hn
  refine ⟨g, o, e, Nat.lt_of_lt_of_le hg m.size, fun j hj => ?_⟩
  obtain ⟨h0, h1, h2, h3, h4, h5, h6, h7⟩ := hc j hj
  exact ⟨(m.cell (p := ⟨g, o + j * 5, none⟩) hg (fun h => h)).trans h0, (m.cell (p := ⟨g, o + j * 5 + 1, none⟩) hg (fun h => h)).trans h1, (m.cell (p := ⟨g, o + j * 5 + 2, none⟩) hg (fun h => h)).trans h2,
    (m.cell (p := ⟨g, o + j * 5 + 3, none⟩) hg (fun h => h)).trans h3, (m.cell (p := ⟨g, o + j * 5 + 4, none⟩) hg (fun h => h)).trans h4, h5, h6, h7.keep0 m⟩

section
variable {H : Type} {enc : TypeId × Value → H} {W : World}

theorem open_ints27 {fuel : Nat} {v : Value} {x : DataW H × List MemPlace} (hf : DataW.trod enc Try.prog W 0 (fun _ => true) true fuel 27 [v] = some x) : ∃ A n c l, v = .slice A n c ∧ n ≤ maxLen ∧ RdL W A n c l := by
  obtain ⟨d, p⟩ := x
  rcases open_ints Try.underlying27 Try.underlying3 cells3 hf with ⟨hcs, _⟩ | ⟨a, len, cap, zs, hcs, _, hl, hm, hz, _, hcell, _⟩
  · have e : v = .slice none 0 0 := by simpa using hcs
    exact ⟨none, 0, 0, [], e, Nat.zero_le _, (IsL.nil W).rdL⟩
  · have e : v = .slice (some a) len cap := by simpa using hcs
    rw [if_pos rfl] at hz
    refine ⟨some a, len, cap, zs.take len, e, by omega, by rw [List.length_take]; omega, fun hn => ?_⟩
    obtain ⟨g, o, rfl, hc⟩ := ints_at hcell (by omega)
    refine ⟨by rw [List.length_take]; omega, hl, hm, fun d hd => ?_, fun _ => ⟨g, o, rfl, fun j hj => ?_⟩⟩
    · cases hd
      have := World.block_lt_of_cell? W _ (hc 0 (by omega))
      exact this
    · rw [hc j (by omega), List.getD_eq_getElem?_getD, List.getD_eq_getElem?_getD, List.getElem?_take, if_pos hj]

theorem wf_lt {n : Int} (h : (Lit.int .i64 n).wf = true) : n < 9223372036854775808 := by
  have h2 : n ≤ IntKind.max .i64 := by simp [Lit.wf] at h; exact h.2
  have h3 : IntKind.max .i64 = 9223372036854775807 := by decide
  omega

set_option maxRecDepth 100000 in
theorem arg_opsQ {r : Reach} {base : Nat} {v : Value} {d : DataW H} {p : List MemPlace} (hv : Value.okWide Try.prog W r base 39 v)
    (h : DataW.Trod enc Try.prog W 0 (fun _ => true) true 39 v d p) : ∃ A n c l, v = .slice A n c ∧ n ≤ maxLen ∧ IsQ W A n l := by
  obtain ⟨A, n, c, rfl⟩ := okWide_slice Try.underlying39 hv
  obtain ⟨fuel, hf⟩ := h
  have hf' : DataW.trod enc Try.prog W 0 (fun _ => true) true fuel 39 [.slice A n c] = some (d, p) := by simpa [Value.cells] using hf
  obtain ⟨h1, h2, h3⟩ := open_slice Try.underlying39 cells44 (by omega) hf'
  by_cases hn : 0 < n
  · obtain ⟨g, o, rfl, hg, hc⟩ := h3 hn
    obtain ⟨l, hl, hp⟩ := list_of OpQ.zero n (fun i q => W.cell? ⟨g, o + i * 5, none⟩ = some (.int .i64 q.kind) ∧ W.cell? ⟨g, o + i * 5 + 1, none⟩ = some (.int .i64 q.ps) ∧
        W.cell? ⟨g, o + i * 5 + 2, none⟩ = some (.int .i64 q.most) ∧ W.cell? ⟨g, o + i * 5 + 3, none⟩ = some (.int .i64 q.g) ∧ W.cell? ⟨g, o + i * 5 + 4, none⟩ = some (.slice q.A q.n q.c) ∧
        (q.ps < 9223372036854775808 ∧ q.most < 9223372036854775808) ∧ q.n ≤ maxLen ∧ RdL W q.A q.n q.c q.l) (fun i hi => by
      obtain ⟨cs, m, y, hcl, hcc, hy⟩ := hc i hi
      obtain ⟨xs, m2, _, _, _, hlen, hfl⟩ := DataW.trod_struct Try.underlying44 hy
      match xs, hlen with
      | [y0, y1, y2, y3, y4], _ =>
        have g0 := hfl 0 _ rfl
        have g1 := hfl 1 _ rfl
        have g2 := hfl 2 _ rfl
        have g3 := hfl 3 _ rfl
        have g4 := hfl 4 _ rfl
        match cs, hcl with
        | [x0, x1, x2, x3, x4], _ =>
          simp [cells3, cells27] at g0 g1 g2 g3 g4
          obtain ⟨a, e0, _, _⟩ := DataW.trod_int Try.underlying3 g0
          obtain ⟨b, e1, _, w1⟩ := DataW.trod_int Try.underlying3 g1
          obtain ⟨c2, e2, _, w2⟩ := DataW.trod_int Try.underlying3 g2
          obtain ⟨d2, e3, _, _⟩ := DataW.trod_int Try.underlying3 g3
          obtain ⟨A4, n4, c4, l4, e4, hn4, hr4⟩ := open_ints27 g4
          simp at e0 e1 e2 e3
          subst e0; subst e1; subst e2; subst e3; subst e4
          exact ⟨⟨a, b, c2, d2, A4, n4, c4, l4⟩, hcc 0 (by omega), hcc 1 (by omega), hcc 2 (by omega), hcc 3 (by omega), hcc 4 (by omega), ⟨wf_lt w1, wf_lt w2⟩, hn4, hr4⟩)
    exact ⟨_, n, c, l, rfl, by omega, hl, fun _ => ⟨g, o, rfl, hg, hp⟩⟩
  · exact ⟨A, n, c, [], rfl, by omega, by simp; omega, fun h => absurd h hn⟩

end

end Go.Proofs.Ytgojfccaohngaaa
