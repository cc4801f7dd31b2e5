/-
  The law SchedOnce's own variables beside a scheduler; its inner function.
-/
import Derived.Test.YtgojfccaohngaaaSOnceP
import Derived.Test.YtgojfccaohngaaaOpsS
set_option linter.unusedSimpArgs false
namespace Go.Proofs.Ytgojfccaohngaaa
open Go.RowKit

/-- A law's scheduler beside blocks B of the law's own. -/
def SB (W : World) (a : SA) (w : World) (R : Nat → RM) (Q : List Int) (B : Nat → Prop) : Prop :=
  ∃ o, Sch a w o R Q ∧ (∀ k, SS a o k → W.heap.size ≤ k ∧ ¬ B k) ∧ (∀ k, B k → W.heap.size ≤ k ∧ k < w.heap.size) ∧ Mod (fun _ => False) W w
section
variable {W w w' : World} {a : SA} {R R' : Nat → RM} {Q Q' : List Int} {B : Nat → Prop}
theorem SB.mod (h : SB W a w R Q B) : Mod (fun _ => False) W w := by
  obtain ⟨_, _, _, _, h4⟩ := h
  exact h4
theorem SB.keep0 (h : SB W a w R Q B) (m : Mod (fun _ => False) w w') : SB W a w' R Q B := by
  obtain ⟨o, h1, h2, h3, h4⟩ := h
  exact ⟨o, h1.keep0 m, h2, fun k hk => ⟨(h3 k hk).1, Nat.lt_of_lt_of_le (h3 k hk).2 m.size⟩, h4.trans m⟩
theorem SB.own {T : Nat → Prop} (h : SB W a w R Q B) (m : Mod T w w') (hT : ∀ k, T k → B k ∨ w.heap.size ≤ k) : SB W a w' R Q B := by
  obtain ⟨o, h1, h2, h3, h4⟩ := h
  refine ⟨o, h1.keep m (fun k hk ht => ?_), h2, fun k hk => ⟨(h3 k hk).1, Nat.lt_of_lt_of_le (h3 k hk).2 m.size⟩, h4.new m (fun i hi => ?_)⟩
  · rcases hT k ht with e | e
    · exact (h2 k hk).2 e
    · have := h1.lt k hk; omega
  · rcases hT i hi with e | e
    · exact (h3 i e).1
    · exact Nat.le_trans h4.size e
theorem SB.call {N : Nat} {args : Array Value} {v : Value} (h : SB W a w R Q B) (hc : ∀ o, Sch a w o R Q → Calls Try.prog N args w (fun e w' => e = .returned v ∧ To a o w w' R' Q')) :
    Calls Try.prog N args w (fun e w' => e = .returned v ∧ SB W a w' R' Q' B ∧ ∃ S, Mod S w w' ∧ ∀ k, S k → W.heap.size ≤ k ∧ k < w.heap.size ∧ ¬ B k ∧ ∀ (t : TypeId) (n : Nat) (f : Nat → Value), t = 66 → ¬ w.rowIs k t n f) := by
  obtain ⟨o, h1, h2, h3, h4⟩ := h
  refine (hc o h1).mono ?_
  rintro e w' ⟨he, o', k1, k2, k3⟩
  have hs := h4.size
  refine ⟨he, ⟨o', k1, fun i hi => ?_, fun k hk => ⟨(h3 k hk).1, Nat.lt_of_lt_of_le (h3 k hk).2 k3.size⟩, h4.new k3 (fun i hi => (h2 i hi).1)⟩, _, k3, fun k hk => ⟨(h2 k hk).1, h1.lt k hk, (h2 k hk).2, ?_⟩⟩
  · rcases hi with e | e | (e | e) | e
    · exact h2 i (.inl e)
    · exact h2 i (.inr (.inl e))
    · exact h2 i (.inr (.inr (.inl (.inl e))))
    · rcases k2 i e with e2 | e2
      · exact h2 i (.inr (.inr (.inl (.inr e2))))
      · exact ⟨by omega, fun hb => by have := (h3 i hb).2; omega⟩
    · exact h2 i (.inr (.inr (.inr e)))
  · rintro t n f rfl hr
    have hT := HasT.of_row hr
    rcases hk with e | e | (e | e) | ⟨i, hi, e⟩
    · exact hT.ne (HasT.of_row h1.row) (by decide) e
    · exact hT.ne h1.arr (by decide) e
    · exact hT.ne h1.queue.hasT.1 (by decide) e
    · exact hT.ne (h1.queue.hasT.2 k e) (by decide) rfl
    · exact hT.ne (h1.ring i hi).hasT (by decide) e
theorem SB.ask {N : Nat} {args : Array Value} {v : Value} (h : SB W a w R Q B) (hc : ∀ o, Sch a w o R Q → Calls Try.prog N args w (fun e w' => e = .returned v ∧ Mod (fun _ => False) w w')) :
    Calls Try.prog N args w (fun e w' => e = .returned v ∧ SB W a w' R Q B ∧ Mod (fun _ => False) w w') := by
  obtain ⟨o, h1, _, _, _⟩ := id h
  exact (hc o h1).mono fun e w' ⟨he, m⟩ => ⟨he, h.keep0 m, m⟩
end

/-- The law's own variables: k, the slice seen, its row. -/
structure Own (w : World) (kb snb sn k : Nat) (seen : Nat → Bool) : Prop where
  ck : w.rowIs kb 3 1 (fun _ => .int .i64 k)
  cs : w.rowIs snb 64 1 (fun _ => .slice (some ⟨sn, 0, none⟩) k k)
  row : w.rowIs sn 4 k (fun i => .bool (seen i))
def OwnB (kb snb sn : Nat) : Nat → Prop := fun i => i = kb ∨ i = snb ∨ i = sn
theorem Own.keep {w w' : World} {kb snb sn k : Nat} {seen : Nat → Bool} {S : Nat → Prop} (h : Own w kb snb sn k seen) (m : Mod S w w') (hS : ∀ i, OwnB kb snb sn i → ¬ S i) : Own w' kb snb sn k seen :=
  ⟨m.rowIs h.ck (hS _ (.inl rfl)), m.rowIs h.cs (hS _ (.inr (.inl rfl))), m.rowIs h.row (hS _ (.inr (.inr rfl)))⟩
theorem Own.keep0 {w w' : World} {kb snb sn k : Nat} {seen : Nat → Bool} (h : Own w kb snb sn k seen) (m : Mod (fun _ => False) w w') : Own w' kb snb sn k seen := h.keep m (fun _ _ h => h)

section
variable {W w w' : World} {a : SA} {R R' : Nat → RM} {Q Q' : List Int} {kb snb sn k q : Nat} {seen : Nat → Bool} {f : Nat → Value}
theorem SB.row66 {B : Nat → Prop} (h : SB W a w R Q B) (hr : w.rowIs q 66 6 f) (hq : W.heap.size ≤ q) (m : Mod (fun i => i = q) w w') : SB W a w' R Q B := by
  obtain ⟨o, h1, h2, h3, h4⟩ := h
  refine ⟨o, h1.keep m ?_, h2, fun k hk => ⟨(h3 k hk).1, Nat.lt_of_lt_of_le (h3 k hk).2 m.size⟩, h4.new m (fun i hi => by rw [hi]; exact hq)⟩
  rintro k hk rfl
  have hT := HasT.of_row hr
  rcases hk with e | e | (e | e) | ⟨i, hi, e⟩
  · exact hT.ne (HasT.of_row h1.row) (by decide) e
  · exact hT.ne h1.arr (by decide) e
  · exact hT.ne h1.queue.hasT.1 (by decide) e
  · exact hT.ne (h1.queue.hasT.2 k e) (by decide) rfl
  · exact hT.ne (h1.ring i hi).hasT (by decide) e
theorem Own.row66 (h : Own w kb snb sn k seen) (hr : w.rowIs q 66 6 f) (m : Mod (fun i => i = q) w w') : Own w' kb snb sn k seen := h.keep m (fun i hi e => by
  subst e
  rcases hi with e | e | e
  · exact rows_ne hr h.ck (by decide) e
  · exact rows_ne hr h.cs (by decide) e
  · exact rows_ne hr h.row (by decide) e)
theorem SB.call' {N : Nat} {args : Array Value} {v : Value} (h : SB W a w R Q (OwnB kb snb sn)) (hO : Own w kb snb sn k seen) (hr : w.rowIs q 66 6 f) (hc : ∀ o, Sch a w o R Q → Calls Try.prog N args w (fun e w' => e = .returned v ∧ To a o w w' R' Q')) :
    Calls Try.prog N args w (fun e w' => e = .returned v ∧ SB W a w' R' Q' (OwnB kb snb sn) ∧ Own w' kb snb sn k seen ∧ w'.rowIs q 66 6 f) := by
  refine (h.call hc).mono ?_
  rintro e w' ⟨he, h1, S, m, hS⟩
  exact ⟨he, h1, hO.keep m (fun i hi hs => (hS i hs).2.2.1 hi), m.rowIs hr (fun hs => (hS q hs).2.2.2 66 6 f rfl hr)⟩
theorem SB.call2 {N : Nat} {args : Array Value} {v : Value} (h : SB W a w R Q (OwnB kb snb sn)) (hO : Own w kb snb sn k seen) (hc : ∀ o, Sch a w o R Q → Calls Try.prog N args w (fun e w' => e = .returned v ∧ To a o w w' R' Q')) :
    Calls Try.prog N args w (fun e w' => e = .returned v ∧ SB W a w' R' Q' (OwnB kb snb sn) ∧ Own w' kb snb sn k seen) := by
  refine (h.call hc).mono ?_
  rintro e w' ⟨he, h1, S, m, hS⟩
  exact ⟨he, h1, hO.keep m (fun i hi hs => (hS i hs).2.2.1 hi)⟩
/-- An op is stored, field by field. -/
theorem set6 (hr : w.rowIs q 66 6 f) (op : OpS) : ((((((w.setCell ⟨q, 0, none⟩ (.int .i64 op.kind)).setCell ⟨q, 1, none⟩ (.int .i64 op.p)).setCell ⟨q, 2, none⟩ (.int .i64 op.g)).setCell ⟨q, 3, none⟩ (.int .i64 op.tick)).setCell ⟨q, 4, none⟩ (.int .i64 op.victim)).setCell ⟨q, 5, none⟩ (.bool op.next)).rowIs q 66 6 (opS op) ∧
    Mod (fun i => i = q) w ((((((w.setCell ⟨q, 0, none⟩ (.int .i64 op.kind)).setCell ⟨q, 1, none⟩ (.int .i64 op.p)).setCell ⟨q, 2, none⟩ (.int .i64 op.g)).setCell ⟨q, 3, none⟩ (.int .i64 op.tick)).setCell ⟨q, 4, none⟩ (.int .i64 op.victim)).setCell ⟨q, 5, none⟩ (.bool op.next)) := by
  refine ⟨((((((hr.set 0 _).set 1 _).set 2 _).set 3 _).set 4 _).set 5 _).congr (fun i hi => ?_), ?_⟩
  · have h3 : i = 0 ∨ i = 1 ∨ i = 2 ∨ i = 3 ∨ i = 4 ∨ i = 5 := by omega
    rcases h3 with rfl | rfl | rfl | rfl | rfl | rfl <;> rfl
  · have s : ∀ (a b : World) (j : Nat) (v : Value), Mod (fun i => i = q) a b → Mod (fun i => i = q) a (b.setCell ⟨q, j, none⟩ v) := fun a b j v h => h.setCell (p := ⟨q, j, none⟩) (.inl rfl) v
    exact s _ _ _ _ (s _ _ _ _ (s _ _ _ _ (s _ _ _ _ (s _ _ _ _ (s _ _ _ _ (Mod.refl _ _))))))
end

set_option maxHeartbeats 400000 in
theorem take_ok (w : World) (kb snb sn k g : Nat) (seen : Nat → Bool) (h : Own w kb snb sn k seen) (hk : k ≤ 1000) (hg : g < k) (hs : seen g = false) :
    Calls Try.prog 40 #[.int .i64 g, .pointer (some ⟨kb, 0, none⟩), .pointer (some ⟨snb, 0, none⟩)] w fun e w' => e = .returned (.bool true) ∧ Own w' kb snb sn k (upd seen g true) ∧ Mod (· = sn) w w' := by
  have c1 : w.cell? ⟨kb, 0, none⟩ = some (.int .i64 k) := h.ck.cell (i := 0) (by omega)
  have c2 : w.cell? ⟨snb, 0, none⟩ = some (.slice (some ⟨sn, 0, none⟩) k k) := h.cs.cell (i := 0) (by omega)
  have c3 : w.cell? ⟨sn, g, none⟩ = some (.bool false) := by rw [h.row.cell hg, hs]
  have f3 := h.row.frozen g
  have hl := h.row.lt
  have hi0 : (0 : Int) ≤ (g : Int) := by omega
  have hi1 : (g : Int) < (k : Int) := by omega
  have d1 : decide ((g : Int) < 0) = false := decide_eq_false (by omega)
  have d2 : decide ((k : Int) ≤ (g : Int)) = false := decide_eq_false (by omega)
  have d3 : decide (k ≤ g) = false := decide_eq_false (by omega)
  have m : Mod (· = sn) w (w.setCell ⟨sn, g, none⟩ (.bool true)) := Mod.setCell (Mod.refl (· = sn) w) (p := ⟨sn, g, none⟩) (.inl rfl) _
  have hO : Own (w.setCell ⟨sn, g, none⟩ (.bool true)) kb snb sn k (upd seen g true) :=
    ⟨m.rowIs h.ck (rows_ne h.ck h.row (by decide)), m.rowIs h.cs (rows_ne h.cs h.row (by decide)), (h.row.set g _).congr (fun i hi => by
      by_cases e : i = g
      · subst e; simp [upd_same]
      · simp [e, upd_ne])⟩
  go_enter Try.func40, Try.ntmps40
  go_wp2
  go_ret
  exact ⟨rfl, hO, m⟩

theorem info4 : (Try.prog.info? 4).map (fun i => (i.zero, i.size, i.bytes)) = some (some (.bool false), 1, 1) := by kernel_rfl

/-- Who stands somewhere is found. -/
theorem where_found (R : Nat → RM) (Q : List Int) (ps : Nat) (x : Int) (h : 0 < cnt R Q ps x) : (swhere R Q ps x).2 = true := by
  unfold swhere
  cases e : (List.range ps).find? (fun i => decide (x ∈ all2 (R i))) with
  | some i => rfl
  | none =>
    rw [List.find?_range_eq_none] at e
    have h0 : ∀ n, n ≤ ps → cntR R x n = 0 := by
      intro n hn
      induction n with
      | zero => rfl
      | succ n ih =>
        have := e n (by omega)
        simp only [cntR]
        rw [ih (by omega), List.count_eq_zero.2 (by simpa using this)]
    have h1 := h0 ps (Nat.le_refl _)
    unfold cnt at h
    rw [h1] at h
    have hm : x ∈ Q := by
      rw [← List.count_pos_iff]
      omega
    simp [hm]

end Go.Proofs.Ytgojfccaohngaaa
