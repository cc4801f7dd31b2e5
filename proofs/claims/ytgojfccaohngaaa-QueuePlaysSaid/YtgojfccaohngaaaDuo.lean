/-
  The program's own structure and the reference's beside one another, and a variable of the law: each op of one leaves the other.
-/
import Derived.Test.YtgojfccaohngaaaBase
namespace Go.Proofs.Ytgojfccaohngaaa
open Go.RowKit

/-- Pr w S: in w the structure stands, all of it in blocks of S. -/
structure Good (Pr : World → (Nat → Prop) → Prop) : Prop where
  keep : ∀ (w w' : World) (S T : Nat → Prop), Pr w S → Mod T w w' → (∀ i, S i → ¬ T i) → Pr w' S
  lt : ∀ (w : World) (S : Nat → Prop), Pr w S → ∀ i, S i → i < w.heap.size

def Duo0 (W w : World) (Pr Rf : World → (Nat → Prop) → Prop) : Prop :=
  ∃ S T, Pr w S ∧ Rf w T ∧ (∀ i, S i → W.heap.size ≤ i ∧ ¬ T i) ∧ (∀ i, T i → W.heap.size ≤ i) ∧ Mod (fun _ => False) W w
def Duo (W w : World) (Pr Rf : World → (Nat → Prop) → Prop) (q : Nat) (t : TypeId) (m : Nat) (f : Nat → Value) : Prop :=
  ∃ S T, Pr w S ∧ Rf w T ∧ (∀ i, S i → W.heap.size ≤ i ∧ ¬ T i ∧ i ≠ q) ∧ (∀ i, T i → W.heap.size ≤ i ∧ i ≠ q) ∧ w.rowIs q t m f ∧ W.heap.size ≤ q ∧ Mod (fun _ => False) W w
def Step (w : World) (S : Nat → Prop) (Pr : World → (Nat → Prop) → Prop) (v : Value) (e : Ending) (w' : World) : Prop :=
  e = .returned v ∧ ∃ S', Pr w' S' ∧ (∀ i, S' i → S i ∨ w.heap.size ≤ i) ∧ Mod S w w'

section
variable {W w w' : World} {Pr Pr' Rf Rf' : World → (Nat → Prop) → Prop} {q : Nat} {t : TypeId} {m : Nat} {f : Nat → Value}
theorem Duo0.mod (h : Duo0 W w Pr Rf) : Mod (fun _ => False) W w := by obtain ⟨S, T, h1, h2, h3, h4, h5⟩ := h; exact h5
theorem Duo.mod (h : Duo W w Pr Rf q t m f) : Mod (fun _ => False) W w := by obtain ⟨S, T, h1, h2, h3, h4, h5, h6, h7⟩ := h; exact h7
theorem Duo0.keep0 (gP : Good Pr) (gR : Good Rf) (h : Duo0 W w Pr Rf) (mm : Mod (fun _ => False) w w') : Duo0 W w' Pr Rf := by
  obtain ⟨S, T, h1, h2, h3, h4, h5⟩ := h
  exact ⟨S, T, gP.keep _ _ _ _ h1 mm (fun _ _ h => h), gR.keep _ _ _ _ h2 mm (fun _ _ h => h), h3, h4, h5.trans mm⟩
theorem Duo.keep0 (gP : Good Pr) (gR : Good Rf) (h : Duo W w Pr Rf q t m f) (mm : Mod (fun _ => False) w w') : Duo W w' Pr Rf q t m f := by
  obtain ⟨S, T, h1, h2, h3, h4, h5, h6, h7⟩ := h
  exact ⟨S, T, gP.keep _ _ _ _ h1 mm (fun _ _ h => h), gR.keep _ _ _ _ h2 mm (fun _ _ h => h), h3, h4, mm.rowIs h5 (fun h => h), h6, h7.trans mm⟩
theorem Duo0.alloc (gP : Good Pr) (gR : Good Rf) (h : Duo0 W w Pr Rf) (cs : Array Value) (t : TypeId) (f : Nat → Value) (hcs : ∀ i, i < cs.size → cs[i]? = some (f i)) : Duo W (w.alloc (.cells cs t)) Pr Rf w.heap.size t cs.size f := by
  have ma : Mod (fun _ => False) w (w.alloc (.cells cs t)) := (Mod.refl _ w).alloc _
  obtain ⟨S, T, h1, h2, h3, h4, h5⟩ := h
  refine ⟨S, T, gP.keep _ _ _ _ h1 ma (fun _ _ h => h), gR.keep _ _ _ _ h2 ma (fun _ _ h => h), fun i hi => ⟨(h3 i hi).1, (h3 i hi).2, fun e => ?_⟩, fun i hi => ⟨h4 i hi, fun e => ?_⟩, World.rowIs_alloc w cs t f hcs, h5.size, h5.trans ma⟩
  · have := gP.lt _ _ h1 i hi; omega
  · have := gR.lt _ _ h2 i hi; omega
theorem Duo.drop (h : Duo W w Pr Rf q t m f) : Duo0 W w Pr Rf := by
  obtain ⟨S, T, h1, h2, h3, h4, h5, h6, h7⟩ := h
  exact ⟨S, T, h1, h2, fun i hi => ⟨(h3 i hi).1, (h3 i hi).2.1⟩, fun i hi => (h4 i hi).1, h7⟩
theorem Duo.row (h : Duo W w Pr Rf q t m f) : w.rowIs q t m f := by obtain ⟨S, T, h1, h2, h3, h4, h5, h6, h7⟩ := h; exact h5
theorem Duo.ref (h : Duo W w Pr Rf q t m f) : ∃ T, Rf w T := by obtain ⟨S, T, h1, h2, h3, h4, h5, h6, h7⟩ := h; exact ⟨T, h2⟩
theorem Duo.own (h : Duo W w Pr Rf q t m f) : ∃ S, Pr w S := by obtain ⟨S, T, h1, h2, h3, h4, h5, h6, h7⟩ := h; exact ⟨S, h1⟩
/-- An op of the program's structure. -/
theorem Duo.prog {P : Program} {N : Nat} {args : Array Value} {v : Value} (gR : Good Rf) (h : Duo W w Pr Rf q t m f) (hc : ∀ S, Pr w S → Calls P N args w (Step w S Pr' v)) :
    Calls P N args w (fun e w' => e = .returned v ∧ Duo W w' Pr' Rf q t m f) := by
  obtain ⟨S, T, h1, h2, h3, h4, h5, h6, h7⟩ := h
  refine (hc S h1).mono ?_
  rintro e w' ⟨he, S', a1, a2, a3⟩
  refine ⟨he, S', T, a1, gR.keep _ _ _ _ h2 a3 (fun i hi hs => (h3 i hs).2.1 hi), fun i hi => ?_, h4, a3.rowIs h5 (fun hs => (h3 q hs).2.2 rfl), h6, h7.new a3 (fun i hi => (h3 i hi).1)⟩
  rcases a2 i hi with h8 | h8
  · exact h3 i h8
  · refine ⟨Nat.le_trans h7.size h8, fun ht => ?_, fun e => ?_⟩
    · have := gR.lt _ _ h2 i ht; omega
    · have := h5.lt; omega
/-- An op of the reference's structure. -/
theorem Duo.refer {P : Program} {N : Nat} {args : Array Value} {v : Value} (gP : Good Pr) (h : Duo W w Pr Rf q t m f) (hc : ∀ T, Rf w T → Calls P N args w (Step w T Rf' v)) :
    Calls P N args w (fun e w' => e = .returned v ∧ Duo W w' Pr Rf' q t m f) := by
  obtain ⟨S, T, h1, h2, h3, h4, h5, h6, h7⟩ := h
  refine (hc T h2).mono ?_
  rintro e w' ⟨he, T', a1, a2, a3⟩
  refine ⟨he, S, T', gP.keep _ _ _ _ h1 a3 (fun i hi hs => (h3 i hi).2.1 hs), a1, fun i hi => ⟨(h3 i hi).1, fun ht => ?_, (h3 i hi).2.2⟩, fun i hi => ?_, a3.rowIs h5 (fun hs => (h4 q hs).2 rfl), h6, h7.new a3 (fun i hi => (h4 i hi).1)⟩
  · rcases a2 i ht with h8 | h8
    · exact (h3 i hi).2.1 h8
    · have := gP.lt _ _ h1 i hi; omega
  · rcases a2 i hi with h8 | h8
    · exact h4 i h8
    · refine ⟨Nat.le_trans h7.size h8, fun e => ?_⟩
      have := h5.lt; omega
theorem Duo.same {P : Program} {N : Nat} {args : Array Value} {v : Value} (gP : Good Pr) (gR : Good Rf) (h : Duo W w Pr Rf q t m f) (hc : Calls P N args w (fun e w' => e = .returned v ∧ Mod (fun _ => False) w w')) :
    Calls P N args w (fun e w' => e = .returned v ∧ Duo W w' Pr Rf q t m f) := hc.mono fun _ _ ⟨he, mm⟩ => ⟨he, h.keep0 gP gR mm⟩
end

end Go.Proofs.Ytgojfccaohngaaa
