/-
  The contracts of package wait as the laws use them: the waits are the call's own, all older memory stays.
-/
import Derived.Test.YtjjbcfbljnekgaaWait3
namespace Go.Proofs.Ytjjbcfbljnekgaa
open Go.RowKit

def WF (W w : World) (b : Nat) (L : Nat → List Int) : Prop := ∃ o, Waits w b o L ∧ (∀ i, WS b o i → W.heap.size ≤ i) ∧ Mod (fun _ => False) W w
def WSmall (L : Nat → List Int) : Prop := ∀ i, i < 32 → (L i).length ≤ 400000
section
variable {W w w' : World} {b : Nat} {L L' : Nat → List Int}
theorem WF.mod (h : WF W w b L) : Mod (fun _ => False) W w := by obtain ⟨o, h1, h2, h3⟩ := h; exact h3
theorem WF.keep0 (h : WF W w b L) (m : Mod (fun _ => False) w w') : WF W w' b L := by
  obtain ⟨o, h1, h2, h3⟩ := h
  exact ⟨o, h1.keep0 m, h2, h3.trans m⟩
theorem WF.of {o : Nat → Option Nat} {k : Nat} {x : Option Nat} (h2 : ∀ i, WS b o i → W.heap.size ≤ i) (h3 : Mod (fun _ => False) W w) (a1 : Waits w' b (setF o k x) L') (a2 : x = o k ∨ ∀ i, x = some i → w.heap.size ≤ i) (a3 : Mod (WS b o) w w') (hk : k < 32) : WF W w' b L' := by
  refine ⟨_, a1, ?_, h3.new a3 h2⟩
  rintro i (rfl | ⟨j, hj, hi⟩)
  · exact h2 i (.inl rfl)
  · by_cases e : j = k
    · subst e
      rw [setF_same] at hi
      have := h3.size
      rcases a2 with h4 | h4
      · exact h2 i (.inr ⟨j, hj, by rw [← h4]; exact hi⟩)
      · have := h4 i hi
        omega
    · rw [setF_ne _ _ e] at hi
      exact h2 i (.inr ⟨j, hj, hi⟩)
theorem wf_new (W : World) : Calls Try.prog 26 #[] W fun e w' => ∃ b, e = .returned (.pointer (some ⟨b, 0, none⟩)) ∧ WF W w' b (fun _ => []) := by
  refine (wnew W).mono ?_
  rintro e w' ⟨b, he, hb, h1, h2⟩
  refine ⟨b, he, _, h1, ?_, h2⟩
  rintro i (rfl | ⟨j, _, hi⟩)
  · exact hb
  · cases hi
theorem wf_put (h : WF W w b L) (k : Nat) (g : Int) (hk : k < 32) (hl : WSmall L) (hno : ∀ i, i < 32 → ¬ g ∈ L i) :
    Calls Try.prog 28 #[.pointer (some ⟨b, 0, none⟩), .int .i64 (k : Int), .int .i64 g] w fun e w' => e = .returned (.int .i64 0) ∧ WF W w' b (setF L k (L k ++ [g])) := by
  obtain ⟨o, h1, h2, h3⟩ := h
  refine (wwait_put b o L k g w h1 hk (fun i hi => by have := hl i hi; omega) hno).mono ?_
  rintro e w' ⟨he, x, a1, a2, a3⟩
  exact ⟨he, WF.of h2 h3 a1 a2 a3 hk⟩
theorem wf_in (h : WF W w b L) (k : Nat) (g : Int) (hk : k < 32) (hl : WSmall L) (hin : ∃ i, i < 32 ∧ g ∈ L i) :
    Calls Try.prog 28 #[.pointer (some ⟨b, 0, none⟩), .int .i64 (k : Int), .int .i64 g] w fun e w' => e = .returned (.int .i64 5) ∧ WF W w' b L := by
  have h0 := h
  obtain ⟨o, h1, h2, h3⟩ := h
  exact (wwait_in b o L k g w h1 hk (fun i hi => by have := hl i hi; omega) hin).mono fun _ _ ⟨he, e⟩ => ⟨he, e ▸ h0⟩
theorem wf_no (h : WF W w b L) (k g : Int) (hk : ¬ (0 ≤ k ∧ k < 32)) :
    Calls Try.prog 28 #[.pointer (some ⟨b, 0, none⟩), .int .i64 k, .int .i64 g] w fun e w' => e = .returned (.int .i64 2) ∧ WF W w' b L :=
  (wwait_no b k g w hk).mono fun _ _ ⟨he, e⟩ => ⟨he, e ▸ h⟩
theorem wf_wake (h : WF W w b L) (k : Nat) (g : Int) (l : List Int) (hk : k < 32) (hL : L k = g :: l) (hl : l.length ≤ 800000) :
    Calls Try.prog 27 #[.pointer (some ⟨b, 0, none⟩), .int .i64 (k : Int)] w fun e w' => e = .returned (.tuple #[.int .i64 g, .bool true]) ∧ WF W w' b (setF L k l) := by
  obtain ⟨o, h1, h2, h3⟩ := h
  refine (wwake_one b o L k g l w h1 hk hL hl).mono ?_
  rintro e w' ⟨he, x, a1, a2, a3⟩
  exact ⟨he, WF.of h2 h3 a1 (.inr a2) a3 hk⟩
theorem wf_wakeno (h : WF W w b L) (k : Nat) (hk : k < 32) (hL : L k = []) :
    Calls Try.prog 27 #[.pointer (some ⟨b, 0, none⟩), .int .i64 (k : Int)] w fun e w' => e = .returned (.tuple #[.int .i64 0, .bool false]) ∧ WF W w' b L := by
  have h0 := h
  obtain ⟨o, h1, h2, h3⟩ := h
  exact (wwake_none b o L k w h1 hk hL).mono fun _ _ ⟨he, e⟩ => ⟨he, e ▸ h0⟩
theorem wf_wakeout (h : WF W w b L) (k : Int) (hk : ¬ (0 ≤ k ∧ k < 32)) :
    Calls Try.prog 27 #[.pointer (some ⟨b, 0, none⟩), .int .i64 k] w fun e w' => e = .returned (.tuple #[.int .i64 0, .bool false]) ∧ WF W w' b L :=
  (wwake_no b k w hk).mono fun _ _ ⟨he, e⟩ => ⟨he, e ▸ h⟩
theorem wf_delyes (h : WF W w b L) (g : Int) (k : Nat) (hl : WSmall L) (hk : k < 32) (hm : g ∈ L k) (hno : ∀ j, j < k → ¬ g ∈ L j) :
    Calls Try.prog 31 #[.pointer (some ⟨b, 0, none⟩), .int .i64 g] w fun e w' => e = .returned (.bool true) ∧ WF W w' b (setF L k ((L k).erase g)) := by
  obtain ⟨o, h1, h2, h3⟩ := h
  refine (wdel_yes b o L g k w h1 hl hk hm hno).mono ?_
  rintro e w' ⟨he, x, a1, a2, a3⟩
  exact ⟨he, WF.of h2 h3 a1 (.inr a2) a3 hk⟩
theorem wf_delno (h : WF W w b L) (g : Int) (hl : WSmall L) (hno : ∀ i, i < 32 → ¬ g ∈ L i) : Calls Try.prog 31 #[.pointer (some ⟨b, 0, none⟩), .int .i64 g] w fun e w' => e = .returned (.bool false) ∧ WF W w' b L := by
  have h0 := h
  obtain ⟨o, h1, h2, h3⟩ := h
  exact (wdel_no b o L g w h1 hl hno).mono fun _ _ ⟨he, e⟩ => ⟨he, e ▸ h0⟩
theorem wf_len (h : WF W w b L) (hl : WSmall L) (n : Nat) (hn : wsum L 32 = n) : Calls Try.prog 30 #[.pointer (some ⟨b, 0, none⟩)] w fun e w' => e = .returned (.int .i64 (n : Int)) ∧ WF W w' b L := by
  have h0 := h
  obtain ⟨o, h1, h2, h3⟩ := h
  subst hn
  exact (wlen_any b o L w h1 (fun i hi => by have := hl i hi; omega)).mono fun _ _ ⟨he, e⟩ => ⟨he, e ▸ h0⟩
theorem wf_told (h : WF W w b L) : Calls Try.prog 25 #[] w fun e w' => e = .returned (.bool true) ∧ WF W w' b L :=
  (told14 w).mono fun _ _ ⟨he, m⟩ => ⟨he, h.keep0 m⟩
theorem wsum_zero (h : ∀ i, i < 32 → L i = []) : wsum L 32 = 0 := by
  have key : ∀ k, k ≤ 32 → wsum L k = 0 := by
    intro k
    induction k with
    | zero => intro _; rfl
    | succ k ih => intro hk; rw [wsum, ih (by omega), h k (by omega)]; rfl
  exact key 32 (by omega)
end

end Go.Proofs.Ytjjbcfbljnekgaa
