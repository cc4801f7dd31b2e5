/-
  The ops of the waits, the program's and the reference's, told by one plain function each.
-/
import Derived.Test.YtjjbcfbljnekgaaRWait
import Derived.Test.YtjjbcfbljnekgaaDuo
namespace Go.Proofs.Ytjjbcfbljnekgaa
open Go.RowKit

/-- The first i from s on (of k places) at which g waits. -/
def wfirst (L : Nat → List Int) (g : Int) : Nat → Nat → Option Nat
  | 0, _ => none
  | k + 1, s => if g ∈ L s then some s else wfirst L g k (s + 1)
theorem wfirst_spec (L : Nat → List Int) (g : Int) (k s : Nat) : (wfirst L g k s = none ∧ ∀ j, s ≤ j → j < s + k → g ∉ L j) ∨ ∃ q, wfirst L g k s = some q ∧ s ≤ q ∧ q < s + k ∧ g ∈ L q ∧ ∀ j, s ≤ j → j < q → g ∉ L j := by
  induction k generalizing s with
  | zero => exact .inl ⟨rfl, fun j h1 h2 => by omega⟩
  | succ k ih =>
    by_cases h : g ∈ L s
    · exact .inr ⟨s, by rw [wfirst, if_pos h], by omega, by omega, h, fun j h1 h2 => by omega⟩
    · rcases ih (s + 1) with ⟨e, hn⟩ | ⟨q, e, h1, h2, h3, h4⟩
      · refine .inl ⟨by rw [wfirst, if_neg h]; exact e, fun j h1 h2 => ?_⟩
        by_cases e2 : j = s
        · rw [e2]; exact h
        · exact hn j (by omega) (by omega)
      · refine .inr ⟨q, by rw [wfirst, if_neg h]; exact e, by omega, by omega, h3, fun j h5 h6 => ?_⟩
        by_cases e2 : j = s
        · rw [e2]; exact h
        · exact h4 j (by omega) h6
/-- Wait. -/
def waitV (L : Nat → List Int) (k g : Int) : Int := if 0 ≤ k ∧ k < 32 then (if (wfirst L g 32 0).isSome then 5 else 0) else 2
def waitL (L : Nat → List Int) (k g : Int) : Nat → List Int := if 0 ≤ k ∧ k < 32 then (if (wfirst L g 32 0).isSome then L else upd L k.toNat (L k.toNat ++ [g])) else L
/-- Wake. -/
def wakeV (L : Nat → List Int) (k : Int) : Int × Bool := if 0 ≤ k ∧ k < 32 then (match L k.toNat with | [] => (0, false) | g :: _ => (g, true)) else (0, false)
def wakeL (L : Nat → List Int) (k : Int) : Nat → List Int := if 0 ≤ k ∧ k < 32 then (match L k.toNat with | [] => L | _ :: l => upd L k.toNat l) else L
/-- Del. -/
def delV (L : Nat → List Int) (g : Int) : Bool := (wfirst L g 32 0).isSome
def delL (L : Nat → List Int) (g : Int) : Nat → List Int := match wfirst L g 32 0 with | some q => upd L q ((L q).erase g) | none => L

def WtP (b : Nat) (L : Nat → List Int) (w : World) (S : Nat → Prop) : Prop := ∃ o, Waits w b o L ∧ S = WS b o
def RwP (r : Nat) (L : Nat → List Int) (w : World) (S : Nat → Prop) : Prop := ArrR 32 58 w S r L
theorem WtP.good (b : Nat) (L : Nat → List Int) : Good (WtP b L) :=
  ⟨fun w w' S T ⟨o, h, e⟩ mm hs => ⟨o, h.keep mm (fun k hk => hs k (by rw [e]; exact hk)), e⟩, fun w S ⟨o, h, e⟩ i hi => h.lt i (by rw [← e]; exact hi)⟩
theorem RwP.good (r : Nat) (L : Nat → List Int) : Good (RwP r L) := ⟨fun _ _ _ _ h mm hs => ArrR.keep h mm hs, fun _ _ h => ArrR.lt h⟩

section
variable {w w' : World} {S : Nat → Prop} {b r : Nat} {L : Nat → List Int}
theorem wt_same {o : Nat → Option Nat} {v : Value} {e : Ending} (h : Waits w b o L) (he : e = .returned v) (hw : w' = w) : Step w (WS b o) (WtP b L) v e w' := by
  subst hw
  exact ⟨he, _, ⟨o, h, rfl⟩, fun _ h => .inl h, Mod.refl _ _⟩
theorem wt_step {o : Nat → Option Nat} {k : Nat} {x : Option Nat} {L' : Nat → List Int} {v : Value} {e : Ending} (he : e = .returned v) (a1 : Waits w' b (setF o k x) L') (a2 : x = o k ∨ ∀ i, x = some i → w.heap.size ≤ i) (a3 : Mod (WS b o) w w') (hk : k < 32) : Step w (WS b o) (WtP b L') v e w' := by
  refine ⟨he, _, ⟨_, a1, rfl⟩, ?_, a3⟩
  rintro i (rfl | ⟨j, hj, hi⟩)
  · exact .inl (.inl rfl)
  · by_cases e : j = k
    · subst e
      rw [setF_same] at hi
      rcases a2 with h4 | h4
      · exact .inl (.inr ⟨j, hj, by rw [← h4]; exact hi⟩)
      · exact .inr (h4 i hi)
    · rw [setF_ne _ _ e] at hi
      exact .inl (.inr ⟨j, hj, hi⟩)
theorem wt_wait (h : WtP b L w S) (hl : WSmall L) (k g : Int) : Calls Try.prog 28 #[.pointer (some ⟨b, 0, none⟩), .int .i64 k, .int .i64 g] w (Step w S (WtP b (waitL L k g)) (.int .i64 (waitV L k g))) := by
  obtain ⟨o, h, rfl⟩ := h
  have hl9 : ∀ i, i < 32 → (L i).length ≤ 900000 := fun i hi => by have := hl i hi; omega
  by_cases hk : 0 ≤ k ∧ k < 32
  · obtain ⟨q, rfl⟩ : ∃ q : Nat, k = (q : Int) := ⟨k.toNat, by omega⟩
    rcases wfirst_spec L g 32 0 with ⟨e, hn⟩ | ⟨p, e, h1, h2, h3, h4⟩
    · rw [waitL, waitV, if_pos hk, if_pos hk, e]
      refine (wwait_put b o L q g w h (by omega) hl9 (fun i hi => hn i (by omega) (by omega))).mono ?_
      rintro e' w' ⟨he, x, a1, a2, a3⟩
      exact wt_step he a1 a2 a3 (by omega)
    · rw [waitL, waitV, if_pos hk, if_pos hk, e]
      exact (wwait_in b o L q g w h (by omega) hl9 ⟨p, by omega, h3⟩).mono fun _ _ ⟨he, hw⟩ => wt_same h he hw
  · rw [waitL, waitV, if_neg hk, if_neg hk]
    exact (wwait_no b k g w hk).mono fun _ _ ⟨he, hw⟩ => wt_same h he hw
theorem wt_wake (h : WtP b L w S) (hl : WSmall L) (k : Int) : Calls Try.prog 27 #[.pointer (some ⟨b, 0, none⟩), .int .i64 k] w (Step w S (WtP b (wakeL L k)) (.tuple #[.int .i64 (wakeV L k).1, .bool (wakeV L k).2])) := by
  obtain ⟨o, h, rfl⟩ := h
  by_cases hk : 0 ≤ k ∧ k < 32
  · obtain ⟨q, rfl⟩ : ∃ q : Nat, k = (q : Int) := ⟨k.toNat, by omega⟩
    have hlq := hl q (by omega)
    rw [wakeL, wakeV, if_pos hk, if_pos hk, Int.toNat_natCast]
    cases hL : L q with
    | nil => exact (wwake_none b o L q w h (by omega) hL).mono fun _ _ ⟨he, hw⟩ => wt_same h he hw
    | cons g l =>
      rw [hL, List.length_cons] at hlq
      refine (wwake_one b o L q g l w h (by omega) hL (by omega)).mono ?_
      rintro e' w' ⟨he, x, a1, a2, a3⟩
      exact wt_step he a1 (.inr a2) a3 (by omega)
  · rw [wakeL, wakeV, if_neg hk, if_neg hk]
    exact (wwake_no b k w hk).mono fun _ _ ⟨he, hw⟩ => wt_same h he hw
theorem wt_del (h : WtP b L w S) (hl : WSmall L) (g : Int) : Calls Try.prog 31 #[.pointer (some ⟨b, 0, none⟩), .int .i64 g] w (Step w S (WtP b (delL L g)) (.bool (delV L g))) := by
  obtain ⟨o, h, rfl⟩ := h
  rcases wfirst_spec L g 32 0 with ⟨e, hn⟩ | ⟨p, e, h1, h2, h3, h4⟩
  · rw [delL, delV, e]
    exact (wdel_no b o L g w h hl (fun i hi => hn i (by omega) (by omega))).mono fun _ _ ⟨he, hw⟩ => wt_same h he hw
  · rw [delL, delV, e]
    refine (wdel_yes b o L g p w h hl (by omega) h3 (fun j hj => h4 j (by omega) hj)).mono ?_
    rintro e' w' ⟨he, x, a1, a2, a3⟩
    exact wt_step he a1 (.inr a2) a3 (by omega)
theorem rw_wait (h : RwP r L w S) (hl : WSmall L) (k g : Int) : Calls Try.prog 32 #[.pointer (some ⟨r, 0, none⟩), .int .i64 k, .int .i64 g] w (Step w S (RwP r (waitL L k g)) (.int .i64 (waitV L k g))) := by
  by_cases hk : 0 ≤ k ∧ k < 32
  · obtain ⟨q, rfl⟩ : ∃ q : Nat, k = (q : Int) := ⟨k.toNat, by omega⟩
    rcases wfirst_spec L g 32 0 with ⟨e, hn⟩ | ⟨p, e, h1, h2, h3, h4⟩
    · rw [waitL, waitV, if_pos hk, if_pos hk, e]
      exact rwwait_put h q g (by omega) hl (fun i hi => hn i (by omega) (by omega))
    · rw [waitL, waitV, if_pos hk, if_pos hk, e]
      exact rwwait_in h q g (by omega) hl ⟨p, by omega, h3⟩
  · rw [waitL, waitV, if_neg hk, if_neg hk]
    exact rwwait_out h k g hk
theorem rw_wake (h : RwP r L w S) (hl : WSmall L) (k : Int) : Calls Try.prog 33 #[.pointer (some ⟨r, 0, none⟩), .int .i64 k] w (Step w S (RwP r (wakeL L k)) (.tuple #[.int .i64 (wakeV L k).1, .bool (wakeV L k).2])) := by
  by_cases hk : 0 ≤ k ∧ k < 32
  · obtain ⟨q, rfl⟩ : ∃ q : Nat, k = (q : Int) := ⟨k.toNat, by omega⟩
    have hlq := hl q (by omega)
    rw [wakeL, wakeV, if_pos hk, if_pos hk, Int.toNat_natCast]
    cases hL : L q with
    | nil => exact rwwake_none h q (by omega) hL
    | cons g l =>
      rw [hL, List.length_cons] at hlq
      exact rwwake_one h q g l (by omega) hL (by omega)
  · rw [wakeL, wakeV, if_neg hk, if_neg hk]
    exact rwwake_out h k hk
theorem rw_del (h : RwP r L w S) (hl : WSmall L) (g : Int) : Calls Try.prog 34 #[.pointer (some ⟨r, 0, none⟩), .int .i64 g] w (Step w S (RwP r (delL L g)) (.bool (delV L g))) := by
  rcases wfirst_spec L g 32 0 with ⟨e, hn⟩ | ⟨p, e, h1, h2, h3, h4⟩
  · rw [delL, delV, e]
    exact rwdel_no h g hl (fun i hi => hn i (by omega) (by omega))
  · rw [delL, delV, e]
    exact rwdel_yes h g p hl (by omega) h3 (fun j hj => h4 j (by omega) hj)
theorem waitL_len (L : Nat → List Int) (k g : Int) (i : Nat) : (waitL L k g i).length ≤ (L i).length + 1 := by
  unfold waitL
  split
  · split
    · omega
    · by_cases e : i = k.toNat
      · subst e; rw [upd_same]; simp
      · rw [upd_ne _ _ e]; omega
  · omega
theorem wakeL_len (L : Nat → List Int) (k : Int) (i : Nat) : (wakeL L k i).length ≤ (L i).length := by
  unfold wakeL
  split
  · cases hL : L k.toNat with
    | nil => exact Nat.le_refl _
    | cons g l =>
      show (upd L k.toNat l i).length ≤ _
      by_cases e : i = k.toNat
      · subst e; rw [upd_same, hL]; simp
      · rw [upd_ne _ _ e]; exact Nat.le_refl _
  · exact Nat.le_refl _
theorem delL_len (L : Nat → List Int) (g : Int) (i : Nat) : (delL L g i).length ≤ (L i).length := by
  unfold delL
  cases wfirst L g 32 0 with
  | some j =>
    show (upd L j ((L j).erase g) i).length ≤ _
    by_cases e : i = j
    · subst e; rw [upd_same]; exact (List.erase_sublist ..).length_le
    · rw [upd_ne _ _ e]; exact Nat.le_refl _
  | none => exact Nat.le_refl _
end

end Go.Proofs.Ytjjbcfbljnekgaa
