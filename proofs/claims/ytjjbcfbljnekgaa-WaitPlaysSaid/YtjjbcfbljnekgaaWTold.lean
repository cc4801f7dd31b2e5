/-
  treadmilllaw14.told is true.
-/
import Derived.Test.YtjjbcfbljnekgaaWait2
namespace Go.Proofs.Ytjjbcfbljnekgaa
open Go.RowKit

set_option maxHeartbeats 1000000 in
set_option maxRecDepth 100000 in
theorem told14 (w : World) : Calls Try.prog 25 #[] w fun e w' => e = .returned (.bool true) ∧ Mod (fun _ => False) w w' := by
  go_enter Try.func25, Try.ntmps25
  go_wp2_with fail
  refine (wnew _).mono ?_
  rintro e w1 ⟨b, rfl, hb, hq1, m1⟩
  have hWS : ∀ (o : Nat → Option Nat), (∀ i, i < 32 → ∀ k, o i = some k → w.heap.size ≤ k) → ∀ i, WS b o i → w.heap.size ≤ i := by
    rintro o ho i (rfl | ⟨j, hj, hk⟩)
    · exact hb
    · exact ho j hj i hk
  go_wp2_with fail
  refine (wwait_put b _ _ 0 5 _ hq1 (by omega) (fun i _ => by simp) (fun i _ => by simp)).mono ?_
  rintro e w2 ⟨rfl, x, hq2, hx, m2⟩
  have hx2 : ∀ i, x = some i → w.heap.size ≤ i := by
    intro i hi
    rcases hx with h | h
    · rw [h] at hi; cases hi
    · have h1 := h i hi
      have h2 := m1.size
      omega
  have ho2 : ∀ i, i < 32 → ∀ k, setF (fun _ => (none : Option Nat)) 0 x i = some k → w.heap.size ≤ k := by
    intro i _ k hk
    by_cases e : i = 0
    · subst e; rw [setF_same] at hk; exact hx2 k hk
    · rw [setF_ne _ _ e] at hk; cases hk
  have mm2 := m1.new m2 (hWS _ (fun i _ k hk => by cases hk))
  have hL2 : ∀ i, i < 32 → (setF (fun _ => ([] : List Int)) 0 ([] ++ [5]) i).length ≤ 900000 := by
    intro i _
    by_cases e : i = 0
    · subst e; rw [setF_same]; simp
    · rw [setF_ne _ _ e]; simp
  clear m1 m2 hq1
  go_wp2_with fail
  refine (wwait_in b _ _ 1 5 _ hq2 (by omega) hL2 ⟨0, by omega, by rw [setF_same]; simp⟩).mono ?_
  rintro e w3 ⟨rfl, rfl⟩
  go_wp2_with fail
  refine (wwait_no b 32 6 _ (by omega)).mono ?_
  rintro e w3 ⟨rfl, rfl⟩
  go_wp2_with fail
  refine (wwake_one b _ _ 0 5 [] _ hq2 (by omega) (by rw [setF_same]; rfl) (by simp)).mono ?_
  rintro e w4 ⟨rfl, y, hq4, hy, m4⟩
  have mm4 := mm2.new m4 (hWS _ ho2)
  clear m4 mm2 hq2
  go_wp2_with fail
  refine (wlen_any b _ _ _ hq4 (fun i _ => by by_cases e : i = 0; (subst e; rw [setF_same]; simp); (rw [setF_ne _ _ e, setF_ne _ _ e]; simp))).mono ?_
  rintro e w5 ⟨rfl, rfl⟩
  have hz : wsum (setF (setF (fun _ => ([] : List Int)) 0 ([] ++ [5])) 0 []) 32 = 0 := by rfl
  rw [hz]
  clear hz
  go_wp2
  go_ret
  exact ⟨rfl, mm4⟩

end Go.Proofs.Ytjjbcfbljnekgaa
