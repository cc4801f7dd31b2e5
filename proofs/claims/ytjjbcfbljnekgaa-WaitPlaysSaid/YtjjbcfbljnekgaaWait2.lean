/-
  The contracts of package wait, second part: Wait, Wake.
-/
import Derived.Test.YtjjbcfbljnekgaaWait
import Derived.Deep.RegionLaw
import Derived.Deep.RegionWith
namespace Go.Proofs.Ytjjbcfbljnekgaa
open Go.RowKit

theorem Waits.put {w w2 : World} {b k : Nat} {o : Nat → Option Nat} {L : Nat → List Int} {A2 : Option Addr} {n2 c2 : Nat} {l2 : List Int} (h : Waits w b o L) (hk : k < 32) (m : Mod (fun i => o k = some i) w w2) (hown2 : OwnL w2 A2 n2 c2 l2)
    (hat : blk A2 = o k ∨ ∀ i, blk A2 = some i → w.heap.size ≤ i) :
    Waits (w2.setCell ⟨b, k, none⟩ (.slice A2 n2 c2)) b (setF o k (blk A2)) (setF L k l2) ∧ Mod (WS b o) w (w2.setCell ⟨b, k, none⟩ (.slice A2 n2 c2)) := by
  have hlt := h.lt
  obtain ⟨A, n, c, hr, hown, hd⟩ := h
  have hne : ∀ i, i < 32 → o i ≠ some b := fun i hi e => (hown i hi).1.ne_row hr (by decide) (by rw [(hown i hi).2]; exact e)
  have hr2 := m.rowIs hr (hne k hk)
  have ms : Mod (fun i => i = b) w2 (w2.setCell ⟨b, k, none⟩ (.slice A2 n2 c2)) := Mod.setCell (Mod.refl (fun i => i = b) w2) (p := ⟨b, k, none⟩) (.inl rfl) _
  have hne2 : blk A2 ≠ some b := hown2.ne_row hr2 (by decide)
  have hdis : ∀ j, j < 32 → j ≠ k → ∀ g, blk A2 = some g → o j ≠ some g := by
    intro j hj hjk g hg e
    rcases hat with h1 | h1
    · exact hd k j hk hj (fun e => hjk e.symm) g (by rw [← h1]; exact hg) e
    · have h2 := h1 g hg
      have h3 := hlt g (.inr ⟨j, hj, e⟩)
      omega
  refine ⟨⟨setF A k A2, setF n k n2, setF c k c2, (hr2.set k _).congr (fun i hi => ?_), fun i hi => ?_, fun i j hi hj hij g hg => ?_⟩, (m.mono (fun i _ e => .inr ⟨k, hk, e⟩)).trans' ms (fun i _ e => .inl e)⟩
  · by_cases e : i = k
    · subst e; simp [setF]
    · simp [setF, e]
  · by_cases e : i = k
    · subst e
      rw [setF_same, setF_same, setF_same, setF_same, setF_same]
      exact ⟨hown2.keep ms (fun g hg e => hne2 (by rw [← e]; exact hg)), rfl⟩
    · rw [setF_ne _ _ e, setF_ne _ _ e, setF_ne _ _ e, setF_ne _ _ e, setF_ne _ _ e]
      refine ⟨((hown i hi).1.keep m (fun g hg e2 => ?_)).keep ms (fun g hg e2 => ?_), (hown i hi).2⟩
      · exact hd i k hi hk e g (by rw [← (hown i hi).2]; exact hg) e2
      · exact hne i hi (by rw [← e2, ← (hown i hi).2]; exact hg)
  · by_cases e : i = k
    · subst e
      rw [setF_same] at hg
      rw [setF_ne _ _ (fun e => hij e.symm)]
      exact hdis j hj (fun e => hij e.symm) g hg
    · rw [setF_ne _ _ e] at hg
      by_cases e2 : j = k
      · subst e2
        rw [setF_same]
        intro h2
        exact hdis i hi e g h2 hg
      · rw [setF_ne _ _ e2]
        exact hd i j hi hj hij g hg

theorem wwait_nil (at' g : Int) (w : World) : Calls Try.prog 28 #[.pointer none, .int .i64 at', .int .i64 g] w fun e w' => e = .returned (.int .i64 1) ∧ w' = w := by
  go_enter Try.func28, Try.ntmps28
  go_wp2
  go_ret
  exact ⟨rfl, rfl⟩
theorem wwait_no (b : Nat) (at' g : Int) (w : World) (h : ¬ (0 ≤ at' ∧ at' < 32)) : Calls Try.prog 28 #[.pointer (some ⟨b, 0, none⟩), .int .i64 at', .int .i64 g] w fun e w' => e = .returned (.int .i64 2) ∧ w' = w := by
  have hd : decide (0 ≤ at' ∧ at' < 32) = false := decide_eq_false h
  go_enter Try.func28, Try.ntmps28
  go_wp2_with fail
  refine (place_any at' _).mono ?_
  rintro e w2 ⟨rfl, rfl⟩
  rw [hd]
  clear hd
  go_wp2
  go_ret
  exact ⟨rfl, rfl⟩
theorem wwait_in (b : Nat) (o : Nat → Option Nat) (L : Nat → List Int) (k : Nat) (g : Int) (w : World) (h : Waits w b o L) (hk : k < 32) (hl : ∀ i, i < 32 → (L i).length ≤ 900000) (hin : ∃ i, i < 32 ∧ g ∈ L i) :
    Calls Try.prog 28 #[.pointer (some ⟨b, 0, none⟩), .int .i64 (k : Int), .int .i64 g] w fun e w' => e = .returned (.int .i64 5) ∧ w' = w := by
  have hd : decide (0 ≤ (k : Int) ∧ (k : Int) < 32) = true := decide_eq_true (by omega)
  go_enter Try.func28, Try.ntmps28
  go_wp2_with fail
  refine (place_any k _).mono ?_
  rintro e w2 ⟨rfl, rfl⟩
  rw [hd]
  clear hd
  go_wp2_with fail
  refine (wfind_any b o L g _ h hl).mono ?_
  rintro e w3 ⟨r, rfl, hr, rfl⟩
  rcases hr with ⟨_, hno⟩ | ⟨j, hj, rfl, hm⟩
  · obtain ⟨i, hi, hm⟩ := hin
    exact absurd hm (hno i hi)
  · go_wp2
    go_ret
    exact ⟨rfl, rfl⟩

set_option maxHeartbeats 1000000 in
set_option maxRecDepth 100000 in
theorem wwait_put (b : Nat) (o : Nat → Option Nat) (L : Nat → List Int) (k : Nat) (g : Int) (w : World) (h : Waits w b o L) (hk : k < 32) (hl : ∀ i, i < 32 → (L i).length ≤ 900000) (hno : ∀ i, i < 32 → ¬ g ∈ L i) :
    Calls Try.prog 28 #[.pointer (some ⟨b, 0, none⟩), .int .i64 (k : Int), .int .i64 g] w fun e w' => e = .returned (.int .i64 0) ∧ ∃ x, Waits w' b (setF o k x) (setF L k (L k ++ [g])) ∧ (x = o k ∨ ∀ i, x = some i → w.heap.size ≤ i) ∧ Mod (WS b o) w w' := by
  have hd : decide (0 ≤ (k : Int) ∧ (k : Int) < 32) = true := decide_eq_true (by omega)
  obtain ⟨A, n, c, hc, hown, hbl, hf⟩ := h.cell hk
  have hblt := h.lt b (.inl rfl)
  have hneb : blk A ≠ some b := by
    obtain ⟨A', n', c', hr, hown', _⟩ := h
    exact hown.ne_row hr (by decide)
  have hnl : n ≤ 900000 := by rw [← hown.len]; exact hl k hk
  go_enter Try.func28, Try.ntmps28
  go_wp2_with fail
  refine (place_any k _).mono ?_
  rintro e w2 ⟨rfl, rfl⟩
  rw [hd]
  clear hd
  go_wp2_with fail
  refine (wfind_any b o L g _ h hl).mono ?_
  rintro e w3 ⟨r, rfl, hr, rfl⟩
  rcases hr with ⟨rfl, _⟩ | ⟨j, hj, rfl, hm⟩
  case inr => exact absurd hm (hno j hj)
  have hi0 : (0 : Int) ≤ (k : Int) := by omega
  have hi1 : (k : Int) < 32 := by omega
  go_wp2
  have o1 : OwnL (w3.alloc (.cells #[.int .i64 g] 3)).drew A n c (L k) := hown.alloc _
  have r1 : IsL (w3.alloc (.cells #[.int .i64 g] 3)).drew (some ⟨w3.heap.size, 0, none⟩) 1 1 [g] := IsL.one w3 g
  go_region_law (first
    | ((with_reducible refine step_app _ (by with_unfolding_all rfl) (.tmp 26) (.tmp 28) _ (by with_unfolding_all rfl) Try.underlying35 int_info _ _ _ _ (by with_unfolding_all rfl) o1 _ _ _ _ (by with_unfolding_all rfl) r1 (by omega) ?_)
       intro C2 p2 q2 w2 hp1 hp2 hown2 hg2 hat2
       have m2 : Mod (fun i => blk A = some i) w3 w2 := (((Mod.refl _ w3).alloc _).drew).grown hg2 (fun _ hk => .inl hk)
       have hc2 : w2.cell? ⟨b, k, none⟩ = some (.slice A n c) := (m2.cell (p := ⟨b, k, none⟩) hblt hneb).trans hc
       have hf2 : w2.frozen? ⟨b, k, none⟩ = false := (m2.frozen (p := ⟨b, k, none⟩) hblt hneb).trans hf
       have hb2 : b < w2.heap.size := Nat.lt_of_lt_of_le hblt m2.size))
  all_goals (
    go_wp2
    go_ret
    have m2' : Mod (fun i => o k = some i) w3 w2 := by rw [← hbl]; exact m2
    have hat' : blk C2 = o k ∨ ∀ i, blk C2 = some i → w3.heap.size ≤ i := by
      rcases hat2 with e | e
      · exact .inl (by rw [e, hbl])
      · refine .inr (fun i hi => ?_)
        have e2 : (w3.alloc (.cells #[.int .i64 g] 3)).drew.heap.size = w3.heap.size + 1 := by simp [World.drew]
        rw [e, e2] at hi
        cases hi
        omega
    obtain ⟨hw, hm⟩ := h.put hk m2' hown2 hat'
    exact ⟨rfl, _, hw, hat', hm⟩)

/-- Wake where there is nobody. -/
theorem wwake_nil (at' : Int) (w : World) : Calls Try.prog 27 #[.pointer none, .int .i64 at'] w fun e w' => e = .returned (.tuple #[.int .i64 0, .bool false]) ∧ w' = w := by
  go_enter Try.func27, Try.ntmps27
  go_wp2
  go_ret2
  exact ⟨rfl, rfl⟩
theorem wwake_no (b : Nat) (at' : Int) (w : World) (h : ¬ (0 ≤ at' ∧ at' < 32)) : Calls Try.prog 27 #[.pointer (some ⟨b, 0, none⟩), .int .i64 at'] w fun e w' => e = .returned (.tuple #[.int .i64 0, .bool false]) ∧ w' = w := by
  have hd : decide (0 ≤ at' ∧ at' < 32) = false := decide_eq_false h
  go_enter Try.func27, Try.ntmps27
  go_wp2_with fail
  refine (place_any at' _).mono ?_
  rintro e w2 ⟨rfl, rfl⟩
  rw [hd]
  clear hd
  go_wp2
  go_ret2
  exact ⟨rfl, rfl⟩
theorem wwake_none (b : Nat) (o : Nat → Option Nat) (L : Nat → List Int) (k : Nat) (w : World) (h : Waits w b o L) (hk : k < 32) (hL : L k = []) :
    Calls Try.prog 27 #[.pointer (some ⟨b, 0, none⟩), .int .i64 (k : Int)] w fun e w' => e = .returned (.tuple #[.int .i64 0, .bool false]) ∧ w' = w := by
  have hd : decide (0 ≤ (k : Int) ∧ (k : Int) < 32) = true := decide_eq_true (by omega)
  obtain ⟨A, n, c, hc, hown, hbl, hf⟩ := h.cell hk
  have hn : n = 0 := by rw [← hown.len, hL]; rfl
  subst hn
  have hi0 : (0 : Int) ≤ (k : Int) := by omega
  have hi1 : (k : Int) < 32 := by omega
  go_enter Try.func27, Try.ntmps27
  go_wp2_with fail
  refine (place_any k _).mono ?_
  rintro e w2 ⟨rfl, rfl⟩
  rw [hd]
  clear hd
  go_wp2
  go_ret2
  exact ⟨rfl, rfl⟩

set_option maxHeartbeats 1000000 in
set_option maxRecDepth 100000 in
theorem wwake_one (b : Nat) (o : Nat → Option Nat) (L : Nat → List Int) (k : Nat) (g : Int) (l : List Int) (w : World) (h : Waits w b o L) (hk : k < 32) (hL : L k = g :: l) (hl : l.length ≤ 800000) :
    Calls Try.prog 27 #[.pointer (some ⟨b, 0, none⟩), .int .i64 (k : Int)] w fun e w' => e = .returned (.tuple #[.int .i64 g, .bool true]) ∧ ∃ x, Waits w' b (setF o k x) (setF L k l) ∧ (∀ i, x = some i → w.heap.size ≤ i) ∧ Mod (WS b o) w w' := by
  have hd : decide (0 ≤ (k : Int) ∧ (k : Int) < 32) = true := decide_eq_true (by omega)
  obtain ⟨A, n, c, hc, hown, hbl, hf⟩ := h.cell hk
  have hblt := h.lt b (.inl rfl)
  have hn : n = l.length + 1 := by rw [← hown.len, hL]; rfl
  obtain ⟨gg, oo, rfl, hcg⟩ := hown.isL.at_ (k := 0) (by omega)
  rw [hL] at hcg
  have hcg' : w.cell? ⟨gg, oo, none⟩ = some (.int .i64 g) := hcg
  have hi0 : (0 : Int) ≤ (k : Int) := by omega
  have hi1 : (k : Int) < 32 := by omega
  obtain ⟨A4, n4, c4, hcut, hL4, hblk4⟩ := cut_low (P := Try.prog) 35 Try.underlying35 int_info (some ⟨gg, oo, none⟩) n c 1 (by omega)
  have hcut' : ∀ (W : World), (Instr.sliceAt 35 (.slice (some ⟨gg, oo, none⟩) n c) (some (.int .i64 1)) none none).run Try.prog W = .ok (.slice A4 n4 c4) W := hcut
  have hr4 : IsL w A4 n4 c4 l := by have := hL4 w _ hown.isL; rw [hL] at this; exact this
  have hn1 : decide ((n : Int) = 0) = false := by simp; omega
  have hn2 : ((n : Int) == 0) = false := by rw [beq_eq_false_iff_ne]; omega
  have hn3 : (0 : Int) < (n : Int) := by omega
  have hn4 : n4 ≤ 800000 := by rw [← hr4.len]; exact hl
  have HN := Lib.hid hn
  clear hn hcut hcg
  go_enter Try.func27, Try.ntmps27
  go_wp2_with fail
  refine (place_any k _).mono ?_
  rintro e w2 ⟨rfl, rfl⟩
  rw [hd]
  clear hd
  go_wp2
  go_region_with (go_at_call 55; refine (clone_any A4 n4 c4 l _ (by first | (with_reducible exact hr4) | exact hr4.keep0 ((Mod.refl _ w2).drew)) (by omega)).mono ?_; rintro e w3 ⟨A3, c3, rfl, hown3, hf3, m3⟩; have m3' : Mod (fun _ => False) w2 w3 := (by first | (with_reducible exact m3) | exact (((Mod.refl _ w2).drew).trans m3)); have hc3 : w3.cell? ⟨b, k, none⟩ = some (.slice (some ⟨gg, oo, none⟩) n c) := (m3'.cell (p := ⟨b, k, none⟩) hblt (fun h => h)).trans hc; have hz3 : w3.frozen? ⟨b, k, none⟩ = false := (m3'.frozen (p := ⟨b, k, none⟩) hblt (fun h => h)).trans hf; have hb3 : b < w3.heap.size := Nat.lt_of_lt_of_le hblt m3'.size)
  all_goals (
    go_wp2
    go_ret2
    have hat' : ∀ i, blk A3 = some i → w2.heap.size ≤ i := hf3
    obtain ⟨hw, hm⟩ := h.put hk (m3'.mono (fun _ _ h => h.elim)) hown3 (.inr hat')
    exact ⟨rfl, _, hw, hat', hm⟩)

end Go.Proofs.Ytjjbcfbljnekgaa
