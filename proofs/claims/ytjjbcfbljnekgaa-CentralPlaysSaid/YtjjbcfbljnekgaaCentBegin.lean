/-
  The contract of (*central.Central).Begin.
-/
import Derived.Test.YtjjbcfbljnekgaaCentPut
import Derived.Deep.RegionLaw
import Derived.Deep.RegionWith
import Derived.BigRegion
import Derived.Outline
namespace Go.Proofs.Ytjjbcfbljnekgaa
open Go.RowKit

/-- Begin, behind the first m pairs of rows. -/
def cbegN (L : Nat → List Int) (m : Nat) : Nat → List Int := fun i => if i / 4 * 2 + i % 2 < m then (if i % 4 < 2 then [] else L i ++ L (i - 2)) else L i
theorem cbegN_zero (L : Nat → List Int) : cbegN L 0 = L := by funext i; simp [cbegN]
theorem cbegN_at (L : Nat → List Int) {k f : Nat} (hf : f < 2) : cbegN L (2 * k + f) (k * 4 + 2 + f) = L (k * 4 + 2 + f) ∧ cbegN L (2 * k + f) (k * 4 + f) = L (k * 4 + f) := by
  constructor
  · rw [cbegN, if_neg (by omega)]
  · rw [cbegN, if_neg (by omega)]
theorem cbegN_succ (L : Nat → List Int) {k f : Nat} (hf : f < 2) : upd (upd (cbegN L (2 * k + f)) (k * 4 + 2 + f) (L (k * 4 + 2 + f) ++ L (k * 4 + f))) (k * 4 + f) [] = cbegN L (2 * k + f + 1) := by
  funext i
  by_cases h1 : i = k * 4 + f
  · subst h1
    rw [upd_same, cbegN, if_pos (by omega), if_pos (by omega)]
  · rw [upd_ne _ _ h1]
    by_cases h2 : i = k * 4 + 2 + f
    · subst h2
      rw [upd_same, cbegN, if_pos (by omega), if_neg (by omega)]
      congr 2
      omega
    · rw [upd_ne _ _ h2, cbegN, cbegN]
      have : (i / 4 * 2 + i % 2 < 2 * k + f) ↔ (i / 4 * 2 + i % 2 < 2 * k + f + 1) := by omega
      simp only [this]
def cbegL (L : Nat → List Int) : Nat → List Int := cbegN L 32
theorem cbegN_len (L : Nat → List Int) (m : Nat) (i : Nat) : (cbegN L m i).length ≤ (L i).length + (L (i - 2)).length := by
  unfold cbegN
  split
  · split
    · simp
    · simp
  · omega

theorem cell_far {w : World} {b i j : Nat} {v u : Value} (h : w.cell? ⟨b, i, none⟩ = some v) (hne : i ≠ j) : (w.setCell ⟨b, j, none⟩ u).cell? ⟨b, i, none⟩ = some v := by
  rw [← h]
  exact World.cell?_setCell_other w _ _ _ (fun e => hne (by injection e with _ e; first | exact e | exact e.symm))

def CBeg (w : World) (S : Nat → Prop) (z b : Nat) (L' : Nat → List Int) (w' : World) : Prop := ∃ S', Cent w' S' z b L' ∧ (∀ i, S' i → S i ∨ w.heap.size ≤ i) ∧ Mod S w w'
theorem CBeg.comp {w w1 w' : World} {S S1 : Nat → Prop} {z b : Nat} {L' : Nat → List Int} (hS1 : ∀ i, S1 i → S i ∨ w.heap.size ≤ i) (m1 : Mod S w w1) (h : CBeg w1 S1 z b L' w') : CBeg w S z b L' w' := by
  obtain ⟨_, S', h1, h2, h3⟩ := CRet.comp (v := .tuple #[]) (e := .returned (.tuple #[])) hS1 m1 ⟨rfl, h⟩
  exact ⟨S', h1, h2, h3⟩

set_option maxRecDepth 100000 in
theorem cbegin_nil (w : World) : Calls Try.prog 38 #[.pointer none] w fun e w' => e = .returned (.tuple #[]) ∧ w' = w := by
  go_enter Try.func38, Try.ntmps38
  go_wp2
  exact bodyPost_ret (v := .tuple #[]) (by simp [results, Try.results38]) rfl ⟨rfl, rfl⟩

set_option maxHeartbeats 4000000 in
set_option maxRecDepth 100000 in
theorem cbegin_any {w : World} {S : Nat → Prop} {z b : Nat} {L : Nat → List Int} (h : Cent w S z b L) (hl : ∀ i, i < 64 → (L i).length ≤ 400000) :
    Calls Try.prog 38 #[.pointer (some ⟨z, 0, none⟩)] w (CRet w S z b (cbegL L) (.tuple #[])) := by
  have ht0 := h.top
  go_enter Try.func38, Try.ntmps38
  go_wp2
  go_loopw [11] (fun i wr => ∃ k : Nat, k ≤ 16 ∧ i = .int .i64 k ∧ CBeg w S z b (cbegN L (2 * k)) wr) (fun i _ => 16 - (intOf i).toNat)
  case atStart => exact ⟨0, by omega, rfl, S, by rw [cbegN_zero]; exact h, fun i hi => .inl hi, Mod.refl _ _⟩
  case round =>
    obtain ⟨k, hk, rfl, S1, h1, hS1, m1⟩ := hrel
    by_cases hk2 : k < 16
    · obtain ⟨wa, rfl⟩ : ∃ wa : World, wa = wr := ⟨_, rfl⟩
      have hdk : decide ((k : Int) < 16) = true := decide_eq_true (by omega)
      go_wp2
      go_loopw [14] (fun i wr => ∃ f : Nat, f ≤ 2 ∧ i = .int .i64 f ∧ CBeg w S z b (cbegN L (2 * k + f)) wr) (fun i _ => 2 - (intOf i).toNat)
      case atStart => exact ⟨0, by omega, rfl, S1, h1, hS1, m1⟩
      case round =>
        clear h1 hS1 m1
        obtain ⟨f, hf, rfl, S1, h1, hS1, m1⟩ := hrel
        by_cases hf2 : f < 2
        · have ht := h1.top
          have hz := h1.zlt
          have hzb := h1.ne
          have hblt := h1.blt
          obtain ⟨A, n, c, hc, hown, hfz, hg⟩ := h1.cell (k := k * 4 + 2 + f) (by omega)
          obtain ⟨A', n', c', hc', hown', hfz', hg'⟩ := h1.cell (k := k * 4 + f) (by omega)
          have hk0 : (0 : Int) ≤ (k : Int) := by omega
          have hk1 : (k : Int) < 16 := by omega
          have hf0 : (0 : Int) ≤ (f : Int) := by omega
          have hf1 : (f : Int) < 2 := by omega
          have e1 := hl (k * 4 + 2 + f) (by omega)
          have e2 := hl (k * 4 + f) (by omega)
          obtain ⟨hat1, hat2⟩ := cbegN_at L (k := k) hf2
          rw [hat1] at hown
          rw [hat2] at hown'
          rw [hown.len] at e1
          rw [hown'.len] at e2
          clear hat1 hat2 ht0
          go_wp2
          refine wp_region_noPanic ?_
          refine wp_region_held_drew (S := fun W => W.cell? ⟨z, 0, none⟩ = some (.slice (some ⟨b, 0, none⟩) 16 16) ∧ W.cell? ⟨b, k * 4 + f, none⟩ = some (.slice A' n' c')) (by kernel_rfl) ⟨ht, hc'⟩ (fun hHeld => ?_)
          (refine wpAnyH_take (i := 0) (v := ?_) rfl (by kernel_rfl) (by kernel_rfl) (by kernel_rfl) (fun _ _ _ h => h) (Or.inl ⟨by rfl, ?_⟩) (by assumption) ?_; rotate_left; focus (intro wq hSw; (try dsimp only at hSw); go_simp; try with_reducible rfl); try simp only [Act.put, List.setIfInBounds_toArray, List.set_cons_zero, List.set_cons_succ])
          (refine wpAnyH_take (i := 1) (v := ?_) rfl (by kernel_rfl) (by kernel_rfl) (by kernel_rfl) (fun _ _ _ h => h) (Or.inl ⟨by rfl, ?_⟩) (by assumption) ?_; rotate_left; focus (intro wq hSw; (try dsimp only at hSw); go_simp; try with_reducible rfl); try simp only [Act.put, List.setIfInBounds_toArray, List.set_cons_zero, List.set_cons_succ])
          (refine wpAnyH_take (i := 2) (v := ?_) rfl (by kernel_rfl) (by kernel_rfl) (by kernel_rfl) (fun _ _ _ h => h) (Or.inl ⟨by rfl, ?_⟩) (by assumption) ?_; rotate_left; focus (intro wq hSw; (try dsimp only at hSw); go_simp; try with_reducible rfl); try simp only [Act.put, List.setIfInBounds_toArray, List.set_cons_zero, List.set_cons_succ])
          (refine wpAnyH_take (i := 3) (v := ?_) rfl (by kernel_rfl) (by kernel_rfl) (by kernel_rfl) (fun _ _ _ h => h) (Or.inl ⟨by rfl, ?_⟩) (by assumption) ?_; rotate_left; focus (intro wq hSw; (try dsimp only at hSw); go_simp; try with_reducible rfl); try simp only [Act.put, List.setIfInBounds_toArray, List.set_cons_zero, List.set_cons_succ])
          (refine wpAnyH_take (i := 4) (v := ?_) rfl (by kernel_rfl) (by kernel_rfl) (by kernel_rfl) (fun _ _ _ h => h) (Or.inl ⟨by rfl, ?_⟩) (by assumption) ?_; rotate_left; focus (intro wq hSw; (try dsimp only at hSw); go_simp; try with_reducible rfl); try simp only [Act.put, List.setIfInBounds_toArray, List.set_cons_zero, List.set_cons_succ])
          (refine wpAnyH_take (i := 5) (v := ?_) rfl (by kernel_rfl) (by kernel_rfl) (by kernel_rfl) (fun _ _ _ h => h) (Or.inl ⟨by rfl, ?_⟩) (by assumption) ?_; rotate_left; focus (intro wq hSw; (try dsimp only at hSw); go_simp; try with_reducible rfl); try simp only [Act.put, List.setIfInBounds_toArray, List.set_cons_zero, List.set_cons_succ])
          (refine wpAnyH_take (i := 6) (v := ?_) rfl (by kernel_rfl) (by kernel_rfl) (by kernel_rfl) (fun _ _ _ h => h) (Or.inl ⟨by rfl, ?_⟩) (by assumption) ?_; rotate_left; focus (intro wq hSw; (try dsimp only at hSw); go_simp; try with_reducible rfl); try simp only [Act.put, List.setIfInBounds_toArray, List.set_cons_zero, List.set_cons_succ])
          (refine wpAnyH_take (i := 7) (v := ?_) rfl (by kernel_rfl) (by kernel_rfl) (by kernel_rfl) (fun _ _ _ h => h) (Or.inl ⟨by rfl, ?_⟩) (by assumption) ?_; rotate_left; focus (intro wq hSw; (try dsimp only at hSw); go_simp; try with_reducible rfl); try simp only [Act.put, List.setIfInBounds_toArray, List.set_cons_zero, List.set_cons_succ])
          (refine wpAnyH_take (i := 8) (v := ?_) rfl (by kernel_rfl) (by kernel_rfl) (by kernel_rfl) (fun _ _ _ h => h) (Or.inl ⟨by rfl, ?_⟩) (by assumption) ?_; rotate_left; focus (intro wq hSw; (try dsimp only at hSw); go_simp; try with_reducible rfl); try simp only [Act.put, List.setIfInBounds_toArray, List.set_cons_zero, List.set_cons_succ])
          (refine wpAnyH_take (i := 9) (v := ?_) rfl (by kernel_rfl) (by kernel_rfl) (by kernel_rfl) (fun _ _ _ h => h) (Or.inl ⟨by rfl, ?_⟩) (by assumption) ?_; rotate_left; focus (intro wq hSw; (try dsimp only at hSw); go_simp; try with_reducible rfl); try simp only [Act.put, List.setIfInBounds_toArray, List.set_cons_zero, List.set_cons_succ])
          (refine wpAnyH_take (i := 10) (v := ?_) rfl (by kernel_rfl) (by kernel_rfl) (by kernel_rfl) (fun _ _ _ h => h) (Or.inl ⟨by rfl, ?_⟩) (by assumption) ?_; rotate_left; focus (intro wq hSw; (try dsimp only at hSw); go_simp; try with_reducible rfl); try simp only [Act.put, List.setIfInBounds_toArray, List.set_cons_zero, List.set_cons_succ])
          (refine wpAnyH_take (i := 11) (v := ?_) rfl (by kernel_rfl) (by kernel_rfl) (by kernel_rfl) (fun _ _ _ h => h) (Or.inl ⟨by rfl, ?_⟩) (by assumption) ?_; rotate_left; focus (intro wq hSw; (try dsimp only at hSw); go_simp; try with_reducible rfl); try simp only [Act.put, List.setIfInBounds_toArray, List.set_cons_zero, List.set_cons_succ])
          (refine wpAnyH_take (i := 12) (v := ?_) rfl (by kernel_rfl) (by kernel_rfl) (by kernel_rfl) (fun _ _ _ h => h) (Or.inl ⟨by rfl, ?_⟩) (by assumption) ?_; rotate_left; focus (intro wq hSw; (try dsimp only at hSw); go_simp; try with_reducible rfl); try simp only [Act.put, List.setIfInBounds_toArray, List.set_cons_zero, List.set_cons_succ])
          (refine wpAnyH_take (i := 13) (v := ?_) rfl (by kernel_rfl) (by kernel_rfl) (by kernel_rfl) (fun _ _ _ h => h) (Or.inl ⟨by rfl, ?_⟩) (by assumption) ?_; rotate_left; focus (intro wq hSw; (try dsimp only at hSw); go_simp; try with_reducible rfl); try simp only [Act.put, List.setIfInBounds_toArray, List.set_cons_zero, List.set_cons_succ])
          (refine wpAnyH_take (i := 14) (v := ?_) rfl (by kernel_rfl) (by kernel_rfl) (by kernel_rfl) (fun _ _ _ h => h) (Or.inl ⟨by rfl, ?_⟩) (by assumption) ?_; rotate_left; focus (intro wq hSw; (try dsimp only at hSw); go_simp; try with_reducible rfl); try simp only [Act.put, List.setIfInBounds_toArray, List.set_cons_zero, List.set_cons_succ])
          (refine wpAnyH_take (i := 16) (v := ?_) rfl (by kernel_rfl) (by kernel_rfl) (by kernel_rfl) (fun _ _ _ h => h) (Or.inl ⟨by rfl, ?_⟩) (by assumption) ?_; rotate_left; focus (intro wq hSw; (try dsimp only at hSw); go_simp; try with_reducible rfl); try simp only [Act.put, List.setIfInBounds_toArray, List.set_cons_zero, List.set_cons_succ])
          (refine wpAnyH_take (i := 17) (v := ?_) rfl (by kernel_rfl) (by kernel_rfl) (by kernel_rfl) (fun _ _ _ h => h) (Or.inl ⟨by rfl, ?_⟩) (by assumption) ?_; rotate_left; focus (intro wq hSw; (try dsimp only at hSw); go_simp; try with_reducible rfl); try simp only [Act.put, List.setIfInBounds_toArray, List.set_cons_zero, List.set_cons_succ])
          (refine wpAnyH_take (i := 18) (v := ?_) rfl (by kernel_rfl) (by kernel_rfl) (by kernel_rfl) (fun _ _ _ h => h) (Or.inl ⟨by rfl, ?_⟩) (by assumption) ?_; rotate_left; focus (intro wq hSw; (try dsimp only at hSw); go_simp; try with_reducible rfl); try simp only [Act.put, List.setIfInBounds_toArray, List.set_cons_zero, List.set_cons_succ])
          (refine wpAnyH_take (i := 19) (v := ?_) rfl (by kernel_rfl) (by kernel_rfl) (by kernel_rfl) (fun _ _ _ h => h) (Or.inl ⟨by rfl, ?_⟩) (by assumption) ?_; rotate_left; focus (intro wq hSw; (try dsimp only at hSw); go_simp; try with_reducible rfl); try simp only [Act.put, List.setIfInBounds_toArray, List.set_cons_zero, List.set_cons_succ])
          (refine wpAnyH_take (i := 20) (v := ?_) rfl (by kernel_rfl) (by kernel_rfl) (by kernel_rfl) (fun _ _ _ h => h) (Or.inl ⟨by rfl, ?_⟩) (by assumption) ?_; rotate_left; focus (intro wq hSw; (try dsimp only at hSw); go_simp; try with_reducible rfl); try simp only [Act.put, List.setIfInBounds_toArray, List.set_cons_zero, List.set_cons_succ])
          (refine wpAnyH_take (i := 21) (v := ?_) rfl (by kernel_rfl) (by kernel_rfl) (by kernel_rfl) (fun _ _ _ h => h) (Or.inl ⟨by rfl, ?_⟩) (by assumption) ?_; rotate_left; focus (intro wq hSw; (try dsimp only at hSw); go_simp; try with_reducible rfl); try simp only [Act.put, List.setIfInBounds_toArray, List.set_cons_zero, List.set_cons_succ])
          (refine wpAnyH_take (i := 22) (v := ?_) rfl (by kernel_rfl) (by kernel_rfl) (by kernel_rfl) (fun _ _ _ h => h) (Or.inl ⟨by rfl, ?_⟩) (by assumption) ?_; rotate_left; focus (intro wq hSw; (try dsimp only at hSw); go_simp; try with_reducible rfl); try simp only [Act.put, List.setIfInBounds_toArray, List.set_cons_zero, List.set_cons_succ])
          (refine wpAnyH_take (i := 23) (v := ?_) rfl (by kernel_rfl) (by kernel_rfl) (by kernel_rfl) (fun _ _ _ h => h) (Or.inl ⟨by rfl, ?_⟩) (by assumption) ?_; rotate_left; focus (intro wq hSw; (try dsimp only at hSw); go_simp; try with_reducible rfl); try simp only [Act.put, List.setIfInBounds_toArray, List.set_cons_zero, List.set_cons_succ])
          (refine wpAnyH_take (i := 24) (v := ?_) rfl (by kernel_rfl) (by kernel_rfl) (by kernel_rfl) (fun _ _ _ h => h) (Or.inl ⟨by rfl, ?_⟩) (by assumption) ?_; rotate_left; focus (intro wq hSw; (try dsimp only at hSw); go_simp; try with_reducible rfl); try simp only [Act.put, List.setIfInBounds_toArray, List.set_cons_zero, List.set_cons_succ])
          (refine wpAnyH_take (i := 25) (v := ?_) rfl (by kernel_rfl) (by kernel_rfl) (by kernel_rfl) (fun _ _ _ h => h) (Or.inl ⟨by rfl, ?_⟩) (by assumption) ?_; rotate_left; focus (intro wq hSw; (try dsimp only at hSw); go_simp; try with_reducible rfl); try simp only [Act.put, List.setIfInBounds_toArray, List.set_cons_zero, List.set_cons_succ])
          (refine wpAnyH_take (i := 28) (v := ?_) rfl (by kernel_rfl) (by kernel_rfl) (by kernel_rfl) (fun _ _ _ h => h) (Or.inl ⟨by rfl, ?_⟩) (by assumption) ?_; rotate_left; focus (intro wq hSw; (try dsimp only at hSw); go_simp; try with_reducible rfl); try simp only [Act.put, List.setIfInBounds_toArray, List.set_cons_zero, List.set_cons_succ])
          (refine wpAnyH_take (i := 29) (v := ?_) rfl (by kernel_rfl) (by kernel_rfl) (by kernel_rfl) (fun _ _ _ h => h) (Or.inl ⟨by rfl, ?_⟩) (by assumption) ?_; rotate_left; focus (intro wq hSw; (try dsimp only at hSw); go_simp; try with_reducible rfl); try simp only [Act.put, List.setIfInBounds_toArray, List.set_cons_zero, List.set_cons_succ])
          refine wpAnyH_ready (rs := [15]) (by kernel_rfl) (by simp) ?_
          refine AllReadyH.cons rfl (fun K hK => ?_) AllReadyH.nil
          go_simp
          refine hK.out _ _ ⟨ht, hc'⟩ (fun hHeld => ?_)
          clear hK K
          try simp only [Act.put, List.setIfInBounds_toArray, List.set_cons_zero, List.set_cons_succ]
          refine wpAnyH_ready (rs := [26]) (by kernel_rfl) (by simp) ?_
          refine AllReadyH.cons rfl (fun K hK => ?_) AllReadyH.nil
          go_simp
          refine hK.out _ _ ⟨(((Mod.refl (fun _ => False) wr).alloc _).cell (p := ⟨z, 0, none⟩) hz (fun h => h)).trans ht, (((Mod.refl (fun _ => False) wr).alloc _).cell (p := ⟨b, k * 4 + f, none⟩) hblt (fun h => h)).trans hc'⟩ (fun hHeld => ?_)
          clear hK K
          try simp only [Act.put, List.setIfInBounds_toArray, List.set_cons_zero, List.set_cons_succ]
          refine wpAnyH_ready (rs := [27]) (by kernel_rfl) (by simp) ?_
          refine AllReadyH.cons rfl (fun K hK => ?_) AllReadyH.nil
          go_simp
          go_at_call 58
          refine (concat_two wr.heap.size A A' n n' c c' _ _ _ (lit2_0d wr _ _ _) (lit2_1d wr _ _ _) ((hown.isL.alloc _).drewL) ((hown'.isL.alloc _).drewL) e1 e2).mono ?_
          rintro e w3 ⟨A5, c5, rfl, hown5, hf5, m5⟩
          have m6 : Mod (fun _ => False) wr w3 := ((Mod.refl _ wr).alloc (.cells #[.slice A n c, .slice A' n' c'] 35)).trans (by first | (with_reducible exact m5) | exact (((Mod.refl _ _).drew).trans m5))
          have tz : w3.cell? ⟨z, 0, none⟩ = some (.slice (some ⟨b, 0, none⟩) 16 16) := (m6.cell (p := ⟨z, 0, none⟩) hz (fun h => h)).trans ht
          have tk : w3.cell? ⟨b, k * 4 + f, none⟩ = some (.slice A' n' c') := (m6.cell (p := ⟨b, k * 4 + f, none⟩) hblt (fun h => h)).trans hc'
          have tzl : z < w3.heap.size := Nat.lt_of_lt_of_le hz m6.size
          have tc : w3.cell? ⟨b, k * 4 + 2 + f, none⟩ = some (.slice A n c) := (m6.cell (p := ⟨b, k * 4 + 2 + f, none⟩) hblt (fun h => h)).trans hc
          have tf : w3.frozen? ⟨b, k * 4 + 2 + f, none⟩ = false := (m6.frozen (p := ⟨b, k * 4 + 2 + f, none⟩) hblt (fun h => h)).trans hfz
          have tb : b < w3.heap.size := Nat.lt_of_lt_of_le hblt m6.size
          go_wp2_with fail
          refine hK.out _ _ ⟨tz, tk⟩ (fun hHeld => ?_)
          clear hK K
          try simp only [Act.put, List.setIfInBounds_toArray, List.set_cons_zero, List.set_cons_succ]
          (refine wpAnyH_take (i := 30) (v := ?_) rfl (by kernel_rfl) (by kernel_rfl) (by kernel_rfl) (fun _ _ _ h => h) (Or.inl ⟨by rfl, ?_⟩) (by assumption) ?_; rotate_left; focus (intro wq hSw; (try dsimp only at hSw); go_simp; try with_reducible rfl); try simp only [Act.put, List.setIfInBounds_toArray, List.set_cons_zero, List.set_cons_succ])
          refine wpAnyH_ready (rs := [31]) (by kernel_rfl) (by simp) ?_
          refine AllReadyH.cons rfl (fun K hK => ?_) AllReadyH.nil
          go_simp
          refine hK.out _ _ ⟨cell_other tz tzl hzb, cell_far tk (by omega)⟩ (fun hHeld => ?_)
          clear hK K
          try simp only [Act.put, List.setIfInBounds_toArray, List.set_cons_zero, List.set_cons_succ]
          refine wpAnyH_done (by kernel_rfl) ?_ _
          refine NoPanic.normal ?_
          all_goals (
            have hat : ∀ i, blk A5 = some i → wr.heap.size ≤ i := fun i hi => by
              have h3 : (wr.alloc (.cells #[.slice A n c, .slice A' n' c'] 35)).heap.size ≤ i := hf5 i hi
              have h2 : (wr.alloc (.cells #[.slice A n c, .slice A' n' c'] 35)).heap.size = wr.heap.size + 1 := by simp
              omega
            obtain ⟨S2, h2, hS2, m2⟩ := h1.put (by omega) hc (m6.mono (fun _ _ h => h.elim)) hown5 (.inr hat)
            obtain ⟨A6, n6, c6, hc6, hown6, hfz6, hg6⟩ := h2.cell (k := k * 4 + f) (by omega)
            have t6 := h2.top
            have b6 := h2.blt
            obtain ⟨S3, h3, hS3, m3⟩ := h2.put (A2 := none) (n2 := 0) (c2 := 0) (l2 := []) (by omega) hc6 (Mod.refl _ _) (OwnL.nil _) (.inr (fun i hi => by cases hi))
            rw [cbegN_succ L hf2] at h3
            have q1 := CBeg.comp hS1 m1 (CBeg.comp hS2 m2 ⟨S3, h3, hS3, m3⟩)
            clear hc hc' ht hown hown' tc tf tz tb tzl h1 h2 h3 hS1 hS2 hS3 m1 m2 m3
            go_wp2
            go_roundw
            case rel => first | exact ⟨f + 1, by omega, by go_num, q1⟩ | ((repeat apply Exists.intro); exact ⟨⟨f + 1, by omega, by go_num, q1⟩, rfl⟩)
            case measure => simp [intOf]; omega)
        · obtain rfl : f = 2 := by omega
          have q1 : CBeg w S z b (cbegN L (2 * (k + 1))) wr := ⟨S1, h1, hS1, m1⟩
          clear h1 hS1 m1
          go_wp2
          go_roundw
          case rel => exact ⟨k + 1, by omega, by go_num, q1⟩
          case measure => simp [intOf]; omega
    · obtain rfl : k = 16 := by omega
      have q1 : CRet w S z b (cbegL L) (.tuple #[]) (.returned (.tuple #[])) wr := ⟨rfl, S1, h1, hS1, m1⟩
      clear h1 hS1 m1
      go_wp2
      go_end0
      exact q1

end Go.Proofs.Ytjjbcfbljnekgaa
