/-
  treadmilllaw8.CentralOnce: what stands where, in plain Lean.
-/
import Derived.Test.YtjjbcfbljnekgaaCLaw
namespace Go.Proofs.Ytjjbcfbljnekgaa
open Go.RowKit

def cnt (I : Nat → Bool) : Nat → Nat
  | 0 => 0
  | k + 1 => cnt I k + (if I k then 1 else 0)
def tot (L : Nat → List Int) : Nat → Nat
  | 0 => 0
  | k + 1 => tot L k + (L (k * 4)).length + (L (k * 4 + 1)).length + (L (k * 4 + 2)).length + (L (k * 4 + 3)).length
theorem cnt_le (I : Nat → Bool) (k : Nat) : cnt I k ≤ k := by
  induction k with
  | zero => exact Nat.le_refl _
  | succ k ih => rw [cnt]; split <;> omega
theorem cnt_upd (I : Nat → Bool) (x : Nat) (v : Bool) (k : Nat) : cnt (upd I x v) k + (if x < k ∧ I x = true then 1 else 0) = cnt I k + (if x < k ∧ v = true then 1 else 0) := by
  induction k with
  | zero => simp [cnt]
  | succ k ih =>
    rw [cnt, cnt]
    by_cases e : k = x
    · subst e
      rw [upd_same]
      simp only [Nat.lt_irrefl, false_and, if_false] at ih
      simp only [Nat.lt_succ_self, true_and]
      omega
    · rw [upd_ne _ _ e]
      have e1 : (x < k + 1) ↔ (x < k) := by omega
      simp only [e1]
      omega
theorem cnt_zero {I : Nat → Bool} {k : Nat} (h : ∀ i, i < k → I i = false) : cnt I k = 0 := by
  induction k with
  | zero => rfl
  | succ k ih => rw [cnt, ih (fun i hi => h i (by omega)), h k (by omega)]; rfl
theorem tot_upd (L : Nat → List Int) (j : Nat) (l : List Int) (k : Nat) : tot (upd L j l) k + (if j < k * 4 then (L j).length else 0) = tot L k + (if j < k * 4 then l.length else 0) := by
  induction k with
  | zero => simp [tot]
  | succ k ih =>
    rw [tot, tot]
    by_cases h : j < k * 4
    · rw [if_pos h, if_pos h] at ih
      rw [if_pos (by omega), if_pos (by omega), upd_ne _ _ (by omega), upd_ne _ _ (by omega), upd_ne _ _ (by omega), upd_ne _ _ (by omega)]
      omega
    · rw [if_neg h, if_neg h] at ih
      by_cases h2 : j < (k + 1) * 4
      · rw [if_pos h2, if_pos h2]
        have hj : j = k * 4 ∨ j = k * 4 + 1 ∨ j = k * 4 + 2 ∨ j = k * 4 + 3 := by omega
        rcases hj with rfl | rfl | rfl | rfl
        · rw [upd_same, upd_ne _ _ (by omega), upd_ne _ _ (by omega), upd_ne _ _ (by omega)]; omega
        · rw [upd_same, upd_ne _ _ (by omega), upd_ne _ _ (by omega), upd_ne _ _ (by omega)]; omega
        · rw [upd_same, upd_ne _ _ (by omega), upd_ne _ _ (by omega), upd_ne _ _ (by omega)]; omega
        · rw [upd_same, upd_ne _ _ (by omega), upd_ne _ _ (by omega), upd_ne _ _ (by omega)]; omega
      · rw [if_neg h2, if_neg h2, upd_ne _ _ (by omega), upd_ne _ _ (by omega), upd_ne _ _ (by omega), upd_ne _ _ (by omega)]
        omega
theorem tot_le (L : Nat → List Int) (k j : Nat) (h : j < k * 4) : (L j).length ≤ tot L k := by
  induction k with
  | zero => omega
  | succ k ih =>
    rw [tot]
    by_cases h2 : j < k * 4
    · have := ih h2; omega
    · have hj : j = k * 4 ∨ j = k * 4 + 1 ∨ j = k * 4 + 2 ∨ j = k * 4 + 3 := by omega
      rcases hj with rfl | rfl | rfl | rfl <;> omega
theorem cun_le_tot (L : Nat → List Int) (k : Nat) : cun L k ≤ tot L k := by
  induction k with
  | zero => exact Nat.le_refl _
  | succ k ih => rw [cun, tot]; omega
theorem cbegL_at (L : Nat → List Int) (i : Nat) (hi : i < 64) : cbegL L i = if i % 4 < 2 then [] else L i ++ L (i - 2) := by
  unfold cbegL cbegN
  rw [if_pos (by omega)]
theorem cun_begin (L : Nat → List Int) (k : Nat) (hk : k ≤ 16) : cun (cbegL L) k = tot L k := by
  induction k with
  | zero => rfl
  | succ k ih =>
    rw [cun, tot, ih (by omega), cbegL_at _ _ (by omega), cbegL_at _ _ (by omega), if_neg (by omega), if_neg (by omega), List.length_append, List.length_append]
    have e1 : k * 4 + 2 - 2 = k * 4 := by omega
    have e2 : k * 4 + 3 - 2 = k * 4 + 1 := by omega
    rw [e1, e2]
    omega
theorem tot_begin (L : Nat → List Int) (k : Nat) (hk : k ≤ 16) : tot (cbegL L) k = tot L k := by
  induction k with
  | zero => rfl
  | succ k ih =>
    rw [tot, tot, ih (by omega), cbegL_at _ _ (by omega), cbegL_at _ _ (by omega), cbegL_at _ _ (by omega), cbegL_at _ _ (by omega), if_pos (by omega), if_pos (by omega), if_neg (by omega), if_neg (by omega), List.length_append, List.length_append]
    have e1 : k * 4 + 2 - 2 = k * 4 := by omega
    have e2 : k * 4 + 3 - 2 = k * 4 + 1 := by omega
    rw [e1, e2]
    simp
    omega

/-- Each of the ids 0 .. 9 that is in stands in one place, once; nobody else stands anywhere. -/
structure Inv (L : Nat → List Int) (I : Nat → Bool) : Prop where
  nodup : ∀ j, j < 64 → (L j).Nodup
  apart : ∀ i j, i < 64 → j < 64 → i ≠ j → ∀ x, x ∈ L i → x ∉ L j
  isin : ∀ j, j < 64 → ∀ x, x ∈ L j → ∃ k : Nat, k < 10 ∧ x = (k : Int) ∧ I k = true
  there : ∀ k, k < 10 → I k = true → ∃ j, j < 64 ∧ (k : Int) ∈ L j
  count : tot L 16 = cnt I 10

theorem Inv.zero : Inv (fun _ => []) (fun _ => false) := ⟨fun _ _ => List.nodup_nil, fun _ _ _ _ _ _ h => by simp at h, fun _ _ _ h => by simp at h, fun _ _ h => by simp at h, by decide⟩
section
variable {L : Nat → List Int} {I : Nat → Bool}
theorem Inv.short (h : Inv L I) (j : Nat) (hj : j < 64) : (L j).length ≤ 10 := by
  have h1 := tot_le L 16 j (by omega)
  have h2 := cnt_le I 10
  rw [h.count] at h1
  omega
theorem Inv.small (h : Inv L I) : Small L := fun j hj => by have := h.short j hj; omega
theorem Inv.congr {I' : Nat → Bool} (h : Inv L I) (e : ∀ k, k < 10 → I k = I' k) : Inv L I' := by
  refine ⟨h.nodup, h.apart, fun j hj x hx => ?_, fun k hk hi => h.there k hk (by rw [e k hk]; exact hi), ?_⟩
  · obtain ⟨k, hk, e1, e2⟩ := h.isin j hj x hx
    exact ⟨k, hk, e1, by rw [← e k hk]; exact e2⟩
  · rw [h.count]
    have key : ∀ n, n ≤ 10 → cnt I n = cnt I' n := by
      intro n
      induction n with
      | zero => intro _; rfl
      | succ n ih => intro hn; rw [cnt, cnt, ih (by omega), e n (by omega)]
    exact key 10 (by omega)
/-- One is taken out of a row. -/
theorem Inv.out (h : Inv L I) {j : Nat} (hj : j < 64) {x : Int} (hx : x ∈ L j) {l : List Int} (hl : l.length + 1 = (L j).length) (hnd : l.Nodup) (hm : ∀ y, y ∈ l → y ∈ L j ∧ y ≠ x) (hm2 : ∀ y, y ∈ L j → y ≠ x → y ∈ l) :
    ∃ k : Nat, k < 10 ∧ x = (k : Int) ∧ I k = true ∧ Inv (upd L j l) (upd I k false) := by
  obtain ⟨k, hk, ek, hik⟩ := h.isin j hj x hx
  have hsub : ∀ i y, y ∈ upd L j l i → y ∈ L i := by
    intro i y hy
    by_cases e : i = j
    · subst e; rw [upd_same] at hy; exact (hm y hy).1
    · rw [upd_ne _ _ e] at hy; exact hy
  refine ⟨k, hk, ek, hik, fun i hi => ?_, fun i i2 hi hi2 hne y hy hy2 => h.apart i i2 hi hi2 hne y (hsub i y hy) (hsub i2 y hy2), fun i hi y hy => ?_, fun q hq hiq => ?_, ?_⟩
  · by_cases e : i = j
    · subst e; rw [upd_same]; exact hnd
    · rw [upd_ne _ _ e]; exact h.nodup i hi
  · obtain ⟨q, hq, eq, hiq⟩ := h.isin i hi y (hsub i y hy)
    refine ⟨q, hq, eq, ?_⟩
    have hqk : q ≠ k := by
      rintro rfl
      have hyx : y = x := by rw [eq, ek]
      by_cases e : i = j
      · subst e; rw [upd_same] at hy; exact (hm y hy).2 hyx
      · rw [upd_ne _ _ e] at hy; exact h.apart i j hi hj e y hy (by rw [hyx]; exact hx)
    rw [upd_ne _ _ hqk]; exact hiq
  · have hqk : q ≠ k := by rintro rfl; rw [upd_same] at hiq; exact absurd hiq (by simp)
    rw [upd_ne _ _ hqk] at hiq
    obtain ⟨i, hi, hmem⟩ := h.there q hq hiq
    refine ⟨i, hi, ?_⟩
    by_cases e : i = j
    · subst e; rw [upd_same]; exact hm2 _ hmem (by rw [ek]; omega)
    · rw [upd_ne _ _ e]; exact hmem
  · have h1 := tot_upd L j l 16
    have h2 := cnt_upd I k false 10
    rw [if_pos (by omega), if_pos (by omega)] at h1
    rw [if_pos ⟨hk, hik⟩, if_neg (by simp)] at h2
    have h3 := h.count
    omega
/-- One that is nowhere is put behind a row. -/
theorem Inv.put (h : Inv L I) {j : Nat} (hj : j < 64) {k : Nat} (hk : k < 10) (hi : I k = false) : Inv (upd L j (L j ++ [(k : Int)])) (upd I k true) := by
  have hno : ∀ i, i < 64 → (k : Int) ∉ L i := fun i hi2 hm => by
    obtain ⟨q, hq, eq, hiq⟩ := h.isin i hi2 _ hm
    have : k = q := by omega
    subst this
    rw [hi] at hiq
    exact absurd hiq (by simp)
  have hmem : ∀ i y, y ∈ upd L j (L j ++ [(k : Int)]) i → y ∈ L i ∨ (i = j ∧ y = (k : Int)) := by
    intro i y hy
    by_cases e : i = j
    · subst e
      rw [upd_same, List.mem_append] at hy
      rcases hy with hy | hy
      · exact .inl hy
      · exact .inr ⟨rfl, by simpa using hy⟩
    · rw [upd_ne _ _ e] at hy; exact .inl hy
  refine ⟨fun i hi2 => ?_, fun i i2 hi2 hi3 hne y hy hy2 => ?_, fun i hi2 y hy => ?_, fun q hq hiq => ?_, ?_⟩
  · by_cases e : i = j
    · subst e
      rw [upd_same, List.nodup_append]
      refine ⟨h.nodup i hi2, by simp, fun a ha b hb e => ?_⟩
      have hb' : b = (k : Int) := by simpa using hb
      exact hno i hi2 (by rw [← hb', ← e]; exact ha)
    · rw [upd_ne _ _ e]; exact h.nodup i hi2
  · rcases hmem i y hy with h1 | ⟨h1, h1'⟩
    · rcases hmem i2 y hy2 with h2 | ⟨h2, h2'⟩
      · exact h.apart i i2 hi2 hi3 hne y h1 h2
      · exact hno i hi2 (by rw [← h2']; exact h1)
    · rcases hmem i2 y hy2 with h2 | ⟨h2, h2'⟩
      · exact hno i2 hi3 (by rw [← h1']; exact h2)
      · exact hne (by rw [h1, h2])
  · rcases hmem i y hy with h1 | ⟨_, h1'⟩
    · obtain ⟨q, hq, eq, hiq⟩ := h.isin i hi2 y h1
      refine ⟨q, hq, eq, ?_⟩
      by_cases e : q = k
      · subst e; rw [upd_same]
      · rw [upd_ne _ _ e]; exact hiq
    · exact ⟨k, hk, h1', upd_same _ _ _⟩
  · by_cases e : q = k
    · subst e
      exact ⟨j, hj, by rw [upd_same]; simp⟩
    · rw [upd_ne _ _ e] at hiq
      obtain ⟨i, hi2, hm⟩ := h.there q hq hiq
      refine ⟨i, hi2, ?_⟩
      by_cases e2 : i = j
      · subst e2; rw [upd_same]; simp [hm]
      · rw [upd_ne _ _ e2]; exact hm
  · have h1 := tot_upd L j (L j ++ [(k : Int)]) 16
    have h2 := cnt_upd I k true 10
    rw [if_pos (by omega), if_pos (by omega), List.length_append] at h1
    rw [if_neg (by rw [hi]; simp), if_pos ⟨hk, rfl⟩] at h2
    have h3 := h.count
    simp only [List.length_cons, List.length_nil] at h1
    omega
theorem Inv.del (h : Inv L I) {k : Nat} (hk : k < 10) : cdelB L k = I k ∧ Inv (cdelL L k) (upd I k false) := by
  by_cases hm : ∃ j, j < 64 ∧ (k : Int) ∈ L j
  · obtain ⟨j, hj, hm, hfirst⟩ : ∃ j, j < 64 ∧ (k : Int) ∈ L j ∧ ∀ m, m < j → (k : Int) ∉ L m := by
      obtain ⟨j, hj, hm⟩ := hm
      exact ⟨j, hj, hm, fun m hmj hmm => h.apart m j (by omega) hj (by omega) _ hmm hm⟩
    obtain ⟨e1, e2⟩ := cdel_yes hj hm hfirst
    have hnd := h.nodup j hj
    obtain ⟨q, hq, eq, hiq, hinv⟩ := h.out hj hm (l := (L j).erase (k : Int)) (by rw [List.length_erase_of_mem hm]; have := List.length_pos_of_mem hm; omega) (hnd.erase _)
      (fun y hy => ⟨List.mem_of_mem_erase hy, fun e => by rw [e] at hy; exact hnd.not_mem_erase hy⟩) (fun y hy hne => (List.mem_erase_of_ne hne).2 hy)
    have : k = q := by omega
    subst this
    exact ⟨by rw [e1, hiq], by rw [e2]; exact hinv⟩
  · have hno : ∀ j, j < 64 → (k : Int) ∉ L j := fun j hj hmm => hm ⟨j, hj, hmm⟩
    obtain ⟨e1, e2⟩ := cdel_no hno
    have hik : I k = false := by
      cases hI : I k with
      | false => rfl
      | true => exact absurd (h.there k hk hI) hm
    refine ⟨by rw [e1, hik], by
      rw [e2]
      exact h.congr (fun q _ => by
        by_cases e : q = k
        · subst e; rw [upd_same, hik]
        · rw [upd_ne _ _ e])⟩
theorem Inv.cput (h : Inv L I) {k : Nat} (hk : k < 10) {c : Nat} (hc : c < 16) (f : Bool) : Inv (cputL L c f k) (upd I k true) := by
  have h1 := (h.del hk).2
  have hs : slot f < 2 := by cases f <;> decide
  have h2 := h1.put (j := c * 4 + slot f) (by omega) hk (upd_same _ _ _)
  exact h2.congr (fun q _ => by
    by_cases e : q = k
    · subst e; rw [upd_same, upd_same]
    · rw [upd_ne _ _ e, upd_ne _ _ e, upd_ne _ _ e])
theorem Inv.begin (h : Inv L I) : Inv (cbegL L) I := by
  have hmem : ∀ i, i < 64 → ∀ y, y ∈ cbegL L i → 2 ≤ i % 4 ∧ (y ∈ L i ∨ y ∈ L (i - 2)) := by
    intro i hi y hy
    rw [cbegL_at _ _ hi] at hy
    by_cases e : i % 4 < 2
    · rw [if_pos e] at hy; simp at hy
    · rw [if_neg e, List.mem_append] at hy; exact ⟨by omega, hy⟩
  refine ⟨fun i hi => ?_, fun i i2 hi hi2 hne y hy hy2 => ?_, fun i hi y hy => ?_, fun q hq hiq => ?_, by rw [tot_begin _ _ (by omega)]; exact h.count⟩
  · rw [cbegL_at _ _ hi]
    by_cases e : i % 4 < 2
    · rw [if_pos e]; exact List.nodup_nil
    · rw [if_neg e, List.nodup_append]
      exact ⟨h.nodup i hi, h.nodup (i - 2) (by omega), fun a ha b hb e2 => h.apart i (i - 2) hi (by omega) (by omega) a ha (by rw [e2]; exact hb)⟩
  · obtain ⟨a1, b1⟩ := hmem i hi y hy
    obtain ⟨a2, b2⟩ := hmem i2 hi2 y hy2
    rcases b1 with b1 | b1 <;> rcases b2 with b2 | b2
    · exact h.apart i i2 hi hi2 hne y b1 b2
    · exact h.apart i (i2 - 2) hi (by omega) (by omega) y b1 b2
    · exact h.apart (i - 2) i2 (by omega) hi2 (by omega) y b1 b2
    · exact h.apart (i - 2) (i2 - 2) (by omega) (by omega) (by omega) y b1 b2
  · obtain ⟨_, b1⟩ := hmem i hi y hy
    rcases b1 with b1 | b1
    · exact h.isin i hi y b1
    · exact h.isin (i - 2) (by omega) y b1
  · obtain ⟨i, hi, hm⟩ := h.there q hq hiq
    by_cases e : i % 4 < 2
    · exact ⟨i + 2, by omega, by rw [cbegL_at _ _ (by omega), if_neg (by omega)]; simp [hm]⟩
    · exact ⟨i, hi, by rw [cbegL_at _ _ hi, if_neg e]; simp [hm]⟩
theorem Inv.last (h : Inv L I) {j : Nat} (hj : j < 64) {r : List Int} {x : Int} (hx : L j = r ++ [x]) : ∃ k : Nat, k < 10 ∧ x = (k : Int) ∧ I k = true ∧ Inv (upd L j r) (upd I k false) := by
  have hnd := h.nodup j hj
  rw [hx, List.nodup_append] at hnd
  refine h.out hj (x := x) (by rw [hx]; simp) (by rw [hx]; simp) hnd.1 (fun y hy => ⟨by rw [hx]; simp [hy], fun e => hnd.2.2 y hy x (by simp) e⟩) (fun y hy hne => ?_)
  rw [hx, List.mem_append] at hy
  rcases hy with hy | hy
  · exact hy
  · exact absurd (by simpa using hy) hne
theorem Inv.first (h : Inv L I) {j : Nat} (hj : j < 64) {r : List Int} {x : Int} (hx : L j = x :: r) : ∃ k : Nat, k < 10 ∧ x = (k : Int) ∧ I k = true ∧ Inv (upd L j r) (upd I k false) := by
  have hnd := h.nodup j hj
  rw [hx, List.nodup_cons] at hnd
  refine h.out hj (x := x) (by rw [hx]; simp) (by rw [hx]; simp) hnd.2 (fun y hy => ⟨by rw [hx]; simp [hy], fun e => hnd.1 (by rw [← e]; exact hy)⟩) (fun y hy hne => ?_)
  rw [hx, List.mem_cons] at hy
  rcases hy with hy | hy
  · exact absurd hy hne
  · exact hy
theorem Inv.empty (h : Inv L I) (he : ∀ j, j < 64 → L j = []) (k : Nat) (hk : k < 10) : I k = false := by
  cases hI : I k with
  | false => rfl
  | true =>
    obtain ⟨j, hj, hm⟩ := h.there k hk hI
    rw [he j hj] at hm
    simp at hm
end

theorem cany_cases (L : Nat → List Int) : (canyV L 32 0 = (0, 0, false) ∧ canyL L 32 0 = L ∧ ∀ i, i < 32 → L (i / 2 * 4 + 2 + i % 2) = []) ∨
    ∃ i x l, i < 32 ∧ L (i / 2 * 4 + 2 + i % 2) = x :: l ∧ canyV L 32 0 = (((i / 2 : Nat) : Int), x, true) ∧ canyL L 32 0 = upd L (i / 2 * 4 + 2 + i % 2) l := by
  by_cases h : ∃ i, i < 32 ∧ L (i / 2 * 4 + 2 + i % 2) ≠ []
  · obtain ⟨i, hi, hne, hfirst⟩ : ∃ i, i < 32 ∧ L (i / 2 * 4 + 2 + i % 2) ≠ [] ∧ ∀ m, m < i → L (m / 2 * 4 + 2 + m % 2) = [] := by
      have key : ∀ n i, i = n → i < 32 → L (i / 2 * 4 + 2 + i % 2) ≠ [] → ∃ i, i < 32 ∧ L (i / 2 * 4 + 2 + i % 2) ≠ [] ∧ ∀ m, m < i → L (m / 2 * 4 + 2 + m % 2) = [] := by
        intro n
        induction n using Nat.strongRecOn with
        | ind n ih =>
          intro i e hi hne
          by_cases h2 : ∃ m, m < i ∧ L (m / 2 * 4 + 2 + m % 2) ≠ []
          · obtain ⟨m, hm, hne2⟩ := h2
            exact ih m (by omega) m rfl (by omega) hne2
          · exact ⟨i, hi, hne, fun m hm => Classical.byContradiction fun h3 => h2 ⟨m, hm, h3⟩⟩
      obtain ⟨i, hi, hne⟩ := h
      exact key i i rfl hi hne
    cases hL : L (i / 2 * 4 + 2 + i % 2) with
    | nil => exact absurd hL hne
    | cons x l =>
      obtain ⟨e1, e2⟩ := cany_some (L := L) (f := 32) (i := 0) (j := i) (x := x) (l := l) (by omega) (by omega) hL (fun m _ hm => hfirst m hm)
      exact .inr ⟨i, x, l, hi, hL, e1, e2⟩
  · have hno : ∀ i, i < 32 → L (i / 2 * 4 + 2 + i % 2) = [] := fun i hi => Classical.byContradiction fun h3 => h ⟨i, hi, h3⟩
    obtain ⟨e1, e2⟩ := cany_none (L := L) (f := 32) (i := 0) (fun j _ hj => hno j (by omega))
    exact .inl ⟨e1, e2, hno⟩
theorem ctake_cases (L : Nat → List Int) (k : Nat) : (ctakeV L k = (0, false, false) ∧ ctakeL L k = L ∧ L (k * 4) = [] ∧ L (k * 4 + 2) = []) ∨
    ∃ j r x u, (j = k * 4 ∨ j = k * 4 + 2) ∧ L j = r ++ [x] ∧ ctakeV L k = (x, u, true) ∧ ctakeL L k = upd L j r := by
  by_cases h0 : L (k * 4) = []
  · by_cases h2 : L (k * 4 + 2) = []
    · exact .inl ⟨by simp [ctakeV, h0, h2], by simp [ctakeL, h0, h2], h0, h2⟩
    · obtain ⟨r, x, hx⟩ := clast_eq h2
      exact .inr ⟨k * 4 + 2, r, x, true, .inr rfl, hx, by simp [ctakeV, h0, hx], by simp [ctakeL, h0, hx]⟩
  · obtain ⟨r, x, hx⟩ := clast_eq h0
    exact .inr ⟨k * 4, r, x, false, .inl rfl, hx, by simp [ctakeV, hx], by simp [ctakeL, hx]⟩

end Go.Proofs.Ytjjbcfbljnekgaa
