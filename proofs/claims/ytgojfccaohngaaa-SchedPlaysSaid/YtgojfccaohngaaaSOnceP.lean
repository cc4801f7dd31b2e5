/-
  What a scheduler holds, each once: plain facts for the law SchedOnce.
-/
import Derived.Test.YtgojfccaohngaaaSchL
namespace Go.Proofs.Ytgojfccaohngaaa
open Go.RowKit

/-- How often x stands in the rings of n Ps. -/
def cntR (R : Nat → RM) (x : Int) : Nat → Nat
  | 0 => 0
  | n + 1 => cntR R x n + (all2 (R n)).count x
def cnt (R : Nat → RM) (Q : List Int) (ps : Nat) (x : Int) : Nat := Q.count x + cntR R x ps
def tot (R : Nat → RM) (Q : List Int) (ps : Nat) : Nat := Q.length + sumR R ps

theorem cntR_upd (R : Nat → RM) (x : Int) (p : Nat) (v : RM) (n : Nat) (h : p < n) : cntR (upd R p v) x n + (all2 (R p)).count x = cntR R x n + (all2 v).count x := by
  induction n with
  | zero => omega
  | succ n ih =>
    simp only [cntR]
    by_cases e : p = n
    · subst e
      have e2 : ∀ m, m ≤ p → cntR (upd R p v) x m = cntR R x m := by
        intro m hm
        induction m with
        | zero => rfl
        | succ m ihm => simp only [cntR]; rw [ihm (by omega), upd_ne _ _ (by omega)]
      rw [e2 p (Nat.le_refl _), upd_same]
      omega
    · rw [upd_ne _ _ (fun e2 => e e2.symm)]
      have := ih (by omega)
      omega
theorem sumR_upd (R : Nat → RM) (p : Nat) (v : RM) (n : Nat) (h : p < n) : sumR (upd R p v) n + len2 (R p) = sumR R n + len2 v := by
  induction n with
  | zero => omega
  | succ n ih =>
    simp only [sumR]
    by_cases e : p = n
    · subst e
      have e2 : ∀ m, m ≤ p → sumR (upd R p v) m = sumR R m := by
        intro m hm
        induction m with
        | zero => rfl
        | succ m ihm => simp only [sumR]; rw [ihm (by omega), upd_ne _ _ (by omega)]
      rw [e2 p (Nat.le_refl _), upd_same]
      omega
    · rw [upd_ne _ _ (fun e2 => e e2.symm)]
      have := ih (by omega)
      omega

theorem put2_count (A : RM) (g : Int) (next : Bool) (x : Int) : (all2 (put2 A g next)).count x + (over2 A g next).count x = (all2 A).count x + [g].count x := by
  obtain ⟨r, n⟩ := A
  have hsplit : ∀ l : List Int, (l.drop 128).count x + (l.take 128).count x = l.count x := by
    intro l
    conv => rhs; rw [← List.take_append_drop 128 l]
    rw [List.count_append]
    omega
  unfold put2 over2 rput rbehind all2
  cases next with
  | false =>
    by_cases h : r.length < 256
    · simp [h, List.count_append]; omega
    · have := hsplit r
      simp only [if_neg h, List.count_append]
      omega
  | true =>
    cases n with
    | none => simp [List.count_cons]
    | some y =>
      by_cases h : r.length < 256
      · simp [h, List.count_append, List.count_cons]
      · have := hsplit r
        simp only [if_neg h, List.count_append, Option.toList_some]
        omega
theorem put2_len (A : RM) (g : Int) (next : Bool) : len2 (put2 A g next) + (over2 A g next).length = len2 A + 1 := by
  have h : (all2 (put2 A g next) ++ over2 A g next).Perm (all2 A ++ [g]) := by
    rw [List.perm_iff_count]
    intro x
    rw [List.count_append, List.count_append]
    exact put2_count A g next x
  have := h.length_eq
  rw [List.length_append, List.length_append] at this
  exact this
theorem st_count (A B : RM) (x : Int) : (all2 (stA A B)).count x + (all2 (stB A B)).count x = (all2 A).count x + (all2 B).count x := by
  obtain ⟨r, n⟩ := A
  obtain ⟨s, m⟩ := B
  have key : ∀ k : Nat, (n.toList ++ (r ++ s.take k)).count x + (m.toList ++ s.drop k).count x = (n.toList ++ r).count x + (m.toList ++ s).count x := by
    intro k
    have : s.count x = (s.take k).count x + (s.drop k).count x := by
      conv => lhs; rw [← List.take_append_drop k s]
      rw [List.count_append]
    simp only [List.count_append]
    omega
  unfold stA stB all2 rsteal
  cases s with
  | nil =>
    cases m with
    | none => simp
    | some g =>
      by_cases h : r.length < 256
      · simp [h, List.count_append]; omega
      · simp [h]
  | cons y s => exact key _
theorem st_len (A B : RM) : len2 (stA A B) + len2 (stB A B) = len2 A + len2 B := by
  have h : (all2 (stA A B) ++ all2 (stB A B)).Perm (all2 A ++ all2 B) := by
    rw [List.perm_iff_count]
    intro x
    rw [List.count_append, List.count_append]
    exact st_count A B x
  have := h.length_eq
  rw [List.length_append, List.length_append] at this
  exact this

theorem ready_cnt (R : Nat → RM) (Q : List Int) (ps p : Nat) (hp : p < ps) (g : Int) (next : Bool) (x : Int) : cnt (ready R p g next) (readyQ R Q p g next) ps x = cnt R Q ps x + if x = g then 1 else 0 := by
  have h1 := cntR_upd R x p (put2 (R p) g next) ps hp
  have h2 := put2_count (R p) g next x
  have h3 : [g].count x = if x = g then 1 else 0 := by
    by_cases e : x = g
    · subst e; simp
    · rw [if_neg e, List.count_eq_zero]; simp [e]
  unfold cnt ready readyQ
  rw [List.count_append]
  omega
theorem ready_tot (R : Nat → RM) (Q : List Int) (ps p : Nat) (hp : p < ps) (g : Int) (next : Bool) : tot (ready R p g next) (readyQ R Q p g next) ps = tot R Q ps + 1 := by
  have h1 := sumR_upd R p (put2 (R p) g next) ps hp
  have h2 := put2_len (R p) g next
  unfold tot ready readyQ
  rw [List.length_append]
  omega

theorem rget_no (E : RM) (h : (rget E.1 E.2).1.2 = false) : E = ([], none) := by
  obtain ⟨r, n⟩ := E
  cases n with
  | some g => simp [rget] at h
  | none =>
    cases r with
    | nil => rfl
    | cons x l => simp [rget] at h
theorem rget_yes (E : RM) (h : (rget E.1 E.2).1.2 = true) : all2 E = (rget E.1 E.2).1.1 :: all2 (get2 E) := by
  obtain ⟨r, n⟩ := E
  cases n with
  | some g => rfl
  | none =>
    cases r with
    | nil => simp [rget] at h
    | cons x l => rfl
theorem st_no (B : RM) (h : stA ([], none) B = ([], none)) : B = ([], none) := by
  obtain ⟨s, m⟩ := B
  cases s with
  | nil =>
    cases m with
    | none => rfl
    | some g => simp [stA, rsteal] at h
  | cons y s =>
    exfalso
    have e : stA ([], none) (y :: s, m) = ([] ++ (y :: s).take (min ((y :: s).length - (y :: s).length / 2) (256 - ([] : List Int).length)), none) := rfl
    rw [e] at h
    have h2 : ((y :: s).take (min ((y :: s).length - (y :: s).length / 2) (256 - ([] : List Int).length))).length = 0 := by
      injection h with h1
      rw [List.nil_append] at h1
      rw [h1]; rfl
    rw [List.length_take] at h2
    simp only [List.length_cons, List.length_nil] at h2
    omega

/-- A pick that gives nobody: there was nobody. -/
theorem pick_no (R : Nat → RM) (Q : List Int) (ps p : Nat) (tick v : Int) (h : (pickM R Q ps p tick v).1.2 = false) :
    pickM R Q ps p tick v = ((0, false), R, Q) ∧ Q = [] ∧ R p = ([], none) ∧ ∀ n : Nat, v = n → n < ps → n ≠ p → R n = ([], none) := by
  by_cases hf : Fair tick Q
  · unfold pickM at h; rw [if_pos hf] at h; cases h
  · cases hx : all2 (R p) with
    | cons x T => unfold pickM at h; rw [if_neg hf, hx] at h; cases h
    | nil =>
      have hR := all2_nil hx
      cases Q with
      | cons x L => unfold pickM at h; rw [if_neg hf, hx] at h; cases h
      | nil =>
        by_cases hv : 0 ≤ v ∧ v < ps ∧ ¬ v = p
        · obtain ⟨n, rfl⟩ := Int.eq_ofNat_of_zero_le hv.1
          have e := pickM_steal R ps p tick n hR (by omega) (by omega)
          have h' := h
          rw [e] at h'
          have e1 := rget_no _ h'
          have e2 : R n = ([], none) := by rw [hR] at e1; exact st_no _ e1
          have e3 : getR (stealR R p n) p = R := by
            funext i
            have e4 : stB (R p) (R n) = ([], none) := by rw [hR, e2]; rfl
            unfold getR
            by_cases e : i = p
            · rw [e, upd_same, stealR_p (by omega), e1, hR]; rfl
            · rw [upd_ne _ _ e]
              unfold stealR
              by_cases e5 : i = n
              · rw [e5, upd_same, e4, e2]
              · rw [upd_ne _ _ e5, upd_ne _ _ e]
          refine ⟨?_, rfl, hR, fun m hm _ _ => ?_⟩
          · rw [e, e3, e1]; rfl
          · have : m = n := by omega
            rw [this]; exact e2
        · refine ⟨pickM_none R ps p tick v hR hv, rfl, hR, fun m hm hm2 hm3 => ?_⟩
          exfalso
          apply hv
          omega
/-- A pick that gives g: g is gone, all others are left. -/
theorem pick_yes (R : Nat → RM) (Q : List Int) (ps p : Nat) (hp : p < ps) (tick v : Int) (h : (pickM R Q ps p tick v).1.2 = true) :
    (∀ x, cnt (pickM R Q ps p tick v).2.1 (pickM R Q ps p tick v).2.2 ps x + (if x = (pickM R Q ps p tick v).1.1 then 1 else 0) = cnt R Q ps x) ∧
      tot (pickM R Q ps p tick v).2.1 (pickM R Q ps p tick v).2.2 ps + 1 = tot R Q ps := by
  have h3 : ∀ x g : Int, [g].count x = if x = g then 1 else 0 := by
    intro x g
    by_cases e : x = g
    · subst e; simp
    · rw [if_neg e, List.count_eq_zero]; simp [e]
  have hc : ∀ (x g : Int) (l : List Int), (g :: l).count x = l.count x + if x = g then 1 else 0 := by
    intro x g l
    rw [← h3 x g, ← List.singleton_append, List.count_append]
    omega
  by_cases hf : Fair tick Q
  · cases Q with
    | nil => exact absurd rfl hf.2.2
    | cons y L =>
      rw [pickM_fair R y L ps p tick v hf.1 hf.2.1]
      refine ⟨fun x => ?_, ?_⟩
      · simp only [cnt]
        rw [hc]
        omega
      · simp only [tot, List.length_cons]
        omega
  · cases hx : all2 (R p) with
    | cons y T =>
      have e : pickM R Q ps p tick v = ((y, true), getR R p, Q) := by unfold pickM; rw [if_neg hf, hx]
      have eg := get2_all hx
      rw [e]
      refine ⟨fun x => ?_, ?_⟩
      · have h1 := cntR_upd R x p (get2 (R p)) ps hp
        rw [hx, eg, hc] at h1
        simp only [cnt, getR]
        omega
      · have h1 := sumR_upd R p (get2 (R p)) ps hp
        rw [← all2_len, ← all2_len, hx, eg, List.length_cons] at h1
        simp only [tot, getR]
        omega
    | nil =>
      have hR := all2_nil hx
      cases Q with
      | cons y L =>
        have e : pickM R (y :: L) ps p tick v = ((y, true), upd R p (((y :: L).take (qtake (y :: L).length ps 64)).tail, none), (y :: L).drop (qtake (y :: L).length ps 64)) := by unfold pickM; rw [if_neg hf, hx]
        rw [e]
        have hN := qtake_pos (y :: L).length ps (by simp)
        generalize qtake (y :: L).length ps 64 = N at hN ⊢
        obtain ⟨k, rfl⟩ : ∃ k, N = k + 1 := ⟨N - 1, by omega⟩
        have e3 : all2 (L.take k, (none : Option Int)) = L.take k := rfl
        simp only [List.take_succ_cons, List.tail_cons, List.drop_succ_cons]
        refine ⟨fun x => ?_, ?_⟩
        · have h1 := cntR_upd R x p (L.take k, none) ps hp
          rw [hx, e3, List.count_nil] at h1
          have h4 : L.count x = (L.take k).count x + (L.drop k).count x := by
            conv => lhs; rw [← List.take_append_drop k L]
            rw [List.count_append]
          simp only [cnt]
          rw [hc]
          omega
        · have h1 := sumR_upd R p (L.take k, none) ps hp
          rw [← all2_len, ← all2_len, hx, e3, List.length_nil] at h1
          have h4 : L.length = (L.take k).length + (L.drop k).length := by
            conv => lhs; rw [← List.take_append_drop k L]
            rw [List.length_append]
          simp only [tot, List.length_cons]
          omega
      | nil =>
        by_cases hv : 0 ≤ v ∧ v < ps ∧ ¬ v = p
        · obtain ⟨n, rfl⟩ := Int.eq_ofNat_of_zero_le hv.1
          have e := pickM_steal R ps p tick n hR (by omega) (by omega)
          have hne : p ≠ n := by omega
          rw [e] at h ⊢
          have ey := rget_yes _ h
          have sp : stealR R p n p = stA (R p) (R n) := stealR_p hne
          have un : (upd R p (stA (R p) (R n))) n = R n := upd_ne _ _ (by omega)
          refine ⟨fun x => ?_, ?_⟩
          · have h1 := cntR_upd (stealR R p n) x p (get2 (stealR R p n p)) ps hp
            have h2 := cntR_upd (upd R p (stA (R p) (R n))) x n (stB (R p) (R n)) ps (by omega)
            have h4 := cntR_upd R x p (stA (R p) (R n)) ps hp
            have h5 := st_count (R p) (R n) x
            rw [sp, ey, hc] at h1
            rw [un] at h2
            have h6 : cntR (stealR R p n) x ps = cntR (upd (upd R p (stA (R p) (R n))) n (stB (R p) (R n))) x ps := rfl
            simp only [cnt, getR]
            rw [sp] 
            rw [ey, hc] at h4 h5
            omega
          · have h1 := sumR_upd (stealR R p n) p (get2 (stealR R p n p)) ps hp
            have h2 := sumR_upd (upd R p (stA (R p) (R n))) n (stB (R p) (R n)) ps (by omega)
            have h4 := sumR_upd R p (stA (R p) (R n)) ps hp
            have h5 := st_len (R p) (R n)
            have el : len2 (stA (R p) (R n)) = len2 (get2 (stA (R p) (R n))) + 1 := by rw [← all2_len, ey]; rfl
            rw [sp] at h1
            rw [un] at h2
            have h6 : sumR (stealR R p n) ps = sumR (upd (upd R p (stA (R p) (R n))) n (stB (R p) (R n))) ps := rfl
            simp only [tot, getR]
            rw [sp]
            omega
        · rw [pickM_none R ps p tick v hR hv] at h
          cases h

/-- What was made ready and not taken stands in one place; nothing else stands anywhere. -/
def Inv (R : Nat → RM) (Q : List Int) (ps i : Nat) (seen : Nat → Bool) : Prop :=
  (∀ j : Nat, j < i → seen j = false → cnt R Q ps j = 1) ∧ (∀ x : Int, 0 < cnt R Q ps x → ∃ j : Nat, x = j ∧ j < i ∧ seen j = false) ∧ ∀ j, i ≤ j → seen j = false
theorem Inv.ready {R : Nat → RM} {Q : List Int} {ps i : Nat} {seen : Nat → Bool} (h : Inv R Q ps i seen) {p : Nat} (hp : p < ps) (next : Bool) : Inv (ready R p i next) (readyQ R Q p i next) ps (i + 1) seen := by
  obtain ⟨h1, h2, h3⟩ := h
  have hi : cnt R Q ps i = 0 := by
    apply Nat.eq_zero_of_not_pos
    intro hpos
    obtain ⟨j, e, hj, _⟩ := h2 _ hpos
    omega
  refine ⟨fun j hj hs => ?_, fun x hx => ?_, fun j hj => h3 j (by omega)⟩
  · rw [ready_cnt R Q ps p hp]
    by_cases e : j = i
    · subst e; rw [hi, if_pos rfl]
    · rw [if_neg (by omega), h1 j (by omega) hs]
  · rw [ready_cnt R Q ps p hp] at hx
    by_cases e : x = i
    · exact ⟨i, e, by omega, h3 i (Nat.le_refl _)⟩
    · rw [if_neg e] at hx
      obtain ⟨j, e1, e2, e3⟩ := h2 x (by omega)
      exact ⟨j, e1, by omega, e3⟩
theorem Inv.pick {R : Nat → RM} {Q : List Int} {ps i : Nat} {seen : Nat → Bool} (h : Inv R Q ps i seen) {p : Nat} (hp : p < ps) (tick v : Int) (hok : (pickM R Q ps p tick v).1.2 = true) :
    ∃ j : Nat, (pickM R Q ps p tick v).1.1 = j ∧ j < i ∧ seen j = false ∧ Inv (pickM R Q ps p tick v).2.1 (pickM R Q ps p tick v).2.2 ps i (upd seen j true) := by
  obtain ⟨h1, h2, h3⟩ := h
  obtain ⟨hc, _⟩ := pick_yes R Q ps p hp tick v hok
  generalize (pickM R Q ps p tick v).1.1 = g at hc ⊢
  generalize (pickM R Q ps p tick v).2.1 = R' at hc ⊢
  generalize (pickM R Q ps p tick v).2.2 = Q' at hc ⊢
  have hg := hc g
  rw [if_pos rfl] at hg
  obtain ⟨j, rfl, hj, hs⟩ := h2 g (by omega)
  refine ⟨j, rfl, hj, hs, fun m hm hsm => ?_, fun x hx => ?_, fun m hm => ?_⟩
  · by_cases e : m = j
    · subst e; rw [upd_same] at hsm; cases hsm
    · rw [upd_ne _ _ e] at hsm
      have := hc m
      rw [if_neg (by omega), h1 m hm hsm] at this
      omega
  · have hcx := hc x
    obtain ⟨m, e1, e2, e3⟩ := h2 x (by omega)
    refine ⟨m, e1, e2, ?_⟩
    have hne : m ≠ j := by
      rintro rfl
      rw [e1, if_pos rfl, h1 m e2 e3] at hcx
      rw [e1] at hx
      omega
    rw [upd_ne _ _ hne]
    exact e3
  · rw [upd_ne _ _ (by omega)]
    exact h3 m hm
theorem sumR_pos {R : Nat → RM} {n : Nat} (h : 0 < sumR R n) : ∃ i, i < n ∧ R i ≠ ([], none) := by
  induction n with
  | zero => simp [sumR] at h
  | succ n ih =>
    simp only [sumR] at h
    by_cases e : R n = ([], none)
    · rw [e] at h
      obtain ⟨i, hi, hr⟩ := ih (by simpa [len2] using h)
      exact ⟨i, by omega, hr⟩
    · exact ⟨n, by omega, e⟩

/-- The picks behind the last that gave somebody. -/
def Fails (R : Nat → RM) (Q : List Int) (ps i f : Nat) : Prop :=
  f ≤ i ∧ (0 < f → Q = [] ∧ R 0 = ([], none) ∧ ∀ t, i - f ≤ t → t < i → 1 + t % max (ps - 1) 1 < ps → R (1 + t % max (ps - 1) 1) = ([], none))
theorem Fails.few {R : Nat → RM} {Q : List Int} {ps i f : Nat} (h : Fails R Q ps i f) (hps : 1 ≤ ps) (ht : 0 < tot R Q ps) : f < max (ps - 1) 1 := by
  obtain ⟨h1, h2⟩ := h
  apply Nat.lt_of_not_le
  intro hge
  obtain ⟨hQ, h0, hv⟩ := h2 (by omega)
  unfold tot at ht
  rw [hQ] at ht
  obtain ⟨m, hm, hr⟩ := sumR_pos (R := R) (n := ps) (by simpa using ht)
  obtain ⟨q, hq⟩ : ∃ q, q = max (ps - 1) 1 := ⟨_, rfl⟩
  rw [← hq] at hv hge
  apply hr
  by_cases hm0 : m = 0
  · rw [hm0]; exact h0
  · -- a t among the last q with 1 + t % q = m
    have hmq : m - 1 < q := by omega
    have hq0 : 0 < q := by omega
    have key : ∃ t, i - q ≤ t ∧ t < i ∧ t % q = m - 1 := by
      have hiq : q ≤ i := by omega
      by_cases hlt : m - 1 < i % q
      · refine ⟨i - i % q + (m - 1), ?_, ?_, ?_⟩
        · have := Nat.mod_lt i hq0; omega
        · have := Nat.mod_le i q; omega
        · have e : i - i % q = q * (i / q) := by have := Nat.div_add_mod i q; omega
          rw [e, Nat.mul_add_mod, Nat.mod_eq_of_lt hmq]
      · have hd : 1 ≤ i / q := (Nat.one_le_div_iff hq0).2 hiq
        refine ⟨q * (i / q - 1) + (m - 1), ?_, ?_, ?_⟩
        · have e1 := Nat.div_add_mod i q
          have e2 : q * (i / q - 1) = q * (i / q) - q := by rw [Nat.mul_sub, Nat.mul_one]
          have e3 : q ≤ q * (i / q) := Nat.le_mul_of_pos_right q hd
          omega
        · have e1 := Nat.div_add_mod i q
          have e2 : q * (i / q - 1) = q * (i / q) - q := by rw [Nat.mul_sub, Nat.mul_one]
          have e3 : q ≤ q * (i / q) := Nat.le_mul_of_pos_right q hd
          omega
        · rw [Nat.mul_add_mod, Nat.mod_eq_of_lt hmq]
    obtain ⟨t, t1, t2, t3⟩ := key
    have := hv t (by omega) t2 (by rw [t3]; omega)
    rw [t3] at this
    have e : 1 + (m - 1) = m := by omega
    rw [e] at this
    exact this
theorem Fails.zero (R : Nat → RM) (Q : List Int) (ps i : Nat) : Fails R Q ps i 0 := ⟨Nat.zero_le _, fun h => by omega⟩
theorem Fails.more {R : Nat → RM} {Q : List Int} {ps i f : Nat} (h : Fails R Q ps i f) (hQ : Q = []) (h0 : R 0 = ([], none)) (hv : 1 + i % max (ps - 1) 1 < ps → R (1 + i % max (ps - 1) 1) = ([], none)) : Fails R Q ps (i + 1) (f + 1) := by
  obtain ⟨h1, h2⟩ := h
  refine ⟨by omega, fun _ => ⟨hQ, h0, fun t t1 t2 t3 => ?_⟩⟩
  by_cases e : t = i
  · subst e; exact hv t3
  · exact (h2 (by omega)).2.2 t (by omega) (by omega) t3

end Go.Proofs.Ytgojfccaohngaaa
