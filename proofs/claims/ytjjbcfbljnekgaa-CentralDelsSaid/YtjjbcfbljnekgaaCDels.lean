/-
  treadmilllaw8.CentralDels: the walk.
-/
import Derived.Test.YtjjbcfbljnekgaaCLaw
namespace Go.Proofs.Ytjjbcfbljnekgaa
open Go.RowKit

/-- The ids below m of class c. -/
def dl (m c : Nat) : List Int := (if c < m then [(c : Int)] else []) ++ (if c + 16 < m then [((c + 16 : Nat) : Int)] else [])
/-- The ids below m, in the rows t. -/
def dT (t m : Nat) : Nat → List Int := fun j => if j % 4 = t then dl m (j / 4) else []
theorem mem_dl {m c : Nat} {y : Int} : y ∈ dl m c ↔ (y = c ∧ c < m) ∨ (y = ((c + 16 : Nat) : Int) ∧ c + 16 < m) := by
  unfold dl
  by_cases h1 : c < m <;> by_cases h2 : c + 16 < m <;> simp [h1, h2]
theorem dl_nodup (m c : Nat) : (dl m c).Nodup := by
  unfold dl
  by_cases h1 : c < m <;> by_cases h2 : c + 16 < m <;> simp [h1, h2] <;> omega
theorem dl_len (m c : Nat) : (dl m c).length ≤ 2 := by
  unfold dl
  by_cases h1 : c < m <;> by_cases h2 : c + 16 < m <;> simp [h1, h2]
theorem mem_dT {t m j : Nat} {y : Int} : y ∈ dT t m j ↔ j % 4 = t ∧ ((y = (j / 4 : Nat) ∧ j / 4 < m) ∨ (y = ((j / 4 + 16 : Nat) : Int) ∧ j / 4 + 16 < m)) := by
  unfold dT
  by_cases h : j % 4 = t
  · simp only [h, if_true, true_and]; exact mem_dl
  · simp [h]
theorem dT_small (t m : Nat) : Small (dT t m) := fun i _ => by
  unfold dT
  by_cases h : i % 4 = t
  · rw [if_pos h]; have := dl_len m (i / 4); omega
  · rw [if_neg h]; simp
theorem dT_zero (t : Nat) (i : Nat) : dT t 0 i = [] := by unfold dT dl; simp
theorem dl_succ {m : Nat} (hm : m < 32) : dl m (m % 16) ++ [(m : Int)] = dl (m + 1) (m % 16) := by
  unfold dl
  by_cases h : m < 16
  · have e : m % 16 = m := by omega
    rw [e, if_neg (by omega), if_neg (by omega), if_pos (by omega), if_neg (by omega)]
    rfl
  · have e : m % 16 = m - 16 := by omega
    rw [e, if_pos (by omega), if_neg (by omega), if_pos (by omega), if_pos (by omega)]
    have e2 : m - 16 + 16 = m := by omega
    rw [e2]; simp
theorem dl_other {m c : Nat} (_hm : m < 32) (hc : c < 16) (h : c ≠ m % 16) : dl m c = dl (m + 1) c := by
  unfold dl
  have e1 : (c < m) ↔ (c < m + 1) := by omega
  have e2 : (c + 16 < m) ↔ (c + 16 < m + 1) := by omega
  simp only [e1, e2]
theorem dT_succ {t m : Nat} (ht : t < 4) (hm : m < 32) (i : Nat) (hi : i < 64) : upd (dT t m) (m % 16 * 4 + t) (dT t m (m % 16 * 4 + t) ++ [(m : Int)]) i = dT t (m + 1) i := by
  have e0 : (m % 16 * 4 + t) % 4 = t := by omega
  have e1 : (m % 16 * 4 + t) / 4 = m % 16 := by omega
  by_cases e : i = m % 16 * 4 + t
  · subst e
    rw [upd_same]
    unfold dT
    rw [if_pos e0, if_pos e0, e1, dl_succ hm]
  · rw [upd_ne _ _ e]
    unfold dT
    by_cases h : i % 4 = t
    · rw [if_pos h, if_pos h]
      exact dl_other hm (by omega) (by omega)
    · rw [if_neg h, if_neg h]
theorem dT_new (t m : Nat) (j : Nat) (_hj : j < 64) : (m : Int) ∉ dT t m j := by
  rw [mem_dT]; omega
theorem dT_begin {s m : Nat} (hs : s < 2) (i : Nat) (hi : i < 64) : cbegL (dT s m) i = dT (s + 2) m i := by
  unfold cbegL cbegN
  rw [if_pos (by omega)]
  unfold dT
  by_cases h : i % 4 < 2
  · rw [if_pos h, if_neg (by omega)]
  · rw [if_neg h]
    by_cases h2 : i % 4 = s + 2
    · rw [if_neg (by omega), if_pos (by omega), if_pos h2]
      have : (i - 2) / 4 = i / 4 := by omega
      rw [this]; rfl
    · rw [if_neg (by omega), if_neg (by omega), if_neg h2]; rfl
/-- x taken out. -/
def dX (t m x : Nat) : Nat → List Int := upd (dT t m) (x % 16 * 4 + t) ((dT t m (x % 16 * 4 + t)).erase x)
theorem dT_yes {t m x : Nat} (ht : t < 4) (hx : x < m) (hm : m < 32) : (x : Int) ∈ dT t m (x % 16 * 4 + t) ∧ ∀ j, j < x % 16 * 4 + t → (x : Int) ∉ dT t m j := by
  refine ⟨mem_dT.2 ⟨by omega, by omega⟩, fun j hj => ?_⟩
  rw [mem_dT]; omega
theorem dX_small (t m x : Nat) : Small (dX t m x) := (dT_small t m).upd (Nat.le_trans (List.erase_sublist ..).length_le (by
  unfold dT
  split
  · have := dl_len m ((x % 16 * 4 + t) / 4); omega
  · simp))
theorem dX_short (t m x i : Nat) : (dX t m x i).length ≤ 2 := by
  have h : ∀ j, (dT t m j).length ≤ 2 := fun j => by
    unfold dT
    split
    · exact dl_len _ _
    · simp
  exact upd_len (Nat.le_trans (List.erase_sublist ..).length_le (h _)) (h i)
theorem dX_not {t m x : Nat} (ht : t < 4) (hx : x < m) (hm : m < 32) (j : Nat) (hj : j < 64) : (x : Int) ∉ dX t m x j := by
  by_cases e : j = x % 16 * 4 + t
  · subst e
    rw [dX, upd_same]
    refine List.Nodup.not_mem_erase ?_
    unfold dT
    split
    · exact dl_nodup _ _
    · exact List.nodup_nil
  · rw [dX, upd_ne _ _ e, mem_dT]; omega
theorem dX_big {t m x : Nat} (y : Nat) (hy : m ≤ y) (j : Nat) (hj : j < 64) : (y : Int) ∉ dX t m x j := by
  by_cases e : j = x % 16 * 4 + t
  · subst e
    rw [dX, upd_same]
    intro h
    have := List.mem_of_mem_erase h
    rw [mem_dT] at this
    omega
  · rw [dX, upd_ne _ _ e, mem_dT]; omega
theorem dX_un0 : ∀ t, t < 2 → ∀ m x, cun (dX t m x) 16 = 0 := by
  intro t ht m x
  have key : ∀ k, k ≤ 16 → cun (dX t m x) k = 0 := by
    intro k
    induction k with
    | zero => intro _; rfl
    | succ k ih =>
      intro hk
      have z : ∀ j, 2 ≤ j % 4 → dX t m x j = [] := fun j hj => by
        rw [dX, upd_ne _ _ (by omega)]
        unfold dT
        rw [if_neg (by omega)]
      rw [cun, ih (by omega), z _ (by omega), z _ (by omega)]
      rfl
  exact key 16 (by omega)
theorem dX_un2 : ∀ s, s < 2 → ∀ m, m < 21 → ∀ x, x < m → cun (dX (s + 2) m x) 16 = m - 1 := by decide +kernel

theorem upd_back (Q : Nat → List Int) (k : Nat) (l : List Int) (i : Nat) : upd (upd Q k l) k (Q k) i = Q i := by
  by_cases e : i = k
  · subst e; rw [upd_same]
  · rw [upd_ne _ _ e, upd_ne _ _ e]
theorem rem16 {i : Int} {m : Nat} (h : i = (m : Int)) : i % 16 = ((m % 16 : Nat) : Int) := by omega

set_option maxHeartbeats 2000000 in
set_option maxRecDepth 100000 in
theorem cdels_true (n which : Int) (full begin' : Bool) (w : World) : Calls Try.prog 9 #[.int .i64 n, .int .i64 which, .bool full, .bool begin'] w fun e w' => e = .returned (.bool true) ∧ Mod (fun _ => False) w w' := by
  obtain ⟨k0, hk, ek⟩ := umod n 20 (by omega)
  have ek' : (IntKind.u64.wrap n).tmod 20 = (k0 : Int) := ek
  obtain ⟨x, hx, ex⟩ := umod which (1 + k0) (by omega)
  have ex' : (IntKind.u64.wrap which).tmod (1 + (k0 : Int)) = (x : Int) := by
    rw [show (1 : Int) + (k0 : Int) = ((1 + k0 : Nat) : Int) by omega]; exact ex
  obtain ⟨s, hs⟩ : ∃ s, s = slot full := ⟨_, rfl⟩
  have hs2 : s < 2 := by rw [hs]; cases full <;> decide
  have HS := Lib.hid hs
  clear ek ex hs
  go_enter Try.func9, Try.ntmps9
  go_wp2_with fail
  refine (cf_new w).mono ?_
  rintro e w1 ⟨z, b, rfl, h1⟩
  go_wp2_with fail
  clear ek'
  go_loopw [11] (fun i wr => ∃ m : Nat, m ≤ k0 + 1 ∧ i = .int .i64 m ∧ CF w wr z b (dT s m)) (fun i _ => k0 + 1 - (intOf i).toNat)
  case atStart => exact ⟨0, by omega, rfl, h1.congr (fun i _ => (dT_zero s i).symm)⟩
  case round =>
    clear h1
    obtain ⟨m, hm, rfl, h⟩ := hrel
    by_cases hm2 : m < k0 + 1
    · have hd : decide ((m : Int) < 1 + (k0 : Int)) = true := decide_eq_true (by omega)
      go_wp2_with fail
      rw [rem16 (m := m) rfl]
      have hp := cf_putnew h (m % 16) full (m : Int) (by omega) (dT_small s m) (dT_new s m)
      rw [← HS.out] at hp
      refine hp.mono ?_
      rintro e w2 ⟨rfl, h2⟩
      have h3 := h2.congr (dT_succ (t := s) (m := m) (by omega) (by omega))
      clear hp h h2 hd
      go_wp2
      go_roundw
      case rel => exact ⟨m + 1, by omega, by go_num, h3⟩
      case measure => simp [intOf]; omega
    · have hd : decide ((m : Int) < 1 + (k0 : Int)) = false := decide_eq_false (by omega)
      have hm3 : m = k0 + 1 := by omega
      rw [hm3] at h
      clear hm3
      cases begin'
      · go_wp2_with fail
        have hsub : (1 + (k0 : Int)) - 1 = (k0 : Int) := by omega
        have hy := dT_yes (t := s) (m := k0 + 1) (x := x) (by omega) (by omega) (by omega)
        have hn := dX_not (t := s) (m := k0 + 1) (x := x) (by omega) (by omega) (by omega)
        have hbig := dX_big (t := s) (m := k0 + 1) (x := x) (k0 + 8) (by omega)
        have hsm := dX_small (s) (k0 + 1) x
        have hun := dX_un0 s hs2 (k0 + 1) x
        refine (cf_delyes h x (dT_small _ _) (x % 16 * 4 + (s)) (by omega) hy.1 hy.2).mono ?_
        rintro e w2 ⟨rfl, h2⟩
        have h2' : CF w w2 z b (dX (s) (k0 + 1) x) := h2
        clear h h2 hy
        have hsh := dX_short s (k0 + 1) x (x % 16 * 4)
        generalize hQ : dX (s) (k0 + 1) x = Q at *
        clear hQ
        go_wp2_with fail
        refine (cf_delno h2' x hsm hn).mono ?_
        rintro e w3 ⟨rfl, h3⟩
        go_wp2_with fail
        refine (cf_un h3 hsm (0) hun).mono ?_
        rintro e w4 ⟨rfl, h4⟩
        go_wp2_with fail
        rw [rem16 (m := x) rfl]
        refine (cf_putnew h4 (x % 16) false x (by omega) hsm hn).mono ?_
        rintro e w5 ⟨rfl, h5⟩
        have h5' : CF w w5 z b (upd Q (x % 16 * 4) (Q (x % 16 * 4) ++ [(x : Int)])) := h5
        have hs5 : Small (upd Q (x % 16 * 4) (Q (x % 16 * 4) ++ [(x : Int)])) := hsm.upd (by rw [List.length_append]; simp; omega)
        clear h5 h4 h3 h2'
        go_wp2_with fail
        rw [rem16 (m := x) rfl]
        refine (cf_take0 h5' (x % 16) (by omega) hs5 (Q (x % 16 * 4)) x (upd_same _ _ _)).mono ?_
        rintro e w6 ⟨rfl, h6⟩
        have h6' : CF w w6 z b Q := h6.congr (fun i _ => upd_back Q _ _ i)
        clear h6 h5' hs5
        go_wp2_with fail
        refine (cf_takenil h6' 0).mono ?_
        rintro e w7 ⟨rfl, h7⟩
        go_wp2_with fail
        refine (cf_told h7).mono ?_
        rintro e w8 ⟨rfl, h8⟩
        go_wp2_with fail
        refine (cf_delno h8 x hsm hn).mono ?_
        rintro e w9 ⟨rfl, h9⟩
        go_wp2_with fail
        refine (cf_delno h9 (1 + (k0 : Int) + 7) hsm (fun j hj => by rw [show (1 : Int) + (k0 : Int) + 7 = ((k0 + 8 : Nat) : Int) by omega]; exact hbig j hj)).mono ?_
        rintro e w10 ⟨rfl, h10⟩
        go_wp2_with fail
        refine (cf_unnil h10).mono ?_
        rintro e w11 ⟨rfl, h11⟩
        go_wp2_with fail
        refine (cf_delnil h11 0).mono ?_
        rintro e w12 ⟨rfl, h12⟩
        go_wp2
        go_ret
        exact ⟨rfl, h12.mod⟩
      · go_wp2_with fail
        refine (cf_begin h (dT_small _ _)).mono ?_
        rintro e w1 ⟨rfl, hb⟩
        have h := hb.congr (dT_begin (s := s) (m := k0 + 1) hs2)
        clear hb
        go_wp2_with fail
        have hsub : (1 + (k0 : Int)) - 1 = (k0 : Int) := by omega
        have hy := dT_yes (t := s + 2) (m := k0 + 1) (x := x) (by omega) (by omega) (by omega)
        have hn := dX_not (t := s + 2) (m := k0 + 1) (x := x) (by omega) (by omega) (by omega)
        have hbig := dX_big (t := s + 2) (m := k0 + 1) (x := x) (k0 + 8) (by omega)
        have hsm := dX_small (s + 2) (k0 + 1) x
        have hun := dX_un2 s hs2 (k0 + 1) (by omega) x (by omega)
        refine (cf_delyes h x (dT_small _ _) (x % 16 * 4 + (s + 2)) (by omega) hy.1 hy.2).mono ?_
        rintro e w2 ⟨rfl, h2⟩
        have h2' : CF w w2 z b (dX (s + 2) (k0 + 1) x) := h2
        clear h h2 hy
        have hsh := dX_short (s + 2) (k0 + 1) x (x % 16 * 4)
        generalize hQ : dX (s + 2) (k0 + 1) x = Q at *
        clear hQ
        go_wp2_with fail
        refine (cf_delno h2' x hsm hn).mono ?_
        rintro e w3 ⟨rfl, h3⟩
        go_wp2_with fail
        refine (cf_un h3 hsm (k0) hun).mono ?_
        rintro e w4 ⟨rfl, h4⟩
        go_wp2_with fail
        rw [rem16 (m := x) rfl]
        refine (cf_putnew h4 (x % 16) false x (by omega) hsm hn).mono ?_
        rintro e w5 ⟨rfl, h5⟩
        have h5' : CF w w5 z b (upd Q (x % 16 * 4) (Q (x % 16 * 4) ++ [(x : Int)])) := h5
        have hs5 : Small (upd Q (x % 16 * 4) (Q (x % 16 * 4) ++ [(x : Int)])) := hsm.upd (by rw [List.length_append]; simp; omega)
        clear h5 h4 h3 h2'
        go_wp2_with fail
        rw [rem16 (m := x) rfl]
        refine (cf_take0 h5' (x % 16) (by omega) hs5 (Q (x % 16 * 4)) x (upd_same _ _ _)).mono ?_
        rintro e w6 ⟨rfl, h6⟩
        have h6' : CF w w6 z b Q := h6.congr (fun i _ => upd_back Q _ _ i)
        clear h6 h5' hs5
        go_wp2_with fail
        refine (cf_takenil h6' 0).mono ?_
        rintro e w7 ⟨rfl, h7⟩
        go_wp2_with fail
        refine (cf_told h7).mono ?_
        rintro e w8 ⟨rfl, h8⟩
        go_wp2_with fail
        refine (cf_delno h8 x hsm hn).mono ?_
        rintro e w9 ⟨rfl, h9⟩
        go_wp2_with fail
        refine (cf_delno h9 (1 + (k0 : Int) + 7) hsm (fun j hj => by rw [show (1 : Int) + (k0 : Int) + 7 = ((k0 + 8 : Nat) : Int) by omega]; exact hbig j hj)).mono ?_
        rintro e w10 ⟨rfl, h10⟩
        go_wp2_with fail
        refine (cf_unnil h10).mono ?_
        rintro e w11 ⟨rfl, h11⟩
        go_wp2_with fail
        refine (cf_delnil h11 0).mono ?_
        rintro e w12 ⟨rfl, h12⟩
        go_wp2
        go_ret
        exact ⟨rfl, h12.mod⟩

end Go.Proofs.Ytjjbcfbljnekgaa
