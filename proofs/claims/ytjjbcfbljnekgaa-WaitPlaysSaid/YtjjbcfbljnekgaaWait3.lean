/-
  The contracts of package wait, third part: Del; the waits as a law uses them.
-/
import Derived.Test.YtjjbcfbljnekgaaWTold
import Derived.Test.YtjjbcfbljnekgaaConcat
import Derived.Deep.RegionHeld3
import Derived.IntWalk
set_option linter.unusedSimpArgs false
namespace Go.Proofs.Ytjjbcfbljnekgaa
open Go.RowKit

set_option maxRecDepth 100000 in
theorem wfind_first (b : Nat) (o : Nat → Option Nat) (L : Nat → List Int) (g : Int) (w : World) (h : Waits w b o L) (hl : ∀ i, i < 32 → (L i).length ≤ 900000) :
    Calls Try.prog 56 #[.pointer (some ⟨b, 0, none⟩), .int .i64 g] w fun e w' => ∃ r, e = .returned (.int .i64 r) ∧ ((r = -1 ∧ ∀ i, i < 32 → ¬ g ∈ L i) ∨ ∃ k : Nat, k < 32 ∧ r = k ∧ g ∈ L k ∧ ∀ j, j < k → ¬ g ∈ L j) ∧ w' = w := by
  obtain ⟨A, n, c, hr, hown, hd⟩ := h
  obtain ⟨cs, hh, hsz, hcs⟩ := hr
  go_enter Try.func56, Try.ntmps56
  go_wp2_with (refine wpList_load_row rfl 56 _ rfl b rfl 87 cs (0, 0) _ hh Try.underlying56 rfl (by rw [hsz]; exact size56) ?_)
  go_loop [11] (fun i => ∃ k : Nat, k ≤ 32 ∧ i = .int .i64 k ∧ ∀ j, j < k → ¬ g ∈ L j) (fun i => 32 - (intOf i).toNat)
  case atStart => exact ⟨0, by omega, rfl, fun j hj => by omega⟩
  case round =>
    obtain ⟨k, hk, rfl, hno⟩ := hrel
    by_cases hk2 : k < 32
    · have hidx : ∀ W, (Instr.index 56 (.agg cs) (.int .i64 (k : Int))).run Try.prog W = .ok (.slice (A k) (n k) (c k)) W := fun W => run_index_arr W 56 35 3 32 cs k _ Try.underlying56 Try.underlying35 hk2 hsz (hcs k hk2) size35
      have hlk := (hown k hk2).1.isL
      have hnk := hl k hk2
      rw [hlk.len] at hnk
      by_cases hm : g ∈ L k
      · have hd : decide (g ∈ L k) = true := decide_eq_true hm
        have HD := Lib.hid hd
        have HNO := Lib.hid hno
        clear hd hno
        go_wp2_with fail
        refine (contains_any _ _ _ _ g _ hlk hnk).mono ?_
        rintro e w2 ⟨rfl, rfl⟩
        rw [HD.out]
        go_wp2
        go_ret
        exact ⟨k, rfl, .inr ⟨k, hk2, rfl, hm, HNO.out⟩, rfl⟩
      · have hd : decide (g ∈ L k) = false := decide_eq_false hm
        have HD := Lib.hid hd
        clear hd
        go_wp2_with fail
        refine (contains_any _ _ _ _ g _ hlk hnk).mono ?_
        rintro e w2 ⟨rfl, rfl⟩
        rw [HD.out]
        go_wp2
        go_round
        case rel => exact ⟨k + 1, by omega, by go_num, fun j hj => by
          by_cases e : j = k
          · rw [e]; exact hm
          · exact hno j (by omega)⟩
        case measure => simp [intOf]; omega
    · have hk3 : k = 32 := by omega
      rw [hk3] at hno
      have HN := Lib.hid hno
      clear hk3 hno
      go_wp2
      go_ret
      exact ⟨-1, rfl, .inl ⟨rfl, HN.out⟩, rfl⟩

theorem lit2_0 (w : World) (v0 v1 : Value) (t : TypeId) : (w.alloc (.cells #[v0, v1] t)).cell? ⟨w.heap.size, 0, none⟩ = some v0 := by simp
theorem lit2_1 (w : World) (v0 v1 : Value) (t : TypeId) : (w.alloc (.cells #[v0, v1] t)).cell? ⟨w.heap.size, 1, none⟩ = some v1 := by simp
theorem lit2_0d (w : World) (v0 v1 : Value) (t : TypeId) : (w.alloc (.cells #[v0, v1] t)).drew.cell? ⟨w.heap.size, 0, none⟩ = some v0 := lit2_0 w v0 v1 t
theorem lit2_1d (w : World) (v0 v1 : Value) (t : TypeId) : (w.alloc (.cells #[v0, v1] t)).drew.cell? ⟨w.heap.size, 1, none⟩ = some v1 := lit2_1 w v0 v1 t
theorem IsL.drewL {w : World} {A : Option Addr} {n c : Nat} {l : List Int} (h : IsL w A n c l) : IsL w.drew A n c l := h.keep0 ((Mod.refl _ w).drew)

theorem wdel_no (b : Nat) (o : Nat → Option Nat) (L : Nat → List Int) (g : Int) (w : World) (h : Waits w b o L) (hl : ∀ i, i < 32 → (L i).length ≤ 400000) (hno : ∀ i, i < 32 → ¬ g ∈ L i) :
    Calls Try.prog 31 #[.pointer (some ⟨b, 0, none⟩), .int .i64 g] w fun e w' => e = .returned (.bool false) ∧ w' = w := by
  go_enter Try.func31, Try.ntmps31
  go_wp2_with fail
  refine (wfind_first b o L g _ h (fun i hi => by have := hl i hi; omega)).mono ?_
  rintro e w2 ⟨r, rfl, hr, hw2⟩
  obtain rfl := hw2.symm
  rcases hr with ⟨rfl, _⟩ | ⟨k, hk, rfl, hm, _⟩
  · go_wp2
    go_ret
    exact ⟨rfl, rfl⟩
  · exact absurd hm (hno k hk)

set_option maxHeartbeats 2000000 in
set_option maxRecDepth 100000 in
theorem wdel_yes (b : Nat) (o : Nat → Option Nat) (L : Nat → List Int) (g : Int) (k : Nat) (w : World) (h : Waits w b o L) (hl : ∀ i, i < 32 → (L i).length ≤ 400000) (hk : k < 32) (hm : g ∈ L k) (hno : ∀ j, j < k → ¬ g ∈ L j) :
    Calls Try.prog 31 #[.pointer (some ⟨b, 0, none⟩), .int .i64 g] w fun e w' => e = .returned (.bool true) ∧ ∃ x, Waits w' b (setF o k x) (setF L k ((L k).erase g)) ∧ (∀ i, x = some i → w.heap.size ≤ i) ∧ Mod (WS b o) w w' := by
  obtain ⟨A, n, c, hc, hown, hbl, hfz⟩ := h.cell hk
  have hblt := h.lt b (.inl rfl)
  have hln := hl k hk
  rw [hown.len] at hln
  go_enter Try.func31, Try.ntmps31
  go_wp2_with fail
  refine (wfind_first b o L g _ h (fun i hi => by have := hl i hi; omega)).mono ?_
  rintro e w2 ⟨r, rfl, hr, hw2⟩
  obtain rfl := hw2.symm
  rcases hr with ⟨_, hn⟩ | ⟨q, hq, rfl, hmq, hnoq⟩
  · exact absurd hm (hn k hk)
  have hqk : q = k := by
    rcases Nat.lt_trichotomy q k with h1 | h1 | h1
    · exact absurd hmq (hno q h1)
    · exact h1
    · exact absurd hm (hnoq k h1)
  obtain rfl := hqk.symm
  have hk0 : (0 : Int) ≤ (k : Int) := by omega
  have hk1 : (k : Int) < 32 := by omega
  clear hnoq hmq hqk hq
  go_wp2_with fail
  refine (index_any A n c _ g _ hown.isL (by omega)).mono ?_
  rintro e w2 ⟨r, rfl, hidx, hw2⟩
  obtain rfl := hw2.symm
  rcases hidx with ⟨_, hnm⟩ | ⟨p, hp, rfl, hny, hpx⟩
  · exact absurd hm hnm
  have HE := Lib.hid (erase_first _ hny hp hpx)
  rw [hown.len] at hp
  obtain ⟨A4, n4, c4, hcut, hL4, hblk4⟩ := cut_low (P := Try.prog) 35 Try.underlying35 int_info A n c (p + 1) (by omega)
  have hcut' : ∀ (W : World), (Instr.sliceAt 35 (.slice A n c) (some (.int .i64 ((p : Int) + 1))) none none).run Try.prog W = .ok (.slice A4 n4 c4) W := hcut
  have hr4 := hL4 _ _ hown.isL
  have hn4 : n4 = n - (p + 1) := by have := hr4.len; rw [List.length_drop, hown.len] at this; omega
  have hn4' : n4 ≤ 400000 := by omega
  have hrt := hown.isL.take (k := p) (by omega)
  have hcap := hown.isL.le
  have hcut2 := cut_high (P := Try.prog) 35 Try.underlying35 int_info A n c p (by omega)
  have hp0 : (0 : Int) ≤ (p : Int) := by omega
  have hwr : IntKind.i64.wrap ((p : Int) + 1) = (p : Int) + 1 := IntWalk.i64_in _ (by omega)
  clear hcut hpx hny hn4
  go_wp2
  refine wp_region_noPanic ?_
  refine wp_region_held_drew (S := fun _ => True) (by kernel_rfl) trivial (fun hHeld => ?_)
  (refine wpAnyH_take (i := 0) (v := ?_) rfl (by kernel_rfl) (by kernel_rfl) (by kernel_rfl) (fun _ _ _ h => h) (Or.inl ⟨by rfl, ?_⟩) (by assumption) ?_; rotate_left; focus (intro wq hSw; (try dsimp only at hSw); go_simp; try with_reducible rfl); try simp only [List.getElem_toArray, List.getElem_cons_succ, List.getElem_cons_zero, Act.put, List.setIfInBounds_toArray, List.set_cons_zero, List.set_cons_succ])
  (refine wpAnyH_take (i := 1) (v := ?_) rfl (by kernel_rfl) (by kernel_rfl) (by kernel_rfl) (fun _ _ _ h => h) (Or.inl ⟨by rfl, ?_⟩) (by assumption) ?_; rotate_left; focus (intro wq hSw; (try dsimp only at hSw); go_simp; try with_reducible rfl); try simp only [List.getElem_toArray, List.getElem_cons_succ, List.getElem_cons_zero, Act.put, List.setIfInBounds_toArray, List.set_cons_zero, List.set_cons_succ])
  (refine wpAnyH_take (i := 2) (v := ?_) rfl (by kernel_rfl) (by kernel_rfl) (by kernel_rfl) (fun _ _ _ h => h) (Or.inl ⟨by rfl, ?_⟩) (by assumption) ?_; rotate_left; focus (intro wq hSw; (try dsimp only at hSw); go_simp; try with_reducible rfl); try simp only [List.getElem_toArray, List.getElem_cons_succ, List.getElem_cons_zero, Act.put, List.setIfInBounds_toArray, List.set_cons_zero, List.set_cons_succ])
  (refine wpAnyH_take (i := 3) (v := ?_) rfl (by kernel_rfl) (by kernel_rfl) (by kernel_rfl) (fun _ _ _ h => h) (Or.inl ⟨by rfl, ?_⟩) (by assumption) ?_; rotate_left; focus (intro wq hSw; (try dsimp only at hSw); go_simp; try with_reducible rfl); try simp only [List.getElem_toArray, List.getElem_cons_succ, List.getElem_cons_zero, Act.put, List.setIfInBounds_toArray, List.set_cons_zero, List.set_cons_succ])
  (refine wpAnyH_take (i := 4) (v := ?_) rfl (by kernel_rfl) (by kernel_rfl) (by kernel_rfl) (fun _ _ _ h => h) (Or.inl ⟨by rfl, ?_⟩) (by assumption) ?_; rotate_left; focus (intro wq hSw; (try dsimp only at hSw); go_simp; try with_reducible rfl); try simp only [List.getElem_toArray, List.getElem_cons_succ, List.getElem_cons_zero, Act.put, List.setIfInBounds_toArray, List.set_cons_zero, List.set_cons_succ])
  (refine wpAnyH_take (i := 5) (v := ?_) rfl (by kernel_rfl) (by kernel_rfl) (by kernel_rfl) (fun _ _ _ h => h) (Or.inl ⟨by rfl, ?_⟩) (by assumption) ?_; rotate_left; focus (intro wq hSw; (try dsimp only at hSw); go_simp; try with_reducible rfl); try simp only [List.getElem_toArray, List.getElem_cons_succ, List.getElem_cons_zero, Act.put, List.setIfInBounds_toArray, List.set_cons_zero, List.set_cons_succ])
  (refine wpAnyH_take (i := 6) (v := ?_) rfl (by kernel_rfl) (by kernel_rfl) (by kernel_rfl) (fun _ _ _ h => h) (Or.inl ⟨by rfl, ?_⟩) (by assumption) ?_; rotate_left; focus (intro wq hSw; (try dsimp only at hSw); go_simp; try with_reducible rfl); try simp only [List.getElem_toArray, List.getElem_cons_succ, List.getElem_cons_zero, Act.put, List.setIfInBounds_toArray, List.set_cons_zero, List.set_cons_succ])
  (refine wpAnyH_take (i := 8) (v := ?_) rfl (by kernel_rfl) (by kernel_rfl) (by kernel_rfl) (fun _ _ _ h => h) (Or.inl ⟨by rfl, ?_⟩) (by assumption) ?_; rotate_left; focus (intro wq hSw; (try dsimp only at hSw); go_simp; try with_reducible rfl); try simp only [List.getElem_toArray, List.getElem_cons_succ, List.getElem_cons_zero, Act.put, List.setIfInBounds_toArray, List.set_cons_zero, List.set_cons_succ])
  (refine wpAnyH_take (i := 10) (v := ?_) rfl (by kernel_rfl) (by kernel_rfl) (by kernel_rfl) (fun _ _ _ h => h) (Or.inl ⟨by rfl, ?_⟩) (by assumption) ?_; rotate_left; focus (intro wq hSw; (try dsimp only at hSw); go_simp; try with_reducible rfl); try simp only [List.getElem_toArray, List.getElem_cons_succ, List.getElem_cons_zero, Act.put, List.setIfInBounds_toArray, List.set_cons_zero, List.set_cons_succ])
  (refine wpAnyH_take (i := 11) (v := ?_) rfl (by kernel_rfl) (by kernel_rfl) (by kernel_rfl) (fun _ _ _ h => h) (Or.inl ⟨by rfl, ?_⟩) (by assumption) ?_; rotate_left; focus (intro wq hSw; (try dsimp only at hSw); go_simp; try with_reducible rfl); try simp only [List.getElem_toArray, List.getElem_cons_succ, List.getElem_cons_zero, Act.put, List.setIfInBounds_toArray, List.set_cons_zero, List.set_cons_succ])
  (refine wpAnyH_take (i := 12) (v := ?_) rfl (by kernel_rfl) (by kernel_rfl) (by kernel_rfl) (fun _ _ _ h => h) (Or.inl ⟨by rfl, ?_⟩) (by assumption) ?_; rotate_left; focus (intro wq hSw; (try dsimp only at hSw); go_simp; try with_reducible rfl); try simp only [List.getElem_toArray, List.getElem_cons_succ, List.getElem_cons_zero, Act.put, List.setIfInBounds_toArray, List.set_cons_zero, List.set_cons_succ])
  (refine wpAnyH_take (i := 13) (v := ?_) rfl (by kernel_rfl) (by kernel_rfl) (by kernel_rfl) (fun _ _ _ h => h) (Or.inl ⟨by rfl, ?_⟩) (by assumption) ?_; rotate_left; focus (intro wq hSw; (try dsimp only at hSw); go_simp; try with_reducible rfl); try simp only [List.getElem_toArray, List.getElem_cons_succ, List.getElem_cons_zero, Act.put, List.setIfInBounds_toArray, List.set_cons_zero, List.set_cons_succ])
  (refine wpAnyH_take (i := 14) (v := ?_) rfl (by kernel_rfl) (by kernel_rfl) (by kernel_rfl) (fun _ _ _ h => h) (Or.inl ⟨by rfl, ?_⟩) (by assumption) ?_; rotate_left; focus (intro wq hSw; (try dsimp only at hSw); go_simp; try with_reducible rfl); try simp only [List.getElem_toArray, List.getElem_cons_succ, List.getElem_cons_zero, Act.put, List.setIfInBounds_toArray, List.set_cons_zero, List.set_cons_succ])
  (refine wpAnyH_take (i := 16) (v := ?_) rfl (by kernel_rfl) (by kernel_rfl) (by kernel_rfl) (fun _ _ _ h => h) (Or.inl ⟨by rfl, ?_⟩) (by assumption) ?_; rotate_left; focus (intro wq hSw; (try dsimp only at hSw); go_simp; try with_reducible rfl); try simp only [List.getElem_toArray, List.getElem_cons_succ, List.getElem_cons_zero, Act.put, List.setIfInBounds_toArray, List.set_cons_zero, List.set_cons_succ])
  (refine wpAnyH_take (i := 17) (v := ?_) rfl (by kernel_rfl) (by kernel_rfl) (by kernel_rfl) (fun _ _ _ h => h) (Or.inl ⟨by rfl, ?_⟩) (by assumption) ?_; rotate_left; focus (intro wq hSw; (try dsimp only at hSw); go_simp; try with_reducible rfl); try simp only [List.getElem_toArray, List.getElem_cons_succ, List.getElem_cons_zero, Act.put, List.setIfInBounds_toArray, List.set_cons_zero, List.set_cons_succ])
  (refine wpAnyH_take (i := 21) (v := ?_) rfl (by kernel_rfl) (by kernel_rfl) (by kernel_rfl) (fun _ _ _ h => h) (Or.inl ⟨by rfl, ?_⟩) (by assumption) ?_; rotate_left; focus (intro wq hSw; (try dsimp only at hSw); go_simp; try with_reducible rfl); try simp only [List.getElem_toArray, List.getElem_cons_succ, List.getElem_cons_zero, Act.put, List.setIfInBounds_toArray, List.set_cons_zero, List.set_cons_succ])
  (refine wpAnyH_take (i := 22) (v := ?_) rfl (by kernel_rfl) (by kernel_rfl) (by kernel_rfl) (fun _ _ _ h => h) (Or.inl ⟨by rfl, ?_⟩) (by assumption) ?_; rotate_left; focus (intro wq hSw; (try dsimp only at hSw); go_simp; try with_reducible rfl); try simp only [List.getElem_toArray, List.getElem_cons_succ, List.getElem_cons_zero, Act.put, List.setIfInBounds_toArray, List.set_cons_zero, List.set_cons_succ])
  refine wpAnyH_ready (rs := [7, 15]) (by kernel_rfl) (by simp) ?_
  refine AllReadyH.cons rfl (fun K hK => ?_) (AllReadyH.cons rfl (fun K hK => ?_) AllReadyH.nil)
  · go_simp
    refine hK.out _ _ trivial (fun hHeld => ?_)
    clear hK K
    try simp only [List.getElem_toArray, List.getElem_cons_succ, List.getElem_cons_zero, Act.put, List.setIfInBounds_toArray, List.set_cons_zero, List.set_cons_succ]
    (refine wpAnyH_take (i := 9) (v := ?_) rfl (by kernel_rfl) (by kernel_rfl) (by kernel_rfl) (fun _ _ _ h => h) (Or.inl ⟨by rfl, ?_⟩) (by assumption) ?_; rotate_left; focus (intro wq hSw; (try dsimp only at hSw); go_simp; try with_reducible rfl); try simp only [List.getElem_toArray, List.getElem_cons_succ, List.getElem_cons_zero, Act.put, List.setIfInBounds_toArray, List.set_cons_zero, List.set_cons_succ])
    refine wpAnyH_ready (rs := [15]) (by kernel_rfl) (by simp) ?_
    refine AllReadyH.cons rfl (fun K hK => ?_) AllReadyH.nil
    go_simp
    refine hK.out _ _ trivial (fun hHeld => ?_)
    clear hK K
    try simp only [List.getElem_toArray, List.getElem_cons_succ, List.getElem_cons_zero, Act.put, List.setIfInBounds_toArray, List.set_cons_zero, List.set_cons_succ]
    (refine wpAnyH_take (i := 18) (v := ?_) rfl (by kernel_rfl) (by kernel_rfl) (by kernel_rfl) (fun _ _ _ h => h) (Or.inl ⟨by rfl, ?_⟩) (by assumption) ?_; rotate_left; focus (intro wq hSw; (try dsimp only at hSw); go_simp; try with_reducible rfl); try simp only [List.getElem_toArray, List.getElem_cons_succ, List.getElem_cons_zero, Act.put, List.setIfInBounds_toArray, List.set_cons_zero, List.set_cons_succ])
    refine wpAnyH_ready (rs := [19]) (by kernel_rfl) (by simp) ?_
    refine AllReadyH.cons rfl (fun K hK => ?_) AllReadyH.nil
    go_simp
    refine hK.out _ _ trivial (fun hHeld => ?_)
    clear hK K
    try simp only [List.getElem_toArray, List.getElem_cons_succ, List.getElem_cons_zero, Act.put, List.setIfInBounds_toArray, List.set_cons_zero, List.set_cons_succ]
    refine wpAnyH_ready (rs := [20]) (by kernel_rfl) (by simp) ?_
    refine AllReadyH.cons rfl (fun K hK => ?_) AllReadyH.nil
    go_simp
    go_at_call 58
    refine (concat_two w.heap.size A A4 p n4 c c4 _ _ _ (lit2_0d w _ _ _) (lit2_1d w _ _ _) ((hrt.alloc _).drewL) ((hr4.alloc _).drewL) (by omega) hn4').mono ?_
    rintro e w3 ⟨A5, c5, rfl, hown5, hf5, m5⟩
    have m6 : Mod (fun _ => False) w w3 := ((Mod.refl _ w).alloc (.cells #[.slice A p c, .slice A4 n4 c4] 35)).trans (by first | (with_reducible exact m5) | exact (((Mod.refl _ _).drew).trans m5))
    have tc : w3.cell? ⟨b, k, none⟩ = some (.slice A n c) := (m6.cell (p := ⟨b, k, none⟩) hblt (fun h => h)).trans hc
    have tf : w3.frozen? ⟨b, k, none⟩ = false := (m6.frozen (p := ⟨b, k, none⟩) hblt (fun h => h)).trans hfz
    have tb : b < w3.heap.size := Nat.lt_of_lt_of_le hblt m6.size
    go_wp2_with fail
    refine hK.out _ _ trivial (fun hHeld => ?_)
    clear hK K
    try simp only [List.getElem_toArray, List.getElem_cons_succ, List.getElem_cons_zero, Act.put, List.setIfInBounds_toArray, List.set_cons_zero, List.set_cons_succ]
    (refine wpAnyH_take (i := 23) (v := ?_) rfl (by kernel_rfl) (by kernel_rfl) (by kernel_rfl) (fun _ _ _ h => h) (Or.inl ⟨by rfl, ?_⟩) (by assumption) ?_; rotate_left; focus (intro wq hSw; (try dsimp only at hSw); go_simp; try with_reducible rfl); try simp only [List.getElem_toArray, List.getElem_cons_succ, List.getElem_cons_zero, Act.put, List.setIfInBounds_toArray, List.set_cons_zero, List.set_cons_succ])
    refine wpAnyH_ready (rs := [24]) (by kernel_rfl) (by simp) ?_
    refine AllReadyH.cons rfl (fun K hK => ?_) AllReadyH.nil
    go_simp
    refine hK.out _ _ trivial (fun hHeld => ?_)
    clear hK K
    try simp only [List.getElem_toArray, List.getElem_cons_succ, List.getElem_cons_zero, Act.put, List.setIfInBounds_toArray, List.set_cons_zero, List.set_cons_succ]
    refine wpAnyH_done (by kernel_rfl) ?_ _
    refine NoPanic.normal ?_
    have hat : ∀ i, blk A5 = some i → w.heap.size ≤ i := fun i hi => by
      have h1 : (w.alloc (.cells #[.slice A p c, .slice A4 n4 c4] 35)).heap.size ≤ i := hf5 i hi
      have h2 : (w.alloc (.cells #[.slice A p c, .slice A4 n4 c4] 35)).heap.size = w.heap.size + 1 := by simp
      omega
    clear hwr hcut' hcut2
    go_wp2
    go_ret
    obtain ⟨hw, hmm⟩ := h.put hk (m6.mono (fun _ _ h => h.elim)) hown5 (.inr hat)
    refine ⟨rfl, _, ?_, hat, hmm⟩
    rw [HE.out, List.eraseIdx_eq_take_drop_succ]
    exact hw
  · go_simp
    refine hK.out _ _ trivial (fun hHeld => ?_)
    clear hK K
    try simp only [List.getElem_toArray, List.getElem_cons_succ, List.getElem_cons_zero, Act.put, List.setIfInBounds_toArray, List.set_cons_zero, List.set_cons_succ]
    (refine wpAnyH_take (i := 18) (v := ?_) rfl (by kernel_rfl) (by kernel_rfl) (by kernel_rfl) (fun _ _ _ h => h) (Or.inl ⟨by rfl, ?_⟩) (by assumption) ?_; rotate_left; focus (intro wq hSw; (try dsimp only at hSw); go_simp; try with_reducible rfl); try simp only [List.getElem_toArray, List.getElem_cons_succ, List.getElem_cons_zero, Act.put, List.setIfInBounds_toArray, List.set_cons_zero, List.set_cons_succ])
    refine wpAnyH_ready (rs := [7]) (by kernel_rfl) (by simp) ?_
    refine AllReadyH.cons rfl (fun K hK => ?_) AllReadyH.nil
    go_simp
    refine hK.out _ _ trivial (fun hHeld => ?_)
    clear hK K
    try simp only [List.getElem_toArray, List.getElem_cons_succ, List.getElem_cons_zero, Act.put, List.setIfInBounds_toArray, List.set_cons_zero, List.set_cons_succ]
    (refine wpAnyH_take (i := 9) (v := ?_) rfl (by kernel_rfl) (by kernel_rfl) (by kernel_rfl) (fun _ _ _ h => h) (Or.inl ⟨by rfl, ?_⟩) (by assumption) ?_; rotate_left; focus (intro wq hSw; (try dsimp only at hSw); go_simp; try with_reducible rfl); try simp only [List.getElem_toArray, List.getElem_cons_succ, List.getElem_cons_zero, Act.put, List.setIfInBounds_toArray, List.set_cons_zero, List.set_cons_succ])
    refine wpAnyH_ready (rs := [19]) (by kernel_rfl) (by simp) ?_
    refine AllReadyH.cons rfl (fun K hK => ?_) AllReadyH.nil
    go_simp
    refine hK.out _ _ trivial (fun hHeld => ?_)
    clear hK K
    try simp only [List.getElem_toArray, List.getElem_cons_succ, List.getElem_cons_zero, Act.put, List.setIfInBounds_toArray, List.set_cons_zero, List.set_cons_succ]
    refine wpAnyH_ready (rs := [20]) (by kernel_rfl) (by simp) ?_
    refine AllReadyH.cons rfl (fun K hK => ?_) AllReadyH.nil
    go_simp
    go_at_call 58
    refine (concat_two w.heap.size A A4 p n4 c c4 _ _ _ (lit2_0d w _ _ _) (lit2_1d w _ _ _) ((hrt.alloc _).drewL) ((hr4.alloc _).drewL) (by omega) hn4').mono ?_
    rintro e w3 ⟨A5, c5, rfl, hown5, hf5, m5⟩
    have m6 : Mod (fun _ => False) w w3 := ((Mod.refl _ w).alloc (.cells #[.slice A p c, .slice A4 n4 c4] 35)).trans (by first | (with_reducible exact m5) | exact (((Mod.refl _ _).drew).trans m5))
    have tc : w3.cell? ⟨b, k, none⟩ = some (.slice A n c) := (m6.cell (p := ⟨b, k, none⟩) hblt (fun h => h)).trans hc
    have tf : w3.frozen? ⟨b, k, none⟩ = false := (m6.frozen (p := ⟨b, k, none⟩) hblt (fun h => h)).trans hfz
    have tb : b < w3.heap.size := Nat.lt_of_lt_of_le hblt m6.size
    go_wp2_with fail
    refine hK.out _ _ trivial (fun hHeld => ?_)
    clear hK K
    try simp only [List.getElem_toArray, List.getElem_cons_succ, List.getElem_cons_zero, Act.put, List.setIfInBounds_toArray, List.set_cons_zero, List.set_cons_succ]
    (refine wpAnyH_take (i := 23) (v := ?_) rfl (by kernel_rfl) (by kernel_rfl) (by kernel_rfl) (fun _ _ _ h => h) (Or.inl ⟨by rfl, ?_⟩) (by assumption) ?_; rotate_left; focus (intro wq hSw; (try dsimp only at hSw); go_simp; try with_reducible rfl); try simp only [List.getElem_toArray, List.getElem_cons_succ, List.getElem_cons_zero, Act.put, List.setIfInBounds_toArray, List.set_cons_zero, List.set_cons_succ])
    refine wpAnyH_ready (rs := [24]) (by kernel_rfl) (by simp) ?_
    refine AllReadyH.cons rfl (fun K hK => ?_) AllReadyH.nil
    go_simp
    refine hK.out _ _ trivial (fun hHeld => ?_)
    clear hK K
    try simp only [List.getElem_toArray, List.getElem_cons_succ, List.getElem_cons_zero, Act.put, List.setIfInBounds_toArray, List.set_cons_zero, List.set_cons_succ]
    refine wpAnyH_done (by kernel_rfl) ?_ _
    refine NoPanic.normal ?_
    have hat : ∀ i, blk A5 = some i → w.heap.size ≤ i := fun i hi => by
      have h1 : (w.alloc (.cells #[.slice A p c, .slice A4 n4 c4] 35)).heap.size ≤ i := hf5 i hi
      have h2 : (w.alloc (.cells #[.slice A p c, .slice A4 n4 c4] 35)).heap.size = w.heap.size + 1 := by simp
      omega
    clear hwr hcut' hcut2
    go_wp2
    go_ret
    obtain ⟨hw, hmm⟩ := h.put hk (m6.mono (fun _ _ h => h.elim)) hown5 (.inr hat)
    refine ⟨rfl, _, ?_, hat, hmm⟩
    rw [HE.out, List.eraseIdx_eq_take_drop_succ]
    exact hw

end Go.Proofs.Ytjjbcfbljnekgaa
