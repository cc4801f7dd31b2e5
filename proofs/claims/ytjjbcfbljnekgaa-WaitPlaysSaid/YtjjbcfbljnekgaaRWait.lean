/-
  The contracts of the reference's waits (treadmillref10.Waits): Wake, Del, Len, Wait.
-/
import Derived.Test.YtjjbcfbljnekgaaArr
import Derived.Test.YtjjbcfbljnekgaaRPut
import Derived.Test.YtjjbcfbljnekgaaWLaw
set_option linter.unusedSimpArgs false
namespace Go.Proofs.Ytjjbcfbljnekgaa
open Go.RowKit

/-- It returns v and leaves the lists L'. -/
def RRet (m : Nat) (t : TypeId) (w : World) (S : Nat → Prop) (r : Nat) (L' : Nat → List Int) (v : Value) (e : Ending) (w' : World) : Prop :=
  e = .returned v ∧ ∃ S', ArrR m t w' S' r L' ∧ (∀ i, S' i → S i ∨ w.heap.size ≤ i) ∧ Mod S w w'
theorem RRet.same {m : Nat} {t : TypeId} {w w' : World} {S : Nat → Prop} {r : Nat} {L : Nat → List Int} {v : Value} (h : ArrR m t w S r L) (mm : Mod (fun _ => False) w w') : RRet m t w S r L v (.returned v) w' :=
  ⟨rfl, S, h.keep0 mm, fun _ h => .inl h, mm.mono (fun _ _ h => h.elim)⟩
theorem RRet.after {m : Nat} {t : TypeId} {w w1 w2 : World} {S S' : Nat → Prop} {r : Nat} {L' : Nat → List Int} {v : Value} (m1 : Mod (fun _ => False) w w1) (h1 : ArrR m t w2 S' r L') (h2 : ∀ i, S' i → S i ∨ w1.heap.size ≤ i) (h3 : Mod S w1 w2) : RRet m t w S r L' v (.returned v) w2 :=
  ⟨rfl, S', h1, fun i hi => by
    have := m1.size
    rcases h2 i hi with h | h
    · exact .inl h
    · exact .inr (by omega), (m1.mono (fun _ _ h => h.elim)).trans h3⟩
theorem ArrR.blt {m : Nat} {t : TypeId} {w : World} {S : Nat → Prop} {r : Nat} {L : Nat → List Int} (h : ArrR m t w S r L) : r < w.heap.size := h.lt r h.inS

theorem rwlen {w : World} {S : Nat → Prop} {r : Nat} {L : Nat → List Int} (h : ArrR 32 58 w S r L) (hl : ∀ i, i < 32 → (L i).length ≤ 900000) :
    Calls Try.prog 35 #[.pointer (some ⟨r, 0, none⟩)] w fun e w' => e = .returned (.int .i64 (wsum L 32)) ∧ w' = w := by
  go_enter Try.func35, Try.ntmps35
  go_wp2
  go_loop [3, 4] (fun v i => ∃ k : Nat, k ≤ 32 ∧ i = .int .i64 k ∧ v = .int .i64 (wsum L k)) (fun _ i => 32 - (intOf i).toNat)
  case atStart => exact ⟨0, by omega, rfl, rfl⟩
  case round =>
    obtain ⟨k, hk, rfl, rfl⟩ := hrel
    have hb := wsum_le L k hk hl
    by_cases hk2 : k < 32
    · obtain ⟨A, n, c, hc, hL, _, _, _⟩ := h.cell hk2
      have hnk := hl k hk2
      have hs : wsum L (k + 1) = wsum L k + n := by rw [wsum, hL.len]
      rw [hL.len] at hnk
      have hk0 : (0 : Int) ≤ (k : Int) := by omega
      have hk1 : (k : Int) < 32 := by omega
      obtain ⟨m, hm⟩ : ∃ m, m = wsum L k := ⟨_, rfl⟩
      rw [← hm] at hb hs ⊢
      have HS := Lib.hid hs
      clear hs hm
      go_wp2
      go_round
      case rel => exact ⟨k + 1, by omega, by go_num, by rw [HS.out]; simp⟩
      case measure => simp [intOf]; omega
    · obtain rfl : k = 32 := by omega
      go_wp2
      go_ret
      exact ⟨rfl, rfl⟩

theorem rwwake_out {w : World} {S : Nat → Prop} {r : Nat} {L : Nat → List Int} (h : ArrR 32 58 w S r L) (k : Int) (hk : ¬ (0 ≤ k ∧ k < 32)) :
    Calls Try.prog 33 #[.pointer (some ⟨r, 0, none⟩), .int .i64 k] w (RRet 32 58 w S r L (.tuple #[.int .i64 0, .bool false])) := by
  by_cases h0 : k < 0
  · have hd : decide (k < 0) = true := decide_eq_true h0
    go_enter Try.func33, Try.ntmps33
    go_wp2
    go_ret2
    exact RRet.same h (Mod.refl _ _)
  · have hd : decide (k < 0) = false := decide_eq_false h0
    have hd2 : decide (31 < k) = true := decide_eq_true (by omega)
    clear h0 hk
    go_enter Try.func33, Try.ntmps33
    go_wp2
    go_ret2
    exact RRet.same h (Mod.refl _ _)
theorem rwwake_none {w : World} {S : Nat → Prop} {r : Nat} {L : Nat → List Int} (h : ArrR 32 58 w S r L) (k : Nat) (hk : k < 32) (hL : L k = []) :
    Calls Try.prog 33 #[.pointer (some ⟨r, 0, none⟩), .int .i64 (k : Int)] w (RRet 32 58 w S r L (.tuple #[.int .i64 0, .bool false])) := by
  obtain ⟨A, n, c, hc, hLk, _, _, _⟩ := h.cell hk
  have hn : n = 0 := by rw [← hLk.len, hL]; rfl
  subst hn
  have hd : decide ((k : Int) < 0) = false := decide_eq_false (by omega)
  have hd2 : decide ((31 : Int) < (k : Int)) = false := decide_eq_false (by omega)
  have hd3 : decide (31 < k) = false := decide_eq_false (by omega)
  have hk0 : (0 : Int) ≤ (k : Int) := by omega
  have hk1 : (k : Int) < 32 := by omega
  go_enter Try.func33, Try.ntmps33
  go_wp2
  go_ret2
  exact RRet.same h (Mod.refl _ _)

set_option maxHeartbeats 1000000 in
set_option maxRecDepth 100000 in
theorem rwwake_one {w : World} {S : Nat → Prop} {r : Nat} {L : Nat → List Int} (h : ArrR 32 58 w S r L) (k : Nat) (g : Int) (l : List Int) (hk : k < 32) (hL : L k = g :: l) (hl : l.length ≤ 800000) :
    Calls Try.prog 33 #[.pointer (some ⟨r, 0, none⟩), .int .i64 (k : Int)] w (RRet 32 58 w S r (upd L k l) (.tuple #[.int .i64 g, .bool true])) := by
  obtain ⟨A, n, c, hc, hLk, hfz, hty, hSA⟩ := h.cell hk
  have hblt := h.blt
  have hn : n = l.length + 1 := by rw [← hLk.len, hL]; rfl
  obtain ⟨gg, oo, rfl, hcg⟩ := hLk.at_ (k := 0) (by omega)
  rw [hL] at hcg
  have hcg' : w.cell? ⟨gg, oo, none⟩ = some (.int .i64 g) := hcg
  have hd : decide ((k : Int) < 0) = false := decide_eq_false (by omega)
  have hd2 : decide ((31 : Int) < (k : Int)) = false := decide_eq_false (by omega)
  have hd3 : decide (31 < k) = false := decide_eq_false (by omega)
  have hk0 : (0 : Int) ≤ (k : Int) := by omega
  have hk1 : (k : Int) < 32 := by omega
  obtain ⟨A4, n4, c4, hcut, hL4, hblk4⟩ := cut_low (P := Try.prog) 35 Try.underlying35 int_info (some ⟨gg, oo, none⟩) n c 1 (by omega)
  have hcut' : ∀ (W : World), (Instr.sliceAt 35 (.slice (some ⟨gg, oo, none⟩) n c) (some (.int .i64 1)) none none).run Try.prog W = .ok (.slice A4 n4 c4) W := hcut
  have hr4 : IsL w A4 n4 c4 l := by have := hL4 w _ hLk; rw [hL] at this; exact this
  have hn1 : decide ((n : Int) = 0) = false := by simp; omega
  have hn2 : ((n : Int) == 0) = false := by rw [beq_eq_false_iff_ne]; omega
  have hn3 : (0 : Int) < (n : Int) := by omega
  have t4 : TyL w A4 := fun q hq => hty q (by rw [← hblk4]; exact hq)
  obtain ⟨S', a1, a2, a3⟩ := h.set (k := k) hk ((Mod.refl (fun _ => False) w).drew) (hr4.keep0 ((Mod.refl _ w).drew)) (t4.keep ((Mod.refl (fun _ => False) w).drew) (fun _ _ h => h)) (fun q hq => .inl (hSA q (by rw [← hblk4]; exact hq)))
  clear hn hcut hcg hL
  go_enter Try.func33, Try.ntmps33
  go_wp2
  refine wp_region_noPanic ?_
  refine wp_region_held_drew (S := fun _ => True) (by kernel_rfl) trivial (fun hHeld => ?_)
  (refine wpAnyH_take (i := 0) (v := ?_) rfl (by kernel_rfl) (by kernel_rfl) (by kernel_rfl) (fun _ _ _ h => h) (Or.inl ⟨by rfl, ?_⟩) (by assumption) ?_; rotate_left; focus (intro wq hSw; (try dsimp only at hSw); go_simp; try with_reducible rfl); try simp only [List.getElem_toArray, List.getElem_cons_succ, List.getElem_cons_zero, Act.put, List.setIfInBounds_toArray, List.set_cons_zero, List.set_cons_succ])
  (refine wpAnyH_take (i := 1) (v := ?_) rfl (by kernel_rfl) (by kernel_rfl) (by kernel_rfl) (fun _ _ _ h => h) (Or.inl ⟨by rfl, ?_⟩) (by assumption) ?_; rotate_left; focus (intro wq hSw; (try dsimp only at hSw); go_simp; try with_reducible rfl); try simp only [List.getElem_toArray, List.getElem_cons_succ, List.getElem_cons_zero, Act.put, List.setIfInBounds_toArray, List.set_cons_zero, List.set_cons_succ])
  (refine wpAnyH_take (i := 2) (v := ?_) rfl (by kernel_rfl) (by kernel_rfl) (by kernel_rfl) (fun _ _ _ h => h) (Or.inl ⟨by rfl, ?_⟩) (by assumption) ?_; rotate_left; focus (intro wq hSw; (try dsimp only at hSw); go_simp; try with_reducible rfl); try simp only [List.getElem_toArray, List.getElem_cons_succ, List.getElem_cons_zero, Act.put, List.setIfInBounds_toArray, List.set_cons_zero, List.set_cons_succ])
  (refine wpAnyH_take (i := 3) (v := ?_) rfl (by kernel_rfl) (by kernel_rfl) (by kernel_rfl) (fun _ _ _ h => h) (Or.inl ⟨by rfl, ?_⟩) (by assumption) ?_; rotate_left; focus (intro wq hSw; (try dsimp only at hSw); go_simp; try with_reducible rfl); try simp only [List.getElem_toArray, List.getElem_cons_succ, List.getElem_cons_zero, Act.put, List.setIfInBounds_toArray, List.set_cons_zero, List.set_cons_succ])
  (refine wpAnyH_take (i := 4) (v := ?_) rfl (by kernel_rfl) (by kernel_rfl) (by kernel_rfl) (fun _ _ _ h => h) (Or.inl ⟨by rfl, ?_⟩) (by assumption) ?_; rotate_left; focus (intro wq hSw; (try dsimp only at hSw); go_simp; try with_reducible rfl); try simp only [List.getElem_toArray, List.getElem_cons_succ, List.getElem_cons_zero, Act.put, List.setIfInBounds_toArray, List.set_cons_zero, List.set_cons_succ])
  (refine wpAnyH_take (i := 5) (v := ?_) rfl (by kernel_rfl) (by kernel_rfl) (by kernel_rfl) (fun _ _ _ h => h) (Or.inl ⟨by rfl, ?_⟩) (by assumption) ?_; rotate_left; focus (intro wq hSw; (try dsimp only at hSw); go_simp; try with_reducible rfl); try simp only [List.getElem_toArray, List.getElem_cons_succ, List.getElem_cons_zero, Act.put, List.setIfInBounds_toArray, List.set_cons_zero, List.set_cons_succ])
  (refine wpAnyH_take (i := 6) (v := ?_) rfl (by kernel_rfl) (by kernel_rfl) (by kernel_rfl) (fun _ _ _ h => h) (Or.inl ⟨by rfl, ?_⟩) (by assumption) ?_; rotate_left; focus (intro wq hSw; (try dsimp only at hSw); go_simp; try with_reducible rfl); try simp only [List.getElem_toArray, List.getElem_cons_succ, List.getElem_cons_zero, Act.put, List.setIfInBounds_toArray, List.set_cons_zero, List.set_cons_succ])
  (refine wpAnyH_take (i := 9) (v := ?_) rfl (by kernel_rfl) (by kernel_rfl) (by kernel_rfl) (fun _ _ _ h => h) (Or.inl ⟨by rfl, ?_⟩) (by assumption) ?_; rotate_left; focus (intro wq hSw; (try dsimp only at hSw); go_simp; try with_reducible rfl); try simp only [List.getElem_toArray, List.getElem_cons_succ, List.getElem_cons_zero, Act.put, List.setIfInBounds_toArray, List.set_cons_zero, List.set_cons_succ])
  (refine wpAnyH_take (i := 10) (v := ?_) rfl (by kernel_rfl) (by kernel_rfl) (by kernel_rfl) (fun _ _ _ h => h) (Or.inl ⟨by rfl, ?_⟩) (by assumption) ?_; rotate_left; focus (intro wq hSw; (try dsimp only at hSw); go_simp; try with_reducible rfl); try simp only [List.getElem_toArray, List.getElem_cons_succ, List.getElem_cons_zero, Act.put, List.setIfInBounds_toArray, List.set_cons_zero, List.set_cons_succ])
  refine wpAnyH_ready (rs := [7]) (by kernel_rfl) (by simp) ?_
  refine AllReadyH.cons rfl (fun K hK => ?_) AllReadyH.nil
  go_simp
  refine hK.out _ _ trivial (fun hHeld => ?_)
  clear hK K
  try simp only [List.getElem_toArray, List.getElem_cons_succ, List.getElem_cons_zero, Act.put, List.setIfInBounds_toArray, List.set_cons_zero, List.set_cons_succ]
  (refine wpAnyH_take (i := 8) (v := ?_) rfl (by kernel_rfl) (by kernel_rfl) (by kernel_rfl) (fun _ _ _ h => h) (Or.inl ⟨by rfl, ?_⟩) (by assumption) ?_; rotate_left; focus (intro wq hSw; (try dsimp only at hSw); go_simp; try with_reducible rfl); try simp only [List.getElem_toArray, List.getElem_cons_succ, List.getElem_cons_zero, Act.put, List.setIfInBounds_toArray, List.set_cons_zero, List.set_cons_succ])
  (refine wpAnyH_take (i := 11) (v := ?_) rfl (by kernel_rfl) (by kernel_rfl) (by kernel_rfl) (fun _ _ _ h => h) (Or.inl ⟨by rfl, ?_⟩) (by assumption) ?_; rotate_left; focus (intro wq hSw; (try dsimp only at hSw); go_simp; try with_reducible rfl); try simp only [List.getElem_toArray, List.getElem_cons_succ, List.getElem_cons_zero, Act.put, List.setIfInBounds_toArray, List.set_cons_zero, List.set_cons_succ])
  refine wpAnyH_ready (rs := [12]) (by kernel_rfl) (by simp) ?_
  refine AllReadyH.cons rfl (fun K hK => ?_) AllReadyH.nil
  go_simp
  refine hK.out _ _ trivial (fun hHeld => ?_)
  clear hK K
  try simp only [List.getElem_toArray, List.getElem_cons_succ, List.getElem_cons_zero, Act.put, List.setIfInBounds_toArray, List.set_cons_zero, List.set_cons_succ]
  refine wpAnyH_done (by kernel_rfl) ?_ _
  refine NoPanic.normal ?_
  go_wp2
  go_ret2
  exact ⟨rfl, S', a1, a2, a3⟩

theorem rwdel_no {w : World} {S : Nat → Prop} {r : Nat} {L : Nat → List Int} (h : ArrR 32 58 w S r L) (g : Int) (hl : ∀ i, i < 32 → (L i).length ≤ 400000) (hno : ∀ i, i < 32 → ¬ g ∈ L i) :
    Calls Try.prog 34 #[.pointer (some ⟨r, 0, none⟩), .int .i64 g] w (RRet 32 58 w S r L (.bool false)) := by
  go_enter Try.func34, Try.ntmps34
  go_wp2
  go_loopw [5] (fun i wr => ∃ k : Nat, k ≤ 32 ∧ i = .int .i64 k ∧ Mod (fun _ => False) w wr) (fun i _ => 32 - (intOf i).toNat)
  case atStart => exact ⟨0, by omega, rfl, Mod.refl _ _⟩
  case round =>
    obtain ⟨k, hk, rfl, mm⟩ := hrel
    by_cases hk2 : k < 32
    · obtain ⟨A, n, c, hc, hLk, _, hty, _⟩ := (h.keep0 mm).cell hk2
      have hk0 : (0 : Int) ≤ (k : Int) := by omega
      have hk1 : (k : Int) < 32 := by omega
      have hd := decide_eq_false (hno k hk2)
      have hln := hl k hk2
      rw [hLk.len] at hln
      go_wp2_with fail
      refine (out_any A n c (L k) g _ hLk hty (by omega)).mono ?_
      rintro e w2 ⟨A', n', c', rfl, _, _, _, m2⟩
      rw [hd]
      clear hd
      go_wp2
      go_roundw
      case rel => exact ⟨k + 1, by omega, by go_num, mm.trans m2⟩
      case measure => simp [intOf]; omega
    · obtain rfl : k = 32 := by omega
      go_wp2
      go_ret
      exact RRet.same h mm

set_option maxRecDepth 100000 in
theorem rwdel_yes {w : World} {S : Nat → Prop} {r : Nat} {L : Nat → List Int} (h : ArrR 32 58 w S r L) (g : Int) (q : Nat) (hl : ∀ i, i < 32 → (L i).length ≤ 400000) (hq : q < 32) (hm : g ∈ L q) (hno : ∀ j, j < q → ¬ g ∈ L j) :
    Calls Try.prog 34 #[.pointer (some ⟨r, 0, none⟩), .int .i64 g] w (RRet 32 58 w S r (upd L q ((L q).erase g)) (.bool true)) := by
  go_enter Try.func34, Try.ntmps34
  go_wp2
  go_loopw [5] (fun i wr => ∃ k : Nat, k ≤ q ∧ i = .int .i64 k ∧ Mod (fun _ => False) w wr) (fun i _ => 32 - (intOf i).toNat)
  case atStart => exact ⟨0, by omega, rfl, Mod.refl _ _⟩
  case round =>
    obtain ⟨k, hk, rfl, mm⟩ := hrel
    have hk2 : k < 32 := by omega
    obtain ⟨A, n, c, hc, hLk, hfz, hty, hSA⟩ := (h.keep0 mm).cell hk2
    have hblt := (h.keep0 mm).blt
    have hk0 : (0 : Int) ≤ (k : Int) := by omega
    have hk1 : (k : Int) < 32 := by omega
    have hln := hl k hk2
    rw [hLk.len] at hln
    by_cases hkq : k < q
    · have hd := decide_eq_false (hno k hkq)
      go_wp2_with fail
      refine (out_any A n c (L k) g _ hLk hty (by omega)).mono ?_
      rintro e w2 ⟨A', n', c', rfl, _, _, _, m2⟩
      rw [hd]
      clear hd
      go_wp2
      go_roundw
      case rel => exact ⟨k + 1, by omega, by go_num, mm.trans m2⟩
      case measure => simp [intOf]; omega
    · obtain rfl : k = q := by omega
      have hd := decide_eq_true hm
      go_wp2_with fail
      refine (out_any A n c (L k) g _ hLk hty (by omega)).mono ?_
      rintro e w2 ⟨A', n', c', rfl, hr2, ht2, hA2, m2⟩
      rw [hd]
      have tc := (m2.cell (p := ⟨r, k, none⟩) hblt (fun h => h)).trans hc
      have tf := (m2.frozen (p := ⟨r, k, none⟩) hblt (fun h => h)).trans hfz
      have tb := Nat.lt_of_lt_of_le hblt m2.size
      obtain ⟨S', a1, a2, a3⟩ := (h.keep0 mm).set (k := k) hk2 m2 hr2 ht2 (fun d hd => by
        rcases hA2 with e | e
        · exact .inl (hSA d (by rw [← e]; exact hd))
        · cases A' with
          | none => cases hd
          | some ad => exact .inr (by have := e ad rfl; simp [blk] at hd; omega))
      clear hd hc hLk hr2
      go_wp2
      go_ret
      exact RRet.after mm a1 a2 a3

theorem rwwait_out {w : World} {S : Nat → Prop} {r : Nat} {L : Nat → List Int} (h : ArrR 32 58 w S r L) (k g : Int) (hk : ¬ (0 ≤ k ∧ k < 32)) :
    Calls Try.prog 32 #[.pointer (some ⟨r, 0, none⟩), .int .i64 k, .int .i64 g] w (RRet 32 58 w S r L (.int .i64 2)) := by
  by_cases h0 : k < 0
  · have hd : decide (k < 0) = true := decide_eq_true h0
    go_enter Try.func32, Try.ntmps32
    go_wp2
    go_ret
    exact RRet.same h (Mod.refl _ _)
  · have hd : decide (k < 0) = false := decide_eq_false h0
    have hd2 : decide (31 < k) = true := decide_eq_true (by omega)
    clear h0 hk
    go_enter Try.func32, Try.ntmps32
    go_wp2
    go_ret
    exact RRet.same h (Mod.refl _ _)
theorem rwwait_in {w : World} {S : Nat → Prop} {r : Nat} {L : Nat → List Int} (h : ArrR 32 58 w S r L) (k : Nat) (g : Int) (hk : k < 32) (hl : ∀ i, i < 32 → (L i).length ≤ 400000) (hin : ∃ i, i < 32 ∧ g ∈ L i) :
    Calls Try.prog 32 #[.pointer (some ⟨r, 0, none⟩), .int .i64 (k : Int), .int .i64 g] w (RRet 32 58 w S r L (.int .i64 5)) := by
  have hd : decide ((k : Int) < 0) = false := decide_eq_false (by omega)
  have hd2 : decide ((31 : Int) < (k : Int)) = false := decide_eq_false (by omega)
  have hd3 : decide (31 < k) = false := decide_eq_false (by omega)
  go_enter Try.func32, Try.ntmps32
  go_wp2
  go_loop [7] (fun i => ∃ k : Nat, k ≤ 32 ∧ i = .int .i64 k ∧ ∀ j, j < k → ¬ g ∈ L j) (fun i => 32 - (intOf i).toNat)
  case atStart => exact ⟨0, by omega, rfl, fun j hj => by omega⟩
  case round =>
    obtain ⟨q, hq, rfl, hno⟩ := hrel
    by_cases hq2 : q < 32
    · obtain ⟨A, n, c, hc, hLk, _, _, _⟩ := h.cell hq2
      have hk0 : (0 : Int) ≤ (q : Int) := by omega
      have hk1 : (q : Int) < 32 := by omega
      have hln := hl q hq2
      rw [hLk.len] at hln
      by_cases hm : g ∈ L q
      · have HD := Lib.hid (decide_eq_true hm)
        go_wp2_with fail
        refine (has_any A n c (L q) g _ hLk (by omega)).mono ?_
        rintro e w2 ⟨rfl, hw2⟩
        obtain rfl := hw2.symm
        rw [HD.out]
        go_wp2
        go_ret
        exact RRet.same h (Mod.refl _ _)
      · have HD := Lib.hid (decide_eq_false hm)
        go_wp2_with fail
        refine (has_any A n c (L q) g _ hLk (by omega)).mono ?_
        rintro e w2 ⟨rfl, hw2⟩
        obtain rfl := hw2.symm
        rw [HD.out]
        go_wp2
        go_round
        case rel => exact ⟨q + 1, by omega, by go_num, fun j hj => by
          by_cases e : j = q
          · rw [e]; exact hm
          · exact hno j (by omega)⟩
        case measure => simp [intOf]; omega
    · obtain ⟨i, hi, hm⟩ := hin
      exact absurd hm (hno i (by omega))

set_option maxHeartbeats 1000000 in
set_option maxRecDepth 100000 in
theorem rwwait_put {w : World} {S : Nat → Prop} {r : Nat} {L : Nat → List Int} (h : ArrR 32 58 w S r L) (k : Nat) (g : Int) (hk : k < 32) (hl : ∀ i, i < 32 → (L i).length ≤ 400000) (hnot : ∀ i, i < 32 → ¬ g ∈ L i) :
    Calls Try.prog 32 #[.pointer (some ⟨r, 0, none⟩), .int .i64 (k : Int), .int .i64 g] w (RRet 32 58 w S r (upd L k (L k ++ [g])) (.int .i64 0)) := by
  have hd : decide ((k : Int) < 0) = false := decide_eq_false (by omega)
  have hd2 : decide ((31 : Int) < (k : Int)) = false := decide_eq_false (by omega)
  have hd3 : decide (31 < k) = false := decide_eq_false (by omega)
  go_enter Try.func32, Try.ntmps32
  go_wp2
  go_loop [7] (fun i => ∃ k : Nat, k ≤ 32 ∧ i = .int .i64 k) (fun i => 32 - (intOf i).toNat)
  case atStart => exact ⟨0, by omega, rfl⟩
  case round =>
    obtain ⟨q, hq, rfl⟩ := hrel
    by_cases hq2 : q < 32
    · obtain ⟨A, n, c, hc, hLk, _, _, _⟩ := h.cell hq2
      have hk0 : (0 : Int) ≤ (q : Int) := by omega
      have hk1 : (q : Int) < 32 := by omega
      have hln := hl q hq2
      rw [hLk.len] at hln
      have HD := Lib.hid (decide_eq_false (hnot q hq2))
      go_wp2_with fail
      refine (has_any A n c (L q) g _ hLk (by omega)).mono ?_
      rintro e w2 ⟨rfl, hw2⟩
      obtain rfl := hw2.symm
      rw [HD.out]
      go_wp2
      go_round
      case rel => exact ⟨q + 1, by omega, by go_num⟩
      case measure => simp [intOf]; omega
    · obtain rfl : q = 32 := by omega
      obtain ⟨A, n, c, hc, hLk, hfz, hty, hSA⟩ := h.cell hk
      have hk0 : (0 : Int) ≤ (k : Int) := by omega
      have hk1 : (k : Int) < 32 := by omega
      have hblt := h.blt
      have hln := hl k hk
      rw [hLk.len] at hln
      go_wp2
      have hcE : (w.alloc (.cells #[] 3)).cell? ⟨r, k, none⟩ = some (.slice A n c) := (((Mod.refl (fun _ => False) w).alloc _).cell (p := ⟨r, k, none⟩) hblt (fun h => h)).trans hc
      have hcX : (w.alloc (.cells #[.int .i64 g] 3)).cell? ⟨r, k, none⟩ = some (.slice A n c) := (((Mod.refl (fun _ => False) w).alloc _).cell (p := ⟨r, k, none⟩) hblt (fun h => h)).trans hc
      have hcEX : ((w.alloc (.cells #[] 3)).alloc (.cells #[.int .i64 g] 3)).cell? ⟨r, k, none⟩ = some (.slice A n c) := ((((Mod.refl (fun _ => False) w).alloc _).alloc _).cell (p := ⟨r, k, none⟩) hblt (fun h => h)).trans hc
      have hcXE : ((w.alloc (.cells #[.int .i64 g] 3)).alloc (.cells #[] 3)).cell? ⟨r, k, none⟩ = some (.slice A n c) := ((((Mod.refl (fun _ => False) w).alloc _).alloc _).cell (p := ⟨r, k, none⟩) hblt (fun h => h)).trans hc
      refine wp_region_noPanic ?_
      refine wp_region_held_drew (S := fun _ => True) (by kernel_rfl) trivial (fun hHeld => ?_)
      (refine wpAnyH_take (i := 0) (v := ?_) rfl (by kernel_rfl) (by kernel_rfl) (by kernel_rfl) (fun _ _ _ h => h) (Or.inl ⟨by rfl, ?_⟩) (by assumption) ?_; rotate_left; focus (intro wq hSw; (try dsimp only at hSw); go_simp; try with_reducible rfl); try simp only [List.getElem_toArray, List.getElem_cons_succ, List.getElem_cons_zero, Act.put, List.setIfInBounds_toArray, List.set_cons_zero, List.set_cons_succ])
      (refine wpAnyH_take (i := 1) (v := ?_) rfl (by kernel_rfl) (by kernel_rfl) (by kernel_rfl) (fun _ _ _ h => h) (Or.inl ⟨by rfl, ?_⟩) (by assumption) ?_; rotate_left; focus (intro wq hSw; (try dsimp only at hSw); go_simp; try with_reducible rfl); try simp only [List.getElem_toArray, List.getElem_cons_succ, List.getElem_cons_zero, Act.put, List.setIfInBounds_toArray, List.set_cons_zero, List.set_cons_succ])
      (refine wpAnyH_take (i := 3) (v := ?_) rfl (by kernel_rfl) (by kernel_rfl) (by kernel_rfl) (fun _ _ _ h => h) (Or.inl ⟨by rfl, ?_⟩) (by assumption) ?_; rotate_left; focus (intro wq hSw; (try dsimp only at hSw); go_simp; try with_reducible rfl); try simp only [List.getElem_toArray, List.getElem_cons_succ, List.getElem_cons_zero, Act.put, List.setIfInBounds_toArray, List.set_cons_zero, List.set_cons_succ])
      (refine wpAnyH_take (i := 4) (v := ?_) rfl (by kernel_rfl) (by kernel_rfl) (by kernel_rfl) (fun _ _ _ h => h) (Or.inl ⟨by rfl, ?_⟩) (by assumption) ?_; rotate_left; focus (intro wq hSw; (try dsimp only at hSw); go_simp; try with_reducible rfl); try simp only [List.getElem_toArray, List.getElem_cons_succ, List.getElem_cons_zero, Act.put, List.setIfInBounds_toArray, List.set_cons_zero, List.set_cons_succ])
      (refine wpAnyH_take (i := 5) (v := ?_) rfl (by kernel_rfl) (by kernel_rfl) (by kernel_rfl) (fun _ _ _ h => h) (Or.inl ⟨by rfl, ?_⟩) (by assumption) ?_; rotate_left; focus (intro wq hSw; (try dsimp only at hSw); go_simp; try with_reducible rfl); try simp only [List.getElem_toArray, List.getElem_cons_succ, List.getElem_cons_zero, Act.put, List.setIfInBounds_toArray, List.set_cons_zero, List.set_cons_succ])
      (refine wpAnyH_take (i := 6) (v := ?_) rfl (by kernel_rfl) (by kernel_rfl) (by kernel_rfl) (fun _ _ _ h => h) (Or.inl ⟨by rfl, ?_⟩) (by assumption) ?_; rotate_left; focus (intro wq hSw; (try dsimp only at hSw); go_simp; try with_reducible rfl); try simp only [List.getElem_toArray, List.getElem_cons_succ, List.getElem_cons_zero, Act.put, List.setIfInBounds_toArray, List.set_cons_zero, List.set_cons_succ])
      (refine wpAnyH_take (i := 7) (v := ?_) rfl (by kernel_rfl) (by kernel_rfl) (by kernel_rfl) (fun _ _ _ h => h) (Or.inl ⟨by rfl, ?_⟩) (by assumption) ?_; rotate_left; focus (intro wq hSw; (try dsimp only at hSw); go_simp; try with_reducible rfl); try simp only [List.getElem_toArray, List.getElem_cons_succ, List.getElem_cons_zero, Act.put, List.setIfInBounds_toArray, List.set_cons_zero, List.set_cons_succ])
      (refine wpAnyH_take (i := 10) (v := ?_) rfl (by kernel_rfl) (by kernel_rfl) (by kernel_rfl) (fun _ _ _ h => h) (Or.inl ⟨by rfl, ?_⟩) (by assumption) ?_; rotate_left; focus (intro wq hSw; (try dsimp only at hSw); go_simp; try with_reducible rfl); try simp only [List.getElem_toArray, List.getElem_cons_succ, List.getElem_cons_zero, Act.put, List.setIfInBounds_toArray, List.set_cons_zero, List.set_cons_succ])
      (refine wpAnyH_take (i := 13) (v := ?_) rfl (by kernel_rfl) (by kernel_rfl) (by kernel_rfl) (fun _ _ _ h => h) (Or.inl ⟨by rfl, ?_⟩) (by assumption) ?_; rotate_left; focus (intro wq hSw; (try dsimp only at hSw); go_simp; try with_reducible rfl); try simp only [List.getElem_toArray, List.getElem_cons_succ, List.getElem_cons_zero, Act.put, List.setIfInBounds_toArray, List.set_cons_zero, List.set_cons_succ])
      (refine wpAnyH_take (i := 14) (v := ?_) rfl (by kernel_rfl) (by kernel_rfl) (by kernel_rfl) (fun _ _ _ h => h) (Or.inl ⟨by rfl, ?_⟩) (by assumption) ?_; rotate_left; focus (intro wq hSw; (try dsimp only at hSw); go_simp; try with_reducible rfl); try simp only [List.getElem_toArray, List.getElem_cons_succ, List.getElem_cons_zero, Act.put, List.setIfInBounds_toArray, List.set_cons_zero, List.set_cons_succ])
      refine wpAnyH_ready (rs := [2, 8, 11]) (by kernel_rfl) (by simp) ?_
      refine AllReadyH.cons rfl (fun K hK => ?_) (AllReadyH.cons rfl (fun K hK => ?_) (AllReadyH.cons rfl (fun K hK => ?_) AllReadyH.nil))
      · go_simp
        refine hK.out _ _ trivial (fun hHeld => ?_)
        clear hK K
        try simp only [List.getElem_toArray, List.getElem_cons_succ, List.getElem_cons_zero, Act.put, List.setIfInBounds_toArray, List.set_cons_zero, List.set_cons_succ]
        refine wpAnyH_ready (rs := [8, 11]) (by kernel_rfl) (by simp) ?_
        refine AllReadyH.cons rfl (fun K hK => ?_) (AllReadyH.cons rfl (fun K hK => ?_) AllReadyH.nil)
        · go_simp
          refine hK.out _ _ trivial (fun hHeld => ?_)
          clear hK K
          try simp only [List.getElem_toArray, List.getElem_cons_succ, List.getElem_cons_zero, Act.put, List.setIfInBounds_toArray, List.set_cons_zero, List.set_cons_succ]
          refine wpAnyH_ready (rs := [9, 11]) (by kernel_rfl) (by simp) ?_
          refine AllReadyH.cons rfl (fun K hK => ?_) (AllReadyH.cons rfl (fun K hK => ?_) AllReadyH.nil)
          · have o1 : OwnL (w.alloc (.cells #[] 3)).drew (some ⟨w.heap.size, 0, none⟩) 0 0 [] := OwnL.empty w
            have r1 : IsL (w.alloc (.cells #[] 3)).drew A n c (L k) := hLk.alloc _
            (with_reducible refine step_app _ (by with_unfolding_all rfl) (.tmp 28) (.tmp 34) _ (by with_unfolding_all rfl) Try.underlying35 int_info _ _ _ _ (by with_unfolding_all rfl) o1 _ _ _ _ (by with_unfolding_all rfl) r1 (by omega) ?_)
            intro C2 p2 q2 w2 hp1 hp2 hown2 hg2 hat2
            obtain ⟨hM2, kL, hf2⟩ := app_facts (((Mod.refl _ w).alloc _).drew) (blk_size w) hLk hg2 hat2
            have o4 : OwnL (w2.alloc (.cells #[.int .i64 g] 3)) C2 p2 q2 ([] ++ L k) := hown2.alloc _
            have r4 : IsL (w2.alloc (.cells #[.int .i64 g] 3)) (some ⟨w2.heap.size, 0, none⟩) 1 1 [g] := IsL.one w2 g
            have hW2 : Mod (fun _ => False) w (w2.alloc (.cells #[.int .i64 g] 3)) := hM2.alloc _
            refine hK.out _ _ trivial (fun hHeld => ?_)
            clear hK K
            try simp only [List.getElem_toArray, List.getElem_cons_succ, List.getElem_cons_zero, Act.put, List.setIfInBounds_toArray, List.set_cons_zero, List.set_cons_succ]
            refine wpAnyH_ready (rs := [11]) (by kernel_rfl) (by simp) ?_
            refine AllReadyH.cons rfl (fun K hK => ?_) AllReadyH.nil
            go_simp
            refine hK.out _ _ trivial (fun hHeld => ?_)
            clear hK K
            try simp only [List.getElem_toArray, List.getElem_cons_succ, List.getElem_cons_zero, Act.put, List.setIfInBounds_toArray, List.set_cons_zero, List.set_cons_succ]
            refine wpAnyH_ready (rs := [12]) (by kernel_rfl) (by simp) ?_
            refine AllReadyH.cons rfl (fun K hK => ?_) AllReadyH.nil
            (with_reducible refine step_app _ (by with_unfolding_all rfl) (.tmp 35) (.tmp 37) _ (by with_unfolding_all rfl) Try.underlying35 int_info _ _ _ _ (by with_unfolding_all rfl) o4 _ _ _ _ (by with_unfolding_all rfl) r4 (by omega) ?_)
            intro C3 p3 q3 w3 hp3 hp4 hown3 hg3 hat3
            obtain ⟨hM3, kL3, hf3⟩ := app_facts hW2 hf2 hLk hg3 hat3
            have tc := (hM3.cell (p := ⟨r, k, none⟩) hblt (fun h => h)).trans hc
            have tf := (hM3.frozen (p := ⟨r, k, none⟩) hblt (fun h => h)).trans hfz
            have tb := Nat.lt_of_lt_of_le hblt hM3.size
            refine hK.out _ _ trivial (fun hHeld => ?_)
            clear hK K
            try simp only [List.getElem_toArray, List.getElem_cons_succ, List.getElem_cons_zero, Act.put, List.setIfInBounds_toArray, List.set_cons_zero, List.set_cons_succ]
            (refine wpAnyH_take (i := 15) (v := ?_) rfl (by kernel_rfl) (by kernel_rfl) (by kernel_rfl) (fun _ _ _ h => h) (Or.inl ⟨by rfl, ?_⟩) (by assumption) ?_; rotate_left; focus (intro wq hSw; (try dsimp only at hSw); go_simp; try with_reducible rfl); try simp only [List.getElem_toArray, List.getElem_cons_succ, List.getElem_cons_zero, Act.put, List.setIfInBounds_toArray, List.set_cons_zero, List.set_cons_succ])
            refine wpAnyH_ready (rs := [16]) (by kernel_rfl) (by simp) ?_
            refine AllReadyH.cons rfl (fun K hK => ?_) AllReadyH.nil
            go_simp
            refine hK.out _ _ trivial (fun hHeld => ?_)
            clear hK K
            try simp only [List.getElem_toArray, List.getElem_cons_succ, List.getElem_cons_zero, Act.put, List.setIfInBounds_toArray, List.set_cons_zero, List.set_cons_succ]
            refine wpAnyH_done (by kernel_rfl) ?_ _
            refine NoPanic.normal ?_
            go_wp2
            go_ret
            obtain ⟨S', a1, a2, a3⟩ := h.set (k := k) hk hM3 hown3.isL hown3.ty (fun d hd => .inr (hf3 d hd))
            exact ⟨rfl, S', a1, a2, a3⟩
          · go_simp
            refine hK.out _ _ trivial (fun hHeld => ?_)
            clear hK K
            try simp only [List.getElem_toArray, List.getElem_cons_succ, List.getElem_cons_zero, Act.put, List.setIfInBounds_toArray, List.set_cons_zero, List.set_cons_succ]
            refine wpAnyH_ready (rs := [9]) (by kernel_rfl) (by simp) ?_
            refine AllReadyH.cons rfl (fun K hK => ?_) AllReadyH.nil
            have o1 : OwnL ((w.alloc (.cells #[] 3)).alloc (.cells #[.int .i64 g] 3)).drew (some ⟨w.heap.size, 0, none⟩) 0 0 [] := (OwnL.empty w).alloc _
            have r1 : IsL ((w.alloc (.cells #[] 3)).alloc (.cells #[.int .i64 g] 3)).drew A n c (L k) := (hLk.alloc _).alloc _
            (with_reducible refine step_app _ (by with_unfolding_all rfl) (.tmp 28) (.tmp 34) _ (by with_unfolding_all rfl) Try.underlying35 int_info _ _ _ _ (by with_unfolding_all rfl) o1 _ _ _ _ (by with_unfolding_all rfl) r1 (by omega) ?_)
            intro C2 p2 q2 w2 hp1 hp2 hown2 hg2 hat2
            have r4 : IsL w2 (some ⟨w.heap.size + 1, 0, none⟩) 1 1 [g] := one_kept (w := ((w.alloc (.cells #[] 3)).alloc (.cells #[.int .i64 g] 3)).drew) (one_second w _ g) (fun d hd => by cases hd; simp [blk]) hg2
            obtain ⟨hM2, kL, hf2⟩ := app_facts ((((Mod.refl _ w).alloc _).alloc _).drew) (blk_size w) hLk hg2 hat2
            have o4 := hown2
            have hW2 := hM2
            refine hK.out _ _ trivial (fun hHeld => ?_)
            clear hK K
            try simp only [List.getElem_toArray, List.getElem_cons_succ, List.getElem_cons_zero, Act.put, List.setIfInBounds_toArray, List.set_cons_zero, List.set_cons_succ]
            refine wpAnyH_ready (rs := [12]) (by kernel_rfl) (by simp) ?_
            refine AllReadyH.cons rfl (fun K hK => ?_) AllReadyH.nil
            (with_reducible refine step_app _ (by with_unfolding_all rfl) (.tmp 35) (.tmp 37) _ (by with_unfolding_all rfl) Try.underlying35 int_info _ _ _ _ (by with_unfolding_all rfl) o4 _ _ _ _ (by with_unfolding_all rfl) r4 (by omega) ?_)
            intro C3 p3 q3 w3 hp3 hp4 hown3 hg3 hat3
            obtain ⟨hM3, kL3, hf3⟩ := app_facts hW2 hf2 hLk hg3 hat3
            have tc := (hM3.cell (p := ⟨r, k, none⟩) hblt (fun h => h)).trans hc
            have tf := (hM3.frozen (p := ⟨r, k, none⟩) hblt (fun h => h)).trans hfz
            have tb := Nat.lt_of_lt_of_le hblt hM3.size
            refine hK.out _ _ trivial (fun hHeld => ?_)
            clear hK K
            try simp only [List.getElem_toArray, List.getElem_cons_succ, List.getElem_cons_zero, Act.put, List.setIfInBounds_toArray, List.set_cons_zero, List.set_cons_succ]
            (refine wpAnyH_take (i := 15) (v := ?_) rfl (by kernel_rfl) (by kernel_rfl) (by kernel_rfl) (fun _ _ _ h => h) (Or.inl ⟨by rfl, ?_⟩) (by assumption) ?_; rotate_left; focus (intro wq hSw; (try dsimp only at hSw); go_simp; try with_reducible rfl); try simp only [List.getElem_toArray, List.getElem_cons_succ, List.getElem_cons_zero, Act.put, List.setIfInBounds_toArray, List.set_cons_zero, List.set_cons_succ])
            refine wpAnyH_ready (rs := [16]) (by kernel_rfl) (by simp) ?_
            refine AllReadyH.cons rfl (fun K hK => ?_) AllReadyH.nil
            go_simp
            refine hK.out _ _ trivial (fun hHeld => ?_)
            clear hK K
            try simp only [List.getElem_toArray, List.getElem_cons_succ, List.getElem_cons_zero, Act.put, List.setIfInBounds_toArray, List.set_cons_zero, List.set_cons_succ]
            refine wpAnyH_done (by kernel_rfl) ?_ _
            refine NoPanic.normal ?_
            go_wp2
            go_ret
            obtain ⟨S', a1, a2, a3⟩ := h.set (k := k) hk hM3 hown3.isL hown3.ty (fun d hd => .inr (hf3 d hd))
            exact ⟨rfl, S', a1, a2, a3⟩
        · go_simp
          refine hK.out _ _ trivial (fun hHeld => ?_)
          clear hK K
          try simp only [List.getElem_toArray, List.getElem_cons_succ, List.getElem_cons_zero, Act.put, List.setIfInBounds_toArray, List.set_cons_zero, List.set_cons_succ]
          refine wpAnyH_ready (rs := [8]) (by kernel_rfl) (by simp) ?_
          refine AllReadyH.cons rfl (fun K hK => ?_) AllReadyH.nil
          go_simp
          refine hK.out _ _ trivial (fun hHeld => ?_)
          clear hK K
          try simp only [List.getElem_toArray, List.getElem_cons_succ, List.getElem_cons_zero, Act.put, List.setIfInBounds_toArray, List.set_cons_zero, List.set_cons_succ]
          refine wpAnyH_ready (rs := [9]) (by kernel_rfl) (by simp) ?_
          refine AllReadyH.cons rfl (fun K hK => ?_) AllReadyH.nil
          have o1 : OwnL ((w.alloc (.cells #[] 3)).alloc (.cells #[.int .i64 g] 3)).drew (some ⟨w.heap.size, 0, none⟩) 0 0 [] := (OwnL.empty w).alloc _
          have r1 : IsL ((w.alloc (.cells #[] 3)).alloc (.cells #[.int .i64 g] 3)).drew A n c (L k) := (hLk.alloc _).alloc _
          (with_reducible refine step_app _ (by with_unfolding_all rfl) (.tmp 28) (.tmp 34) _ (by with_unfolding_all rfl) Try.underlying35 int_info _ _ _ _ (by with_unfolding_all rfl) o1 _ _ _ _ (by with_unfolding_all rfl) r1 (by omega) ?_)
          intro C2 p2 q2 w2 hp1 hp2 hown2 hg2 hat2
          have r4 : IsL w2 (some ⟨w.heap.size + 1, 0, none⟩) 1 1 [g] := one_kept (w := ((w.alloc (.cells #[] 3)).alloc (.cells #[.int .i64 g] 3)).drew) (one_second w _ g) (fun d hd => by cases hd; simp [blk]) hg2
          obtain ⟨hM2, kL, hf2⟩ := app_facts ((((Mod.refl _ w).alloc _).alloc _).drew) (blk_size w) hLk hg2 hat2
          have o4 := hown2
          have hW2 := hM2
          refine hK.out _ _ trivial (fun hHeld => ?_)
          clear hK K
          try simp only [List.getElem_toArray, List.getElem_cons_succ, List.getElem_cons_zero, Act.put, List.setIfInBounds_toArray, List.set_cons_zero, List.set_cons_succ]
          refine wpAnyH_ready (rs := [12]) (by kernel_rfl) (by simp) ?_
          refine AllReadyH.cons rfl (fun K hK => ?_) AllReadyH.nil
          (with_reducible refine step_app _ (by with_unfolding_all rfl) (.tmp 35) (.tmp 37) _ (by with_unfolding_all rfl) Try.underlying35 int_info _ _ _ _ (by with_unfolding_all rfl) o4 _ _ _ _ (by with_unfolding_all rfl) r4 (by omega) ?_)
          intro C3 p3 q3 w3 hp3 hp4 hown3 hg3 hat3
          obtain ⟨hM3, kL3, hf3⟩ := app_facts hW2 hf2 hLk hg3 hat3
          have tc := (hM3.cell (p := ⟨r, k, none⟩) hblt (fun h => h)).trans hc
          have tf := (hM3.frozen (p := ⟨r, k, none⟩) hblt (fun h => h)).trans hfz
          have tb := Nat.lt_of_lt_of_le hblt hM3.size
          refine hK.out _ _ trivial (fun hHeld => ?_)
          clear hK K
          try simp only [List.getElem_toArray, List.getElem_cons_succ, List.getElem_cons_zero, Act.put, List.setIfInBounds_toArray, List.set_cons_zero, List.set_cons_succ]
          (refine wpAnyH_take (i := 15) (v := ?_) rfl (by kernel_rfl) (by kernel_rfl) (by kernel_rfl) (fun _ _ _ h => h) (Or.inl ⟨by rfl, ?_⟩) (by assumption) ?_; rotate_left; focus (intro wq hSw; (try dsimp only at hSw); go_simp; try with_reducible rfl); try simp only [List.getElem_toArray, List.getElem_cons_succ, List.getElem_cons_zero, Act.put, List.setIfInBounds_toArray, List.set_cons_zero, List.set_cons_succ])
          refine wpAnyH_ready (rs := [16]) (by kernel_rfl) (by simp) ?_
          refine AllReadyH.cons rfl (fun K hK => ?_) AllReadyH.nil
          go_simp
          refine hK.out _ _ trivial (fun hHeld => ?_)
          clear hK K
          try simp only [List.getElem_toArray, List.getElem_cons_succ, List.getElem_cons_zero, Act.put, List.setIfInBounds_toArray, List.set_cons_zero, List.set_cons_succ]
          refine wpAnyH_done (by kernel_rfl) ?_ _
          refine NoPanic.normal ?_
          go_wp2
          go_ret
          obtain ⟨S', a1, a2, a3⟩ := h.set (k := k) hk hM3 hown3.isL hown3.ty (fun d hd => .inr (hf3 d hd))
          exact ⟨rfl, S', a1, a2, a3⟩
      · go_simp
        refine hK.out _ _ trivial (fun hHeld => ?_)
        clear hK K
        try simp only [List.getElem_toArray, List.getElem_cons_succ, List.getElem_cons_zero, Act.put, List.setIfInBounds_toArray, List.set_cons_zero, List.set_cons_succ]
        refine wpAnyH_ready (rs := [2, 11]) (by kernel_rfl) (by simp) ?_
        refine AllReadyH.cons rfl (fun K hK => ?_) (AllReadyH.cons rfl (fun K hK => ?_) AllReadyH.nil)
        · go_simp
          refine hK.out _ _ trivial (fun hHeld => ?_)
          clear hK K
          try simp only [List.getElem_toArray, List.getElem_cons_succ, List.getElem_cons_zero, Act.put, List.setIfInBounds_toArray, List.set_cons_zero, List.set_cons_succ]
          refine wpAnyH_ready (rs := [9, 11]) (by kernel_rfl) (by simp) ?_
          refine AllReadyH.cons rfl (fun K hK => ?_) (AllReadyH.cons rfl (fun K hK => ?_) AllReadyH.nil)
          · have o1 : OwnL (w.alloc (.cells #[] 3)).drew (some ⟨w.heap.size, 0, none⟩) 0 0 [] := OwnL.empty w
            have r1 : IsL (w.alloc (.cells #[] 3)).drew A n c (L k) := hLk.alloc _
            (with_reducible refine step_app _ (by with_unfolding_all rfl) (.tmp 28) (.tmp 34) _ (by with_unfolding_all rfl) Try.underlying35 int_info _ _ _ _ (by with_unfolding_all rfl) o1 _ _ _ _ (by with_unfolding_all rfl) r1 (by omega) ?_)
            intro C2 p2 q2 w2 hp1 hp2 hown2 hg2 hat2
            obtain ⟨hM2, kL, hf2⟩ := app_facts (((Mod.refl _ w).alloc _).drew) (blk_size w) hLk hg2 hat2
            have o4 : OwnL (w2.alloc (.cells #[.int .i64 g] 3)) C2 p2 q2 ([] ++ L k) := hown2.alloc _
            have r4 : IsL (w2.alloc (.cells #[.int .i64 g] 3)) (some ⟨w2.heap.size, 0, none⟩) 1 1 [g] := IsL.one w2 g
            have hW2 : Mod (fun _ => False) w (w2.alloc (.cells #[.int .i64 g] 3)) := hM2.alloc _
            refine hK.out _ _ trivial (fun hHeld => ?_)
            clear hK K
            try simp only [List.getElem_toArray, List.getElem_cons_succ, List.getElem_cons_zero, Act.put, List.setIfInBounds_toArray, List.set_cons_zero, List.set_cons_succ]
            refine wpAnyH_ready (rs := [11]) (by kernel_rfl) (by simp) ?_
            refine AllReadyH.cons rfl (fun K hK => ?_) AllReadyH.nil
            go_simp
            refine hK.out _ _ trivial (fun hHeld => ?_)
            clear hK K
            try simp only [List.getElem_toArray, List.getElem_cons_succ, List.getElem_cons_zero, Act.put, List.setIfInBounds_toArray, List.set_cons_zero, List.set_cons_succ]
            refine wpAnyH_ready (rs := [12]) (by kernel_rfl) (by simp) ?_
            refine AllReadyH.cons rfl (fun K hK => ?_) AllReadyH.nil
            (with_reducible refine step_app _ (by with_unfolding_all rfl) (.tmp 35) (.tmp 37) _ (by with_unfolding_all rfl) Try.underlying35 int_info _ _ _ _ (by with_unfolding_all rfl) o4 _ _ _ _ (by with_unfolding_all rfl) r4 (by omega) ?_)
            intro C3 p3 q3 w3 hp3 hp4 hown3 hg3 hat3
            obtain ⟨hM3, kL3, hf3⟩ := app_facts hW2 hf2 hLk hg3 hat3
            have tc := (hM3.cell (p := ⟨r, k, none⟩) hblt (fun h => h)).trans hc
            have tf := (hM3.frozen (p := ⟨r, k, none⟩) hblt (fun h => h)).trans hfz
            have tb := Nat.lt_of_lt_of_le hblt hM3.size
            refine hK.out _ _ trivial (fun hHeld => ?_)
            clear hK K
            try simp only [List.getElem_toArray, List.getElem_cons_succ, List.getElem_cons_zero, Act.put, List.setIfInBounds_toArray, List.set_cons_zero, List.set_cons_succ]
            (refine wpAnyH_take (i := 15) (v := ?_) rfl (by kernel_rfl) (by kernel_rfl) (by kernel_rfl) (fun _ _ _ h => h) (Or.inl ⟨by rfl, ?_⟩) (by assumption) ?_; rotate_left; focus (intro wq hSw; (try dsimp only at hSw); go_simp; try with_reducible rfl); try simp only [List.getElem_toArray, List.getElem_cons_succ, List.getElem_cons_zero, Act.put, List.setIfInBounds_toArray, List.set_cons_zero, List.set_cons_succ])
            refine wpAnyH_ready (rs := [16]) (by kernel_rfl) (by simp) ?_
            refine AllReadyH.cons rfl (fun K hK => ?_) AllReadyH.nil
            go_simp
            refine hK.out _ _ trivial (fun hHeld => ?_)
            clear hK K
            try simp only [List.getElem_toArray, List.getElem_cons_succ, List.getElem_cons_zero, Act.put, List.setIfInBounds_toArray, List.set_cons_zero, List.set_cons_succ]
            refine wpAnyH_done (by kernel_rfl) ?_ _
            refine NoPanic.normal ?_
            go_wp2
            go_ret
            obtain ⟨S', a1, a2, a3⟩ := h.set (k := k) hk hM3 hown3.isL hown3.ty (fun d hd => .inr (hf3 d hd))
            exact ⟨rfl, S', a1, a2, a3⟩
          · go_simp
            refine hK.out _ _ trivial (fun hHeld => ?_)
            clear hK K
            try simp only [List.getElem_toArray, List.getElem_cons_succ, List.getElem_cons_zero, Act.put, List.setIfInBounds_toArray, List.set_cons_zero, List.set_cons_succ]
            refine wpAnyH_ready (rs := [9]) (by kernel_rfl) (by simp) ?_
            refine AllReadyH.cons rfl (fun K hK => ?_) AllReadyH.nil
            have o1 : OwnL ((w.alloc (.cells #[] 3)).alloc (.cells #[.int .i64 g] 3)).drew (some ⟨w.heap.size, 0, none⟩) 0 0 [] := (OwnL.empty w).alloc _
            have r1 : IsL ((w.alloc (.cells #[] 3)).alloc (.cells #[.int .i64 g] 3)).drew A n c (L k) := (hLk.alloc _).alloc _
            (with_reducible refine step_app _ (by with_unfolding_all rfl) (.tmp 28) (.tmp 34) _ (by with_unfolding_all rfl) Try.underlying35 int_info _ _ _ _ (by with_unfolding_all rfl) o1 _ _ _ _ (by with_unfolding_all rfl) r1 (by omega) ?_)
            intro C2 p2 q2 w2 hp1 hp2 hown2 hg2 hat2
            have r4 : IsL w2 (some ⟨w.heap.size + 1, 0, none⟩) 1 1 [g] := one_kept (w := ((w.alloc (.cells #[] 3)).alloc (.cells #[.int .i64 g] 3)).drew) (one_second w _ g) (fun d hd => by cases hd; simp [blk]) hg2
            obtain ⟨hM2, kL, hf2⟩ := app_facts ((((Mod.refl _ w).alloc _).alloc _).drew) (blk_size w) hLk hg2 hat2
            have o4 := hown2
            have hW2 := hM2
            refine hK.out _ _ trivial (fun hHeld => ?_)
            clear hK K
            try simp only [List.getElem_toArray, List.getElem_cons_succ, List.getElem_cons_zero, Act.put, List.setIfInBounds_toArray, List.set_cons_zero, List.set_cons_succ]
            refine wpAnyH_ready (rs := [12]) (by kernel_rfl) (by simp) ?_
            refine AllReadyH.cons rfl (fun K hK => ?_) AllReadyH.nil
            (with_reducible refine step_app _ (by with_unfolding_all rfl) (.tmp 35) (.tmp 37) _ (by with_unfolding_all rfl) Try.underlying35 int_info _ _ _ _ (by with_unfolding_all rfl) o4 _ _ _ _ (by with_unfolding_all rfl) r4 (by omega) ?_)
            intro C3 p3 q3 w3 hp3 hp4 hown3 hg3 hat3
            obtain ⟨hM3, kL3, hf3⟩ := app_facts hW2 hf2 hLk hg3 hat3
            have tc := (hM3.cell (p := ⟨r, k, none⟩) hblt (fun h => h)).trans hc
            have tf := (hM3.frozen (p := ⟨r, k, none⟩) hblt (fun h => h)).trans hfz
            have tb := Nat.lt_of_lt_of_le hblt hM3.size
            refine hK.out _ _ trivial (fun hHeld => ?_)
            clear hK K
            try simp only [List.getElem_toArray, List.getElem_cons_succ, List.getElem_cons_zero, Act.put, List.setIfInBounds_toArray, List.set_cons_zero, List.set_cons_succ]
            (refine wpAnyH_take (i := 15) (v := ?_) rfl (by kernel_rfl) (by kernel_rfl) (by kernel_rfl) (fun _ _ _ h => h) (Or.inl ⟨by rfl, ?_⟩) (by assumption) ?_; rotate_left; focus (intro wq hSw; (try dsimp only at hSw); go_simp; try with_reducible rfl); try simp only [List.getElem_toArray, List.getElem_cons_succ, List.getElem_cons_zero, Act.put, List.setIfInBounds_toArray, List.set_cons_zero, List.set_cons_succ])
            refine wpAnyH_ready (rs := [16]) (by kernel_rfl) (by simp) ?_
            refine AllReadyH.cons rfl (fun K hK => ?_) AllReadyH.nil
            go_simp
            refine hK.out _ _ trivial (fun hHeld => ?_)
            clear hK K
            try simp only [List.getElem_toArray, List.getElem_cons_succ, List.getElem_cons_zero, Act.put, List.setIfInBounds_toArray, List.set_cons_zero, List.set_cons_succ]
            refine wpAnyH_done (by kernel_rfl) ?_ _
            refine NoPanic.normal ?_
            go_wp2
            go_ret
            obtain ⟨S', a1, a2, a3⟩ := h.set (k := k) hk hM3 hown3.isL hown3.ty (fun d hd => .inr (hf3 d hd))
            exact ⟨rfl, S', a1, a2, a3⟩
        · go_simp
          refine hK.out _ _ trivial (fun hHeld => ?_)
          clear hK K
          try simp only [List.getElem_toArray, List.getElem_cons_succ, List.getElem_cons_zero, Act.put, List.setIfInBounds_toArray, List.set_cons_zero, List.set_cons_succ]
          refine wpAnyH_ready (rs := [2]) (by kernel_rfl) (by simp) ?_
          refine AllReadyH.cons rfl (fun K hK => ?_) AllReadyH.nil
          go_simp
          refine hK.out _ _ trivial (fun hHeld => ?_)
          clear hK K
          try simp only [List.getElem_toArray, List.getElem_cons_succ, List.getElem_cons_zero, Act.put, List.setIfInBounds_toArray, List.set_cons_zero, List.set_cons_succ]
          refine wpAnyH_ready (rs := [9]) (by kernel_rfl) (by simp) ?_
          refine AllReadyH.cons rfl (fun K hK => ?_) AllReadyH.nil
          have o1 : OwnL ((w.alloc (.cells #[.int .i64 g] 3)).alloc (.cells #[] 3)).drew (some ⟨w.heap.size + 1, 0, none⟩) 0 0 [] := own_second w _
          have r1 : IsL ((w.alloc (.cells #[.int .i64 g] 3)).alloc (.cells #[] 3)).drew A n c (L k) := (hLk.alloc _).alloc _
          (with_reducible refine step_app _ (by with_unfolding_all rfl) (.tmp 28) (.tmp 34) _ (by with_unfolding_all rfl) Try.underlying35 int_info _ _ _ _ (by with_unfolding_all rfl) o1 _ _ _ _ (by with_unfolding_all rfl) r1 (by omega) ?_)
          intro C2 p2 q2 w2 hp1 hp2 hown2 hg2 hat2
          have r4 : IsL w2 (some ⟨w.heap.size, 0, none⟩) 1 1 [g] := one_kept (w := ((w.alloc (.cells #[.int .i64 g] 3)).alloc (.cells #[] 3)).drew) ((IsL.one w g).alloc _) (fun d hd => by cases hd; simp [blk]) hg2
          obtain ⟨hM2, kL, hf2⟩ := app_facts ((((Mod.refl _ w).alloc _).alloc _).drew) (blk_second w) hLk hg2 hat2
          have o4 := hown2
          have hW2 := hM2
          refine hK.out _ _ trivial (fun hHeld => ?_)
          clear hK K
          try simp only [List.getElem_toArray, List.getElem_cons_succ, List.getElem_cons_zero, Act.put, List.setIfInBounds_toArray, List.set_cons_zero, List.set_cons_succ]
          refine wpAnyH_ready (rs := [12]) (by kernel_rfl) (by simp) ?_
          refine AllReadyH.cons rfl (fun K hK => ?_) AllReadyH.nil
          (with_reducible refine step_app _ (by with_unfolding_all rfl) (.tmp 35) (.tmp 37) _ (by with_unfolding_all rfl) Try.underlying35 int_info _ _ _ _ (by with_unfolding_all rfl) o4 _ _ _ _ (by with_unfolding_all rfl) r4 (by omega) ?_)
          intro C3 p3 q3 w3 hp3 hp4 hown3 hg3 hat3
          obtain ⟨hM3, kL3, hf3⟩ := app_facts hW2 hf2 hLk hg3 hat3
          have tc := (hM3.cell (p := ⟨r, k, none⟩) hblt (fun h => h)).trans hc
          have tf := (hM3.frozen (p := ⟨r, k, none⟩) hblt (fun h => h)).trans hfz
          have tb := Nat.lt_of_lt_of_le hblt hM3.size
          refine hK.out _ _ trivial (fun hHeld => ?_)
          clear hK K
          try simp only [List.getElem_toArray, List.getElem_cons_succ, List.getElem_cons_zero, Act.put, List.setIfInBounds_toArray, List.set_cons_zero, List.set_cons_succ]
          (refine wpAnyH_take (i := 15) (v := ?_) rfl (by kernel_rfl) (by kernel_rfl) (by kernel_rfl) (fun _ _ _ h => h) (Or.inl ⟨by rfl, ?_⟩) (by assumption) ?_; rotate_left; focus (intro wq hSw; (try dsimp only at hSw); go_simp; try with_reducible rfl); try simp only [List.getElem_toArray, List.getElem_cons_succ, List.getElem_cons_zero, Act.put, List.setIfInBounds_toArray, List.set_cons_zero, List.set_cons_succ])
          refine wpAnyH_ready (rs := [16]) (by kernel_rfl) (by simp) ?_
          refine AllReadyH.cons rfl (fun K hK => ?_) AllReadyH.nil
          go_simp
          refine hK.out _ _ trivial (fun hHeld => ?_)
          clear hK K
          try simp only [List.getElem_toArray, List.getElem_cons_succ, List.getElem_cons_zero, Act.put, List.setIfInBounds_toArray, List.set_cons_zero, List.set_cons_succ]
          refine wpAnyH_done (by kernel_rfl) ?_ _
          refine NoPanic.normal ?_
          go_wp2
          go_ret
          obtain ⟨S', a1, a2, a3⟩ := h.set (k := k) hk hM3 hown3.isL hown3.ty (fun d hd => .inr (hf3 d hd))
          exact ⟨rfl, S', a1, a2, a3⟩
      · go_simp
        refine hK.out _ _ trivial (fun hHeld => ?_)
        clear hK K
        try simp only [List.getElem_toArray, List.getElem_cons_succ, List.getElem_cons_zero, Act.put, List.setIfInBounds_toArray, List.set_cons_zero, List.set_cons_succ]
        refine wpAnyH_ready (rs := [2, 8]) (by kernel_rfl) (by simp) ?_
        refine AllReadyH.cons rfl (fun K hK => ?_) (AllReadyH.cons rfl (fun K hK => ?_) AllReadyH.nil)
        · go_simp
          refine hK.out _ _ trivial (fun hHeld => ?_)
          clear hK K
          try simp only [List.getElem_toArray, List.getElem_cons_succ, List.getElem_cons_zero, Act.put, List.setIfInBounds_toArray, List.set_cons_zero, List.set_cons_succ]
          refine wpAnyH_ready (rs := [8]) (by kernel_rfl) (by simp) ?_
          refine AllReadyH.cons rfl (fun K hK => ?_) AllReadyH.nil
          go_simp
          refine hK.out _ _ trivial (fun hHeld => ?_)
          clear hK K
          try simp only [List.getElem_toArray, List.getElem_cons_succ, List.getElem_cons_zero, Act.put, List.setIfInBounds_toArray, List.set_cons_zero, List.set_cons_succ]
          refine wpAnyH_ready (rs := [9]) (by kernel_rfl) (by simp) ?_
          refine AllReadyH.cons rfl (fun K hK => ?_) AllReadyH.nil
          have o1 : OwnL ((w.alloc (.cells #[.int .i64 g] 3)).alloc (.cells #[] 3)).drew (some ⟨w.heap.size + 1, 0, none⟩) 0 0 [] := own_second w _
          have r1 : IsL ((w.alloc (.cells #[.int .i64 g] 3)).alloc (.cells #[] 3)).drew A n c (L k) := (hLk.alloc _).alloc _
          (with_reducible refine step_app _ (by with_unfolding_all rfl) (.tmp 28) (.tmp 34) _ (by with_unfolding_all rfl) Try.underlying35 int_info _ _ _ _ (by with_unfolding_all rfl) o1 _ _ _ _ (by with_unfolding_all rfl) r1 (by omega) ?_)
          intro C2 p2 q2 w2 hp1 hp2 hown2 hg2 hat2
          have r4 : IsL w2 (some ⟨w.heap.size, 0, none⟩) 1 1 [g] := one_kept (w := ((w.alloc (.cells #[.int .i64 g] 3)).alloc (.cells #[] 3)).drew) ((IsL.one w g).alloc _) (fun d hd => by cases hd; simp [blk]) hg2
          obtain ⟨hM2, kL, hf2⟩ := app_facts ((((Mod.refl _ w).alloc _).alloc _).drew) (blk_second w) hLk hg2 hat2
          have o4 := hown2
          have hW2 := hM2
          refine hK.out _ _ trivial (fun hHeld => ?_)
          clear hK K
          try simp only [List.getElem_toArray, List.getElem_cons_succ, List.getElem_cons_zero, Act.put, List.setIfInBounds_toArray, List.set_cons_zero, List.set_cons_succ]
          refine wpAnyH_ready (rs := [12]) (by kernel_rfl) (by simp) ?_
          refine AllReadyH.cons rfl (fun K hK => ?_) AllReadyH.nil
          (with_reducible refine step_app _ (by with_unfolding_all rfl) (.tmp 35) (.tmp 37) _ (by with_unfolding_all rfl) Try.underlying35 int_info _ _ _ _ (by with_unfolding_all rfl) o4 _ _ _ _ (by with_unfolding_all rfl) r4 (by omega) ?_)
          intro C3 p3 q3 w3 hp3 hp4 hown3 hg3 hat3
          obtain ⟨hM3, kL3, hf3⟩ := app_facts hW2 hf2 hLk hg3 hat3
          have tc := (hM3.cell (p := ⟨r, k, none⟩) hblt (fun h => h)).trans hc
          have tf := (hM3.frozen (p := ⟨r, k, none⟩) hblt (fun h => h)).trans hfz
          have tb := Nat.lt_of_lt_of_le hblt hM3.size
          refine hK.out _ _ trivial (fun hHeld => ?_)
          clear hK K
          try simp only [List.getElem_toArray, List.getElem_cons_succ, List.getElem_cons_zero, Act.put, List.setIfInBounds_toArray, List.set_cons_zero, List.set_cons_succ]
          (refine wpAnyH_take (i := 15) (v := ?_) rfl (by kernel_rfl) (by kernel_rfl) (by kernel_rfl) (fun _ _ _ h => h) (Or.inl ⟨by rfl, ?_⟩) (by assumption) ?_; rotate_left; focus (intro wq hSw; (try dsimp only at hSw); go_simp; try with_reducible rfl); try simp only [List.getElem_toArray, List.getElem_cons_succ, List.getElem_cons_zero, Act.put, List.setIfInBounds_toArray, List.set_cons_zero, List.set_cons_succ])
          refine wpAnyH_ready (rs := [16]) (by kernel_rfl) (by simp) ?_
          refine AllReadyH.cons rfl (fun K hK => ?_) AllReadyH.nil
          go_simp
          refine hK.out _ _ trivial (fun hHeld => ?_)
          clear hK K
          try simp only [List.getElem_toArray, List.getElem_cons_succ, List.getElem_cons_zero, Act.put, List.setIfInBounds_toArray, List.set_cons_zero, List.set_cons_succ]
          refine wpAnyH_done (by kernel_rfl) ?_ _
          refine NoPanic.normal ?_
          go_wp2
          go_ret
          obtain ⟨S', a1, a2, a3⟩ := h.set (k := k) hk hM3 hown3.isL hown3.ty (fun d hd => .inr (hf3 d hd))
          exact ⟨rfl, S', a1, a2, a3⟩
        · go_simp
          refine hK.out _ _ trivial (fun hHeld => ?_)
          clear hK K
          try simp only [List.getElem_toArray, List.getElem_cons_succ, List.getElem_cons_zero, Act.put, List.setIfInBounds_toArray, List.set_cons_zero, List.set_cons_succ]
          refine wpAnyH_ready (rs := [2]) (by kernel_rfl) (by simp) ?_
          refine AllReadyH.cons rfl (fun K hK => ?_) AllReadyH.nil
          go_simp
          refine hK.out _ _ trivial (fun hHeld => ?_)
          clear hK K
          try simp only [List.getElem_toArray, List.getElem_cons_succ, List.getElem_cons_zero, Act.put, List.setIfInBounds_toArray, List.set_cons_zero, List.set_cons_succ]
          refine wpAnyH_ready (rs := [9]) (by kernel_rfl) (by simp) ?_
          refine AllReadyH.cons rfl (fun K hK => ?_) AllReadyH.nil
          have o1 : OwnL ((w.alloc (.cells #[.int .i64 g] 3)).alloc (.cells #[] 3)).drew (some ⟨w.heap.size + 1, 0, none⟩) 0 0 [] := own_second w _
          have r1 : IsL ((w.alloc (.cells #[.int .i64 g] 3)).alloc (.cells #[] 3)).drew A n c (L k) := (hLk.alloc _).alloc _
          (with_reducible refine step_app _ (by with_unfolding_all rfl) (.tmp 28) (.tmp 34) _ (by with_unfolding_all rfl) Try.underlying35 int_info _ _ _ _ (by with_unfolding_all rfl) o1 _ _ _ _ (by with_unfolding_all rfl) r1 (by omega) ?_)
          intro C2 p2 q2 w2 hp1 hp2 hown2 hg2 hat2
          have r4 : IsL w2 (some ⟨w.heap.size, 0, none⟩) 1 1 [g] := one_kept (w := ((w.alloc (.cells #[.int .i64 g] 3)).alloc (.cells #[] 3)).drew) ((IsL.one w g).alloc _) (fun d hd => by cases hd; simp [blk]) hg2
          obtain ⟨hM2, kL, hf2⟩ := app_facts ((((Mod.refl _ w).alloc _).alloc _).drew) (blk_second w) hLk hg2 hat2
          have o4 := hown2
          have hW2 := hM2
          refine hK.out _ _ trivial (fun hHeld => ?_)
          clear hK K
          try simp only [List.getElem_toArray, List.getElem_cons_succ, List.getElem_cons_zero, Act.put, List.setIfInBounds_toArray, List.set_cons_zero, List.set_cons_succ]
          refine wpAnyH_ready (rs := [12]) (by kernel_rfl) (by simp) ?_
          refine AllReadyH.cons rfl (fun K hK => ?_) AllReadyH.nil
          (with_reducible refine step_app _ (by with_unfolding_all rfl) (.tmp 35) (.tmp 37) _ (by with_unfolding_all rfl) Try.underlying35 int_info _ _ _ _ (by with_unfolding_all rfl) o4 _ _ _ _ (by with_unfolding_all rfl) r4 (by omega) ?_)
          intro C3 p3 q3 w3 hp3 hp4 hown3 hg3 hat3
          obtain ⟨hM3, kL3, hf3⟩ := app_facts hW2 hf2 hLk hg3 hat3
          have tc := (hM3.cell (p := ⟨r, k, none⟩) hblt (fun h => h)).trans hc
          have tf := (hM3.frozen (p := ⟨r, k, none⟩) hblt (fun h => h)).trans hfz
          have tb := Nat.lt_of_lt_of_le hblt hM3.size
          refine hK.out _ _ trivial (fun hHeld => ?_)
          clear hK K
          try simp only [List.getElem_toArray, List.getElem_cons_succ, List.getElem_cons_zero, Act.put, List.setIfInBounds_toArray, List.set_cons_zero, List.set_cons_succ]
          (refine wpAnyH_take (i := 15) (v := ?_) rfl (by kernel_rfl) (by kernel_rfl) (by kernel_rfl) (fun _ _ _ h => h) (Or.inl ⟨by rfl, ?_⟩) (by assumption) ?_; rotate_left; focus (intro wq hSw; (try dsimp only at hSw); go_simp; try with_reducible rfl); try simp only [List.getElem_toArray, List.getElem_cons_succ, List.getElem_cons_zero, Act.put, List.setIfInBounds_toArray, List.set_cons_zero, List.set_cons_succ])
          refine wpAnyH_ready (rs := [16]) (by kernel_rfl) (by simp) ?_
          refine AllReadyH.cons rfl (fun K hK => ?_) AllReadyH.nil
          go_simp
          refine hK.out _ _ trivial (fun hHeld => ?_)
          clear hK K
          try simp only [List.getElem_toArray, List.getElem_cons_succ, List.getElem_cons_zero, Act.put, List.setIfInBounds_toArray, List.set_cons_zero, List.set_cons_succ]
          refine wpAnyH_done (by kernel_rfl) ?_ _
          refine NoPanic.normal ?_
          go_wp2
          go_ret
          obtain ⟨S', a1, a2, a3⟩ := h.set (k := k) hk hM3 hown3.isL hown3.ty (fun d hd => .inr (hf3 d hd))
          exact ⟨rfl, S', a1, a2, a3⟩

end Go.Proofs.Ytjjbcfbljnekgaa
