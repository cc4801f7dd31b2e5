/-
  treadmilllaw27.SchedSteals: the walk.
-/
import Derived.Test.YtgojfccaohngaaaSchL
set_option linter.unusedSimpArgs false
namespace Go.Proofs.Ytgojfccaohngaaa
open Go.RowKit

def R3 (r0 r2 : List Int) (nx : Option Int) : Nat → RM := upd (upd E0 0 (r0, none)) 2 (r2, nx)
theorem R3_0 (r0 r2 : List Int) (nx : Option Int) : R3 r0 r2 nx 0 = (r0, none) := by unfold R3; rw [upd_ne _ _ (by decide), upd_same]
theorem R3_1 (r0 r2 : List Int) (nx : Option Int) : R3 r0 r2 nx 1 = ([], none) := by unfold R3; rw [upd_ne _ _ (by decide), upd_ne _ _ (by decide)]; rfl
theorem R3_2 (r0 r2 : List Int) (nx : Option Int) : R3 r0 r2 nx 2 = (r2, nx) := upd_same _ _ _
theorem R3_set0 (r0 r2 x : List Int) (nx : Option Int) : upd (R3 r0 r2 nx) 0 (x, none) = R3 x r2 nx := by
  unfold R3
  rw [upd_comm _ (by decide), upd_upd]
theorem R3_set2 (r0 r2 x : List Int) (nx ny : Option Int) : upd (R3 r0 r2 nx) 2 (x, ny) = R3 r0 x ny := upd_upd _ _ _ _
theorem R3_start : (fun _ => (([], none) : RM)) = R3 [] [] none := by
  funext i
  unfold R3
  by_cases e : i = 2
  · rw [e, upd_same]
  · rw [upd_ne _ _ e]
    by_cases e2 : i = 0
    · rw [e2, upd_same]
    · rw [upd_ne _ _ e2]; rfl
theorem R3_sum (r0 r2 : List Int) (nx : Option Int) : sumR (R3 r0 r2 nx) 3 = r0.length + (nx.toList ++ r2).length := by
  simp only [sumR, R3_0, R3_1, R3_2, len2]
  simp
theorem steal_same (R : Nat → RM) (p v : Nat) (h : R p = ([], none)) (h2 : R v = ([], none)) (hne : v ≠ p) : getR (stealR R p v) p = R ∧ (rget (stA (R p) (R v)).1 (stA (R p) (R v)).2).1 = (0, false) := by
  have e1 : stA (R p) (R v) = ([], none) := by rw [h, h2]; rfl
  have e2 : stB (R p) (R v) = ([], none) := by rw [h, h2]; rfl
  refine ⟨?_, by rw [e1]; rfl⟩
  funext i
  unfold getR
  by_cases e : i = p
  · rw [e, upd_same, stealR_p (fun e => hne e.symm), e1, h]; rfl
  · rw [upd_ne _ _ e]
    unfold stealR
    by_cases e3 : i = v
    · rw [e3, upd_same, e2, h2]
    · rw [upd_ne _ _ e3, upd_ne _ _ e]
/-- The theft: half of k numbers. -/
theorem steal_half (k H : Nat) (nx : Option Int) (hk : 1 ≤ k) (hH : H = k - k / 2) (h200 : k ≤ 200) :
    (rget (stA (R3 [] (upto 0 k) nx 0) (R3 [] (upto 0 k) nx 2)).1 (stA (R3 [] (upto 0 k) nx 0) (R3 [] (upto 0 k) nx 2)).2).1 = (0, true) ∧
      getR (stealR (R3 [] (upto 0 k) nx) 0 2) 0 = R3 (upto 1 (H - 1)) (upto H (k / 2)) nx := by
  obtain ⟨j, rfl⟩ : ∃ j, k = j + 1 := ⟨k - 1, by omega⟩
  have hm : min ((upto 0 (j + 1)).length - (upto 0 (j + 1)).length / 2) (256 - ([] : List Int).length) = H := by rw [upto_len, List.length_nil]; omega
  have hs : rsteal [] (upto 0 (j + 1)) nx = (H, upto 0 H, upto H ((j + 1) / 2), nx) := by
    have e : rsteal [] (upto 0 (j + 1)) nx = (min ((upto 0 (j + 1)).length - (upto 0 (j + 1)).length / 2) (256 - ([] : List Int).length), [] ++ (upto 0 (j + 1)).take (min ((upto 0 (j + 1)).length - (upto 0 (j + 1)).length / 2) (256 - ([] : List Int).length)),
        (upto 0 (j + 1)).drop (min ((upto 0 (j + 1)).length - (upto 0 (j + 1)).length / 2) (256 - ([] : List Int).length)), nx) := rfl
    rw [e, hm, upto_take _ _ _ (by omega), upto_drop _ _ _ (by omega)]
    have e2 : j + 1 - H = (j + 1) / 2 := by omega
    rw [e2]
    simp
  have eA : stA (R3 [] (upto 0 (j + 1)) nx 0) (R3 [] (upto 0 (j + 1)) nx 2) = (upto 0 H, none) := by
    rw [R3_0, R3_2]; unfold stA; rw [hs]
  have eB : stB (R3 [] (upto 0 (j + 1)) nx 0) (R3 [] (upto 0 (j + 1)) nx 2) = (upto H ((j + 1) / 2), nx) := by
    rw [R3_0, R3_2]; unfold stB; rw [hs]
  obtain ⟨i, hi⟩ : ∃ i, H = i + 1 := ⟨H - 1, by omega⟩
  have eH : upto 0 H = 0 :: upto 1 (H - 1) := by rw [hi]; rfl
  refine ⟨by rw [eA, eH]; rfl, ?_⟩
  have eS : stealR (R3 [] (upto 0 (j + 1)) nx) 0 2 = R3 (upto 0 H) (upto H ((j + 1) / 2)) nx := by
    unfold stealR
    rw [eA, eB, R3_set0, R3_set2]
  rw [eS]
  unfold getR
  have e9 : get2 (R3 (upto 0 H) (upto H ((j + 1) / 2)) nx 0) = (upto 1 (H - 1), none) := by rw [R3_0, eH]; rfl
  rw [e9, R3_set0]
theorem upto_mem {a : Int} {n : Nat} {x : Int} (h : x ∈ upto a n) : a ≤ x ∧ x < a + n := by
  obtain ⟨i, hi, e⟩ := List.getElem_of_mem h
  rw [upto_len] at hi
  have e2 := upto_getD a n i hi
  rw [List.getD_eq_getElem?_getD, List.getElem?_eq_getElem (by rw [upto_len]; exact hi)] at e2
  have e3 : x = a + (i : Int) := by rw [← e]; exact e2
  omega
theorem where_next (a : Int) (n : Nat) (r2 : List Int) (h : a + n ≤ 1000) : swhere (R3 (upto a n) r2 (some 5000)) [] 3 5000 = (2, true) :=
  swhere_ring (k := 2) (by omega) (by rw [R3_2]; simp [all2]) (fun j hj => by
    have h3 : j = 0 ∨ j = 1 := by omega
    rcases h3 with rfl | rfl
    · rw [R3_0]; intro hm; have := upto_mem (show (5000 : Int) ∈ upto a n from by simpa [all2] using hm); omega
    · rw [R3_1]; simp [all2])
theorem where_none (a b : Int) (n m : Nat) (h : a + n ≤ 1000) (h2 : b + m ≤ 1000) : swhere (R3 (upto a n) (upto b m) none) [] 3 5000 = (0, false) := by
  rw [swhere_queue (fun j hj => ?_)]
  · simp
  · have h3 : j = 0 ∨ j = 1 ∨ j = 2 := by omega
    rcases h3 with rfl | rfl | rfl
    · rw [R3_0]; intro hm; have := upto_mem (show (5000 : Int) ∈ upto a n from by simpa [all2] using hm); omega
    · rw [R3_1]; simp [all2]
    · rw [R3_2]; intro hm; have := upto_mem (show (5000 : Int) ∈ upto b m from by simpa [all2] using hm); omega

set_option maxHeartbeats 4000000 in
set_option maxRecDepth 100000 in
theorem ssteals_true (n : Int) (w : World) : Calls Try.prog 13 #[.int .i64 n, .bool true] w fun e w' => e = .returned (.bool true) ∧ Mod (fun _ => False) w w' := by
  obtain ⟨k, hk, ek⟩ := umod n 200 (by omega)
  have ek' : (IntKind.u64.wrap n).tmod 200 = (k : Int) := ek
  clear ek
  go_enter Try.func13, Try.ntmps13
  go_wp2_with fail
  refine (snew_yes 3 w (by omega) (by omega)).mono ?_
  rintro e w1 ⟨a, rfl, hps, h1⟩
  rw [R3_start] at h1
  have HP := Lib.hid hps
  clear hps
  go_wp2_with fail
  clear ek'
  go_loopw [8] (fun i wr => ∃ m : Nat, m ≤ k + 1 ∧ i = .int .i64 m ∧ SL w a wr (R3 [] (upto 0 m) none) []) (fun i _ => k + 1 - (intOf i).toNat)
  case atStart => exact ⟨0, by omega, rfl, h1⟩
  case round =>
    clear h1
    obtain ⟨m, hm, rfl, h⟩ := hrel
    by_cases hmk : m < k + 1
    · have hr := ready_room (R3 [] (upto 0 m) none) [] 2 m (R3_2 _ _ _) (by rw [upto_len]; omega)
      have e : upto 0 m ++ [(m : Int)] = upto 0 (m + 1) := by rw [upto_snoc]; simp
      rw [e, R3_set2] at hr
      have HR := Lib.hid hr
      clear e hr
      go_wp2_with fail
      refine (h.ready 2 (by have := HP.out; omega) m false (by simp)).mono ?_
      rintro e w2 ⟨rfl, h2⟩
      rw [HR.out.1, HR.out.2] at h2
      clear h
      go_wp2_with fail
      go_roundw
      case rel => exact ⟨m + 1, by omega, by go_num, h2⟩
      case measure => simp [intOf]; omega
    · obtain rfl : m = k + 1 := by omega
      clear hm hmk
      obtain ⟨wa, rfl⟩ : ∃ wa : World, wa = wr := ⟨_, rfl⟩
      go_wp2_with fail
      refine (h.ready 2 (by have := HP.out; omega) 5000 true (by simp)).mono ?_
      rintro e w2 ⟨rfl, h2⟩
      obtain ⟨r1, r2⟩ := ready_next (R3 [] (upto 0 (k + 1)) none) [] 2 5000 (R3_2 _ _ _)
      rw [r1, r2, R3_set2] at h2
      clear h r1 r2
      have h := h2
      clear h2
      go_wp2_with fail
      -- who has nobody, and nobody to steal from
      refine (h.pick' 0 (by have := HP.out; omega) 1 0 (by simp) (pickM_none _ _ _ _ _ (R3_0 _ _ _) (by omega))).mono ?_
      rintro e w3 ⟨rfl, h3⟩
      clear h
      go_wp2_with fail
      refine (h3.pick' 0 (by have := HP.out; omega) 1 3 (by simp) (pickM_none _ _ _ _ _ (R3_0 _ _ _) (by have := HP.out; omega))).mono ?_
      rintro e w4 ⟨rfl, h4⟩
      clear h3
      -- the theft
      obtain ⟨H, hH⟩ : ∃ H, H = (k + 1) - (k + 1) / 2 := ⟨_, rfl⟩
      obtain ⟨L, hL⟩ : ∃ L, L = (k + 1) / 2 := ⟨_, rfl⟩
      have hst := steal_half (k + 1) H (some 5000) (by omega) hH (by omega)
      have hpk := pickM_steal (R3 [] (upto 0 (k + 1)) (some 5000)) a.ps 0 1 2 (R3_0 _ _ _) (by have := HP.out; omega) (by omega)
      rw [hst.1, hst.2, ← hL] at hpk
      have h5 := h4.pick' 0 (by have := HP.out; omega) 1 (2 : Nat) (by simp) hpk
      have H5 := Lib.hid h5
      have hHL : H + L = k + 1 := by omega
      have hH1 : 1 ≤ H := by omega
      have e1 : 1 + (k : Int) - (1 + (k : Int)) / 2 = (H : Int) := by omega
      have e2 : (1 + (k : Int)) / 2 = (L : Int) := by omega
      have E1 := Lib.hid e1
      have E2 := Lib.hid e2
      have HH := Lib.hid hH
      have HL := Lib.hid hL
      clear hst hpk h5 e1 e2 hH hL
      go_wp2_with fail
      refine H5.out.mono ?_
      rintro e w5 ⟨rfl, h5⟩
      clear h4
      go_wp2_with fail
      rw [E1.out, E2.out]
      refine (h5.local 0 (by have := HP.out; omega)).mono ?_
      rintro e w6 ⟨A6, c6, rfl, _, h6, _⟩
      have e6 : len2 (R3 (upto 1 (H - 1)) (upto H L) (some 5000) 0) = H - 1 := by rw [R3_0]; simp [len2, upto_len]
      rw [e6]
      have hz1 : (((H - 1 : Nat) : Int) != (H : Int) - 1) = false := by rw [bne_eq_false_iff_eq]; omega
      clear h5 e6
      go_wp2_with fail
      refine (h6.local 2 (by have := HP.out; omega)).mono ?_
      rintro e w7 ⟨A7, c7, rfl, _, h7, _⟩
      have e7 : len2 (R3 (upto 1 (H - 1)) (upto H L) (some 5000) 2) = (L + 1) := by rw [R3_2]; simp [len2, upto_len]
      rw [e7]
      have hz2 : ((((L + 1) : Nat) : Int) != (L : Int) + 1) = false := by first | (rw [bne_eq_false_iff_eq]; omega) | simp
      have hwh := h7.where 5000 (by simp)
      rw [HP.out] at hwh
      rw [where_next 1 (H - 1) (upto H L) (by omega)] at hwh
      have HW := Lib.hid hwh
      clear h6 e7 hwh
      go_wp2_with fail
      refine HW.out.mono ?_
      rintro e w8 ⟨rfl, h8⟩
      clear h7 hz1 hz2
      go_wp2_with fail
      go_loopw [19] (fun i wr => ∃ m : Nat, 1 ≤ m ∧ m ≤ H ∧ i = .int .i64 m ∧ SL w a wr (R3 (upto m (H - m)) (upto H L) (some 5000)) []) (fun i _ => H - (intOf i).toNat)
      case atStart => exact ⟨1, by omega, by omega, rfl, h8⟩
      case round =>
        clear h8
        obtain ⟨m, hm1, hm, rfl, h⟩ := hrel
        by_cases hmH : m < H
        · have eu : upto m (H - m) = (m : Int) :: upto ((m + 1 : Nat) : Int) (H - (m + 1)) := by
            obtain ⟨j, hj⟩ : ∃ j, H - m = j + 1 := ⟨H - m - 1, by omega⟩
            have hj2 : H - (m + 1) = j := by omega
            rw [hj, hj2]
            simp [upto]
          rw [eu] at h
          have hpk := pickM_row (R3 ((m : Int) :: upto ((m + 1 : Nat) : Int) (H - (m + 1))) (upto H L) (some 5000)) [] a.ps 0 1 1 (not_fair_nil _) (R3_0 _ _ _)
          rw [R3_set0] at hpk
          have hp := h.pick' 0 (by have := HP.out; omega) 1 1 (by simp) hpk
          have HPk := Lib.hid hp
          clear eu hpk hp
          go_wp2_with fail
          refine HPk.out.mono ?_
          rintro e w9 ⟨rfl, h9⟩
          clear h
          have hzz : ((m : Int) != (m : Int)) = false := by simp
          go_wp2_with fail
          go_roundw
          case rel => exact ⟨m + 1, by omega, by omega, by go_num, h9⟩
          case measure => simp [intOf]; omega
        · obtain rfl : m = H := by omega
          have e0 : upto (m : Int) (m - m) = [] := by rw [Nat.sub_self]; rfl
          rw [e0] at h
          have hss := steal_same (R3 [] (upto m L) (some 5000)) 0 1 (R3_0 _ _ _) (R3_1 _ _ _) (by omega)
          have hpk := pickM_steal (R3 [] (upto m L) (some 5000)) a.ps 0 1 1 (R3_0 _ _ _) (by have := HP.out; omega) (by omega)
          rw [hss.1, hss.2] at hpk
          have hp := h.pick' 0 (by have := HP.out; omega) 1 (1 : Nat) (by simp) hpk
          have HPk := Lib.hid hp
          have hl : ∀ W, SL w a W (R3 [] (upto m L) (some 5000)) [] → Calls Try.prog 44 #[.pointer (some ⟨a.s, 0, none⟩)] W fun e w' => e = .returned (.int .i64 (((L + 1) : Nat) : Int)) ∧ SL w a w' (R3 [] (upto m L) (some 5000)) [] := fun W hW => by
            have h9 := hW.len (by simp)
            rw [HP.out, R3_sum] at h9
            have e9 : ([] : List Int).length + (([] : List Int).length + (((some 5000) : Option Int).toList ++ upto m L).length) = (L + 1) := by simp [upto_len]
            rw [e9] at h9
            exact h9
          have HLn := Lib.hid hl
          clear e0 hss hpk hp hl
          go_wp2_with fail
          refine HPk.out.mono ?_
          rintro e w9 ⟨rfl, h9⟩
          clear h
          go_wp2_with fail
          refine (pick_nil 0 1 0 _).mono ?_
          rintro e w10 ⟨rfl, m10⟩
          have h10 := h9.keep0 m10
          go_wp2_with fail
          refine (told27 _).mono ?_
          rintro e w11 ⟨rfl, m11⟩
          have h11 := h10.keep0 m11
          go_wp2_with fail
          refine (slen_nil _).mono ?_
          rintro e w12 ⟨rfl, hw⟩
          obtain rfl := hw.symm
          clear hw h9 h10 m10 m11
          go_wp2_with fail
          refine (HLn.out _ h11).mono ?_
          rintro e w13 ⟨rfl, h13⟩
          have hz3 : ((((L + 1) : Nat) : Int) == (L : Int) + 1) = true := by first | (rw [beq_iff_eq]; omega) | simp
          have hmd := h13.mod
          clear h11 h13
          go_wp2_with fail
          go_ret
          exact ⟨rfl, hmd⟩

set_option maxHeartbeats 4000000 in
set_option maxRecDepth 100000 in
theorem ssteals_false (n : Int) (w : World) : Calls Try.prog 13 #[.int .i64 n, .bool false] w fun e w' => e = .returned (.bool true) ∧ Mod (fun _ => False) w w' := by
  obtain ⟨k, hk, ek⟩ := umod n 200 (by omega)
  have ek' : (IntKind.u64.wrap n).tmod 200 = (k : Int) := ek
  clear ek
  go_enter Try.func13, Try.ntmps13
  go_wp2_with fail
  refine (snew_yes 3 w (by omega) (by omega)).mono ?_
  rintro e w1 ⟨a, rfl, hps, h1⟩
  rw [R3_start] at h1
  have HP := Lib.hid hps
  clear hps
  go_wp2_with fail
  clear ek'
  go_loopw [8] (fun i wr => ∃ m : Nat, m ≤ k + 1 ∧ i = .int .i64 m ∧ SL w a wr (R3 [] (upto 0 m) none) []) (fun i _ => k + 1 - (intOf i).toNat)
  case atStart => exact ⟨0, by omega, rfl, h1⟩
  case round =>
    clear h1
    obtain ⟨m, hm, rfl, h⟩ := hrel
    by_cases hmk : m < k + 1
    · have hr := ready_room (R3 [] (upto 0 m) none) [] 2 m (R3_2 _ _ _) (by rw [upto_len]; omega)
      have e : upto 0 m ++ [(m : Int)] = upto 0 (m + 1) := by rw [upto_snoc]; simp
      rw [e, R3_set2] at hr
      have HR := Lib.hid hr
      clear e hr
      go_wp2_with fail
      refine (h.ready 2 (by have := HP.out; omega) m false (by simp)).mono ?_
      rintro e w2 ⟨rfl, h2⟩
      rw [HR.out.1, HR.out.2] at h2
      clear h
      go_wp2_with fail
      go_roundw
      case rel => exact ⟨m + 1, by omega, by go_num, h2⟩
      case measure => simp [intOf]; omega
    · obtain rfl : m = k + 1 := by omega
      clear hm hmk
      obtain ⟨wa, rfl⟩ : ∃ wa : World, wa = wr := ⟨_, rfl⟩
      go_wp2_with fail
      -- who has nobody, and nobody to steal from
      refine (h.pick' 0 (by have := HP.out; omega) 1 0 (by simp) (pickM_none _ _ _ _ _ (R3_0 _ _ _) (by omega))).mono ?_
      rintro e w3 ⟨rfl, h3⟩
      clear h
      go_wp2_with fail
      refine (h3.pick' 0 (by have := HP.out; omega) 1 3 (by simp) (pickM_none _ _ _ _ _ (R3_0 _ _ _) (by have := HP.out; omega))).mono ?_
      rintro e w4 ⟨rfl, h4⟩
      clear h3
      -- the theft
      obtain ⟨H, hH⟩ : ∃ H, H = (k + 1) - (k + 1) / 2 := ⟨_, rfl⟩
      obtain ⟨L, hL⟩ : ∃ L, L = (k + 1) / 2 := ⟨_, rfl⟩
      have hst := steal_half (k + 1) H none (by omega) hH (by omega)
      have hpk := pickM_steal (R3 [] (upto 0 (k + 1)) none) a.ps 0 1 2 (R3_0 _ _ _) (by have := HP.out; omega) (by omega)
      rw [hst.1, hst.2, ← hL] at hpk
      have h5 := h4.pick' 0 (by have := HP.out; omega) 1 (2 : Nat) (by simp) hpk
      have H5 := Lib.hid h5
      have hHL : H + L = k + 1 := by omega
      have hH1 : 1 ≤ H := by omega
      have e1 : 1 + (k : Int) - (1 + (k : Int)) / 2 = (H : Int) := by omega
      have e2 : (1 + (k : Int)) / 2 = (L : Int) := by omega
      have E1 := Lib.hid e1
      have E2 := Lib.hid e2
      have HH := Lib.hid hH
      have HL := Lib.hid hL
      clear hst hpk h5 e1 e2 hH hL
      go_wp2_with fail
      refine H5.out.mono ?_
      rintro e w5 ⟨rfl, h5⟩
      clear h4
      go_wp2_with fail
      rw [E1.out, E2.out]
      refine (h5.local 0 (by have := HP.out; omega)).mono ?_
      rintro e w6 ⟨A6, c6, rfl, _, h6, _⟩
      have e6 : len2 (R3 (upto 1 (H - 1)) (upto H L) none 0) = H - 1 := by rw [R3_0]; simp [len2, upto_len]
      rw [e6]
      have hz1 : (((H - 1 : Nat) : Int) != (H : Int) - 1) = false := by rw [bne_eq_false_iff_eq]; omega
      clear h5 e6
      go_wp2_with fail
      refine (h6.local 2 (by have := HP.out; omega)).mono ?_
      rintro e w7 ⟨A7, c7, rfl, _, h7, _⟩
      have e7 : len2 (R3 (upto 1 (H - 1)) (upto H L) none 2) = L := by rw [R3_2]; simp [len2, upto_len]
      rw [e7]
      have hz2 : (((L : Nat) : Int) != (L : Int)) = false := by first | (rw [bne_eq_false_iff_eq]; omega) | simp
      have hwh := h7.where 5000 (by simp)
      rw [HP.out] at hwh
      rw [where_none 1 H (H - 1) L (by omega) (by omega)] at hwh
      have HW := Lib.hid hwh
      clear h6 e7 hwh
      go_wp2_with fail
      refine HW.out.mono ?_
      rintro e w8 ⟨rfl, h8⟩
      clear h7 hz1 hz2
      go_wp2_with fail
      go_loopw [19] (fun i wr => ∃ m : Nat, 1 ≤ m ∧ m ≤ H ∧ i = .int .i64 m ∧ SL w a wr (R3 (upto m (H - m)) (upto H L) none) []) (fun i _ => H - (intOf i).toNat)
      case atStart => exact ⟨1, by omega, by omega, rfl, h8⟩
      case round =>
        clear h8
        obtain ⟨m, hm1, hm, rfl, h⟩ := hrel
        by_cases hmH : m < H
        · have eu : upto m (H - m) = (m : Int) :: upto ((m + 1 : Nat) : Int) (H - (m + 1)) := by
            obtain ⟨j, hj⟩ : ∃ j, H - m = j + 1 := ⟨H - m - 1, by omega⟩
            have hj2 : H - (m + 1) = j := by omega
            rw [hj, hj2]
            simp [upto]
          rw [eu] at h
          have hpk := pickM_row (R3 ((m : Int) :: upto ((m + 1 : Nat) : Int) (H - (m + 1))) (upto H L) none) [] a.ps 0 1 1 (not_fair_nil _) (R3_0 _ _ _)
          rw [R3_set0] at hpk
          have hp := h.pick' 0 (by have := HP.out; omega) 1 1 (by simp) hpk
          have HPk := Lib.hid hp
          clear eu hpk hp
          go_wp2_with fail
          refine HPk.out.mono ?_
          rintro e w9 ⟨rfl, h9⟩
          clear h
          have hzz : ((m : Int) != (m : Int)) = false := by simp
          go_wp2_with fail
          go_roundw
          case rel => exact ⟨m + 1, by omega, by omega, by go_num, h9⟩
          case measure => simp [intOf]; omega
        · obtain rfl : m = H := by omega
          have e0 : upto (m : Int) (m - m) = [] := by rw [Nat.sub_self]; rfl
          rw [e0] at h
          have hss := steal_same (R3 [] (upto m L) none) 0 1 (R3_0 _ _ _) (R3_1 _ _ _) (by omega)
          have hpk := pickM_steal (R3 [] (upto m L) none) a.ps 0 1 1 (R3_0 _ _ _) (by have := HP.out; omega) (by omega)
          rw [hss.1, hss.2] at hpk
          have hp := h.pick' 0 (by have := HP.out; omega) 1 (1 : Nat) (by simp) hpk
          have HPk := Lib.hid hp
          have hl : ∀ W, SL w a W (R3 [] (upto m L) none) [] → Calls Try.prog 44 #[.pointer (some ⟨a.s, 0, none⟩)] W fun e w' => e = .returned (.int .i64 ((L : Nat) : Int)) ∧ SL w a w' (R3 [] (upto m L) none) [] := fun W hW => by
            have h9 := hW.len (by simp)
            rw [HP.out, R3_sum] at h9
            have e9 : ([] : List Int).length + (([] : List Int).length + ((none : Option Int).toList ++ upto m L).length) = L := by simp [upto_len]
            rw [e9] at h9
            exact h9
          have HLn := Lib.hid hl
          clear e0 hss hpk hp hl
          go_wp2_with fail
          refine HPk.out.mono ?_
          rintro e w9 ⟨rfl, h9⟩
          clear h
          go_wp2_with fail
          refine (pick_nil 0 1 0 _).mono ?_
          rintro e w10 ⟨rfl, m10⟩
          have h10 := h9.keep0 m10
          go_wp2_with fail
          refine (told27 _).mono ?_
          rintro e w11 ⟨rfl, m11⟩
          have h11 := h10.keep0 m11
          go_wp2_with fail
          refine (slen_nil _).mono ?_
          rintro e w12 ⟨rfl, hw⟩
          obtain rfl := hw.symm
          clear hw h9 h10 m10 m11
          go_wp2_with fail
          refine (HLn.out _ h11).mono ?_
          rintro e w13 ⟨rfl, h13⟩
          have hz3 : (((L : Nat) : Int) == (L : Int)) = true := by first | (rw [beq_iff_eq]; omega) | simp
          have hmd := h13.mod
          clear h11 h13
          go_wp2_with fail
          go_ret
          exact ⟨rfl, hmd⟩

theorem ssteals_all (n : Int) (b : Bool) (w : World) : Calls Try.prog 13 #[.int .i64 n, .bool b] w fun e w' => e = .returned (.bool true) ∧ Mod (fun _ => False) w w' := by
  cases b with
  | true => exact ssteals_true n w
  | false => exact ssteals_false n w

end Go.Proofs.Ytgojfccaohngaaa
