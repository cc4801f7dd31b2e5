/-
  treadmilllaw10.RingSteals: the walk.
-/
import Derived.Test.YtgojfccaohngaaaRing3
namespace Go.Proofs.Ytgojfccaohngaaa
open Go.RowKit

theorem rs_a (m : Nat) (h : m < 256) : rsteal (upto 0 m) [] (some 5000) = (1, upto 0 m ++ [5000], [], none) := by simp [rsteal, upto_len, h]
theorem rs_b : rsteal (upto 0 256) [] (some 5000) = (0, upto 0 256 ++ [], [], some 5000) := by simp [rsteal, upto_len]
theorem rs_c (m : Nat) : rsteal (upto 0 m) [] none = (0, upto 0 m ++ [], [], none) := by simp [rsteal]
theorem rs_d (m k W : Nat) (nx : Option Int) (hk : 0 < k) (hW : W = min (k - k / 2) (256 - m)) : rsteal (upto 0 m) (upto 1000 k) nx = (W, upto 0 m ++ upto 1000 W, upto (1000 + W) (k - W), nx) := by
  obtain ⟨j, rfl⟩ : ∃ j, k = j + 1 := ⟨k - 1, by omega⟩
  have e : ∀ row, rsteal row (upto 1000 (j + 1)) nx = (min ((upto 1000 (j + 1)).length - (upto 1000 (j + 1)).length / 2) (256 - row.length), row ++ (upto 1000 (j + 1)).take (min ((upto 1000 (j + 1)).length - (upto 1000 (j + 1)).length / 2) (256 - row.length)),
      (upto 1000 (j + 1)).drop (min ((upto 1000 (j + 1)).length - (upto 1000 (j + 1)).length / 2) (256 - row.length)), nx) := fun _ => rfl
  rw [e, upto_len, upto_len, ← hW, upto_take _ _ _ (by omega), upto_drop _ _ _ (by omega)]

set_option maxHeartbeats 4000000 in
set_option maxRecDepth 100000 in
theorem steals_true (n mine : Int) (w : World) : Calls Try.prog 8 #[.int .i64 n, .int .i64 mine, .bool true] w fun e w' => e = .returned (.bool true) ∧ Mod (fun _ => False) w w' := by
  obtain ⟨k, hk, ek⟩ := umod n 257 (by omega)
  obtain ⟨m, hmm, em⟩ := umod mine 257 (by omega)
  have ek' : (IntKind.u64.wrap n).tmod 257 = (k : Int) := ek
  have em' : (IntKind.u64.wrap mine).tmod 257 = (m : Int) := em
  clear ek em
  go_enter Try.func8, Try.ntmps8
  go_wp2_with fail
  refine (new_ring _).mono ?_
  rintro e w1 ⟨a, rfl, ha, hra, m1⟩
  go_wp2_with fail
  refine (new_ring _).mono ?_
  rintro e w2 ⟨b, rfl, hb, hrb, m2⟩
  have hra2 := hra.keep m2 (fun h => h)
  have halt := hra.lt
  have hab : a ≠ b := by omega
  have hSa : ∀ i, i = a → w.heap.size ≤ i := fun i hi => by subst hi; exact ha
  have hSb : ∀ i, i = b → w.heap.size ≤ i := fun i hi => by subst hi; have := m1.size; omega
  have hm2 := m1.trans m2
  have HAB := Lib.hid hab
  clear hab hra m1 m2
  go_wp2_with fail
  clear ek' em'
  go_loopw [11] (fun i wr => ∃ j : Nat, j ≤ k ∧ i = .int .i64 j ∧ Ring wr b (upto 1000 j) none ∧ Ring wr a [] none ∧ Mod (fun _ => False) w wr) (fun i _ => k - (intOf i).toNat)
  case atStart => exact ⟨0, by omega, rfl, hrb, hra2, hm2⟩
  case round =>
    obtain ⟨j, hj, rfl, hr, hra3, hm⟩ := hrel
    by_cases hja : j < k
    · go_wp2_with fail
      refine (put_any b _ false (upto 1000 j) none _ hr).mono ?_
      rintro e w3 ⟨A2, n2, c2, rfl, hr2, _, _, m3⟩
      rw [rput_room _ _ _ (by rw [upto_len]; omega), ← upto_snoc] at hr2
      have hra4 := hra3.keep m3 HAB.out
      go_wp2
      go_roundw
      case rel => exact ⟨j + 1, by omega, by go_num, hr2, hra4, hm.new m3 hSb⟩
      case measure => simp [intOf]; omega
    · have hja2 : j = k := by omega
      rw [hja2] at hr
      have HJ := Lib.hid hja2
      clear hja2 hra2 hrb hm2
      go_wp2_with fail
      refine (put_any b 5000 true (upto 1000 k) none _ hr).mono ?_
      rintro e w3 ⟨A2, n2, c2, rfl, hr2, _, _, m3⟩
      rw [rput_first] at hr2
      have hra4 := hra3.keep m3 HAB.out
      have hm3 := hm.new m3 hSb
      go_wp2
      clear HJ hja hj hr hm m3 hra3
      obtain ⟨wa, rfl⟩ : ∃ wa : World, wa = w3 := ⟨_, rfl⟩
      go_loopw [12] (fun i wr => ∃ j : Nat, j ≤ m ∧ i = .int .i64 j ∧ Ring wr b (upto 1000 k) (some 5000) ∧ Ring wr a (upto 0 j) none ∧ Mod (fun _ => False) w wr) (fun i _ => m - (intOf i).toNat)
      case atStart => exact ⟨0, by omega, rfl, hr2, hra4, hm3⟩
      case round =>
        obtain ⟨j, hj, rfl, hr3, hra5, hm5⟩ := hrel
        clear hr2 hra4 hm3
        by_cases hja : j < m
        · go_wp2_with fail
          refine (put_any a _ false (upto 0 j) none _ hra5).mono ?_
          rintro e w4 ⟨A2, n2, c2, rfl, hra6, _, _, m4⟩
          have e4 := upto_snoc 0 j
          rw [Int.zero_add] at e4
          rw [rput_room _ _ _ (by rw [upto_len]; omega), ← e4] at hra6
          clear e4
          have hr4 := hr3.keep m4 (fun e => HAB.out e.symm)
          go_wp2
          go_roundw
          case rel => exact ⟨j + 1, by omega, by go_num, hr4, hra6, hm5.new m4 hSa⟩
          case measure => simp [intOf]; omega
        · have hja2 : j = m := by omega
          rw [hja2] at hra5
          have HJ := Lib.hid hja2
          clear hja2
          go_wp2_with fail
          refine (steal_any a b (upto 0 m) (upto 1000 k) none (some 5000) _ hra5 hr3 HAB.out).mono ?_
          rintro e w4 ⟨rfl, hra6, hr4, m4⟩
          have hm6 := hm5.new m4 (fun i hi => by rcases hi with rfl | rfl; exact ha; exact hSb _ rfl)
          clear HJ hja hj hra5 hr3 hm5 m4
          obtain ⟨wb, rfl⟩ : ∃ wb : World, wb = w4 := ⟨_, rfl⟩
          have hc : (k = 0 ∧ m < 256) ∨ (k = 0 ∧ m = 256) ∨ 0 < k := by omega
          rcases hc with ⟨hk0, hm0⟩ | ⟨hk0, hm0⟩ | hk0
          · subst hk0
            have e5 := rs_a m hm0
            have e5' : rsteal (upto 0 m) (upto 1000 0) (some 5000) = (1, upto 0 m ++ [5000], [], none) := e5
            rw [e5'] at hra6 hr4 ⊢
            clear e5 e5'
            have halt6 := hra6.lt
            have hblt6 := hr4.lt
            go_wp2_with fail
            refine (all_any a _ none _ hra6).mono ?_
            rintro e w5 ⟨A5, n5, c5, rfl, hl5, f5, m5⟩
            have hl5' : IsL w5 A5 n5 c5 (upto 0 m ++ [5000]) := hl5
            have hr5 := hr4.keep m5 (fun h => h)
            go_wp2_with fail
            refine (all_any b _ none _ hr5).mono ?_
            rintro e w6 ⟨A6, n6, c6, rfl, hl6, f6, m6⟩
            have hn5 : n5 = m + 1 := by have h1 := hl5'.len; rw [List.length_append, upto_len] at h1; simpa [upto_len] using h1.symm
            have hn6 : n6 = 0 := by have h1 := hl6.len; simpa [upto_len, Nat.add_comm] using h1.symm
            have hl7 := hl5'.keep0 m6
            have mm6 := (hm6.trans m5).trans m6
            subst hn5
            subst hn6
            clear hl5 hl5' m5 m6 hm6 f5 f6 hr4 hr5 hra6
            go_wp2
            go_loop [17] (fun i => ∃ q : Nat, q ≤ 1 ∧ i = .int .i64 q) (fun i => 1 - (intOf i).toNat)
            case atStart => exact ⟨0, by omega, rfl⟩
            case round =>
              obtain ⟨q, hq, rfl⟩ := hrel
              by_cases hq2 : q < 1
              · obtain ⟨g5, o5, rfl, hc5⟩ := hl7.at_ (k := m + q) (by omega)
                have e6 : (upto 0 m ++ [5000]).getD (m + q) 0 = 5000 := by
                  rw [List.getD_eq_getElem?_getD, List.getElem?_append_right (by rw [upto_len]; omega), upto_len, Nat.add_sub_cancel_left, ← List.getD_eq_getElem?_getD]
                  obtain rfl : q = 0 := by omega
                  rfl
                rw [e6] at hc5
                clear e6
                obtain rfl : q = 0 := by omega
                simp only [Nat.add_zero] at hc5
                go_wp2
                go_round
                case rel => exact ⟨1, by omega, rfl⟩
                case measure => simp [intOf]
              · have hqW : q = 1 := by omega
                have HQ := Lib.hid hqW
                clear hqW
                go_wp2_with fail
                refine (told10 _).mono ?_
                rintro e w7 ⟨rfl, m7⟩
                go_wp2_with fail
                refine (steal_self a _).mono ?_
                rintro e w8 ⟨rfl, rfl⟩
                go_wp2_with fail
                refine (steal_none a _).mono ?_
                rintro e w8 ⟨rfl, rfl⟩
                go_wp2
                go_ret
                exact ⟨rfl, mm6.trans m7⟩
          · subst hk0
            subst hm0
            have e5' : rsteal (upto 0 256) (upto 1000 0) (some 5000) = (0, upto 0 256 ++ [], [], some 5000) := rs_b
            rw [e5'] at hra6 hr4 ⊢
            clear e5'
            have halt6 := hra6.lt
            have hblt6 := hr4.lt
            go_wp2_with fail
            refine (all_any a _ none _ hra6).mono ?_
            rintro e w5 ⟨A5, n5, c5, rfl, hl5, f5, m5⟩
            have hl5' : IsL w5 A5 n5 c5 (upto 0 256 ++ []) := hl5
            have hr5 := hr4.keep m5 (fun h => h)
            go_wp2_with fail
            refine (all_any b _ (some 5000) _ hr5).mono ?_
            rintro e w6 ⟨A6, n6, c6, rfl, hl6, f6, m6⟩
            have hn5 : n5 = 256 := by have h1 := hl5'.len; simpa [upto_len] using h1.symm
            have hn6 : n6 = 1 := by have h1 := hl6.len; simpa [upto_len, Nat.add_comm] using h1.symm
            have hl7 := hl5'.keep0 m6
            have mm6 := (hm6.trans m5).trans m6
            subst hn5
            subst hn6
            obtain ⟨g6, o6, rfl, hc6⟩ := hl6.at_ (k := 0) (by omega)
            simp only [Option.toList_some, List.singleton_append, List.getD_cons_zero, Nat.add_zero] at hc6
            clear hl5 hl5' m5 m6 hm6 f5 f6 hr4 hr5 hra6
            go_wp2
            refine wp_loop_rounds 1 ?_
            rw [rounds_succ]
            go_wp2_with fail
            refine (told10 _).mono ?_
            rintro e w7 ⟨rfl, m7⟩
            go_wp2_with fail
            refine (steal_self a _).mono ?_
            rintro e w8 ⟨rfl, rfl⟩
            go_wp2_with fail
            refine (steal_none a _).mono ?_
            rintro e w8 ⟨rfl, rfl⟩
            go_wp2
            go_ret
            exact ⟨rfl, mm6.trans m7⟩
          · obtain ⟨W, hW⟩ : ∃ W, W = min (k - k / 2) (256 - m) := ⟨_, rfl⟩
            have e5 := rs_d m k W (some 5000) hk0 hW
            rw [e5] at hra6 hr4 ⊢
            have hW1 : W ≤ k := by omega
            have hW2 : W ≤ 256 - m := by omega
            have hW3 : min (((k : Int) + 1) / 2) (256 - (m : Int)) = W := by omega
            have hW4 : (if 256 - (m : Int) < ((k : Int) + 1) / 2 then 256 - (m : Int) else ((k : Int) + 1) / 2) = W := by omega
            have HW := Lib.hid hW
            clear e5 hW
            have halt6 := hra6.lt
            have hblt6 := hr4.lt
            go_wp2_with fail
            refine (all_any a _ none _ hra6).mono ?_
            rintro e w5 ⟨A5, n5, c5, rfl, hl5, f5, m5⟩
            have hl5' : IsL w5 A5 n5 c5 (upto 0 m ++ upto 1000 W) := hl5
            have hr5 := hr4.keep m5 (fun h => h)
            go_wp2_with fail
            refine (all_any b _ (some 5000) _ hr5).mono ?_
            rintro e w6 ⟨A6, n6, c6, rfl, hl6, f6, m6⟩
            have hn5 : n5 = m + W := by have h1 := hl5'.len; rw [List.length_append, upto_len] at h1; simpa [upto_len] using h1.symm
            have hn6 : n6 = (k - W) + 1 := by have h1 := hl6.len; simpa [upto_len, Nat.add_comm] using h1.symm
            have hl7 := hl5'.keep0 m6
            have mm6 := (hm6.trans m5).trans m6
            subst hn5
            have hb6 : ((n6 : Int) == (k : Int) - (W : Int) + 1) = true := by rw [beq_iff_eq]; omega
            have hkz : ((k : Int) == 0) = false := by rw [beq_eq_false_iff_ne]; omega
            have HN6 := Lib.hid hn6
            clear hn6
            have hn6p : ((n6 : Int) == 0) = false := by have := HN6.out; rw [beq_eq_false_iff_ne]; omega
            have hk6 : 0 < n6 := by have := HN6.out; omega
            obtain ⟨g6, o6, rfl, hc6⟩ := hl6.at_ (k := 0) (by omega)
            simp only [Option.toList_some, List.singleton_append, List.getD_cons_zero, Nat.add_zero] at hc6
            clear hl5 hl5' m5 m6 hm6 f5 f6 hr4 hr5 hra6
            go_wp2
            go_loop [17] (fun i => ∃ q : Nat, q ≤ W ∧ i = .int .i64 q) (fun i => W - (intOf i).toNat)
            case atStart => exact ⟨0, by omega, rfl⟩
            case round =>
              obtain ⟨q, hq, rfl⟩ := hrel
              by_cases hq2 : q < W
              · obtain ⟨g5, o5, rfl, hc5⟩ := hl7.at_ (k := m + q) (by omega)
                have e6 : (upto 0 m ++ upto 1000 W).getD (m + q) 0 = 1000 + (q : Int) := by
                  rw [List.getD_eq_getElem?_getD, List.getElem?_append_right (by rw [upto_len]; omega), upto_len, Nat.add_sub_cancel_left, ← List.getD_eq_getElem?_getD]
                  exact upto_getD _ _ _ hq2
                rw [e6] at hc5
                clear e6
                go_wp2
                go_round
                case rel => exact ⟨q + 1, by omega, by go_num⟩
                case measure => simp [intOf]; omega
              · have hqW : q = W := by omega
                have HQ := Lib.hid hqW
                clear hqW
                go_wp2_with fail
                refine (told10 _).mono ?_
                rintro e w7 ⟨rfl, m7⟩
                go_wp2_with fail
                refine (steal_self a _).mono ?_
                rintro e w8 ⟨rfl, rfl⟩
                go_wp2_with fail
                refine (steal_none a _).mono ?_
                rintro e w8 ⟨rfl, rfl⟩
                go_wp2
                go_ret
                exact ⟨rfl, mm6.trans m7⟩

set_option maxHeartbeats 4000000 in
set_option maxRecDepth 100000 in
theorem steals_false (n mine : Int) (w : World) : Calls Try.prog 8 #[.int .i64 n, .int .i64 mine, .bool false] w fun e w' => e = .returned (.bool true) ∧ Mod (fun _ => False) w w' := by
  obtain ⟨k, hk, ek⟩ := umod n 257 (by omega)
  obtain ⟨m, hmm, em⟩ := umod mine 257 (by omega)
  have ek' : (IntKind.u64.wrap n).tmod 257 = (k : Int) := ek
  have em' : (IntKind.u64.wrap mine).tmod 257 = (m : Int) := em
  clear ek em
  go_enter Try.func8, Try.ntmps8
  go_wp2_with fail
  refine (new_ring _).mono ?_
  rintro e w1 ⟨a, rfl, ha, hra, m1⟩
  go_wp2_with fail
  refine (new_ring _).mono ?_
  rintro e w2 ⟨b, rfl, hb, hrb, m2⟩
  have hra2 := hra.keep m2 (fun h => h)
  have halt := hra.lt
  have hab : a ≠ b := by omega
  have hSa : ∀ i, i = a → w.heap.size ≤ i := fun i hi => by subst hi; exact ha
  have hSb : ∀ i, i = b → w.heap.size ≤ i := fun i hi => by subst hi; have := m1.size; omega
  have hm2 := m1.trans m2
  have HAB := Lib.hid hab
  clear hab hra m1 m2
  go_wp2_with fail
  clear ek' em'
  go_loopw [11] (fun i wr => ∃ j : Nat, j ≤ k ∧ i = .int .i64 j ∧ Ring wr b (upto 1000 j) none ∧ Ring wr a [] none ∧ Mod (fun _ => False) w wr) (fun i _ => k - (intOf i).toNat)
  case atStart => exact ⟨0, by omega, rfl, hrb, hra2, hm2⟩
  case round =>
    obtain ⟨j, hj, rfl, hr, hra3, hm⟩ := hrel
    by_cases hja : j < k
    · go_wp2_with fail
      refine (put_any b _ false (upto 1000 j) none _ hr).mono ?_
      rintro e w3 ⟨A2, n2, c2, rfl, hr2, _, _, m3⟩
      rw [rput_room _ _ _ (by rw [upto_len]; omega), ← upto_snoc] at hr2
      have hra4 := hra3.keep m3 HAB.out
      go_wp2
      go_roundw
      case rel => exact ⟨j + 1, by omega, by go_num, hr2, hra4, hm.new m3 hSb⟩
      case measure => simp [intOf]; omega
    · have hja2 : j = k := by omega
      rw [hja2] at hr
      have HJ := Lib.hid hja2
      clear hja2 hra2 hrb hm2
      go_wp2
      clear HJ hja hj
      obtain ⟨wa, rfl⟩ : ∃ wa : World, wa = wr := ⟨_, rfl⟩
      have hr2 := hr
      have hra4 := hra3
      have hm3 := hm
      clear hr hra3 hm
      go_loopw [12] (fun i wr => ∃ j : Nat, j ≤ m ∧ i = .int .i64 j ∧ Ring wr b (upto 1000 k) none ∧ Ring wr a (upto 0 j) none ∧ Mod (fun _ => False) w wr) (fun i _ => m - (intOf i).toNat)
      case atStart => exact ⟨0, by omega, rfl, hr2, hra4, hm3⟩
      case round =>
        obtain ⟨j, hj, rfl, hr3, hra5, hm5⟩ := hrel
        clear hr2 hra4 hm3
        by_cases hja : j < m
        · go_wp2_with fail
          refine (put_any a _ false (upto 0 j) none _ hra5).mono ?_
          rintro e w4 ⟨A2, n2, c2, rfl, hra6, _, _, m4⟩
          have e4 := upto_snoc 0 j
          rw [Int.zero_add] at e4
          rw [rput_room _ _ _ (by rw [upto_len]; omega), ← e4] at hra6
          clear e4
          have hr4 := hr3.keep m4 (fun e => HAB.out e.symm)
          go_wp2
          go_roundw
          case rel => exact ⟨j + 1, by omega, by go_num, hr4, hra6, hm5.new m4 hSa⟩
          case measure => simp [intOf]; omega
        · have hja2 : j = m := by omega
          rw [hja2] at hra5
          have HJ := Lib.hid hja2
          clear hja2
          go_wp2_with fail
          refine (steal_any a b (upto 0 m) (upto 1000 k) none none _ hra5 hr3 HAB.out).mono ?_
          rintro e w4 ⟨rfl, hra6, hr4, m4⟩
          have hm6 := hm5.new m4 (fun i hi => by rcases hi with rfl | rfl; exact ha; exact hSb _ rfl)
          clear HJ hja hj hra5 hr3 hm5 m4
          obtain ⟨wb, rfl⟩ : ∃ wb : World, wb = w4 := ⟨_, rfl⟩
          have hc : k = 0 ∨ 0 < k := by omega
          rcases hc with hk0 | hk0
          · subst hk0
            have e5' : rsteal (upto 0 m) (upto 1000 0) none = (0, upto 0 m ++ [], [], none) := rs_c m
            rw [e5'] at hra6 hr4 ⊢
            clear e5'
            have hmin0 : min 0 (256 - (m : Int)) = 0 := by omega
            have halt6 := hra6.lt
            have hblt6 := hr4.lt
            go_wp2_with fail
            refine (all_any a _ none _ hra6).mono ?_
            rintro e w5 ⟨A5, n5, c5, rfl, hl5, f5, m5⟩
            have hl5' : IsL w5 A5 n5 c5 (upto 0 m ++ []) := hl5
            have hr5 := hr4.keep m5 (fun h => h)
            go_wp2_with fail
            refine (all_any b _ none _ hr5).mono ?_
            rintro e w6 ⟨A6, n6, c6, rfl, hl6, f6, m6⟩
            have hn5 : n5 = m := by have h1 := hl5'.len; simpa [upto_len] using h1.symm
            have hn6 : n6 = 0 := by have h1 := hl6.len; simpa [upto_len, Nat.add_comm] using h1.symm
            have hl7 := hl5'.keep0 m6
            have mm6 := (hm6.trans m5).trans m6
            subst hn5
            clear hmin0
            subst hn6
            clear hl5 hl5' m5 m6 hm6 f5 f6 hr4 hr5 hra6
            go_wp2
            refine wp_loop_rounds 1 ?_
            rw [rounds_succ]
            go_wp2_with fail
            refine (told10 _).mono ?_
            rintro e w7 ⟨rfl, m7⟩
            go_wp2_with fail
            refine (steal_self a _).mono ?_
            rintro e w8 ⟨rfl, rfl⟩
            go_wp2_with fail
            refine (steal_none a _).mono ?_
            rintro e w8 ⟨rfl, rfl⟩
            go_wp2
            go_ret
            exact ⟨rfl, mm6.trans m7⟩
          · obtain ⟨W, hW⟩ : ∃ W, W = min (k - k / 2) (256 - m) := ⟨_, rfl⟩
            have e5 := rs_d m k W none hk0 hW
            rw [e5] at hra6 hr4 ⊢
            have hW1 : W ≤ k := by omega
            have hW2 : W ≤ 256 - m := by omega
            have hW3 : min (((k : Int) + 1) / 2) (256 - (m : Int)) = W := by omega
            have hW4 : (if 256 - (m : Int) < ((k : Int) + 1) / 2 then 256 - (m : Int) else ((k : Int) + 1) / 2) = W := by omega
            have HW := Lib.hid hW
            clear e5 hW
            have halt6 := hra6.lt
            have hblt6 := hr4.lt
            go_wp2_with fail
            refine (all_any a _ none _ hra6).mono ?_
            rintro e w5 ⟨A5, n5, c5, rfl, hl5, f5, m5⟩
            have hl5' : IsL w5 A5 n5 c5 (upto 0 m ++ upto 1000 W) := hl5
            have hr5 := hr4.keep m5 (fun h => h)
            go_wp2_with fail
            refine (all_any b _ none _ hr5).mono ?_
            rintro e w6 ⟨A6, n6, c6, rfl, hl6, f6, m6⟩
            have hn5 : n5 = m + W := by have h1 := hl5'.len; rw [List.length_append, upto_len] at h1; simpa [upto_len] using h1.symm
            have hn6 : n6 = k - W := by have h1 := hl6.len; simpa [upto_len, Nat.add_comm] using h1.symm
            have hl7 := hl5'.keep0 m6
            have mm6 := (hm6.trans m5).trans m6
            subst hn5
            have hb6 : ((n6 : Int) == (k : Int) - (W : Int)) = true := by rw [beq_iff_eq]; omega
            have hkz : ((k : Int) == 0) = false := by rw [beq_eq_false_iff_ne]; omega
            have HN6 := Lib.hid hn6
            clear hn6
            clear hl5 hl5' m5 m6 hm6 f5 f6 hr4 hr5 hra6
            go_wp2
            go_loop [17] (fun i => ∃ q : Nat, q ≤ W ∧ i = .int .i64 q) (fun i => W - (intOf i).toNat)
            case atStart => exact ⟨0, by omega, rfl⟩
            case round =>
              obtain ⟨q, hq, rfl⟩ := hrel
              by_cases hq2 : q < W
              · obtain ⟨g5, o5, rfl, hc5⟩ := hl7.at_ (k := m + q) (by omega)
                have e6 : (upto 0 m ++ upto 1000 W).getD (m + q) 0 = 1000 + (q : Int) := by
                  rw [List.getD_eq_getElem?_getD, List.getElem?_append_right (by rw [upto_len]; omega), upto_len, Nat.add_sub_cancel_left, ← List.getD_eq_getElem?_getD]
                  exact upto_getD _ _ _ hq2
                rw [e6] at hc5
                clear e6
                go_wp2
                go_round
                case rel => exact ⟨q + 1, by omega, by go_num⟩
                case measure => simp [intOf]; omega
              · have hqW : q = W := by omega
                have HQ := Lib.hid hqW
                clear hqW
                go_wp2_with fail
                refine (told10 _).mono ?_
                rintro e w7 ⟨rfl, m7⟩
                go_wp2_with fail
                refine (steal_self a _).mono ?_
                rintro e w8 ⟨rfl, rfl⟩
                go_wp2_with fail
                refine (steal_none a _).mono ?_
                rintro e w8 ⟨rfl, rfl⟩
                go_wp2
                go_ret
                exact ⟨rfl, mm6.trans m7⟩

theorem steals_any (n mine : Int) (next : Bool) (w : World) : Calls Try.prog 8 #[.int .i64 n, .int .i64 mine, .bool next] w fun e w' => e = .returned (.bool true) ∧ Mod (fun _ => False) w w' := by
  cases next with
  | true => exact steals_true n mine w
  | false => exact steals_false n mine w

end Go.Proofs.Ytgojfccaohngaaa
