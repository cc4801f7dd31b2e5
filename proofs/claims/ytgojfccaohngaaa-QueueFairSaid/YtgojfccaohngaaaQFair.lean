/-
  treadmilllaw11.QueueFair: the walk.
-/
import Derived.Test.YtgojfccaohngaaaQTold
namespace Go.Proofs.Ytgojfccaohngaaa
open Go.RowKit

set_option maxHeartbeats 1000000 in
set_option maxRecDepth 100000 in
theorem fair_any (n ps most : Int) (w : World) : Calls Try.prog 3 #[.int .i64 n, .int .i64 ps, .int .i64 most] w fun e w' => e = .returned (.bool true) ∧ Mod (fun _ => False) w w' := by
  obtain ⟨k, hk, ek⟩ := umod n 501 (by omega)
  obtain ⟨p0, hp0, ep⟩ := umod ps 64 (by omega)
  obtain ⟨m0, hm0, em⟩ := umod most 200 (by omega)
  have ek' : (IntKind.u64.wrap n).tmod 501 = (k : Int) := ek
  have ep' : (IntKind.u64.wrap ps).tmod 64 = (p0 : Int) := ep
  have em' : (IntKind.u64.wrap most).tmod 200 = (m0 : Int) := em
  clear ek ep em
  go_enter Try.func3, Try.ntmps3
  go_wp2_with fail
  refine (new_queue _).mono ?_
  rintro e w1 ⟨b, rfl, hb, hq1, m1⟩
  go_wp2_with fail
  clear ek' ep' em'
  go_loopw [11] (fun i wr => ∃ (j : Nat) (o : Option Nat), j ≤ k ∧ i = .int .i64 j ∧ Queue wr b o (upto 0 j) ∧ (∀ d, o = some d → w.heap.size ≤ d) ∧ Mod (fun _ => False) w wr) (fun i _ => k - (intOf i).toNat)
  case atStart => exact ⟨0, none, by omega, rfl, hq1, (fun d hd => by cases hd), m1⟩
  case round =>
    obtain ⟨j, o, hj, rfl, hq, ho, hm⟩ := hrel
    by_cases hjk : j < k
    · go_wp2_with fail
      refine (qput_any b o (upto 0 j) _ 1 1 [(j : Int)] _ (hq.keep ((Mod.refl (fun _ => False) _).alloc _) (fun h => h) (fun _ _ h => h)) (IsL.one _ _) (by rw [upto_len]; omega)).mono ?_
      rintro e w2 ⟨rfl, o2, hq2, ho2, m2⟩
      have m3 : Mod (fun _ => False) w w2 := (hm.alloc _).new m2 (fun i hi => by rcases hi with rfl | hi; exact hb; exact ho _ hi)
      have ho3 : ∀ d, o2 = some d → w.heap.size ≤ d := by
        intro d hd
        have := hm.size
        rcases ho2 with e | ⟨d2, e, h2⟩
        · exact ho d (by rw [← e]; exact hd)
        · rw [e] at hd; simp at hd h2; omega
      have e4 := upto_snoc 0 j
      rw [Int.zero_add] at e4
      rw [← e4] at hq2
      clear e4
      go_wp2
      go_roundw
      case rel => exact ⟨j + 1, o2, by omega, by go_num, hq2, ho3, m3⟩
      case measure => simp [intOf]; omega
    · have hjk2 : j = k := by omega
      have HJ := Lib.hid hjk2
      clear hjk2
      go_wp2
      rw [HJ.out] at hq
      clear HJ hjk hj
      obtain ⟨wa, rfl⟩ : ∃ wa : World, wa = wr := ⟨_, rfl⟩
      go_loopw [12] (fun i wr => ∃ (j : Nat) (o : Option Nat), j ≤ k ∧ i = .int .i64 j ∧ Queue wr b o (upto j (k - j)) ∧ (∀ d, o = some d → w.heap.size ≤ d) ∧ Mod (fun _ => False) w wr) (fun i _ => k - (intOf i).toNat)
      case atStart => exact ⟨0, o, by omega, rfl, hq, ho, hm⟩
      case round =>
        obtain ⟨j, o, hj, rfl, hqi, hoi, hmi⟩ := hrel
        obtain ⟨R, hR⟩ : ∃ R, R = k - j := ⟨_, rfl⟩
        rw [← hR] at hqi
        have hRk : R ≤ k := by omega
        have hRj : R + j ≤ k := by omega
        have hRj2 : k ≤ R + j := by omega
        clear hR
        by_cases hR0 : 0 < R
        · obtain ⟨N, hN⟩ : ∃ N, N = qtake R (1 + (p0 : Int)) (1 + (m0 : Int)) := ⟨_, rfl⟩
          obtain ⟨Q, hQ0⟩ : ∃ Q, Q = R / (1 + p0) := ⟨_, rfl⟩
          have hQ : (R : Int) / (1 + (p0 : Int)) = (Q : Int) := by rw [hQ0]; simp
          have hfacts : 1 ≤ N ∧ N ≤ 1 + m0 ∧ N ≤ Q + 1 ∧ N ≤ 128 ∧ N ≤ R ∧ Q ≤ R := by
            have h1 : (max (1 + (p0 : Int)) 1).toNat = 1 + p0 := by omega
            have h2 : (max (1 + (m0 : Int)) 0).toNat = 1 + m0 := by omega
            have h4 : R / (1 + p0) ≤ R := Nat.div_le_self _ _
            unfold qtake at hN
            rw [h1, h2, ← hQ0] at hN
            rw [← hQ0] at h4
            omega
          obtain ⟨hN1, hN2, hN3, hN4, hN5, hQR⟩ := hfacts
          have hlen := upto_len j R
          have HN := Lib.hid hN
          have HQ := Lib.hid hQ
          have HL := Lib.hid hlen
          clear hN hQ hQ0 hlen
          go_wp2_with fail
          refine (qlen_any b o _ _ hqi).mono ?_
          rintro e w2 ⟨rfl, rfl⟩
          rw [HL.out]
          go_wp2_with fail
          refine (qlen_any b o _ _ hqi).mono ?_
          rintro e w2 ⟨rfl, rfl⟩
          rw [HL.out]
          go_wp2_with fail
          refine (qget_any b o _ (1 + (p0 : Int)) (1 + (m0 : Int)) _ hqi (by rw [HL.out]; omega) (by omega) (by omega)).mono ?_
          rintro e w3 ⟨A3, n3, c3, rfl, hl3, ⟨o3, hq3, ho3, hA3⟩, m3⟩
          rw [HL.out, ← HN.out, upto_take _ _ _ hN5] at hl3
          rw [HL.out, ← HN.out, upto_drop _ _ _ hN5] at hq3
          obtain rfl : N = n3 := by rw [← hl3.len, upto_len]
          have hQ := HQ.out
          have ho4 : ∀ d, o3 = some d → w.heap.size ≤ d := fun d hd => by have := ho3 d hd; have := hmi.size; omega
          have m4 : Mod (fun _ => False) w w3 := hmi.new m3 (fun i hi => by subst hi; exact hb)
          go_wp2
          go_loop [12, 15] (fun nx i => ∃ q : Nat, q ≤ N ∧ i = .int .i64 q ∧ nx = .int .i64 ((j + q : Nat) : Int)) (fun _ i => N - (intOf i).toNat)
          case atStart => exact ⟨0, by omega, rfl, by simp⟩
          case round =>
            obtain ⟨q, hqN, rfl, rfl⟩ := hrel
            by_cases hq2 : q < N
            · obtain ⟨g, oo, rfl, hc3⟩ := hl3.at_ hq2
              rw [upto_getD _ _ _ hq2] at hc3
              go_wp2
              go_round
              case rel => exact ⟨q + 1, by omega, by go_num, by go_num⟩
              case measure => simp [intOf]; omega
            · have hqe : q = N := by omega
              have HQE := Lib.hid hqe
              clear hqe
              go_wp2
              have hk2 : R - N = k - (j + N) := by omega
              rw [hk2, show ((j : Int) + (N : Int)) = ((j + N : Nat) : Int) by omega] at hq3
              rw [HQE.out]
              go_roundw
              case rel => exact ⟨j + N, o3, by omega, rfl, hq3, ho4, m4⟩
              case measure => simp [intOf]; omega
        · have hRz : R = 0 := by omega
          have hjk : j = k := by omega
          subst hRz
          subst hjk
          go_wp2_with fail
          refine (qlen_any b o _ _ hqi).mono ?_
          rintro e w2 ⟨rfl, rfl⟩
          rw [upto_len]
          go_wp2_with fail
          refine (told11 _).mono ?_
          rintro e w3 ⟨rfl, m3⟩
          have hq3 := hqi.keep m3 (fun h => h) (fun _ _ h => h)
          go_wp2_with fail
          refine (qget_any b o _ (1 + (p0 : Int)) (1 + (m0 : Int)) _ hq3 (by rw [upto_len]; omega) (by omega) (by omega)).mono ?_
          rintro e w4 ⟨A4, n4, c4, rfl, hl4, _, m4⟩
          have hn4 : n4 = 0 := by
            rw [← hl4.len, List.length_take, upto_len]; omega
          subst hn4
          have m5 : Mod (fun _ => False) w w4 := (hmi.trans m3).new m4 (fun i hi => by subst hi; exact hb)
          go_wp2
          go_ret
          exact ⟨rfl, m5⟩

end Go.Proofs.Ytgojfccaohngaaa
