/-
  treadmilllaw27.SchedCommon: the walk.
-/
import Derived.Test.YtgojfccaohngaaaSchL
set_option linter.unusedSimpArgs false
namespace Go.Proofs.Ytgojfccaohngaaa
open Go.RowKit

def R1 (row : List Int) : Nat → RM := upd E0 0 (row, none)
theorem R1_0 (row : List Int) : R1 row 0 = (row, none) := upd_same _ _ _
theorem R1_ready (row : List Int) (Q : List Int) (g : Int) (h : row.length < 256) : ready (R1 row) 0 g false = R1 (row ++ [g]) ∧ readyQ (R1 row) Q 0 g false = Q := by
  obtain ⟨e1, e2⟩ := ready_room (R1 row) Q 0 g (R1_0 row) h
  exact ⟨by rw [e1]; exact upd_upd _ _ _ _, e2⟩

set_option maxHeartbeats 4000000 in
set_option maxRecDepth 100000 in
theorem scommon_true (tick n : Int) (w : World) : Calls Try.prog 12 #[.int .i64 tick, .int .i64 n] w fun e w' => e = .returned (.bool true) ∧ Mod (fun _ => False) w w' := by
  obtain ⟨k, hk, ek⟩ := umod n 100 (by omega)
  obtain ⟨t, ht, et⟩ := umod tick 10000 (by omega)
  have ek' : (IntKind.u64.wrap n).tmod 100 = (k : Int) := ek
  have et' : (IntKind.u64.wrap tick).tmod 10000 = (t : Int) := et
  clear ek et
  go_enter Try.func12, Try.ntmps12
  go_wp2_with fail
  refine (snew_yes 1 w (by omega) (by omega)).mono ?_
  rintro e w1 ⟨a, rfl, hps, h1⟩
  have h1 : SL w a w1 (R1 []) [] := by
    have e : (fun _ => (([], none) : RM)) = R1 [] := by
      funext i
      unfold R1
      by_cases e : i = 0
      · rw [e, upd_same]
      · rw [upd_ne _ _ e]; rfl
    rw [← e]
    exact h1
  have HP := Lib.hid hps
  clear hps
  go_wp2_with fail
  clear ek'
  go_loopw [8] (fun i wr => ∃ m : Nat, m ≤ k + 1 ∧ i = .int .i64 m ∧ SL w a wr (R1 (upto 0 m)) []) (fun i _ => k + 1 - (intOf i).toNat)
  case atStart => exact ⟨0, by omega, rfl, h1⟩
  case round =>
    clear h1
    obtain ⟨m, hm, rfl, h⟩ := hrel
    by_cases hmk : m < k + 1
    · have hr := R1_ready (upto 0 m) [] m (by rw [upto_len]; omega)
      have e : upto 0 m ++ [(m : Int)] = upto 0 (m + 1) := by rw [upto_snoc]; simp
      rw [e] at hr
      have HR := Lib.hid hr
      clear e hr
      go_wp2_with fail
      refine (h.ready 0 (by have := HP.out; omega) m false (by simp)).mono ?_
      rintro e w2 ⟨rfl, h2⟩
      rw [HR.out.1, HR.out.2] at h2
      clear h
      go_wp2_with fail
      go_roundw
      case rel => exact ⟨m + 1, by omega, by go_num, h2⟩
      case measure => simp [intOf]; omega
    · obtain rfl : m = k + 1 := by omega
      clear hm hmk
      go_wp2_with fail
      refine (h.global 9999 (by simp)).mono ?_
      rintro e w2 ⟨rfl, h2⟩
      have h2 : SL w a w2 (R1 (upto 0 (k + 1))) [9999] := h2
      clear h
      go_wp2_with fail
      clear et'
      have hstart : ∃ row : List Int, row.length = k + 1 ∧ (∀ x ∈ row, 0 ≤ x ∧ x < 100) ∧ SL w a w2 (R1 row) [9999] := by
        refine ⟨_, upto_len _ _, fun x hx => ?_, h2⟩
        obtain ⟨i, hi, e⟩ := List.getElem_of_mem hx
        rw [upto_len] at hi
        have e2 := upto_getD 0 (k + 1) i hi
        rw [List.getD_eq_getElem?_getD, List.getElem?_eq_getElem (by rw [upto_len]; exact hi)] at e2
        have e3 : x = 0 + (i : Int) := by rw [← e]; exact e2
        omega
      clear h2
      obtain ⟨wa, rfl⟩ : ∃ wa : World, wa = wr := ⟨_, rfl⟩
      go_loopw [10] (fun i wr => ∃ (m : Nat) (row : List Int), m ≤ 61 ∧ i = .int .i64 m ∧ row.length = k + 1 ∧ (∀ x ∈ row, 0 ≤ x ∧ x < 100) ∧ SL w a wr (R1 row) [9999] ∧ ∀ j, j < m → ¬ (1 + t + j) % 61 = 0) (fun i _ => 61 - (intOf i).toNat)
      case atStart =>
        obtain ⟨row, r1, r2, r3⟩ := hstart
        exact ⟨0, row, by omega, rfl, r1, r2, r3, fun j hj => by omega⟩
      case round =>
        clear hstart
        obtain ⟨m, row, hm, rfl, hlen, hrow, h, hno⟩ := hrel
        by_cases hm61 : m < 61
        · by_cases hz : (1 + t + m) % 61 = 0
          · have z1 : (1 + (t : Int) + (m : Int)) % 61 = 0 := by omega
            have z2 : ((1 + (t : Int) + (m : Int)) % 61 == 0) = true := by rw [beq_iff_eq]; exact z1
            have hp := h.pick' 0 (by have := HP.out; omega) (1 + (t : Int) + (m : Int)) 0 (by simp) (pickM_fair (R1 row) 9999 [] a.ps 0 (1 + (t : Int) + (m : Int)) 0 (by omega) (by rw [Int.tmod_eq_emod_of_nonneg (by omega)]; exact z1))
            have HZ := Lib.hid z2
            have HPk := Lib.hid hp
            have hd : decide ((m : Int) < 61) = true := decide_eq_true (by omega)
            have hd2 : decide (m < 61) = true := decide_eq_true hm61
            clear z1 z2 hp hz hno hrow hlen
            go_wp2_with fail
            refine HPk.out.mono ?_
            rintro e w3 ⟨rfl, h3⟩
            go_wp2_with fail
            refine (told27 _).mono ?_
            rintro e w4 ⟨rfl, m4⟩
            have hm4 := h3.mod.trans m4
            have z2 := HZ.out
            clear h h3
            go_wp2_with fail
            go_ret
            exact ⟨rfl, hm4⟩
          · have z1 : ¬ (1 + (t : Int) + (m : Int)) % 61 = 0 := by omega
            cases row with
            | nil => simp at hlen
            | cons x row =>
              have hx := hrow x (by simp)
              have hx9 : (x == 9999) = false := by rw [beq_eq_false_iff_ne]; omega
              have e1 := pickM_row (R1 (x :: row)) [9999] a.ps 0 (1 + (t : Int) + (m : Int)) 0 (not_fair_mod _ (by rw [Int.tmod_eq_emod_of_nonneg (by omega)]; exact z1)) (R1_0 (x :: row))
              have e2 : upd (R1 (x :: row)) 0 (row, none) = R1 row := upd_upd _ _ _ _
              rw [e2] at e1
              have hp := h.pick' 0 (by have := HP.out; omega) (1 + (t : Int) + (m : Int)) 0 (by simp) e1
              have hr := R1_ready row [9999] x (by simp at hlen; omega)
              have hno2 : ∀ j, j < m + 1 → ¬ (1 + t + j) % 61 = 0 := fun j hj => by
                by_cases e : j = m
                · rw [e]; exact hz
                · exact hno j (by omega)
              have hlen2 : (row ++ [x]).length = k + 1 := by simpa using hlen
              have hrow2 : ∀ y ∈ row ++ [x], 0 ≤ y ∧ y < 100 := fun y hy => hrow y (by
                rcases List.mem_append.1 hy with h1 | h1
                · exact List.mem_cons_of_mem _ h1
                · simp at h1; simp [h1])
              have HPk := Lib.hid hp
              have HR := Lib.hid hr
              have HN := Lib.hid hno2
              have HL := Lib.hid hlen2
              have HW := Lib.hid hrow2
              clear e1 e2 hp hr z1 hz hno hno2 hlen hlen2 hrow hrow2
              go_wp2_with fail
              refine HPk.out.mono ?_
              rintro e w3 ⟨rfl, h3⟩
              go_wp2_with fail
              refine (h3.ready 0 (by have := HP.out; omega) x false (by simp)).mono ?_
              rintro e w4 ⟨rfl, h4⟩
              rw [HR.out.1, HR.out.2] at h4
              clear h h3
              go_wp2_with fail
              go_roundw
              case rel => exact ⟨m + 1, _, by omega, by go_num, HL.out, HW.out, h4, HN.out⟩
              case measure => simp [intOf]; omega
        · exfalso
          obtain rfl : m = 61 := by omega
          exact hno (60 - t % 61) (by omega) (by omega)

end Go.Proofs.Ytgojfccaohngaaa
