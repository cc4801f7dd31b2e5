/-
  treadmilllaw8.CentralTurns: the walk.
-/
import Derived.Test.YtjjbcfbljnekgaaCLaw
namespace Go.Proofs.Ytjjbcfbljnekgaa
open Go.RowKit

/-- The four rows of class 3; all others empty. -/
def t4 (a b c d : List Int) : Nat → List Int := fun j => if j = 12 then a else if j = 13 then b else if j = 14 then c else if j = 15 then d else []
theorem t4_zero (i : Nat) : ([] : List Int) = t4 [] [] [] [] i := by unfold t4; simp
theorem t4_u0 (a b c d l : List Int) : upd (t4 a b c d) 12 l = t4 l b c d := by
  funext i; unfold upd t4
  by_cases e : i = 12 <;> simp [e]
theorem t4_u1 (a b c d l : List Int) : upd (t4 a b c d) 13 l = t4 a l c d := by
  funext i; unfold upd t4
  by_cases e : i = 13 <;> simp [e]
theorem t4_u2 (a b c d l : List Int) : upd (t4 a b c d) 14 l = t4 a b l d := by
  funext i; unfold upd t4
  by_cases e : i = 14 <;> simp [e]
theorem t4_u3 (a b c d l : List Int) : upd (t4 a b c d) 15 l = t4 a b c l := by
  funext i; unfold upd t4
  by_cases e : i = 15 <;> simp [e]
theorem t4_begin (a b : List Int) (i : Nat) (hi : i < 64) : cbegL (t4 a b [] []) i = t4 [] [] a b i := by
  unfold cbegL cbegN
  rw [if_pos (by omega)]
  unfold t4
  by_cases h : i % 4 < 2
  · rw [if_pos h, if_neg (by omega : ¬ i = 14), if_neg (by omega : ¬ i = 15)]
    simp
  · rw [if_neg h, if_neg (by omega : ¬ i = 12), if_neg (by omega : ¬ i = 13)]
    by_cases h4 : i = 14
    · subst h4; simp
    · by_cases h5 : i = 15
      · subst h5; simp
      · rw [if_neg h4, if_neg h5, if_neg h4, if_neg h5, if_neg (by omega : ¬ i - 2 = 12), if_neg (by omega : ¬ i - 2 = 13), if_neg (by omega : ¬ i - 2 = 14), if_neg (by omega : ¬ i - 2 = 15)]; simp
theorem t4_small {a b c d : List Int} (ha : a.length ≤ 100) (hb : b.length ≤ 100) (hc : c.length ≤ 100) (hd : d.length ≤ 100) : Small (t4 a b c d) := fun i _ => by
  unfold t4
  split
  · omega
  · split
    · omega
    · split
      · omega
      · split
        · omega
        · simp
theorem t4_not {a b c d : List Int} {y : Int} (ha : y ∉ a) (hb : y ∉ b) (hc : y ∉ c) (hd : y ∉ d) (j : Nat) : y ∉ t4 a b c d j := by
  unfold t4
  split
  · exact ha
  · split
    · exact hb
    · split
      · exact hc
      · split
        · exact hd
        · simp
theorem t4_un (a b c d : List Int) : cun (t4 a b c d) 16 = c.length + d.length := by
  simp [cun, t4]
theorem mem_upto2 (a : Int) (n : Nat) (x : Int) : x ∈ upto a n ↔ a ≤ x ∧ x < a + n := by
  induction n generalizing a with
  | zero => constructor
            · intro h; cases h
            · intro h; omega
  | succ n ih => rw [upto, List.mem_cons, ih]; omega

theorem up_len (a : Int) (n : Nat) (h : n ≤ 20) : (upto a n).length ≤ 100 := by rw [upto_len]; omega
theorem up_not (a : Int) (n : Nat) (y : Int) (h : y < a ∨ a + n ≤ y) : y ∉ upto a n := by rw [mem_upto2]; omega
theorem nil_len : ([] : List Int).length ≤ 100 := by simp
theorem nil_not (y : Int) : y ∉ ([] : List Int) := by simp

set_option maxHeartbeats 4000000 in
set_option maxRecDepth 100000 in
theorem cturns_true (swept unswept full : Int) (w : World) : Calls Try.prog 10 #[.int .i64 swept, .int .i64 unswept, .int .i64 full] w fun e w' => e = .returned (.bool true) ∧ Mod (fun _ => False) w w' := by
  obtain ⟨s, hs, es⟩ := umod swept 21 (by omega)
  have es' : (IntKind.u64.wrap swept).tmod 21 = (s : Int) := es
  obtain ⟨u, hu, eu⟩ := umod unswept 21 (by omega)
  have eu' : (IntKind.u64.wrap unswept).tmod 21 = (u : Int) := eu
  obtain ⟨f, hf, ef⟩ := umod full 21 (by omega)
  have ef' : (IntKind.u64.wrap full).tmod 21 = (f : Int) := ef
  clear es eu ef
  go_enter Try.func10, Try.ntmps10
  go_wp2_with fail
  refine (cf_new w).mono ?_
  rintro e w1 ⟨z, b, rfl, h1⟩
  go_wp2_with fail
  clear es' eu' ef'
  have h0 : CF w w1 z b (t4 (upto 100 0) [] [] []) := h1.congr (fun i _ => t4_zero i)
  clear h1
  go_loopw [11] (fun i wr => ∃ m : Nat, m ≤ u ∧ i = .int .i64 m ∧ CF w wr z b (t4 (upto 100 m) [] [] [])) (fun i _ => u - (intOf i).toNat)
  case atStart => exact ⟨0, by omega, rfl, h0⟩
  case round =>
    clear h0
    obtain ⟨m, hm, rfl, h⟩ := hrel
    by_cases hm2 : m < u
    · go_wp2_with fail
      refine (cf_putnew h 3 false (100 + (m : Int)) (by omega) (t4_small (up_len _ _ (by omega)) nil_len nil_len nil_len) (fun j _ => t4_not (up_not _ _ _ (by omega)) (nil_not _) (nil_not _) (nil_not _) j)).mono ?_
      rintro e w2 ⟨rfl, h2⟩
      have h3 : CF w w2 z b (t4 (upto 100 (m + 1)) [] [] []) := by rw [upto_snoc, ← t4_u0 (upto 100 m)]; exact h2
      clear h h2
      go_wp2
      go_roundw
      case rel => exact ⟨m + 1, by omega, by go_num, h3⟩
      case measure => simp [intOf]; omega
    · obtain rfl : m = u := by omega
      go_wp2_with fail
      go_loopw [12] (fun i wr => ∃ q : Nat, q ≤ f ∧ i = .int .i64 q ∧ CF w wr z b (t4 (upto 100 m) (upto 200 q) [] [])) (fun i _ => f - (intOf i).toNat)
      case atStart => exact ⟨0, by omega, rfl, h⟩
      case round =>
        clear h
        obtain ⟨q, hq, rfl, h⟩ := hrel
        by_cases hq2 : q < f
        · go_wp2_with fail
          refine (cf_putnew h 3 true (200 + (q : Int)) (by omega) (t4_small (up_len _ _ (by omega)) (up_len _ _ (by omega)) nil_len nil_len) (fun j _ => t4_not (up_not _ _ _ (by omega)) (up_not _ _ _ (by omega)) (nil_not _) (nil_not _) j)).mono ?_
          rintro e w2 ⟨rfl, h2⟩
          have h3 : CF w w2 z b (t4 (upto 100 m) (upto 200 (q + 1)) [] []) := by rw [upto_snoc 200, ← t4_u1 (upto 100 m) (upto 200 q)]; exact h2
          clear h h2
          go_wp2
          go_roundw
          case rel => exact ⟨q + 1, by omega, by go_num, h3⟩
          case measure => simp [intOf]; omega
        · obtain rfl : q = f := by omega
          go_wp2_with fail
          refine (cf_begin h (t4_small (up_len _ _ (by omega)) (up_len _ _ (by omega)) nil_len nil_len)).mono ?_
          rintro e w2 ⟨rfl, h2⟩
          have h3 : CF w w2 z b (t4 (upto 0 0) [] (upto 100 m) (upto 200 q)) := h2.congr (t4_begin _ _)
          clear h h2
          go_wp2_with fail
          go_loopw [13] (fun i wr => ∃ p : Nat, p ≤ s ∧ i = .int .i64 p ∧ CF w wr z b (t4 (upto 0 p) [] (upto 100 m) (upto 200 q))) (fun i _ => s - (intOf i).toNat)
          case atStart => exact ⟨0, by omega, rfl, h3⟩
          case round =>
            clear h3
            obtain ⟨p, hp, rfl, h⟩ := hrel
            by_cases hp2 : p < s
            · go_wp2_with fail
              refine (cf_putnew h 3 false (p : Int) (by omega) (t4_small (up_len _ _ (by omega)) nil_len (up_len _ _ (by omega)) (up_len _ _ (by omega))) (fun j _ => t4_not (up_not _ _ _ (by omega)) (nil_not _) (up_not _ _ _ (by omega)) (up_not _ _ _ (by omega)) j)).mono ?_
              rintro e w2 ⟨rfl, h2⟩
              have h3 : CF w w2 z b (t4 (upto 0 (p + 1)) [] (upto 100 m) (upto 200 q)) := by rw [upto_snoc 0, Int.zero_add, ← t4_u0 (upto 0 p)]; exact h2
              clear h h2
              go_wp2
              go_roundw
              case rel => exact ⟨p + 1, by omega, by go_num, h3⟩
              case measure => simp [intOf]; omega
            · obtain rfl : p = s := by omega
              go_wp2_with fail
              refine (cf_un h (t4_small (up_len _ _ (by omega)) nil_len (up_len _ _ (by omega)) (up_len _ _ (by omega))) (m + q) (by rw [t4_un, upto_len, upto_len])).mono ?_
              rintro e w2 ⟨rfl, h2⟩
              clear h
              have hcast : ((m + q : Nat) : Int) = (m : Int) + (q : Int) := by omega
              rw [hcast]
              clear hcast
              have hwr : IntKind.i64.wrap ((m : Int) + (q : Int)) = (m : Int) + (q : Int) := IntWalk.i64_in _ (by omega)
              go_wp2_with fail
              clear hwr
              go_loopw [14] (fun i wr => ∃ r : Nat, r ≤ p ∧ i = .int .i64 ((r : Int) - 1) ∧ CF w wr z b (t4 (upto 0 r) [] (upto 100 m) (upto 200 q))) (fun i _ => (intOf i + 1).toNat)
              case atStart => exact ⟨p, by omega, rfl, h2⟩
              case round =>
                clear h2
                obtain ⟨r, hr, rfl, h⟩ := hrel
                cases r with
                | succ r =>
                  have hd : decide ((1 : Int) ≤ ((r + 1 : Nat) : Int)) = true := decide_eq_true (by omega)
                  have hr1 : ((r + 1 : Nat) : Int) - 1 = (r : Int) := by omega
                  rw [hr1]
                  clear hd hr1
                  go_wp2_with fail
                  refine (cf_take0 h 3 (by omega) (t4_small (up_len _ _ (by omega)) nil_len (up_len _ _ (by omega)) (up_len _ _ (by omega))) (upto 0 r) (r : Int) (by show upto 0 (r + 1) = _; rw [upto_snoc, Int.zero_add])).mono ?_
                  rintro e w2 ⟨rfl, h2⟩
                  have h3 : CF w w2 z b (t4 (upto 0 r) [] (upto 100 m) (upto 200 q)) := by rw [← t4_u0 (upto 0 (r + 1))]; exact h2
                  clear h h2
                  go_wp2
                  go_roundw
                  case rel => exact ⟨r, by omega, rfl, h3⟩
                  case measure => simp [intOf]
                | zero =>
                  rw [show ((0 : Nat) : Int) - 1 = -1 from rfl]
                  have h0 : CF w wr z b (t4 [] [] (upto 100 m) (upto 200 q)) := h
                  clear h
                  go_wp2_with fail
                  go_loopw [18] (fun i wr => ∃ r : Nat, r ≤ m ∧ i = .int .i64 ((r : Int) - 1) ∧ CF w wr z b (t4 [] [] (upto 100 r) (upto 200 q))) (fun i _ => (intOf i + 1).toNat)
                  case atStart => exact ⟨m, by omega, rfl, h0⟩
                  case round =>
                    clear h0
                    obtain ⟨r, hr, rfl, h⟩ := hrel
                    cases r with
                    | succ r =>
                      have hr1 : ((r + 1 : Nat) : Int) - 1 = (r : Int) := by omega
                      rw [hr1]
                      clear hr1
                      go_wp2_with fail
                      refine (cf_take2 h 3 (by omega) (t4_small nil_len nil_len (up_len _ _ (by omega)) (up_len _ _ (by omega))) (upto 100 r) (100 + (r : Int)) rfl (by show upto 100 (r + 1) = _; rw [upto_snoc])).mono ?_
                      rintro e w2 ⟨rfl, h2⟩
                      have h3 : CF w w2 z b (t4 [] [] (upto 100 r) (upto 200 q)) := by rw [← t4_u2 [] [] (upto 100 (r + 1))]; exact h2
                      clear h h2
                      go_wp2
                      go_roundw
                      case rel => exact ⟨r, by omega, rfl, h3⟩
                      case measure => simp [intOf]
                    | zero =>
                      rw [show ((0 : Nat) : Int) - 1 = -1 from rfl]
                      have h0 : CF w wr z b (t4 [] [] [] (upto 200 q)) := h
                      clear h
                      go_wp2_with fail
                      refine (cf_takeno h0 3 (by omega) (t4_small nil_len nil_len nil_len (up_len _ _ (by omega))) rfl rfl).mono ?_
                      rintro e w2 ⟨rfl, h2⟩
                      clear h0
                      go_wp2_with fail
                      go_loopw [25] (fun i wr => ∃ r : Nat, r ≤ q ∧ i = .int .i64 ((r : Int) - 1) ∧ CF w wr z b (t4 [] [] [] (upto 200 r))) (fun i _ => (intOf i + 1).toNat)
                      case atStart => exact ⟨q, by omega, rfl, h2⟩
                      case round =>
                        clear h2
                        obtain ⟨r, hr, rfl, h⟩ := hrel
                        cases r with
                        | succ r =>
                          have hr1 : ((r + 1 : Nat) : Int) - 1 = (r : Int) := by omega
                          rw [hr1]
                          clear hr1
                          go_wp2_with fail
                          refine (cf_fullyes h 3 (by omega) (t4_small nil_len nil_len nil_len (up_len _ _ (by omega))) (upto 200 r) (200 + (r : Int)) (by show upto 200 (r + 1) = _; rw [upto_snoc])).mono ?_
                          rintro e w2 ⟨rfl, h2⟩
                          have h3 : CF w w2 z b (t4 [] [] [] (upto 200 r)) := by rw [← t4_u3 [] [] [] (upto 200 (r + 1))]; exact h2
                          clear h h2
                          go_wp2
                          go_roundw
                          case rel => exact ⟨r, by omega, rfl, h3⟩
                          case measure => simp [intOf]
                        | zero =>
                          rw [show ((0 : Nat) : Int) - 1 = -1 from rfl]
                          have h0 : CF w wr z b (t4 [] [] [] []) := h
                          have hsm : Small (t4 [] [] [] []) := t4_small nil_len nil_len nil_len nil_len
                          clear h
                          go_wp2_with fail
                          refine (cf_fullno h0 3 (by omega) hsm rfl).mono ?_
                          rintro e w3 ⟨rfl, h3⟩
                          go_wp2_with fail
                          refine (cf_told h3).mono ?_
                          rintro e w4 ⟨rfl, h4⟩
                          go_wp2_with fail
                          refine (cf_un h4 hsm 0 (t4_un _ _ _ _)).mono ?_
                          rintro e w5 ⟨rfl, h5⟩
                          go_wp2
                          go_ret
                          exact ⟨rfl, h5.mod⟩

end Go.Proofs.Ytjjbcfbljnekgaa
