/-
  treadmilllaw10.RingDels: the walk.
-/
import Derived.Test.YtgojfccaohngaaaRing3
namespace Go.Proofs.Ytgojfccaohngaaa
open Go.RowKit

theorem rdel_all (row : List Int) (nxt : Option Int) (g : Int) :
    (rdel row nxt g).2.2.toList ++ (rdel row nxt g).2.1 = (nxt.toList ++ row).erase g ∧ (rdel row nxt g).1 = decide (g ∈ nxt.toList ++ row) := by
  unfold rdel
  cases nxt with
  | none => exact ⟨by simp, by rw [if_neg (by simp)]; exact decide_eq_decide.2 (by simp)⟩
  | some y =>
    by_cases h : y = g
    · subst h; simp
    · have h2 : ¬ (some y = some g) := by simpa using h
      rw [if_neg h2]
      constructor
      · simp only [Option.toList_some, List.singleton_append]
        rw [List.erase_cons_tail (by simpa using h)]
      · have : g ≠ y := fun e => h e.symm
        simp [this]

theorem mem_upto (a : Int) (n : Nat) (y : Int) : y ∈ upto a n ↔ a ≤ y ∧ y < a + n := by
  induction n generalizing a with
  | zero => simp [upto]
  | succ n ih =>
    rw [upto, List.mem_cons, ih]
    omega
theorem upto_erase (a : Int) (n x : Nat) (h : x < n) : (upto a n).erase (a + x) = upto a x ++ upto (a + x + 1) (n - x - 1) := by
  induction x generalizing a n with
  | zero =>
    obtain ⟨n, rfl⟩ : ∃ m, n = m + 1 := ⟨n - 1, by omega⟩
    simp [upto]
  | succ x ih =>
    obtain ⟨n, rfl⟩ : ∃ m, n = m + 1 := ⟨n - 1, by omega⟩
    have e : a + ((x + 1 : Nat) : Int) = (a + 1) + (x : Int) := by omega
    rw [upto, e, List.erase_cons_tail (by rw [beq_iff_eq]; omega), ih (a + 1) n (by omega), upto, List.cons_append]
    congr 3
    omega

/-- What is still there ahead of the i-th turn; x has been taken out. -/
def dRest (k x i : Nat) : List Int := if i ≤ x then upto i (x - i) ++ upto ((x : Int) + 1) (k - x) else upto i (k + 1 - i)
theorem dRest_skip (k x : Nat) : dRest k x x = dRest k x (x + 1) := by
  unfold dRest
  rw [if_pos (Nat.le_refl _), if_neg (by omega), Nat.sub_self]
  simp only [upto, List.nil_append]
  congr 1
  omega
theorem dRest_next (k x i : Nat) (h : i ≠ x) (hk : i ≤ k) : dRest k x i = (i : Int) :: dRest k x (i + 1) := by
  unfold dRest
  by_cases h1 : i ≤ x
  · rw [if_pos h1, if_pos (by omega)]
    obtain ⟨d, hd⟩ : ∃ d, x - i = d + 1 := ⟨x - i - 1, by omega⟩
    rw [hd, upto, List.cons_append]
    congr 3
    omega
  · rw [if_neg h1, if_neg (by omega)]
    obtain ⟨d, hd⟩ : ∃ d, k + 1 - i = d + 1 := ⟨k - i, by omega⟩
    rw [hd, upto]
    congr 2
    omega
theorem dRest_end (k x : Nat) (h : x ≤ k) : dRest k x (k + 1) = [] := by
  unfold dRest
  rw [if_neg (by omega)]
  simp [upto]
theorem dRest_start (k x : Nat) (h : x ≤ k) : dRest k x 0 = (upto 0 (k + 1)).erase x := by
  have e := upto_erase 0 (k + 1) x (by omega)
  rw [Int.zero_add] at e
  rw [e]
  unfold dRest
  rw [if_pos (by omega)]
  congr 2
  omega
theorem dRest_not (k x : Nat) (y : Int) (h : x ≤ k) (hy : y = x ∨ k < y) : y ∉ dRest k x 0 := by
  unfold dRest
  rw [if_pos (by omega)]
  simp only [List.mem_append, mem_upto]
  omega
theorem dRest_len (k x : Nat) (h : x ≤ k) : (dRest k x 0).length = k := by
  unfold dRest
  rw [if_pos (by omega), List.length_append, upto_len, upto_len]
  omega

set_option maxHeartbeats 2000000 in
set_option maxRecDepth 100000 in
theorem dels_any (n which : Int) (w : World) : Calls Try.prog 9 #[.int .i64 n, .int .i64 which] w fun e w' => e = .returned (.bool true) ∧ Mod (fun _ => False) w w' := by
  obtain ⟨k0, hk, ek⟩ := umod n 200 (by omega)
  have ek' : (IntKind.u64.wrap n).tmod 200 = (k0 : Int) := ek
  obtain ⟨x, hx, ex⟩ := umod which (1 + k0 + 1) (by omega)
  have ex' : (IntKind.u64.wrap which).tmod (1 + (k0 : Int) + 1) = (x : Int) := by
    rw [show (1 : Int) + (k0 : Int) + 1 = ((1 + k0 + 1 : Nat) : Int) by omega]; exact ex
  clear ek ex
  go_enter Try.func9, Try.ntmps9
  go_wp2_with fail
  refine (new_ring _).mono ?_
  rintro e w1 ⟨b, rfl, hb, hr1, m1⟩
  have hS : ∀ i, i = b → w.heap.size ≤ i := fun i hi => by subst hi; exact hb
  go_wp2_with fail
  clear ek'
  go_loopw [7] (fun i wr => ∃ j : Nat, j ≤ k0 + 1 ∧ i = .int .i64 ((j : Int) + 1) ∧ Ring wr b (upto 1 j) none ∧ Mod (fun _ => False) w wr) (fun i _ => k0 + 2 - (intOf i).toNat)
  case atStart => exact ⟨0, by omega, rfl, hr1, m1⟩
  case round =>
    obtain ⟨j, hj, rfl, hr, hm⟩ := hrel
    by_cases hja : j < k0 + 1
    · go_wp2_with fail
      refine (put_any b _ false (upto 1 j) none _ hr).mono ?_
      rintro e w2 ⟨A2, n2, c2, rfl, hr2, _, _, m2⟩
      have e4 := upto_snoc 1 j
      rw [rput_room _ _ _ (by rw [upto_len]; omega), Int.add_comm, ← e4] at hr2
      clear e4
      go_wp2
      go_roundw
      case rel => exact ⟨j + 1, by omega, by go_num, hr2, hm.new m2 hS⟩
      case measure => simp [intOf]; omega
    · have hja2 : j = k0 + 1 := by omega
      rw [hja2] at hr
      have HJ := Lib.hid hja2
      clear hja2
      go_wp2_with fail
      refine (put_any b 0 true (upto 1 (k0 + 1)) none _ hr).mono ?_
      rintro e w2 ⟨A2, n2, c2, rfl, hr2, _, _, m2⟩
      rw [rput_first] at hr2
      have hm2 := hm.new m2 hS
      clear HJ hja hj hr1 m1 hr hm m2
      go_wp2_with fail
      have hall : (some (0 : Int)).toList ++ upto 1 (k0 + 1) = upto 0 (k0 + 2) := rfl
      have h1 := rdel_all (upto 1 (k0 + 1)) (some 0) (x : Int)
      rw [hall, ← dRest_start (k0 + 1) x (by omega)] at h1
      have hx0 : (x : Int) ∈ upto 0 (k0 + 2) := (mem_upto _ _ _).2 ⟨by omega, by omega⟩
      have hn1 := dRest_not (k0 + 1) x x (by omega) (.inl rfl)
      have hn2 := dRest_not (k0 + 1) x (1 + (k0 : Int) + 5) (by omega) (.inr (by omega))
      have hlen := dRest_len (k0 + 1) x (by omega)
      refine (del_any b _ _ (x : Int) _ hr2).mono ?_
      rintro e w3 ⟨rfl, hr3, m3⟩
      rw [h1.2, decide_eq_true hx0]
      have hr3a := h1.1
      generalize (rdel (upto 1 (k0 + 1)) (some 0) (x : Int)).2.1 = row3 at hr3 hr3a
      generalize (rdel (upto 1 (k0 + 1)) (some 0) (x : Int)).2.2 = nxt3 at hr3 hr3a
      have hm3 := hm2.new m3 hS
      have H1 := Lib.hid hr3a
      have HL := Lib.hid hlen
      have HN1 := Lib.hid hn1
      have HN2 := Lib.hid hn2
      clear h1 hx0 hall hr3a hlen hn1 hn2 m3 hm2 hr2
      go_wp2_with fail
      refine (del_any b _ _ (x : Int) _ hr3).mono ?_
      rintro e w4 ⟨rfl, hr4, m4⟩
      have h2 := rdel_all row3 nxt3 (x : Int)
      rw [H1.out, List.erase_of_not_mem HN1.out] at h2
      rw [h2.2, decide_eq_false HN1.out]
      have hr4a := h2.1
      generalize (rdel row3 nxt3 (x : Int)).2.1 = row4 at hr4 hr4a
      generalize (rdel row3 nxt3 (x : Int)).2.2 = nxt4 at hr4 hr4a
      have hm4 := hm3.new m4 hS
      have H2 := Lib.hid hr4a
      clear h2 hr4a m4 hm3 hr3
      go_wp2_with fail
      refine (del_any b _ _ (1 + (k0 : Int) + 5) _ hr4).mono ?_
      rintro e w5 ⟨rfl, hr5, m5⟩
      have h3 := rdel_all row4 nxt4 (1 + (k0 : Int) + 5)
      rw [H2.out, List.erase_of_not_mem HN2.out] at h3
      rw [h3.2, decide_eq_false HN2.out]
      have hr5a := h3.1
      generalize (rdel row4 nxt4 (1 + (k0 : Int) + 5)).2.1 = row5 at hr5 hr5a
      generalize (rdel row4 nxt4 (1 + (k0 : Int) + 5)).2.2 = nxt5 at hr5 hr5a
      have hm5 := hm4.new m5 hS
      have H3 := Lib.hid hr5a
      clear h3 hr5a m5 hm4 hr4
      go_wp2_with fail
      refine (len_any b _ _ _ hr5).mono ?_
      rintro e w6 ⟨rfl, m6⟩
      rw [H3.out, HL.out]
      have hr6 := hr5.keep m6 (fun h => h)
      have hm6 := hm5.trans m6
      have hb0 : ((k0 : Int) + 1 != 1 + (k0 : Int)) = false := by rw [bne_eq_false_iff_eq]; omega
      clear m6 hm5 hr5
      go_wp2
      clear hb0
      obtain ⟨wa, rfl⟩ : ∃ wa : World, wa = w6 := ⟨_, rfl⟩
      go_loopw [9] (fun i wr => ∃ (j : Nat) (row : List Int) (nxt : Option Int), j ≤ k0 + 2 ∧ i = .int .i64 j ∧ Ring wr b row nxt ∧ nxt.toList ++ row = dRest (k0 + 1) x j ∧ Mod (fun _ => False) w wr) (fun i _ => k0 + 2 - (intOf i).toNat)
      case atStart => exact ⟨0, _, _, by omega, rfl, hr6, H3.out, hm6⟩
      case round =>
        obtain ⟨j, row, nxt, hj, rfl, hr7, hrow, hm7⟩ := hrel
        have HROW := Lib.hid hrow
        clear hrow H1 H2 H3 HL HN1 HN2 hr6 hm6
        by_cases hjk : j < k0 + 2
        · by_cases hjx : j = x
          · have hskip : nxt.toList ++ row = dRest (k0 + 1) x (j + 1) := by rw [HROW.out, hjx]; exact dRest_skip _ _
            have hb1 : ((j : Int) == (x : Int)) = true := by rw [beq_iff_eq]; omega
            have HS := Lib.hid hskip
            clear hskip hjx
            go_wp2
            go_roundw
            case rel => exact ⟨j + 1, row, nxt, by omega, by go_num, hr7, HS.out, hm7⟩
            case measure => simp [intOf]; omega
          · obtain ⟨row', nxt', eg, er⟩ := rget_cons row nxt j _ (HROW.out.trans (dRest_next (k0 + 1) x j hjx (by omega)))
            have hb1 : ((j : Int) == (x : Int)) = false := by rw [beq_eq_false_iff_ne]; omega
            have EG := Lib.hid eg
            have ER := Lib.hid er
            clear eg er hjx
            go_wp2_with fail
            refine (get_any b row nxt _ hr7).mono ?_
            rintro e w8 ⟨rfl, hr8, m8⟩
            rw [EG.out] at hr8 ⊢
            have hm8 := hm7.new m8 hS
            go_wp2
            go_roundw
            case rel => exact ⟨j + 1, row', nxt', by omega, by go_num, hr8, ER.out, hm8⟩
            case measure => simp [intOf]; omega
        · have hj2 : j = k0 + 1 + 1 := by omega
          have hdrop : nxt.toList ++ row = [] := by rw [HROW.out, hj2]; exact dRest_end _ _ (by omega)
          have HD := Lib.hid hdrop
          clear hdrop hj2
          go_wp2_with fail
          refine (get_nil _).mono ?_
          rintro e w8 ⟨rfl, rfl⟩
          go_wp2_with fail
          refine (told10 _).mono ?_
          rintro e w9 ⟨rfl, m9⟩
          have hr9 := hr7.keep m9 (fun h => h)
          have hm9 := hm7.trans m9
          go_wp2_with fail
          refine (len_any b _ _ _ hr9).mono ?_
          rintro e w10 ⟨rfl, m10⟩
          rw [HD.out]
          have hm10 := hm9.trans m10
          go_wp2_with fail
          refine (len_nil _).mono ?_
          rintro e w11 ⟨rfl, rfl⟩
          go_wp2_with fail
          refine (del_nil _ _).mono ?_
          rintro e w12 ⟨rfl, rfl⟩
          go_wp2
          go_ret
          exact ⟨rfl, hm10⟩

end Go.Proofs.Ytgojfccaohngaaa
