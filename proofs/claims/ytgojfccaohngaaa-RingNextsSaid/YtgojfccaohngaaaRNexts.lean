/-
  treadmilllaw10.RingNexts: the walk.
-/
import Derived.Test.YtgojfccaohngaaaRing3
namespace Go.Proofs.Ytgojfccaohngaaa
open Go.RowKit

/-- Who is next, and the row, behind i calls that put next. -/
def nxRow (a i : Nat) : List Int := upto 1000 a ++ upto 0 (i - 1)
def nxNext (i : Nat) : Option Int := if i = 0 then none else some ((i : Int) - 1)

theorem nx_step (a i : Nat) (h : a + i ≤ 250) : rput (nxRow a i) (nxNext i) i true = ((nxRow a (i + 1), []), nxNext (i + 1)) := by
  unfold nxRow nxNext
  by_cases h0 : i = 0
  · subst h0
    simp [rput_first, upto]
  · rw [if_neg h0, if_neg (by omega), rput_next _ _ _ (by rw [List.length_append, upto_len, upto_len]; omega)]
    obtain ⟨j, rfl⟩ : ∃ j, i = j + 1 := ⟨i - 1, by omega⟩
    have e := upto_snoc 0 j
    simp only [Nat.add_sub_cancel]
    rw [e, ← List.append_assoc]
    congr 2
    · congr 2
      simp
    · congr 1
      omega

set_option maxHeartbeats 2000000 in
set_option maxRecDepth 100000 in
theorem nexts_any (n ahead : Int) (w : World) : Calls Try.prog 5 #[.int .i64 n, .int .i64 ahead] w fun e w' => e = .returned (.bool true) ∧ Mod (fun _ => False) w w' := by
  obtain ⟨k0, hk, ek⟩ := umod n 100 (by omega)
  obtain ⟨a, ha, ea⟩ := umod ahead 101 (by omega)
  have ek' : (IntKind.u64.wrap n).tmod 100 = (k0 : Int) := ek
  have ea' : (IntKind.u64.wrap ahead).tmod 101 = (a : Int) := ea
  clear ek ea
  go_enter Try.func5, Try.ntmps5
  go_wp2_with fail
  refine (new_ring _).mono ?_
  rintro e w1 ⟨b, rfl, hb, hr1, m1⟩
  have hS : ∀ i, i = b → w.heap.size ≤ i := fun i hi => by subst hi; exact hb
  go_wp2_with fail
  clear ek' ea'
  -- some in the row ahead
  go_loopw [8] (fun i wr => ∃ j : Nat, j ≤ a ∧ i = .int .i64 j ∧ Ring wr b (upto 1000 j) none ∧ Mod (fun _ => False) w wr) (fun i _ => a - (intOf i).toNat)
  case atStart => exact ⟨0, by omega, rfl, hr1, m1⟩
  case round =>
    obtain ⟨j, hj, rfl, hr, hm⟩ := hrel
    by_cases hja : j < a
    · go_wp2_with fail
      refine (put_any b _ false (upto 1000 j) none _ hr).mono ?_
      rintro e w2 ⟨A2, n2, c2, rfl, hr2, _, _, m2⟩
      rw [rput_room _ _ _ (by rw [upto_len]; omega), ← upto_snoc] at hr2
      go_wp2
      go_roundw
      case rel => exact ⟨j + 1, by omega, by go_num, hr2, hm.new m2 hS⟩
      case measure => simp [intOf]; omega
    · have hja2 : j = a := by omega
      rw [hja2] at hr
      have HJ := Lib.hid hja2
      clear hja2
      go_wp2
      clear HJ hja hj hr1 m1
      obtain ⟨wa, rfl⟩ : ∃ wa : World, wa = wr := ⟨_, rfl⟩
      -- put next, one by one
      go_loopw [9] (fun i wr => ∃ j : Nat, j ≤ k0 + 1 ∧ i = .int .i64 j ∧ Ring wr b (nxRow a j) (nxNext j) ∧ Mod (fun _ => False) w wr) (fun i _ => k0 + 1 - (intOf i).toNat)
      case atStart => exact ⟨0, by omega, rfl, by simpa [nxRow, nxNext, upto] using hr, hm⟩
      case round =>
        obtain ⟨j, hj, rfl, hr2, hm2⟩ := hrel
        clear hr hm
        by_cases hjk : j < k0 + 1
        · go_wp2_with fail
          refine (put_any b _ true (nxRow a j) (nxNext j) _ hr2).mono ?_
          rintro e w2 ⟨A2, n2, c2, rfl, hr3, hl3, _, m2⟩
          rw [nx_step a j (by omega)] at hr3 hl3
          obtain rfl : n2 = 0 := hl3.len.symm
          go_wp2
          go_roundw
          case rel => exact ⟨j + 1, by omega, by go_num, hr3, hm2.new m2 hS⟩
          case measure => simp [intOf]; omega
        · have hjk2 : j = k0 + 1 := by omega
          rw [hjk2] at hr2
          have HJ := Lib.hid hjk2
          clear hjk2
          have e1 : (1 : Int) + (k0 : Int) - 1 = (k0 : Int) := by omega
          go_wp2
          clear HJ hjk hj
          obtain ⟨wb, rfl⟩ : ∃ wb : World, wb = wr := ⟨_, rfl⟩
          have hr3 : Ring (wb.alloc (.cells #[.int .i64 (k0 : Int)] 3)) b (nxRow a (k0 + 1)) (nxNext (k0 + 1)) := hr2.keep ((Mod.refl (fun _ => False) wb).alloc _) (fun h => h)
          have hb0 := hm2.size
          -- what is wanted: those ahead
          go_loopw [10, 11] (fun v i wr => ∃ (j : Nat) (A : Option Addr) (n c : Nat), j ≤ a ∧ i = .int .i64 j ∧ v = .slice A n c ∧ OwnL wr A n c ([(k0 : Int)] ++ upto 1000 j) ∧ (∀ d, blk A = some d → w.heap.size ≤ d) ∧
              Ring wr b (nxRow a (k0 + 1)) (nxNext (k0 + 1)) ∧ Mod (fun _ => False) w wr) (fun _ i _ => a - (intOf i).toNat)
          case atStart => exact ⟨0, _, 1, 1, by omega, rfl, rfl, by simpa [upto] using OwnL.one wb (k0 : Int), (fun d hd => by simp [blk] at hd; omega), hr3, hm2.alloc _⟩
          case round =>
            obtain ⟨j, A, n, c, hj, rfl, rfl, hown, hfr, hr4, hm4⟩ := hrel
            clear hr3 hr2 hm2 hb0
            have hn : n ≤ 300 := by have := hown.len; rw [List.length_append, upto_len] at this; simp at this; omega
            by_cases hja : j < a
            · go_wp2_with (at_builtin; refine wpList_app _ rfl (.tmp 57) (.tmp 60) _ rfl Try.underlying27 int_info A n c _ rfl (hown.alloc _) _ 1 1 [1000 + (j : Int)] rfl (IsL.one wr _) (by omega) ?_; intro A2 n2 c2 w2 hn1 hn2 hown2 hg2 hat2)
              have m5 := grown_mod hg2
              have hr5 := hr4.keep m5 (hr4.ne_own hown)
              have m6 := hm4.new m5 (fun i hi => hfr i hi)
              have hfr2 := fresh_app hfr hm4.size hat2
              rw [List.append_assoc, ← upto_snoc] at hown2
              go_roundw
              case rel => exact ⟨j + 1, A2, n2, c2, by omega, by go_num, rfl, hown2, hfr2, hr5, m6⟩
              case measure => simp [intOf]; omega
            · have hja2 : j = a := by omega
              rw [hja2] at hown
              have HJ := Lib.hid hja2
              clear hja2
              go_wp2
              clear HJ hja hj
              obtain ⟨wc, rfl⟩ : ∃ wc : World, wc = wr := ⟨_, rfl⟩
              -- .. and those that were next
              go_loopw [10, 12] (fun v i wr => ∃ (j : Nat) (A : Option Addr) (n c : Nat), j ≤ k0 ∧ i = .int .i64 j ∧ v = .slice A n c ∧ OwnL wr A n c (([(k0 : Int)] ++ upto 1000 a) ++ upto 0 j) ∧ (∀ d, blk A = some d → w.heap.size ≤ d) ∧
                  Ring wr b (nxRow a (k0 + 1)) (nxNext (k0 + 1)) ∧ Mod (fun _ => False) w wr) (fun _ i _ => k0 - (intOf i).toNat)
              case atStart => exact ⟨0, A, n, c, by omega, rfl, rfl, by simpa [upto] using hown, hfr, hr4, hm4⟩
              case round =>
                obtain ⟨j, A, n, c, hj, rfl, rfl, hown, hfr, hr4, hm4⟩ := hrel
                have hn : n ≤ 300 := by have := hown.len; rw [List.length_append, List.length_append, upto_len, upto_len] at this; simp at this; omega
                by_cases hja : j < k0
                · go_wp2_with (at_builtin; refine wpList_app _ rfl (.tmp 68) (.tmp 70) _ rfl Try.underlying27 int_info A n c _ rfl (hown.alloc _) _ 1 1 [(j : Int)] rfl (IsL.one wr _) (by omega) ?_; intro A2 n2 c2 w2 hn1 hn2 hown2 hg2 hat2)
                  have m5 := grown_mod hg2
                  have hr5 := hr4.keep m5 (hr4.ne_own hown)
                  have m6 := hm4.new m5 (fun i hi => hfr i hi)
                  have hfr2 := fresh_app hfr hm4.size hat2
                  have e4 := upto_snoc 0 j
                  rw [Int.zero_add] at e4
                  rw [List.append_assoc, ← e4] at hown2
                  clear e4
                  go_roundw
                  case rel => exact ⟨j + 1, A2, n2, c2, by omega, by go_num, rfl, hown2, hfr2, hr5, m6⟩
                  case measure => simp [intOf]; omega
                · have hja2 : j = k0 := by omega
                  rw [hja2] at hown
                  have HJ := Lib.hid hja2
                  clear hja2
                  have hwl : (nxNext (k0 + 1)).toList ++ nxRow a (k0 + 1) = ([(k0 : Int)] ++ upto 1000 a) ++ upto 0 k0 := by
                    simp [nxNext, nxRow]
                  have hlen : n = k0 + a + 1 := by have := hown.len; rw [List.length_append, List.length_append, upto_len, upto_len] at this; simp at this; omega
                  have hn1 : n ≤ k0 + a + 1 := by omega
                  have hn2 : k0 + a + 1 ≤ n := by omega
                  clear hlen
                  go_wp2_with fail
                  refine (all_any b _ _ _ hr4).mono ?_
                  rintro e w5 ⟨A5, n5, c5, rfl, hl5, f5, m5⟩
                  rw [hwl] at hl5
                  have hl6 := hown.isL.keep0 m5
                  go_wp2_with fail
                  refine (ints_any A5 A n5 n c5 c _ _ _ hl5 hl6 (by have h1 := hl5.len; have h2 := hl6.len; omega) (by omega)).mono ?_
                  rintro e w6 ⟨rfl, k6, rfl⟩
                  rw [decide_eq_true rfl]
                  have m6 : Mod (fun _ => False) wr (w5.drewN k6) := m5.drewN k6
                  have hr6 := hr4.keep m6 (fun h => h)
                  go_wp2_with fail
                  refine (len_any b _ _ _ hr6).mono ?_
                  rintro e w7 ⟨rfl, m7⟩
                  rw [hwl, hown.isL.len]
                  have hr7 := hr6.keep m7 (fun h => h)
                  have hl7 := (hown.isL.keep0 m6).keep0 m7
                  have mm7 := (hm4.trans m6).trans m7
                  have hA : ∀ d, A = some d → ¬ d.block = b := by
                    intro d hd e
                    exact hr4.ne_own hown (by rw [hd, ← e]; rfl)
                  go_wp2
                  clear hl5 hl6 hr4 hm4 hr6 m7 m6 m5 f5 hown hfr
                  obtain ⟨we, rfl⟩ : ∃ we : World, we = w7 := ⟨_, rfl⟩
                  -- taken out one by one
                  go_loopw [13] (fun i wr => ∃ (j : Nat) (row : List Int) (nxt : Option Int), j ≤ n ∧ i = .int .i64 j ∧ Ring wr b row nxt ∧ nxt.toList ++ row = (([(k0 : Int)] ++ upto 1000 a) ++ upto 0 k0).drop j ∧
                      IsL wr A n c (([(k0 : Int)] ++ upto 1000 a) ++ upto 0 k0) ∧ Mod (fun _ => False) w wr) (fun i _ => n - (intOf i).toNat)
                  case atStart => exact ⟨0, _, _, by omega, rfl, hr7, hwl, hl7, mm7⟩
                  case round =>
                    obtain ⟨j, row, nxt, hj, rfl, hr8, hrow, hl8, hm8⟩ := hrel
                    have HROW := Lib.hid hrow
                    have HWL := Lib.hid hwl
                    clear hrow hwl hl7 hr7 mm7
                    by_cases hjn : j < n
                    · obtain ⟨x, e2, _, e3⟩ := drop_cons (([(k0 : Int)] ++ upto 1000 a) ++ upto 0 k0) (k := j) (by rw [hl8.len]; exact hjn)
                      obtain ⟨row', nxt', eg, er⟩ := rget_cons row nxt x _ (HROW.out.trans e2)
                      have E3 := Lib.hid e3
                      have EG := Lib.hid eg
                      have ER := Lib.hid er
                      clear e2 e3 eg er
                      go_wp2_with fail
                      refine (get_any b row nxt _ hr8).mono ?_
                      rintro e w9 ⟨rfl, hr9, m9⟩
                      rw [EG.out] at hr9 ⊢
                      have hl9 := hl8.keep m9 hA
                      obtain ⟨g, o, rfl, hc9⟩ := hl9.at_ hjn
                      rw [E3.out] at hc9
                      have mm9 := hm8.new m9 hS
                      go_wp2
                      go_roundw
                      case rel => exact ⟨j + 1, row', nxt', by omega, by go_num, hr9, ER.out, hl9, mm9⟩
                      case measure => simp [intOf]; omega
                    · have hdrop : nxt.toList ++ row = [] := by
                        rw [HROW.out]
                        exact List.drop_eq_nil_of_le (by rw [hl8.len]; omega)
                      have EG := Lib.hid (rget_nil row nxt hdrop)
                      clear hdrop
                      go_wp2_with fail
                      refine (get_any b row nxt _ hr8).mono ?_
                      rintro e w9 ⟨rfl, hr9, m9⟩
                      rw [EG.out]
                      have mm9 := hm8.new m9 hS
                      go_wp2_with fail
                      refine (told10 _).mono ?_
                      rintro e w10 ⟨rfl, m10⟩
                      go_wp2
                      go_ret
                      exact ⟨rfl, mm9.trans m10⟩

end Go.Proofs.Ytgojfccaohngaaa
