/-
  treadmilllaw19.BarrierFulls: the walk.
-/
import Derived.Test.YtjjbcfbljnekgaaBTold
namespace Go.Proofs.Ytjjbcfbljnekgaa
open Go.RowKit

/-- m pairs, from the s-th on. -/
def pr (s m : Nat) : List (Int × Int) := (List.range m).map (fun j => (2 * ((s + j : Nat) : Int) + 1, 2 * ((s + j : Nat) : Int) + 2))
theorem pr_len (s m : Nat) : (pr s m).length = m := by simp [pr]
theorem pr_snoc (s m : Nat) : pr s (m + 1) = pr s m ++ [(2 * ((s + m : Nat) : Int) + 1, 2 * ((s + m : Nat) : Int) + 2)] := by simp [pr, List.range_succ]
theorem nums_app (a b : List (Int × Int)) : nums (a ++ b) = nums a ++ nums b := by simp [nums]
theorem nums_pr (s m : Nat) : nums (pr s m) = upto (2 * (s : Int) + 1) (2 * m) := by
  induction m with
  | zero => rfl
  | succ m ih =>
    rw [pr_snoc, nums_app, ih, show 2 * (m + 1) = 2 * m + 1 + 1 by omega, upto_snoc, upto_snoc, List.append_assoc]
    congr 1
    simp only [nums, List.flatMap_cons, List.flatMap_nil, List.append_nil, List.cons_append, List.nil_append]
    have e1 : 2 * ((s + m : Nat) : Int) + 1 = 2 * (s : Int) + 1 + ((2 * m : Nat) : Int) := by omega
    have e2 : 2 * ((s + m : Nat) : Int) + 2 = 2 * (s : Int) + 1 + ((2 * m + 1 : Nat) : Int) := by omega
    rw [e1, e2]
theorem mem_upto {a x : Int} {n : Nat} (h : x ∈ upto a n) : a ≤ x ∧ x < a + n := by
  induction n with
  | zero => simp [upto] at h
  | succ n ih =>
    rw [upto_snoc] at h
    rcases List.mem_append.1 h with h | h
    · have := ih h; omega
    · simp at h; omega
theorem upto_rise (a : Int) (n : Nat) : (upto a n).Pairwise (· < ·) := by
  induction n with
  | zero => simp [upto]
  | succ n ih =>
    rw [upto_snoc, List.pairwise_append]
    refine ⟨ih, by simp, fun x hx y hy => ?_⟩
    have := mem_upto hx
    simp at hy
    omega
theorem told1_upto (a : Int) (n : Nat) (ha : 0 < a) : told1 (upto a n) = upto a n := by
  induction n with
  | zero => rfl
  | succ n ih =>
    rw [upto_snoc, told1_snoc, ih]
    unfold add1
    rw [if_neg]
    rintro (h | h)
    · omega
    · have := mem_upto h; omega
theorem flushed_pr (s m : Nat) : flushed (pr s m) = upto (2 * (s : Int) + 1) (2 * m) := by
  unfold flushed
  rw [nums_pr, told1_upto _ _ (by omega)]
theorem bput_pr (s m : Nat) (x y : Int) (hx : x = 2 * ((s + m : Nat) : Int) + 1) (hy : y = 2 * ((s + m : Nat) : Int) + 2) (h : m < 16) : bput (pr s m) x y = pr s (m + 1) := by
  unfold bput
  rw [pr_len, if_pos h, if_neg (by omega), pr_snoc, hx, hy]
theorem bput_full (s : Nat) (x y : Int) : bput (pr s 16) x y = pr s 16 := by
  unfold bput
  rw [pr_len, if_neg (by omega)]

theorem blen_zero (b : Nat) (w : World) (h : Barrier w b []) : Calls Try.prog 17 #[.pointer (some ⟨b, 0, none⟩)] w fun e w' => e = .returned (.int .i64 0) ∧ w' = w := blen_any b [] w h

set_option maxHeartbeats 4000000 in
set_option maxRecDepth 100000 in
theorem fulls_true (n : Int) (w : World) : Calls Try.prog 5 #[.int .i64 n] w fun e w' => e = .returned (.bool true) ∧ Mod (fun _ => False) w w' := by
  obtain ⟨k, hk, ek⟩ := umod n 60 (by omega)
  have ek' : (IntKind.u64.wrap n).tmod 60 = (k : Int) := ek
  clear ek
  go_enter Try.func5, Try.ntmps5
  go_wp2_with fail
  refine (bnew _).mono ?_
  rintro e w1 ⟨b, rfl, hb, hrb, m1⟩
  have hSb : ∀ i, i = b → w.heap.size ≤ i := fun i hi => by subst hi; exact hb
  have hbl := hrb.lt
  go_wp2_with fail
  clear ek'
  go_loopw [5, 6] (fun v i wr => ∃ (j s : Nat) (A : Option Addr) (n' c' : Nat) (G : List Int), j ≤ k + 1 ∧ i = .int .i64 j ∧ v = .slice A n' c' ∧ OwnL wr A n' c' G ∧ (∀ d, blk A = some d → w.heap.size ≤ d) ∧ s % 17 = 0 ∧ s + j % 17 = j ∧ Barrier wr b (pr s (j % 17)) ∧ G.Pairwise (· < ·) ∧ (∀ x ∈ G, x < 2 * (s : Int) + 1) ∧ G.length ≤ 2 * s ∧ Mod (fun _ => False) w wr) (fun _ i _ => k + 1 - (intOf i).toNat)
  case atStart => exact ⟨0, 0, none, 0, 0, [], by omega, rfl, rfl, OwnL.nil _, (fun d hd => by cases hd), rfl, rfl, hrb, List.Pairwise.nil, (fun x hx => by cases hx), by simp, m1⟩
  case round =>
    obtain ⟨j, s, A, n', c', G, hj, rfl, rfl, hown, hfr, hs17, hsj, hr, hG, hGs, hGl, hm⟩ := hrel
    obtain ⟨r, hr0⟩ : ∃ r, r = j % 17 := ⟨_, rfl⟩
    have hn' : n' ≤ 200 := by rw [← hown.len]; omega
    have hrr : r < 17 := by omega
    rw [← hr0] at hr hsj
    by_cases hja : j < k + 1
    · by_cases hr16 : r = 16
      · subst hr16
        have eb : ((j : Int) % 17 == 16) = true := by rw [beq_iff_eq]; omega
        have ej1 : ((j : Int) + 1) % 17 = 0 := by omega
        have HR0 := Lib.hid hr0
        clear hr0
        go_wp2_with fail
        refine (bput_any b _ _ _ _ hr).mono ?_
        rintro e w2 ⟨rfl, hr2, m2⟩
        rw [bput_full] at hr2
        have hown2 := hown.keep m2 (fun q hq e => hr.ne_own hown (by rw [← e]; exact hq))
        rw [pr_len, decide_eq_false (by omega)]
        have mm2 := hm.new m2 hSb
        clear hr hown hm m2
        go_wp2_with fail
        refine (flush_any b _ _ hr2).mono ?_
        rintro e w3 ⟨A3, n3, c3, rfl, hl3, f3, hr3, m3⟩
        rw [flushed_pr] at hl3
        have hn3 : n3 = 32 := by have := hl3.len; rw [upto_len] at this; omega
        subst hn3
        have hown3 := hown2.keep m3 (fun q hq e => hr2.ne_own hown2 (by rw [← e]; exact hq))
        have mm3 := mm2.new m3 hSb
        clear hr2 hown2 mm2 m3 f3
        go_wp2_with fail
        refine (blen_zero b _ hr3).mono ?_
        rintro e w3 ⟨rfl, rfl⟩
        go_wp2_with (at_builtin; refine wpList_app _ (by rfl) (.tmp 49) (.tmp 50) _ (by rfl) Try.underlying35 int_info _ _ _ _ (by rfl) hown3 _ _ _ _ (by rfl) hl3 (by omega) ?_; intro B4 n4 d4 w4 hn4 hn4b hown4 hg4 hat4)
        have m4 : Mod (fun i => blk A = some i) w3 w4 := (Mod.refl _ w3).grown hg4 (fun _ hk => .inl hk)
        have hne3 : ¬ blk A = some b := fun hk => hr3.ne_own hown3 hk
        have hr4 := hr3.keep m4 hne3
        have mm4 := mm3.new m4 hfr
        have hf4 : ∀ d, blk B4 = some d → w.heap.size ≤ d := by
          intro d hd
          rcases hat4 with e | e
          · rw [e] at hd; exact hfr d hd
          · rw [e] at hd; have := mm3.size; cases hd; omega
        go_wp2_with fail
        refine (blen_zero b _ hr4).mono ?_
        rintro e w5 ⟨rfl, rfl⟩
        go_wp2
        go_roundw
        case rel =>
          have hr0 := HR0.out
          refine ⟨j + 1, j + 1, B4, n4, d4, _, by omega, by go_num, rfl, hown4, hf4, by omega, by omega, by rw [show (j + 1) % 17 = 0 by omega]; exact hr4, ?_, ?_, ?_, mm4⟩
          · rw [List.pairwise_append]
            refine ⟨hG, upto_rise _ _, fun x hx y hy => ?_⟩
            have h1 := hGs x hx
            have h2 := mem_upto hy
            omega
          · intro x hx
            rcases List.mem_append.1 hx with hx | hx
            · have h1 := hGs x hx
              omega
            · have h2 := mem_upto hx
              omega
          · rw [List.length_append, upto_len]
            omega
        case measure => simp [intOf]; omega
      · have eb : ((j : Int) % 17 == 16) = false := by rw [beq_eq_false_iff_ne]; omega
        have ej1 : ((r : Int) + 1 == ((j : Int) + 1) % 17) = true := by rw [beq_iff_eq]; omega
        go_wp2_with fail
        refine (bput_any b _ _ _ _ hr).mono ?_
        rintro e w2 ⟨rfl, hr2, m2⟩
        rw [bput_pr s r _ _ (by omega) (by omega) (by omega)] at hr2
        have hown2 := hown.keep m2 (fun q hq e => hr.ne_own hown (by rw [← e]; exact hq))
        rw [pr_len, decide_eq_true (by omega)]
        have mm2 := hm.new m2 hSb
        clear hr hown hm m2
        go_wp2_with fail
        refine (blen_any b _ _ hr2).mono ?_
        rintro e w3 ⟨rfl, rfl⟩
        rw [pr_len]
        go_wp2
        go_roundw
        case rel => exact ⟨j + 1, s, A, n', c', G, by omega, by go_num, rfl, hown2, hfr, hs17, by omega, by rw [show (j + 1) % 17 = r + 1 by omega]; exact hr2, hG, hGs, by omega, mm2⟩
        case measure => simp [intOf]; omega
    · have hl := hown.isL
      clear hown hr hfr hrb
      obtain ⟨wa, rfl⟩ : ∃ wa : World, wa = wr := ⟨_, rfl⟩
      go_wp2
      go_loopw [10] (fun i wr => ∃ q : Nat, 1 ≤ q ∧ (q ≤ n' ∨ q = 1) ∧ i = .int .i64 q ∧ IsL wr A n' c' G ∧ Mod (fun _ => False) w wr) (fun i _ => n' - (intOf i).toNat)
      case atStart => exact ⟨1, by omega, .inr rfl, rfl, hl, hm⟩
      case round =>
        clear hl hm
        obtain ⟨q, hq1, hq2, rfl, hl, hm⟩ := hrel
        by_cases hqn : q < n'
        · obtain ⟨g, o, rfl, hc1⟩ := hl.at_ hqn
          obtain ⟨g', o', eg, hc2⟩ := hl.at_ (k := q - 1) (by omega)
          injection eg with eg
          injection eg with eg1 eg2
          subst eg1
          subst eg2
          obtain ⟨x, hx⟩ : ∃ x, x = G.getD q 0 := ⟨_, rfl⟩
          obtain ⟨y, hy⟩ : ∃ y, y = G.getD (q - 1) 0 := ⟨_, rfl⟩
          rw [← hx] at hc1
          rw [← hy] at hc2
          have hlt : y < x := by
            rw [List.pairwise_iff_getElem] at hG
            have := hG (q - 1) q (by have := hl.len; omega) (by rw [hl.len]; exact hqn) (by omega)
            rw [hx, hy, List.getD_eq_getElem?_getD, List.getD_eq_getElem?_getD, List.getElem?_eq_getElem (i := q) (by rw [hl.len]; exact hqn), List.getElem?_eq_getElem (i := q - 1) (by have := hl.len; omega)]
            exact this
          have hd : decide (x ≤ y) = false := by simp; omega
          clear hx hy hG hGs
          go_wp2
          go_quiet (fail)
          go_wp2
          go_round
          case rel => exact ⟨q + 1, by omega, .inl (by omega), by go_num, hl.keep0 ((Mod.refl _ _).drewN _), hm.drewN _⟩
          case measure => simp [intOf]; omega
        · go_wp2_with fail
          refine (told19 _).mono ?_
          rintro e w7 ⟨rfl, m7⟩
          go_wp2_with fail
          refine (flush_nil _).mono ?_
          rintro e w8 ⟨rfl, rfl⟩
          go_wp2_with fail
          refine (blen_nil _).mono ?_
          rintro e w9 ⟨rfl, rfl⟩
          go_wp2_with fail
          refine (flush_nil _).mono ?_
          rintro e w8 ⟨rfl, rfl⟩
          go_wp2_with fail
          refine (ints_any none none 0 0 0 0 [] [] _ (IsL.nil _) (IsL.nil _) (by omega) (by omega)).mono ?_
          rintro e w8 ⟨rfl, k8, rfl⟩
          go_wp2
          go_ret
          exact ⟨rfl, (hm.trans m7).drewN _⟩

end Go.Proofs.Ytjjbcfbljnekgaa
