/-
  treadmilllaw11.QueueDels: the walk.
-/
import Derived.Test.YtgojfccaohngaaaQTold
import Derived.Test.YtgojfccaohngaaaQueue2
import Derived.Test.YtgojfccaohngaaaOut
namespace Go.Proofs.Ytgojfccaohngaaa
open Go.RowKit

/-- Each number, modulo 10. -/
def md10 (l : List Int) : List Int := l.map (fun x => (IntKind.u64.wrap x).tmod 10)

/-- A slice's length, for a measure. -/
def slLen : Value → Nat | .slice _ n _ => n | _ => 0

set_option maxHeartbeats 4000000 in
set_option maxRecDepth 100000 in
theorem qdels_any (A : Option Addr) (n c : Nat) (l : List Int) (which : Int) (w : World) (hmax : n ≤ maxLen) (hl0 : 0 < n → IsL w A n c l) :
    Calls Try.prog 7 #[.slice A n c, .int .i64 which] w fun e w' => e = .returned (.bool true) ∧ Mod (fun _ => False) w w' := by
  obtain ⟨x, hx, ex⟩ := umod which 11 (by omega)
  have ex' : (IntKind.u64.wrap which).tmod 11 = (x : Int) := ex
  have hcm : (n : Int) ≤ 9223372036854775807 := by simp only [maxLen] at hmax; omega
  have HL0 := Lib.hid hl0
  clear hmax hl0
  clear ex
  by_cases h0 : n = 0
  · have hb0 : ((n : Int) == 0) = true := by rw [beq_iff_eq]; omega
    clear hcm h0
    go_enter Try.func7, Try.ntmps7
    go_wp2_with fail
    refine (told11 _).mono ?_
    rintro e w1 ⟨rfl, m1⟩
    go_wp2
    go_ret
    exact ⟨rfl, m1⟩
  · have hb0 : ((n : Int) == 0) = false := by rw [beq_eq_false_iff_ne]; omega
    by_cases h60 : 60 < n
    · clear h0
      go_enter Try.func7, Try.ntmps7
      go_wp2_with fail
      refine (told11 _).mono ?_
      rintro e w1 ⟨rfl, m1⟩
      go_wp2
      go_ret
      exact ⟨rfl, m1⟩
    · have hn60 : n ≤ 60 := by omega
      have hn1 : 1 ≤ n := by omega
      have hl := HL0.out hn1
      clear h0 hcm h60 HL0
      go_enter Try.func7, Try.ntmps7
      go_wp2_with fail
      refine (new_queue _).mono ?_
      rintro e w1 ⟨b, rfl, hb, hq1, m1⟩
      have hl1 := hl.keep0 m1
      go_wp2_with fail
      go_loopw [6, 7] (fun v i wr => ∃ (j : Nat) (A2 : Option Addr) (n2 c2 : Nat), j ≤ n ∧ i = .int .i64 j ∧ v = .slice A2 n2 c2 ∧ OwnL wr A2 n2 c2 (md10 (l.take j)) ∧ (∀ d, blk A2 = some d → w.heap.size ≤ d) ∧
          IsL wr A n c l ∧ Queue wr b none [] ∧ Mod (fun _ => False) w wr) (fun _ i _ => n - (intOf i).toNat)
      case atStart => exact ⟨0, none, 0, 0, by omega, rfl, rfl, OwnL.nil _, (fun d hd => by cases hd), hl1, hq1, m1⟩
      case round =>
        obtain ⟨j, A2, n2, c2, hj, rfl, rfl, hown, hf2, hl2, hq2, hm2⟩ := hrel
        have hn2 : n2 ≤ 60 := by have := hown.len; unfold md10 at this; rw [List.length_map, List.length_take] at this; omega
        by_cases hjn : j < n
        · obtain ⟨g, o, rfl, hcx⟩ := hl2.at_ hjn
          obtain ⟨y, _, e2, e3⟩ := drop_cons l (k := j) (by rw [hl2.len]; exact hjn)
          rw [e3] at hcx
          obtain ⟨k, hk, ek⟩ := umod y 10 (by omega)
          have ek' : (IntKind.u64.wrap y).tmod 10 = (k : Int) := ek
          have e4 : md10 (l.take (j + 1)) = md10 (l.take j) ++ [(k : Int)] := by unfold md10; rw [e2, List.map_append]; simp only [List.map_cons, List.map_nil]; rw [ek']
          have E4 := Lib.hid e4
          have hgl : g < w.heap.size := by
            have := hl.lt ⟨g, o, none⟩ rfl
            exact this
          clear e2 e3 ek e4 hl1 hq1 m1
          go_wp2_with (at_builtin; refine wpList_app _ rfl (.tmp 31) (.tmp 39) _ rfl Try.underlying27 int_info A2 n2 c2 _ rfl (hown.alloc _) _ 1 1 [(k : Int)] rfl (IsL.one wr _) (by omega) ?_; intro A3 n3 c3 w3 hn3 hn4 hown3 hg3 hat3)
          have m5 := grown_mod hg3
          have hm6 := hm2.new m5 (fun i hi => hf2 i hi)
          have hf3 := fresh_app hf2 hm2.size hat3
          have hl6 := hl2.keep m5 (fun d hd e => by cases hd; have := hf2 _ e; simp at this; omega)
          have hqr : blk A2 ≠ some b := by
            obtain ⟨_, _, _, hr, _⟩ := hq2
            exact hown.ne_row hr (by decide)
          have hq6 := hq2.keep m5 hqr (fun _ h => by cases h)
          rw [← E4.out] at hown3
          go_roundw
          case rel => exact ⟨j + 1, A3, n3, c3, by omega, by go_num, rfl, hown3, hf3, hl6, hq6, hm6⟩
          case measure => simp [intOf]; omega
        · have hj2 : l.take j = l := List.take_of_length_le (by rw [hl2.len]; omega)
          rw [hj2] at hown
          clear hj2 hl1 hq1 m1 hl2
          obtain ⟨L, hL⟩ : ∃ L, L = md10 l := ⟨_, rfl⟩
          rw [← hL] at hown
          have hLn := hown.len
          clear hL
          have hqr : blk A2 ≠ some b := by
            obtain ⟨_, _, _, hr, _⟩ := hq2
            exact hown.ne_row hr (by decide)
          go_wp2_with fail
          refine (qput_any b none [] _ n2 c2 L _ hq2 hown.isL (by simp; omega)).mono ?_
          rintro e w3 ⟨rfl, o3, hq3, ho3, m3⟩
          have hq3' : Queue w3 b o3 L := hq3
          have hown3 := hown.keep m3 (fun k hk e => by rcases e with rfl | e; exact hqr hk; cases e)
          have hm3 := hm2.new m3 (fun i hi => by rcases hi with rfl | hi; exact hb; cases hi)
          have ho3A : ∀ k, o3 = some k → blk A2 ≠ some k := by
            intro k hk e
            have := hown.lt k e
            rcases ho3 with h | ⟨k2, h, h2⟩
            · rw [h] at hk; cases hk
            · rw [h] at hk; injection hk with hk; omega
          have ho3w : ∀ k, o3 = some k → w.heap.size ≤ k := by
            intro k hk
            have := hm2.size
            rcases ho3 with h | ⟨k2, h, h2⟩
            · rw [h] at hk; cases hk
            · rw [h] at hk; injection hk with hk; omega
          clear hq3 hq2 hown hm2 m3 hf2
          go_wp2_with fail
          refine (out_any A2 n2 c2 L x _ hown3.isL hown3.ty (by omega)).mono ?_
          rintro e w4 ⟨A4, n4, c4, rfl, hl4, _, hA4, m4⟩
          have hq4 := hq3'.keep m4 (fun h => h) (fun _ _ h => h)
          have hm4 := hm3.trans m4
          have hLlen : L.length ≤ 60 := by omega
          have hEl : (L.erase x).length ≤ 60 := Nat.le_trans List.length_erase_le hLlen
          have hn4 : n4 ≤ 60 := by rw [← hl4.len]; exact hEl
          have hA4b : ∀ d, A4 = some d → d.block ≠ b ∧ o3 ≠ some d.block := by
            intro d hd
            have hh1 := hq3'.lt
            rcases hA4 with e | e
            · refine ⟨fun e2 => hqr (by rw [← e, hd, ← e2]; rfl), fun e2 => ho3A _ e2 (by rw [← e, hd]; rfl)⟩
            · have h4 := e d hd
              exact ⟨by have := hh1.1; omega, fun e2 => by have := (hh1.2 _ e2).1; omega⟩
          clear hq3' hm3 m4 hA4 ho3A hown3
          go_wp2_with fail
          refine (qdel_any b o3 L x _ hq4 (by omega)).mono ?_
          rintro e w5 ⟨rfl, hq5, m5⟩
          have hl5 := hl4.keep m5 (fun d hd e => by rcases e with e | e; exact (hA4b d hd).1 e; exact (hA4b d hd).2 e)
          have hm5 := hm4.new m5 (fun i hi => by rcases hi with rfl | hi; exact hb; exact ho3w _ hi)
          have hb5 : (decide ((x : Int) ∈ L) != decide ((x : Int) ∈ L)) = false := by simp
          obtain ⟨E, hE⟩ : ∃ E, E = L.erase (x : Int) := ⟨_, rfl⟩
          rw [← hE] at hq5 hl5 hEl
          clear hE hq4 hl4 hm4 m5
          obtain ⟨B, hB⟩ : ∃ B, B = decide ((x : Int) ∈ L) := ⟨_, rfl⟩
          rw [← hB] at hb5 ⊢
          clear hB
          go_wp2_with fail
          refine (qall_any b o3 E _ hq5 (by omega)).mono ?_
          rintro e w6 ⟨A6, n6, c6, rfl, hl6, f6, m6⟩
          have hn6 : n6 ≤ 60 := by rw [← hl6.len]; exact hEl
          go_wp2_with fail
          refine (ints_any A6 A4 n6 n4 c6 c4 _ _ _ hl6 (hl5.keep0 m6) (by omega) (by omega)).mono ?_
          rintro e w7 ⟨rfl, k7, rfl⟩
          rw [decide_eq_true rfl]
          have m7 : Mod (fun _ => False) w5 (w6.drewN k7) := m6.drewN k7
          have hq7 := hq5.keep m7 (fun h => h) (fun _ _ h => h)
          have hl7 := hl5.keep0 m7
          have hm7 := hm5.trans m7
          clear hq5 hl5 hm5 m7 m6 f6 hl6
          go_wp2
          obtain ⟨wa, hwa⟩ : ∃ wa : World, wa = w6.drewN k7 := ⟨_, rfl⟩
          rw [← hwa] at hq7 hl7 hm7 ⊢
          clear hwa
          have hm7s := hm7.size
          go_loopw [11] (fun v wr => ∃ (j : Nat) (A8 : Option Addr) (n8 c8 : Nat) (o : Option Nat), j ≤ E.length ∧ v = .slice A8 n8 c8 ∧ OwnL wr A8 n8 c8 (E.take j) ∧ (∀ d, blk A8 = some d → wa.heap.size ≤ d ∧ o ≠ some d) ∧
              Queue wr b o (E.drop j) ∧ IsL wr A4 n4 c4 E ∧ Mod (fun _ => False) w wr ∧ wa.heap.size ≤ wr.heap.size) (fun v _ => E.length - slLen v)
          case atStart => exact ⟨0, none, 0, 0, o3, by omega, rfl, OwnL.nil _, (fun d hd => by cases hd), hq7, hl7, hm7, Nat.le_refl _⟩
          case round =>
            obtain ⟨j, A8, n8, c8, o, hj, rfl, hown, hf8, hq8, hl8, hm8, hs8⟩ := hrel
            have hn8 : n8 = j := by have := hown.len; rw [List.length_take] at this; omega
            subst hn8
            have hAlt : ∀ d, A4 = some d → d.block < wa.heap.size := fun d hd => hl7.lt d hd
            have hbwa : b < wa.heap.size := hq7.lt.1
            obtain ⟨R, hR⟩ : ∃ R, R = (E.drop n8).length := ⟨_, rfl⟩
            have hRl : R = E.length - n8 := by rw [hR, List.length_drop]
            have hRE : R + n8 ≤ E.length := by omega
            have hRE2 : E.length ≤ R + n8 := by omega
            have HR := Lib.hid hR
            clear hR hRl hq7 hl7 hm7
            by_cases hR0 : 0 < R
            · obtain ⟨N, hN⟩ : ∃ N, N = qtake R 3 5 := ⟨_, rfl⟩
              have hN1 : 1 ≤ N ∧ N ≤ R := by
                rw [hN]; unfold qtake
                have h1 : (max (3 : Int) 1).toNat = 3 := rfl
                have h2 : (max (5 : Int) 0).toNat = 5 := rfl
                rw [h1, h2]
                omega
              obtain ⟨hN1, hN2⟩ := hN1
              have HN := Lib.hid hN
              clear hN
              go_wp2_with fail
              refine (qlen_any b o _ _ hq8).mono ?_
              rintro e w9 ⟨rfl, rfl⟩
              rw [← HR.out]
              go_wp2_with fail
              refine (qget_any b o _ 3 5 _ hq8 (by rw [← HR.out]; omega) (by omega) (by omega)).mono ?_
              rintro e w10 ⟨A10, n10, c10, rfl, hl10, ⟨o10, hq10, ho10, hA10⟩, m10⟩
              rw [← HR.out, ← HN.out] at hl10 hq10
              rw [List.drop_drop] at hq10
              have hn10 : n10 ≤ N := by rw [← hl10.len, List.length_take]; omega
              have hn11 : N ≤ n10 := by rw [← hl10.len, List.length_take, ← HR.out]; omega
              have hown10 := hown.keep m10 (fun k hk e => by have := (hf8 k hk).1; omega)
              have hl10b := hl8.keep m10 (fun d hd e => by have := hq8.lt.1; exact (hA4b d hd).1 e)
              have hm10 := hm8.new m10 (fun i hi => by subst hi; exact hb)
              have hs10 := m10.size
              have hown8 : ∀ d, blk A8 = some d → d < w9.heap.size := hown.lt
              have hb9 : b < w9.heap.size := hq8.lt.1
              have etk : E.take n8 ++ (E.drop n8).take N = E.take (n8 + N) := by rw [List.take_add]
              have ETK := Lib.hid etk
              clear etk hq8 hl8 hm8 m10 hown
              go_wp2_with (at_builtin; refine wpList_app _ rfl (.tmp 69) (.tmp 71) _ rfl Try.underlying27 int_info A8 n8 c8 _ rfl hown10 A10 n10 c10 _ rfl hl10 (by omega) ?_; intro A11 n11 c11 w11 hn12 hn13 hown11 hg11 hat11)
              have m11 : Mod (fun i => blk A8 = some i) w10 w11 := (Mod.refl (fun i => blk A8 = some i) w10).grown hg11 (fun k hk => .inl hk)
              have hs11 := m11.size
              have hq11 := hq10.keep m11 (fun e => by have := (hf8 _ e).1; omega) (fun k hk e => by have h1 := ho10 k hk; have h2 := hown8 _ e; omega)
              have hl11 := hl10b.keep m11 (fun d hd e => by have h1 := (hf8 _ e).1; have h2 := hAlt d hd; omega)
              have hm11 := hm10.new m11 (fun i hi => by have h1 := (hf8 _ hi).1; have h2 := hm7s; omega)
              have hf11 : ∀ d, blk A11 = some d → wa.heap.size ≤ d ∧ o10 ≠ some d := by
                intro d hd
                rcases hat11 with e | e
                · have h1 : blk A8 = some d := by rw [← e]; exact hd
                  exact ⟨(hf8 d h1).1, fun e2 => by have h2 := ho10 _ e2; have h3 := hown8 _ h1; omega⟩
                · rw [e] at hd
                  injection hd with hd
                  exact ⟨by omega, fun e2 => by have h2 := (hq10.lt.2 _ e2).1; omega⟩
              rw [ETK.out] at hown11
              have hn14 : n11 = n8 + N := by omega
              subst hn14
              go_roundw
              case rel => exact ⟨n8 + N, A11, n8 + N, c11, o10, by omega, rfl, hown11, hf11, hq11, hl11, hm11, by omega⟩
              case measure => simp [slLen]; omega
            · have hRz : R = 0 := by omega
              have htk : E.take n8 = E := List.take_of_length_le (by omega)
              rw [htk] at hown
              have HRZ := Lib.hid hRz
              clear htk hRz
              go_wp2_with fail
              refine (qlen_any b o _ _ hq8).mono ?_
              rintro e w9 ⟨rfl, rfl⟩
              rw [← HR.out, HRZ.out]
              go_wp2_with fail
              refine (told11 _).mono ?_
              rintro e w10 ⟨rfl, m10⟩
              have hown10 := hown.keep0 m10
              have hl10 := hl8.keep0 m10
              have hq10 := hq8.keep m10 (fun h => h) (fun _ _ h => h)
              have hm10 := hm8.trans m10
              go_wp2_with fail
              refine (ints_any A8 A4 n8 n4 c8 c4 E E _ hown10.isL hl10 (by omega) (by omega)).mono ?_
              rintro e w11 ⟨rfl, k11, rfl⟩
              rw [decide_eq_true rfl]
              have hq11 : Queue (w10.drewN k11) b o (E.drop n8) := hq10.keep ((Mod.refl (fun _ => False) w10).drewN k11) (fun h => h) (fun _ _ h => h)
              have hm11 : Mod (fun _ => False) w (w10.drewN k11) := hm10.drewN k11
              go_wp2_with fail
              refine (qget_any b o _ 1 (-1) _ hq11 (by rw [← HR.out]; omega) (by omega) (by omega)).mono ?_
              rintro e w12 ⟨A12, n12, c12, rfl, hl12, _, m12⟩
              have hn12 : n12 = 0 := by
                rw [← hl12.len, List.length_take, ← HR.out]; omega
              subst hn12
              have hm12 := hm11.new m12 (fun i hi => by subst hi; exact hb)
              go_wp2_with fail
              refine (qlen_nil _).mono ?_
              rintro e w13 ⟨rfl, rfl⟩
              go_wp2_with fail
              refine (qget_nil 1 1 _).mono ?_
              rintro e w13 ⟨rfl, rfl⟩
              go_wp2_with fail
              refine (qdel_nil 0 _).mono ?_
              rintro e w13 ⟨rfl, rfl⟩
              go_wp2
              go_ret
              exact ⟨rfl, hm12⟩

end Go.Proofs.Ytgojfccaohngaaa
