/-
  treadmilllaw19.BarrierPlays: the walk.
-/
import Derived.Test.YtjjbcfbljnekgaaRBar
import Derived.Test.YtjjbcfbljnekgaaBArgs
import Derived.BigQuiet
namespace Go.Proofs.Ytjjbcfbljnekgaa
open Go.RowKit

theorem Barrier.row {w : World} {b : Nat} {ps : List (Int × Int)} (h : Barrier w b ps) : ∃ f, w.rowIs b 83 33 f := by
  obtain ⟨f, hr, _⟩ := h
  exact ⟨_, hr⟩

theorem RB.new (w : World) : RB (w.alloc (.cells #[.slice none 0 0] 28)) w.heap.size [] := by
  refine ⟨none, 0, 0, ?_, RdG.nil _ _, TyG.nil _ _⟩
  exact World.rowIs_alloc w _ 28 (fun _ => .slice none 0 0) (fun i hi => by
    have : i = 0 := by simpa using hi
    subst this; rfl)

set_option maxHeartbeats 4000000 in
set_option maxRecDepth 100000 in
theorem plays_true (A : Option Addr) (n c : Nat) (ps : List (Int × Int)) (A1 : Option Addr) (n1 c1 : Nat) (fs : List Bool) (w : World) (_ : n ≤ maxLen) (hp : IsP w A n ps) (_ : n1 ≤ maxLen) (hfl : IsB w A1 n1 fs) :
    Calls Try.prog 3 #[.slice A n c, .slice A1 n1 c1] w fun e w' => e = .returned (.bool true) ∧ Mod (fun _ => False) w w' := by
  go_enter Try.func3, Try.ntmps3
  go_wp2_with fail
  refine (bnew _).mono ?_
  rintro e w1 ⟨b, rfl, hb, hrb, m1⟩
  have hbl := hrb.lt
  go_wp2_with fail
  obtain ⟨z, hz⟩ : ∃ z, z = w1.heap.size := ⟨_, rfl⟩
  have hrz := RB.new w1
  have mA : Mod (fun _ => False) w1 (w1.alloc (.cells #[.slice none 0 0] 28)) := (Mod.refl _ w1).alloc _
  rw [← hz] at hrz
  rw [← hz]
  have hzb : z ≠ b := by omega
  have hSb : ∀ i, i = b → w.heap.size ≤ i := fun i hi => by subst hi; exact hb
  have hSz : ∀ i, i = z → w.heap.size ≤ i := fun i hi => by subst hi; have := m1.size; omega
  have hrbA := hrb.keep mA (fun h => h)
  have hmA := m1.trans mA
  have HZB := Lib.hid hzb
  clear hrb m1 mA hz hzb hbl
  go_loopw [7] (fun i wr => ∃ (k : Nat) (P : List (Int × Int)), k ≤ n ∧ k ≤ 60 ∧ i = .int .i64 k ∧ Barrier wr b P ∧ RB wr z P ∧ Mod (fun _ => False) w wr) (fun i _ => n - (intOf i).toNat)
  case atStart => exact ⟨0, [], by omega, by omega, rfl, hrbA, hrz, hmA⟩
  case round =>
    clear hrbA hrz hmA
    obtain ⟨k, P, hk, hk60, rfl, hr, hz, hm⟩ := hrel
    by_cases hkn : k < n ∧ k < 60
    · obtain ⟨hkn, hkn60⟩ := hkn
      obtain ⟨g, o, rfl, hgl, hc⟩ := (hp.keep hm (fun _ _ h => h)).2 (by omega)
      have hgw : g < w.heap.size := by obtain ⟨g', o', e', h', _⟩ := hp.2 (by omega); cases e'; exact h'
      have hck := hc k hkn
      obtain ⟨x, hx⟩ : ∃ x, x = (ps.getD k (0, 0)).1 := ⟨_, rfl⟩
      obtain ⟨y, hy⟩ : ∃ y, y = (ps.getD k (0, 0)).2 := ⟨_, rfl⟩
      rw [← hx, ← hy] at hck
      obtain ⟨hcx0, hcy0⟩ := hck
      have hcx : wr.cell? ⟨g, o + k * 2, none⟩ = some (.int .i64 x) := by rw [Nat.mul_comm]; exact hcx0
      have hcy : wr.cell? ⟨g, o + k * 2 + 1, none⟩ = some (.int .i64 y) := by rw [Nat.mul_comm, Nat.add_assoc]; exact hcy0
      clear hc hx hy hcx0 hcy0
      have hgb : ¬ g = b := fun e => by have := hSb _ e; omega
      have hgz : ¬ g = z := fun e => by have := hSz _ e; omega
      go_wp2
      go_region_held3 (fun W => W.cell? ⟨g, o + k * 2, none⟩ = some (.int .i64 x) ∧ W.cell? ⟨g, o + k * 2 + 1, none⟩ = some (.int .i64 y)) (first | (with_reducible exact ⟨cx3, cy3⟩) | (with_reducible exact ⟨cx2, cy2⟩) | (with_reducible exact ⟨hcx, hcy⟩) | go_keep)
        (first
          | (go_at_call 15
             have _t := hz2
             refine (rput15_any z x y P _ (by first | (with_reducible exact hz2) | exact hz2.keep ((Mod.refl (fun _ => False) w2).drew) (fun h => h) (fun _ _ h => h))).mono ?_
             rintro e w3 ⟨rfl, hz3, m3⟩
             have m3' : Mod (fun i => i = z) w2 w3 := by first | (with_reducible exact m3) | exact (((Mod.refl _ w2).drew).trans m3)
             have hgl2 : g < w2.heap.size := World.block_lt_of_cell? w2 _ cx2
             have cx3 : w3.cell? ⟨g, o + k * 2, none⟩ = some (.int .i64 x) := (m3'.cell (p := ⟨g, o + k * 2, none⟩) hgl2 hgz).trans cx2
             have cy3 : w3.cell? ⟨g, o + k * 2 + 1, none⟩ = some (.int .i64 y) := (m3'.cell (p := ⟨g, o + k * 2 + 1, none⟩) hgl2 hgz).trans cy2
             have hr3 := hr2.keep m3' (fun e => HZB.out e.symm))
          | (go_at_call 14
             refine (bput_any b x y P _ (by first | (with_reducible exact hr) | exact hr.keep ((Mod.refl (fun _ => False) wr).drew) (fun h => h))).mono ?_
             rintro e w2 ⟨rfl, hr2, m2⟩
             have m2' : Mod (fun i => i = b) wr w2 := by first | (with_reducible exact m2) | exact (((Mod.refl _ wr).drew).trans m2)
             have cx2 : w2.cell? ⟨g, o + k * 2, none⟩ = some (.int .i64 x) := (m2'.cell (p := ⟨g, o + k * 2, none⟩) hgl hgb).trans hcx
             have cy2 : w2.cell? ⟨g, o + k * 2 + 1, none⟩ = some (.int .i64 y) := (m2'.cell (p := ⟨g, o + k * 2 + 1, none⟩) hgl hgb).trans hcy
             have hz2 := hz.keep m2' HZB.out (by obtain ⟨f, hrow⟩ := hr.row; exact RB.other hrow (by decide))))
      obtain ⟨P2, hP2⟩ : ∃ P2, P2 = bput P x y := ⟨_, rfl⟩
      rw [← hP2] at hr3 hz3
      have hm3 : Mod (fun _ => False) w w3 := (hm.new m2' hSb).new m3' hSz
      clear hP2 hr hz hm hr2 hz2 m2 m2' m3 m3' cx2 cy2 cx3 cy3 hcx hcy
      go_wp2_with fail
      refine (ball_any b P2 _ hr3).mono ?_
      rintro e w4 ⟨A4, c4, rfl, hp4, _, m4⟩
      have hr4 := hr3.keep m4 (fun h => h)
      have hz4 := hz3.keep m4 (fun h => h) (fun _ _ h => h)
      have hm4 := hm3.trans m4
      have hl16 := hr4.len
      clear hr3 hz3 hm3 m4
      obtain ⟨A5, n5, c5, hrow5, hrd5, hty5⟩ := hz4
      have hn5 : n5 = P2.length := by have := hrd5.1; rw [pairsV_len] at this; omega
      subst hn5
      obtain ⟨N, hN⟩ : ∃ N, N = P2.length := ⟨_, rfl⟩
      rw [← hN] at hp4 hrow5 hrd5 hl16 ⊢
      have hcz : w4.cell? ⟨z, 0, none⟩ = some (.slice A5 N c5) := hrow5.cell (by omega)
      have HN := Lib.hid hN
      clear hN
      go_wp2_with fail
      have hlen17 : ∀ j, Calls Try.prog 17 #[.pointer (some ⟨b, 0, none⟩)] (w4.drewN j) fun e w' => e = .returned (.int .i64 N) ∧ w' = w4.drewN j := fun j => by
        rw [HN.out]
        exact blen_any b P2 _ (hr4.keep ((Mod.refl (fun _ => False) w4).drewN j) (fun h => h))
      go_quiet ((go_at_call 17; exact Calls.quiet_of_same (hlen17 _)))
      go_wp2
      clear hlen17 hcz
      obtain ⟨wa, hwa⟩ : ∃ wa : World, wa = w4 := ⟨_, rfl⟩
      go_loopw [9] (fun i wr => ∃ q : Nat, q ≤ N ∧ i = .int .i64 q ∧ Mod (fun _ => False) w4 wr) (fun i _ => N - (intOf i).toNat)
      case atStart => exact ⟨0, by omega, rfl, (Mod.refl _ w4).drewN _⟩
      case round =>
        obtain ⟨q, hq, rfl, hmq⟩ := hrel
        have hrowq := hmq.rowIs hrow5 (fun h => h)
        have hcz : wr.cell? ⟨z, 0, none⟩ = some (.slice A5 N c5) := hrowq.cell (by omega)
        by_cases hqN : q < N
        · obtain ⟨g4, o4, rfl, hgl4, hc4⟩ := (hp4.keep hmq (fun _ _ h => h)).2 (by omega)
          obtain ⟨g5, o5, rfl, hgl5, hc5⟩ := (hrd5.keep0 hmq).2.2 (by omega)
          have hget := pairsV_get P2 q (by rw [← HN.out]; exact hqN)
          have hcq := hc4 q hqN
          obtain ⟨u, hu⟩ : ∃ u, u = (P2.getD q (0, 0)).1 := ⟨_, rfl⟩
          obtain ⟨v, hv⟩ : ∃ v, v = (P2.getD q (0, 0)).2 := ⟨_, rfl⟩
          rw [← hu, ← hv] at hget hcq
          have e0 : wr.cell? ⟨g4, o4 + q * 2, none⟩ = some (.int .i64 u) := by rw [Nat.mul_comm]; exact hcq.1
          have e1 : wr.cell? ⟨g4, o4 + q * 2 + 1, none⟩ = some (.int .i64 v) := by rw [Nat.mul_comm, Nat.add_assoc]; exact hcq.2
          have e2 : wr.cell? ⟨g5, o5 + q * 2, none⟩ = some (.int .i64 u) := by rw [hc5 _ (by omega), Nat.mul_comm]; exact hget.1
          have e3 : wr.cell? ⟨g5, o5 + q * 2 + 1, none⟩ = some (.int .i64 v) := by rw [Nat.add_assoc, hc5 _ (by omega), Nat.mul_comm]; exact hget.2
          have hi0 : (0 : Int) ≤ (q : Int) := by omega
          have hi1 : (q : Int) < (N : Int) := by omega
          clear hc4 hc5 hget hcq hu hv
          go_wp2
          go_quiet (fail)
          go_wp2
          go_roundw
          case rel => exact ⟨q + 1, by omega, by go_num, hmq.drewN _⟩
          case measure => simp [intOf]; omega
        · have hrq := hr4.keep hmq (fun h => h)
          have hzq : RB wr z P2 := ⟨A5, N, c5, hrowq, hrd5.keep0 hmq, hty5.keep hmq (fun _ _ h => h)⟩
          have hmw : Mod (fun _ => False) w wr := hm4.trans hmq
          clear hp4 hrow5 hrd5 hty5 hcz hrowq hr4 hm4 hmq hwa
          by_cases hk1 : k < n1
          · obtain ⟨gf, of, rfl, hglf, hcf⟩ := (hfl.keep hmw (fun _ _ _ h => h)).2 (by omega)
            obtain ⟨fl, hfl2⟩ : ∃ fl, fl = fs.getD k false := ⟨_, rfl⟩
            have hck := hcf k hk1
            rw [← hfl2] at hck
            clear hcf hfl2
            cases fl with
            | false =>
              go_wp2
              go_roundw
              case rel => exact ⟨k + 1, P2, by omega, by omega, by go_num, hrq, hzq, hmw⟩
              case measure => simp [intOf]; omega
            | true =>
              go_wp2_with fail
              refine (flush_any b P2 _ hrq).mono ?_
              rintro e w5 ⟨A6, n6, c6, rfl, hl6, f6, hr6, m6⟩
              have hz6 := hzq.keep m6 HZB.out (by obtain ⟨f, hrow⟩ := hrq.row; exact RB.other hrow (by decide))
              have hm6 := hmw.new m6 hSb
              go_wp2_with fail
              refine (rflush_any z P2 _ hz6 (by rw [← HN.out]; exact hl16)).mono ?_
              rintro e w6 ⟨A7, n7, c7, rfl, hl7, ht7, hz7, m7⟩
              have hr7 := hr6.keep m7 (fun e => HZB.out e.symm)
              have hm7 := hm6.new m7 hSz
              have hzs : z < wr.heap.size := hzq.lt
              have hl67 := hl6.keep m7 (fun d hd e => by have := f6 d hd; omega)
              have hn6 : n6 ≤ 32 := by
                have h1 := told1_len (nums P2)
                rw [← flushed, hl6.len, nums_len, ← HN.out] at h1
                omega
              go_wp2_with fail
              refine (ints_any _ _ _ _ _ _ _ _ _ hl67 hl7 (by omega) (by have h1 := hl7.len; have h2 := hl6.len; omega)).mono ?_
              rintro e w9 ⟨rfl, k9, rfl⟩
              rw [decide_eq_true rfl]
              have m9 : Mod (fun _ => False) w6 (w6.drewN k9) := (Mod.refl _ _).drewN _
              go_wp2
              go_roundw
              case rel => exact ⟨k + 1, [], by omega, by omega, by go_num, hr7.keep m9 (fun h => h), hz7.keep m9 (fun h => h) (fun _ _ h => h), hm7.trans m9⟩
              case measure => simp [intOf]; omega
          · have hk1' : decide (k < n1) = false := by simpa using hk1
            go_wp2
            go_roundw
            case rel => exact ⟨k + 1, P2, by omega, by omega, by go_num, hrq, hzq, hmw⟩
            case measure => simp [intOf]; omega
    · have hl16 := hr.len
      by_cases hkn1 : k < n
      · have hk60' : decide ((k : Int) < 60) = false := by simp; omega
        go_wp2_with fail
        refine (told19 _).mono ?_
        rintro e w2 ⟨rfl, m2⟩
        have hr2 := hr.keep m2 (fun h => h)
        have hz2 := hz.keep m2 (fun h => h) (fun _ _ h => h)
        have hm2 := hm.trans m2
        go_wp2_with fail
        refine (flush_any b P _ hr2).mono ?_
        rintro e w5 ⟨A6, n6, c6, rfl, hl6, f6, hr6, m6⟩
        have hz6 := hz2.keep m6 HZB.out (by obtain ⟨f, hrow⟩ := hr2.row; exact RB.other hrow (by decide))
        have hm6 := hm2.new m6 hSb
        go_wp2_with fail
        refine (rflush_any z P _ hz6 hl16).mono ?_
        rintro e w6 ⟨A7, n7, c7, rfl, hl7, ht7, hz7, m7⟩
        have hm7 := hm6.new m7 hSz
        have hzs : z < w2.heap.size := hz2.lt
        have hl67 := hl6.keep m7 (fun d hd e => by have := f6 d hd; omega)
        have hn6 : n6 ≤ 32 := by
          have h1 := told1_len (nums P)
          rw [← flushed, hl6.len, nums_len] at h1
          omega
        go_wp2_with fail
        refine (ints_any _ _ _ _ _ _ _ _ _ hl67 hl7 (by omega) (by have h1 := hl7.len; have h2 := hl6.len; omega)).mono ?_
        rintro e w9 ⟨rfl, k9, rfl⟩
        rw [decide_eq_true rfl]
        go_wp2
        go_ret
        exact ⟨rfl, hm7.drewN _⟩
      · go_wp2_with fail
        refine (told19 _).mono ?_
        rintro e w2 ⟨rfl, m2⟩
        have hr2 := hr.keep m2 (fun h => h)
        have hz2 := hz.keep m2 (fun h => h) (fun _ _ h => h)
        have hm2 := hm.trans m2
        go_wp2_with fail
        refine (flush_any b P _ hr2).mono ?_
        rintro e w5 ⟨A6, n6, c6, rfl, hl6, f6, hr6, m6⟩
        have hz6 := hz2.keep m6 HZB.out (by obtain ⟨f, hrow⟩ := hr2.row; exact RB.other hrow (by decide))
        have hm6 := hm2.new m6 hSb
        go_wp2_with fail
        refine (rflush_any z P _ hz6 hl16).mono ?_
        rintro e w6 ⟨A7, n7, c7, rfl, hl7, ht7, hz7, m7⟩
        have hm7 := hm6.new m7 hSz
        have hzs : z < w2.heap.size := hz2.lt
        have hl67 := hl6.keep m7 (fun d hd e => by have := f6 d hd; omega)
        have hn6 : n6 ≤ 32 := by
          have h1 := told1_len (nums P)
          rw [← flushed, hl6.len, nums_len] at h1
          omega
        go_wp2_with fail
        refine (ints_any _ _ _ _ _ _ _ _ _ hl67 hl7 (by omega) (by have h1 := hl7.len; have h2 := hl6.len; omega)).mono ?_
        rintro e w9 ⟨rfl, k9, rfl⟩
        rw [decide_eq_true rfl]
        go_wp2
        go_ret
        exact ⟨rfl, hm7.drewN _⟩

end Go.Proofs.Ytjjbcfbljnekgaa
