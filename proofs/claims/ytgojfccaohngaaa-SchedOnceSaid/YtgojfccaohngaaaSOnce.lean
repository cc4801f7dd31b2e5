/-
  treadmilllaw27.SchedOnce: the walk.
-/
import Derived.Test.YtgojfccaohngaaaSOnceA
import Derived.Deep.RegionHeld3
import Derived.Deep.DeepCutAuto
import Derived.Deep.CutBlock
import Derived.IntWalk
set_option linter.unusedSimpArgs false
namespace Go.Proofs.Ytgojfccaohngaaa
open Go.RowKit

theorem sumR_E0 (n : Nat) : sumR E0 n = 0 := by
  induction n with
  | zero => rfl
  | succ n ih => simp only [sumR]; rw [ih]; rfl
theorem cntR_E0 (x : Int) (n : Nat) : cntR E0 x n = 0 := by
  induction n with
  | zero => rfl
  | succ n ih => simp only [cntR]; rw [ih]; rfl
theorem inv_start (p : Nat) : Inv E0 [] p 0 (fun _ => false) := by
  refine ⟨fun j hj => by omega, fun x hx => ?_, fun _ _ => rfl⟩
  unfold cnt at hx
  rw [cntR_E0] at hx
  simp at hx
theorem own_start (w1 : World) (k : Nat) :
    Own (((w1.alloc (.cells #[.int .i64 k] 3)).alloc (.cells (madeCells #[.bool false] k) 4)).alloc (.cells #[.slice (some ⟨w1.heap.size + 1, 0, none⟩) k k] 64)) w1.heap.size (w1.heap.size + 1 + 1) (w1.heap.size + 1) k (fun _ => false) := by
  have e1 : (w1.alloc (.cells #[.int .i64 k] 3)).heap.size = w1.heap.size + 1 := by simp
  have e2 : ((w1.alloc (.cells #[.int .i64 k] 3)).alloc (.cells (madeCells #[.bool false] k) 4)).heap.size = w1.heap.size + 1 + 1 := by simp
  have r1 := World.rowIs_alloc w1 #[.int .i64 k] 3 (fun _ => .int .i64 k) (fun i hi => by
    obtain rfl : i = 0 := by simpa using hi
    rfl)
  have r2 := World.rowIs_made (w1.alloc (.cells #[.int .i64 k] 3)) (.bool false) k 4
  have r3 := World.rowIs_alloc ((w1.alloc (.cells #[.int .i64 k] 3)).alloc (.cells (madeCells #[.bool false] k) 4)) #[.slice (some ⟨w1.heap.size + 1, 0, none⟩) k k] 64 (fun _ => .slice (some ⟨w1.heap.size + 1, 0, none⟩) k k) (fun i hi => by
    obtain rfl : i = 0 := by simpa using hi
    rfl)
  rw [e1] at r2
  rw [e2] at r3
  have m1 : Mod (fun _ => False) (w1.alloc (.cells #[.int .i64 k] 3)) (((w1.alloc (.cells #[.int .i64 k] 3)).alloc (.cells (madeCells #[.bool false] k) 4)).alloc (.cells #[.slice (some ⟨w1.heap.size + 1, 0, none⟩) k k] 64)) := ((Mod.refl _ _).alloc _).alloc _
  have m2 : Mod (fun _ => False) ((w1.alloc (.cells #[.int .i64 k] 3)).alloc (.cells (madeCells #[.bool false] k) 4)) (((w1.alloc (.cells #[.int .i64 k] 3)).alloc (.cells (madeCells #[.bool false] k) 4)).alloc (.cells #[.slice (some ⟨w1.heap.size + 1, 0, none⟩) k k] 64)) := (Mod.refl _ _).alloc _
  exact ⟨m1.rowIs r1 (fun h => h), r3, m2.rowIs r2 (fun h => h)⟩

set_option maxHeartbeats 16000000 in
set_option maxRecDepth 100000 in
theorem sonce_true (n ps : Int) (P : Option Addr) (nP cP : Nat) (l : List OpS) (w : World) (hnP : nP ≤ maxLen) (hl : IsO27 w P nP l) :
    Calls Try.prog 11 #[.int .i64 n, .int .i64 ps, .slice P nP cP] w fun e w' => e = .returned (.bool true) ∧ Mod (fun _ => False) w w' := by
  unfold maxLen at hnP
  obtain ⟨k, hk, ek⟩ := umod n 601 (by omega)
  obtain ⟨p0, hp0, ep⟩ := umod ps 8 (by omega)
  have ek' : (IntKind.u64.wrap n).tmod 601 = (k : Int) := ek
  have ep' : (IntKind.u64.wrap ps).tmod 8 = (p0 : Int) := ep
  clear ek ep
  have hmk := fun W => run_make_row' (P := Try.prog) 64 4 (.bool false) 1 Try.underlying64 info4 rfl .i64 .i64 k (by omega) (by omega) W
  obtain ⟨p, hp⟩ : ∃ p, p = p0 + 1 := ⟨_, rfl⟩
  have hnew := fun W => snew_yes p W (by omega) (by omega)
  have ecast : (1 : Int) + (p0 : Int) = (p : Int) := by omega
  have EC := Lib.hid ecast
  have HN := Lib.hid hnew
  have hp8 : p ≤ 8 := by omega
  have hp1 : 1 ≤ p := by omega
  clear hnew ecast hp
  go_enter Try.func11, Try.ntmps11
  go_wp2_with fail
  rw [EC.out]
  refine (HN.out w).mono ?_
  rintro e w1 ⟨a, rfl, hps, h1⟩
  have HP := Lib.hid hps
  have h1 : SL w a w1 E0 [] := h1
  clear hps
  go_wp2_with fail
  clear ek' ep' hmk
  have hO := own_start w1 k
  have hS : SB w a (((w1.alloc (.cells #[.int .i64 k] 3)).alloc (.cells (madeCells #[.bool false] k) 4)).alloc (.cells #[.slice (some ⟨w1.heap.size + 1, 0, none⟩) k k] 64)) E0 [] (OwnB w1.heap.size (w1.heap.size + 1 + 1) (w1.heap.size + 1)) := by
    obtain ⟨o, q1, q2, q3⟩ := h1
    have m : Mod (fun _ => False) w1 (((w1.alloc (.cells #[.int .i64 k] 3)).alloc (.cells (madeCells #[.bool false] k) 4)).alloc (.cells #[.slice (some ⟨w1.heap.size + 1, 0, none⟩) k k] 64)) := (((Mod.refl _ _).alloc _).alloc _).alloc _
    have s1 := q3.size
    refine ⟨o, q1.keep0 m, fun i hi => ⟨q2 i hi, fun hb => ?_⟩, fun i hi => ?_, q3.trans m⟩
    · have := q1.lt i hi
      rcases hb with e | e | e <;> omega
    · rcases hi with e | e | e <;> (subst e; simp <;> omega)
  generalize (((w1.alloc (.cells #[.int .i64 k] 3)).alloc (.cells (madeCells #[.bool false] k) 4)).alloc (.cells #[.slice (some ⟨w1.heap.size + 1, 0, none⟩) k k] 64)) = wB at hO hS ⊢
  generalize w1.heap.size + 1 + 1 = snb at hO hS ⊢
  generalize w1.heap.size + 1 = sn at hO hS ⊢
  obtain ⟨kb, hkb⟩ : ∃ kb, kb = w1.heap.size := ⟨_, rfl⟩
  rw [← hkb] at hO hS ⊢
  clear hkb h1
  go_loopw [13, 14] (fun vl vi wr => ∃ (i : Nat) (R : Nat → RM) (Q : List Int) (seen : Nat → Bool), i ≤ k ∧ vi = .int .i64 i ∧ vl = .int .i64 (tot R Q p) ∧ SB w a wr R Q (OwnB kb snb sn) ∧ Own wr kb snb sn k seen ∧ Inv R Q p i seen ∧ tot R Q p ≤ i)
    (fun _ vi _ => k - (intOf vi).toNat)
  case atStart => exact ⟨0, E0, [], _, by omega, rfl, by simp [tot, sumR_E0], hS, hO, inv_start p, by simp [tot, sumR_E0]⟩
  case round =>
    clear hS hO
    obtain ⟨i, R, Q, seen, hi, rfl, rfl, hS, hO, hI, hT⟩ := hrel
    obtain ⟨T, hTe⟩ : ∃ T, T = tot R Q p := ⟨_, rfl⟩
    rw [← hTe] at hT ⊢
    have HT := Lib.hid hTe
    have HI := Lib.hid hI
    have ck : wr.cell? ⟨kb, 0, none⟩ = some (.int .i64 k) := hO.ck.cell (i := 0) (by omega)
    clear hTe hI
    by_cases hik : i < k
    · have d1 : decide ((i : Int) < (k : Int)) = true := decide_eq_true (by omega)
      have d2 : decide (i < k) = true := decide_eq_true hik
      go_upto_if 60 with (fail)
      have hrow : (wr.alloc (.cells #[.int .i64 0, .int .i64 i, .int .i64 0, .int .i64 0, .int .i64 0, .bool ((i : Int) % 3 == 0)] 66)).rowIs wr.heap.size 66 6 (opS ⟨0, i, 0, 0, 0, (i : Int) % 3 == 0⟩) :=
        World.rowIs_alloc wr _ 66 _ (fun j hj => by
          have h3 : j = 0 ∨ j = 1 ∨ j = 2 ∨ j = 3 ∨ j = 4 ∨ j = 5 := by simp at hj; omega
          rcases h3 with rfl | rfl | rfl | rfl | rfl | rfl <;> rfl)
      have hqW : w.heap.size ≤ wr.heap.size := hS.mod.size
      have mq : Mod (fun _ => False) wr (wr.alloc (.cells #[.int .i64 0, .int .i64 i, .int .i64 0, .int .i64 0, .int .i64 0, .bool ((i : Int) % 3 == 0)] 66)) := (Mod.refl _ wr).alloc _
      have hS := hS.keep0 mq
      have hO := hO.keep0 mq
      generalize wr.alloc (.cells #[.int .i64 0, .int .i64 i, .int .i64 0, .int .i64 0, .int .i64 0, .bool ((i : Int) % 3 == 0)] 66) = wq at hrow hS hO ⊢
      generalize wr.heap.size = q at hrow hqW ⊢
      clear mq ck
      go_cut [61] (fun _ wx => ∃ op : OpS, wx.rowIs q 66 6 (opS op) ∧ SB w a wx R Q (OwnB kb snb sn) ∧ Own wx kb snb sn k seen)
      case first =>
        by_cases hin : i < nP
        · have d3 : decide ((i : Int) < (nP : Int)) = true := decide_eq_true (by omega)
          have d4 : decide (i < nP) = true := decide_eq_true hin
          obtain ⟨g, o, rfl, hg, hcw⟩ := hl.2 (by omega)
          obtain ⟨b0, b1, b2, b3, b4, b5⟩ := hcw i hin
          generalize l.getD i OpS.zero = op at b0 b1 b2 b3 b4 b5
          have hc0 := (hS.mod.cell (p := ⟨g, o + i * 6, none⟩) hg (fun h => h)).trans b0
          have hc1 := (hS.mod.cell (p := ⟨g, o + i * 6 + 1, none⟩) hg (fun h => h)).trans b1
          have hc2 := (hS.mod.cell (p := ⟨g, o + i * 6 + 2, none⟩) hg (fun h => h)).trans b2
          have hc3 := (hS.mod.cell (p := ⟨g, o + i * 6 + 3, none⟩) hg (fun h => h)).trans b3
          have hc4 := (hS.mod.cell (p := ⟨g, o + i * 6 + 4, none⟩) hg (fun h => h)).trans b4
          have hc5 := (hS.mod.cell (p := ⟨g, o + i * 6 + 5, none⟩) hg (fun h => h)).trans b5
          have hc0 : wq.cell? ⟨g, o + i * 6, none⟩ = some (.int .i64 op.kind) := hc0
          have hc1 : wq.cell? ⟨g, o + i * 6 + 1, none⟩ = some (.int .i64 op.p) := hc1
          have hc2 : wq.cell? ⟨g, o + i * 6 + 2, none⟩ = some (.int .i64 op.g) := hc2
          have hc3 : wq.cell? ⟨g, o + i * 6 + 3, none⟩ = some (.int .i64 op.tick) := hc3
          have hc4 : wq.cell? ⟨g, o + i * 6 + 4, none⟩ = some (.int .i64 op.victim) := hc4
          have hc5 : wq.cell? ⟨g, o + i * 6 + 5, none⟩ = some (.bool op.next) := hc5
          have hi0 : (0 : Int) ≤ (i : Int) := by omega
          have hi1 : (i : Int) < (nP : Int) := by omega
          have q0 := hrow.cell (i := 0) (by omega)
          have q1 := hrow.cell (i := 1) (by omega)
          have q2 := hrow.cell (i := 2) (by omega)
          have q3 := hrow.cell (i := 3) (by omega)
          have q4 := hrow.cell (i := 4) (by omega)
          have q5 := hrow.cell (i := 5) (by omega)
          have z0 := hrow.frozen 0
          have z1 := hrow.frozen 1
          have z2 := hrow.frozen 2
          have z3 := hrow.frozen 3
          have z4 := hrow.frozen 4
          have z5 := hrow.frozen 5
          have zl := hrow.lt
          clear b0 b1 b2 b3 b4 b5 hcw
          go_wp2_with fail
          go_meet
          case rel =>
            obtain ⟨r6, m6⟩ := set6 hrow op
            exact ⟨_, r6, hS.row66 hrow hqW m6, hO.row66 hrow m6⟩
        · have d3 : decide ((i : Int) < (nP : Int)) = false := decide_eq_false (by omega)
          have d4 : decide (i < nP) = false := decide_eq_false hin
          go_wp2_with fail
          go_meet
          case rel => exact ⟨_, hrow, hS, hO⟩
      case rest =>
        clear hS hO hrow
        obtain ⟨op, hrow, hS, hO⟩ := hcut
        have q0 : wc.cell? ⟨q, 0, none⟩ = some (.int .i64 op.kind) := hrow.cell (i := 0) (by omega)
        have q1 : wc.cell? ⟨q, 1, none⟩ = some (.int .i64 op.p) := hrow.cell (i := 1) (by omega)
        have q5 : wc.cell? ⟨q, 5, none⟩ = some (.bool op.next) := hrow.cell (i := 5) (by omega)
        obtain ⟨j, hj, ej⟩ := umod op.p p (by omega)
        have ew : IntKind.u64.wrap (p : Int) = (p : Int) := by rw [IntKind.wrap_u64]; omega
        go_wp2_with fail
        refine (SB.call' hS hO hrow (fun o hs => sready_yes hs j (by have := HP.out; omega) i op.next (by have := HT.out; unfold tot at this; omega))).mono ?_
        rintro e w2 ⟨rfl, hS2, hO2, hrow2⟩
        clear hS hO hrow q0 q1 q5 ej ew
        have hI2 := HI.out.ready hj op.next
        have hT2 : tot (ready R j i op.next) (readyQ R Q j i op.next) p = T + 1 := by rw [ready_tot R Q p j hj, ← HT.out]
        have hw2 : (swhere (ready R j i op.next) (readyQ R Q j i op.next) a.ps i).2 = true := by
          rw [HP.out]
          exact where_found _ _ _ _ (by rw [hI2.1 i (by omega) (hI2.2.2 i |> fun _ => HI.out.2.2 i (Nat.le_refl _))]; omega)
        generalize ready R j i op.next = R2 at hS2 hI2 hT2 hw2
        generalize readyQ R Q j i op.next = Q2 at hS2 hI2 hT2 hw2
        have hq2 : Q2.length ≤ 700000 := by unfold tot at hT2; omega
        have hwh := SB.ask hS2 (fun o hs => swhere_any hs i (by omega))
        rw [hw2] at hwh
        generalize (swhere R2 Q2 a.ps i).1 = pl at hwh
        have HWh := Lib.hid hwh
        have HI2 := Lib.hid hI2
        have HT2 := Lib.hid hT2
        clear hwh hI2 hT2 hw2
        go_wp2_with fail
        refine HWh.out.mono ?_
        rintro e w3 ⟨rfl, hS3, m3⟩
        have hO3 := hO2.keep0 m3
        have hrow3 := m3.rowIs hrow2 (fun h => h)
        have q0 : w3.cell? ⟨q, 0, none⟩ = some (.int .i64 op.kind) := hrow3.cell (i := 0) (by omega)
        clear hS2 hO2 hrow2 m3
        go_upto_if 92 with (fail)
        have hSeen := HI2.out.2.2
        clear hSeen
        go_cut [13] (fun vl wx => ∃ (R : Nat → RM) (Q : List Int) (seen : Nat → Bool), vl = .int .i64 (tot R Q p) ∧ SB w a wx R Q (OwnB kb snb sn) ∧ Own wx kb snb sn k seen ∧ Inv R Q p (i + 1) seen ∧ tot R Q p ≤ i + 1)
        case first =>
          by_cases hb : (bits BinOp.and IntKind.i64 op.kind 3 == 3) = true
          · have q3 : w3.cell? ⟨q, 3, none⟩ = some (.int .i64 op.tick) := hrow3.cell (i := 3) (by omega)
            have q4 : w3.cell? ⟨q, 4, none⟩ = some (.int .i64 op.victim) := hrow3.cell (i := 4) (by omega)
            have md : Mod (fun _ => False) w3 w3.drew := (Mod.refl _ w3).drew
            have hv1 : -8 ≤ op.victim.tmod (p : Int) ∧ op.victim.tmod (p : Int) ≤ 8 := by
              have h1 := Int.tmod_lt_of_pos op.victim (b := (p : Int)) (by omega)
              have h2 := Int.tmod_lt_of_pos (-op.victim) (b := (p : Int)) (by omega)
              rw [Int.neg_tmod] at h2
              omega
            obtain ⟨v, hv⟩ : ∃ v, op.victim.tmod (p : Int) = v := ⟨_, rfl⟩
            rw [hv] at hv1
            obtain ⟨hv1, hv2⟩ := hv1
            have hwv : IntKind.i64.wrap v = v := by rw [IntKind.wrap_i64]; omega
            have hpk := SB.call' (hS3.keep0 md) (hO3.keep0 md) (md.rowIs hrow3 (fun h => h)) (fun o hs => pick_any hs j (by have := HP.out; omega) op.tick v hq2)
            have hpz : ((p : Int) == 0) = false := by rw [beq_eq_false_iff_ne]; omega
            have hpz2 : ¬ p = 0 := by omega
            rw [HP.out] at hpk
            rcases hP : pickM R2 Q2 p j op.tick v with ⟨⟨g, ok⟩, R', Q'⟩
            rw [hP] at hpk
            have HPk := Lib.hid hpk
            have HPM := Lib.hid hP
            clear hpk hP q0 md
            go_wp2_with fail
            refine wp_region_noPanic ?_
            refine wp_region_held_drew (S := fun W => W.cell? ⟨q, 3, none⟩ = some (.int .i64 op.tick) ∧ W.cell? ⟨q, 4, none⟩ = some (.int .i64 op.victim)) (by kernel_rfl) ⟨q3, q4⟩ (fun hHeld => ?_)
            (refine wpAnyH_take (i := 0) (v := ?_) rfl (by kernel_rfl) (by kernel_rfl) (by kernel_rfl) (fun _ _ _ h => h) (Or.inl ⟨by kernel_rfl, ?_⟩) (by assumption) ?_; rotate_left; focus (intro wq hSw; (try dsimp only at hSw); go_simp; try with_reducible rfl); try simp only [List.getElem_toArray, List.getElem_cons_succ, List.getElem_cons_zero, Act.put, List.setIfInBounds_toArray, List.set_cons_zero, List.set_cons_succ])
            (refine wpAnyH_take (i := 1) (v := ?_) rfl (by kernel_rfl) (by kernel_rfl) (by kernel_rfl) (fun _ _ _ h => h) (Or.inl ⟨by kernel_rfl, ?_⟩) (by assumption) ?_; rotate_left; focus (intro wq hSw; (try dsimp only at hSw); go_simp; try with_reducible rfl); try simp only [List.getElem_toArray, List.getElem_cons_succ, List.getElem_cons_zero, Act.put, List.setIfInBounds_toArray, List.set_cons_zero, List.set_cons_succ])
            (refine wpAnyH_take (i := 2) (v := ?_) rfl (by kernel_rfl) (by kernel_rfl) (by kernel_rfl) (fun _ _ _ h => h) (Or.inl ⟨by kernel_rfl, ?_⟩) (by assumption) ?_; rotate_left; focus (intro wq hSw; (try dsimp only at hSw); go_simp; try with_reducible rfl); try simp only [List.getElem_toArray, List.getElem_cons_succ, List.getElem_cons_zero, Act.put, List.setIfInBounds_toArray, List.set_cons_zero, List.set_cons_succ])
            (refine wpAnyH_take (i := 3) (v := ?_) rfl (by kernel_rfl) (by kernel_rfl) (by kernel_rfl) (fun _ _ _ h => h) (Or.inl ⟨by kernel_rfl, ?_⟩) (by assumption) ?_; rotate_left; focus (intro wq hSw; (try dsimp only at hSw); go_simp; try with_reducible rfl); try simp only [List.getElem_toArray, List.getElem_cons_succ, List.getElem_cons_zero, Act.put, List.setIfInBounds_toArray, List.set_cons_zero, List.set_cons_succ])
            (refine wpAnyH_take (i := 4) (v := ?_) rfl (by kernel_rfl) (by kernel_rfl) (by kernel_rfl) (fun _ _ _ h => h) (Or.inl ⟨by kernel_rfl, ?_⟩) (by assumption) ?_; rotate_left; focus (intro wq hSw; (try dsimp only at hSw); go_simp; try with_reducible rfl); try simp only [List.getElem_toArray, List.getElem_cons_succ, List.getElem_cons_zero, Act.put, List.setIfInBounds_toArray, List.set_cons_zero, List.set_cons_succ])
            (refine wpAnyH_take (i := 5) (v := ?_) rfl (by kernel_rfl) (by kernel_rfl) (by kernel_rfl) (fun _ _ _ h => h) (Or.inl ⟨by kernel_rfl, ?_⟩) (by assumption) ?_; rotate_left; focus (intro wq hSw; (try dsimp only at hSw); go_simp; try with_reducible rfl); try simp only [List.getElem_toArray, List.getElem_cons_succ, List.getElem_cons_zero, Act.put, List.setIfInBounds_toArray, List.set_cons_zero, List.set_cons_succ])
            (refine wpAnyH_take (i := 6) (v := ?_) rfl (by kernel_rfl) (by kernel_rfl) (by kernel_rfl) (fun _ _ _ h => h) (Or.inl ⟨by kernel_rfl, ?_⟩) (by assumption) ?_; rotate_left; focus (intro wq hSw; (try dsimp only at hSw); go_simp; try with_reducible rfl); try simp only [List.getElem_toArray, List.getElem_cons_succ, List.getElem_cons_zero, Act.put, List.setIfInBounds_toArray, List.set_cons_zero, List.set_cons_succ])
            refine wpAnyH_ready (rs := [7]) (by kernel_rfl) (by simp) ?_
            refine AllReadyH.cons rfl (fun K hK => ?_) AllReadyH.nil
            go_simp
            refine hK.out _ _ ⟨q3, q4⟩ (fun hHeld => ?_)
            clear hK K
            try simp only [List.getElem_toArray, List.getElem_cons_succ, List.getElem_cons_zero, Act.put, List.setIfInBounds_toArray, List.set_cons_zero, List.set_cons_succ]
            refine wpAnyH_ready (rs := [8]) (by kernel_rfl) (by simp) ?_
            refine AllReadyH.cons rfl (fun K hK => ?_) AllReadyH.nil
            go_simp
            go_at_call 43
            refine HPk.out.mono ?_
            rintro e w4 ⟨rfl, hS4, hO4, hrow4⟩
            have t3 : w4.cell? ⟨q, 3, none⟩ = some (.int .i64 op.tick) := hrow4.cell (i := 3) (by omega)
            have t4 : w4.cell? ⟨q, 4, none⟩ = some (.int .i64 op.victim) := hrow4.cell (i := 4) (by omega)
            go_wp2_with fail
            refine hK.out _ _ ⟨t3, t4⟩ (fun hHeld => ?_)
            clear hK K
            try simp only [List.getElem_toArray, List.getElem_cons_succ, List.getElem_cons_zero, Act.put, List.setIfInBounds_toArray, List.set_cons_zero, List.set_cons_succ]
            (refine wpAnyH_take (i := 9) (v := ?_) rfl (by kernel_rfl) (by kernel_rfl) (by kernel_rfl) (fun _ _ _ h => h) (Or.inl ⟨by kernel_rfl, ?_⟩) (by assumption) ?_; rotate_left; focus (intro wq hSw; (try dsimp only at hSw); go_simp; try with_reducible rfl); try simp only [List.getElem_toArray, List.getElem_cons_succ, List.getElem_cons_zero, Act.put, List.setIfInBounds_toArray, List.set_cons_zero, List.set_cons_succ])
            (refine wpAnyH_take (i := 10) (v := ?_) rfl (by kernel_rfl) (by kernel_rfl) (by kernel_rfl) (fun _ _ _ h => h) (Or.inl ⟨by kernel_rfl, ?_⟩) (by assumption) ?_; rotate_left; focus (intro wq hSw; (try dsimp only at hSw); go_simp; try with_reducible rfl); try simp only [List.getElem_toArray, List.getElem_cons_succ, List.getElem_cons_zero, Act.put, List.setIfInBounds_toArray, List.set_cons_zero, List.set_cons_succ])
            (refine wpAnyH_take (i := 11) (v := ?_) rfl (by kernel_rfl) (by kernel_rfl) (by kernel_rfl) (fun _ _ _ h => h) (Or.inl ⟨by kernel_rfl, ?_⟩) (by assumption) ?_; rotate_left; focus (intro wq hSw; (try dsimp only at hSw); go_simp; try with_reducible rfl); try simp only [List.getElem_toArray, List.getElem_cons_succ, List.getElem_cons_zero, Act.put, List.setIfInBounds_toArray, List.set_cons_zero, List.set_cons_succ])
            (refine wpAnyH_take (i := 12) (v := ?_) rfl (by kernel_rfl) (by kernel_rfl) (by kernel_rfl) (fun _ _ _ h => h) (Or.inl ⟨by kernel_rfl, ?_⟩) (by assumption) ?_; rotate_left; focus (intro wq hSw; (try dsimp only at hSw); go_simp; try with_reducible rfl); try simp only [List.getElem_toArray, List.getElem_cons_succ, List.getElem_cons_zero, Act.put, List.setIfInBounds_toArray, List.set_cons_zero, List.set_cons_succ])
            (refine wpAnyH_take (i := 13) (v := ?_) rfl (by kernel_rfl) (by kernel_rfl) (by kernel_rfl) (fun _ _ _ h => h) (Or.inl ⟨by kernel_rfl, ?_⟩) (by assumption) ?_; rotate_left; focus (intro wq hSw; (try dsimp only at hSw); go_simp; try with_reducible rfl); try simp only [List.getElem_toArray, List.getElem_cons_succ, List.getElem_cons_zero, Act.put, List.setIfInBounds_toArray, List.set_cons_zero, List.set_cons_succ])
            refine wpAnyH_done (by kernel_rfl) ?_ _
            refine NoPanic.normal ?_
            · clear t3 t4 q3 q4 hrow4 hS3 hO3 hrow3 hv hwv
              cases ok with
              | true =>
                have hy := pick_yes R2 Q2 p j hj op.tick v (by rw [HPM.out])
                have hi2 := HI2.out.pick hj op.tick v (by rw [HPM.out])
                rw [HPM.out] at hy hi2
                obtain ⟨jj, ejj, hjj, hsj, hI5⟩ := hi2
                have ejj' : g = (jj : Int) := ejj
                subst ejj'
                have hT5 : tot R' Q' p + 1 = T + 1 := by rw [← HT2.out]; exact hy.2
                have hI5' : Inv R' Q' p (i + 1) (upd seen jj true) := hI5
                have HI5 := Lib.hid hI5'
                have e5 : ((T : Int) + 1 - 1) = ((tot R' Q' p : Nat) : Int) := by omega
                have HT5 := Lib.hid hT5
                have E5 := Lib.hid e5
                clear hy hI5 hI5' hT5 e5 ejj
                go_wp2_with fail
                refine (take_ok _ kb snb sn k jj seen hO4 (by omega) (by omega) hsj).mono ?_
                rintro e w5 ⟨rfl, hO5, m5⟩
                have hS5 := hS4.own m5 (fun i hi => .inl (.inr (.inr hi)))
                clear hS4 hO4 m5
                go_wp2_with fail
                go_meet
                case rel => exact ⟨R', Q', _, by rw [← E5.out]; go_num, hS5, hO5, HI5.out, by have := HT5.out; omega⟩
              | false =>
                have hn := pick_no R2 Q2 p j op.tick v (by rw [HPM.out])
                rw [HPM.out] at hn
                obtain ⟨hn1, _, _, _⟩ := hn
                injection hn1 with _ hn2
                injection hn2 with hn2 hn3
                subst hn2; subst hn3
                go_wp2_with fail
                go_meet
                case rel => exact ⟨R', Q', seen, by rw [HT2.out]; go_num, hS4, hO4, HI2.out, by have := HT2.out; omega⟩
          · have hb2 : (bits BinOp.and IntKind.i64 op.kind 3 == 3) = false := by simpa using hb
            clear hb q0
            go_wp2_with fail
            go_meet
            case rel => exact ⟨R2, Q2, seen, by rw [HT2.out]; go_num, hS3, hO3, HI2.out, by have := HT2.out; omega⟩
        case rest =>
          clear hS3 hO3 hrow3 q0
          obtain ⟨R3, Q3, seen3, rfl, hS3, hO3, hI3, hT3⟩ := hcut
          have hq3 : Q3.length ≤ 800000 := by unfold tot at hT3; omega
          have hln := SB.ask hS3 (fun o hs => slen hs hq3)
          rw [HP.out] at hln
          have hln' : Calls Try.prog 44 #[.pointer (some ⟨a.s, 0, none⟩)] wc fun e w' => e = .returned (.int .i64 ((tot R3 Q3 p : Nat) : Int)) ∧ SB w a w' R3 Q3 (OwnB kb snb sn) ∧ Mod (fun _ => False) wc w' := hln
          have HLn := Lib.hid hln'
          have HI3 := Lib.hid hI3
          clear hln hln' hI3
          go_wp2_with fail
          refine HLn.out.mono ?_
          rintro e w6 ⟨rfl, hS6, m6⟩
          have hO6 := hO3.keep0 m6
          have hz : (((tot R3 Q3 p : Nat) : Int) != ((tot R3 Q3 p : Nat) : Int)) = false := by simp
          clear hS3 hO3 m6
          go_wp2_with fail
          go_roundw
          case rel => exact ⟨i + 1, R3, Q3, seen3, by omega, by go_num, rfl, hS6, hO6, HI3.out, hT3⟩
          case measure => simp [intOf]; omega
    · have hik2 : i = k := by omega
      have d1 : decide ((i : Int) < (k : Int)) = false := decide_eq_false (by omega)
      have d2 : decide (i < k) = false := decide_eq_false hik
      have HIK := Lib.hid hik2
      clear hik2
      obtain ⟨wa, rfl⟩ : ∃ wa : World, wa = wr := ⟨_, rfl⟩
      go_wp2_with fail
      have hI0 : Inv R Q p k seen := by rw [← HIK.out]; exact HI.out
      have hT0 : tot R Q p ≤ k := by rw [← HT.out]; omega
      go_loopw [13, 21] (fun vl vi wr => ∃ (t f : Nat) (R : Nat → RM) (Q : List Int) (seen : Nat → Bool), vi = .int .i64 t ∧ vl = .int .i64 (tot R Q p) ∧ SB w a wr R Q (OwnB kb snb sn) ∧ Own wr kb snb sn k seen ∧ Inv R Q p k seen ∧ Fails R Q p t f ∧ t + 8 * tot R Q p ≤ 8 * k + f ∧ tot R Q p ≤ k)
        (fun _ vi _ => 20 * k + 200 - (intOf vi).toNat)
      case atStart => exact ⟨0, 0, R, Q, seen, rfl, by rw [HT.out], hS, hO, hI0, Fails.zero _ _ _ _, by omega, hT0⟩
      case round =>
        clear hS hO hI0 hT0 HI HT HIK hT hi hik d1 d2 ck
        obtain ⟨t, f, R, Q, seen, rfl, rfl, hS, hO, hI, hF, hB, hTk⟩ := hrel
        have ck : wr.cell? ⟨kb, 0, none⟩ = some (.int .i64 k) := hO.ck.cell (i := 0) (by omega)
        have hq : Q.length ≤ 700000 := by unfold tot at hTk; omega
        by_cases hT0 : 0 < tot R Q p
        · have hfew := hF.few hp1 hT0
          have hmx : max (p - 1) 1 ≤ 7 := by omega
          obtain ⟨q, hqe⟩ : ∃ q, q = max (p - 1) 1 := ⟨_, rfl⟩
          rw [← hqe] at hfew hmx
          have hq1 : 1 ≤ q := by omega
          have hq0 : ¬ q = 0 := by omega
          have hmax : max ((p : Int) - 1) 1 = (q : Int) := by omega
          obtain ⟨r, hr⟩ : ∃ r, r = t % q := ⟨_, rfl⟩
          have hrq : r < q := by rw [hr]; exact Nat.mod_lt _ (by omega)
          have hri : (t : Int) % (q : Int) = (r : Int) := by rw [hr]; simp
          obtain ⟨T, hTe⟩ : ∃ T, T = tot R Q p := ⟨_, rfl⟩
          rw [← hTe] at hB hT0 hTk ⊢
          have d1 : decide ((0 : Int) < (T : Int)) = true := decide_eq_true (by omega)
          have d2 : decide (0 < T) = true := decide_eq_true hT0
          have hpk := SB.call2 hS hO (fun o hs => pick_any hs 0 (by have := HP.out; omega) t (1 + (r : Int)) hq)
          rw [HP.out] at hpk
          rcases hP : pickM R Q p 0 t (1 + (r : Int)) with ⟨⟨g, ok⟩, R', Q'⟩
          rw [hP] at hpk
          have HPk := Lib.hid hpk
          have HPM := Lib.hid hP
          have HQ := Lib.hid hqe
          have HR := Lib.hid hr
          have HTe := Lib.hid hTe
          have HI := Lib.hid hI
          have HF := Lib.hid hF
          clear hpk hP hqe hr hTe hI hF
          go_wp2_with fail
          refine HPk.out.mono ?_
          rintro e w4 ⟨rfl, hS4, hO4⟩
          clear hS hO ck hmax hri
          cases ok with
          | true =>
            have hy := pick_yes R Q p 0 hp1 t (1 + (r : Int)) (by rw [HPM.out])
            have hi2 := HI.out.pick hp1 t (1 + (r : Int)) (by rw [HPM.out])
            rw [HPM.out] at hy hi2
            obtain ⟨jj, ejj, hjj, hsj, hI5⟩ := hi2
            have ejj' : g = (jj : Int) := ejj
            subst ejj'
            have hT5 : tot R' Q' p + 1 = T := by rw [HTe.out]; exact hy.2
            have hI5' : Inv R' Q' p k (upd seen jj true) := hI5
            have HI5 := Lib.hid hI5'
            have e5 : ((T : Int) - 1) = ((tot R' Q' p : Nat) : Int) := by omega
            have HT5 := Lib.hid hT5
            have E5 := Lib.hid e5
            clear hy hI5 hI5' hT5 e5 ejj
            go_wp2_with fail
            refine (take_ok _ kb snb sn k jj seen hO4 (by omega) hjj hsj).mono ?_
            rintro e w5 ⟨rfl, hO5, m5⟩
            have hS5 := hS4.own m5 (fun i hi => .inl (.inr (.inr hi)))
            clear hS4 hO4 m5
            go_wp2_with fail
            go_roundw
            case rel => exact ⟨t + 1, 0, R', Q', _, by go_num, by rw [← E5.out], hS5, hO5, HI5.out, Fails.zero _ _ _ _, by have := HT5.out; omega, by have := HT5.out; omega⟩
            case measure => simp [intOf]; omega
          | false =>
            have hn := pick_no R Q p 0 t (1 + (r : Int)) (by rw [HPM.out])
            rw [HPM.out] at hn
            obtain ⟨hn1, hnQ, hn0, hnv⟩ := hn
            injection hn1 with _ hn2
            injection hn2 with hn2 hn3
            subst hn2; subst hn3
            have hF2 : Fails R' Q' p (t + 1) (f + 1) := HF.out.more hnQ hn0 (fun hlt => by
              rw [← HQ.out, ← HR.out] at hlt ⊢
              exact hnv (1 + r) (by omega) hlt (by omega))
            have HF2 := Lib.hid hF2
            clear hnQ hn0 hnv hF2
            go_wp2_with fail
            go_roundw
            case rel => exact ⟨t + 1, f + 1, R', Q', seen, by go_num, by rw [HTe.out], hS4, hO4, HI.out, HF2.out, by rw [← HTe.out]; omega, by rw [← HTe.out]; omega⟩
            case measure => simp [intOf]; omega
        · have hT1 : tot R Q p = 0 := by omega
          have hln : ∀ W, SB w a W R Q (OwnB kb snb sn) → Calls Try.prog 44 #[.pointer (some ⟨a.s, 0, none⟩)] W fun e w' => e = .returned (.int .i64 0) ∧ SB w a w' R Q (OwnB kb snb sn) ∧ Mod (fun _ => False) W w' := fun W hW => by
            have h9 := SB.ask hW (fun o hs => slen hs (by omega))
            rw [HP.out] at h9
            have e9 : Q.length + sumR R p = 0 := hT1
            rw [e9] at h9
            exact h9
          have HLn := Lib.hid hln
          rw [hT1]
          have hz0 : ((0 : Nat) : Int) = 0 := rfl
          rw [hz0]
          clear hln hT1 hT0 hz0 hB hTk hF hI hO
          go_wp2_with fail
          refine (told27 _).mono ?_
          rintro e w4 ⟨rfl, m4⟩
          have hS4 := hS.keep0 m4
          clear hS m4
          go_wp2_with fail
          refine (HLn.out _ hS4).mono ?_
          rintro e w5 ⟨rfl, hS5, _⟩
          have hmd := hS5.mod
          clear hS4 hS5
          go_wp2_with fail
          go_ret
          exact ⟨rfl, hmd⟩

end Go.Proofs.Ytgojfccaohngaaa
