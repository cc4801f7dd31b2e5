/-
  treadmilllaw27.SchedPlays: the walk.
-/
import Derived.Test.YtgojfccaohngaaaBoth
import Derived.Deep.RegionHeld3
import Derived.Deep.DeepCutAuto
import Derived.Deep.CutBlock
import Derived.Deep.LoopGhost
import Derived.IntWalk
set_option linter.unusedSimpArgs false
namespace Go.Proofs.Ytgojfccaohngaaa
open Go.RowKit

theorem mod_caseS (x : Int) (n : Nat) (hn : 0 < n) : ∃ (a : Int) (k : Nat), x.tmod (n : Int) = a ∧ -(n : Int) < a ∧ a < (n : Int) ∧ k < n ∧ (a + (n : Int)).tmod (n : Int) = (k : Int) ∧ (a + (n : Int)) % (n : Int) = (k : Int) := by
  have h1 := Int.tmod_lt_of_pos x (b := (n : Int)) (by omega)
  have h2 : -(n : Int) < x.tmod (n : Int) := by
    have h3 := Int.tmod_lt_of_pos (-x) (b := (n : Int)) (by omega)
    rw [Int.neg_tmod] at h3
    omega
  obtain ⟨a, ha⟩ : ∃ a, a = x.tmod (n : Int) := ⟨_, rfl⟩
  rw [← ha] at h1 h2
  have h4 := Int.emod_nonneg (a + (n : Int)) (b := (n : Int)) (by omega)
  have h5 := Int.emod_lt_of_pos (a + (n : Int)) (b := (n : Int)) (by omega)
  refine ⟨a, ((a + (n : Int)) % (n : Int)).toNat, ha.symm, h2, h1, by omega, ?_, by omega⟩
  rw [Int.tmod_eq_emod_of_nonneg (by omega)]
  omega
theorem ints_sameB (A A' : Option Addr) (n n' c c' : Nat) (l : List Int) (w : World) (h : IsL w A n c l) (h' : IsL w A' n' c' l) (hn : n ≤ 900000) :
    Calls Try.prog 27 #[.slice A n c, .slice A' n' c'] w fun e w' => e = .returned (.bool true) ∧ Mod (fun _ => False) w w' := by
  have hnn : n' = n := by rw [← h.len, ← h'.len]
  refine (ints_any A A' n n' c c' l l w h h' hn (by omega)).mono ?_
  rintro e w' ⟨rfl, k, rfl⟩
  exact ⟨by simp, (Mod.refl _ w).drewN k⟩
theorem RSch.lower {x : RA} {lo lo' : Nat} {D : Nat → Prop} {w : World} {R : Nat → RM} {Q : List Int} (h : RSch x lo D w R Q) (hl : lo' ≤ lo) : RSch x lo' D w R Q := by
  obtain ⟨bs, f, A, n, c, h⟩ := h
  exact ⟨bs, f, A, n, c, { h with ls := Nat.le_trans hl h.ls, lg := Nat.le_trans hl h.lg, lb := fun i hi => Nat.le_trans hl (h.lb i hi) }⟩
theorem opS_row (w : World) (op : OpS) : (w.alloc (.cells #[.int .i64 op.kind, .int .i64 op.p, .int .i64 op.g, .int .i64 op.tick, .int .i64 op.victim, .bool op.next] 66)).rowIs w.heap.size 66 6 (opS op) :=
  World.rowIs_alloc w _ 66 _ (fun j hj => by
    have h3 : j = 0 ∨ j = 1 ∨ j = 2 ∨ j = 3 ∨ j = 4 ∨ j = 5 := by simp at hj; omega
    rcases h3 with rfl | rfl | rfl | rfl | rfl | rfl <;> rfl)

section
variable {W w : World} {a : SA} {x : RA} {k : Nat} {R R' : Nat → RM} {Q Q' : List Int}
theorem bs_ready (hk : a.ps = k) (h : Both W a x w R Q R' Q') (p g : Int) (next : Bool) (hb : Q.length ≤ 700000) :
    Calls Try.prog 41 #[.pointer (some ⟨a.s, 0, none⟩), .int .i64 p, .int .i64 g, .bool next] w fun e w' => e = .returned (.int .i64 (codeI k p)) ∧ Both W a x w' (readyI R Q k p g next).1 (readyI R Q k p g next).2 R' Q' ∧ Kept66 w w' := by
  subst hk
  exact h.prog fun _ hs => sreadyI hs p g next hb
theorem br_ready (hk : x.ps = k) (h : Both W a x w R Q R' Q') (hlen : ∀ i, i < k → (R' i).1.length ≤ 256) (p g : Int) (next : Bool) (hb : Q'.length ≤ 700000) :
    Calls Try.prog 51 #[.pointer (some ⟨x.s, 0, none⟩), .int .i64 p, .int .i64 g, .bool next] w fun e w' => e = .returned (.int .i64 (codeI k p)) ∧ Both W a x w' R Q (readyI R' Q' k p g next).1 (readyI R' Q' k p g next).2 ∧ Kept66 w w' := by
  subst hk
  exact h.refer fun _ hD hr => rs_readyI hD hr hlen p g next hb
theorem bs_global (h : Both W a x w R Q R' Q') (g : Int) (hb : Q.length ≤ 700000) :
    Calls Try.prog 46 #[.pointer (some ⟨a.s, 0, none⟩), .int .i64 g] w fun e w' => e = .returned (.tuple #[]) ∧ Both W a x w' R (Q ++ [g]) R' Q' ∧ Kept66 w w' :=
  h.prog fun _ hs => sglobal hs g (by omega)
theorem br_global (h : Both W a x w R Q R' Q') (A : Option Addr) (g : Int) (hl : IsL w A 1 1 [g]) (hb : Q'.length ≤ 700000) :
    Calls Try.prog 52 #[.pointer (some ⟨x.s, 0, none⟩), .slice A 1 1] w fun e w' => e = .returned (.tuple #[]) ∧ Both W a x w' R Q R' (Q' ++ [g]) ∧ Kept66 w w' :=
  h.refer fun _ hD hr => rs_global hD hr A 1 1 [g] hl (by omega)
theorem bs_pick (hk : a.ps = k) (h : Both W a x w R Q R' Q') (p tick v : Int) (hb : Q.length ≤ 700000) :
    Calls Try.prog 43 #[.pointer (some ⟨a.s, 0, none⟩), .int .i64 p, .int .i64 tick, .int .i64 v] w fun e w' => e = .returned (.tuple #[.int .i64 (pickI R Q k p tick v).1.1, .bool (pickI R Q k p tick v).1.2]) ∧
      Both W a x w' (pickI R Q k p tick v).2.1 (pickI R Q k p tick v).2.2 R' Q' ∧ Kept66 w w' := by
  subst hk
  exact h.prog fun _ hs => spickI hs p tick v hb
theorem br_pick (hk : x.ps = k) (h : Both W a x w R Q R' Q') (hlen : ∀ i, i < k → (R' i).1.length ≤ 256) (p tick v : Int) (hb : Q'.length ≤ 700000) :
    Calls Try.prog 53 #[.pointer (some ⟨x.s, 0, none⟩), .int .i64 p, .int .i64 tick, .int .i64 v] w fun e w' => e = .returned (.tuple #[.int .i64 (pickI R' Q' k p tick v).1.1, .bool (pickI R' Q' k p tick v).1.2]) ∧
      Both W a x w' R Q (pickI R' Q' k p tick v).2.1 (pickI R' Q' k p tick v).2.2 ∧ Kept66 w w' := by
  subst hk
  exact h.refer fun _ hD hr => rs_pickI hD hr hlen p tick v hb
theorem bs_drop (hk : a.ps = k) (h : Both W a x w R Q R' Q') (p : Int) (hb : Q.length ≤ 700000) :
    Calls Try.prog 48 #[.pointer (some ⟨a.s, 0, none⟩), .int .i64 p] w fun e w' => e = .returned (.int .i64 (dropI R Q k p).1) ∧ Both W a x w' (dropI R Q k p).2.1 (dropI R Q k p).2.2 R' Q' ∧ Kept66 w w' := by
  subst hk
  exact h.prog fun _ hs => sdropI hs p hb
theorem br_drop (hk : x.ps = k) (h : Both W a x w R Q R' Q') (hlen : ∀ i, i < k → (R' i).1.length ≤ 256) (p : Int) (hb : Q'.length ≤ 700000) :
    Calls Try.prog 54 #[.pointer (some ⟨x.s, 0, none⟩), .int .i64 p] w fun e w' => e = .returned (.int .i64 (dropI R' Q' k p).1) ∧ Both W a x w' R Q (dropI R' Q' k p).2.1 (dropI R' Q' k p).2.2 ∧ Kept66 w w' := by
  subst hk
  exact h.refer fun _ hD hr => rs_dropI hD hr hlen p hb
theorem bs_where (hk : a.ps = k) (h : Both W a x w R Q R' Q') (g : Int) (hb : Q.length ≤ 700000) :
    Calls Try.prog 42 #[.pointer (some ⟨a.s, 0, none⟩), .int .i64 g] w fun e w' => e = .returned (.tuple #[.int .i64 (swhere R Q k g).1, .bool (swhere R Q k g).2]) ∧ Both W a x w' R Q R' Q' ∧ Kept66 w w' := by
  subst hk
  exact h.ask fun _ hs => swhere_any hs g (by omega)
theorem br_where (hk : x.ps = k) (h : Both W a x w R Q R' Q') (hlen : ∀ i, i < k → (R' i).1.length ≤ 256) (g : Int) (hb : Q'.length ≤ 700000) :
    Calls Try.prog 55 #[.pointer (some ⟨x.s, 0, none⟩), .int .i64 g] w fun e w' => e = .returned (.tuple #[.int .i64 (swhere R' Q' k g).1, .bool (swhere R' Q' k g).2]) ∧ Both W a x w' R Q R' Q' ∧ Kept66 w w' := by
  subst hk
  exact h.askR fun _ hr => rs_where hr g hlen (by omega)
theorem bs_len (hk : a.ps = k) (h : Both W a x w R Q R' Q') (hb : Q.length ≤ 700000) :
    Calls Try.prog 44 #[.pointer (some ⟨a.s, 0, none⟩)] w fun e w' => e = .returned (.int .i64 ((tot R Q k : Nat) : Int)) ∧ Both W a x w' R Q R' Q' ∧ Kept66 w w' := by
  subst hk
  exact h.ask fun _ hs => slen hs (by omega)
theorem br_len (hk : x.ps = k) (h : Both W a x w R Q R' Q') (hlen : ∀ i, i < k → (R' i).1.length ≤ 256) (hb : Q'.length ≤ 700000) :
    Calls Try.prog 56 #[.pointer (some ⟨x.s, 0, none⟩)] w fun e w' => e = .returned (.int .i64 ((tot R' Q' k : Nat) : Int)) ∧ Both W a x w' R Q R' Q' ∧ Kept66 w w' := by
  subst hk
  exact h.askR fun _ hr => rs_len hr hlen (by omega)
theorem Both.rowsK (hk : a.ps = k) (h : Both W a x w R Q R' Q') : ∀ i, i < k → (R i).1.length ≤ 256 := by
  subst hk
  exact h.rows
end

set_option maxHeartbeats 1000000 in
set_option maxRecDepth 100000 in
theorem splays_bad (ps : Int) (P : Option Addr) (nP cP : Nat) (w : World) (hps : ps < 1 ∨ 64 < ps) :
    Calls Try.prog 15 #[.int .i64 ps, .slice P nP cP] w fun e w' => e = .returned (.bool true) ∧ Mod (fun _ => False) w w' := by
  have HN := Lib.hid (snew_no ps w hps)
  by_cases h1 : ps < 1
  · have d1 : decide (ps < 1) = true := decide_eq_true h1
    clear hps
    go_enter Try.func15, Try.ntmps15
    go_wp2_with fail
    refine HN.out.mono ?_
    rintro e w1 ⟨rfl, hw⟩
    obtain rfl := hw.symm
    clear hw
    go_wp2_with fail
    refine (told27 _).mono ?_
    rintro e w2 ⟨rfl, m2⟩
    go_wp2_with fail
    go_ret
    exact ⟨rfl, m2⟩
  · have d1 : decide (ps < 1) = false := decide_eq_false h1
    have d2 : decide (64 < ps) = true := decide_eq_true (by omega)
    clear hps
    go_enter Try.func15, Try.ntmps15
    go_wp2_with fail
    refine HN.out.mono ?_
    rintro e w1 ⟨rfl, hw⟩
    obtain rfl := hw.symm
    clear hw
    go_wp2_with fail
    refine (told27 _).mono ?_
    rintro e w2 ⟨rfl, m2⟩
    go_wp2_with fail
    go_ret
    exact ⟨rfl, m2⟩

set_option maxHeartbeats 40000000 in
set_option maxRecDepth 100000 in
theorem splays_good (k : Nat) (hk1 : 1 ≤ k) (hk64 : k ≤ 64) (P : Option Addr) (nP cP : Nat) (l : List OpS) (w : World) (hnP : nP ≤ maxLen) (hl : IsO27 w P nP l) :
    Calls Try.prog 15 #[.int .i64 k, .slice P nP cP] w fun e w' => e = .returned (.bool true) ∧ Mod (fun _ => False) w w' := by
  unfold maxLen at hnP
  have d1 : decide ((k : Int) < 1) = false := decide_eq_false (by omega)
  have d2 : decide ((64 : Int) < (k : Int)) = false := decide_eq_false (by omega)
  have d3 : decide (64 < k) = false := decide_eq_false (by omega)
  go_enter Try.func15, Try.ntmps15
  go_wp2_with fail
  refine (snew_yes k w hk1 hk64).mono ?_
  rintro e w1 ⟨a, rfl, hps, h1⟩
  have HA := Lib.hid hps
  clear hps
  go_wp2_with fail
  refine (rs_new k w1 hk1 hk64).mono ?_
  rintro e w2 ⟨x, rfl, hxs, hx, m2⟩
  have HX := Lib.hid hxs
  have h0 : Both w a x w2 E0 [] E0 [] := by
    obtain ⟨o, q1, q2, q3⟩ := h1
    exact ⟨o, q1.keep0 m2, q2, (hx _).lower q3.size, q3.trans m2⟩
  clear hxs hx h1 m2 d1 d2 d3
  go_wp2_with fail
  go_loopw [8] (fun i wr => ∃ (m : Nat) (R : Nat → RM) (Q : List Int), m ≤ nP ∧ m ≤ 80 ∧ i = .int .i64 m ∧ Both w a x wr R Q R Q ∧ tot R Q k ≤ 300 * m) (fun i _ => nP - (intOf i).toNat)
  case atStart => exact ⟨0, E0, [], by omega, by omega, rfl, h0, by
    have h9 : ∀ n, sumR E0 n = 0 := fun n => by
      induction n with
      | zero => rfl
      | succ n ih => simp only [sumR]; rw [ih]; rfl
    simp [tot, h9]⟩
  case round =>
    clear h0
    obtain ⟨m, R, Q, hm, hm8, rfl, h, hT⟩ := hrel
    have hq : Q.length ≤ 700000 := by unfold tot at hT; omega
    by_cases hmn : m < nP
    · by_cases hm80 : m < 80
      · obtain ⟨g, o, rfl, hg, hcw⟩ := hl.2 (by omega)
        obtain ⟨b0, b1, b2, b3, b4, b5⟩ := hcw m hmn
        generalize l.getD m OpS.zero = op at b0 b1 b2 b3 b4 b5
        have hc0 := (h.mod.cell (p := ⟨g, o + m * 6, none⟩) hg (fun h => h)).trans b0
        have hc1 := (h.mod.cell (p := ⟨g, o + m * 6 + 1, none⟩) hg (fun h => h)).trans b1
        have hc2 := (h.mod.cell (p := ⟨g, o + m * 6 + 2, none⟩) hg (fun h => h)).trans b2
        have hc3 := (h.mod.cell (p := ⟨g, o + m * 6 + 3, none⟩) hg (fun h => h)).trans b3
        have hc4 := (h.mod.cell (p := ⟨g, o + m * 6 + 4, none⟩) hg (fun h => h)).trans b4
        have hc5 := (h.mod.cell (p := ⟨g, o + m * 6 + 5, none⟩) hg (fun h => h)).trans b5
        clear b0 b1 b2 b3 b4 b5 hcw
        have hc0 : wr.cell? ⟨g, o + m * 6, none⟩ = some (.int .i64 op.kind) := hc0
        have hc1 : wr.cell? ⟨g, o + m * 6 + 1, none⟩ = some (.int .i64 op.p) := hc1
        have hc2 : wr.cell? ⟨g, o + m * 6 + 2, none⟩ = some (.int .i64 op.g) := hc2
        have hc3 : wr.cell? ⟨g, o + m * 6 + 3, none⟩ = some (.int .i64 op.tick) := hc3
        have hc4 : wr.cell? ⟨g, o + m * 6 + 4, none⟩ = some (.int .i64 op.victim) := hc4
        have hc5 : wr.cell? ⟨g, o + m * 6 + 5, none⟩ = some (.bool op.next) := hc5
        have hd1 : decide (m < nP) = true := decide_eq_true hmn
        have hd2 : decide ((m : Int) < 80) = true := decide_eq_true (by omega)
        have hd3 : decide (m < 80) = true := decide_eq_true hm80
        have hi0 : (0 : Int) ≤ (m : Int) := by omega
        have hi1 : (m : Int) < (nP : Int) := by omega
        have hrow := opS_row wr op
        have h := h.keep0 ((Mod.refl (fun _ => False) wr).alloc (.cells #[.int .i64 op.kind, .int .i64 op.p, .int .i64 op.g, .int .i64 op.tick, .int .i64 op.victim, .bool op.next] 66))
        obtain ⟨z, K, hx, hx1, hx2, hK, hx3, hx4⟩ := mod_caseS op.kind 8 (by omega)
        have hx' : op.kind.tmod 8 = z := hx
        have hx3' : (z + 8).tmod 8 = (K : Int) := hx3
        have hx4' : (z + 8) % 8 = (K : Int) := hx4
        have hx1' : -8 < z := hx1
        have hx2' : z < 8 := hx2
        clear hx hx3 hx4 hx1 hx2
        go_upto_block 2 with (fail)
        generalize hwq : wr.alloc (.cells #[.int .i64 op.kind, .int .i64 op.p, .int .i64 op.g, .int .i64 op.tick, .int .i64 op.victim, .bool op.next] 66) = wq at h hrow ⊢
        generalize hqq : wr.heap.size = q at hrow ⊢
        clear hwq hqq hc0 hc1 hc2 hc3 hc4 hc5 hx' hx3' hx4' hx1' hx2'
        have hrows := Both.rowsK HA.out h
        have HRows := Lib.hid hrows
        clear hrows
        go_cut [10] (fun vok wx => vok = .bool true ∧ ∃ (R : Nat → RM) (Q : List Int), Both w a x wx R Q R Q ∧ wx.rowIs q 66 6 (opS op) ∧ tot R Q k ≤ 300 * (m + 1))
        case first =>
          have q1 : wq.cell? ⟨q, 1, none⟩ = some (.int .i64 op.p) := hrow.cell (i := 1) (by omega)
          have q2 : wq.cell? ⟨q, 2, none⟩ = some (.int .i64 op.g) := hrow.cell (i := 2) (by omega)
          have q3 : wq.cell? ⟨q, 3, none⟩ = some (.int .i64 op.tick) := hrow.cell (i := 3) (by omega)
          have q4 : wq.cell? ⟨q, 4, none⟩ = some (.int .i64 op.victim) := hrow.cell (i := 4) (by omega)
          have q5 : wq.cell? ⟨q, 5, none⟩ = some (.bool op.next) := hrow.cell (i := 5) (by omega)
          have hd : Both w a x wq.drew R Q R Q := h.keep0 ((Mod.refl (fun _ => False) wq).drew)
          have hrd : wq.drew.rowIs q 66 6 (opS op) := hrow
          have hks : K = 0 ∨ K = 1 ∨ K = 2 ∨ K = 3 ∨ K = 4 ∨ K = 5 ∨ K = 6 ∨ K = 7 := by omega
          rcases hks with rfl | rfl | rfl | rfl | rfl | rfl | rfl | rfl
          · as_aux_lemma =>
              go_wp2_with fail
              go_region_held3 (fun W => W.cell? ⟨q, 1, none⟩ = some (.int .i64 op.p) ∧ W.cell? ⟨q, 2, none⟩ = some (.int .i64 op.g) ∧ W.cell? ⟨q, 5, none⟩ = some (.bool op.next)) (first | (with_reducible exact ⟨s1, s2, s5⟩) | (with_reducible exact ⟨t1, t2, t5⟩) | (with_reducible exact ⟨q1, q2, q5⟩) | go_keep)
                (first
                  | (go_at_call 51
                     have _t := t1
                     refine (br_ready HX.out h3 HRows.out op.p op.g op.next hq).mono ?_
                     rintro e w4 ⟨rfl, h4, k4⟩
                     have r4 := k4 q _ r3
                     have s1 : w4.cell? ⟨q, 1, none⟩ = some (.int .i64 op.p) := r4.cell (i := 1) (by omega)
                     have s2 : w4.cell? ⟨q, 2, none⟩ = some (.int .i64 op.g) := r4.cell (i := 2) (by omega)
                     have s5 : w4.cell? ⟨q, 5, none⟩ = some (.bool op.next) := r4.cell (i := 5) (by omega))
                  | (go_at_call 41
                     refine (bs_ready HA.out hd op.p op.g op.next hq).mono ?_
                     rintro e w3 ⟨rfl, h3, k3⟩
                     have r3 := k3 q _ hrd
                     have t1 : w3.cell? ⟨q, 1, none⟩ = some (.int .i64 op.p) := r3.cell (i := 1) (by omega)
                     have t2 : w3.cell? ⟨q, 2, none⟩ = some (.int .i64 op.g) := r3.cell (i := 2) (by omega)
                     have t5 : w3.cell? ⟨q, 5, none⟩ = some (.bool op.next) := r3.cell (i := 5) (by omega)))
              all_goals (
                have hT2 := readyI_tot R Q k op.p op.g op.next
                have hT3 : tot (readyI R Q k op.p op.g op.next).1 (readyI R Q k op.p op.g op.next).2 k ≤ 300 * (m + 1) := by omega
                generalize readyI R Q k op.p op.g op.next = RQ at h4 hT3
                obtain ⟨R2, Q2⟩ := RQ
                clear h3 hd hrd r3 t1 t2 t5 s1 s2 s5 q1 q2 q3 q4 q5 h hrow k3 k4 hT2 HRows
                go_wp2_with fail
                go_meet
                case rel => exact ⟨rfl, R2, Q2, h4, r4, hT3⟩)
          · as_aux_lemma =>
              go_wp2_with fail
              go_region_held3 (fun W => W.cell? ⟨q, 1, none⟩ = some (.int .i64 op.p) ∧ W.cell? ⟨q, 2, none⟩ = some (.int .i64 op.g) ∧ W.cell? ⟨q, 5, none⟩ = some (.bool op.next)) (first | (with_reducible exact ⟨s1, s2, s5⟩) | (with_reducible exact ⟨t1, t2, t5⟩) | (with_reducible exact ⟨q1, q2, q5⟩) | go_keep)
                (first
                  | (go_at_call 51
                     have _t := t1
                     refine (br_ready HX.out h3 HRows.out op.p op.g op.next hq).mono ?_
                     rintro e w4 ⟨rfl, h4, k4⟩
                     have r4 := k4 q _ r3
                     have s1 : w4.cell? ⟨q, 1, none⟩ = some (.int .i64 op.p) := r4.cell (i := 1) (by omega)
                     have s2 : w4.cell? ⟨q, 2, none⟩ = some (.int .i64 op.g) := r4.cell (i := 2) (by omega)
                     have s5 : w4.cell? ⟨q, 5, none⟩ = some (.bool op.next) := r4.cell (i := 5) (by omega))
                  | (go_at_call 41
                     refine (bs_ready HA.out hd op.p op.g op.next hq).mono ?_
                     rintro e w3 ⟨rfl, h3, k3⟩
                     have r3 := k3 q _ hrd
                     have t1 : w3.cell? ⟨q, 1, none⟩ = some (.int .i64 op.p) := r3.cell (i := 1) (by omega)
                     have t2 : w3.cell? ⟨q, 2, none⟩ = some (.int .i64 op.g) := r3.cell (i := 2) (by omega)
                     have t5 : w3.cell? ⟨q, 5, none⟩ = some (.bool op.next) := r3.cell (i := 5) (by omega)))
              all_goals (
                have hT2 := readyI_tot R Q k op.p op.g op.next
                have hT3 : tot (readyI R Q k op.p op.g op.next).1 (readyI R Q k op.p op.g op.next).2 k ≤ 300 * (m + 1) := by omega
                generalize readyI R Q k op.p op.g op.next = RQ at h4 hT3
                obtain ⟨R2, Q2⟩ := RQ
                clear h3 hd hrd r3 t1 t2 t5 s1 s2 s5 q1 q2 q3 q4 q5 h hrow k3 k4 hT2 HRows
                go_wp2_with fail
                go_meet
                case rel => exact ⟨rfl, R2, Q2, h4, r4, hT3⟩)
          · as_aux_lemma =>
              go_wp2_with fail
              refine (bs_global h op.g hq).mono ?_
              rintro e w3 ⟨rfl, h3, k3⟩
              have r3 := k3 q _ hrow
              have t2 : w3.cell? ⟨q, 2, none⟩ = some (.int .i64 op.g) := r3.cell (i := 2) (by omega)
              have ma : Mod (fun _ => False) w3 (w3.alloc (.cells #[.int .i64 op.g] 3)) := (Mod.refl _ w3).alloc _
              go_wp2_with fail
              refine (br_global (h3.keep0 ma) _ op.g (IsL.one w3 op.g) hq).mono ?_
              rintro e w4 ⟨rfl, h4, k4⟩
              have r4 := k4 q _ (Kept66.of0 ma q _ r3)
              have hT3 : tot R (Q ++ [op.g]) k ≤ 300 * (m + 1) := by unfold tot at hT ⊢; rw [List.length_append]; simp only [List.length_cons, List.length_nil]; omega
              generalize Q ++ [op.g] = Q2 at h4 hT3
              clear h3 hd hrd r3 t2 q1 q2 q3 q4 q5 h hrow k3 k4 HRows ma
              go_wp2_with fail
              go_meet
              case rel => exact ⟨rfl, R, Q2, h4, r4, hT3⟩
          · as_aux_lemma =>
              have hb1 := fun (W : World) (h : Both w a x W R Q R Q) => bs_pick HA.out h op.p op.tick op.victim hq
              have hb2 := fun (W : World) (R1 : Nat → RM) (Q1 : List Int) (h : Both w a x W R1 Q1 R Q) => br_pick HX.out h HRows.out op.p op.tick op.victim hq
              have hT2 := pickI_tot R Q k op.p op.tick op.victim
              generalize pickI R Q k op.p op.tick op.victim = RQ at hb1 hb2 hT2
              obtain ⟨⟨g1, g2⟩, R2, Q2⟩ := RQ
              have hT3 : tot R2 Q2 k ≤ 300 * (m + 1) := by have h9 : tot R2 Q2 k ≤ tot R Q k := hT2; omega
              have HB1 := Lib.hid hb1
              have HB2 := Lib.hid hb2
              clear hb1 hb2 hT2
              go_wp2_with fail
              refine (HB1.out _ h).mono ?_
              rintro e w3 ⟨rfl, h3, k3⟩
              have r3 := k3 q _ hrow
              have t1 : w3.cell? ⟨q, 1, none⟩ = some (.int .i64 op.p) := r3.cell (i := 1) (by omega)
              have t3 : w3.cell? ⟨q, 3, none⟩ = some (.int .i64 op.tick) := r3.cell (i := 3) (by omega)
              have t4 : w3.cell? ⟨q, 4, none⟩ = some (.int .i64 op.victim) := r3.cell (i := 4) (by omega)
              go_wp2_with fail
              refine (HB2.out _ _ _ h3).mono ?_
              rintro e w4 ⟨rfl, h4, k4⟩
              have r4 := k4 q _ r3
              clear h3 hd hrd r3 t1 t3 t4 q1 q2 q3 q4 q5 h hrow k3 k4 HRows HB1 HB2
              cases g2 <;> (
                go_wp2_with fail
                go_meet
                case rel => exact ⟨rfl, R2, Q2, h4, r4, hT3⟩)
          · as_aux_lemma =>
              have hb1 := fun (W : World) (h : Both w a x W R Q R Q) => bs_pick HA.out h op.p op.tick op.victim hq
              have hb2 := fun (W : World) (R1 : Nat → RM) (Q1 : List Int) (h : Both w a x W R1 Q1 R Q) => br_pick HX.out h HRows.out op.p op.tick op.victim hq
              have hT2 := pickI_tot R Q k op.p op.tick op.victim
              generalize pickI R Q k op.p op.tick op.victim = RQ at hb1 hb2 hT2
              obtain ⟨⟨g1, g2⟩, R2, Q2⟩ := RQ
              have hT3 : tot R2 Q2 k ≤ 300 * (m + 1) := by have h9 : tot R2 Q2 k ≤ tot R Q k := hT2; omega
              have HB1 := Lib.hid hb1
              have HB2 := Lib.hid hb2
              clear hb1 hb2 hT2
              go_wp2_with fail
              refine (HB1.out _ h).mono ?_
              rintro e w3 ⟨rfl, h3, k3⟩
              have r3 := k3 q _ hrow
              have t1 : w3.cell? ⟨q, 1, none⟩ = some (.int .i64 op.p) := r3.cell (i := 1) (by omega)
              have t3 : w3.cell? ⟨q, 3, none⟩ = some (.int .i64 op.tick) := r3.cell (i := 3) (by omega)
              have t4 : w3.cell? ⟨q, 4, none⟩ = some (.int .i64 op.victim) := r3.cell (i := 4) (by omega)
              go_wp2_with fail
              refine (HB2.out _ _ _ h3).mono ?_
              rintro e w4 ⟨rfl, h4, k4⟩
              have r4 := k4 q _ r3
              clear h3 hd hrd r3 t1 t3 t4 q1 q2 q3 q4 q5 h hrow k3 k4 HRows HB1 HB2
              cases g2 <;> (
                go_wp2_with fail
                go_meet
                case rel => exact ⟨rfl, R2, Q2, h4, r4, hT3⟩)
          · as_aux_lemma =>
              have hb1 := fun (W : World) (h : Both w a x W R Q R Q) => bs_pick HA.out h op.p op.tick op.victim hq
              have hb2 := fun (W : World) (R1 : Nat → RM) (Q1 : List Int) (h : Both w a x W R1 Q1 R Q) => br_pick HX.out h HRows.out op.p op.tick op.victim hq
              have hT2 := pickI_tot R Q k op.p op.tick op.victim
              generalize pickI R Q k op.p op.tick op.victim = RQ at hb1 hb2 hT2
              obtain ⟨⟨g1, g2⟩, R2, Q2⟩ := RQ
              have hT3 : tot R2 Q2 k ≤ 300 * (m + 1) := by have h9 : tot R2 Q2 k ≤ tot R Q k := hT2; omega
              have HB1 := Lib.hid hb1
              have HB2 := Lib.hid hb2
              clear hb1 hb2 hT2
              go_wp2_with fail
              refine (HB1.out _ h).mono ?_
              rintro e w3 ⟨rfl, h3, k3⟩
              have r3 := k3 q _ hrow
              have t1 : w3.cell? ⟨q, 1, none⟩ = some (.int .i64 op.p) := r3.cell (i := 1) (by omega)
              have t3 : w3.cell? ⟨q, 3, none⟩ = some (.int .i64 op.tick) := r3.cell (i := 3) (by omega)
              have t4 : w3.cell? ⟨q, 4, none⟩ = some (.int .i64 op.victim) := r3.cell (i := 4) (by omega)
              go_wp2_with fail
              refine (HB2.out _ _ _ h3).mono ?_
              rintro e w4 ⟨rfl, h4, k4⟩
              have r4 := k4 q _ r3
              clear h3 hd hrd r3 t1 t3 t4 q1 q2 q3 q4 q5 h hrow k3 k4 HRows HB1 HB2
              cases g2 <;> (
                go_wp2_with fail
                go_meet
                case rel => exact ⟨rfl, R2, Q2, h4, r4, hT3⟩)
          · as_aux_lemma =>
              go_wp2_with fail
              go_region_held3 (fun W => W.cell? ⟨q, 1, none⟩ = some (.int .i64 op.p)) (first | (with_reducible exact s1) | (with_reducible exact t1) | (with_reducible exact q1) | go_keep)
                (first
                  | (go_at_call 54
                     have _t := t1
                     refine (br_drop HX.out h3 HRows.out op.p hq).mono ?_
                     rintro e w4 ⟨rfl, h4, k4⟩
                     have r4 := k4 q _ r3
                     have s1 : w4.cell? ⟨q, 1, none⟩ = some (.int .i64 op.p) := r4.cell (i := 1) (by omega))
                  | (go_at_call 48
                     refine (bs_drop HA.out hd op.p hq).mono ?_
                     rintro e w3 ⟨rfl, h3, k3⟩
                     have r3 := k3 q _ hrd
                     have t1 : w3.cell? ⟨q, 1, none⟩ = some (.int .i64 op.p) := r3.cell (i := 1) (by omega)))
              all_goals (
                have hT2 := dropI_tot R Q k op.p
                have hT3 : tot (dropI R Q k op.p).2.1 (dropI R Q k op.p).2.2 k ≤ 300 * (m + 1) := by omega
                generalize dropI R Q k op.p = RQ at h4 hT3
                obtain ⟨n1, R2, Q2⟩ := RQ
                clear h3 hd hrd r3 t1 s1 q1 q2 q3 q4 q5 h hrow k3 k4 hT2 HRows
                go_wp2_with fail
                go_meet
                case rel => exact ⟨rfl, R2, Q2, h4, r4, hT3⟩)
          · as_aux_lemma =>
              obtain ⟨N, hN, heN⟩ := umod op.g 300 (by omega)
              have heN' : (IntKind.u64.wrap op.g).tmod 300 = (N : Int) := heN
              clear heN q3 q4 q5 q1
              go_wp2_with fail
              go_loopw [15, 10] (fun vk vok wi => ∃ (j : Nat) (R : Nat → RM) (Q : List Int), j ≤ N ∧ vk = .int .i64 j ∧ vok = .bool true ∧ Both w a x wi R Q R Q ∧ wi.rowIs q 66 6 (opS op) ∧ tot R Q k ≤ 300 * m + j) (fun vk _ _ => N - (intOf vk).toNat)
              case atStart => exact ⟨0, R, Q, by omega, rfl, rfl, h, hrow, by omega⟩
              case round =>
                clear h hd hrd hrow q2 HRows hq hT
                obtain ⟨j, R, Q, hj, rfl, rfl, h, hrow, hT⟩ := hrel
                have hq : Q.length ≤ 700000 := by unfold tot at hT; omega
                have q1 : wr.cell? ⟨q, 1, none⟩ = some (.int .i64 op.p) := hrow.cell (i := 1) (by omega)
                have q2 : wr.cell? ⟨q, 2, none⟩ = some (.int .i64 op.g) := hrow.cell (i := 2) (by omega)
                have HRows := Lib.hid (Both.rowsK HA.out h)
                have hd : Both w a x wr.drew R Q R Q := h.keep0 ((Mod.refl (fun _ => False) wr).drew)
                have hrd : wr.drew.rowIs q 66 6 (opS op) := hrow
                by_cases hjN : j < N
                · have hd1 : decide ((j : Int) < (N : Int)) = true := decide_eq_true (by omega)
                  go_wp2_with fail
                  go_region_held3 (fun W => W.cell? ⟨q, 1, none⟩ = some (.int .i64 op.p)) (first | (with_reducible exact s1) | (with_reducible exact t1) | (with_reducible exact q1) | go_keep)
                    (first
                      | (go_at_call 51
                         have _t := t1
                         refine (br_ready HX.out h3 HRows.out op.p j false hq).mono ?_
                         rintro e w4 ⟨rfl, h4, k4⟩
                         have r4 := k4 q _ r3
                         have s1 : w4.cell? ⟨q, 1, none⟩ = some (.int .i64 op.p) := r4.cell (i := 1) (by omega))
                      | (go_at_call 41
                         refine (bs_ready HA.out hd op.p j false hq).mono ?_
                         rintro e w3 ⟨rfl, h3, k3⟩
                         have r3 := k3 q _ hrd
                         have t1 : w3.cell? ⟨q, 1, none⟩ = some (.int .i64 op.p) := r3.cell (i := 1) (by omega)))
                  all_goals (
                    have hT2 := readyI_tot R Q k op.p j false
                    have hT3 : tot (readyI R Q k op.p j false).1 (readyI R Q k op.p j false).2 k ≤ 300 * m + (j + 1) := by omega
                    generalize readyI R Q k op.p j false = RQ at h4 hT3
                    obtain ⟨R2, Q2⟩ := RQ
                    clear h3 hd hrd r3 t1 s1 q1 q2 h hrow k3 k4 hT2 HRows
                    go_wp2_with fail
                    go_roundw
                    case rel => first | exact ⟨j + 1, by omega, by go_num, R2, Q2, h4, hT3⟩ | exact ⟨j + 1, R2, Q2, by omega, by go_num, rfl, h4, r4, hT3⟩
                    case measure => simp [intOf]; omega)
                · have hd1 : decide ((j : Int) < (N : Int)) = false := decide_eq_false (by omega)
                  go_wp2_with fail
                  go_meet
                  case rel => exact ⟨rfl, R, Q, h, hrow, by omega⟩
        case rest =>
          as_aux_lemma =>
            obtain ⟨rfl, R2, Q2, h2, hrow2, hT2⟩ := hcut
            clear h hrow HRows hT hq
            have hq2 : Q2.length ≤ 700000 := by unfold tot at hT2; omega
            have HRows := Lib.hid (Both.rowsK HA.out h2)
            have q2 : wc.cell? ⟨q, 2, none⟩ = some (.int .i64 op.g) := hrow2.cell (i := 2) (by omega)
            have hb1 := bs_where HA.out h2 op.g hq2
            have hb2 := fun (W : World) (h : Both w a x W R2 Q2 R2 Q2) => br_where HX.out h HRows.out op.g hq2
            have hb3 := fun (W : World) (h : Both w a x W R2 Q2 R2 Q2) => bs_len HA.out h hq2
            have hb4 := fun (W : World) (h : Both w a x W R2 Q2 R2 Q2) => br_len HX.out h HRows.out hq2
            generalize (swhere R2 Q2 k op.g).1 = pl at hb1 hb2
            generalize (swhere R2 Q2 k op.g).2 = is at hb1 hb2
            obtain ⟨T, hTe⟩ : ∃ T, T = tot R2 Q2 k := ⟨_, rfl⟩
            rw [← hTe] at hb3 hb4 hT2
            have HT := Lib.hid hTe
            have HB1 := Lib.hid hb1
            have HB2 := Lib.hid hb2
            have HB3 := Lib.hid hb3
            have HB4 := Lib.hid hb4
            clear hb1 hb2 hb3 hb4 hTe
            go_wp2_with fail
            refine HB1.out.mono ?_
            rintro e w3 ⟨rfl, h3, k3⟩
            have r3 := k3 q _ hrow2
            have t2 : w3.cell? ⟨q, 2, none⟩ = some (.int .i64 op.g) := r3.cell (i := 2) (by omega)
            clear h2 hrow2 q2 k3
            go_wp2_with fail
            refine (HB2.out _ h3).mono ?_
            rintro e w4 ⟨rfl, h4, _⟩
            clear h3 r3 t2
            cases is <;> (
              go_wp2_with fail
              refine (HB3.out _ h4).mono ?_
              rintro e w5 ⟨rfl, h5, _⟩
              clear h4
              go_wp2_with fail
              refine (HB4.out _ h5).mono ?_
              rintro e w6 ⟨rfl, h6, _⟩
              clear h5
              go_wp2
              go_roundw
              case rel => first | exact ⟨m + 1, R2, Q2, by omega, by omega, by go_num, h6, by rw [← HT.out]; omega⟩ | ((repeat apply Exists.intro); exact ⟨⟨m + 1, R2, Q2, by omega, by omega, by go_num, h6, by rw [← HT.out]; omega⟩, rfl⟩)
              case measure => simp [intOf]; omega)
      · obtain rfl : m = 80 := by omega
        have hd1 : decide (80 < nP) = true := decide_eq_true hmn
        rw [show ((80 : Nat) : Int) = 80 from rfl]
        as_aux_lemma =>
          clear hT
          obtain ⟨wa, rfl⟩ : ∃ wa : World, wa = wr := ⟨_, rfl⟩
          go_wp2_with fail
          go_loopw [20] (fun i wr => ∃ p : Nat, p ≤ k ∧ i = .int .i64 p ∧ Both w a x wr R Q R Q) (fun i _ => k - (intOf i).toNat)
          case atStart => exact ⟨0, by omega, rfl, h⟩
          case round =>
            clear h
            obtain ⟨p, hp, rfl, h⟩ := hrel
            by_cases hpk : p < k
            · obtain ⟨o, hs, hss, ⟨bs, f, A, n, c, hr⟩, _⟩ := id h
              have ea := HA.out
              have ex := HX.out
              have hpa : p < a.ps := by omega
              have hpx : p < x.ps := by omega
              have c0 := hr.c0
              have cp := hr.cp hpx
              have hcap := hr.cap
              have hlp := (hs.ring p hpa).len
              have hln := len2_le (R p) hlp
              have j0 : (0 : Int) ≤ (p : Int) := by omega
              have j1 : (p : Int) < (x.ps : Int) := by omega
              have j2 : decide ((p : Int) < (k : Int)) = true := decide_eq_true (by omega)
              have j3 : decide (p < k) = true := decide_eq_true hpk
              have hsd := hs.keep0 ((Mod.refl (fun _ => False) wr).drew)
              have hrd := hr.keep0 ((Mod.refl (fun _ => False) wr).drew)
              have HPA := Lib.hid hpa
              have HPX := Lib.hid hpx
              clear ea ex hpa hpx hs hr
              go_wp2_with fail
              go_region_held3 (fun W => W.cell? ⟨x.s, 0, none⟩ = some (.slice (some ⟨x.g, 0, none⟩) x.ps x.c) ∧ W.cell? ⟨x.g, p, none⟩ = some (.pointer (some ⟨bs p, 0, none⟩))) (first | (with_reducible exact ⟨v0, v1⟩) | (with_reducible exact ⟨u0, u1⟩) | (with_reducible exact ⟨t0, t1⟩) | (with_reducible exact ⟨c0, cp⟩) | go_keep)
                (first
                  | (go_at_call 27
                     have _t := hl4
                     refine (ints_sameB A3 A4 (len2 (R p)) n4 c3 c4 (all2 (R p)) _ (hl3.keep0 m4) hl4 (by omega)).mono ?_
                     rintro e w5 ⟨rfl, m5⟩
                     have v0 := (hr4.keep0 m5).c0
                     have v1 := (hr4.keep0 m5).cp HPX.out)
                  | (go_at_call 38
                     have _t := hl3
                     refine (rall_any (bs p) (R p).1 (R p).2 _ (hr3.ring p HPX.out).toR (by omega)).mono ?_
                     rintro e w4 ⟨A4, n4, c4, rfl, hl4, _, m4⟩
                     have hr4 := hr3.keep0 m4
                     have u0 := hr4.c0
                     have u1 := hr4.cp HPX.out)
                  | (go_at_call 47
                     refine (slocal_yes hsd p HPA.out).mono ?_
                     rintro e w3 ⟨A3, c3, rfl, hl3, m3⟩
                     have hr3 := hrd.keep0 m3
                     have t0 := hr3.c0
                     have t1 := hr3.cp HPX.out))
              all_goals (
                have h5 := h.keep0 (((((Mod.refl (fun _ => False) wr).drew).trans m3).trans m4).trans m5)
                clear hr3 hr4 hrd hsd t0 t1 u0 u1 v0 v1 hl3 hl4 m3 m4 m5 h c0 cp
                go_wp2_with fail
                go_roundw
                case rel => exact ⟨p + 1, by omega, by go_num, h5⟩
                case measure => simp [intOf]; omega)
            · have hpk2 : p = k := by omega
              have j2 : decide ((p : Int) < (k : Int)) = false := decide_eq_false (by omega)
              have j3 : decide (p < k) = false := decide_eq_false hpk
              obtain ⟨o, hs, hss, ⟨bs, f, A, n, c, hr⟩, hmm⟩ := id h
              have c1 := hr.c1
              have HPK := Lib.hid hpk2
              clear hpk2
              go_wp2_with fail
              have hq0 : Q.length ≤ 800000 := by omega
              have hnQ : Q.length = n := hr.q.len
              have no1 : (-1 : Int) < 0 ∨ (a.ps : Int) ≤ -1 := .inl (by omega)
              have no2 : (k : Int) < 0 ∨ (a.ps : Int) ≤ (k : Int) := .inr (by rw [HA.out]; omega)
              have NO1 := Lib.hid no1
              have NO2 := Lib.hid no2
              have HNQ := Lib.hid hnQ
              clear no1 no2 hnQ
              go_region_held3 (fun W => W.cell? ⟨x.s, 1, none⟩ = some (.slice A n c)) (first | (with_reducible exact v0) | (with_reducible exact u0) | (with_reducible exact t0) | (with_reducible exact c1) | go_keep)
                (first
                  | (go_at_call 47
                     have _t := tok9
                     (with_reducible refine (slocal_no hs5 (k : Int) NO2.out).mono ?_)
                     rintro e w7 ⟨rfl, hw⟩
                     obtain rfl := hw.symm)
                  | (go_at_call 47
                     have _t := hr5
                     (with_reducible refine (slocal_no hs5 (-1) NO1.out).mono ?_)
                     rintro e w6 ⟨rfl, hw⟩
                     obtain rfl := hw.symm
                     have tok9 : True := trivial)
                  | (go_at_call 27
                     have _t := hl4
                     refine (ints_sameB A4 A Q.length n c4 c Q _ hl4 hr4.q (by omega)).mono ?_
                     rintro e w5 ⟨rfl, m5⟩
                     have hr5 := hr4.keep0 m5
                     have hs5 := hs4.keep0 m5
                     have v0 := hr5.c1)
                  | (go_at_call 49
                     refine (scommon hs3 hq0).mono ?_
                     rintro e w4 ⟨A4, c4, rfl, hl4, m4⟩
                     have hr4 := hr3.keep0 m4
                     have hs4 := hs3.keep0 m4
                     have u0 := hr4.c1)
                  | (go_at_call 45
                     refine (told27 _).mono ?_
                     rintro e w3 ⟨rfl, m3⟩
                     have hr3 := hr.keep0 (((Mod.refl (fun _ => False) wr).drew).trans m3)
                     have hs3 := hs.keep0 (((Mod.refl (fun _ => False) wr).drew).trans m3)
                     have t0 := hr3.c1))
              all_goals (
                have hmf : Mod (fun _ => False) w w5 := hmm.trans (((((Mod.refl (fun _ => False) wr).drew).trans m3).trans m4).trans m5)
                clear hr3 hr4 hr5 hs3 hs4 hs5 hr hs hl4 m3 m4 m5 t0 u0 v0 c1
                go_wp2_with fail
                go_ret
                exact ⟨rfl, hmf⟩)
    · obtain rfl : m = nP := by omega
      have hd1 : decide (m < m) = false := decide_eq_false (by omega)
      as_aux_lemma =>
        clear hT
        obtain ⟨wa, rfl⟩ : ∃ wa : World, wa = wr := ⟨_, rfl⟩
        go_wp2_with fail
        go_loopw [20] (fun i wr => ∃ p : Nat, p ≤ k ∧ i = .int .i64 p ∧ Both w a x wr R Q R Q) (fun i _ => k - (intOf i).toNat)
        case atStart => exact ⟨0, by omega, rfl, h⟩
        case round =>
          clear h
          obtain ⟨p, hp, rfl, h⟩ := hrel
          by_cases hpk : p < k
          · obtain ⟨o, hs, hss, ⟨bs, f, A, n, c, hr⟩, _⟩ := id h
            have ea := HA.out
            have ex := HX.out
            have hpa : p < a.ps := by omega
            have hpx : p < x.ps := by omega
            have c0 := hr.c0
            have cp := hr.cp hpx
            have hcap := hr.cap
            have hlp := (hs.ring p hpa).len
            have hln := len2_le (R p) hlp
            have j0 : (0 : Int) ≤ (p : Int) := by omega
            have j1 : (p : Int) < (x.ps : Int) := by omega
            have j2 : decide ((p : Int) < (k : Int)) = true := decide_eq_true (by omega)
            have j3 : decide (p < k) = true := decide_eq_true hpk
            have hsd := hs.keep0 ((Mod.refl (fun _ => False) wr).drew)
            have hrd := hr.keep0 ((Mod.refl (fun _ => False) wr).drew)
            have HPA := Lib.hid hpa
            have HPX := Lib.hid hpx
            clear ea ex hpa hpx hs hr
            go_wp2_with fail
            go_region_held3 (fun W => W.cell? ⟨x.s, 0, none⟩ = some (.slice (some ⟨x.g, 0, none⟩) x.ps x.c) ∧ W.cell? ⟨x.g, p, none⟩ = some (.pointer (some ⟨bs p, 0, none⟩))) (first | (with_reducible exact ⟨v0, v1⟩) | (with_reducible exact ⟨u0, u1⟩) | (with_reducible exact ⟨t0, t1⟩) | (with_reducible exact ⟨c0, cp⟩) | go_keep)
              (first
                | (go_at_call 27
                   have _t := hl4
                   refine (ints_sameB A3 A4 (len2 (R p)) n4 c3 c4 (all2 (R p)) _ (hl3.keep0 m4) hl4 (by omega)).mono ?_
                   rintro e w5 ⟨rfl, m5⟩
                   have v0 := (hr4.keep0 m5).c0
                   have v1 := (hr4.keep0 m5).cp HPX.out)
                | (go_at_call 38
                   have _t := hl3
                   refine (rall_any (bs p) (R p).1 (R p).2 _ (hr3.ring p HPX.out).toR (by omega)).mono ?_
                   rintro e w4 ⟨A4, n4, c4, rfl, hl4, _, m4⟩
                   have hr4 := hr3.keep0 m4
                   have u0 := hr4.c0
                   have u1 := hr4.cp HPX.out)
                | (go_at_call 47
                   refine (slocal_yes hsd p HPA.out).mono ?_
                   rintro e w3 ⟨A3, c3, rfl, hl3, m3⟩
                   have hr3 := hrd.keep0 m3
                   have t0 := hr3.c0
                   have t1 := hr3.cp HPX.out))
            all_goals (
              have h5 := h.keep0 (((((Mod.refl (fun _ => False) wr).drew).trans m3).trans m4).trans m5)
              clear hr3 hr4 hrd hsd t0 t1 u0 u1 v0 v1 hl3 hl4 m3 m4 m5 h c0 cp
              go_wp2_with fail
              go_roundw
              case rel => exact ⟨p + 1, by omega, by go_num, h5⟩
              case measure => simp [intOf]; omega)
          · have hpk2 : p = k := by omega
            have j2 : decide ((p : Int) < (k : Int)) = false := decide_eq_false (by omega)
            have j3 : decide (p < k) = false := decide_eq_false hpk
            obtain ⟨o, hs, hss, ⟨bs, f, A, n, c, hr⟩, hmm⟩ := id h
            have c1 := hr.c1
            have HPK := Lib.hid hpk2
            clear hpk2
            go_wp2_with fail
            have hq0 : Q.length ≤ 800000 := by omega
            have hnQ : Q.length = n := hr.q.len
            have no1 : (-1 : Int) < 0 ∨ (a.ps : Int) ≤ -1 := .inl (by omega)
            have no2 : (k : Int) < 0 ∨ (a.ps : Int) ≤ (k : Int) := .inr (by rw [HA.out]; omega)
            have NO1 := Lib.hid no1
            have NO2 := Lib.hid no2
            have HNQ := Lib.hid hnQ
            clear no1 no2 hnQ
            go_region_held3 (fun W => W.cell? ⟨x.s, 1, none⟩ = some (.slice A n c)) (first | (with_reducible exact v0) | (with_reducible exact u0) | (with_reducible exact t0) | (with_reducible exact c1) | go_keep)
              (first
                | (go_at_call 47
                   have _t := tok9
                   (with_reducible refine (slocal_no hs5 (k : Int) NO2.out).mono ?_)
                   rintro e w7 ⟨rfl, hw⟩
                   obtain rfl := hw.symm)
                | (go_at_call 47
                   have _t := hr5
                   (with_reducible refine (slocal_no hs5 (-1) NO1.out).mono ?_)
                   rintro e w6 ⟨rfl, hw⟩
                   obtain rfl := hw.symm
                   have tok9 : True := trivial)
                | (go_at_call 27
                   have _t := hl4
                   refine (ints_sameB A4 A Q.length n c4 c Q _ hl4 hr4.q (by omega)).mono ?_
                   rintro e w5 ⟨rfl, m5⟩
                   have hr5 := hr4.keep0 m5
                   have hs5 := hs4.keep0 m5
                   have v0 := hr5.c1)
                | (go_at_call 49
                   refine (scommon hs3 hq0).mono ?_
                   rintro e w4 ⟨A4, c4, rfl, hl4, m4⟩
                   have hr4 := hr3.keep0 m4
                   have hs4 := hs3.keep0 m4
                   have u0 := hr4.c1)
                | (go_at_call 45
                   refine (told27 _).mono ?_
                   rintro e w3 ⟨rfl, m3⟩
                   have hr3 := hr.keep0 (((Mod.refl (fun _ => False) wr).drew).trans m3)
                   have hs3 := hs.keep0 (((Mod.refl (fun _ => False) wr).drew).trans m3)
                   have t0 := hr3.c1))
            all_goals (
              have hmf : Mod (fun _ => False) w w5 := hmm.trans (((((Mod.refl (fun _ => False) wr).drew).trans m3).trans m4).trans m5)
              clear hr3 hr4 hr5 hs3 hs4 hs5 hr hs hl4 m3 m4 m5 t0 u0 v0 c1
              go_wp2_with fail
              go_ret
              exact ⟨rfl, hmf⟩)

theorem splays_true (ps : Int) (P : Option Addr) (nP cP : Nat) (l : List OpS) (w : World) (hnP : nP ≤ maxLen) (hl : IsO27 w P nP l) :
    Calls Try.prog 15 #[.int .i64 ps, .slice P nP cP] w fun e w' => e = .returned (.bool true) ∧ Mod (fun _ => False) w w' := by
  by_cases hps : ps < 1 ∨ 64 < ps
  · exact splays_bad ps P nP cP w hps
  · obtain ⟨k, rfl⟩ := Int.eq_ofNat_of_zero_le (show 0 ≤ ps by omega)
    exact splays_good k (by omega) (by omega) P nP cP l w hnP hl

end Go.Proofs.Ytgojfccaohngaaa
