/-
  The contract of the reference's Pick, way by way.
-/
import Derived.Test.YtgojfccaohngaaaRSchP
import Derived.Deep.RegionHeld3
import Derived.Deep.DeepCutAuto
import Derived.Deep.CutBlock
import Derived.IntWalk
set_option linter.unusedSimpArgs false
namespace Go.Proofs.Ytgojfccaohngaaa
open Go.RowKit

section
variable {x : RA} {lo : Nat} {D : Nat → Prop} {w w' : World} {R : Nat → RM} {Q : List Int}
theorem rp_bad (h : RSch x lo D w R Q) (p tick v : Int) (hp : p < 0 ∨ (x.ps : Int) ≤ p) :
    Calls Try.prog 53 #[.pointer (some ⟨x.s, 0, none⟩), .int .i64 p, .int .i64 tick, .int .i64 v] w fun e w' => e = .returned (.tuple #[.int .i64 0, .bool false]) ∧ w' = w := by
  obtain ⟨bs, f, A, n, c, h⟩ := h
  have hc := h.c0
  by_cases h0 : p < 0
  · have h3 : decide (p < 0) = true := decide_eq_true h0
    clear hp
    go_enter Try.func53, Try.ntmps53
    go_wp2
    go_ret2
    exact ⟨rfl, rfl⟩
  · have h3 : decide (p < 0) = false := decide_eq_false h0
    have h4 : decide ((x.ps : Int) ≤ p) = true := decide_eq_true (by omega)
    clear hp
    go_enter Try.func53, Try.ntmps53
    go_wp2
    go_ret2
    exact ⟨rfl, rfl⟩

set_option maxHeartbeats 1000000 in
set_option maxRecDepth 100000 in
theorem rp_fair (y : Int) (L : List Int) (h : RSch x lo D w R (y :: L)) (p : Nat) (hp : p < x.ps) (tick v : Int) (hf : Fair tick (y :: L)) :
    Calls Try.prog 53 #[.pointer (some ⟨x.s, 0, none⟩), .int .i64 p, .int .i64 tick, .int .i64 v] w fun e w' => e = .returned (.tuple #[.int .i64 y, .bool true]) ∧ RTo x lo D w w' R L := by
  obtain ⟨bs, f, A, n, c, h⟩ := h
  have hc0 := h.c0
  have hc1 := h.c1
  have hcp := h.cp hp
  have hpm := h.most
  have hcap := h.cap
  have hi0 : (0 : Int) ≤ (p : Int) := by omega
  have hi1 : (p : Int) < (x.ps : Int) := by omega
  have d1 : decide ((p : Int) < 0) = false := decide_eq_false (by omega)
  have d2 : decide ((x.ps : Int) ≤ (p : Int)) = false := decide_eq_false (by omega)
  have d3 : decide (x.ps ≤ p) = false := decide_eq_false (by omega)
  have t1 : (tick != 0) = true := by simpa using hf.1
  obtain ⟨z, hz⟩ : ∃ z, tick.tmod 61 = z := ⟨_, rfl⟩
  have t2 : (z == 0) = true := by rw [← hz]; simpa using hf.2.1
  have hn : 0 < n := by rw [← h.q.len]; simp
  have t3 : decide ((0 : Int) < (n : Int)) = true := decide_eq_true (by omega)
  have t4 : decide (0 < n) = true := decide_eq_true hn
  obtain ⟨g, o, hA, hy⟩ := h.q.at_ hn
  subst hA
  have hy' : w.cell? ⟨g, o, none⟩ = some (.int .i64 y) := hy
  obtain ⟨A4, n4, c4, hcut, hL4, hblk4⟩ := cut_low (P := Try.prog) 27 Try.underlying27 int_info (some ⟨g, o, none⟩) n c 1 (by omega)
  have hcut' : ∀ (W : World), (Instr.sliceAt 27 (.slice (some ⟨g, o, none⟩) n c) (some (.int .i64 1)) none none).run Try.prog W = .ok (.slice A4 n4 c4) W := hcut
  have hset := h.setQ (hL4 w _ h.q) (h.ty.of_blk hblk4)
  have hT : RTo x lo D w (w.setCell ⟨x.s, 1, none⟩ (.slice A4 n4 c4)) R L := ⟨⟨bs, f, A4, n4, c4, hset⟩, h.mod_s _ 1⟩
  have fz := h.row.frozen 1
  have hl := h.row.lt
  clear hf hcut hL4 hset hy
  go_enter Try.func53, Try.ntmps53
  go_wp2
  go_ret2
  exact ⟨rfl, hT⟩

set_option maxHeartbeats 1000000 in
set_option maxRecDepth 100000 in
theorem rp_get (hD : ∀ g, D g → g < w.heap.size) (h : RSch x lo D w R Q) (p : Nat) (hp : p < x.ps) (tick v : Int) (hf : ¬ Fair tick Q) (y : Int) (T : List Int) (hx : all2 (R p) = y :: T) :
    Calls Try.prog 53 #[.pointer (some ⟨x.s, 0, none⟩), .int .i64 p, .int .i64 tick, .int .i64 v] w fun e w' => e = .returned (.tuple #[.int .i64 y, .bool true]) ∧ RTo x lo D w w' (getR R p) Q := by
  obtain ⟨bs, f, A, n, c, h⟩ := h
  have hc0 := h.c0
  have hc1 := h.c1
  have hcp := h.cp hp
  have hpm := h.most
  have hcap := h.cap
  have hi0 : (0 : Int) ≤ (p : Int) := by omega
  have hi1 : (p : Int) < (x.ps : Int) := by omega
  have d1 : decide ((p : Int) < 0) = false := decide_eq_false (by omega)
  have d2 : decide ((x.ps : Int) ≤ (p : Int)) = false := decide_eq_false (by omega)
  have d3 : decide (x.ps ≤ p) = false := decide_eq_false (by omega)
  have hg : ∀ W, RSI x lo D W bs f A n c R Q → (∀ g, D g → g < W.heap.size) → Calls Try.prog 35 #[.pointer (some ⟨bs p, 0, none⟩)] W fun e w' => e = .returned (.tuple #[.int .i64 y, .bool true]) ∧ RTo x lo D W w' (getR R p) Q := by
    intro W hW hDW
    refine (dget_any (bs p) _ _ W hDW (hW.ring p hp)).mono ?_
    rintro e w2 ⟨he, r2, m2⟩
    obtain ⟨row', nxt', e1, e2⟩ := rget_cons (R p).1 (R p).2 y T hx
    rw [e1] at he
    exact ⟨he, hW.toRing hp (E := get2 (R p)) r2 m2⟩
  have HG := Lib.hid hg
  clear hg hx
  have hn : n = Q.length := h.q.len.symm
  have HF := Lib.hid hf
  have HN := Lib.hid hn
  clear hf hn
  go_enter Try.func53, Try.ntmps53
  go_upto_region 3 with (fail)
  go_cut [41] (fun v wx => v = .bool false ∧ w = wx)
  case first =>
    by_cases h0 : tick = 0
    · have t1 : (tick != 0) = false := by simpa using h0
      clear h0
      go_wp2_with fail
      go_meet
      case rel => exact ⟨rfl, rfl⟩
    · have t1 : (tick != 0) = true := by simpa using h0
      obtain ⟨z, hz⟩ : ∃ z, tick.tmod 61 = z := ⟨_, rfl⟩
      by_cases h1 : z = 0
      · have t2 : (z == 0) = true := by simpa using h1
        have hQ : n = 0 := by
          rw [HN.out]
          by_cases hQ : Q = []
          · rw [hQ]; rfl
          · exact absurd ⟨h0, by rw [hz]; exact h1, hQ⟩ HF.out
        have t3 : decide ((0 : Int) < (n : Int)) = false := decide_eq_false (by omega)
        have t4 : decide (0 < n) = false := decide_eq_false (by omega)
        clear h0 h1 hQ
        go_wp2_with fail
        go_meet
        case rel => exact ⟨rfl, rfl⟩
      · have t2 : (z == 0) = false := by simpa using h1
        clear h0 h1
        go_wp2_with fail
        go_meet
        case rel => exact ⟨rfl, rfl⟩
  case rest =>
    obtain ⟨rfl, rfl⟩ := hcut
    go_wp2_with fail
    refine (HG.out _ h hD).mono ?_
    rintro e w3 ⟨rfl, hT⟩
    clear h hc0 hc1 hcp
    go_wp2_with fail
    go_ret2
    exact ⟨rfl, hT⟩

set_option maxHeartbeats 4000000 in
set_option maxRecDepth 100000 in
theorem rp_part (hD : ∀ g, D g → g < w.heap.size) (y : Int) (L : List Int) (h : RSch x lo D w R (y :: L)) (p : Nat) (hp : p < x.ps) (tick v : Int) (hf : ¬ Fair tick (y :: L)) (hR : R p = ([], none)) (hb : L.length ≤ 700000) :
    Calls Try.prog 53 #[.pointer (some ⟨x.s, 0, none⟩), .int .i64 p, .int .i64 tick, .int .i64 v] w fun e w' =>
      e = .returned (.tuple #[.int .i64 y, .bool true]) ∧ RTo x lo D w w' (upd R p (((y :: L).take (qtake (y :: L).length x.ps 64)).tail, none)) ((y :: L).drop (qtake (y :: L).length x.ps 64)) := by
  obtain ⟨bs, f, A, n, c, h⟩ := h
  have hc0 := h.c0
  have hc1 := h.c1
  have hcp := h.cp hp
  have hpm := h.most
  have hcap := h.cap
  have hi0 : (0 : Int) ≤ (p : Int) := by omega
  have hi1 : (p : Int) < (x.ps : Int) := by omega
  have d1 : decide ((p : Int) < 0) = false := decide_eq_false (by omega)
  have d2 : decide ((x.ps : Int) ≤ (p : Int)) = false := decide_eq_false (by omega)
  have d3 : decide (x.ps ≤ p) = false := decide_eq_false (by omega)
  have HR := Lib.hid hR
  clear hR
  have hN1 := qtake_le (y :: L).length x.ps 64
  have hN2 := qtake_64 (y :: L).length x.ps
  have hN3 := qtake_pos (y :: L).length x.ps (by simp)
  obtain ⟨N, hN⟩ : ∃ N, N = qtake (y :: L).length x.ps 64 := ⟨_, rfl⟩
  rw [← hN] at hN1 hN2 hN3 ⊢
  have hM : ∃ M, (y :: L).take N = y :: M ∧ M.length + 1 = N := ⟨L.take (N - 1), by
    obtain ⟨k, hk⟩ : ∃ k, N = k + 1 := ⟨N - 1, by omega⟩
    rw [hk, List.take_succ_cons, Nat.add_sub_cancel], by rw [List.length_take]; simp at hN1; omega⟩
  obtain ⟨M, hM1, hM2⟩ := hM
  have hQ2 : ((y :: L).drop N).length ≤ 700000 := by rw [List.length_drop, List.length_cons]; omega
  obtain ⟨Q2, hQ2e⟩ : ∃ Q2, Q2 = (y :: L).drop N := ⟨_, rfl⟩
  rw [← hQ2e] at hQ2 ⊢
  rw [hM1, List.tail_cons]
  have HM1 := Lib.hid hM1
  have HM2 := Lib.hid hM2
  have HNN := Lib.hid hN
  have HQ2 := Lib.hid hQ2e
  clear hM1 hM2 hN hQ2e hN1
  have hn : n = (y :: L).length := h.q.len.symm
  have HF := Lib.hid hf
  have HN := Lib.hid hn
  clear hf hn
  go_enter Try.func53, Try.ntmps53
  go_upto_region 3 with (fail)
  go_cut [41] (fun v wx => v = .bool false ∧ w = wx)
  case first =>
    by_cases h0 : tick = 0
    · have t1 : (tick != 0) = false := by simpa using h0
      clear h0
      go_wp2_with fail
      go_meet
      case rel => exact ⟨rfl, rfl⟩
    · have t1 : (tick != 0) = true := by simpa using h0
      obtain ⟨z, hz⟩ : ∃ z, tick.tmod 61 = z := ⟨_, rfl⟩
      by_cases h1 : z = 0
      · have t2 : (z == 0) = true := by simpa using h1
        have hQ : n = 0 := by
          rw [HN.out]
          by_cases hQ : (y :: L) = []
          · cases hQ
          · exact absurd ⟨h0, by rw [hz]; exact h1, hQ⟩ HF.out
        have t3 : decide ((0 : Int) < (n : Int)) = false := decide_eq_false (by omega)
        have t4 : decide (0 < n) = false := decide_eq_false (by omega)
        clear h0 h1 hQ
        go_wp2_with fail
        go_meet
        case rel => exact ⟨rfl, rfl⟩
      · have t2 : (z == 0) = false := by simpa using h1
        clear h0 h1
        go_wp2_with fail
        go_meet
        case rel => exact ⟨rfl, rfl⟩
  case rest =>
    obtain ⟨rfl, rfl⟩ := hcut
    go_wp2_with fail
    refine (dget_any (bs p) _ _ _ hD (HR.out ▸ h.ring p hp)).mono ?_
    rintro e w3 ⟨rfl, hr3, m3⟩
    have h3 := (h.onRing hp (E := ([], none)) hr3 m3).congr (R' := R) (fun i _ => by
      by_cases e : i = p
      · rw [e, upd_same, HR.out]
      · rw [upd_ne _ _ e])
    have hM3 := h.mod_ring hp m3
    have hD3 : ∀ g, D g → g < w3.heap.size := fun g hg => Nat.lt_of_lt_of_le (hD g hg) m3.size
    clear hc0 hc1 hcp hr3 m3
    have hc0 := h3.c0
    have hc1 := h3.c1
    have h3d := h3.keep0 ((Mod.refl (fun _ => False) w3).drew)
    have hqg := rs_qget h3d x.ps 64 (by simp; omega) (by omega) (by omega)
    rw [← HNN.out, ← HQ2.out, HM1.out] at hqg
    have HQG := Lib.hid hqg
    clear hqg
    go_wp2_with fail
    go_region_held3 (fun W => W.cell? ⟨x.s, 0, none⟩ = some (.slice (some ⟨x.g, 0, none⟩) x.ps x.c)) (first | (with_reducible exact t0) | (with_reducible exact hc0) | go_keep)
      (first
        | (go_at_call 28
           refine HQG.out.mono ?_
           rintro e w4 ⟨A4, n4, c4, rfl, h4, hl4, hty4, hm4⟩
           have t0 := h4.c0))
    all_goals (
      have hM4 : ModT lo w w4 := (hM3.trans (ModT.of0 ((Mod.refl (fun _ => False) w3).drew))).trans hm4
      have hD4 : ∀ g, D g → g < w4.heap.size := fun g hg => Nat.lt_of_lt_of_le (hD g hg) hM4.size
      have hcap4 := hl4.le
      have hcm4 := hl4.cap
      have hstart : ∃ A' n' c', RSI x lo D w4 bs f A' n' c' (upd R p (M.take 0, none)) Q2 := ⟨A4, n4, c4, h4.congr (fun i _ => by
        by_cases e : i = p
        · rw [e, upd_same, HR.out]; rfl
        · rw [upd_ne _ _ e])⟩
      have g1 : decide ((0 : Int) < (N : Int)) = true := decide_eq_true (by omega)
      have g2 : decide (0 < N) = true := decide_eq_true (by omega)
      clear h3 h3d h4 t0 hc0 hc1 hM3 h hm4
      go_wp2_with fail
      go_loopw [14] (fun i wr => ∃ k : Nat, k + 1 ≤ N ∧ i = .int .i64 ((k : Int) + 1) ∧ (∃ A' n' c', RSI x lo D wr bs f A' n' c' (upd R p (M.take k, none)) Q2) ∧ IsL wr A N c (y :: M) ∧ TyL wr A ∧ ModT lo w wr) (fun i _ => N - (intOf i).toNat)
      case atStart => exact ⟨0, by omega, rfl, hstart, hl4, hty4, hM4⟩
      case round =>
        clear hstart hl4 hty4 hM4 hD4
        obtain ⟨k, hk, rfl, ⟨A', n', c', hS⟩, hl, hty, hM⟩ := hrel
        by_cases hk2 : k + 1 < N
        · obtain ⟨u, _, e2, e3⟩ := drop_cons M (k := k) (by have := HM2.out; omega)
          obtain ⟨g, o, rfl, hu⟩ := hl.at_ hk2
          rw [List.getD_cons_succ, e3] at hu
          have hu' : wr.cell? ⟨g, o + (k + 1), none⟩ = some (.int .i64 u) := hu
          have hgl : g < wr.heap.size := hl.lt _ rfl
          have hgT : HasT wr g 3 := hty g rfl
          have E2 := Lib.hid e2
          clear e2 e3 hu
          have hc0 := hS.c0
          have hcp := hS.cp hp
          have j0 : (0 : Int) ≤ (k : Int) + 1 := by omega
          have j1 : (k : Int) + 1 < (N : Int) := by omega
          have hSd := hS.keep0 ((Mod.refl (fun _ => False) wr).drew)
          have hrg := hSd.ring p hp
          rw [upd_same] at hrg
          have hrg' : RRingD D wr.drew (bs p) (M.take k) none := hrg
          have hlk : (M.take k).length ≤ 256 := by rw [List.length_take]; omega
          have hlk2 : (M.take k).length < 256 := by rw [List.length_take]; omega
          have hDw : ∀ g, D g → g < wr.drew.heap.size := fun g hg => Nat.lt_of_lt_of_le (hD g hg) hM.size
          clear hrg
          go_wp2_with fail
          go_region_held3 (fun W => W.cell? ⟨x.s, 0, none⟩ = some (.slice (some ⟨x.g, 0, none⟩) x.ps x.c) ∧ W.cell? ⟨x.g, p, none⟩ = some (.pointer (some ⟨bs p, 0, none⟩)) ∧ W.cell? ⟨g, o + (k + 1), none⟩ = some (.int .i64 u))
            (first | (with_reducible exact ⟨u0, u1, u2⟩) | (with_reducible exact ⟨t0, t1, t2⟩) | (with_reducible exact ⟨hc0, hcp, hu'⟩) | go_keep)
            (first
              | (go_at_call 52
                 have _t := hA5
                 refine (rs_globalI hD5 h5 A5 0 k5 [] hA5 (by omega)).mono ?_
                 rintro e w6 ⟨rfl, ⟨A6, n6, c6, h6⟩, m6⟩
                 have u0 := h6.c0
                 have u1 := h6.cp hp
                 have hg6 : w6.heap[g]? = w5.heap[g]? := m6.not3 hgT5
                 have u2 : w6.cell? ⟨g, o + (k + 1), none⟩ = some (.int .i64 u) := (World.cell?_of_block (w := w5) (w' := w6) (a := ⟨g, o + (k + 1), none⟩) hg6).trans t2)
              | (go_at_call 34
                 refine (dput_any (bs p) u false (M.take k) none _ hDw hrg' hlk).mono ?_
                 rintro e w5 ⟨A5, n5, k5, rfl, hr5, hA5, _, m5⟩
                 rw [rput_room _ _ _ hlk2] at hr5 hA5
                 obtain rfl : n5 = 0 := hA5.len.symm
                 have h5 := hSd.onRing hp (E := (M.take k ++ [u], none)) hr5 m5
                 have hm5 := hSd.mod_ring hp m5
                 have hD5 : ∀ g, D g → g < w5.heap.size := fun g hg => Nat.lt_of_lt_of_le (hDw g hg) m5.size
                 have hgT5 : HasT w5 g 3 := hgT.keep (w := wr) (S := (· = bs p)) ⟨m5.os, m5.tape, m5.output, m5.size, m5.block⟩ (fun e => hgT.ne (HasT.keep (S := fun _ => False) (hSd.ring p hp).hasT ⟨rfl, rfl, rfl, Nat.le_refl _, fun _ _ _ => rfl⟩ (fun h => h)) (by decide) e)
                 have t0 := h5.c0
                 have t1 := h5.cp hp
                 have t2 : w5.cell? ⟨g, o + (k + 1), none⟩ = some (.int .i64 u) := (m5.cell (p := ⟨g, o + (k + 1), none⟩) hgl (fun e => hgT.ne (HasT.keep (S := fun _ => False) (hSd.ring p hp).hasT ⟨rfl, rfl, rfl, Nat.le_refl _, fun _ _ _ => rfl⟩ (fun h => h)) (by decide) e)).trans hu'))
          all_goals (
            rw [List.append_nil] at h6
            have h7 : RSI x lo D w6 bs f A6 n6 c6 (upd R p (M.take (k + 1), none)) Q2 := h6.congr (fun i _ => by
              by_cases e : i = p
              · rw [e, upd_same, upd_same, E2.out]
              · rw [upd_ne _ _ e, upd_ne _ _ e, upd_ne _ _ e])
            have hm7 : ModT lo wr w6 := ((ModT.of0 ((Mod.refl (fun _ => False) wr).drew)).trans hm5).trans m6
            have hl7 := hl.keepT hty hm7
            have hty7 := hty.keepT hm7
            have hM7 := hM.trans hm7
            clear h5 h6 hr5 hA5 m5 m6 t0 t1 t2 u0 u1 u2 hg6 hgT5 hSd hrg' hl hty hM hm7 hS hc0 hcp hu' hD5 hDw
            go_wp2_with fail
            go_roundw
            case rel => exact ⟨k + 1, by omega, by go_num, ⟨A6, n6, c6, h7⟩, hl7, hty7, hM7⟩
            case measure => simp [intOf]; omega)
        · obtain ⟨g, o, rfl, hy⟩ := hl.at_ (k := 0) (by omega)
          have hy' : wr.cell? ⟨g, o, none⟩ = some (.int .i64 y) := hy
          have hTf : RTo x lo D w wr (upd R p (M, none)) Q2 := by
            have e : M.take k = M := List.take_of_length_le (by have := HM2.out; omega)
            rw [e] at hS
            exact ⟨⟨bs, f, A', n', c', hS⟩, hM⟩
          clear hy hl hS hM hty
          go_wp2_with fail
          go_ret2
          exact ⟨rfl, hTf⟩)

set_option maxHeartbeats 4000000 in
set_option maxRecDepth 100000 in
theorem rp_none (hD : ∀ g, D g → g < w.heap.size) (h : RSch x lo D w R []) (p : Nat) (hp : p < x.ps) (tick v : Int) (hv : v < 0 ∨ (x.ps : Int) ≤ v ∨ v = p) (hR : R p = ([], none)) :
    Calls Try.prog 53 #[.pointer (some ⟨x.s, 0, none⟩), .int .i64 p, .int .i64 tick, .int .i64 v] w fun e w' => e = .returned (.tuple #[.int .i64 0, .bool false]) ∧ RTo x lo D w w' R [] := by
  have hf : ¬ Fair tick [] := fun hf => hf.2.2 rfl
  obtain ⟨bs, f, A, n, c, h⟩ := h
  have hc0 := h.c0
  have hc1 := h.c1
  have hcp := h.cp hp
  have hpm := h.most
  have hcap := h.cap
  have hi0 : (0 : Int) ≤ (p : Int) := by omega
  have hi1 : (p : Int) < (x.ps : Int) := by omega
  have d1 : decide ((p : Int) < 0) = false := decide_eq_false (by omega)
  have d2 : decide ((x.ps : Int) ≤ (p : Int)) = false := decide_eq_false (by omega)
  have d3 : decide (x.ps ≤ p) = false := decide_eq_false (by omega)
  have HR := Lib.hid hR
  have HV := Lib.hid hv
  clear hR hv
  have hn : n = ([] : List Int).length := h.q.len.symm
  have HF := Lib.hid hf
  have HN := Lib.hid hn
  clear hf hn
  go_enter Try.func53, Try.ntmps53
  go_upto_region 3 with (fail)
  go_cut [41] (fun v wx => v = .bool false ∧ w = wx)
  case first =>
    by_cases h0 : tick = 0
    · have t1 : (tick != 0) = false := by simpa using h0
      clear h0
      go_wp2_with fail
      go_meet
      case rel => exact ⟨rfl, rfl⟩
    · have t1 : (tick != 0) = true := by simpa using h0
      obtain ⟨z, hz⟩ : ∃ z, tick.tmod 61 = z := ⟨_, rfl⟩
      by_cases h1 : z = 0
      · have t2 : (z == 0) = true := by simpa using h1
        have hQ : n = 0 := by
          rw [HN.out]; rfl
        have t3 : decide ((0 : Int) < (n : Int)) = false := decide_eq_false (by omega)
        have t4 : decide (0 < n) = false := decide_eq_false (by omega)
        clear h0 h1 hQ
        go_wp2_with fail
        go_meet
        case rel => exact ⟨rfl, rfl⟩
      · have t2 : (z == 0) = false := by simpa using h1
        clear h0 h1
        go_wp2_with fail
        go_meet
        case rel => exact ⟨rfl, rfl⟩
  case rest =>
    obtain ⟨rfl, rfl⟩ := hcut
    go_wp2_with fail
    refine (dget_any (bs p) _ _ _ hD (HR.out ▸ h.ring p hp)).mono ?_
    rintro e w3 ⟨rfl, hr3, m3⟩
    have h3 := (h.onRing hp (E := ([], none)) hr3 m3).congr (R' := R) (fun i _ => by
      by_cases e : i = p
      · rw [e, upd_same, HR.out]
      · rw [upd_ne _ _ e])
    have hM3 := h.mod_ring hp m3
    have hD3 : ∀ g, D g → g < w3.heap.size := fun g hg => Nat.lt_of_lt_of_le (hD g hg) m3.size
    clear hc0 hc1 hcp hr3 m3
    have hc0 := h3.c0
    have hc1 := h3.c1
    have h3d := h3.keep0 ((Mod.refl (fun _ => False) w3).drew)
    have hqg := rs_qget h3d x.ps 64 (by simp) (by omega) (by omega)
    have hq0 : qtake ([] : List Int).length x.ps 64 = 0 := by have := qtake_le ([] : List Int).length x.ps 64; simpa using this
    rw [hq0] at hqg
    rw [List.drop_nil, List.take_zero] at hqg
    have HQG := Lib.hid hqg
    clear hqg
    go_wp2_with fail
    go_region_held3 (fun W => W.cell? ⟨x.s, 0, none⟩ = some (.slice (some ⟨x.g, 0, none⟩) x.ps x.c)) (first | (with_reducible exact t0) | (with_reducible exact hc0) | go_keep)
      (first
        | (go_at_call 28
           refine HQG.out.mono ?_
           rintro e w4 ⟨A4, n4, c4, rfl, h4, hl4, hty4, hm4⟩
           have t0 := h4.c0))
    all_goals (
      have hM4 : ModT lo w w4 := (hM3.trans (ModT.of0 ((Mod.refl (fun _ => False) w3).drew))).trans hm4
      clear h3 h3d t0 hc0 hc1 hl4 hty4 hm4
      have hM4' : ModT lo w w4 := hM4
      have hc0 := h4.c0
      have hcp := h4.cp hp
      have hD4 : ∀ g, D g → g < w4.heap.size := fun g hg => Nat.lt_of_lt_of_le (hD g hg) hM4'.size
      have hg : Calls Try.prog 35 #[.pointer (some ⟨bs p, 0, none⟩)] w4 fun e w' => e = .returned (.tuple #[.int .i64 0, .bool false]) ∧ RTo x lo D w4 w' R [] := by
        refine (dget_any (bs p) _ _ _ hD4 (HR.out ▸ h4.ring p hp)).mono ?_
        rintro e w5 ⟨he, r5, m5⟩
        have h5 := (h4.onRing hp (E := ([], none)) r5 m5).congr (R' := R) (fun i _ => by
          by_cases e : i = p
          · rw [e, upd_same, HR.out]
          · rw [upd_ne _ _ e])
        exact ⟨he, ⟨⟨bs, f, A4, n4, c4, h5⟩, h4.mod_ring hp m5⟩⟩
      have HG := Lib.hid hg
      clear hg h hM4 hM3
      by_cases hv0 : v < 0
      · have v1 : decide ((0 : Int) ≤ v) = false := decide_eq_false (by omega)
        go_wp2_with fail
        refine HG.out.mono ?_
        rintro e w5 ⟨rfl, hT⟩
        clear hc0 hcp h4
        go_wp2_with fail
        go_ret2
        exact ⟨rfl, hT.1, hM4'.trans hT.2⟩
      · have v1 : decide ((0 : Int) ≤ v) = true := decide_eq_true (by omega)
        by_cases hv2 : (x.ps : Int) ≤ v
        · have v2 : decide (v < (x.ps : Int)) = false := decide_eq_false (by omega)
          go_wp2_with fail
          refine HG.out.mono ?_
          rintro e w5 ⟨rfl, hT⟩
          clear hc0 hcp h4
          go_wp2_with fail
          go_ret2
          exact ⟨rfl, hT.1, hM4'.trans hT.2⟩
        · have v2 : decide (v < (x.ps : Int)) = true := decide_eq_true (by omega)
          have v3 : (v != (p : Int)) = false := by rw [bne_eq_false_iff_eq]; have := HV.out; omega
          go_wp2_with fail
          refine HG.out.mono ?_
          rintro e w5 ⟨rfl, hT⟩
          clear hc0 hcp h4
          go_wp2_with fail
          go_ret2
          exact ⟨rfl, hT.1, hM4'.trans hT.2⟩)

set_option maxHeartbeats 4000000 in
set_option maxRecDepth 100000 in
theorem rp_steal (hD : ∀ g, D g → g < w.heap.size) (h : RSch x lo D w R []) (p : Nat) (hp : p < x.ps) (tick : Int) (v : Nat) (hv : v < x.ps) (hne : v ≠ p) (hR : R p = ([], none)) (hlv : (R v).1.length ≤ 256) :
    Calls Try.prog 53 #[.pointer (some ⟨x.s, 0, none⟩), .int .i64 p, .int .i64 tick, .int .i64 v] w fun e w' =>
      e = .returned (.tuple #[.int .i64 (rget (stA (R p) (R v)).1 (stA (R p) (R v)).2).1.1, .bool (rget (stA (R p) (R v)).1 (stA (R p) (R v)).2).1.2]) ∧ RTo x lo D w w' (getR (stealR R p v) p) [] := by
  have hf : ¬ Fair tick [] := fun hf => hf.2.2 rfl
  obtain ⟨bs, f, A, n, c, h⟩ := h
  have hc0 := h.c0
  have hc1 := h.c1
  have hcp := h.cp hp
  have hpm := h.most
  have hcap := h.cap
  have hi0 : (0 : Int) ≤ (p : Int) := by omega
  have hi1 : (p : Int) < (x.ps : Int) := by omega
  have d1 : decide ((p : Int) < 0) = false := decide_eq_false (by omega)
  have d2 : decide ((x.ps : Int) ≤ (p : Int)) = false := decide_eq_false (by omega)
  have d3 : decide (x.ps ≤ p) = false := decide_eq_false (by omega)
  have HR := Lib.hid hR
  have HV := Lib.hid hne
  have hnv : ((v : Int) != (p : Int)) = true := by rw [bne_iff_ne]; omega
  have k0 : (0 : Int) ≤ (v : Int) := by omega
  have k1 : (v : Int) < (x.ps : Int) := by omega
  have v1 : decide ((0 : Int) ≤ (v : Int)) = true := decide_eq_true (by omega)
  have v2 : decide ((v : Int) < (x.ps : Int)) = true := decide_eq_true (by omega)
  have v3 : decide (v < x.ps) = true := decide_eq_true hv
  have hst : ∀ (W : World) (A : Option Addr) (n c : Nat), (∀ g, D g → g < W.heap.size) → RSI x lo D W bs f A n c R [] → Calls Try.prog 36 #[.pointer (some ⟨bs p, 0, none⟩), .pointer (some ⟨bs v, 0, none⟩)] W fun e w' =>
      e = .returned (.int .i64 ((rsteal (R p).1 (R v).1 (R v).2).1 : Nat)) ∧ RSI x lo D w' bs f A n c (stealR R p v) [] ∧ ModT lo W w' := by
    intro W A n c hDW hW
    have hbne : bs p ≠ bs v := fun e => hne (hW.inj p v hp hv e).symm
    refine (dsteal_any (bs p) (bs v) (R p).1 (R v).1 (R p).2 (R v).2 W hDW (hW.ring p hp) (hW.ring v hv) hbne (by rw [hR]; simp) hlv).mono ?_
    rintro e w2 ⟨he, r1, r2, m⟩
    have tp := (hW.ring p hp).hasT
    have tv := (hW.ring v hv).hasT
    have ne : ∀ b t, HasT W b t → t ≠ 55 → ¬ (b = bs p ∨ b = bs v) := by
      rintro b t hb h1 (e | e)
      · exact hb.ne tp h1 e
      · exact hb.ne tv h1 e
    have h3 : ∀ g, (g = bs p ∨ g = bs v) → D g ∨ ¬ HasT W g 3 := fun g hg => .inr (fun h3 => ne g 3 h3 (by decide) hg)
    refine ⟨he, ?_, ⟨_, m, fun k hk => ?_⟩⟩
    · exact { hW with
        row := m.rowIs hW.row (ne _ _ (HasT.of_row hW.row) (by decide))
        arr := m.rowIs hW.arr (ne _ _ (HasT.of_row hW.arr) (by decide))
        ring := fun i hi => by
          unfold stealR
          by_cases e : i = v
          · subst e; rw [upd_same]; exact r2
          · rw [upd_ne _ _ e]
            by_cases e2 : i = p
            · subst e2; rw [upd_same]; exact r1
            · rw [upd_ne _ _ e2]
              exact (hW.ring i hi).keep m (fun e3 => by rcases e3 with e3 | e3; exact e2 (hW.inj i p hi hp e3); exact e (hW.inj i v hi hv e3)) h3
        q := hW.q.keep m (fun d hd e => by
          rcases h3 _ e with e2 | e2
          · exact hW.ty.no d.block (by rw [hd]; rfl) e2
          · exact e2 (hW.ty.ty d.block (by rw [hd]; rfl)))
        ty := hW.ty.keep m (fun g hg e => by
          rcases h3 _ e with e2 | e2
          · exact hW.ty.no g hg e2
          · exact e2 (hW.ty.ty g hg)) }
    · rcases hk with e | e
      · subst e; exact ⟨hW.lb p hp, 55, .inr (.inr rfl), tp⟩
      · subst e; exact ⟨hW.lb v hv, 55, .inr (.inr rfl), tv⟩
  have hg : ∀ (W : World) (A : Option Addr) (n c : Nat), (∀ g, D g → g < W.heap.size) → RSI x lo D W bs f A n c (stealR R p v) [] → Calls Try.prog 35 #[.pointer (some ⟨bs p, 0, none⟩)] W fun e w' =>
      e = .returned (.tuple #[.int .i64 (rget (stA (R p) (R v)).1 (stA (R p) (R v)).2).1.1, .bool (rget (stA (R p) (R v)).1 (stA (R p) (R v)).2).1.2]) ∧ RTo x lo D W w' (getR (stealR R p v) p) [] := by
    intro W A n c hDW hW
    have hr := hW.ring p hp
    have e := stealR_p (R := R) (p := p) (v := v) (fun e => hne e.symm)
    have hr' := hr
    rw [e] at hr'
    refine (dget_any (bs p) _ _ W hDW hr').mono ?_
    rintro e2 w2 ⟨he, r2, m2⟩
    refine ⟨he, ?_⟩
    have := hW.toRing hp (E := get2 (stealR R p v p)) (by rw [e]; exact r2) m2
    exact this
  generalize (rget (stA (R p) (R v)).1 (stA (R p) (R v)).2).1.1 = r1 at hg ⊢
  generalize (rget (stA (R p) (R v)).1 (stA (R p) (R v)).2).1.2 = r2 at hg ⊢
  have HST := Lib.hid hst
  have HGT := Lib.hid hg
  clear hR hne hst hg hlv
  have hn : n = ([] : List Int).length := h.q.len.symm
  have HF := Lib.hid hf
  have HN := Lib.hid hn
  clear hf hn
  go_enter Try.func53, Try.ntmps53
  go_upto_region 3 with (fail)
  go_cut [41] (fun v wx => v = .bool false ∧ w = wx)
  case first =>
    by_cases h0 : tick = 0
    · have t1 : (tick != 0) = false := by simpa using h0
      clear h0
      go_wp2_with fail
      go_meet
      case rel => exact ⟨rfl, rfl⟩
    · have t1 : (tick != 0) = true := by simpa using h0
      obtain ⟨z, hz⟩ : ∃ z, tick.tmod 61 = z := ⟨_, rfl⟩
      by_cases h1 : z = 0
      · have t2 : (z == 0) = true := by simpa using h1
        have hQ : n = 0 := by
          rw [HN.out]; rfl
        have t3 : decide ((0 : Int) < (n : Int)) = false := decide_eq_false (by omega)
        have t4 : decide (0 < n) = false := decide_eq_false (by omega)
        clear h0 h1 hQ
        go_wp2_with fail
        go_meet
        case rel => exact ⟨rfl, rfl⟩
      · have t2 : (z == 0) = false := by simpa using h1
        clear h0 h1
        go_wp2_with fail
        go_meet
        case rel => exact ⟨rfl, rfl⟩
  case rest =>
    obtain ⟨rfl, rfl⟩ := hcut
    go_wp2_with fail
    refine (dget_any (bs p) _ _ _ hD (HR.out ▸ h.ring p hp)).mono ?_
    rintro e w3 ⟨rfl, hr3, m3⟩
    have h3 := (h.onRing hp (E := ([], none)) hr3 m3).congr (R' := R) (fun i _ => by
      by_cases e : i = p
      · rw [e, upd_same, HR.out]
      · rw [upd_ne _ _ e])
    have hM3 := h.mod_ring hp m3
    have hD3 : ∀ g, D g → g < w3.heap.size := fun g hg => Nat.lt_of_lt_of_le (hD g hg) m3.size
    clear hc0 hc1 hcp hr3 m3
    have hc0 := h3.c0
    have hc1 := h3.c1
    have h3d := h3.keep0 ((Mod.refl (fun _ => False) w3).drew)
    have hqg := rs_qget h3d x.ps 64 (by simp) (by omega) (by omega)
    have hq0 : qtake ([] : List Int).length x.ps 64 = 0 := by have := qtake_le ([] : List Int).length x.ps 64; simpa using this
    rw [hq0] at hqg
    rw [List.drop_nil, List.take_zero] at hqg
    have HQG := Lib.hid hqg
    clear hqg
    go_wp2_with fail
    go_region_held3 (fun W => W.cell? ⟨x.s, 0, none⟩ = some (.slice (some ⟨x.g, 0, none⟩) x.ps x.c)) (first | (with_reducible exact t0) | (with_reducible exact hc0) | go_keep)
      (first
        | (go_at_call 28
           refine HQG.out.mono ?_
           rintro e w4 ⟨A4, n4, c4, rfl, h4, hl4, hty4, hm4⟩
           have t0 := h4.c0))
    all_goals (
      have hM4 : ModT lo w w4 := (hM3.trans (ModT.of0 ((Mod.refl (fun _ => False) w3).drew))).trans hm4
      clear h3 h3d t0 hc0 hc1 hl4 hty4 hm4
      have hM4' : ModT lo w w4 := hM4
      have hc0 := h4.c0
      have hcp := h4.cp hp
      have hD4 : ∀ g, D g → g < w4.heap.size := fun g hg => Nat.lt_of_lt_of_le (hD g hg) hM4'.size
      have hcv := h4.cp hv
      have h4d := h4.keep0 ((Mod.refl (fun _ => False) w4).drew)
      have hD4d : ∀ g, D g → g < w4.drew.heap.size := hD4
      clear h hM4 hM3
      go_wp2_with fail
      go_region_held3 (fun W => W.cell? ⟨x.s, 0, none⟩ = some (.slice (some ⟨x.g, 0, none⟩) x.ps x.c) ∧ W.cell? ⟨x.g, p, none⟩ = some (.pointer (some ⟨bs p, 0, none⟩)) ∧ W.cell? ⟨x.g, v, none⟩ = some (.pointer (some ⟨bs v, 0, none⟩)))
        (first | (with_reducible exact ⟨u0, u1, u2⟩) | (with_reducible exact ⟨hc0, hcp, hcv⟩) | go_keep)
        (first
          | (go_at_call 36
             refine (HST.out w4.drew _ _ _ hD4d h4d).mono ?_
             rintro e w5 ⟨rfl, h5, m5⟩
             have u0 := h5.c0
             have u1 := h5.cp hp
             have u2 := h5.cp hv))
      all_goals (
        have hM5 : ModT lo w w5 := (hM4'.trans (ModT.of0 ((Mod.refl (fun _ => False) w4).drew))).trans m5
        have hD5 : ∀ g, D g → g < w5.heap.size := fun g hg => Nat.lt_of_lt_of_le (hD g hg) hM5.size
        clear hc0 hcp hcv h4 h4d u2 m5
        go_wp2_with fail
        refine (HGT.out _ _ _ _ hD5 h5).mono ?_
        rintro e w6 ⟨rfl, hT⟩
        clear u0 u1 h5
        go_wp2_with fail
        go_ret2
        exact ⟨rfl, hT.1, hM5.trans hT.2⟩))
end

end Go.Proofs.Ytgojfccaohngaaa
