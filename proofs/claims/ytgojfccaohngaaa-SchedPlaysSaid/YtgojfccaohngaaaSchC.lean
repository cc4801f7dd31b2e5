/-
  The contracts of package sched, third part: the functions that Pick makes.
-/
import Derived.Test.YtgojfccaohngaaaSchA
import Derived.Deep.RegionHeld3
import Derived.IntWalk
set_option linter.unusedSimpArgs false
namespace Go.Proofs.Ytgojfccaohngaaa
open Go.RowKit

/-- Does a pick look at the queue first? -/
def Fair (tick : Int) (Q : List Int) : Prop := ¬ tick = 0 ∧ tick.tmod 61 = 0 ∧ Q ≠ []

section
variable {a : SA} {w : World} {o : Option Nat} {R : Nat → RM} {Q : List Int}

set_option maxHeartbeats 400000 in
theorem fair_no (h : Sch a w o R Q) (tb sb : Nat) (tick : Int) (ht : w.cell? ⟨tb, 0, none⟩ = some (.int .i64 tick)) (hs : w.cell? ⟨sb, 0, none⟩ = some (.pointer (some ⟨a.s, 0, none⟩))) (hf : ¬ Fair tick Q) :
    Calls Try.prog 66 #[.pointer (some ⟨tb, 0, none⟩), .pointer (some ⟨sb, 0, none⟩)] w fun e w' => e = .returned (.tuple #[.int .i64 0, .bool false]) ∧ w' = w := by
  by_cases h0 : tick = 0
  · subst h0
    clear hf
    go_enter Try.func66, Try.ntmps66
    go_wp2
    go_ret2
    exact ⟨rfl, rfl⟩
  · have e0 : (tick == 0) = false := by simpa using h0
    obtain ⟨z, hz⟩ : ∃ z, tick.tmod 61 = z := ⟨_, rfl⟩
    by_cases h1 : z = 0
    · have e1 : (z != 0) = false := by simpa using h1
      have hQ : Q = [] := by
        by_cases hQ : Q = []
        · exact hQ
        · exact absurd ⟨h0, by rw [hz]; exact h1, hQ⟩ hf
      have e2 : ((Q.length : Int) == 0) = true := by rw [hQ]; rfl
      have hc1 := h.c1
      have hlen := qlen_any a.qb o Q w h.queue
      generalize hL : (Q.length : Int) = L at e2 hlen
      have HL := Lib.hid hL
      clear hf h0 h1 hQ hL
      go_enter Try.func66, Try.ntmps66
      go_wp2_with fail
      refine hlen.mono ?_
      rintro e w1 ⟨rfl, hw⟩
      obtain rfl := hw.symm
      go_wp2
      go_ret2
      exact ⟨rfl, rfl⟩
    · have e1 : (z != 0) = true := by simpa using h1
      clear hf h0 h1
      go_enter Try.func66, Try.ntmps66
      go_wp2
      go_ret2
      exact ⟨rfl, rfl⟩

theorem qtake_one (n : Nat) (h : 0 < n) : qtake n 1 1 = 1 := by
  unfold qtake
  have e : (max (1 : Int) 1).toNat = 1 := rfl
  have e2 : (max (1 : Int) 0).toNat = 1 := rfl
  rw [e, e2]
  omega

set_option maxHeartbeats 400000 in
theorem fair_yes (x : Int) (L : List Int) (h : Sch a w o R (x :: L)) (tb sb : Nat) (tick : Int) (ht : w.cell? ⟨tb, 0, none⟩ = some (.int .i64 tick)) (hs : w.cell? ⟨sb, 0, none⟩ = some (.pointer (some ⟨a.s, 0, none⟩)))
    (h0 : ¬ tick = 0) (h1 : tick.tmod 61 = 0) (hb : L.length ≤ 700000) :
    Calls Try.prog 66 #[.pointer (some ⟨tb, 0, none⟩), .pointer (some ⟨sb, 0, none⟩)] w fun e w' => e = .returned (.tuple #[.int .i64 x, .bool true]) ∧ To a o w w' R L := by
  have e0 : (tick == 0) = false := by simpa using h0
  obtain ⟨z, hz⟩ : ∃ z, tick.tmod 61 = z := ⟨_, rfl⟩
  have e1 : (z != 0) = false := by rw [hz] at h1; simpa using h1
  have e2 : (((x :: L).length : Int) == 0) = false := by rw [beq_eq_false_iff_ne]; simp; omega
  have hc1 := h.c1
  have hlen := qlen_any a.qb o (x :: L) w h.queue
  have hget := qget_any a.qb o (x :: L) 1 1 w h.queue (by simp; omega) (by omega) (by omega)
  rw [qtake_one _ (by simp)] at hget
  generalize hL : ((x :: L).length : Int) = N at e2 hlen
  have HL := Lib.hid hL
  have HG := Lib.hid hget
  clear h0 h1 hL hb hget
  go_enter Try.func66, Try.ntmps66
  go_wp2_with fail
  refine hlen.mono ?_
  rintro e w1 ⟨rfl, hw⟩
  obtain rfl := hw.symm
  clear hw
  go_wp2_with fail
  refine HG.out.mono ?_
  rintro e w2 ⟨A, n, c, rfl, hA, ⟨o', hq, hn, _⟩, m2⟩
  have hA1 : IsL w2 A n c [x] := hA
  have hT := h.queueTo (Q' := L) hq (fun k hk => .inr (hn k hk)) (m2.mono (fun i _ e => .inl e))
  obtain rfl : n = 1 := hA1.len.symm
  obtain ⟨g, oo, rfl, hx⟩ := hA1.at_ (k := 0) (by omega)
  have hx' : w2.cell? ⟨g, oo, none⟩ = some (.int .i64 x) := hx
  clear hx hA hA1 hq hn
  go_wp2
  go_ret2
  exact ⟨rfl, hT⟩

theorem qtake_le (n ps : Nat) (m : Int) : qtake n ps m ≤ n := by unfold qtake; omega
theorem qtake_64 (n ps : Nat) : qtake n ps 64 ≤ 64 := by
  unfold qtake
  have e : (max (64 : Int) 0).toNat = 64 := rfl
  rw [e]
  omega
theorem qtake_pos (n ps : Nat) (h : 0 < n) : 0 < qtake n ps 64 := by
  unfold qtake
  have e : (max (64 : Int) 0).toNat = 64 := rfl
  rw [e]
  have h2 := Nat.zero_le (n / (max (ps : Int) 1).toNat)
  generalize n / (max (ps : Int) 1).toNat = q at h2 ⊢
  omega

set_option maxHeartbeats 400000 in
theorem part_no (h : Sch a w o R []) (sb rb : Nat) (hs : w.cell? ⟨sb, 0, none⟩ = some (.pointer (some ⟨a.s, 0, none⟩))) (hsb : ¬ SS a o sb) (hsl : sb < w.heap.size) :
    Calls Try.prog 67 #[.pointer (some ⟨sb, 0, none⟩), .pointer (some ⟨rb, 0, none⟩)] w fun e w' => e = .returned (.tuple #[.int .i64 0, .bool false]) ∧ To a o w w' R [] := by
  have hc0 := h.c0
  have hc1 := h.c1
  have hpm := h.most
  have hd : Sch a w.drew o R [] := h.keep0 ((Mod.refl _ w).drew)
  go_enter Try.func67, Try.ntmps67
  go_wp2_with fail
  go_region_held3 (fun W => W.cell? ⟨sb, 0, none⟩ = some (.pointer (some ⟨a.s, 0, none⟩)) ∧ W.cell? ⟨a.s, 0, none⟩ = some (.slice (some ⟨a.g, 0, none⟩) a.ps a.c) ∧ W.cell? ⟨a.s, 1, none⟩ = some (.pointer (some ⟨a.qb, 0, none⟩)))
    (first | (with_reducible exact ⟨t2, t0, t1⟩) | (with_reducible exact ⟨hs, hc0, hc1⟩) | go_keep)
    (first
      | (go_at_call 19
         refine (qget_any a.qb o [] a.ps 64 _ hd.queue (by simp) (by omega) (by omega)).mono ?_
         rintro e w3 ⟨A3, n3, k3, rfl, hA3, ⟨o', hq3, hn3, _⟩, m3⟩
         have hT : To a o w w3 R [] := To.ahead (hd.queueTo (Q' := []) (by simpa using hq3) (fun k hk => .inr (hn3 k hk)) (m3.mono (fun i _ e => .inl e))) ((Mod.refl _ w).drew)
         have h3 := hd.onQueue hq3 (m3.mono (fun i _ e => .inl e))
         have t0 := h3.c0
         have t1 := h3.c1
         have t2 : w3.cell? ⟨sb, 0, none⟩ = some (.pointer (some ⟨a.s, 0, none⟩)) := (m3.cell (p := ⟨sb, 0, none⟩) hsl (fun e => hsb (.inr (.inr (.inl (.inl e)))))).trans hs))
  all_goals (
    obtain rfl : n3 = 0 := by have := hA3.len; simp at this; omega
    clear hA3 hq3 hn3 h3 t0 t1 t2 m3
    go_wp2
    go_ret2
    exact ⟨rfl, hT⟩)

theorem To.trans1 {w1 w2 : World} {o1 : Option Nat} {R2 : Nat → RM} {Q2 : List Int} (h2 : ∀ k, o1 = some k → o = some k ∨ w.heap.size ≤ k) (h3 : Mod (SS a o) w w1) (k : To a o1 w1 w2 R2 Q2) : To a o w w2 R2 Q2 := by
  obtain ⟨o2, k1, k2, k3⟩ := k
  have hs := h3.size
  refine ⟨o2, k1, fun i hi => ?_, h3.trans' k3 (fun i hi hS => ?_)⟩
  · rcases k2 i hi with e | e
    · exact h2 i e
    · exact .inr (by omega)
  · rcases hS with e | e | (e | e) | e
    · exact .inl e
    · exact .inr (.inl e)
    · exact .inr (.inr (.inl (.inl e)))
    · rcases h2 i e with e2 | e2
      · exact .inr (.inr (.inl (.inr e2)))
      · omega
    · exact .inr (.inr (.inr e))

set_option maxHeartbeats 2000000 in
theorem part_yes (x : Int) (L : List Int) (h : Sch a w o R (x :: L)) (p : Nat) (hp : p < a.ps) (hR : R p = ([], none)) (sb rb : Nat) (hs : w.cell? ⟨sb, 0, none⟩ = some (.pointer (some ⟨a.s, 0, none⟩)))
    (hr : w.cell? ⟨rb, 0, none⟩ = some (.pointer (some ⟨a.bs p, 0, none⟩))) (hb : L.length ≤ 700000) (hsb : ¬ SS a o sb) (hsl : sb < w.heap.size) (hrb : ¬ SS a o rb) (hrl : rb < w.heap.size) :
    Calls Try.prog 67 #[.pointer (some ⟨sb, 0, none⟩), .pointer (some ⟨rb, 0, none⟩)] w fun e w' => e = .returned (.tuple #[.int .i64 x, .bool true]) ∧
      To a o w w' (upd R p (((x :: L).take (qtake (x :: L).length a.ps 64)).tail, none)) ((x :: L).drop (qtake (x :: L).length a.ps 64)) := by
  have hc0 := h.c0
  have hc1 := h.c1
  have hpm := h.most
  have hd : Sch a w.drew o R (x :: L) := h.keep0 ((Mod.refl _ w).drew)
  have hget := qget_any a.qb o (x :: L) a.ps 64 w.drew hd.queue (by simp; omega) (by omega) (by omega)
  have hN1 := qtake_le (x :: L).length a.ps 64
  have hN2 := qtake_64 (x :: L).length a.ps
  have hN3 := qtake_pos (x :: L).length a.ps (by simp)
  generalize qtake (x :: L).length a.ps 64 = N at hget hN1 hN2 hN3 ⊢
  have hQ2 : ((x :: L).drop N).length ≤ 900000 := by rw [List.length_drop, List.length_cons]; omega
  generalize (x :: L).drop N = Q2 at hget hQ2 ⊢
  have hM : ∃ M, (x :: L).take N = x :: M ∧ M.length + 1 = N := ⟨L.take (N - 1), by
    obtain ⟨k, rfl⟩ : ∃ k, N = k + 1 := ⟨N - 1, by omega⟩
    rw [List.take_succ_cons, Nat.add_sub_cancel], by rw [List.length_take]; simp at hN1; omega⟩
  obtain ⟨M, hM1, hM2⟩ := hM
  rw [hM1] at hget ⊢
  rw [List.tail_cons]
  have HG := Lib.hid hget
  have HR := Lib.hid hR
  have HM := Lib.hid hM2
  clear hget hM1 hN1 hb h hR hM2
  go_enter Try.func67, Try.ntmps67
  go_wp2_with fail
  go_region_held3 (fun W => W.cell? ⟨sb, 0, none⟩ = some (.pointer (some ⟨a.s, 0, none⟩)) ∧ W.cell? ⟨a.s, 0, none⟩ = some (.slice (some ⟨a.g, 0, none⟩) a.ps a.c) ∧ W.cell? ⟨a.s, 1, none⟩ = some (.pointer (some ⟨a.qb, 0, none⟩)))
    (first | (with_reducible exact ⟨t2, t0, t1⟩) | (with_reducible exact ⟨hs, hc0, hc1⟩) | go_keep)
    (first
      | (go_at_call 19
         refine HG.out.mono ?_
         rintro e w3 ⟨A3, n3, k3, rfl, hA3, ⟨o', hq3, hn3, hA4⟩, m3⟩
         have h3 := hd.onQueue hq3 (m3.mono (fun i _ e => .inl e))
         have t0 := h3.c0
         have t1 := h3.c1
         have t2 : w3.cell? ⟨sb, 0, none⟩ = some (.pointer (some ⟨a.s, 0, none⟩)) := (m3.cell (p := ⟨sb, 0, none⟩) hsl (fun e => hsb (.inr (.inr (.inl (.inl e)))))).trans hs))
  all_goals (
    obtain rfl : n3 = N := by have h8 := hA3.len; have h9 := HM.out; rw [List.length_cons] at h8; omega
    have hstart : ∃ o', Sch a w3 o' (upd R p ((M.take 0), none)) Q2 ∧ (∀ k, o' = some k → o = some k ∨ w.heap.size ≤ k) ∧ Mod (SS a o) w w3 ∧ IsL w3 A3 n3 k3 (x :: M) ∧ (∀ d, A3 = some d → ¬ SS a o' d.block) := by
      refine ⟨o', h3.congr (fun i _ => ?_), fun k hk => .inr (hn3 k hk), (((Mod.refl _ w).drew).trans m3).mono (fun i _ e => .inr (.inr (.inl (.inl e)))), hA3, fun d hd2 hS => ?_⟩
      · by_cases e : i = p
        · rw [e, upd_same, HR.out]; rfl
        · rw [upd_ne _ _ e]
      · have h9 : w.heap.size ≤ d.block := (hA4 d hd2).1
        have hlt := fun k hk => hd.lt k hk
        have hlt2 : ∀ k, SS a o k → k < w.heap.size := hlt
        rcases hS with e | e | (e | e) | e
        · have := hlt2 _ (.inl e); omega
        · have := hlt2 _ (.inr (.inl e)); omega
        · have := hlt2 _ (.inr (.inr (.inl (.inl e)))); omega
        · exact (hA4 d hd2).2 e
        · have := hlt2 _ (.inr (.inr (.inr e))); omega
    have hnz : ((n3 : Int) == 0) = false := by rw [beq_eq_false_iff_ne]; omega
    have hle3 := hA3.le
    obtain ⟨A4, n4, c4, hcut, hL4, _⟩ := cut_low (P := Try.prog) 27 Try.underlying27 int_info A3 n3 k3 1 (by omega)
    have hcut' : ∀ (W : World), (Instr.sliceAt 27 (.slice A3 n3 k3) (some (.int .i64 1)) none none).run Try.prog W = .ok (.slice A4 n4 c4) W := hcut
    have hn4 : n4 = M.length := by have h4 := (hL4 w3 _ hA3).len; rw [List.drop_succ_cons, List.drop_zero] at h4; exact h4.symm
    have hn4b : n4 ≤ 64 := by have h9 := HM.out; omega
    have HN4 := Lib.hid hn4
    clear hA3 h3 t0 t1 t2 hq3 hn3 m3 hA4 hcut hn4
    go_wp2_with fail
    go_loopw [23] (fun i wr => ∃ k : Nat, k ≤ n4 ∧ i = .int .i64 k ∧ ∃ o', Sch a wr o' (upd R p ((M.take k), none)) Q2 ∧ (∀ k, o' = some k → o = some k ∨ w.heap.size ≤ k) ∧ Mod (SS a o) w wr ∧ IsL wr A3 n3 k3 (x :: M) ∧ (∀ d, A3 = some d → ¬ SS a o' d.block))
      (fun i _ => n4 - (intOf i).toNat)
    case atStart => exact ⟨0, by omega, rfl, hstart⟩
    case round =>
      clear hstart hcut'
      obtain ⟨k, hk, rfl, o1, hS, ho1, hM1, hA3, hA4⟩ := hrel
      by_cases hk2 : k < n4
      · obtain ⟨y, _, e2, e3⟩ := drop_cons M (k := k) (by rw [← HN4.out]; exact hk2)
        obtain ⟨g, oo, rfl, hy⟩ := (hL4 wr _ hA3).at_ hk2
        rw [List.drop_succ_cons, List.drop_zero, e3] at hy
        have E2 := Lib.hid e2
        clear e2 e3
        have hsb' : wr.cell? ⟨sb, 0, none⟩ = some (.pointer (some ⟨a.s, 0, none⟩)) := (hM1.cell (p := ⟨sb, 0, none⟩) hsl hsb).trans hs
        have hrb' : wr.cell? ⟨rb, 0, none⟩ = some (.pointer (some ⟨a.bs p, 0, none⟩)) := (hM1.cell (p := ⟨rb, 0, none⟩) hrl hrb).trans hr
        have hc1' := hS.c1
        have hi0 : (0 : Int) ≤ (k : Int) := by omega
        have hi1 : (k : Int) < (n4 : Int) := by omega
        have hSd : Sch a wr.drew o1 (upd R p ((M.take k), none)) Q2 := hS.keep0 ((Mod.refl _ wr).drew)
        have hrg := hSd.ring p hp
        rw [upd_same] at hrg
        have hrg' : Ring wr.drew (a.bs p) (M.take k) none := hrg
        have htk : (M.take k).length < 256 := by rw [List.length_take]; omega
        clear hrg
        go_wp2_with fail
        go_region_held3 (fun W => W.cell? ⟨sb, 0, none⟩ = some (.pointer (some ⟨a.s, 0, none⟩)) ∧ W.cell? ⟨a.s, 1, none⟩ = some (.pointer (some ⟨a.qb, 0, none⟩)) ∧ W.cell? ⟨rb, 0, none⟩ = some (.pointer (some ⟨a.bs p, 0, none⟩)))
          (first | (with_reducible exact ⟨u0, u1, u2⟩) | (with_reducible exact ⟨t0, t1, t2⟩) | (with_reducible exact ⟨hsb', hc1', hrb'⟩) | go_keep)
          (first
            | (go_at_call 17
               have _t := hA5
               refine (qput_any a.qb o1 Q2 A5 0 k5 [] _ h5.queue hA5 (by omega)).mono ?_
               rintro e w6 ⟨rfl, o6, hq6, hn6, m6⟩
               rw [List.append_nil] at hq6
               have h6 := h5.onQueue hq6 m6
               have hT := To.two hSd hp (E := (M.take k ++ [y], none)) hr5 m5 hq6 hn6 m6
               have nQ : ∀ b, ¬ SS a o b → b < w.heap.size → ¬ QS a.qb o1 b := by
                 rintro b hb1 hb2 (e | e)
                 · exact hb1 (.inr (.inr (.inl (.inl e))))
                 · rcases ho1 b e with e2 | e2
                   · exact hb1 (.inr (.inr (.inl (.inr e2))))
                   · omega
               have u0 : w6.cell? ⟨sb, 0, none⟩ = some (.pointer (some ⟨a.s, 0, none⟩)) := (m6.cell (p := ⟨sb, 0, none⟩) hsl5 (nQ sb hsb hsl)).trans t0
               have u1 := h6.c1
               have u2 : w6.cell? ⟨rb, 0, none⟩ = some (.pointer (some ⟨a.bs p, 0, none⟩)) := (m6.cell (p := ⟨rb, 0, none⟩) hrl5 (nQ rb hrb hrl)).trans t2)
            | (go_at_call 22
               refine (put_any (a.bs p) y false (M.take k) none _ hrg').mono ?_
               rintro e w5 ⟨A5, n5, k5, rfl, hr5, hA5, _, m5⟩
               rw [rput_room _ _ _ htk] at hr5 hA5
               obtain rfl : n5 = 0 := hA5.len.symm
               have h5 : Sch a w5 o1 (upd (upd R p ((M.take k), none)) p (M.take k ++ [y], none)) Q2 := hSd.onRing hp (E := (M.take k ++ [y], none)) hr5 m5
               have sz5 : wr.heap.size ≤ w5.heap.size := m5.size
               have hsl5 : sb < w5.heap.size := by have := hM1.size; omega
               have hrl5 : rb < w5.heap.size := by have := hM1.size; omega
               have t0 : w5.cell? ⟨sb, 0, none⟩ = some (.pointer (some ⟨a.s, 0, none⟩)) := (m5.cell (p := ⟨sb, 0, none⟩) (Nat.lt_of_lt_of_le hsl hM1.size) (fun e => hsb (.inr (.inr (.inr ⟨p, hp, e⟩))))).trans hsb'
               have t1 := h5.c1
               have t2 : w5.cell? ⟨rb, 0, none⟩ = some (.pointer (some ⟨a.bs p, 0, none⟩)) := (m5.cell (p := ⟨rb, 0, none⟩) (Nat.lt_of_lt_of_le hrl hM1.size) (fun e => hrb (.inr (.inr (.inr ⟨p, hp, e⟩))))).trans hrb'))
        all_goals (
          have hT' : To a o1 wr w6 (upd R p (M.take (k + 1), none)) Q2 := by
            obtain ⟨o7, k1, k2, k3⟩ := To.ahead (w1 := wr.drew) hT ((Mod.refl _ wr).drew)
            refine ⟨o7, k1.congr (fun i _ => ?_), k2, k3⟩
            by_cases e : i = p
            · rw [e, upd_same, upd_same, E2.out]
            · rw [upd_ne _ _ e, upd_ne _ _ e, upd_ne _ _ e]
          have hR7 : ∃ o', Sch a w6 o' (upd R p (M.take (k + 1), none)) Q2 ∧ (∀ k, o' = some k → o = some k ∨ w.heap.size ≤ k) ∧ Mod (SS a o) w w6 ∧ IsL w6 A3 n3 k3 (x :: M) ∧ (∀ d, A3 = some d → ¬ SS a o' d.block) := by
            obtain ⟨o7, q1, q2, q3⟩ := hT'
            obtain ⟨o8, r1, r2, r3⟩ := To.trans1 ho1 hM1 ⟨o7, q1, q2, q3⟩
            refine ⟨o7, q1, fun j hj => ?_, r3, hA3.keep q3 hA4, fun d hd2 hSS => ?_⟩
            · rcases q2 j hj with e | e
              · exact ho1 j e
              · have := hM1.size; exact .inr (by omega)
            · rcases hSS with e | e | (e | e) | e
              · exact hA4 d hd2 (.inl e)
              · exact hA4 d hd2 (.inr (.inl e))
              · exact hA4 d hd2 (.inr (.inr (.inl (.inl e))))
              · rcases q2 _ e with e2 | e2
                · exact hA4 d hd2 (.inr (.inr (.inl (.inr e2))))
                · have := hA3.lt d hd2; omega
              · exact hA4 d hd2 (.inr (.inr (.inr e)))
          clear hT hT' h5 h6 hr5 hA5 m5 hq6 hn6 m6 t0 t1 t2 u0 u1 u2 nQ hsl5 hrl5 sz5 hS hA3 hM1 hsb' hrb' hc1' hSd hrg'
          go_wp2_with fail
          go_roundw
          case rel => exact ⟨k + 1, by omega, by go_num, hR7⟩
          case measure => simp [intOf]; omega)
      · obtain ⟨g, oo, rfl, hy⟩ := hA3.at_ (k := 0) (by omega)
        have hx' : wr.cell? ⟨g, oo, none⟩ = some (.int .i64 x) := hy
        have hTf : To a o w wr (upd R p (M, none)) Q2 := by
          have e : M.take k = M := List.take_of_length_le (by rw [← HN4.out]; omega)
          rw [e] at hS
          exact ⟨o1, hS, ho1, hM1⟩
        clear hy hA3 hA4 hS
        go_wp2_with fail
        go_ret2
        exact ⟨rfl, hTf⟩)
end

end Go.Proofs.Ytgojfccaohngaaa
