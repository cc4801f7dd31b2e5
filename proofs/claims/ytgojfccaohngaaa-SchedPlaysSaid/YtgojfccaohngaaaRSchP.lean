/-
  The contract of the reference's queue's Get at its place inside the scheduler.
-/
import Derived.Test.YtgojfccaohngaaaRSchA
import Derived.Test.YtgojfccaohngaaaSchL
set_option linter.unusedSimpArgs false
namespace Go.Proofs.Ytgojfccaohngaaa
open Go.RowKit

set_option maxHeartbeats 400000 in
set_option maxRecDepth 100000 in
theorem rqget2 {w : World} {b : Nat} {A : Option Addr} {n c : Nat} {L : List Int} (hc : w.cell? ⟨b, 1, none⟩ = some (.slice A n c)) (hL : IsL w A n c L) (hfz : w.frozen? ⟨b, 1, none⟩ = false) (_ : b < w.heap.size)
    (ps most : Int) (hb : L.length ≤ 900000) (hps : ps < 9223372036854775808) (hmost : most < 9223372036854775808) :
    Calls Try.prog 28 #[.pointer (some ⟨b, 1, none⟩), .int .i64 ps, .int .i64 most] w fun e w' => ∃ A4 n4 c4, e = .returned (.slice A (qtake L.length ps most) c) ∧ w' = w.setCell ⟨b, 1, none⟩ (.slice A4 n4 c4) ∧ (∀ W, IsL W A n c L → IsL W A4 n4 c4 (L.drop (qtake L.length ps most))) ∧ blk A4 = blk A := by
  rw [hL.len] at hb ⊢
  obtain ⟨p, hp⟩ : ∃ p : Nat, max ps 1 = (p : Int) := ⟨(max ps 1).toNat, by omega⟩
  obtain ⟨M, hM⟩ : ∃ M : Nat, max most 0 = (M : Int) := ⟨(max most 0).toNat, by omega⟩
  have hp1 : 1 ≤ p := by omega
  obtain ⟨Q, hQ⟩ : ∃ Q : Nat, (n : Int) / (p : Int) = (Q : Int) := ⟨n / p, by simp⟩
  have hQn : Q ≤ n := by
    have h1 : Q = n / p := by omega
    rw [h1]; exact Nat.div_le_self _ _
  obtain ⟨N, hN⟩ : ∃ N, N = qtake n ps most := ⟨_, rfl⟩
  have hNn : N ≤ n := by rw [hN]; unfold qtake; omega
  have hmin := run_min_int4 (P := Try.prog) #[3, 3, 3, 3] 3 ((Q : Int) + 1) (M : Int) 128 (n : Int) (N : Int) (by
    rw [hN]; unfold qtake
    rw [hp, hM]
    have h1 : Q = n / p := by omega
    simp only [Int.toNat_natCast]
    rw [← h1]
    omega)
  rw [← hN]
  have hnc := hL.le
  obtain ⟨A4, n4, c4, hcut, hL4, hblk4⟩ := cut_low (P := Try.prog) 27 Try.underlying27 int_info A n c N hNn
  have hcut2 := cut_high (P := Try.prog) 27 Try.underlying27 int_info A n c N (by omega)
  have HL4 := Lib.hid (fun W h => hL4 W L h)
  have HB4 := Lib.hid hblk4
  clear hN hps hmost hL hL4 hblk4
  go_enter Try.func28, Try.ntmps28
  go_wp2
  go_ret
  exact ⟨A4, n4, c4, rfl, rfl, HL4.out, HB4.out⟩

theorem rs_qget {x : RA} {lo : Nat} {D : Nat → Prop} {w : World} {bs : Nat → Nat} {f : Nat → Value} {A : Option Addr} {n c : Nat} {R : Nat → RM} {Q : List Int} (h : RSI x lo D w bs f A n c R Q) (ps most : Int)
    (hb : Q.length ≤ 900000) (hps : ps < 9223372036854775808) (hmost : most < 9223372036854775808) :
    Calls Try.prog 28 #[.pointer (some ⟨x.s, 1, none⟩), .int .i64 ps, .int .i64 most] w fun e w' => ∃ A4 n4 c4, e = .returned (.slice A (qtake Q.length ps most) c) ∧ RSI x lo D w' bs f A4 n4 c4 R (Q.drop (qtake Q.length ps most)) ∧
      IsL w' A (qtake Q.length ps most) c (Q.take (qtake Q.length ps most)) ∧ TyL w' A ∧ ModT lo w w' := by
  refine (rqget2 h.c1 h.q (h.row.frozen 1) h.row.lt ps most hb hps hmost).mono ?_
  rintro e w' ⟨A4, n4, c4, he, rfl, hL4, hb4⟩
  have h8 := h.q.len
  have h9 : qtake Q.length ps most ≤ n := by unfold qtake; omega
  exact ⟨A4, n4, c4, he, h.setQ (hL4 _ h.q) (h.ty.of_blk hb4), (h.q.take h9).set h.ty.ty h.row (by decide), h.ty.ty.set h.row (by decide), h.mod_s _ 1⟩

end Go.Proofs.Ytgojfccaohngaaa
