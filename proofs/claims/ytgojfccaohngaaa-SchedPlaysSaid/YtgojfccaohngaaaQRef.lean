/-
  The contract of the reference's queue's Get (treadmillref10.Queue).
-/
import Derived.Test.YtgojfccaohngaaaArr
import Derived.Test.YtgojfccaohngaaaQueue
namespace Go.Proofs.Ytgojfccaohngaaa
open Go.RowKit

section
variable {P : Program}
/-- xs[:k]. -/
theorem cut_high (t : TypeId) (ht : P.underlying t = some (.slice 3)) (hinfo : (P.info? 3).map (fun i => (i.zero, i.size, i.bytes)) = some (some (.int .i64 0), 1, 8))
    (A : Option Addr) (n c k : Nat) (hk : k ≤ c) (W : World) : (Instr.sliceAt t (.slice A n c) none (some (.int .i64 (k : Int))) none).run P W = .ok (.slice A k c) W := by
  obtain ⟨i, hi, hzz⟩ := Option.map_eq_some_iff.1 hinfo
  simp only [Prod.mk.injEq] at hzz
  obtain ⟨_, hsz, _⟩ := hzz
  have he : P.elem t = 3 := by simp [Program.elem, ht]
  have ht' : P.underlying t = some (.slice (P.elem t)) := by rw [he]; exact ht
  rw [run_sliceAt_slice W t _ _ _ _ ht', run_slice_h W t A n c ht' .i64 (k : Int) (by omega) (by omega), he]
  cases A with
  | none => simp [sizeOf, typeInfo, hi, hsz, sliced]
  | some a => simp [sizeOf, typeInfo, hi, hsz, sliced, Addr.add]
end

def RqP (r : Nat) (L : List Int) (w : World) (T : Nat → Prop) : Prop := ArrR 1 42 w T r (fun _ => L)
theorem rq_upd (L' L : List Int) : ∀ i, i < 1 → upd (fun _ => L') 0 L i = (fun _ => L) i := fun i hi => by
  obtain rfl : i = 0 := by omega
  exact upd_same _ _ _

set_option maxHeartbeats 400000 in
set_option maxRecDepth 100000 in
theorem rqget {w : World} {T : Nat → Prop} {r : Nat} {L : List Int} (h : RqP r L w T) (ps most : Int) (hb : L.length ≤ 900000) (hps : ps < 9223372036854775808) (hmost : most < 9223372036854775808) :
    Calls Try.prog 28 #[.pointer (some ⟨r, 0, none⟩), .int .i64 ps, .int .i64 most] w fun e w' => ∃ A n c, e = .returned (.slice A n c) ∧ IsL w' A n c (L.take (qtake L.length ps most)) ∧
      ∃ T', RqP r (L.drop (qtake L.length ps most)) w' T' ∧ (∀ i, T' i → T i ∨ w.heap.size ≤ i) ∧ Mod T w w' := by
  obtain ⟨A, n, c, hc, hL, hfz, hty, hSA⟩ := ArrR.cell (k := 0) h (by omega)
  rw [hL.len] at hb ⊢
  obtain ⟨p, hp⟩ : ∃ p : Nat, max ps 1 = (p : Int) := ⟨(max ps 1).toNat, by omega⟩
  obtain ⟨M, hM⟩ : ∃ M : Nat, max most 0 = (M : Int) := ⟨(max most 0).toNat, by omega⟩
  have hp1 : 1 ≤ p := by omega
  obtain ⟨Q, hQ⟩ : ∃ Q : Nat, (n : Int) / (p : Int) = (Q : Int) := ⟨n / p, by simp⟩
  have hQn : Q ≤ n := by
    have h1 : Q = n / p := by omega
    rw [h1]; exact Nat.div_le_self _ _
  obtain ⟨N, hN⟩ : ∃ N, N = qtake n ps most := ⟨_, rfl⟩
  have hNn : N ≤ n := by rw [hN]; unfold qtake; omega
  have hmin := run_min_int4 (P := Try.prog) #[3, 3, 3, 3] 3 ((Q : Int) + 1) (M : Int) 128 (n : Int) (N : Int) (by
    rw [hN]; unfold qtake
    rw [hp, hM]
    have h1 : Q = n / p := by omega
    simp only [Int.toNat_natCast]
    rw [← h1]
    omega)
  rw [← hN]
  have hnc := hL.le
  obtain ⟨A4, n4, c4, hcut, hL4, hblk4⟩ := cut_low (P := Try.prog) 27 Try.underlying27 int_info A n c N hNn
  have hcut2 := cut_high (P := Try.prog) 27 Try.underlying27 int_info A n c N (by omega)
  have hlt := ArrR.lt h r (ArrR.inS h)
  have t4 : TyL w A4 := fun q hq => hty q (by rw [← hblk4]; exact hq)
  obtain ⟨T', a1, a2, a3⟩ := ArrR.set (k := 0) h (by omega) (Mod.refl (fun _ => False) w) (hL4 w L hL) t4 (fun q hq => .inl (hSA q (by rw [← hblk4]; exact hq)))
  have hne : ∀ d, A = some d → ¬ d.block = r := by
    intro d hd e
    obtain ⟨ht, B, n', c', hrow, _⟩ := h
    exact hty.ne hrow ht d.block (by rw [hd]; rfl) e
  have hLs : IsL (w.setCell ⟨r, 0, none⟩ (.slice A4 n4 c4)) A N c (L.take N) := (hL.take hNn).keep (Mod.setCell (Mod.refl (fun i => i = r) w) (p := ⟨r, 0, none⟩) (.inl rfl) _) hne
  clear hN hps hmost hL
  go_enter Try.func28, Try.ntmps28
  go_wp2
  go_ret
  exact ⟨A, N, c, rfl, hLs, T', a1.congr (rq_upd _ _), a2, a3⟩

end Go.Proofs.Ytgojfccaohngaaa
