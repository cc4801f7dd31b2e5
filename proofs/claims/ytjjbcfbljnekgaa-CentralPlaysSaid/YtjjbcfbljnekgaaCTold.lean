/-
  treadmilllaw8.told is true.
-/
import Derived.Test.YtjjbcfbljnekgaaCentBegin
import Derived.Test.YtjjbcfbljnekgaaCentAny
namespace Go.Proofs.Ytjjbcfbljnekgaa
open Go.RowKit

theorem cput_yes {w : World} {S : Nat → Prop} {z b : Nat} {L : Nat → List Int} (k : Nat) (id : Int) (f : Bool) (h : Cent w S z b L) (hk : k < 16) (hl : ∀ i, i < 64 → (L i).length ≤ 400000) :
    Calls Try.prog 37 #[.pointer (some ⟨z, 0, none⟩), .int .i64 k, .int .i64 id, .bool f] w (CRet w S z b (cputL L k f id) (.tuple #[])) := by
  cases f
  · exact cput_f k id h hk hl
  · exact cput_t k id h hk hl
/-- An id that stands nowhere is put. -/
theorem cput_new {L : Nat → List Int} {k : Nat} {f : Bool} {id : Int} (h : ∀ j, j < 64 → id ∉ L j) : cputL L k f id = upd L (k * 4 + slot f) (L (k * 4 + slot f) ++ [id]) := by
  rw [cputL, (cdel_no h).2]

theorem upd_mem {L : Nat → List Int} {k : Nat} {l : List Int} {id : Int} {j : Nat} (h1 : id ∉ l) (h2 : id ∉ L j) : id ∉ upd L k l j := by
  by_cases e : j = k
  · subst e; rw [upd_same]; exact h1
  · rw [upd_ne _ _ e]; exact h2
theorem upd_len {L : Nat → List Int} {k : Nat} {l : List Int} {M j : Nat} (h1 : l.length ≤ M) (h2 : (L j).length ≤ M) : (upd L k l j).length ≤ M := by
  by_cases e : j = k
  · subst e; rw [upd_same]; exact h1
  · rw [upd_ne _ _ e]; exact h2

def tL1 : Nat → List Int := upd (fun _ => []) 0 [7]
def tL2 : Nat → List Int := upd tL1 1 [8]
def tL3 : Nat → List Int := cbegL tL2
def tL4 : Nat → List Int := upd tL3 2 []

set_option maxHeartbeats 1000000 in
set_option maxRecDepth 100000 in
theorem told8 (w : World) : Calls Try.prog 42 #[] w fun e w' => e = .returned (.bool true) ∧ Mod (fun _ => False) w w' := by
  have p1 : cputL (fun _ => []) 0 false 7 = tL1 := cput_new (fun _ _ => by simp)
  have p2 : cputL tL1 0 true 8 = tL2 := cput_new (fun j _ => upd_mem (by decide) (by simp))
  have l0 : ∀ i, i < 64 → ((fun _ => [] : Nat → List Int) i).length ≤ 400000 := fun i _ => by simp
  have l1 : ∀ i, i < 64 → (tL1 i).length ≤ 400000 := fun i _ => upd_len (by simp) (by simp)
  have l2' : ∀ i, (tL2 i).length ≤ 1 := fun i => upd_len (by simp) (upd_len (by simp) (by simp))
  have l2 : ∀ i, i < 64 → (tL2 i).length ≤ 400000 := fun i _ => by have := l2' i; omega
  have l3 : ∀ i, i < 64 → (tL3 i).length ≤ 400000 := fun i _ => by have := cbegN_len tL2 32 i; have h1 := l2' i; have h2 := l2' (i - 2); show (cbegN tL2 32 i).length ≤ _; omega
  have l4 : ∀ i, i < 64 → (tL4 i).length ≤ 400000 := fun i hi => upd_len (by simp) (l3 i hi)
  have u3 : cun tL3 16 = 2 := by decide +kernel
  have t1 : ctakeV tL3 0 = (7, true, true) ∧ ctakeL tL3 0 = tL4 := by
    have e0 : tL3 (0 * 4) = [] := by decide +kernel
    have e2 : tL3 (0 * 4 + 2) = [7] := by decide +kernel
    refine ⟨by simp only [ctakeV, e0, e2]; rfl, ?_⟩
    simp only [ctakeL, e0, e2]
    rfl
  have t2 : ctakeV tL4 1 = (0, false, false) ∧ ctakeL tL4 1 = tL4 := by
    have e0 : tL4 (1 * 4) = [] := by decide +kernel
    have e2 : tL4 (1 * 4 + 2) = [] := by decide +kernel
    refine ⟨by simp only [ctakeV, e0, e2]; rfl, ?_⟩
    simp only [ctakeL, e0, e2]
    rfl
  have t3 : clastV tL4 (0 * 4 + 3) = (8, true) := by
    have e0 : tL4 (0 * 4 + 3) = [8] := by decide +kernel
    simp only [clastV, e0]; rfl
  have P1 := Lib.hid p1
  have P2 := Lib.hid p2
  have U3 := Lib.hid u3
  have T1 := Lib.hid t1
  have T2 := Lib.hid t2
  have T3 := Lib.hid t3
  clear p1 p2 u3 t1 t2 t3
  go_enter Try.func42, Try.ntmps42
  go_wp2_with fail
  refine (cnew _).mono ?_
  rintro e w1 ⟨z, b, S1, rfl, h1, hS1, m1⟩
  go_wp2_with fail
  refine (cput_yes 0 7 false h1 (by omega) l0).mono ?_
  rintro e w2 ⟨rfl, S2, h2, hS2, m2⟩
  rw [P1.out] at h2
  go_wp2_with fail
  refine (cput_yes 0 8 true h2 (by omega) l1).mono ?_
  rintro e w3 ⟨rfl, S3, h3, hS3, m3⟩
  rw [P2.out] at h3
  go_wp2_with fail
  refine (cbegin_any h3 l2).mono ?_
  rintro e w4 ⟨rfl, S4, h4, hS4, m4⟩
  have h4' : Cent w4 S4 z b tL3 := h4
  go_wp2_with fail
  refine (cun_any h4' l3).mono ?_
  rintro e w5 ⟨rfl, m5⟩
  have h5 := h4'.keep0 m5
  rw [U3.out]
  go_wp2_with fail
  refine (ctake_any 0 h5 (by omega) l3).mono ?_
  rintro e w6 ⟨rfl, S6, h6, hS6, m6⟩
  rw [T1.out.2] at h6
  rw [T1.out.1, tup3]
  go_wp2_with fail
  refine (ctake_any 1 h6 (by omega) l4).mono ?_
  rintro e w7 ⟨rfl, S7, h7, hS7, m7⟩
  rw [T2.out.2] at h7
  rw [T2.out.1, tup3]
  go_wp2_with fail
  refine (cfull_any 0 h7 (by omega) l4).mono ?_
  rintro e w8 ⟨rfl, S8, h8, hS8, m8⟩
  rw [T3.out, tup2]
  go_wp2
  go_ret
  have q2 : ∀ i, S2 i → w.heap.size ≤ i := fun i hi => by
    have := m1.size
    rcases hS2 i hi with h | h
    · exact hS1 i h
    · omega
  have mm2 := m1.new m2 hS1
  have q3 : ∀ i, S3 i → w.heap.size ≤ i := fun i hi => by
    have := mm2.size
    rcases hS3 i hi with h | h
    · exact q2 i h
    · omega
  have mm3 := mm2.new m3 q2
  have q4 : ∀ i, S4 i → w.heap.size ≤ i := fun i hi => by
    have := mm3.size
    rcases hS4 i hi with h | h
    · exact q3 i h
    · omega
  have mm5 := (mm3.new m4 q3).trans m5
  have q6 : ∀ i, S6 i → w.heap.size ≤ i := fun i hi => by
    have := mm5.size
    rcases hS6 i hi with h | h
    · exact q4 i h
    · omega
  have mm6 := mm5.new m6 q4
  have q7 : ∀ i, S7 i → w.heap.size ≤ i := fun i hi => by
    have := mm6.size
    rcases hS7 i hi with h | h
    · exact q6 i h
    · omega
  exact ⟨rfl, (mm6.new m7 q6).new m8 q7⟩

end Go.Proofs.Ytjjbcfbljnekgaa
