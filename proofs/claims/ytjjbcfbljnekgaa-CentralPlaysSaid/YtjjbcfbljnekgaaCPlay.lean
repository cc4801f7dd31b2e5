/-
  The ops of the central, the program's and the reference's, told by one plain function each.
-/
import Derived.Test.YtjjbcfbljnekgaaRCent2
import Derived.Test.YtjjbcfbljnekgaaCOnce
import Derived.Test.YtjjbcfbljnekgaaDuo
namespace Go.Proofs.Ytjjbcfbljnekgaa
open Go.RowKit

def CtP (z b : Nat) (L : Nat → List Int) (w : World) (S : Nat → Prop) : Prop := Cent w S z b L
def RcP (r : Nat) (L : Nat → List Int) (w : World) (S : Nat → Prop) : Prop := ArrR 64 74 w S r L
theorem CtP.good (z b : Nat) (L : Nat → List Int) : Good (CtP z b L) := ⟨fun _ _ _ _ h mm hs => Cent.keep h mm hs, fun _ _ h => Cent.lt h⟩
theorem RcP.good (r : Nat) (L : Nat → List Int) : Good (RcP r L) := ⟨fun _ _ _ _ h mm hs => ArrR.keep h mm hs, fun _ _ h => ArrR.lt h⟩
def inC (k : Int) : Prop := 0 ≤ k ∧ k < 16
instance (k : Int) : Decidable (inC k) := by unfold inC; infer_instance
def pPut (L : Nat → List Int) (k id : Int) (f : Bool) : Nat → List Int := if inC k then cputL L k.toNat f id else L
def pTakeV (L : Nat → List Int) (k : Int) : Int × Bool × Bool := if inC k then ctakeV L k.toNat else (0, false, false)
def pTakeL (L : Nat → List Int) (k : Int) : Nat → List Int := if inC k then ctakeL L k.toNat else L
def pFullV (L : Nat → List Int) (k : Int) : Int × Bool := if inC k then clastV L (k.toNat * 4 + 3) else (0, false)
def pFullL (L : Nat → List Int) (k : Int) : Nat → List Int := if inC k then clastL L (k.toNat * 4 + 3) else L

section
variable {w w' : World} {S : Nat → Prop} {z b r : Nat} {L L' : Nat → List Int}
theorem inC_nat {k : Int} (h : inC k) : ∃ q : Nat, k = (q : Int) ∧ q < 16 ∧ k.toNat = q := ⟨k.toNat, by unfold inC at h; omega, by unfold inC at h; omega, rfl⟩
theorem ct_put (h : CtP z b L w S) (hl : Small L) (k id : Int) (f : Bool) : Calls Try.prog 37 #[.pointer (some ⟨z, 0, none⟩), .int .i64 k, .int .i64 id, .bool f] w (Step w S (CtP z b (pPut L k id f)) (.tuple #[])) := by
  unfold pPut
  by_cases hk : inC k
  · obtain ⟨q, rfl, hq, e⟩ := inC_nat hk
    rw [if_pos hk, e]
    exact cput_yes q id f h hq hl
  · rw [if_neg hk]
    exact cput_no k id f h hk
theorem ct_take (h : CtP z b L w S) (hl : Small L) (k : Int) : Calls Try.prog 41 #[.pointer (some ⟨z, 0, none⟩), .int .i64 k] w (Step w S (CtP z b (pTakeL L k)) (tup3 (pTakeV L k))) := by
  unfold pTakeL pTakeV
  by_cases hk : inC k
  · obtain ⟨q, rfl, hq, e⟩ := inC_nat hk
    rw [if_pos hk, if_pos hk, e]
    exact ctake_any q h hq hl
  · rw [if_neg hk, if_neg hk]
    exact ctake_no k h hk
theorem ct_full (h : CtP z b L w S) (hl : Small L) (k : Int) : Calls Try.prog 43 #[.pointer (some ⟨z, 0, none⟩), .int .i64 k] w (Step w S (CtP z b (pFullL L k)) (tup2 (pFullV L k))) := by
  unfold pFullL pFullV
  by_cases hk : inC k
  · obtain ⟨q, rfl, hq, e⟩ := inC_nat hk
    rw [if_pos hk, if_pos hk, e]
    exact cfull_any q h hq hl
  · rw [if_neg hk, if_neg hk]
    exact cfull_no k h hk
theorem ct_begin (h : CtP z b L w S) (hl : Small L) : Calls Try.prog 38 #[.pointer (some ⟨z, 0, none⟩)] w (Step w S (CtP z b (cbegL L)) (.tuple #[])) := cbegin_any h hl
theorem ct_any (h : CtP z b L w S) (hl : Small L) : Calls Try.prog 48 #[.pointer (some ⟨z, 0, none⟩)] w (Step w S (CtP z b (canyL L 32 0)) (tupA (canyV L 32 0))) := cany_any h hl
theorem ct_del (h : CtP z b L w S) (hl : Small L) (id : Int) : Calls Try.prog 39 #[.pointer (some ⟨z, 0, none⟩), .int .i64 id] w (Step w S (CtP z b (cdelL L id)) (.bool (cdelB L id))) := cdel_any id h hl
theorem ct_un (h : CtP z b L w S) (hl : Small L) : Calls Try.prog 40 #[.pointer (some ⟨z, 0, none⟩)] w fun e w' => e = .returned (.int .i64 (cun L 16)) ∧ Mod (fun _ => False) w w' := cun_any h hl
theorem rc_put (h : RcP r L w S) (hl : Small L) (k id : Int) (f : Bool) : Calls Try.prog 44 #[.pointer (some ⟨r, 0, none⟩), .int .i64 k, .int .i64 id, .bool f] w (Step w S (RcP r (pPut L k id f)) (.tuple #[])) := by
  unfold pPut
  by_cases hk : inC k
  · obtain ⟨q, rfl, hq, e⟩ := inC_nat hk
    rw [if_pos hk, e]
    cases f
    · exact rcput_f h q id hq hl
    · exact rcput_t h q id hq hl
  · rw [if_neg hk]
    exact rcput_out h k id f hk
theorem rc_take (h : RcP r L w S) (hl : Small L) (k : Int) : Calls Try.prog 45 #[.pointer (some ⟨r, 0, none⟩), .int .i64 k] w (Step w S (RcP r (pTakeL L k)) (tup3 (pTakeV L k))) := by
  unfold pTakeL pTakeV
  by_cases hk : inC k
  · obtain ⟨q, rfl, hq, e⟩ := inC_nat hk
    rw [if_pos hk, if_pos hk, e]
    exact rctake h q hq hl
  · rw [if_neg hk, if_neg hk]
    exact rctake_out h k hk
theorem rc_full (h : RcP r L w S) (hl : Small L) (k : Int) : Calls Try.prog 46 #[.pointer (some ⟨r, 0, none⟩), .int .i64 k] w (Step w S (RcP r (pFullL L k)) (tup2 (pFullV L k))) := by
  unfold pFullL pFullV
  by_cases hk : inC k
  · obtain ⟨q, rfl, hq, e⟩ := inC_nat hk
    rw [if_pos hk, if_pos hk, e]
    exact rcfull h q hq hl
  · rw [if_neg hk, if_neg hk]
    exact rcfull_out h k hk
theorem rc_begin (h : RcP r L w S) (hl : Small L) : Calls Try.prog 47 #[.pointer (some ⟨r, 0, none⟩)] w (Step w S (RcP r (cbegL L)) (.tuple #[])) := rcbegin h hl
theorem rc_any (h : RcP r L w S) (hl : Small L) : Calls Try.prog 49 #[.pointer (some ⟨r, 0, none⟩)] w (Step w S (RcP r (canyL L 32 0)) (tupA (canyV L 32 0))) := rcany h hl
theorem rc_del (h : RcP r L w S) (hl : Small L) (id : Int) : Calls Try.prog 50 #[.pointer (some ⟨r, 0, none⟩), .int .i64 id] w (Step w S (RcP r (cdelL L id)) (.bool (cdelB L id))) := rcdel h id hl
theorem rc_un (h : RcP r L w S) (hl : Small L) : Calls Try.prog 51 #[.pointer (some ⟨r, 0, none⟩)] w fun e w' => e = .returned (.int .i64 (cun L 16)) ∧ Mod (fun _ => False) w w' := rcun h hl

theorem small_of (m : Nat) (hm : m ≤ 1000) (h : tot L 16 ≤ m) : Small L := fun i hi => by have := tot_le L 16 i (by omega); omega
theorem tot_less (j : Nat) (l : List Int) (h : l.length ≤ (L j).length) : tot (upd L j l) 16 ≤ tot L 16 := by
  have := tot_upd L j l 16
  split at this <;> omega
theorem tot_more (j : Nat) (l : List Int) (h : l.length ≤ (L j).length + 1) : tot (upd L j l) 16 ≤ tot L 16 + 1 := by
  have := tot_upd L j l 16
  split at this <;> omega
theorem tot_del (L : Nat → List Int) (id : Int) : tot (cdelL L id) 16 ≤ tot L 16 := by
  unfold cdelL
  cases cfind L id 64 0 with
  | some j => exact tot_less j _ (List.erase_sublist ..).length_le
  | none => exact Nat.le_refl _
theorem tot_put (L : Nat → List Int) (k id : Int) (f : Bool) : tot (pPut L k id f) 16 ≤ tot L 16 + 1 := by
  unfold pPut
  split
  · have h1 := tot_del L id
    have h2 := tot_more (L := cdelL L id) (k.toNat * 4 + slot f) (cdelL L id (k.toNat * 4 + slot f) ++ [id]) (by simp)
    show tot (upd _ _ _) 16 ≤ _
    omega
  · omega
theorem tot_take (L : Nat → List Int) (k : Int) : tot (pTakeL L k) 16 ≤ tot L 16 := by
  unfold pTakeL
  split
  · unfold ctakeL
    split
    · split
      · exact Nat.le_refl _
      · exact tot_less _ _ (by simp)
    · exact tot_less _ _ (by simp)
  · exact Nat.le_refl _
theorem tot_full (L : Nat → List Int) (k : Int) : tot (pFullL L k) 16 ≤ tot L 16 := by
  unfold pFullL
  split
  · unfold clastL
    split
    · exact Nat.le_refl _
    · exact tot_less _ _ (by simp)
  · exact Nat.le_refl _
theorem tot_any (L : Nat → List Int) : tot (canyL L 32 0) 16 ≤ tot L 16 := by
  rcases cany_cases L with ⟨_, e, _⟩ | ⟨i, x, l, _, hx, _, e⟩
  · rw [e]; exact Nat.le_refl _
  · rw [e]; exact tot_less _ _ (by rw [hx]; simp)
end

end Go.Proofs.Ytjjbcfbljnekgaa
