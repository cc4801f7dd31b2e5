/-
  Plain facts on a ring's model; treadmilllaw10.told is true.
-/
import Derived.Test.YtgojfccaohngaaaList
namespace Go.Proofs.Ytgojfccaohngaaa
open Go.RowKit

theorem Ring.ne_own {w : World} {b : Nat} {row : List Int} {nxt : Option Int} (h : Ring w b row nxt) {A : Option Addr} {n c : Nat} {l : List Int} (ho : OwnL w A n c l) : blk A ≠ some b := by
  obtain ⟨_, _, _, hr, _⟩ := h
  exact ho.ne_row hr (by decide)
theorem rput_room (row : List Int) (nxt : Option Int) (g : Int) (h : row.length < 256) : rput row nxt g false = ((row ++ [g], []), nxt) := by simp [rput, rbehind, h]
theorem rput_first (row : List Int) (g : Int) : rput row none g true = ((row, []), some g) := rfl
theorem rput_next (row : List Int) (g y : Int) (h : row.length < 256) : rput row (some y) g true = ((row ++ [y], []), some g) := by simp [rput, rbehind, h]
theorem rget_cons (row : List Int) (nxt : Option Int) (x : Int) (L : List Int) (h : nxt.toList ++ row = x :: L) :
    ∃ row' nxt', rget row nxt = ((x, true), (row', nxt')) ∧ nxt'.toList ++ row' = L := by
  cases nxt with
  | some g =>
    simp at h
    exact ⟨row, none, by simp [rget, h.1], by simpa using h.2⟩
  | none =>
    simp at h
    subst h
    exact ⟨L, none, rfl, by simp⟩
theorem rget_nil (row : List Int) (nxt : Option Int) (h : nxt.toList ++ row = []) : rget row nxt = ((0, false), ([], none)) := by
  cases nxt with
  | some g => simp at h
  | none =>
    simp at h
    subst h
    rfl

set_option maxHeartbeats 400000 in
theorem told10 (w : World) : Calls Try.prog 26 #[] w fun e w' => e = .returned (.bool true) ∧ Mod (fun _ => False) w w' := by
  go_enter Try.func26, Try.ntmps26
  go_wp2_with fail
  refine (new_ring _).mono ?_
  rintro e w1 ⟨b, rfl, hb, hr1, m1⟩
  have hS : ∀ i, i = b → w.heap.size ≤ i := fun i hi => by subst hi; exact hb
  go_wp2_with fail
  refine (put_any b 1 true [] none _ hr1).mono ?_
  rintro e w2 ⟨A2, n2, c2, rfl, hr2, hl2, _, m2⟩
  rw [rput_first] at hr2 hl2
  obtain rfl : n2 = 0 := hl2.len.symm
  go_wp2_with fail
  refine (put_any b 2 true [] (some 1) _ hr2).mono ?_
  rintro e w3 ⟨A3, n3, c3, rfl, hr3, hl3, _, m3⟩
  rw [rput_next _ _ _ (by simp)] at hr3 hl3
  obtain rfl : n3 = 0 := hl3.len.symm
  go_wp2_with fail
  refine (put_any b 3 false ([] ++ [1]) (some 2) _ hr3).mono ?_
  rintro e w4 ⟨A4, n4, c4, rfl, hr4, hl4, _, m4⟩
  rw [rput_room _ _ _ (by simp)] at hr4 hl4
  obtain rfl : n4 = 0 := hl4.len.symm
  have mm4 := ((m1.new m2 hS).new m3 hS).new m4 hS
  have hr4' : Ring w4 b [1, 3] (some 2) := hr4
  clear hr2 hr3 hr4 hl2 hl3 hl4 m1 m2 m3 m4
  go_wp2_with fail
  refine (all_any b [1, 3] (some 2) _ hr4').mono ?_
  rintro e w5 ⟨A5, n5, c5, rfl, hl5, f5, m5⟩
  have hr5 := hr4'.keep m5 (fun h => h)
  go_wp2_with fail
  refine (get_any b [1, 3] (some 2) _ hr5).mono ?_
  rintro e w6 ⟨rfl, hr6, m6⟩
  have hr6' : Ring w6 b [1, 3] none := hr6
  have hl6 : IsL w6 A5 n5 c5 [2, 1, 3] := hl5.keep m6 (fun d hd e => by have h1 := f5 d hd; have h2 := hr4'.lt; omega)
  have m46 : Mod (fun _ => False) w w6 := (mm4.trans m5).new m6 hS
  clear hl5 hr5 hr6
  go_wp2_with fail
  refine (ints_any A5 _ n5 3 c5 3 [2, 1, 3] [2, 1, 3] _ (hl6.alloc _) (IsL.lit _ _ _ rfl _ rfl (by omega)) (by have := hl6.len; simp at this; omega) (by omega)).mono ?_
  rintro e w7 ⟨rfl, k7, rfl⟩
  have m7 : Mod (fun _ => False) w6 ((w6.alloc (.cells #[.int .i64 2, .int .i64 1, .int .i64 3] 3)).drewN k7) := ((Mod.refl _ w6).alloc _).drewN _
  go_wp2_with fail
  refine (len_any b [1, 3] none _ (hr6'.keep m7 (fun h => h))).mono ?_
  rintro e w8 ⟨rfl, m8⟩
  go_wp2
  go_ret
  exact ⟨rfl, (m46.trans m7).trans m8⟩

end Go.Proofs.Ytgojfccaohngaaa
