/-
  treadmilllaw11.told is true.
-/
import Derived.Test.YtgojfccaohngaaaQueue
namespace Go.Proofs.Ytgojfccaohngaaa
open Go.RowKit

set_option maxHeartbeats 400000 in
theorem told11 (w : World) : Calls Try.prog 20 #[] w fun e w' => e = .returned (.bool true) ∧ Mod (fun _ => False) w w' := by
  go_enter Try.func20, Try.ntmps20
  go_wp2_with fail
  refine (new_queue _).mono ?_
  rintro e w1 ⟨b, rfl, hb, hq1, m1⟩
  go_wp2_with fail
  refine (qput_any b none [] _ 3 3 [1, 2, 3] _ (hq1.keep ((Mod.refl (fun _ => False) _).alloc _) (fun h => h) (fun _ _ h => h)) (IsL.lit _ _ _ rfl _ rfl (by omega)) (by simp)).mono ?_
  rintro e w2 ⟨rfl, o2, hq2, ho2, m2⟩
  have hq2' : Queue w2 b o2 [1, 2, 3] := hq2
  have mm2 : Mod (fun _ => False) w w2 := (m1.alloc _).new m2 (fun i hi => by rcases hi with rfl | hi; exact hb; cases hi)
  go_wp2_with fail
  refine (qget_any b o2 [1, 2, 3] 2 9 _ hq2' (by simp) (by omega) (by omega)).mono ?_
  rintro e w3 ⟨A3, n3, c3, rfl, hl3, ⟨o3, hq3, ho3, hA3⟩, m3⟩
  have hl3' : IsL w3 A3 n3 c3 [1, 2] := hl3
  have hq3' : Queue w3 b o3 [3] := hq3
  have mm3 : Mod (fun _ => False) w w3 := mm2.new m3 (fun i hi => by subst hi; exact hb)
  clear hl3 hq3 hq2 m2 m1
  go_wp2_with fail
  refine (ints_any A3 _ n3 2 c3 2 [1, 2] [1, 2] _ (hl3'.alloc _) (IsL.lit _ _ _ rfl _ rfl (by omega)) (by have := hl3'.len; simp at this; omega) (by omega)).mono ?_
  rintro e w4 ⟨rfl, k4, rfl⟩
  have m4 : Mod (fun _ => False) w3 ((w3.alloc (.cells #[.int .i64 1, .int .i64 2] 3)).drewN k4) := ((Mod.refl _ w3).alloc _).drewN _
  have hq4 := hq3'.keep m4 (fun h => h) (fun _ _ h => h)
  go_wp2_with fail
  refine (qlen_any b o3 [3] _ hq4).mono ?_
  rintro e w5 ⟨rfl, rfl⟩
  go_wp2_with fail
  refine (qall_any b o3 [3] _ hq4 (by simp)).mono ?_
  rintro e w6 ⟨A6, n6, c6, rfl, hl6, _, m6⟩
  go_wp2_with fail
  refine (ints_any A6 _ n6 1 c6 1 [3] [3] _ (hl6.alloc _) (IsL.lit _ _ _ rfl _ rfl (by omega)) (by have := hl6.len; simp at this; omega) (by omega)).mono ?_
  rintro e w7 ⟨rfl, k7, rfl⟩
  have m7 : Mod (fun _ => False) w ((w6.alloc (.cells #[.int .i64 3] 3)).drewN k7) := ((mm3.trans m4).trans (m6.alloc _)).drewN _
  go_wp2
  go_ret
  exact ⟨rfl, m7⟩

end Go.Proofs.Ytgojfccaohngaaa
