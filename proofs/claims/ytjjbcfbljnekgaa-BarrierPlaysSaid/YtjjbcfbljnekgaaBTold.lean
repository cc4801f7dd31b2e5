/-
  treadmilllaw19.told is true.
-/
import Derived.Test.YtjjbcfbljnekgaaFlush
namespace Go.Proofs.Ytjjbcfbljnekgaa
open Go.RowKit

set_option maxHeartbeats 1000000 in
set_option maxRecDepth 100000 in
theorem told19 (w : World) : Calls Try.prog 21 #[] w fun e w' => e = .returned (.bool true) ∧ Mod (fun _ => False) w w' := by
  go_enter Try.func21, Try.ntmps21
  go_wp2_with fail
  refine (bnew _).mono ?_
  rintro e w1 ⟨b, rfl, hb, hq1, m1⟩
  go_wp2_with fail
  refine (bput_any b 5 0 [] _ hq1).mono ?_
  rintro e w2 ⟨rfl, hq2, m2⟩
  have hq2' : Barrier w2 b [(5, 0)] := hq2
  have mm2 : Mod (fun _ => False) w w2 := m1.new m2 (fun i hi => by subst hi; exact hb)
  go_wp2_with fail
  refine (bput_any b 5 6 [(5, 0)] _ hq2').mono ?_
  rintro e w3 ⟨rfl, hq3, m3⟩
  have hq3' : Barrier w3 b [(5, 0), (5, 6)] := hq3
  have mm3 : Mod (fun _ => False) w w3 := mm2.new m3 (fun i hi => by subst hi; exact hb)
  clear hq3 hq2 hq2' hq1 m2 m1 m3
  go_wp2_with fail
  refine (bput_any b 0 0 [(5, 0), (5, 6)] _ hq3').mono ?_
  rintro e w4 ⟨rfl, hq4, m4⟩
  have hq4' : Barrier w4 b [(5, 0), (5, 6)] := hq4
  have mm4 : Mod (fun _ => False) w w4 := mm3.new m4 (fun i hi => by subst hi; exact hb)
  clear hq4 hq3' mm2 mm3 m4
  go_wp2_with fail
  refine (ball_any b _ _ hq4').mono ?_
  rintro e w5 ⟨A5, c5, rfl, hp5, f5, m5⟩
  have hp5' : IsP w5 A5 2 [(5, 0), (5, 6)] := hp5
  have hq5 := hq4'.keep m5 (fun h => h)
  have mm5 := mm4.trans m5
  obtain ⟨g, o, rfl, hgl, hc⟩ := hp5'.2 (by omega)
  have hc1 := hc 1 (by omega)
  have hc1a : w5.cell? ⟨g, o + 2, none⟩ = some (.int .i64 5) := hc1.1
  have hc1b : w5.cell? ⟨g, o + 3, none⟩ = some (.int .i64 6) := hc1.2
  clear hp5 hp5' hc hc1 m5 mm4 hq4'
  go_wp2_with fail
  refine (blen_any b _ _ hq5).mono ?_
  rintro e w6 ⟨rfl, rfl⟩
  go_wp2_with fail
  refine (flush_any b _ _ hq5).mono ?_
  rintro e w7 ⟨A7, n7, c7, rfl, hl7, f7, hq7, m7⟩
  have hl7' : IsL w7 A7 n7 c7 [5, 6] := hl7
  have mm7 : Mod (fun _ => False) w w7 := mm5.new m7 (fun i hi => by subst hi; exact hb)
  clear hl7 m7 hq5
  go_wp2_with fail
  refine (ints_any A7 _ n7 2 c7 2 [5, 6] [5, 6] _ (hl7'.alloc _) (IsL.lit _ _ _ rfl _ rfl (by omega)) (by have := hl7'.len; simp at this; omega) (by omega)).mono ?_
  rintro e w8 ⟨rfl, k8, rfl⟩
  have m8 : Mod (fun _ => False) w7 ((w7.alloc (.cells #[.int .i64 5, .int .i64 6] 3)).drewN k8) := ((Mod.refl _ w7).alloc _).drewN _
  have hq8 := hq7.keep m8 (fun h => h)
  go_wp2_with fail
  refine (blen_any b _ _ hq8).mono ?_
  rintro e w9 ⟨rfl, rfl⟩
  go_wp2
  go_ret
  exact ⟨rfl, mm7.trans m8⟩

end Go.Proofs.Ytjjbcfbljnekgaa
