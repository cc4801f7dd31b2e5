/-
  The reference's Steal once more, its lists in arrays away from given blocks D.
-/
import Derived.Test.YtgojfccaohngaaaDRing
set_option linter.unusedSimpArgs false
namespace Go.Proofs.Ytgojfccaohngaaa
open Go.RowKit
section
variable {D : Nat → Prop}
set_option maxHeartbeats 2000000 in
set_option maxRecDepth 100000 in
theorem dsteal_next (b o : Nat) (row : List Int) (nxt : Option Int) (g : Int) (w : World) (hD : ∀ g, D g → g < w.heap.size) (h : RRingD D w b row nxt) (ho : RRingD D w o [] (some g)) (hne : b ≠ o) (hlt : row.length < 256) :
    Calls Try.prog 36 #[.pointer (some ⟨b, 0, none⟩), .pointer (some ⟨o, 0, none⟩)] w fun e w' => e = .returned (.int .i64 1) ∧ RRingD D w' b (row ++ [g]) nxt ∧ RRingD D w' o [] none ∧ Mod (fun i => i = b ∨ i = o) w w' := by
  obtain ⟨A1, n1, c1, A2, n2, c2, hr, h1, h2, t1, t2⟩ := h
  obtain ⟨B1, m1, d1, B2, m2, d2, hro, k1, k2, s1, s2⟩ := ho
  have hp := rr_ptr_ne hro hr (fun e => hne e.symm)
  have hc1 : w.cell? ⟨b, 1, none⟩ = some (.slice A2 n2 c2) := hr.cell (by omega)
  have hk0 : w.cell? ⟨o, 0, none⟩ = some (.slice B1 m1 d1) := hro.cell (by omega)
  have hk1 : w.cell? ⟨o, 1, none⟩ = some (.slice B2 m2 d2) := hro.cell (by omega)
  have hf1 := hr.frozen 1
  have hfo := hro.frozen 0
  have hm1 : m1 = 1 := k1.len.symm
  subst hm1
  have hm2 : m2 = 0 := k2.len.symm
  subst hm2
  obtain ⟨gg, oo, rfl, hcy⟩ := k1.at_ (k := 0) (by omega)
  simp only [Option.toList_some, List.getD_cons_zero, Nat.add_zero] at hcy
  rw [h2.len] at hlt
  have hbl := hr.lt
  have hol := hro.lt
  have hgl := s1.lt gg rfl
  go_enter Try.func36, Try.ntmps36
  go_wp2
  have eO : (w.alloc (.cells #[] 3)).cell? ⟨o, 0, none⟩ = some (.slice (some ⟨gg, oo, none⟩) 1 d1) := (((Mod.refl (fun _ => False) w).alloc _).cell (p := ⟨o, 0, none⟩) hol (fun h => h)).trans hk0
  have eG : (w.alloc (.cells #[] 3)).cell? ⟨gg, oo, none⟩ = some (.int .i64 g) := (((Mod.refl (fun _ => False) w).alloc _).cell (p := ⟨gg, oo, none⟩) hgl (fun h => h)).trans hcy
  have eB : (w.alloc (.cells #[] 3)).cell? ⟨b, 1, none⟩ = some (.slice A2 n2 c2) := (((Mod.refl (fun _ => False) w).alloc _).cell (p := ⟨b, 1, none⟩) hbl (fun h => h)).trans hc1
  have xO : (w.alloc (.cells #[.int .i64 g] 3)).cell? ⟨o, 0, none⟩ = some (.slice (some ⟨gg, oo, none⟩) 1 d1) := (((Mod.refl (fun _ => False) w).alloc _).cell (p := ⟨o, 0, none⟩) hol (fun h => h)).trans hk0
  have xG : (w.alloc (.cells #[.int .i64 g] 3)).cell? ⟨gg, oo, none⟩ = some (.int .i64 g) := (((Mod.refl (fun _ => False) w).alloc _).cell (p := ⟨gg, oo, none⟩) hgl (fun h => h)).trans hcy
  have xB : (w.alloc (.cells #[.int .i64 g] 3)).cell? ⟨b, 1, none⟩ = some (.slice A2 n2 c2) := (((Mod.refl (fun _ => False) w).alloc _).cell (p := ⟨b, 1, none⟩) hbl (fun h => h)).trans hc1
  have exO : ((w.alloc (.cells #[] 3)).alloc (.cells #[.int .i64 g] 3)).cell? ⟨o, 0, none⟩ = some (.slice (some ⟨gg, oo, none⟩) 1 d1) := ((((Mod.refl (fun _ => False) w).alloc _).alloc _).cell (p := ⟨o, 0, none⟩) hol (fun h => h)).trans hk0
  have exG : ((w.alloc (.cells #[] 3)).alloc (.cells #[.int .i64 g] 3)).cell? ⟨gg, oo, none⟩ = some (.int .i64 g) := ((((Mod.refl (fun _ => False) w).alloc _).alloc _).cell (p := ⟨gg, oo, none⟩) hgl (fun h => h)).trans hcy
  have exB : ((w.alloc (.cells #[] 3)).alloc (.cells #[.int .i64 g] 3)).cell? ⟨b, 1, none⟩ = some (.slice A2 n2 c2) := ((((Mod.refl (fun _ => False) w).alloc _).alloc _).cell (p := ⟨b, 1, none⟩) hbl (fun h => h)).trans hc1
  have xeO : ((w.alloc (.cells #[.int .i64 g] 3)).alloc (.cells #[] 3)).cell? ⟨o, 0, none⟩ = some (.slice (some ⟨gg, oo, none⟩) 1 d1) := ((((Mod.refl (fun _ => False) w).alloc _).alloc _).cell (p := ⟨o, 0, none⟩) hol (fun h => h)).trans hk0
  have xeG : ((w.alloc (.cells #[.int .i64 g] 3)).alloc (.cells #[] 3)).cell? ⟨gg, oo, none⟩ = some (.int .i64 g) := ((((Mod.refl (fun _ => False) w).alloc _).alloc _).cell (p := ⟨gg, oo, none⟩) hgl (fun h => h)).trans hcy
  have xeB : ((w.alloc (.cells #[.int .i64 g] 3)).alloc (.cells #[] 3)).cell? ⟨b, 1, none⟩ = some (.slice A2 n2 c2) := ((((Mod.refl (fun _ => False) w).alloc _).alloc _).cell (p := ⟨b, 1, none⟩) hbl (fun h => h)).trans hc1
  have hob : o ≠ b := fun e => hne e.symm
  have hgb : gg ≠ b := fun e => s1.ne hr (by decide) gg rfl e
  refine wp_region_noPanic ?_
  refine wp_region_held_drew (S := fun W => W.cell? ⟨o, 0, none⟩ = some (.slice (some ⟨gg, oo, none⟩) 1 d1) ∧ W.cell? ⟨gg, oo, none⟩ = some (.int .i64 g)) (by kernel_rfl) ⟨hk0, hcy⟩ (fun hHeld => ?_)
  (refine wpAnyH_take (i := 0) (v := ?_) rfl (by kernel_rfl) (by kernel_rfl) (by kernel_rfl) (fun _ _ _ h => h) (Or.inl ⟨by kernel_rfl, ?_⟩) (by assumption) ?_; rotate_left; focus (intro wq hSw; (try dsimp only at hSw); go_simp; try with_reducible rfl); try simp only [List.getElem_toArray, List.getElem_cons_succ, List.getElem_cons_zero, Act.put, List.setIfInBounds_toArray, List.set_cons_zero, List.set_cons_succ])
  (refine wpAnyH_take (i := 2) (v := ?_) rfl (by kernel_rfl) (by kernel_rfl) (by kernel_rfl) (fun _ _ _ h => h) (Or.inl ⟨by kernel_rfl, ?_⟩) (by assumption) ?_; rotate_left; focus (intro wq hSw; (try dsimp only at hSw); go_simp; try with_reducible rfl); try simp only [List.getElem_toArray, List.getElem_cons_succ, List.getElem_cons_zero, Act.put, List.setIfInBounds_toArray, List.set_cons_zero, List.set_cons_succ])
  (refine wpAnyH_take (i := 3) (v := ?_) rfl (by kernel_rfl) (by kernel_rfl) (by kernel_rfl) (fun _ _ _ h => h) (Or.inl ⟨by kernel_rfl, ?_⟩) (by assumption) ?_; rotate_left; focus (intro wq hSw; (try dsimp only at hSw); go_simp; try with_reducible rfl); try simp only [List.getElem_toArray, List.getElem_cons_succ, List.getElem_cons_zero, Act.put, List.setIfInBounds_toArray, List.set_cons_zero, List.set_cons_succ])
  (refine wpAnyH_take (i := 4) (v := ?_) rfl (by kernel_rfl) (by kernel_rfl) (by kernel_rfl) (fun _ _ _ h => h) (Or.inl ⟨by kernel_rfl, ?_⟩) (by assumption) ?_; rotate_left; focus (intro wq hSw; (try dsimp only at hSw); go_simp; try with_reducible rfl); try simp only [List.getElem_toArray, List.getElem_cons_succ, List.getElem_cons_zero, Act.put, List.setIfInBounds_toArray, List.set_cons_zero, List.set_cons_succ])
  (refine wpAnyH_take (i := 7) (v := ?_) rfl (by kernel_rfl) (by kernel_rfl) (by kernel_rfl) (fun _ _ _ h => h) (Or.inl ⟨by kernel_rfl, ?_⟩) (by assumption) ?_; rotate_left; focus (intro wq hSw; (try dsimp only at hSw); go_simp; try with_reducible rfl); try simp only [List.getElem_toArray, List.getElem_cons_succ, List.getElem_cons_zero, Act.put, List.setIfInBounds_toArray, List.set_cons_zero, List.set_cons_succ])
  (refine wpAnyH_take (i := 8) (v := ?_) rfl (by kernel_rfl) (by kernel_rfl) (by kernel_rfl) (fun _ _ _ h => h) (Or.inl ⟨by kernel_rfl, ?_⟩) (by assumption) ?_; rotate_left; focus (intro wq hSw; (try dsimp only at hSw); go_simp; try with_reducible rfl); try simp only [List.getElem_toArray, List.getElem_cons_succ, List.getElem_cons_zero, Act.put, List.setIfInBounds_toArray, List.set_cons_zero, List.set_cons_succ])
  (refine wpAnyH_take (i := 9) (v := ?_) rfl (by kernel_rfl) (by kernel_rfl) (by kernel_rfl) (fun _ _ _ h => h) (Or.inl ⟨by kernel_rfl, ?_⟩) (by assumption) ?_; rotate_left; focus (intro wq hSw; (try dsimp only at hSw); go_simp; try with_reducible rfl); try simp only [List.getElem_toArray, List.getElem_cons_succ, List.getElem_cons_zero, Act.put, List.setIfInBounds_toArray, List.set_cons_zero, List.set_cons_succ])
  (refine wpAnyH_take (i := 10) (v := ?_) rfl (by kernel_rfl) (by kernel_rfl) (by kernel_rfl) (fun _ _ _ h => h) (Or.inl ⟨by kernel_rfl, ?_⟩) (by assumption) ?_; rotate_left; focus (intro wq hSw; (try dsimp only at hSw); go_simp; try with_reducible rfl); try simp only [List.getElem_toArray, List.getElem_cons_succ, List.getElem_cons_zero, Act.put, List.setIfInBounds_toArray, List.set_cons_zero, List.set_cons_succ])
  (refine wpAnyH_take (i := 11) (v := ?_) rfl (by kernel_rfl) (by kernel_rfl) (by kernel_rfl) (fun _ _ _ h => h) (Or.inl ⟨by kernel_rfl, ?_⟩) (by assumption) ?_; rotate_left; focus (intro wq hSw; (try dsimp only at hSw); go_simp; try with_reducible rfl); try simp only [List.getElem_toArray, List.getElem_cons_succ, List.getElem_cons_zero, Act.put, List.setIfInBounds_toArray, List.set_cons_zero, List.set_cons_succ])
  (refine wpAnyH_take (i := 12) (v := ?_) rfl (by kernel_rfl) (by kernel_rfl) (by kernel_rfl) (fun _ _ _ h => h) (Or.inl ⟨by kernel_rfl, ?_⟩) (by assumption) ?_; rotate_left; focus (intro wq hSw; (try dsimp only at hSw); go_simp; try with_reducible rfl); try simp only [List.getElem_toArray, List.getElem_cons_succ, List.getElem_cons_zero, Act.put, List.setIfInBounds_toArray, List.set_cons_zero, List.set_cons_succ])
  refine wpAnyH_ready (rs := [1, 5, 13]) (by kernel_rfl) (by simp) ?_
  refine AllReadyH.cons rfl (fun K hK => ?_) (AllReadyH.cons rfl (fun K hK => ?_) (AllReadyH.cons rfl (fun K hK => ?_) AllReadyH.nil))
  · go_simp
    refine hK.out _ _ ⟨eO, eG⟩ (fun hHeld => ?_)
    clear hK K
    try simp only [List.getElem_toArray, List.getElem_cons_succ, List.getElem_cons_zero, Act.put, List.setIfInBounds_toArray, List.set_cons_zero, List.set_cons_succ]
    refine wpAnyH_ready (rs := [5, 13]) (by kernel_rfl) (by simp) ?_
    refine AllReadyH.cons rfl (fun K hK => ?_) (AllReadyH.cons rfl (fun K hK => ?_) AllReadyH.nil)
    · go_simp
      refine hK.out _ _ ⟨eO, eG⟩ (fun hHeld => ?_)
      clear hK K
      try simp only [List.getElem_toArray, List.getElem_cons_succ, List.getElem_cons_zero, Act.put, List.setIfInBounds_toArray, List.set_cons_zero, List.set_cons_succ]
      refine wpAnyH_ready (rs := [6, 13]) (by kernel_rfl) (by simp) ?_
      refine AllReadyH.cons rfl (fun K hK => ?_) (AllReadyH.cons rfl (fun K hK => ?_) AllReadyH.nil)
      · have o1 : OwnL (w.alloc (.cells #[] 3)).drew (some ⟨w.heap.size, 0, none⟩) 0 0 [] := OwnL.empty w
        have r1 : IsL (w.alloc (.cells #[] 3)).drew A2 n2 c2 row := h2.alloc _
        (with_reducible refine step_app _ (by with_unfolding_all rfl) (.tmp 36) (.tmp 40) _ (by with_unfolding_all rfl) Try.underlying27 int_info _ _ _ _ (by with_unfolding_all rfl) o1 _ _ _ _ (by with_unfolding_all rfl) r1 (by omega) ?_)
        intro C2 p2 q2 w2 hp1 hp2 hown2 hg2 hat2
        obtain ⟨hM2, kO, kG, kB, hf2, fB, lO, lB⟩ := steal_facts (((Mod.refl _ w).alloc _).drew) (blk_size w) hr hro hcy hgl hg2 hat2
        have kOx : (w2.alloc (.cells #[.int .i64 g] 3)).cell? ⟨o, 0, none⟩ = some (.slice (some ⟨gg, oo, none⟩) 1 d1) := (((Mod.refl (fun _ => False) w2).alloc _).cell (p := ⟨o, 0, none⟩) lO (fun h => h)).trans kO
        have kGx : (w2.alloc (.cells #[.int .i64 g] 3)).cell? ⟨gg, oo, none⟩ = some (.int .i64 g) := (((Mod.refl (fun _ => False) w2).alloc _).cell (p := ⟨gg, oo, none⟩) (Nat.lt_of_lt_of_le hgl hM2.size) (fun h => h)).trans kG
        have o4 : OwnL (w2.alloc (.cells #[.int .i64 g] 3)) C2 p2 q2 ([] ++ row) := hown2.alloc _
        have r4 : IsL (w2.alloc (.cells #[.int .i64 g] 3)) (some ⟨w2.heap.size, 0, none⟩) 1 1 [g] := IsL.one w2 g
        have hW2 : Mod (fun _ => False) w (w2.alloc (.cells #[.int .i64 g] 3)) := hM2.alloc _
        refine hK.out _ _ ⟨kO, kG⟩ (fun hHeld => ?_)
        clear hK K
        try simp only [List.getElem_toArray, List.getElem_cons_succ, List.getElem_cons_zero, Act.put, List.setIfInBounds_toArray, List.set_cons_zero, List.set_cons_succ]
        refine wpAnyH_ready (rs := [13]) (by kernel_rfl) (by simp) ?_
        refine AllReadyH.cons rfl (fun K hK => ?_) AllReadyH.nil
        go_simp
        refine hK.out _ _ ⟨kOx, kGx⟩ (fun hHeld => ?_)
        clear hK K
        try simp only [List.getElem_toArray, List.getElem_cons_succ, List.getElem_cons_zero, Act.put, List.setIfInBounds_toArray, List.set_cons_zero, List.set_cons_succ]
        refine wpAnyH_ready (rs := [14]) (by kernel_rfl) (by simp) ?_
        refine AllReadyH.cons rfl (fun K hK => ?_) AllReadyH.nil
        (with_reducible refine step_app _ (by with_unfolding_all rfl) (.tmp 41) (.tmp 48) _ (by with_unfolding_all rfl) Try.underlying27 int_info _ _ _ _ (by with_unfolding_all rfl) o4 _ _ _ _ (by with_unfolding_all rfl) r4 (by omega) ?_)
        intro C3 p3 q3 w3 hp3 hp4 hown3 hg3 hat3
        obtain ⟨hM3, kO3, kG3, kB3, hf3, fB3, lO3, lB3⟩ := steal_facts hW2 hf2 hr hro hcy hgl hg3 hat3
        refine hK.out _ _ ⟨kO3, kG3⟩ (fun hHeld => ?_)
        clear hK K
        try simp only [List.getElem_toArray, List.getElem_cons_succ, List.getElem_cons_zero, Act.put, List.setIfInBounds_toArray, List.set_cons_zero, List.set_cons_succ]
        (refine wpAnyH_take (i := 15) (v := ?_) rfl (by kernel_rfl) (by kernel_rfl) (by kernel_rfl) (fun _ _ _ h => h) (Or.inl ⟨by kernel_rfl, ?_⟩) (by assumption) ?_; rotate_left; focus (intro wq hSw; (try dsimp only at hSw); go_simp; try with_reducible rfl); try simp only [List.getElem_toArray, List.getElem_cons_succ, List.getElem_cons_zero, Act.put, List.setIfInBounds_toArray, List.set_cons_zero, List.set_cons_succ])
        (refine wpAnyH_take (i := 16) (v := ?_) rfl (by kernel_rfl) (by kernel_rfl) (by kernel_rfl) (fun _ _ _ h => h) (Or.inl ⟨by kernel_rfl, ?_⟩) (by assumption) ?_; rotate_left; focus (intro wq hSw; (try dsimp only at hSw); go_simp; try with_reducible rfl); try simp only [List.getElem_toArray, List.getElem_cons_succ, List.getElem_cons_zero, Act.put, List.setIfInBounds_toArray, List.set_cons_zero, List.set_cons_succ])
        refine wpAnyH_ready (rs := [17]) (by kernel_rfl) (by simp) ?_
        refine AllReadyH.cons rfl (fun K hK => ?_) AllReadyH.nil
        go_simp
        refine hK.out _ _ ⟨cell_ne2 kO3 hob, cell_ne2 kG3 hgb⟩ (fun hHeld => ?_)
        clear hK K
        try simp only [List.getElem_toArray, List.getElem_cons_succ, List.getElem_cons_zero, Act.put, List.setIfInBounds_toArray, List.set_cons_zero, List.set_cons_succ]
        refine wpAnyH_done (by kernel_rfl) ?_ _
        refine NoPanic.normal ?_
        have hrb3 := hM3.rowIs hr (fun h => h)
        have hro3 := hM3.rowIs hro (fun h => h)
        have m4 := set_mod w3 b 1 (.slice C3 p3 q3)
        have hro4 := m4.rowIs hro3 hob
        have co := hro4.cell (i := 0) (by omega)
        have fo := hro4.frozen 0
        have lo := hro4.lt
        have rb4 : RRingD D (w3.setCell ⟨b, 1, none⟩ (.slice C3 p3 q3)) b (row ++ [g]) nxt :=
          ⟨A1, n1, c1, C3, p3, q3, RRing.set1 hrb3, (h1.keep0 hM3).set (t1.keep0 hM3) hrb3 (by decide), hown3.isL.set hown3.ty hrb3 (by decide), (t1.keep0 hM3).set hrb3 (by decide), (hown3.tyD (fun g hg hd => by have h7 := hf3 g hg; have h8 := hD g hd; omega)).set hrb3 (by decide)⟩
        have k4 := (k2.keep0 hM3).set (s2.keep0 hM3) hrb3 (by decide) (k := 1) (v := .slice C3 p3 q3)
        have y4 := (s2.keep0 hM3).set hrb3 (by decide) (k := 1) (v := .slice C3 p3 q3)
        have m5 := set_mod (w3.setCell ⟨b, 1, none⟩ (.slice C3 p3 q3)) o 0 (.slice none 0 0)
        have rb5 := rb4.keep m5 (fun e => hob e.symm) (fun g hg => .inr (NoInts.row hro4 (by decide) g hg))
        have ro5 : RRingD D ((w3.setCell ⟨b, 1, none⟩ (.slice C3 p3 q3)).setCell ⟨o, 0, none⟩ (.slice none 0 0)) o [] none :=
          ⟨none, 0, 0, B2, 0, d2, RRing.set0 hro4, IsL.nil _, k4.set y4 hro4 (by decide), TyD.nil D _, y4.set hro4 (by decide)⟩
        have mm : Mod (fun i => i = b ∨ i = o) w ((w3.setCell ⟨b, 1, none⟩ (.slice C3 p3 q3)).setCell ⟨o, 0, none⟩ (.slice none 0 0)) :=
          ((hM3.mono (fun _ _ h => h.elim)).trans' m4 (fun i _ e => .inl e)).trans' m5 (fun i _ e => .inr e)
        go_wp2
        go_ret
        exact ⟨rfl, rb5, ro5, mm⟩
      · go_simp
        refine hK.out _ _ ⟨exO, exG⟩ (fun hHeld => ?_)
        clear hK K
        try simp only [List.getElem_toArray, List.getElem_cons_succ, List.getElem_cons_zero, Act.put, List.setIfInBounds_toArray, List.set_cons_zero, List.set_cons_succ]
        refine wpAnyH_ready (rs := [6]) (by kernel_rfl) (by simp) ?_
        refine AllReadyH.cons rfl (fun K hK => ?_) AllReadyH.nil
        have o1 : OwnL ((w.alloc (.cells #[] 3)).alloc (.cells #[.int .i64 g] 3)).drew (some ⟨w.heap.size, 0, none⟩) 0 0 [] := (OwnL.empty w).alloc _
        have r1 : IsL ((w.alloc (.cells #[] 3)).alloc (.cells #[.int .i64 g] 3)).drew A2 n2 c2 row := (h2.alloc _).alloc _
        (with_reducible refine step_app _ (by with_unfolding_all rfl) (.tmp 36) (.tmp 40) _ (by with_unfolding_all rfl) Try.underlying27 int_info _ _ _ _ (by with_unfolding_all rfl) o1 _ _ _ _ (by with_unfolding_all rfl) r1 (by omega) ?_)
        intro C2 p2 q2 w2 hp1 hp2 hown2 hg2 hat2
        have r4 : IsL w2 (some ⟨w.heap.size + 1, 0, none⟩) 1 1 [g] := one_kept (w := ((w.alloc (.cells #[] 3)).alloc (.cells #[.int .i64 g] 3)).drew) (one_second w _ g) (fun d hd => by cases hd; simp [blk]) hg2
        obtain ⟨hM2, kO, kG, kB, hf2, fB, lO, lB⟩ := steal_facts ((((Mod.refl _ w).alloc _).alloc _).drew) (blk_size w) hr hro hcy hgl hg2 hat2
        have o4 := hown2
        have hW2 := hM2
        refine hK.out _ _ ⟨kO, kG⟩ (fun hHeld => ?_)
        clear hK K
        try simp only [List.getElem_toArray, List.getElem_cons_succ, List.getElem_cons_zero, Act.put, List.setIfInBounds_toArray, List.set_cons_zero, List.set_cons_succ]
        refine wpAnyH_ready (rs := [14]) (by kernel_rfl) (by simp) ?_
        refine AllReadyH.cons rfl (fun K hK => ?_) AllReadyH.nil
        (with_reducible refine step_app _ (by with_unfolding_all rfl) (.tmp 41) (.tmp 48) _ (by with_unfolding_all rfl) Try.underlying27 int_info _ _ _ _ (by with_unfolding_all rfl) o4 _ _ _ _ (by with_unfolding_all rfl) r4 (by omega) ?_)
        intro C3 p3 q3 w3 hp3 hp4 hown3 hg3 hat3
        obtain ⟨hM3, kO3, kG3, kB3, hf3, fB3, lO3, lB3⟩ := steal_facts hW2 hf2 hr hro hcy hgl hg3 hat3
        refine hK.out _ _ ⟨kO3, kG3⟩ (fun hHeld => ?_)
        clear hK K
        try simp only [List.getElem_toArray, List.getElem_cons_succ, List.getElem_cons_zero, Act.put, List.setIfInBounds_toArray, List.set_cons_zero, List.set_cons_succ]
        (refine wpAnyH_take (i := 15) (v := ?_) rfl (by kernel_rfl) (by kernel_rfl) (by kernel_rfl) (fun _ _ _ h => h) (Or.inl ⟨by kernel_rfl, ?_⟩) (by assumption) ?_; rotate_left; focus (intro wq hSw; (try dsimp only at hSw); go_simp; try with_reducible rfl); try simp only [List.getElem_toArray, List.getElem_cons_succ, List.getElem_cons_zero, Act.put, List.setIfInBounds_toArray, List.set_cons_zero, List.set_cons_succ])
        (refine wpAnyH_take (i := 16) (v := ?_) rfl (by kernel_rfl) (by kernel_rfl) (by kernel_rfl) (fun _ _ _ h => h) (Or.inl ⟨by kernel_rfl, ?_⟩) (by assumption) ?_; rotate_left; focus (intro wq hSw; (try dsimp only at hSw); go_simp; try with_reducible rfl); try simp only [List.getElem_toArray, List.getElem_cons_succ, List.getElem_cons_zero, Act.put, List.setIfInBounds_toArray, List.set_cons_zero, List.set_cons_succ])
        refine wpAnyH_ready (rs := [17]) (by kernel_rfl) (by simp) ?_
        refine AllReadyH.cons rfl (fun K hK => ?_) AllReadyH.nil
        go_simp
        refine hK.out _ _ ⟨cell_ne2 kO3 hob, cell_ne2 kG3 hgb⟩ (fun hHeld => ?_)
        clear hK K
        try simp only [List.getElem_toArray, List.getElem_cons_succ, List.getElem_cons_zero, Act.put, List.setIfInBounds_toArray, List.set_cons_zero, List.set_cons_succ]
        refine wpAnyH_done (by kernel_rfl) ?_ _
        refine NoPanic.normal ?_
        have hrb3 := hM3.rowIs hr (fun h => h)
        have hro3 := hM3.rowIs hro (fun h => h)
        have m4 := set_mod w3 b 1 (.slice C3 p3 q3)
        have hro4 := m4.rowIs hro3 hob
        have co := hro4.cell (i := 0) (by omega)
        have fo := hro4.frozen 0
        have lo := hro4.lt
        have rb4 : RRingD D (w3.setCell ⟨b, 1, none⟩ (.slice C3 p3 q3)) b (row ++ [g]) nxt :=
          ⟨A1, n1, c1, C3, p3, q3, RRing.set1 hrb3, (h1.keep0 hM3).set (t1.keep0 hM3) hrb3 (by decide), hown3.isL.set hown3.ty hrb3 (by decide), (t1.keep0 hM3).set hrb3 (by decide), (hown3.tyD (fun g hg hd => by have h7 := hf3 g hg; have h8 := hD g hd; omega)).set hrb3 (by decide)⟩
        have k4 := (k2.keep0 hM3).set (s2.keep0 hM3) hrb3 (by decide) (k := 1) (v := .slice C3 p3 q3)
        have y4 := (s2.keep0 hM3).set hrb3 (by decide) (k := 1) (v := .slice C3 p3 q3)
        have m5 := set_mod (w3.setCell ⟨b, 1, none⟩ (.slice C3 p3 q3)) o 0 (.slice none 0 0)
        have rb5 := rb4.keep m5 (fun e => hob e.symm) (fun g hg => .inr (NoInts.row hro4 (by decide) g hg))
        have ro5 : RRingD D ((w3.setCell ⟨b, 1, none⟩ (.slice C3 p3 q3)).setCell ⟨o, 0, none⟩ (.slice none 0 0)) o [] none :=
          ⟨none, 0, 0, B2, 0, d2, RRing.set0 hro4, IsL.nil _, k4.set y4 hro4 (by decide), TyD.nil D _, y4.set hro4 (by decide)⟩
        have mm : Mod (fun i => i = b ∨ i = o) w ((w3.setCell ⟨b, 1, none⟩ (.slice C3 p3 q3)).setCell ⟨o, 0, none⟩ (.slice none 0 0)) :=
          ((hM3.mono (fun _ _ h => h.elim)).trans' m4 (fun i _ e => .inl e)).trans' m5 (fun i _ e => .inr e)
        go_wp2
        go_ret
        exact ⟨rfl, rb5, ro5, mm⟩
    · go_simp
      refine hK.out _ _ ⟨exO, exG⟩ (fun hHeld => ?_)
      clear hK K
      try simp only [List.getElem_toArray, List.getElem_cons_succ, List.getElem_cons_zero, Act.put, List.setIfInBounds_toArray, List.set_cons_zero, List.set_cons_succ]
      refine wpAnyH_ready (rs := [5]) (by kernel_rfl) (by simp) ?_
      refine AllReadyH.cons rfl (fun K hK => ?_) AllReadyH.nil
      go_simp
      refine hK.out _ _ ⟨exO, exG⟩ (fun hHeld => ?_)
      clear hK K
      try simp only [List.getElem_toArray, List.getElem_cons_succ, List.getElem_cons_zero, Act.put, List.setIfInBounds_toArray, List.set_cons_zero, List.set_cons_succ]
      refine wpAnyH_ready (rs := [6]) (by kernel_rfl) (by simp) ?_
      refine AllReadyH.cons rfl (fun K hK => ?_) AllReadyH.nil
      have o1 : OwnL ((w.alloc (.cells #[] 3)).alloc (.cells #[.int .i64 g] 3)).drew (some ⟨w.heap.size, 0, none⟩) 0 0 [] := (OwnL.empty w).alloc _
      have r1 : IsL ((w.alloc (.cells #[] 3)).alloc (.cells #[.int .i64 g] 3)).drew A2 n2 c2 row := (h2.alloc _).alloc _
      (with_reducible refine step_app _ (by with_unfolding_all rfl) (.tmp 36) (.tmp 40) _ (by with_unfolding_all rfl) Try.underlying27 int_info _ _ _ _ (by with_unfolding_all rfl) o1 _ _ _ _ (by with_unfolding_all rfl) r1 (by omega) ?_)
      intro C2 p2 q2 w2 hp1 hp2 hown2 hg2 hat2
      have r4 : IsL w2 (some ⟨w.heap.size + 1, 0, none⟩) 1 1 [g] := one_kept (w := ((w.alloc (.cells #[] 3)).alloc (.cells #[.int .i64 g] 3)).drew) (one_second w _ g) (fun d hd => by cases hd; simp [blk]) hg2
      obtain ⟨hM2, kO, kG, kB, hf2, fB, lO, lB⟩ := steal_facts ((((Mod.refl _ w).alloc _).alloc _).drew) (blk_size w) hr hro hcy hgl hg2 hat2
      have o4 := hown2
      have hW2 := hM2
      refine hK.out _ _ ⟨kO, kG⟩ (fun hHeld => ?_)
      clear hK K
      try simp only [List.getElem_toArray, List.getElem_cons_succ, List.getElem_cons_zero, Act.put, List.setIfInBounds_toArray, List.set_cons_zero, List.set_cons_succ]
      refine wpAnyH_ready (rs := [14]) (by kernel_rfl) (by simp) ?_
      refine AllReadyH.cons rfl (fun K hK => ?_) AllReadyH.nil
      (with_reducible refine step_app _ (by with_unfolding_all rfl) (.tmp 41) (.tmp 48) _ (by with_unfolding_all rfl) Try.underlying27 int_info _ _ _ _ (by with_unfolding_all rfl) o4 _ _ _ _ (by with_unfolding_all rfl) r4 (by omega) ?_)
      intro C3 p3 q3 w3 hp3 hp4 hown3 hg3 hat3
      obtain ⟨hM3, kO3, kG3, kB3, hf3, fB3, lO3, lB3⟩ := steal_facts hW2 hf2 hr hro hcy hgl hg3 hat3
      refine hK.out _ _ ⟨kO3, kG3⟩ (fun hHeld => ?_)
      clear hK K
      try simp only [List.getElem_toArray, List.getElem_cons_succ, List.getElem_cons_zero, Act.put, List.setIfInBounds_toArray, List.set_cons_zero, List.set_cons_succ]
      (refine wpAnyH_take (i := 15) (v := ?_) rfl (by kernel_rfl) (by kernel_rfl) (by kernel_rfl) (fun _ _ _ h => h) (Or.inl ⟨by kernel_rfl, ?_⟩) (by assumption) ?_; rotate_left; focus (intro wq hSw; (try dsimp only at hSw); go_simp; try with_reducible rfl); try simp only [List.getElem_toArray, List.getElem_cons_succ, List.getElem_cons_zero, Act.put, List.setIfInBounds_toArray, List.set_cons_zero, List.set_cons_succ])
      (refine wpAnyH_take (i := 16) (v := ?_) rfl (by kernel_rfl) (by kernel_rfl) (by kernel_rfl) (fun _ _ _ h => h) (Or.inl ⟨by kernel_rfl, ?_⟩) (by assumption) ?_; rotate_left; focus (intro wq hSw; (try dsimp only at hSw); go_simp; try with_reducible rfl); try simp only [List.getElem_toArray, List.getElem_cons_succ, List.getElem_cons_zero, Act.put, List.setIfInBounds_toArray, List.set_cons_zero, List.set_cons_succ])
      refine wpAnyH_ready (rs := [17]) (by kernel_rfl) (by simp) ?_
      refine AllReadyH.cons rfl (fun K hK => ?_) AllReadyH.nil
      go_simp
      refine hK.out _ _ ⟨cell_ne2 kO3 hob, cell_ne2 kG3 hgb⟩ (fun hHeld => ?_)
      clear hK K
      try simp only [List.getElem_toArray, List.getElem_cons_succ, List.getElem_cons_zero, Act.put, List.setIfInBounds_toArray, List.set_cons_zero, List.set_cons_succ]
      refine wpAnyH_done (by kernel_rfl) ?_ _
      refine NoPanic.normal ?_
      have hrb3 := hM3.rowIs hr (fun h => h)
      have hro3 := hM3.rowIs hro (fun h => h)
      have m4 := set_mod w3 b 1 (.slice C3 p3 q3)
      have hro4 := m4.rowIs hro3 hob
      have co := hro4.cell (i := 0) (by omega)
      have fo := hro4.frozen 0
      have lo := hro4.lt
      have rb4 : RRingD D (w3.setCell ⟨b, 1, none⟩ (.slice C3 p3 q3)) b (row ++ [g]) nxt :=
        ⟨A1, n1, c1, C3, p3, q3, RRing.set1 hrb3, (h1.keep0 hM3).set (t1.keep0 hM3) hrb3 (by decide), hown3.isL.set hown3.ty hrb3 (by decide), (t1.keep0 hM3).set hrb3 (by decide), (hown3.tyD (fun g hg hd => by have h7 := hf3 g hg; have h8 := hD g hd; omega)).set hrb3 (by decide)⟩
      have k4 := (k2.keep0 hM3).set (s2.keep0 hM3) hrb3 (by decide) (k := 1) (v := .slice C3 p3 q3)
      have y4 := (s2.keep0 hM3).set hrb3 (by decide) (k := 1) (v := .slice C3 p3 q3)
      have m5 := set_mod (w3.setCell ⟨b, 1, none⟩ (.slice C3 p3 q3)) o 0 (.slice none 0 0)
      have rb5 := rb4.keep m5 (fun e => hob e.symm) (fun g hg => .inr (NoInts.row hro4 (by decide) g hg))
      have ro5 : RRingD D ((w3.setCell ⟨b, 1, none⟩ (.slice C3 p3 q3)).setCell ⟨o, 0, none⟩ (.slice none 0 0)) o [] none :=
        ⟨none, 0, 0, B2, 0, d2, RRing.set0 hro4, IsL.nil _, k4.set y4 hro4 (by decide), TyD.nil D _, y4.set hro4 (by decide)⟩
      have mm : Mod (fun i => i = b ∨ i = o) w ((w3.setCell ⟨b, 1, none⟩ (.slice C3 p3 q3)).setCell ⟨o, 0, none⟩ (.slice none 0 0)) :=
        ((hM3.mono (fun _ _ h => h.elim)).trans' m4 (fun i _ e => .inl e)).trans' m5 (fun i _ e => .inr e)
      go_wp2
      go_ret
      exact ⟨rfl, rb5, ro5, mm⟩
  · go_simp
    refine hK.out _ _ ⟨hk0, hcy⟩ (fun hHeld => ?_)
    clear hK K
    try simp only [List.getElem_toArray, List.getElem_cons_succ, List.getElem_cons_zero, Act.put, List.setIfInBounds_toArray, List.set_cons_zero, List.set_cons_succ]
    refine wpAnyH_ready (rs := [1, 13]) (by kernel_rfl) (by simp) ?_
    refine AllReadyH.cons rfl (fun K hK => ?_) (AllReadyH.cons rfl (fun K hK => ?_) AllReadyH.nil)
    · go_simp
      refine hK.out _ _ ⟨eO, eG⟩ (fun hHeld => ?_)
      clear hK K
      try simp only [List.getElem_toArray, List.getElem_cons_succ, List.getElem_cons_zero, Act.put, List.setIfInBounds_toArray, List.set_cons_zero, List.set_cons_succ]
      refine wpAnyH_ready (rs := [6, 13]) (by kernel_rfl) (by simp) ?_
      refine AllReadyH.cons rfl (fun K hK => ?_) (AllReadyH.cons rfl (fun K hK => ?_) AllReadyH.nil)
      · have o1 : OwnL (w.alloc (.cells #[] 3)).drew (some ⟨w.heap.size, 0, none⟩) 0 0 [] := OwnL.empty w
        have r1 : IsL (w.alloc (.cells #[] 3)).drew A2 n2 c2 row := h2.alloc _
        (with_reducible refine step_app _ (by with_unfolding_all rfl) (.tmp 36) (.tmp 40) _ (by with_unfolding_all rfl) Try.underlying27 int_info _ _ _ _ (by with_unfolding_all rfl) o1 _ _ _ _ (by with_unfolding_all rfl) r1 (by omega) ?_)
        intro C2 p2 q2 w2 hp1 hp2 hown2 hg2 hat2
        obtain ⟨hM2, kO, kG, kB, hf2, fB, lO, lB⟩ := steal_facts (((Mod.refl _ w).alloc _).drew) (blk_size w) hr hro hcy hgl hg2 hat2
        have kOx : (w2.alloc (.cells #[.int .i64 g] 3)).cell? ⟨o, 0, none⟩ = some (.slice (some ⟨gg, oo, none⟩) 1 d1) := (((Mod.refl (fun _ => False) w2).alloc _).cell (p := ⟨o, 0, none⟩) lO (fun h => h)).trans kO
        have kGx : (w2.alloc (.cells #[.int .i64 g] 3)).cell? ⟨gg, oo, none⟩ = some (.int .i64 g) := (((Mod.refl (fun _ => False) w2).alloc _).cell (p := ⟨gg, oo, none⟩) (Nat.lt_of_lt_of_le hgl hM2.size) (fun h => h)).trans kG
        have o4 : OwnL (w2.alloc (.cells #[.int .i64 g] 3)) C2 p2 q2 ([] ++ row) := hown2.alloc _
        have r4 : IsL (w2.alloc (.cells #[.int .i64 g] 3)) (some ⟨w2.heap.size, 0, none⟩) 1 1 [g] := IsL.one w2 g
        have hW2 : Mod (fun _ => False) w (w2.alloc (.cells #[.int .i64 g] 3)) := hM2.alloc _
        refine hK.out _ _ ⟨kO, kG⟩ (fun hHeld => ?_)
        clear hK K
        try simp only [List.getElem_toArray, List.getElem_cons_succ, List.getElem_cons_zero, Act.put, List.setIfInBounds_toArray, List.set_cons_zero, List.set_cons_succ]
        refine wpAnyH_ready (rs := [13]) (by kernel_rfl) (by simp) ?_
        refine AllReadyH.cons rfl (fun K hK => ?_) AllReadyH.nil
        go_simp
        refine hK.out _ _ ⟨kOx, kGx⟩ (fun hHeld => ?_)
        clear hK K
        try simp only [List.getElem_toArray, List.getElem_cons_succ, List.getElem_cons_zero, Act.put, List.setIfInBounds_toArray, List.set_cons_zero, List.set_cons_succ]
        refine wpAnyH_ready (rs := [14]) (by kernel_rfl) (by simp) ?_
        refine AllReadyH.cons rfl (fun K hK => ?_) AllReadyH.nil
        (with_reducible refine step_app _ (by with_unfolding_all rfl) (.tmp 41) (.tmp 48) _ (by with_unfolding_all rfl) Try.underlying27 int_info _ _ _ _ (by with_unfolding_all rfl) o4 _ _ _ _ (by with_unfolding_all rfl) r4 (by omega) ?_)
        intro C3 p3 q3 w3 hp3 hp4 hown3 hg3 hat3
        obtain ⟨hM3, kO3, kG3, kB3, hf3, fB3, lO3, lB3⟩ := steal_facts hW2 hf2 hr hro hcy hgl hg3 hat3
        refine hK.out _ _ ⟨kO3, kG3⟩ (fun hHeld => ?_)
        clear hK K
        try simp only [List.getElem_toArray, List.getElem_cons_succ, List.getElem_cons_zero, Act.put, List.setIfInBounds_toArray, List.set_cons_zero, List.set_cons_succ]
        (refine wpAnyH_take (i := 15) (v := ?_) rfl (by kernel_rfl) (by kernel_rfl) (by kernel_rfl) (fun _ _ _ h => h) (Or.inl ⟨by kernel_rfl, ?_⟩) (by assumption) ?_; rotate_left; focus (intro wq hSw; (try dsimp only at hSw); go_simp; try with_reducible rfl); try simp only [List.getElem_toArray, List.getElem_cons_succ, List.getElem_cons_zero, Act.put, List.setIfInBounds_toArray, List.set_cons_zero, List.set_cons_succ])
        (refine wpAnyH_take (i := 16) (v := ?_) rfl (by kernel_rfl) (by kernel_rfl) (by kernel_rfl) (fun _ _ _ h => h) (Or.inl ⟨by kernel_rfl, ?_⟩) (by assumption) ?_; rotate_left; focus (intro wq hSw; (try dsimp only at hSw); go_simp; try with_reducible rfl); try simp only [List.getElem_toArray, List.getElem_cons_succ, List.getElem_cons_zero, Act.put, List.setIfInBounds_toArray, List.set_cons_zero, List.set_cons_succ])
        refine wpAnyH_ready (rs := [17]) (by kernel_rfl) (by simp) ?_
        refine AllReadyH.cons rfl (fun K hK => ?_) AllReadyH.nil
        go_simp
        refine hK.out _ _ ⟨cell_ne2 kO3 hob, cell_ne2 kG3 hgb⟩ (fun hHeld => ?_)
        clear hK K
        try simp only [List.getElem_toArray, List.getElem_cons_succ, List.getElem_cons_zero, Act.put, List.setIfInBounds_toArray, List.set_cons_zero, List.set_cons_succ]
        refine wpAnyH_done (by kernel_rfl) ?_ _
        refine NoPanic.normal ?_
        have hrb3 := hM3.rowIs hr (fun h => h)
        have hro3 := hM3.rowIs hro (fun h => h)
        have m4 := set_mod w3 b 1 (.slice C3 p3 q3)
        have hro4 := m4.rowIs hro3 hob
        have co := hro4.cell (i := 0) (by omega)
        have fo := hro4.frozen 0
        have lo := hro4.lt
        have rb4 : RRingD D (w3.setCell ⟨b, 1, none⟩ (.slice C3 p3 q3)) b (row ++ [g]) nxt :=
          ⟨A1, n1, c1, C3, p3, q3, RRing.set1 hrb3, (h1.keep0 hM3).set (t1.keep0 hM3) hrb3 (by decide), hown3.isL.set hown3.ty hrb3 (by decide), (t1.keep0 hM3).set hrb3 (by decide), (hown3.tyD (fun g hg hd => by have h7 := hf3 g hg; have h8 := hD g hd; omega)).set hrb3 (by decide)⟩
        have k4 := (k2.keep0 hM3).set (s2.keep0 hM3) hrb3 (by decide) (k := 1) (v := .slice C3 p3 q3)
        have y4 := (s2.keep0 hM3).set hrb3 (by decide) (k := 1) (v := .slice C3 p3 q3)
        have m5 := set_mod (w3.setCell ⟨b, 1, none⟩ (.slice C3 p3 q3)) o 0 (.slice none 0 0)
        have rb5 := rb4.keep m5 (fun e => hob e.symm) (fun g hg => .inr (NoInts.row hro4 (by decide) g hg))
        have ro5 : RRingD D ((w3.setCell ⟨b, 1, none⟩ (.slice C3 p3 q3)).setCell ⟨o, 0, none⟩ (.slice none 0 0)) o [] none :=
          ⟨none, 0, 0, B2, 0, d2, RRing.set0 hro4, IsL.nil _, k4.set y4 hro4 (by decide), TyD.nil D _, y4.set hro4 (by decide)⟩
        have mm : Mod (fun i => i = b ∨ i = o) w ((w3.setCell ⟨b, 1, none⟩ (.slice C3 p3 q3)).setCell ⟨o, 0, none⟩ (.slice none 0 0)) :=
          ((hM3.mono (fun _ _ h => h.elim)).trans' m4 (fun i _ e => .inl e)).trans' m5 (fun i _ e => .inr e)
        go_wp2
        go_ret
        exact ⟨rfl, rb5, ro5, mm⟩
      · go_simp
        refine hK.out _ _ ⟨exO, exG⟩ (fun hHeld => ?_)
        clear hK K
        try simp only [List.getElem_toArray, List.getElem_cons_succ, List.getElem_cons_zero, Act.put, List.setIfInBounds_toArray, List.set_cons_zero, List.set_cons_succ]
        refine wpAnyH_ready (rs := [6]) (by kernel_rfl) (by simp) ?_
        refine AllReadyH.cons rfl (fun K hK => ?_) AllReadyH.nil
        have o1 : OwnL ((w.alloc (.cells #[] 3)).alloc (.cells #[.int .i64 g] 3)).drew (some ⟨w.heap.size, 0, none⟩) 0 0 [] := (OwnL.empty w).alloc _
        have r1 : IsL ((w.alloc (.cells #[] 3)).alloc (.cells #[.int .i64 g] 3)).drew A2 n2 c2 row := (h2.alloc _).alloc _
        (with_reducible refine step_app _ (by with_unfolding_all rfl) (.tmp 36) (.tmp 40) _ (by with_unfolding_all rfl) Try.underlying27 int_info _ _ _ _ (by with_unfolding_all rfl) o1 _ _ _ _ (by with_unfolding_all rfl) r1 (by omega) ?_)
        intro C2 p2 q2 w2 hp1 hp2 hown2 hg2 hat2
        have r4 : IsL w2 (some ⟨w.heap.size + 1, 0, none⟩) 1 1 [g] := one_kept (w := ((w.alloc (.cells #[] 3)).alloc (.cells #[.int .i64 g] 3)).drew) (one_second w _ g) (fun d hd => by cases hd; simp [blk]) hg2
        obtain ⟨hM2, kO, kG, kB, hf2, fB, lO, lB⟩ := steal_facts ((((Mod.refl _ w).alloc _).alloc _).drew) (blk_size w) hr hro hcy hgl hg2 hat2
        have o4 := hown2
        have hW2 := hM2
        refine hK.out _ _ ⟨kO, kG⟩ (fun hHeld => ?_)
        clear hK K
        try simp only [List.getElem_toArray, List.getElem_cons_succ, List.getElem_cons_zero, Act.put, List.setIfInBounds_toArray, List.set_cons_zero, List.set_cons_succ]
        refine wpAnyH_ready (rs := [14]) (by kernel_rfl) (by simp) ?_
        refine AllReadyH.cons rfl (fun K hK => ?_) AllReadyH.nil
        (with_reducible refine step_app _ (by with_unfolding_all rfl) (.tmp 41) (.tmp 48) _ (by with_unfolding_all rfl) Try.underlying27 int_info _ _ _ _ (by with_unfolding_all rfl) o4 _ _ _ _ (by with_unfolding_all rfl) r4 (by omega) ?_)
        intro C3 p3 q3 w3 hp3 hp4 hown3 hg3 hat3
        obtain ⟨hM3, kO3, kG3, kB3, hf3, fB3, lO3, lB3⟩ := steal_facts hW2 hf2 hr hro hcy hgl hg3 hat3
        refine hK.out _ _ ⟨kO3, kG3⟩ (fun hHeld => ?_)
        clear hK K
        try simp only [List.getElem_toArray, List.getElem_cons_succ, List.getElem_cons_zero, Act.put, List.setIfInBounds_toArray, List.set_cons_zero, List.set_cons_succ]
        (refine wpAnyH_take (i := 15) (v := ?_) rfl (by kernel_rfl) (by kernel_rfl) (by kernel_rfl) (fun _ _ _ h => h) (Or.inl ⟨by kernel_rfl, ?_⟩) (by assumption) ?_; rotate_left; focus (intro wq hSw; (try dsimp only at hSw); go_simp; try with_reducible rfl); try simp only [List.getElem_toArray, List.getElem_cons_succ, List.getElem_cons_zero, Act.put, List.setIfInBounds_toArray, List.set_cons_zero, List.set_cons_succ])
        (refine wpAnyH_take (i := 16) (v := ?_) rfl (by kernel_rfl) (by kernel_rfl) (by kernel_rfl) (fun _ _ _ h => h) (Or.inl ⟨by kernel_rfl, ?_⟩) (by assumption) ?_; rotate_left; focus (intro wq hSw; (try dsimp only at hSw); go_simp; try with_reducible rfl); try simp only [List.getElem_toArray, List.getElem_cons_succ, List.getElem_cons_zero, Act.put, List.setIfInBounds_toArray, List.set_cons_zero, List.set_cons_succ])
        refine wpAnyH_ready (rs := [17]) (by kernel_rfl) (by simp) ?_
        refine AllReadyH.cons rfl (fun K hK => ?_) AllReadyH.nil
        go_simp
        refine hK.out _ _ ⟨cell_ne2 kO3 hob, cell_ne2 kG3 hgb⟩ (fun hHeld => ?_)
        clear hK K
        try simp only [List.getElem_toArray, List.getElem_cons_succ, List.getElem_cons_zero, Act.put, List.setIfInBounds_toArray, List.set_cons_zero, List.set_cons_succ]
        refine wpAnyH_done (by kernel_rfl) ?_ _
        refine NoPanic.normal ?_
        have hrb3 := hM3.rowIs hr (fun h => h)
        have hro3 := hM3.rowIs hro (fun h => h)
        have m4 := set_mod w3 b 1 (.slice C3 p3 q3)
        have hro4 := m4.rowIs hro3 hob
        have co := hro4.cell (i := 0) (by omega)
        have fo := hro4.frozen 0
        have lo := hro4.lt
        have rb4 : RRingD D (w3.setCell ⟨b, 1, none⟩ (.slice C3 p3 q3)) b (row ++ [g]) nxt :=
          ⟨A1, n1, c1, C3, p3, q3, RRing.set1 hrb3, (h1.keep0 hM3).set (t1.keep0 hM3) hrb3 (by decide), hown3.isL.set hown3.ty hrb3 (by decide), (t1.keep0 hM3).set hrb3 (by decide), (hown3.tyD (fun g hg hd => by have h7 := hf3 g hg; have h8 := hD g hd; omega)).set hrb3 (by decide)⟩
        have k4 := (k2.keep0 hM3).set (s2.keep0 hM3) hrb3 (by decide) (k := 1) (v := .slice C3 p3 q3)
        have y4 := (s2.keep0 hM3).set hrb3 (by decide) (k := 1) (v := .slice C3 p3 q3)
        have m5 := set_mod (w3.setCell ⟨b, 1, none⟩ (.slice C3 p3 q3)) o 0 (.slice none 0 0)
        have rb5 := rb4.keep m5 (fun e => hob e.symm) (fun g hg => .inr (NoInts.row hro4 (by decide) g hg))
        have ro5 : RRingD D ((w3.setCell ⟨b, 1, none⟩ (.slice C3 p3 q3)).setCell ⟨o, 0, none⟩ (.slice none 0 0)) o [] none :=
          ⟨none, 0, 0, B2, 0, d2, RRing.set0 hro4, IsL.nil _, k4.set y4 hro4 (by decide), TyD.nil D _, y4.set hro4 (by decide)⟩
        have mm : Mod (fun i => i = b ∨ i = o) w ((w3.setCell ⟨b, 1, none⟩ (.slice C3 p3 q3)).setCell ⟨o, 0, none⟩ (.slice none 0 0)) :=
          ((hM3.mono (fun _ _ h => h.elim)).trans' m4 (fun i _ e => .inl e)).trans' m5 (fun i _ e => .inr e)
        go_wp2
        go_ret
        exact ⟨rfl, rb5, ro5, mm⟩
    · go_simp
      refine hK.out _ _ ⟨xO, xG⟩ (fun hHeld => ?_)
      clear hK K
      try simp only [List.getElem_toArray, List.getElem_cons_succ, List.getElem_cons_zero, Act.put, List.setIfInBounds_toArray, List.set_cons_zero, List.set_cons_succ]
      refine wpAnyH_ready (rs := [1]) (by kernel_rfl) (by simp) ?_
      refine AllReadyH.cons rfl (fun K hK => ?_) AllReadyH.nil
      go_simp
      refine hK.out _ _ ⟨xeO, xeG⟩ (fun hHeld => ?_)
      clear hK K
      try simp only [List.getElem_toArray, List.getElem_cons_succ, List.getElem_cons_zero, Act.put, List.setIfInBounds_toArray, List.set_cons_zero, List.set_cons_succ]
      refine wpAnyH_ready (rs := [6]) (by kernel_rfl) (by simp) ?_
      refine AllReadyH.cons rfl (fun K hK => ?_) AllReadyH.nil
      have o1 : OwnL ((w.alloc (.cells #[.int .i64 g] 3)).alloc (.cells #[] 3)).drew (some ⟨w.heap.size + 1, 0, none⟩) 0 0 [] := own_second w _
      have r1 : IsL ((w.alloc (.cells #[.int .i64 g] 3)).alloc (.cells #[] 3)).drew A2 n2 c2 row := (h2.alloc _).alloc _
      (with_reducible refine step_app _ (by with_unfolding_all rfl) (.tmp 36) (.tmp 40) _ (by with_unfolding_all rfl) Try.underlying27 int_info _ _ _ _ (by with_unfolding_all rfl) o1 _ _ _ _ (by with_unfolding_all rfl) r1 (by omega) ?_)
      intro C2 p2 q2 w2 hp1 hp2 hown2 hg2 hat2
      have r4 : IsL w2 (some ⟨w.heap.size, 0, none⟩) 1 1 [g] := one_kept (w := ((w.alloc (.cells #[.int .i64 g] 3)).alloc (.cells #[] 3)).drew) ((IsL.one w g).alloc _) (fun d hd => by cases hd; simp [blk]) hg2
      obtain ⟨hM2, kO, kG, kB, hf2, fB, lO, lB⟩ := steal_facts ((((Mod.refl _ w).alloc _).alloc _).drew) (blk_second w) hr hro hcy hgl hg2 hat2
      have o4 := hown2
      have hW2 := hM2
      refine hK.out _ _ ⟨kO, kG⟩ (fun hHeld => ?_)
      clear hK K
      try simp only [List.getElem_toArray, List.getElem_cons_succ, List.getElem_cons_zero, Act.put, List.setIfInBounds_toArray, List.set_cons_zero, List.set_cons_succ]
      refine wpAnyH_ready (rs := [14]) (by kernel_rfl) (by simp) ?_
      refine AllReadyH.cons rfl (fun K hK => ?_) AllReadyH.nil
      (with_reducible refine step_app _ (by with_unfolding_all rfl) (.tmp 41) (.tmp 48) _ (by with_unfolding_all rfl) Try.underlying27 int_info _ _ _ _ (by with_unfolding_all rfl) o4 _ _ _ _ (by with_unfolding_all rfl) r4 (by omega) ?_)
      intro C3 p3 q3 w3 hp3 hp4 hown3 hg3 hat3
      obtain ⟨hM3, kO3, kG3, kB3, hf3, fB3, lO3, lB3⟩ := steal_facts hW2 hf2 hr hro hcy hgl hg3 hat3
      refine hK.out _ _ ⟨kO3, kG3⟩ (fun hHeld => ?_)
      clear hK K
      try simp only [List.getElem_toArray, List.getElem_cons_succ, List.getElem_cons_zero, Act.put, List.setIfInBounds_toArray, List.set_cons_zero, List.set_cons_succ]
      (refine wpAnyH_take (i := 15) (v := ?_) rfl (by kernel_rfl) (by kernel_rfl) (by kernel_rfl) (fun _ _ _ h => h) (Or.inl ⟨by kernel_rfl, ?_⟩) (by assumption) ?_; rotate_left; focus (intro wq hSw; (try dsimp only at hSw); go_simp; try with_reducible rfl); try simp only [List.getElem_toArray, List.getElem_cons_succ, List.getElem_cons_zero, Act.put, List.setIfInBounds_toArray, List.set_cons_zero, List.set_cons_succ])
      (refine wpAnyH_take (i := 16) (v := ?_) rfl (by kernel_rfl) (by kernel_rfl) (by kernel_rfl) (fun _ _ _ h => h) (Or.inl ⟨by kernel_rfl, ?_⟩) (by assumption) ?_; rotate_left; focus (intro wq hSw; (try dsimp only at hSw); go_simp; try with_reducible rfl); try simp only [List.getElem_toArray, List.getElem_cons_succ, List.getElem_cons_zero, Act.put, List.setIfInBounds_toArray, List.set_cons_zero, List.set_cons_succ])
      refine wpAnyH_ready (rs := [17]) (by kernel_rfl) (by simp) ?_
      refine AllReadyH.cons rfl (fun K hK => ?_) AllReadyH.nil
      go_simp
      refine hK.out _ _ ⟨cell_ne2 kO3 hob, cell_ne2 kG3 hgb⟩ (fun hHeld => ?_)
      clear hK K
      try simp only [List.getElem_toArray, List.getElem_cons_succ, List.getElem_cons_zero, Act.put, List.setIfInBounds_toArray, List.set_cons_zero, List.set_cons_succ]
      refine wpAnyH_done (by kernel_rfl) ?_ _
      refine NoPanic.normal ?_
      have hrb3 := hM3.rowIs hr (fun h => h)
      have hro3 := hM3.rowIs hro (fun h => h)
      have m4 := set_mod w3 b 1 (.slice C3 p3 q3)
      have hro4 := m4.rowIs hro3 hob
      have co := hro4.cell (i := 0) (by omega)
      have fo := hro4.frozen 0
      have lo := hro4.lt
      have rb4 : RRingD D (w3.setCell ⟨b, 1, none⟩ (.slice C3 p3 q3)) b (row ++ [g]) nxt :=
        ⟨A1, n1, c1, C3, p3, q3, RRing.set1 hrb3, (h1.keep0 hM3).set (t1.keep0 hM3) hrb3 (by decide), hown3.isL.set hown3.ty hrb3 (by decide), (t1.keep0 hM3).set hrb3 (by decide), (hown3.tyD (fun g hg hd => by have h7 := hf3 g hg; have h8 := hD g hd; omega)).set hrb3 (by decide)⟩
      have k4 := (k2.keep0 hM3).set (s2.keep0 hM3) hrb3 (by decide) (k := 1) (v := .slice C3 p3 q3)
      have y4 := (s2.keep0 hM3).set hrb3 (by decide) (k := 1) (v := .slice C3 p3 q3)
      have m5 := set_mod (w3.setCell ⟨b, 1, none⟩ (.slice C3 p3 q3)) o 0 (.slice none 0 0)
      have rb5 := rb4.keep m5 (fun e => hob e.symm) (fun g hg => .inr (NoInts.row hro4 (by decide) g hg))
      have ro5 : RRingD D ((w3.setCell ⟨b, 1, none⟩ (.slice C3 p3 q3)).setCell ⟨o, 0, none⟩ (.slice none 0 0)) o [] none :=
        ⟨none, 0, 0, B2, 0, d2, RRing.set0 hro4, IsL.nil _, k4.set y4 hro4 (by decide), TyD.nil D _, y4.set hro4 (by decide)⟩
      have mm : Mod (fun i => i = b ∨ i = o) w ((w3.setCell ⟨b, 1, none⟩ (.slice C3 p3 q3)).setCell ⟨o, 0, none⟩ (.slice none 0 0)) :=
        ((hM3.mono (fun _ _ h => h.elim)).trans' m4 (fun i _ e => .inl e)).trans' m5 (fun i _ e => .inr e)
      go_wp2
      go_ret
      exact ⟨rfl, rb5, ro5, mm⟩
  · go_simp
    refine hK.out _ _ ⟨xO, xG⟩ (fun hHeld => ?_)
    clear hK K
    try simp only [List.getElem_toArray, List.getElem_cons_succ, List.getElem_cons_zero, Act.put, List.setIfInBounds_toArray, List.set_cons_zero, List.set_cons_succ]
    refine wpAnyH_ready (rs := [1, 5]) (by kernel_rfl) (by simp) ?_
    refine AllReadyH.cons rfl (fun K hK => ?_) (AllReadyH.cons rfl (fun K hK => ?_) AllReadyH.nil)
    · go_simp
      refine hK.out _ _ ⟨xeO, xeG⟩ (fun hHeld => ?_)
      clear hK K
      try simp only [List.getElem_toArray, List.getElem_cons_succ, List.getElem_cons_zero, Act.put, List.setIfInBounds_toArray, List.set_cons_zero, List.set_cons_succ]
      refine wpAnyH_ready (rs := [5]) (by kernel_rfl) (by simp) ?_
      refine AllReadyH.cons rfl (fun K hK => ?_) AllReadyH.nil
      go_simp
      refine hK.out _ _ ⟨xeO, xeG⟩ (fun hHeld => ?_)
      clear hK K
      try simp only [List.getElem_toArray, List.getElem_cons_succ, List.getElem_cons_zero, Act.put, List.setIfInBounds_toArray, List.set_cons_zero, List.set_cons_succ]
      refine wpAnyH_ready (rs := [6]) (by kernel_rfl) (by simp) ?_
      refine AllReadyH.cons rfl (fun K hK => ?_) AllReadyH.nil
      have o1 : OwnL ((w.alloc (.cells #[.int .i64 g] 3)).alloc (.cells #[] 3)).drew (some ⟨w.heap.size + 1, 0, none⟩) 0 0 [] := own_second w _
      have r1 : IsL ((w.alloc (.cells #[.int .i64 g] 3)).alloc (.cells #[] 3)).drew A2 n2 c2 row := (h2.alloc _).alloc _
      (with_reducible refine step_app _ (by with_unfolding_all rfl) (.tmp 36) (.tmp 40) _ (by with_unfolding_all rfl) Try.underlying27 int_info _ _ _ _ (by with_unfolding_all rfl) o1 _ _ _ _ (by with_unfolding_all rfl) r1 (by omega) ?_)
      intro C2 p2 q2 w2 hp1 hp2 hown2 hg2 hat2
      have r4 : IsL w2 (some ⟨w.heap.size, 0, none⟩) 1 1 [g] := one_kept (w := ((w.alloc (.cells #[.int .i64 g] 3)).alloc (.cells #[] 3)).drew) ((IsL.one w g).alloc _) (fun d hd => by cases hd; simp [blk]) hg2
      obtain ⟨hM2, kO, kG, kB, hf2, fB, lO, lB⟩ := steal_facts ((((Mod.refl _ w).alloc _).alloc _).drew) (blk_second w) hr hro hcy hgl hg2 hat2
      have o4 := hown2
      have hW2 := hM2
      refine hK.out _ _ ⟨kO, kG⟩ (fun hHeld => ?_)
      clear hK K
      try simp only [List.getElem_toArray, List.getElem_cons_succ, List.getElem_cons_zero, Act.put, List.setIfInBounds_toArray, List.set_cons_zero, List.set_cons_succ]
      refine wpAnyH_ready (rs := [14]) (by kernel_rfl) (by simp) ?_
      refine AllReadyH.cons rfl (fun K hK => ?_) AllReadyH.nil
      (with_reducible refine step_app _ (by with_unfolding_all rfl) (.tmp 41) (.tmp 48) _ (by with_unfolding_all rfl) Try.underlying27 int_info _ _ _ _ (by with_unfolding_all rfl) o4 _ _ _ _ (by with_unfolding_all rfl) r4 (by omega) ?_)
      intro C3 p3 q3 w3 hp3 hp4 hown3 hg3 hat3
      obtain ⟨hM3, kO3, kG3, kB3, hf3, fB3, lO3, lB3⟩ := steal_facts hW2 hf2 hr hro hcy hgl hg3 hat3
      refine hK.out _ _ ⟨kO3, kG3⟩ (fun hHeld => ?_)
      clear hK K
      try simp only [List.getElem_toArray, List.getElem_cons_succ, List.getElem_cons_zero, Act.put, List.setIfInBounds_toArray, List.set_cons_zero, List.set_cons_succ]
      (refine wpAnyH_take (i := 15) (v := ?_) rfl (by kernel_rfl) (by kernel_rfl) (by kernel_rfl) (fun _ _ _ h => h) (Or.inl ⟨by kernel_rfl, ?_⟩) (by assumption) ?_; rotate_left; focus (intro wq hSw; (try dsimp only at hSw); go_simp; try with_reducible rfl); try simp only [List.getElem_toArray, List.getElem_cons_succ, List.getElem_cons_zero, Act.put, List.setIfInBounds_toArray, List.set_cons_zero, List.set_cons_succ])
      (refine wpAnyH_take (i := 16) (v := ?_) rfl (by kernel_rfl) (by kernel_rfl) (by kernel_rfl) (fun _ _ _ h => h) (Or.inl ⟨by kernel_rfl, ?_⟩) (by assumption) ?_; rotate_left; focus (intro wq hSw; (try dsimp only at hSw); go_simp; try with_reducible rfl); try simp only [List.getElem_toArray, List.getElem_cons_succ, List.getElem_cons_zero, Act.put, List.setIfInBounds_toArray, List.set_cons_zero, List.set_cons_succ])
      refine wpAnyH_ready (rs := [17]) (by kernel_rfl) (by simp) ?_
      refine AllReadyH.cons rfl (fun K hK => ?_) AllReadyH.nil
      go_simp
      refine hK.out _ _ ⟨cell_ne2 kO3 hob, cell_ne2 kG3 hgb⟩ (fun hHeld => ?_)
      clear hK K
      try simp only [List.getElem_toArray, List.getElem_cons_succ, List.getElem_cons_zero, Act.put, List.setIfInBounds_toArray, List.set_cons_zero, List.set_cons_succ]
      refine wpAnyH_done (by kernel_rfl) ?_ _
      refine NoPanic.normal ?_
      have hrb3 := hM3.rowIs hr (fun h => h)
      have hro3 := hM3.rowIs hro (fun h => h)
      have m4 := set_mod w3 b 1 (.slice C3 p3 q3)
      have hro4 := m4.rowIs hro3 hob
      have co := hro4.cell (i := 0) (by omega)
      have fo := hro4.frozen 0
      have lo := hro4.lt
      have rb4 : RRingD D (w3.setCell ⟨b, 1, none⟩ (.slice C3 p3 q3)) b (row ++ [g]) nxt :=
        ⟨A1, n1, c1, C3, p3, q3, RRing.set1 hrb3, (h1.keep0 hM3).set (t1.keep0 hM3) hrb3 (by decide), hown3.isL.set hown3.ty hrb3 (by decide), (t1.keep0 hM3).set hrb3 (by decide), (hown3.tyD (fun g hg hd => by have h7 := hf3 g hg; have h8 := hD g hd; omega)).set hrb3 (by decide)⟩
      have k4 := (k2.keep0 hM3).set (s2.keep0 hM3) hrb3 (by decide) (k := 1) (v := .slice C3 p3 q3)
      have y4 := (s2.keep0 hM3).set hrb3 (by decide) (k := 1) (v := .slice C3 p3 q3)
      have m5 := set_mod (w3.setCell ⟨b, 1, none⟩ (.slice C3 p3 q3)) o 0 (.slice none 0 0)
      have rb5 := rb4.keep m5 (fun e => hob e.symm) (fun g hg => .inr (NoInts.row hro4 (by decide) g hg))
      have ro5 : RRingD D ((w3.setCell ⟨b, 1, none⟩ (.slice C3 p3 q3)).setCell ⟨o, 0, none⟩ (.slice none 0 0)) o [] none :=
        ⟨none, 0, 0, B2, 0, d2, RRing.set0 hro4, IsL.nil _, k4.set y4 hro4 (by decide), TyD.nil D _, y4.set hro4 (by decide)⟩
      have mm : Mod (fun i => i = b ∨ i = o) w ((w3.setCell ⟨b, 1, none⟩ (.slice C3 p3 q3)).setCell ⟨o, 0, none⟩ (.slice none 0 0)) :=
        ((hM3.mono (fun _ _ h => h.elim)).trans' m4 (fun i _ e => .inl e)).trans' m5 (fun i _ e => .inr e)
      go_wp2
      go_ret
      exact ⟨rfl, rb5, ro5, mm⟩
    · go_simp
      refine hK.out _ _ ⟨xO, xG⟩ (fun hHeld => ?_)
      clear hK K
      try simp only [List.getElem_toArray, List.getElem_cons_succ, List.getElem_cons_zero, Act.put, List.setIfInBounds_toArray, List.set_cons_zero, List.set_cons_succ]
      refine wpAnyH_ready (rs := [1]) (by kernel_rfl) (by simp) ?_
      refine AllReadyH.cons rfl (fun K hK => ?_) AllReadyH.nil
      go_simp
      refine hK.out _ _ ⟨xeO, xeG⟩ (fun hHeld => ?_)
      clear hK K
      try simp only [List.getElem_toArray, List.getElem_cons_succ, List.getElem_cons_zero, Act.put, List.setIfInBounds_toArray, List.set_cons_zero, List.set_cons_succ]
      refine wpAnyH_ready (rs := [6]) (by kernel_rfl) (by simp) ?_
      refine AllReadyH.cons rfl (fun K hK => ?_) AllReadyH.nil
      have o1 : OwnL ((w.alloc (.cells #[.int .i64 g] 3)).alloc (.cells #[] 3)).drew (some ⟨w.heap.size + 1, 0, none⟩) 0 0 [] := own_second w _
      have r1 : IsL ((w.alloc (.cells #[.int .i64 g] 3)).alloc (.cells #[] 3)).drew A2 n2 c2 row := (h2.alloc _).alloc _
      (with_reducible refine step_app _ (by with_unfolding_all rfl) (.tmp 36) (.tmp 40) _ (by with_unfolding_all rfl) Try.underlying27 int_info _ _ _ _ (by with_unfolding_all rfl) o1 _ _ _ _ (by with_unfolding_all rfl) r1 (by omega) ?_)
      intro C2 p2 q2 w2 hp1 hp2 hown2 hg2 hat2
      have r4 : IsL w2 (some ⟨w.heap.size, 0, none⟩) 1 1 [g] := one_kept (w := ((w.alloc (.cells #[.int .i64 g] 3)).alloc (.cells #[] 3)).drew) ((IsL.one w g).alloc _) (fun d hd => by cases hd; simp [blk]) hg2
      obtain ⟨hM2, kO, kG, kB, hf2, fB, lO, lB⟩ := steal_facts ((((Mod.refl _ w).alloc _).alloc _).drew) (blk_second w) hr hro hcy hgl hg2 hat2
      have o4 := hown2
      have hW2 := hM2
      refine hK.out _ _ ⟨kO, kG⟩ (fun hHeld => ?_)
      clear hK K
      try simp only [List.getElem_toArray, List.getElem_cons_succ, List.getElem_cons_zero, Act.put, List.setIfInBounds_toArray, List.set_cons_zero, List.set_cons_succ]
      refine wpAnyH_ready (rs := [14]) (by kernel_rfl) (by simp) ?_
      refine AllReadyH.cons rfl (fun K hK => ?_) AllReadyH.nil
      (with_reducible refine step_app _ (by with_unfolding_all rfl) (.tmp 41) (.tmp 48) _ (by with_unfolding_all rfl) Try.underlying27 int_info _ _ _ _ (by with_unfolding_all rfl) o4 _ _ _ _ (by with_unfolding_all rfl) r4 (by omega) ?_)
      intro C3 p3 q3 w3 hp3 hp4 hown3 hg3 hat3
      obtain ⟨hM3, kO3, kG3, kB3, hf3, fB3, lO3, lB3⟩ := steal_facts hW2 hf2 hr hro hcy hgl hg3 hat3
      refine hK.out _ _ ⟨kO3, kG3⟩ (fun hHeld => ?_)
      clear hK K
      try simp only [List.getElem_toArray, List.getElem_cons_succ, List.getElem_cons_zero, Act.put, List.setIfInBounds_toArray, List.set_cons_zero, List.set_cons_succ]
      (refine wpAnyH_take (i := 15) (v := ?_) rfl (by kernel_rfl) (by kernel_rfl) (by kernel_rfl) (fun _ _ _ h => h) (Or.inl ⟨by kernel_rfl, ?_⟩) (by assumption) ?_; rotate_left; focus (intro wq hSw; (try dsimp only at hSw); go_simp; try with_reducible rfl); try simp only [List.getElem_toArray, List.getElem_cons_succ, List.getElem_cons_zero, Act.put, List.setIfInBounds_toArray, List.set_cons_zero, List.set_cons_succ])
      (refine wpAnyH_take (i := 16) (v := ?_) rfl (by kernel_rfl) (by kernel_rfl) (by kernel_rfl) (fun _ _ _ h => h) (Or.inl ⟨by kernel_rfl, ?_⟩) (by assumption) ?_; rotate_left; focus (intro wq hSw; (try dsimp only at hSw); go_simp; try with_reducible rfl); try simp only [List.getElem_toArray, List.getElem_cons_succ, List.getElem_cons_zero, Act.put, List.setIfInBounds_toArray, List.set_cons_zero, List.set_cons_succ])
      refine wpAnyH_ready (rs := [17]) (by kernel_rfl) (by simp) ?_
      refine AllReadyH.cons rfl (fun K hK => ?_) AllReadyH.nil
      go_simp
      refine hK.out _ _ ⟨cell_ne2 kO3 hob, cell_ne2 kG3 hgb⟩ (fun hHeld => ?_)
      clear hK K
      try simp only [List.getElem_toArray, List.getElem_cons_succ, List.getElem_cons_zero, Act.put, List.setIfInBounds_toArray, List.set_cons_zero, List.set_cons_succ]
      refine wpAnyH_done (by kernel_rfl) ?_ _
      refine NoPanic.normal ?_
      have hrb3 := hM3.rowIs hr (fun h => h)
      have hro3 := hM3.rowIs hro (fun h => h)
      have m4 := set_mod w3 b 1 (.slice C3 p3 q3)
      have hro4 := m4.rowIs hro3 hob
      have co := hro4.cell (i := 0) (by omega)
      have fo := hro4.frozen 0
      have lo := hro4.lt
      have rb4 : RRingD D (w3.setCell ⟨b, 1, none⟩ (.slice C3 p3 q3)) b (row ++ [g]) nxt :=
        ⟨A1, n1, c1, C3, p3, q3, RRing.set1 hrb3, (h1.keep0 hM3).set (t1.keep0 hM3) hrb3 (by decide), hown3.isL.set hown3.ty hrb3 (by decide), (t1.keep0 hM3).set hrb3 (by decide), (hown3.tyD (fun g hg hd => by have h7 := hf3 g hg; have h8 := hD g hd; omega)).set hrb3 (by decide)⟩
      have k4 := (k2.keep0 hM3).set (s2.keep0 hM3) hrb3 (by decide) (k := 1) (v := .slice C3 p3 q3)
      have y4 := (s2.keep0 hM3).set hrb3 (by decide) (k := 1) (v := .slice C3 p3 q3)
      have m5 := set_mod (w3.setCell ⟨b, 1, none⟩ (.slice C3 p3 q3)) o 0 (.slice none 0 0)
      have rb5 := rb4.keep m5 (fun e => hob e.symm) (fun g hg => .inr (NoInts.row hro4 (by decide) g hg))
      have ro5 : RRingD D ((w3.setCell ⟨b, 1, none⟩ (.slice C3 p3 q3)).setCell ⟨o, 0, none⟩ (.slice none 0 0)) o [] none :=
        ⟨none, 0, 0, B2, 0, d2, RRing.set0 hro4, IsL.nil _, k4.set y4 hro4 (by decide), TyD.nil D _, y4.set hro4 (by decide)⟩
      have mm : Mod (fun i => i = b ∨ i = o) w ((w3.setCell ⟨b, 1, none⟩ (.slice C3 p3 q3)).setCell ⟨o, 0, none⟩ (.slice none 0 0)) :=
        ((hM3.mono (fun _ _ h => h.elim)).trans' m4 (fun i _ e => .inl e)).trans' m5 (fun i _ e => .inr e)
      go_wp2
      go_ret
      exact ⟨rfl, rb5, ro5, mm⟩

set_option maxHeartbeats 2000000 in
set_option maxRecDepth 100000 in
theorem dsteal_row (b o : Nat) (row orow : List Int) (nxt onxt : Option Int) (w : World) (hD : ∀ g, D g → g < w.heap.size) (h : RRingD D w b row nxt) (ho : RRingD D w o orow onxt) (hne : b ≠ o) (hn0 : orow ≠ []) (hlen : row.length ≤ 256) (holen : orow.length ≤ 256) :
    Calls Try.prog 36 #[.pointer (some ⟨b, 0, none⟩), .pointer (some ⟨o, 0, none⟩)] w fun e w' =>
      e = .returned (.int .i64 (min (orow.length - orow.length / 2) (256 - row.length) : Nat)) ∧ RRingD D w' b (row ++ orow.take (min (orow.length - orow.length / 2) (256 - row.length))) nxt ∧
      RRingD D w' o (orow.drop (min (orow.length - orow.length / 2) (256 - row.length))) onxt ∧ Mod (fun i => i = b ∨ i = o) w w' := by
  obtain ⟨A1, n1, c1, A2, n2, c2, hr, h1, h2, t1, t2⟩ := h
  obtain ⟨B1, m1, d1, B2, m2, d2, hro, k1, k2, s1, s2⟩ := ho
  have hp := rr_ptr_ne hro hr (fun e => hne e.symm)
  have hc1 : w.cell? ⟨b, 1, none⟩ = some (.slice A2 n2 c2) := hr.cell (by omega)
  have hk1 : w.cell? ⟨o, 1, none⟩ = some (.slice B2 m2 d2) := hro.cell (by omega)
  have hf1 := hr.frozen 1
  have hm0 : 0 < m2 := by rw [← k2.len]; exact List.length_pos_iff.2 hn0
  rw [h2.len] at hlen ⊢
  rw [k2.len] at holen ⊢
  obtain ⟨K, hK⟩ : ∃ K, K = min (m2 - m2 / 2) (256 - n2) := ⟨_, rfl⟩
  rw [← hK]
  obtain ⟨Q, hQ⟩ : ∃ Q : Nat, (m2 : Int) / 2 = (Q : Int) := ⟨m2 / 2, by omega⟩
  have hKm : K ≤ m2 := by omega
  have hmin := run_min_two (P := Try.prog) #[3, 3] 3 ((m2 : Int) - (Q : Int)) (256 - (n2 : Int)) (K : Int) (by omega)
  have hQm : Q ≤ m2 := by omega
  have hz1 : decide ((m2 : Int) = 0) = false := decide_eq_false (by omega)
  have hz2 : ((m2 : Int) == 0) = false := by rw [beq_eq_false_iff_ne]; omega
  have hbl := hr.lt
  have hol := hro.lt
  have hob : o ≠ b := fun e => hne e.symm
  have hrt := k2.take (k := K) hKm
  have hcap := k2.le
  have hcut2 := cut_high2 (P := Try.prog) 27 Try.underlying27 int_info B2 m2 d2 K (by omega)
  obtain ⟨A4, n4, c4, hcut, hL4, hblk4⟩ := cut_low (P := Try.prog) 27 Try.underlying27 int_info B2 m2 d2 K hKm
  have eO : (w.alloc (.cells #[] 3)).cell? ⟨o, 1, none⟩ = some (.slice B2 m2 d2) := (((Mod.refl (fun _ => False) w).alloc _).cell (p := ⟨o, 1, none⟩) hol (fun h => h)).trans hk1
  have eB : (w.alloc (.cells #[] 3)).cell? ⟨b, 1, none⟩ = some (.slice A2 n2 c2) := (((Mod.refl (fun _ => False) w).alloc _).cell (p := ⟨b, 1, none⟩) hbl (fun h => h)).trans hc1
  have hKi : (0 : Int) ≤ (K : Int) := by omega
  have hKj : (K : Int) ≤ (d2 : Int) := by omega
  clear hK
  go_enter Try.func36, Try.ntmps36
  go_wp2
  refine wp_region_noPanic ?_
  refine wp_region_held_drew (S := fun W => W.cell? ⟨o, 1, none⟩ = some (.slice B2 m2 d2)) (by kernel_rfl) hk1 (fun hHeld => ?_)
  (refine wpAnyH_take (i := 0) (v := ?_) rfl (by kernel_rfl) (by kernel_rfl) (by kernel_rfl) (fun _ _ _ h => h) (Or.inl ⟨by kernel_rfl, ?_⟩) (by assumption) ?_; rotate_left; focus (intro wq hSw; (try dsimp only at hSw); go_simp; try with_reducible rfl); try simp only [List.getElem_toArray, List.getElem_cons_succ, List.getElem_cons_zero, Act.put, List.setIfInBounds_toArray, List.set_cons_zero, List.set_cons_succ])
  (refine wpAnyH_take (i := 2) (v := ?_) rfl (by kernel_rfl) (by kernel_rfl) (by kernel_rfl) (fun _ _ _ h => h) (Or.inl ⟨by kernel_rfl, ?_⟩) (by assumption) ?_; rotate_left; focus (intro wq hSw; (try dsimp only at hSw); go_simp; try with_reducible rfl); try simp only [List.getElem_toArray, List.getElem_cons_succ, List.getElem_cons_zero, Act.put, List.setIfInBounds_toArray, List.set_cons_zero, List.set_cons_succ])
  (refine wpAnyH_take (i := 3) (v := ?_) rfl (by kernel_rfl) (by kernel_rfl) (by kernel_rfl) (fun _ _ _ h => h) (Or.inl ⟨by kernel_rfl, ?_⟩) (by assumption) ?_; rotate_left; focus (intro wq hSw; (try dsimp only at hSw); go_simp; try with_reducible rfl); try simp only [List.getElem_toArray, List.getElem_cons_succ, List.getElem_cons_zero, Act.put, List.setIfInBounds_toArray, List.set_cons_zero, List.set_cons_succ])
  (refine wpAnyH_take (i := 4) (v := ?_) rfl (by kernel_rfl) (by kernel_rfl) (by kernel_rfl) (fun _ _ _ h => h) (Or.inl ⟨by kernel_rfl, ?_⟩) (by assumption) ?_; rotate_left; focus (intro wq hSw; (try dsimp only at hSw); go_simp; try with_reducible rfl); try simp only [List.getElem_toArray, List.getElem_cons_succ, List.getElem_cons_zero, Act.put, List.setIfInBounds_toArray, List.set_cons_zero, List.set_cons_succ])
  (refine wpAnyH_take (i := 7) (v := ?_) rfl (by kernel_rfl) (by kernel_rfl) (by kernel_rfl) (fun _ _ _ h => h) (Or.inl ⟨by kernel_rfl, ?_⟩) (by assumption) ?_; rotate_left; focus (intro wq hSw; (try dsimp only at hSw); go_simp; try with_reducible rfl); try simp only [List.getElem_toArray, List.getElem_cons_succ, List.getElem_cons_zero, Act.put, List.setIfInBounds_toArray, List.set_cons_zero, List.set_cons_succ])
  (refine wpAnyH_take (i := 8) (v := ?_) rfl (by kernel_rfl) (by kernel_rfl) (by kernel_rfl) (fun _ _ _ h => h) (Or.inl ⟨by kernel_rfl, ?_⟩) (by assumption) ?_; rotate_left; focus (intro wq hSw; (try dsimp only at hSw); go_simp; try with_reducible rfl); try simp only [List.getElem_toArray, List.getElem_cons_succ, List.getElem_cons_zero, Act.put, List.setIfInBounds_toArray, List.set_cons_zero, List.set_cons_succ])
  (refine wpAnyH_take (i := 9) (v := ?_) rfl (by kernel_rfl) (by kernel_rfl) (by kernel_rfl) (fun _ _ _ h => h) (Or.inl ⟨by kernel_rfl, ?_⟩) (by assumption) ?_; rotate_left; focus (intro wq hSw; (try dsimp only at hSw); go_simp; try with_reducible rfl); try simp only [List.getElem_toArray, List.getElem_cons_succ, List.getElem_cons_zero, Act.put, List.setIfInBounds_toArray, List.set_cons_zero, List.set_cons_succ])
  (refine wpAnyH_take (i := 10) (v := ?_) rfl (by kernel_rfl) (by kernel_rfl) (by kernel_rfl) (fun _ _ _ h => h) (Or.inl ⟨by kernel_rfl, ?_⟩) (by assumption) ?_; rotate_left; focus (intro wq hSw; (try dsimp only at hSw); go_simp; try with_reducible rfl); try simp only [List.getElem_toArray, List.getElem_cons_succ, List.getElem_cons_zero, Act.put, List.setIfInBounds_toArray, List.set_cons_zero, List.set_cons_succ])
  (refine wpAnyH_take (i := 11) (v := ?_) rfl (by kernel_rfl) (by kernel_rfl) (by kernel_rfl) (fun _ _ _ h => h) (Or.inl ⟨by kernel_rfl, ?_⟩) (by assumption) ?_; rotate_left; focus (intro wq hSw; (try dsimp only at hSw); go_simp; try with_reducible rfl); try simp only [List.getElem_toArray, List.getElem_cons_succ, List.getElem_cons_zero, Act.put, List.setIfInBounds_toArray, List.set_cons_zero, List.set_cons_succ])
  (refine wpAnyH_take (i := 12) (v := ?_) rfl (by kernel_rfl) (by kernel_rfl) (by kernel_rfl) (fun _ _ _ h => h) (Or.inl ⟨by kernel_rfl, ?_⟩) (by assumption) ?_; rotate_left; focus (intro wq hSw; (try dsimp only at hSw); go_simp; try with_reducible rfl); try simp only [List.getElem_toArray, List.getElem_cons_succ, List.getElem_cons_zero, Act.put, List.setIfInBounds_toArray, List.set_cons_zero, List.set_cons_succ])
  refine wpAnyH_ready (rs := [1, 5]) (by kernel_rfl) (by simp) ?_
  refine AllReadyH.cons rfl (fun K hK => ?_) (AllReadyH.cons rfl (fun K hK => ?_) AllReadyH.nil)
  · go_simp
    refine hK.out _ _ eO (fun hHeld => ?_)
    clear hK K
    try simp only [List.getElem_toArray, List.getElem_cons_succ, List.getElem_cons_zero, Act.put, List.setIfInBounds_toArray, List.set_cons_zero, List.set_cons_succ]
    refine wpAnyH_ready (rs := [5]) (by kernel_rfl) (by simp) ?_
    refine AllReadyH.cons rfl (fun K hK => ?_) AllReadyH.nil
    go_simp
    refine hK.out _ _ eO (fun hHeld => ?_)
    clear hK K
    try simp only [List.getElem_toArray, List.getElem_cons_succ, List.getElem_cons_zero, Act.put, List.setIfInBounds_toArray, List.set_cons_zero, List.set_cons_succ]
    refine wpAnyH_ready (rs := [6]) (by kernel_rfl) (by simp) ?_
    refine AllReadyH.cons rfl (fun K hK => ?_) AllReadyH.nil
    have o1 : OwnL (w.alloc (.cells #[] 3)).drew (some ⟨w.heap.size, 0, none⟩) 0 0 [] := OwnL.empty w
    have r1 : IsL (w.alloc (.cells #[] 3)).drew A2 n2 c2 row := h2.alloc _
    (with_reducible refine step_app _ (by with_unfolding_all rfl) (.tmp 67) (.tmp 71) _ (by with_unfolding_all rfl) Try.underlying27 int_info _ _ _ _ (by with_unfolding_all rfl) o1 _ _ _ _ (by with_unfolding_all rfl) r1 (by omega) ?_)
    intro C2 p2 q2 w2 hp1 hp2 hown2 hg2 hat2
    have hM2 : Mod (fun _ => False) w w2 := (((Mod.refl _ w).alloc _).drew).grown hg2 (fun k hk => .inr (blk_size w k hk))
    have fr2 : ∀ d, blk C2 = some d → w.heap.size ≤ d := fresh_app (blk_size w) (Nat.le_refl _) hat2
    have u2 : w2.cell? ⟨o, 1, none⟩ = some (.slice B2 m2 d2) := (hM2.cell (p := ⟨o, 1, none⟩) hol (fun h => h)).trans hk1
    have rt2 := hrt.keep0 hM2
    refine hK.out _ _ u2 (fun hHeld => ?_)
    clear hK K
    try simp only [List.getElem_toArray, List.getElem_cons_succ, List.getElem_cons_zero, Act.put, List.setIfInBounds_toArray, List.set_cons_zero, List.set_cons_succ]
    refine wpAnyH_ready (rs := [13]) (by kernel_rfl) (by simp) ?_
    refine AllReadyH.cons rfl (fun K hK => ?_) AllReadyH.nil
    (with_reducible refine step_app _ (by with_unfolding_all rfl) (.tmp 72) (.tmp 78) _ (by with_unfolding_all rfl) Try.underlying27 int_info _ _ _ _ (by with_unfolding_all rfl) hown2 _ _ _ _ (by with_unfolding_all rfl) rt2 (by omega) ?_)
    intro C3 p3 q3 w3 hp3 hp4 hown3 hg3 hat3
    have hM3 : Mod (fun _ => False) w w3 := hM2.grown hg3 (fun k hk => .inr (fr2 k hk))
    have u3 : w3.cell? ⟨o, 1, none⟩ = some (.slice B2 m2 d2) := (hM3.cell (p := ⟨o, 1, none⟩) hol (fun h => h)).trans hk1
    have tc := (hM3.cell (p := ⟨b, 1, none⟩) hbl (fun h => h)).trans hc1
    have tf := (hM3.frozen (p := ⟨b, 1, none⟩) hbl (fun h => h)).trans hf1
    have tb := Nat.lt_of_lt_of_le hbl hM3.size
    refine hK.out _ _ u3 (fun hHeld => ?_)
    clear hK K
    try simp only [List.getElem_toArray, List.getElem_cons_succ, List.getElem_cons_zero, Act.put, List.setIfInBounds_toArray, List.set_cons_zero, List.set_cons_succ]
    (refine wpAnyH_take (i := 14) (v := ?_) rfl (by kernel_rfl) (by kernel_rfl) (by kernel_rfl) (fun _ _ _ h => h) (Or.inl ⟨by kernel_rfl, ?_⟩) (by assumption) ?_; rotate_left; focus (intro wq hSw; (try dsimp only at hSw); go_simp; try with_reducible rfl); try simp only [List.getElem_toArray, List.getElem_cons_succ, List.getElem_cons_zero, Act.put, List.setIfInBounds_toArray, List.set_cons_zero, List.set_cons_succ])
    (refine wpAnyH_take (i := 15) (v := ?_) rfl (by kernel_rfl) (by kernel_rfl) (by kernel_rfl) (fun _ _ _ h => h) (Or.inl ⟨by kernel_rfl, ?_⟩) (by assumption) ?_; rotate_left; focus (intro wq hSw; (try dsimp only at hSw); go_simp; try with_reducible rfl); try simp only [List.getElem_toArray, List.getElem_cons_succ, List.getElem_cons_zero, Act.put, List.setIfInBounds_toArray, List.set_cons_zero, List.set_cons_succ])
    refine wpAnyH_ready (rs := [16]) (by kernel_rfl) (by simp) ?_
    refine AllReadyH.cons rfl (fun K hK => ?_) AllReadyH.nil
    go_simp
    refine hK.out _ _ (cell_ne2 u3 hob) (fun hHeld => ?_)
    clear hK K
    try simp only [List.getElem_toArray, List.getElem_cons_succ, List.getElem_cons_zero, Act.put, List.setIfInBounds_toArray, List.set_cons_zero, List.set_cons_succ]
    refine wpAnyH_done (by kernel_rfl) ?_ _
    refine NoPanic.normal ?_
    have hrb3 := hM3.rowIs hr (fun h => h)
    have hro3 := hM3.rowIs hro (fun h => h)
    have m4 := set_mod w3 b 1 (.slice C3 p3 q3)
    have hro4 := m4.rowIs hro3 hob
    have co := hro4.cell (i := 1) (by omega)
    have fo := hro4.frozen 1
    have lo := hro4.lt
    have rb4 : RRingD D (w3.setCell ⟨b, 1, none⟩ (.slice C3 p3 q3)) b (row ++ orow.take K) nxt :=
      ⟨A1, n1, c1, C3, p3, q3, RRing.set1 hrb3, (h1.keep0 hM3).set (t1.keep0 hM3) hrb3 (by decide), hown3.isL.set hown3.ty hrb3 (by decide), (t1.keep0 hM3).set hrb3 (by decide), (hown3.tyD (fun g hg hd => by
        have h8 := hD g hd
        have h9 := hM2.size
        rcases hat3 with e | e
        · have h7 := fr2 g (by rw [← e]; exact hg)
          omega
        · rw [e] at hg
          injection hg with hg
          omega)).set hrb3 (by decide)⟩
    have x4 := (k1.keep0 hM3).set (s1.keep0 hM3) hrb3 (by decide) (k := 1) (v := .slice C3 p3 q3)
    have xt4 := (s1.keep0 hM3).set hrb3 (by decide) (k := 1) (v := .slice C3 p3 q3)
    have k4 := (k2.keep0 hM3).set (s2.keep0 hM3) hrb3 (by decide) (k := 1) (v := .slice C3 p3 q3)
    have y4 := (s2.keep0 hM3).set hrb3 (by decide) (k := 1) (v := .slice C3 p3 q3)
    have k5 := hL4 _ _ k4
    have y5 : TyD D (w3.setCell ⟨b, 1, none⟩ (.slice C3 p3 q3)) A4 := y4.of_blk hblk4
    have m5 := set_mod (w3.setCell ⟨b, 1, none⟩ (.slice C3 p3 q3)) o 1 (.slice A4 n4 c4)
    have rb5 := rb4.keep m5 (fun e => hob e.symm) (fun g hg => .inr (NoInts.row hro4 (by decide) g hg))
    have ro5 : RRingD D ((w3.setCell ⟨b, 1, none⟩ (.slice C3 p3 q3)).setCell ⟨o, 1, none⟩ (.slice A4 n4 c4)) o (orow.drop K) onxt :=
      ⟨B1, m1, d1, A4, n4, c4, RRing.set1 hro4, x4.set xt4 hro4 (by decide), k5.set y5 hro4 (by decide), xt4.set hro4 (by decide), y5.set hro4 (by decide)⟩
    have mm : Mod (fun i => i = b ∨ i = o) w ((w3.setCell ⟨b, 1, none⟩ (.slice C3 p3 q3)).setCell ⟨o, 1, none⟩ (.slice A4 n4 c4)) :=
      ((hM3.mono (fun _ _ h => h.elim)).trans' m4 (fun i _ e => .inl e)).trans' m5 (fun i _ e => .inr e)
    clear hc1 hk1 eB eO u3 tc
    go_wp2
    go_ret
    exact ⟨rfl, rb5, ro5, mm⟩
  · go_simp
    refine hK.out _ _ hk1 (fun hHeld => ?_)
    clear hK K
    try simp only [List.getElem_toArray, List.getElem_cons_succ, List.getElem_cons_zero, Act.put, List.setIfInBounds_toArray, List.set_cons_zero, List.set_cons_succ]
    refine wpAnyH_ready (rs := [1]) (by kernel_rfl) (by simp) ?_
    refine AllReadyH.cons rfl (fun K hK => ?_) AllReadyH.nil
    go_simp
    refine hK.out _ _ eO (fun hHeld => ?_)
    clear hK K
    try simp only [List.getElem_toArray, List.getElem_cons_succ, List.getElem_cons_zero, Act.put, List.setIfInBounds_toArray, List.set_cons_zero, List.set_cons_succ]
    refine wpAnyH_ready (rs := [6]) (by kernel_rfl) (by simp) ?_
    refine AllReadyH.cons rfl (fun K hK => ?_) AllReadyH.nil
    have o1 : OwnL (w.alloc (.cells #[] 3)).drew (some ⟨w.heap.size, 0, none⟩) 0 0 [] := OwnL.empty w
    have r1 : IsL (w.alloc (.cells #[] 3)).drew A2 n2 c2 row := h2.alloc _
    (with_reducible refine step_app _ (by with_unfolding_all rfl) (.tmp 67) (.tmp 71) _ (by with_unfolding_all rfl) Try.underlying27 int_info _ _ _ _ (by with_unfolding_all rfl) o1 _ _ _ _ (by with_unfolding_all rfl) r1 (by omega) ?_)
    intro C2 p2 q2 w2 hp1 hp2 hown2 hg2 hat2
    have hM2 : Mod (fun _ => False) w w2 := (((Mod.refl _ w).alloc _).drew).grown hg2 (fun k hk => .inr (blk_size w k hk))
    have fr2 : ∀ d, blk C2 = some d → w.heap.size ≤ d := fresh_app (blk_size w) (Nat.le_refl _) hat2
    have u2 : w2.cell? ⟨o, 1, none⟩ = some (.slice B2 m2 d2) := (hM2.cell (p := ⟨o, 1, none⟩) hol (fun h => h)).trans hk1
    have rt2 := hrt.keep0 hM2
    refine hK.out _ _ u2 (fun hHeld => ?_)
    clear hK K
    try simp only [List.getElem_toArray, List.getElem_cons_succ, List.getElem_cons_zero, Act.put, List.setIfInBounds_toArray, List.set_cons_zero, List.set_cons_succ]
    refine wpAnyH_ready (rs := [13]) (by kernel_rfl) (by simp) ?_
    refine AllReadyH.cons rfl (fun K hK => ?_) AllReadyH.nil
    (with_reducible refine step_app _ (by with_unfolding_all rfl) (.tmp 72) (.tmp 78) _ (by with_unfolding_all rfl) Try.underlying27 int_info _ _ _ _ (by with_unfolding_all rfl) hown2 _ _ _ _ (by with_unfolding_all rfl) rt2 (by omega) ?_)
    intro C3 p3 q3 w3 hp3 hp4 hown3 hg3 hat3
    have hM3 : Mod (fun _ => False) w w3 := hM2.grown hg3 (fun k hk => .inr (fr2 k hk))
    have u3 : w3.cell? ⟨o, 1, none⟩ = some (.slice B2 m2 d2) := (hM3.cell (p := ⟨o, 1, none⟩) hol (fun h => h)).trans hk1
    have tc := (hM3.cell (p := ⟨b, 1, none⟩) hbl (fun h => h)).trans hc1
    have tf := (hM3.frozen (p := ⟨b, 1, none⟩) hbl (fun h => h)).trans hf1
    have tb := Nat.lt_of_lt_of_le hbl hM3.size
    refine hK.out _ _ u3 (fun hHeld => ?_)
    clear hK K
    try simp only [List.getElem_toArray, List.getElem_cons_succ, List.getElem_cons_zero, Act.put, List.setIfInBounds_toArray, List.set_cons_zero, List.set_cons_succ]
    (refine wpAnyH_take (i := 14) (v := ?_) rfl (by kernel_rfl) (by kernel_rfl) (by kernel_rfl) (fun _ _ _ h => h) (Or.inl ⟨by kernel_rfl, ?_⟩) (by assumption) ?_; rotate_left; focus (intro wq hSw; (try dsimp only at hSw); go_simp; try with_reducible rfl); try simp only [List.getElem_toArray, List.getElem_cons_succ, List.getElem_cons_zero, Act.put, List.setIfInBounds_toArray, List.set_cons_zero, List.set_cons_succ])
    (refine wpAnyH_take (i := 15) (v := ?_) rfl (by kernel_rfl) (by kernel_rfl) (by kernel_rfl) (fun _ _ _ h => h) (Or.inl ⟨by kernel_rfl, ?_⟩) (by assumption) ?_; rotate_left; focus (intro wq hSw; (try dsimp only at hSw); go_simp; try with_reducible rfl); try simp only [List.getElem_toArray, List.getElem_cons_succ, List.getElem_cons_zero, Act.put, List.setIfInBounds_toArray, List.set_cons_zero, List.set_cons_succ])
    refine wpAnyH_ready (rs := [16]) (by kernel_rfl) (by simp) ?_
    refine AllReadyH.cons rfl (fun K hK => ?_) AllReadyH.nil
    go_simp
    refine hK.out _ _ (cell_ne2 u3 hob) (fun hHeld => ?_)
    clear hK K
    try simp only [List.getElem_toArray, List.getElem_cons_succ, List.getElem_cons_zero, Act.put, List.setIfInBounds_toArray, List.set_cons_zero, List.set_cons_succ]
    refine wpAnyH_done (by kernel_rfl) ?_ _
    refine NoPanic.normal ?_
    have hrb3 := hM3.rowIs hr (fun h => h)
    have hro3 := hM3.rowIs hro (fun h => h)
    have m4 := set_mod w3 b 1 (.slice C3 p3 q3)
    have hro4 := m4.rowIs hro3 hob
    have co := hro4.cell (i := 1) (by omega)
    have fo := hro4.frozen 1
    have lo := hro4.lt
    have rb4 : RRingD D (w3.setCell ⟨b, 1, none⟩ (.slice C3 p3 q3)) b (row ++ orow.take K) nxt :=
      ⟨A1, n1, c1, C3, p3, q3, RRing.set1 hrb3, (h1.keep0 hM3).set (t1.keep0 hM3) hrb3 (by decide), hown3.isL.set hown3.ty hrb3 (by decide), (t1.keep0 hM3).set hrb3 (by decide), (hown3.tyD (fun g hg hd => by
        have h8 := hD g hd
        have h9 := hM2.size
        rcases hat3 with e | e
        · have h7 := fr2 g (by rw [← e]; exact hg)
          omega
        · rw [e] at hg
          injection hg with hg
          omega)).set hrb3 (by decide)⟩
    have x4 := (k1.keep0 hM3).set (s1.keep0 hM3) hrb3 (by decide) (k := 1) (v := .slice C3 p3 q3)
    have xt4 := (s1.keep0 hM3).set hrb3 (by decide) (k := 1) (v := .slice C3 p3 q3)
    have k4 := (k2.keep0 hM3).set (s2.keep0 hM3) hrb3 (by decide) (k := 1) (v := .slice C3 p3 q3)
    have y4 := (s2.keep0 hM3).set hrb3 (by decide) (k := 1) (v := .slice C3 p3 q3)
    have k5 := hL4 _ _ k4
    have y5 : TyD D (w3.setCell ⟨b, 1, none⟩ (.slice C3 p3 q3)) A4 := y4.of_blk hblk4
    have m5 := set_mod (w3.setCell ⟨b, 1, none⟩ (.slice C3 p3 q3)) o 1 (.slice A4 n4 c4)
    have rb5 := rb4.keep m5 (fun e => hob e.symm) (fun g hg => .inr (NoInts.row hro4 (by decide) g hg))
    have ro5 : RRingD D ((w3.setCell ⟨b, 1, none⟩ (.slice C3 p3 q3)).setCell ⟨o, 1, none⟩ (.slice A4 n4 c4)) o (orow.drop K) onxt :=
      ⟨B1, m1, d1, A4, n4, c4, RRing.set1 hro4, x4.set xt4 hro4 (by decide), k5.set y5 hro4 (by decide), xt4.set hro4 (by decide), y5.set hro4 (by decide)⟩
    have mm : Mod (fun i => i = b ∨ i = o) w ((w3.setCell ⟨b, 1, none⟩ (.slice C3 p3 q3)).setCell ⟨o, 1, none⟩ (.slice A4 n4 c4)) :=
      ((hM3.mono (fun _ _ h => h.elim)).trans' m4 (fun i _ e => .inl e)).trans' m5 (fun i _ e => .inr e)
    clear hc1 hk1 eB eO u3 tc
    go_wp2
    go_ret
    exact ⟨rfl, rb5, ro5, mm⟩

set_option maxHeartbeats 2000000 in
set_option maxRecDepth 100000 in
theorem dsteal_any (b o : Nat) (row orow : List Int) (nxt onxt : Option Int) (w : World) (hD : ∀ g, D g → g < w.heap.size) (h : RRingD D w b row nxt) (ho : RRingD D w o orow onxt) (hne : b ≠ o) (hlen : row.length ≤ 256) (holen : orow.length ≤ 256) :
    Calls Try.prog 36 #[.pointer (some ⟨b, 0, none⟩), .pointer (some ⟨o, 0, none⟩)] w fun e w' =>
      e = .returned (.int .i64 ((rsteal row orow onxt).1 : Nat)) ∧ RRingD D w' b (rsteal row orow onxt).2.1 nxt ∧ RRingD D w' o (rsteal row orow onxt).2.2.1 (rsteal row orow onxt).2.2.2 ∧ Mod (fun i => i = b ∨ i = o) w w' := by
  cases orow with
  | cons x r => exact dsteal_row b o row (x :: r) nxt onxt w hD h ho hne (by simp) hlen holen
  | nil =>
    by_cases hgo : onxt = none ∨ row.length = 256
    · have e : rsteal row [] onxt = (0, row, [], onxt) := by
        rcases hgo with e | e
        · subst e; simp [rsteal]
        · cases onxt with
          | none => simp [rsteal]
          | some g => simp [rsteal, e]
      rw [e]
      exact (rrsteal_nothing b o row nxt onxt w h.toR ho.toR hne hgo).mono (fun e w' ⟨e1, e2⟩ => by subst e2; exact ⟨e1, h, ho, Mod.refl _ _⟩)
    · cases onxt with
      | none => exact absurd (.inl rfl) hgo
      | some g =>
        have h3 : row.length < 256 := by omega
        have e : rsteal row [] (some g) = (1, row ++ [g], [], none) := by simp [rsteal, h3]
        rw [e]
        exact dsteal_next b o row nxt g w hD h ho hne h3
end

end Go.Proofs.Ytgojfccaohngaaa
