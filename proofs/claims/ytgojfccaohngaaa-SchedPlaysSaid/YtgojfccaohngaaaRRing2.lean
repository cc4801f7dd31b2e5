/-
  The contracts of the reference's ring, second part: Get, Del, Steal; of the reference's Out.
-/
import Derived.Test.YtgojfccaohngaaaRRing
import Derived.Deep.RegionHeld3
set_option linter.unusedSimpArgs false
namespace Go.Proofs.Ytgojfccaohngaaa
open Go.RowKit

set_option maxHeartbeats 400000 in
theorem rrget_next (b : Nat) (g : Int) (row : List Int) (w : World) (h : RRing w b row (some g)) :
    Calls Try.prog 35 #[.pointer (some ⟨b, 0, none⟩)] w fun e w' => e = .returned (.tuple #[.int .i64 g, .bool true]) ∧ RRing w' b row none ∧ Mod (· = b) w w' := by
  obtain ⟨A1, n1, c1, A2, n2, c2, hr, h1, h2, t1, t2⟩ := h
  have hc0 : w.cell? ⟨b, 0, none⟩ = some (.slice A1 n1 c1) := hr.cell (by omega)
  have hf0 := hr.frozen 0
  have hn1 : n1 = 1 := h1.len.symm
  subst hn1
  obtain ⟨gg, oo, rfl, hcy⟩ := h1.at_ (k := 0) (by omega)
  simp only [Option.toList_some, List.getD_cons_zero, Nat.add_zero] at hcy
  go_enter Try.func35, Try.ntmps35
  go_wp2
  go_ret2
  exact ⟨rfl, ⟨none, 0, 0, A2, n2, c2, RRing.set0 hr, IsL.nil _, h2.set t2 hr (by decide), TyL.nil _, t2.set hr (by decide)⟩, set_mod w b 0 _⟩

set_option maxHeartbeats 400000 in
theorem rrget_none (b : Nat) (row : List Int) (w : World) (h : RRing w b row none) :
    Calls Try.prog 35 #[.pointer (some ⟨b, 0, none⟩)] w fun e w' => e = .returned (.tuple #[.int .i64 (rget row none).1.1, .bool (rget row none).1.2]) ∧
      RRing w' b (rget row none).2.1 (rget row none).2.2 ∧ Mod (· = b) w w' := by
  obtain ⟨A1, n1, c1, A2, n2, c2, hr, h1, h2, t1, t2⟩ := id h
  have hc0 : w.cell? ⟨b, 0, none⟩ = some (.slice A1 n1 c1) := hr.cell (by omega)
  have hc1 : w.cell? ⟨b, 1, none⟩ = some (.slice A2 n2 c2) := hr.cell (by omega)
  have hf1 := hr.frozen 1
  have hn1 : n1 = 0 := h1.len.symm
  subst hn1
  cases row with
  | nil =>
    have hn2 : n2 = 0 := h2.len.symm
    subst hn2
    go_enter Try.func35, Try.ntmps35
    go_wp2
    go_ret2
    exact ⟨rfl, h, Mod.refl _ _⟩
  | cons x r =>
    have hn2 : 0 < n2 := by rw [← h2.len]; simp
    obtain ⟨gg, oo, rfl, hcy⟩ := h2.at_ (k := 0) hn2
    simp only [List.getD_cons_zero, Nat.add_zero] at hcy
    obtain ⟨A4, n4, c4, hcut, hL4, hblk4⟩ := cut_low (P := Try.prog) 27 Try.underlying27 int_info (some ⟨gg, oo, none⟩) n2 c2 1 (by omega)
    have hcut' : ∀ (W : World), (Instr.sliceAt 27 (.slice (some ⟨gg, oo, none⟩) n2 c2) (some (.int .i64 1)) none none).run Try.prog W = .ok (.slice A4 n4 c4) W := hcut
    have hb2 : ((n2 : Int) == 0) = false := by rw [beq_eq_false_iff_ne]; omega
    clear hcut
    go_enter Try.func35, Try.ntmps35
    go_wp2
    go_ret2
    have t4 : TyL w A4 := fun g hg => t2 g (by rw [← hblk4]; exact hg)
    exact ⟨rfl, ⟨A1, 0, c1, A4, n4, c4, RRing.set1 hr, h1.set t1 hr (by decide), (hL4 w _ h2).set t4 hr (by decide), t1.set hr (by decide), t4.set hr (by decide)⟩, set_mod w b 1 _⟩

theorem rrget_any (b : Nat) (row : List Int) (nxt : Option Int) (w : World) (h : RRing w b row nxt) :
    Calls Try.prog 35 #[.pointer (some ⟨b, 0, none⟩)] w fun e w' => e = .returned (.tuple #[.int .i64 (rget row nxt).1.1, .bool (rget row nxt).1.2]) ∧
      RRing w' b (rget row nxt).2.1 (rget row nxt).2.2 ∧ Mod (· = b) w w' := by
  cases nxt with
  | none => exact rrget_none b row w h
  | some g => exact rrget_next b g row w h

set_option maxHeartbeats 400000 in
theorem rrdel_any (b : Nat) (row : List Int) (nxt : Option Int) (g : Int) (w : World) (h : RRing w b row nxt) (hn : row.length ≤ 900000) :
    Calls Try.prog 37 #[.pointer (some ⟨b, 0, none⟩), .int .i64 g] w fun e w' => e = .returned (.bool (rdel row nxt g).1) ∧ RRing w' b (rdel row nxt g).2.1 (rdel row nxt g).2.2 ∧ Mod (· = b) w w' := by
  obtain ⟨A1, n1, c1, A2, n2, c2, hr, h1, h2, t1, t2⟩ := h
  have hc0 : w.cell? ⟨b, 0, none⟩ = some (.slice A1 n1 c1) := hr.cell (by omega)
  have hc1 : w.cell? ⟨b, 1, none⟩ = some (.slice A2 n2 c2) := hr.cell (by omega)
  have hf0 := hr.frozen 0
  have hn1 : n1 ≤ 900000 := by rw [← h1.len]; cases nxt <;> simp
  have hn2 : n2 ≤ 900000 := by rw [← h2.len]; exact hn
  by_cases hg : nxt = some g
  · subst hg
    rw [show rdel row (some g) g = (true, row, none) by simp [rdel]]
    go_enter Try.func37, Try.ntmps37
    go_wp2_with fail
    refine (has_any A1 n1 c1 _ g _ h1 hn1).mono ?_
    rintro e w1 ⟨rfl, rfl⟩
    rw [decide_eq_true (by simp)]
    go_wp2
    go_ret
    exact ⟨rfl, ⟨none, 0, 0, A2, n2, c2, RRing.set0 hr, IsL.nil _, h2.set t2 hr (by decide), TyL.nil _, t2.set hr (by decide)⟩, set_mod w1 b 0 _⟩
  · have hnm : g ∉ nxt.toList := by
      cases nxt with
      | none => simp
      | some y => simp; intro e; exact hg (by rw [e])
    have HNM := Lib.hid hnm
    rw [show rdel row nxt g = (decide (g ∈ row), row.erase g, nxt) by simp [rdel, hg]]
    clear hnm hg
    go_enter Try.func37, Try.ntmps37
    go_wp2_with fail
    refine (has_any A1 n1 c1 _ g _ h1 hn1).mono ?_
    rintro e w1 ⟨rfl, rfl⟩
    rw [decide_eq_false HNM.out]
    go_wp2_with fail
    refine (out_any A2 n2 c2 _ g _ h2 t2 hn2).mono ?_
    rintro e w2 ⟨A3, n3, c3, rfl, h3, t3, _, m3⟩
    have hr2 := m3.rowIs hr (fun h => h)
    have hc2 := hr2.cell (i := 1) (by omega)
    have hf2 := hr2.frozen 1
    go_wp2
    go_ret
    exact ⟨rfl, ⟨A1, n1, c1, A3, n3, c3, RRing.set1 hr2, (h1.keep0 m3).set (t1.keep0 m3) hr2 (by decide), h3.set t3 hr2 (by decide), (t1.keep0 m3).set hr2 (by decide), t3.set hr2 (by decide)⟩,
      (m3.mono (fun _ _ h => h.elim)).trans (set_mod w2 b 1 _)⟩

theorem steal_facts {W w w2 : World} {b o gg oo : Nat} {v u v' u' x : Value} {B B2 : Option Addr} (hW : Mod (fun _ => False) W w) (hf : ∀ d, blk B = some d → W.heap.size ≤ d)
    (hr : W.rowIs b 55 2 (fun i => if i = 0 then v else u)) (hro : W.rowIs o 55 2 (fun i => if i = 0 then v' else u')) (hcy : W.cell? ⟨gg, oo, none⟩ = some x) (hgl : gg < W.heap.size) (hg : w.grownBy w2 (blk B))
    (hat : blk B2 = blk B ∨ blk B2 = some w.heap.size) :
    Mod (fun _ => False) W w2 ∧ w2.cell? ⟨o, 0, none⟩ = some v' ∧ w2.cell? ⟨gg, oo, none⟩ = some x ∧ w2.cell? ⟨b, 1, none⟩ = some u ∧ (∀ d, blk B2 = some d → W.heap.size ≤ d) ∧ w2.frozen? ⟨b, 1, none⟩ = false ∧ o < w2.heap.size ∧ b < w2.heap.size := by
  obtain ⟨hM, _, h1, hf2⟩ := rr_more hW hf hr hg hat
  have hb := hM.rowIs hr (fun h => h)
  have ho := hM.rowIs hro (fun h => h)
  exact ⟨hM, ho.cell (i := 0) (by omega), (hM.cell (p := ⟨gg, oo, none⟩) hgl (fun h => h)).trans hcy, h1, hf2, hb.frozen 1, ho.lt, hb.lt⟩

theorem cell_ne2 {w : World} {q r i j : Nat} {v u : Value} (h : w.cell? ⟨q, i, none⟩ = some v) (hne : q ≠ r) : (w.setCell ⟨r, j, none⟩ u).cell? ⟨q, i, none⟩ = some v := by
  rw [← h]
  exact World.cell?_setCell_far w _ _ _ (fun e => hne e.symm)
theorem info55 : (Try.prog.info? 55).map (fun i => i.size) = some 2 := by kernel_rfl
theorem rr_ptr_ne {w : World} {b o : Nat} {t t' : TypeId} {n n' : Nat} {f f' : Nat → Value} (h : w.rowIs b t n f) (ho : w.rowIs o t' n' f') (hne : b ≠ o) :
    (binOp .eql 53 (.pointer (some ⟨b, 0, none⟩)) (.pointer (some ⟨o, 0, none⟩))).run Try.prog w = .ok (.bool false) w := by
  obtain ⟨c, hc, _⟩ := h
  obtain ⟨d, hd, _⟩ := ho
  obtain ⟨i, hi, hz⟩ := Option.map_eq_some_iff.1 info55
  exact run_eql_ptr_other w Try.underlying53 hi (by rw [hz]; decide) (by intro e; injection e; contradiction) hc hd

/-- A literal of one number, laid ahead of an append onto an empty literal, reads as it did behind it. -/
theorem one_kept {w w2 : World} {A : Option Addr} {B : Option Addr} {l : List Int} {n c : Nat} (h : IsL w A n c l) (hne : ∀ d, A = some d → blk B ≠ some d.block) (hg : w.grownBy w2 (blk B)) : IsL w2 A n c l :=
  h.keep ((Mod.refl (fun i => blk B = some i) w).grown hg (fun _ hk => .inl hk)) (fun d hd e => hne d hd e)
theorem own_second (w : World) (o : Obj) : OwnL ((w.alloc o).alloc (.cells #[] 3)) (some ⟨w.heap.size + 1, 0, none⟩) 0 0 [] := by
  have h := OwnL.empty (w.alloc o)
  simpa using h
theorem one_second (w : World) (o : Obj) (g : Int) : IsL ((w.alloc o).alloc (.cells #[.int .i64 g] 3)) (some ⟨w.heap.size + 1, 0, none⟩) 1 1 [g] := by
  have h := IsL.one (w.alloc o) g
  simpa using h
theorem blk_second (w : World) : ∀ d, blk (some ⟨w.heap.size + 1, 0, none⟩) = some d → w.heap.size ≤ d := fun d hd => by simp [blk] at hd; omega

set_option maxHeartbeats 1000000 in
set_option maxRecDepth 100000 in
theorem rrsteal_next (b o : Nat) (row : List Int) (nxt : Option Int) (g : Int) (w : World) (h : RRing w b row nxt) (ho : RRing w o [] (some g)) (hne : b ≠ o) (hlt : row.length < 256) :
    Calls Try.prog 36 #[.pointer (some ⟨b, 0, none⟩), .pointer (some ⟨o, 0, none⟩)] w fun e w' => e = .returned (.int .i64 1) ∧ RRing w' b (row ++ [g]) nxt ∧ RRing w' o [] none ∧ Mod (fun i => i = b ∨ i = o) w w' := by
  obtain ⟨A1, n1, c1, A2, n2, c2, hr, h1, h2, t1, t2⟩ := h
  obtain ⟨B1, m1, d1, B2, m2, d2, hro, k1, k2, s1, s2⟩ := ho
  have hp := rr_ptr_ne hro hr (fun e => hne e.symm)
  have hc1 : w.cell? ⟨b, 1, none⟩ = some (.slice A2 n2 c2) := hr.cell (by omega)
  have hk0 : w.cell? ⟨o, 0, none⟩ = some (.slice B1 m1 d1) := hro.cell (by omega)
  have hk1 : w.cell? ⟨o, 1, none⟩ = some (.slice B2 m2 d2) := hro.cell (by omega)
  have hf1 := hr.frozen 1
  have hfo := hro.frozen 0
  have hm1 : m1 = 1 := k1.len.symm
  subst hm1
  have hm2 : m2 = 0 := k2.len.symm
  subst hm2
  obtain ⟨gg, oo, rfl, hcy⟩ := k1.at_ (k := 0) (by omega)
  simp only [Option.toList_some, List.getD_cons_zero, Nat.add_zero] at hcy
  rw [h2.len] at hlt
  have hbl := hr.lt
  have hol := hro.lt
  have hgl := s1.lt gg rfl
  go_enter Try.func36, Try.ntmps36
  go_wp2
  have eO : (w.alloc (.cells #[] 3)).cell? ⟨o, 0, none⟩ = some (.slice (some ⟨gg, oo, none⟩) 1 d1) := (((Mod.refl (fun _ => False) w).alloc _).cell (p := ⟨o, 0, none⟩) hol (fun h => h)).trans hk0
  have eG : (w.alloc (.cells #[] 3)).cell? ⟨gg, oo, none⟩ = some (.int .i64 g) := (((Mod.refl (fun _ => False) w).alloc _).cell (p := ⟨gg, oo, none⟩) hgl (fun h => h)).trans hcy
  have eB : (w.alloc (.cells #[] 3)).cell? ⟨b, 1, none⟩ = some (.slice A2 n2 c2) := (((Mod.refl (fun _ => False) w).alloc _).cell (p := ⟨b, 1, none⟩) hbl (fun h => h)).trans hc1
  have xO : (w.alloc (.cells #[.int .i64 g] 3)).cell? ⟨o, 0, none⟩ = some (.slice (some ⟨gg, oo, none⟩) 1 d1) := (((Mod.refl (fun _ => False) w).alloc _).cell (p := ⟨o, 0, none⟩) hol (fun h => h)).trans hk0
  have xG : (w.alloc (.cells #[.int .i64 g] 3)).cell? ⟨gg, oo, none⟩ = some (.int .i64 g) := (((Mod.refl (fun _ => False) w).alloc _).cell (p := ⟨gg, oo, none⟩) hgl (fun h => h)).trans hcy
  have xB : (w.alloc (.cells #[.int .i64 g] 3)).cell? ⟨b, 1, none⟩ = some (.slice A2 n2 c2) := (((Mod.refl (fun _ => False) w).alloc _).cell (p := ⟨b, 1, none⟩) hbl (fun h => h)).trans hc1
  have exO : ((w.alloc (.cells #[] 3)).alloc (.cells #[.int .i64 g] 3)).cell? ⟨o, 0, none⟩ = some (.slice (some ⟨gg, oo, none⟩) 1 d1) := ((((Mod.refl (fun _ => False) w).alloc _).alloc _).cell (p := ⟨o, 0, none⟩) hol (fun h => h)).trans hk0
  have exG : ((w.alloc (.cells #[] 3)).alloc (.cells #[.int .i64 g] 3)).cell? ⟨gg, oo, none⟩ = some (.int .i64 g) := ((((Mod.refl (fun _ => False) w).alloc _).alloc _).cell (p := ⟨gg, oo, none⟩) hgl (fun h => h)).trans hcy
  have exB : ((w.alloc (.cells #[] 3)).alloc (.cells #[.int .i64 g] 3)).cell? ⟨b, 1, none⟩ = some (.slice A2 n2 c2) := ((((Mod.refl (fun _ => False) w).alloc _).alloc _).cell (p := ⟨b, 1, none⟩) hbl (fun h => h)).trans hc1
  have xeO : ((w.alloc (.cells #[.int .i64 g] 3)).alloc (.cells #[] 3)).cell? ⟨o, 0, none⟩ = some (.slice (some ⟨gg, oo, none⟩) 1 d1) := ((((Mod.refl (fun _ => False) w).alloc _).alloc _).cell (p := ⟨o, 0, none⟩) hol (fun h => h)).trans hk0
  have xeG : ((w.alloc (.cells #[.int .i64 g] 3)).alloc (.cells #[] 3)).cell? ⟨gg, oo, none⟩ = some (.int .i64 g) := ((((Mod.refl (fun _ => False) w).alloc _).alloc _).cell (p := ⟨gg, oo, none⟩) hgl (fun h => h)).trans hcy
  have xeB : ((w.alloc (.cells #[.int .i64 g] 3)).alloc (.cells #[] 3)).cell? ⟨b, 1, none⟩ = some (.slice A2 n2 c2) := ((((Mod.refl (fun _ => False) w).alloc _).alloc _).cell (p := ⟨b, 1, none⟩) hbl (fun h => h)).trans hc1
  have hob : o ≠ b := fun e => hne e.symm
  have hgb : gg ≠ b := fun e => s1.ne hr (by decide) gg rfl e
  refine wp_region_noPanic ?_
  refine wp_region_held_drew (S := fun W => W.cell? ⟨o, 0, none⟩ = some (.slice (some ⟨gg, oo, none⟩) 1 d1) ∧ W.cell? ⟨gg, oo, none⟩ = some (.int .i64 g)) (by kernel_rfl) ⟨hk0, hcy⟩ (fun hHeld => ?_)
  (refine wpAnyH_take (i := 0) (v := ?_) rfl (by kernel_rfl) (by kernel_rfl) (by kernel_rfl) (fun _ _ _ h => h) (Or.inl ⟨by kernel_rfl, ?_⟩) (by assumption) ?_; rotate_left; focus (intro wq hSw; (try dsimp only at hSw); go_simp; try with_reducible rfl); try simp only [List.getElem_toArray, List.getElem_cons_succ, List.getElem_cons_zero, Act.put, List.setIfInBounds_toArray, List.set_cons_zero, List.set_cons_succ])
  (refine wpAnyH_take (i := 2) (v := ?_) rfl (by kernel_rfl) (by kernel_rfl) (by kernel_rfl) (fun _ _ _ h => h) (Or.inl ⟨by kernel_rfl, ?_⟩) (by assumption) ?_; rotate_left; focus (intro wq hSw; (try dsimp only at hSw); go_simp; try with_reducible rfl); try simp only [List.getElem_toArray, List.getElem_cons_succ, List.getElem_cons_zero, Act.put, List.setIfInBounds_toArray, List.set_cons_zero, List.set_cons_succ])
  (refine wpAnyH_take (i := 3) (v := ?_) rfl (by kernel_rfl) (by kernel_rfl) (by kernel_rfl) (fun _ _ _ h => h) (Or.inl ⟨by kernel_rfl, ?_⟩) (by assumption) ?_; rotate_left; focus (intro wq hSw; (try dsimp only at hSw); go_simp; try with_reducible rfl); try simp only [List.getElem_toArray, List.getElem_cons_succ, List.getElem_cons_zero, Act.put, List.setIfInBounds_toArray, List.set_cons_zero, List.set_cons_succ])
  (refine wpAnyH_take (i := 4) (v := ?_) rfl (by kernel_rfl) (by kernel_rfl) (by kernel_rfl) (fun _ _ _ h => h) (Or.inl ⟨by kernel_rfl, ?_⟩) (by assumption) ?_; rotate_left; focus (intro wq hSw; (try dsimp only at hSw); go_simp; try with_reducible rfl); try simp only [List.getElem_toArray, List.getElem_cons_succ, List.getElem_cons_zero, Act.put, List.setIfInBounds_toArray, List.set_cons_zero, List.set_cons_succ])
  (refine wpAnyH_take (i := 7) (v := ?_) rfl (by kernel_rfl) (by kernel_rfl) (by kernel_rfl) (fun _ _ _ h => h) (Or.inl ⟨by kernel_rfl, ?_⟩) (by assumption) ?_; rotate_left; focus (intro wq hSw; (try dsimp only at hSw); go_simp; try with_reducible rfl); try simp only [List.getElem_toArray, List.getElem_cons_succ, List.getElem_cons_zero, Act.put, List.setIfInBounds_toArray, List.set_cons_zero, List.set_cons_succ])
  (refine wpAnyH_take (i := 8) (v := ?_) rfl (by kernel_rfl) (by kernel_rfl) (by kernel_rfl) (fun _ _ _ h => h) (Or.inl ⟨by kernel_rfl, ?_⟩) (by assumption) ?_; rotate_left; focus (intro wq hSw; (try dsimp only at hSw); go_simp; try with_reducible rfl); try simp only [List.getElem_toArray, List.getElem_cons_succ, List.getElem_cons_zero, Act.put, List.setIfInBounds_toArray, List.set_cons_zero, List.set_cons_succ])
  (refine wpAnyH_take (i := 9) (v := ?_) rfl (by kernel_rfl) (by kernel_rfl) (by kernel_rfl) (fun _ _ _ h => h) (Or.inl ⟨by kernel_rfl, ?_⟩) (by assumption) ?_; rotate_left; focus (intro wq hSw; (try dsimp only at hSw); go_simp; try with_reducible rfl); try simp only [List.getElem_toArray, List.getElem_cons_succ, List.getElem_cons_zero, Act.put, List.setIfInBounds_toArray, List.set_cons_zero, List.set_cons_succ])
  (refine wpAnyH_take (i := 10) (v := ?_) rfl (by kernel_rfl) (by kernel_rfl) (by kernel_rfl) (fun _ _ _ h => h) (Or.inl ⟨by kernel_rfl, ?_⟩) (by assumption) ?_; rotate_left; focus (intro wq hSw; (try dsimp only at hSw); go_simp; try with_reducible rfl); try simp only [List.getElem_toArray, List.getElem_cons_succ, List.getElem_cons_zero, Act.put, List.setIfInBounds_toArray, List.set_cons_zero, List.set_cons_succ])
  (refine wpAnyH_take (i := 11) (v := ?_) rfl (by kernel_rfl) (by kernel_rfl) (by kernel_rfl) (fun _ _ _ h => h) (Or.inl ⟨by kernel_rfl, ?_⟩) (by assumption) ?_; rotate_left; focus (intro wq hSw; (try dsimp only at hSw); go_simp; try with_reducible rfl); try simp only [List.getElem_toArray, List.getElem_cons_succ, List.getElem_cons_zero, Act.put, List.setIfInBounds_toArray, List.set_cons_zero, List.set_cons_succ])
  (refine wpAnyH_take (i := 12) (v := ?_) rfl (by kernel_rfl) (by kernel_rfl) (by kernel_rfl) (fun _ _ _ h => h) (Or.inl ⟨by kernel_rfl, ?_⟩) (by assumption) ?_; rotate_left; focus (intro wq hSw; (try dsimp only at hSw); go_simp; try with_reducible rfl); try simp only [List.getElem_toArray, List.getElem_cons_succ, List.getElem_cons_zero, Act.put, List.setIfInBounds_toArray, List.set_cons_zero, List.set_cons_succ])
  refine wpAnyH_ready (rs := [1, 5, 13]) (by kernel_rfl) (by simp) ?_
  refine AllReadyH.cons rfl (fun K hK => ?_) (AllReadyH.cons rfl (fun K hK => ?_) (AllReadyH.cons rfl (fun K hK => ?_) AllReadyH.nil))
  · go_simp
    refine hK.out _ _ ⟨eO, eG⟩ (fun hHeld => ?_)
    clear hK K
    try simp only [List.getElem_toArray, List.getElem_cons_succ, List.getElem_cons_zero, Act.put, List.setIfInBounds_toArray, List.set_cons_zero, List.set_cons_succ]
    refine wpAnyH_ready (rs := [5, 13]) (by kernel_rfl) (by simp) ?_
    refine AllReadyH.cons rfl (fun K hK => ?_) (AllReadyH.cons rfl (fun K hK => ?_) AllReadyH.nil)
    · go_simp
      refine hK.out _ _ ⟨eO, eG⟩ (fun hHeld => ?_)
      clear hK K
      try simp only [List.getElem_toArray, List.getElem_cons_succ, List.getElem_cons_zero, Act.put, List.setIfInBounds_toArray, List.set_cons_zero, List.set_cons_succ]
      refine wpAnyH_ready (rs := [6, 13]) (by kernel_rfl) (by simp) ?_
      refine AllReadyH.cons rfl (fun K hK => ?_) (AllReadyH.cons rfl (fun K hK => ?_) AllReadyH.nil)
      · have o1 : OwnL (w.alloc (.cells #[] 3)).drew (some ⟨w.heap.size, 0, none⟩) 0 0 [] := OwnL.empty w
        have r1 : IsL (w.alloc (.cells #[] 3)).drew A2 n2 c2 row := h2.alloc _
        (with_reducible refine step_app _ (by with_unfolding_all rfl) (.tmp 36) (.tmp 40) _ (by with_unfolding_all rfl) Try.underlying27 int_info _ _ _ _ (by with_unfolding_all rfl) o1 _ _ _ _ (by with_unfolding_all rfl) r1 (by omega) ?_)
        intro C2 p2 q2 w2 hp1 hp2 hown2 hg2 hat2
        obtain ⟨hM2, kO, kG, kB, hf2, fB, lO, lB⟩ := steal_facts (((Mod.refl _ w).alloc _).drew) (blk_size w) hr hro hcy hgl hg2 hat2
        have kOx : (w2.alloc (.cells #[.int .i64 g] 3)).cell? ⟨o, 0, none⟩ = some (.slice (some ⟨gg, oo, none⟩) 1 d1) := (((Mod.refl (fun _ => False) w2).alloc _).cell (p := ⟨o, 0, none⟩) lO (fun h => h)).trans kO
        have kGx : (w2.alloc (.cells #[.int .i64 g] 3)).cell? ⟨gg, oo, none⟩ = some (.int .i64 g) := (((Mod.refl (fun _ => False) w2).alloc _).cell (p := ⟨gg, oo, none⟩) (Nat.lt_of_lt_of_le hgl hM2.size) (fun h => h)).trans kG
        have o4 : OwnL (w2.alloc (.cells #[.int .i64 g] 3)) C2 p2 q2 ([] ++ row) := hown2.alloc _
        have r4 : IsL (w2.alloc (.cells #[.int .i64 g] 3)) (some ⟨w2.heap.size, 0, none⟩) 1 1 [g] := IsL.one w2 g
        have hW2 : Mod (fun _ => False) w (w2.alloc (.cells #[.int .i64 g] 3)) := hM2.alloc _
        refine hK.out _ _ ⟨kO, kG⟩ (fun hHeld => ?_)
        clear hK K
        try simp only [List.getElem_toArray, List.getElem_cons_succ, List.getElem_cons_zero, Act.put, List.setIfInBounds_toArray, List.set_cons_zero, List.set_cons_succ]
        refine wpAnyH_ready (rs := [13]) (by kernel_rfl) (by simp) ?_
        refine AllReadyH.cons rfl (fun K hK => ?_) AllReadyH.nil
        go_simp
        refine hK.out _ _ ⟨kOx, kGx⟩ (fun hHeld => ?_)
        clear hK K
        try simp only [List.getElem_toArray, List.getElem_cons_succ, List.getElem_cons_zero, Act.put, List.setIfInBounds_toArray, List.set_cons_zero, List.set_cons_succ]
        refine wpAnyH_ready (rs := [14]) (by kernel_rfl) (by simp) ?_
        refine AllReadyH.cons rfl (fun K hK => ?_) AllReadyH.nil
        (with_reducible refine step_app _ (by with_unfolding_all rfl) (.tmp 41) (.tmp 48) _ (by with_unfolding_all rfl) Try.underlying27 int_info _ _ _ _ (by with_unfolding_all rfl) o4 _ _ _ _ (by with_unfolding_all rfl) r4 (by omega) ?_)
        intro C3 p3 q3 w3 hp3 hp4 hown3 hg3 hat3
        obtain ⟨hM3, kO3, kG3, kB3, hf3, fB3, lO3, lB3⟩ := steal_facts hW2 hf2 hr hro hcy hgl hg3 hat3
        refine hK.out _ _ ⟨kO3, kG3⟩ (fun hHeld => ?_)
        clear hK K
        try simp only [List.getElem_toArray, List.getElem_cons_succ, List.getElem_cons_zero, Act.put, List.setIfInBounds_toArray, List.set_cons_zero, List.set_cons_succ]
        (refine wpAnyH_take (i := 15) (v := ?_) rfl (by kernel_rfl) (by kernel_rfl) (by kernel_rfl) (fun _ _ _ h => h) (Or.inl ⟨by kernel_rfl, ?_⟩) (by assumption) ?_; rotate_left; focus (intro wq hSw; (try dsimp only at hSw); go_simp; try with_reducible rfl); try simp only [List.getElem_toArray, List.getElem_cons_succ, List.getElem_cons_zero, Act.put, List.setIfInBounds_toArray, List.set_cons_zero, List.set_cons_succ])
        (refine wpAnyH_take (i := 16) (v := ?_) rfl (by kernel_rfl) (by kernel_rfl) (by kernel_rfl) (fun _ _ _ h => h) (Or.inl ⟨by kernel_rfl, ?_⟩) (by assumption) ?_; rotate_left; focus (intro wq hSw; (try dsimp only at hSw); go_simp; try with_reducible rfl); try simp only [List.getElem_toArray, List.getElem_cons_succ, List.getElem_cons_zero, Act.put, List.setIfInBounds_toArray, List.set_cons_zero, List.set_cons_succ])
        refine wpAnyH_ready (rs := [17]) (by kernel_rfl) (by simp) ?_
        refine AllReadyH.cons rfl (fun K hK => ?_) AllReadyH.nil
        go_simp
        refine hK.out _ _ ⟨cell_ne2 kO3 hob, cell_ne2 kG3 hgb⟩ (fun hHeld => ?_)
        clear hK K
        try simp only [List.getElem_toArray, List.getElem_cons_succ, List.getElem_cons_zero, Act.put, List.setIfInBounds_toArray, List.set_cons_zero, List.set_cons_succ]
        refine wpAnyH_done (by kernel_rfl) ?_ _
        refine NoPanic.normal ?_
        have hrb3 := hM3.rowIs hr (fun h => h)
        have hro3 := hM3.rowIs hro (fun h => h)
        have m4 := set_mod w3 b 1 (.slice C3 p3 q3)
        have hro4 := m4.rowIs hro3 hob
        have co := hro4.cell (i := 0) (by omega)
        have fo := hro4.frozen 0
        have lo := hro4.lt
        have rb4 : RRing (w3.setCell ⟨b, 1, none⟩ (.slice C3 p3 q3)) b (row ++ [g]) nxt :=
          ⟨A1, n1, c1, C3, p3, q3, RRing.set1 hrb3, (h1.keep0 hM3).set (t1.keep0 hM3) hrb3 (by decide), hown3.isL.set hown3.ty hrb3 (by decide), (t1.keep0 hM3).set hrb3 (by decide), hown3.ty.set hrb3 (by decide)⟩
        have k4 := (k2.keep0 hM3).set (s2.keep0 hM3) hrb3 (by decide) (k := 1) (v := .slice C3 p3 q3)
        have y4 := (s2.keep0 hM3).set hrb3 (by decide) (k := 1) (v := .slice C3 p3 q3)
        have m5 := set_mod (w3.setCell ⟨b, 1, none⟩ (.slice C3 p3 q3)) o 0 (.slice none 0 0)
        have rb5 := rb4.keep m5 (fun e => hob e.symm) (NoInts.row hro4 (by decide))
        have ro5 : RRing ((w3.setCell ⟨b, 1, none⟩ (.slice C3 p3 q3)).setCell ⟨o, 0, none⟩ (.slice none 0 0)) o [] none :=
          ⟨none, 0, 0, B2, 0, d2, RRing.set0 hro4, IsL.nil _, k4.set y4 hro4 (by decide), TyL.nil _, y4.set hro4 (by decide)⟩
        have mm : Mod (fun i => i = b ∨ i = o) w ((w3.setCell ⟨b, 1, none⟩ (.slice C3 p3 q3)).setCell ⟨o, 0, none⟩ (.slice none 0 0)) :=
          ((hM3.mono (fun _ _ h => h.elim)).trans' m4 (fun i _ e => .inl e)).trans' m5 (fun i _ e => .inr e)
        go_wp2
        go_ret
        exact ⟨rfl, rb5, ro5, mm⟩
      · go_simp
        refine hK.out _ _ ⟨exO, exG⟩ (fun hHeld => ?_)
        clear hK K
        try simp only [List.getElem_toArray, List.getElem_cons_succ, List.getElem_cons_zero, Act.put, List.setIfInBounds_toArray, List.set_cons_zero, List.set_cons_succ]
        refine wpAnyH_ready (rs := [6]) (by kernel_rfl) (by simp) ?_
        refine AllReadyH.cons rfl (fun K hK => ?_) AllReadyH.nil
        have o1 : OwnL ((w.alloc (.cells #[] 3)).alloc (.cells #[.int .i64 g] 3)).drew (some ⟨w.heap.size, 0, none⟩) 0 0 [] := (OwnL.empty w).alloc _
        have r1 : IsL ((w.alloc (.cells #[] 3)).alloc (.cells #[.int .i64 g] 3)).drew A2 n2 c2 row := (h2.alloc _).alloc _
        (with_reducible refine step_app _ (by with_unfolding_all rfl) (.tmp 36) (.tmp 40) _ (by with_unfolding_all rfl) Try.underlying27 int_info _ _ _ _ (by with_unfolding_all rfl) o1 _ _ _ _ (by with_unfolding_all rfl) r1 (by omega) ?_)
        intro C2 p2 q2 w2 hp1 hp2 hown2 hg2 hat2
        have r4 : IsL w2 (some ⟨w.heap.size + 1, 0, none⟩) 1 1 [g] := one_kept (w := ((w.alloc (.cells #[] 3)).alloc (.cells #[.int .i64 g] 3)).drew) (one_second w _ g) (fun d hd => by cases hd; simp [blk]) hg2
        obtain ⟨hM2, kO, kG, kB, hf2, fB, lO, lB⟩ := steal_facts ((((Mod.refl _ w).alloc _).alloc _).drew) (blk_size w) hr hro hcy hgl hg2 hat2
        have o4 := hown2
        have hW2 := hM2
        refine hK.out _ _ ⟨kO, kG⟩ (fun hHeld => ?_)
        clear hK K
        try simp only [List.getElem_toArray, List.getElem_cons_succ, List.getElem_cons_zero, Act.put, List.setIfInBounds_toArray, List.set_cons_zero, List.set_cons_succ]
        refine wpAnyH_ready (rs := [14]) (by kernel_rfl) (by simp) ?_
        refine AllReadyH.cons rfl (fun K hK => ?_) AllReadyH.nil
        (with_reducible refine step_app _ (by with_unfolding_all rfl) (.tmp 41) (.tmp 48) _ (by with_unfolding_all rfl) Try.underlying27 int_info _ _ _ _ (by with_unfolding_all rfl) o4 _ _ _ _ (by with_unfolding_all rfl) r4 (by omega) ?_)
        intro C3 p3 q3 w3 hp3 hp4 hown3 hg3 hat3
        obtain ⟨hM3, kO3, kG3, kB3, hf3, fB3, lO3, lB3⟩ := steal_facts hW2 hf2 hr hro hcy hgl hg3 hat3
        refine hK.out _ _ ⟨kO3, kG3⟩ (fun hHeld => ?_)
        clear hK K
        try simp only [List.getElem_toArray, List.getElem_cons_succ, List.getElem_cons_zero, Act.put, List.setIfInBounds_toArray, List.set_cons_zero, List.set_cons_succ]
        (refine wpAnyH_take (i := 15) (v := ?_) rfl (by kernel_rfl) (by kernel_rfl) (by kernel_rfl) (fun _ _ _ h => h) (Or.inl ⟨by kernel_rfl, ?_⟩) (by assumption) ?_; rotate_left; focus (intro wq hSw; (try dsimp only at hSw); go_simp; try with_reducible rfl); try simp only [List.getElem_toArray, List.getElem_cons_succ, List.getElem_cons_zero, Act.put, List.setIfInBounds_toArray, List.set_cons_zero, List.set_cons_succ])
        (refine wpAnyH_take (i := 16) (v := ?_) rfl (by kernel_rfl) (by kernel_rfl) (by kernel_rfl) (fun _ _ _ h => h) (Or.inl ⟨by kernel_rfl, ?_⟩) (by assumption) ?_; rotate_left; focus (intro wq hSw; (try dsimp only at hSw); go_simp; try with_reducible rfl); try simp only [List.getElem_toArray, List.getElem_cons_succ, List.getElem_cons_zero, Act.put, List.setIfInBounds_toArray, List.set_cons_zero, List.set_cons_succ])
        refine wpAnyH_ready (rs := [17]) (by kernel_rfl) (by simp) ?_
        refine AllReadyH.cons rfl (fun K hK => ?_) AllReadyH.nil
        go_simp
        refine hK.out _ _ ⟨cell_ne2 kO3 hob, cell_ne2 kG3 hgb⟩ (fun hHeld => ?_)
        clear hK K
        try simp only [List.getElem_toArray, List.getElem_cons_succ, List.getElem_cons_zero, Act.put, List.setIfInBounds_toArray, List.set_cons_zero, List.set_cons_succ]
        refine wpAnyH_done (by kernel_rfl) ?_ _
        refine NoPanic.normal ?_
        have hrb3 := hM3.rowIs hr (fun h => h)
        have hro3 := hM3.rowIs hro (fun h => h)
        have m4 := set_mod w3 b 1 (.slice C3 p3 q3)
        have hro4 := m4.rowIs hro3 hob
        have co := hro4.cell (i := 0) (by omega)
        have fo := hro4.frozen 0
        have lo := hro4.lt
        have rb4 : RRing (w3.setCell ⟨b, 1, none⟩ (.slice C3 p3 q3)) b (row ++ [g]) nxt :=
          ⟨A1, n1, c1, C3, p3, q3, RRing.set1 hrb3, (h1.keep0 hM3).set (t1.keep0 hM3) hrb3 (by decide), hown3.isL.set hown3.ty hrb3 (by decide), (t1.keep0 hM3).set hrb3 (by decide), hown3.ty.set hrb3 (by decide)⟩
        have k4 := (k2.keep0 hM3).set (s2.keep0 hM3) hrb3 (by decide) (k := 1) (v := .slice C3 p3 q3)
        have y4 := (s2.keep0 hM3).set hrb3 (by decide) (k := 1) (v := .slice C3 p3 q3)
        have m5 := set_mod (w3.setCell ⟨b, 1, none⟩ (.slice C3 p3 q3)) o 0 (.slice none 0 0)
        have rb5 := rb4.keep m5 (fun e => hob e.symm) (NoInts.row hro4 (by decide))
        have ro5 : RRing ((w3.setCell ⟨b, 1, none⟩ (.slice C3 p3 q3)).setCell ⟨o, 0, none⟩ (.slice none 0 0)) o [] none :=
          ⟨none, 0, 0, B2, 0, d2, RRing.set0 hro4, IsL.nil _, k4.set y4 hro4 (by decide), TyL.nil _, y4.set hro4 (by decide)⟩
        have mm : Mod (fun i => i = b ∨ i = o) w ((w3.setCell ⟨b, 1, none⟩ (.slice C3 p3 q3)).setCell ⟨o, 0, none⟩ (.slice none 0 0)) :=
          ((hM3.mono (fun _ _ h => h.elim)).trans' m4 (fun i _ e => .inl e)).trans' m5 (fun i _ e => .inr e)
        go_wp2
        go_ret
        exact ⟨rfl, rb5, ro5, mm⟩
    · go_simp
      refine hK.out _ _ ⟨exO, exG⟩ (fun hHeld => ?_)
      clear hK K
      try simp only [List.getElem_toArray, List.getElem_cons_succ, List.getElem_cons_zero, Act.put, List.setIfInBounds_toArray, List.set_cons_zero, List.set_cons_succ]
      refine wpAnyH_ready (rs := [5]) (by kernel_rfl) (by simp) ?_
      refine AllReadyH.cons rfl (fun K hK => ?_) AllReadyH.nil
      go_simp
      refine hK.out _ _ ⟨exO, exG⟩ (fun hHeld => ?_)
      clear hK K
      try simp only [List.getElem_toArray, List.getElem_cons_succ, List.getElem_cons_zero, Act.put, List.setIfInBounds_toArray, List.set_cons_zero, List.set_cons_succ]
      refine wpAnyH_ready (rs := [6]) (by kernel_rfl) (by simp) ?_
      refine AllReadyH.cons rfl (fun K hK => ?_) AllReadyH.nil
      have o1 : OwnL ((w.alloc (.cells #[] 3)).alloc (.cells #[.int .i64 g] 3)).drew (some ⟨w.heap.size, 0, none⟩) 0 0 [] := (OwnL.empty w).alloc _
      have r1 : IsL ((w.alloc (.cells #[] 3)).alloc (.cells #[.int .i64 g] 3)).drew A2 n2 c2 row := (h2.alloc _).alloc _
      (with_reducible refine step_app _ (by with_unfolding_all rfl) (.tmp 36) (.tmp 40) _ (by with_unfolding_all rfl) Try.underlying27 int_info _ _ _ _ (by with_unfolding_all rfl) o1 _ _ _ _ (by with_unfolding_all rfl) r1 (by omega) ?_)
      intro C2 p2 q2 w2 hp1 hp2 hown2 hg2 hat2
      have r4 : IsL w2 (some ⟨w.heap.size + 1, 0, none⟩) 1 1 [g] := one_kept (w := ((w.alloc (.cells #[] 3)).alloc (.cells #[.int .i64 g] 3)).drew) (one_second w _ g) (fun d hd => by cases hd; simp [blk]) hg2
      obtain ⟨hM2, kO, kG, kB, hf2, fB, lO, lB⟩ := steal_facts ((((Mod.refl _ w).alloc _).alloc _).drew) (blk_size w) hr hro hcy hgl hg2 hat2
      have o4 := hown2
      have hW2 := hM2
      refine hK.out _ _ ⟨kO, kG⟩ (fun hHeld => ?_)
      clear hK K
      try simp only [List.getElem_toArray, List.getElem_cons_succ, List.getElem_cons_zero, Act.put, List.setIfInBounds_toArray, List.set_cons_zero, List.set_cons_succ]
      refine wpAnyH_ready (rs := [14]) (by kernel_rfl) (by simp) ?_
      refine AllReadyH.cons rfl (fun K hK => ?_) AllReadyH.nil
      (with_reducible refine step_app _ (by with_unfolding_all rfl) (.tmp 41) (.tmp 48) _ (by with_unfolding_all rfl) Try.underlying27 int_info _ _ _ _ (by with_unfolding_all rfl) o4 _ _ _ _ (by with_unfolding_all rfl) r4 (by omega) ?_)
      intro C3 p3 q3 w3 hp3 hp4 hown3 hg3 hat3
      obtain ⟨hM3, kO3, kG3, kB3, hf3, fB3, lO3, lB3⟩ := steal_facts hW2 hf2 hr hro hcy hgl hg3 hat3
      refine hK.out _ _ ⟨kO3, kG3⟩ (fun hHeld => ?_)
      clear hK K
      try simp only [List.getElem_toArray, List.getElem_cons_succ, List.getElem_cons_zero, Act.put, List.setIfInBounds_toArray, List.set_cons_zero, List.set_cons_succ]
      (refine wpAnyH_take (i := 15) (v := ?_) rfl (by kernel_rfl) (by kernel_rfl) (by kernel_rfl) (fun _ _ _ h => h) (Or.inl ⟨by kernel_rfl, ?_⟩) (by assumption) ?_; rotate_left; focus (intro wq hSw; (try dsimp only at hSw); go_simp; try with_reducible rfl); try simp only [List.getElem_toArray, List.getElem_cons_succ, List.getElem_cons_zero, Act.put, List.setIfInBounds_toArray, List.set_cons_zero, List.set_cons_succ])
      (refine wpAnyH_take (i := 16) (v := ?_) rfl (by kernel_rfl) (by kernel_rfl) (by kernel_rfl) (fun _ _ _ h => h) (Or.inl ⟨by kernel_rfl, ?_⟩) (by assumption) ?_; rotate_left; focus (intro wq hSw; (try dsimp only at hSw); go_simp; try with_reducible rfl); try simp only [List.getElem_toArray, List.getElem_cons_succ, List.getElem_cons_zero, Act.put, List.setIfInBounds_toArray, List.set_cons_zero, List.set_cons_succ])
      refine wpAnyH_ready (rs := [17]) (by kernel_rfl) (by simp) ?_
      refine AllReadyH.cons rfl (fun K hK => ?_) AllReadyH.nil
      go_simp
      refine hK.out _ _ ⟨cell_ne2 kO3 hob, cell_ne2 kG3 hgb⟩ (fun hHeld => ?_)
      clear hK K
      try simp only [List.getElem_toArray, List.getElem_cons_succ, List.getElem_cons_zero, Act.put, List.setIfInBounds_toArray, List.set_cons_zero, List.set_cons_succ]
      refine wpAnyH_done (by kernel_rfl) ?_ _
      refine NoPanic.normal ?_
      have hrb3 := hM3.rowIs hr (fun h => h)
      have hro3 := hM3.rowIs hro (fun h => h)
      have m4 := set_mod w3 b 1 (.slice C3 p3 q3)
      have hro4 := m4.rowIs hro3 hob
      have co := hro4.cell (i := 0) (by omega)
      have fo := hro4.frozen 0
      have lo := hro4.lt
      have rb4 : RRing (w3.setCell ⟨b, 1, none⟩ (.slice C3 p3 q3)) b (row ++ [g]) nxt :=
        ⟨A1, n1, c1, C3, p3, q3, RRing.set1 hrb3, (h1.keep0 hM3).set (t1.keep0 hM3) hrb3 (by decide), hown3.isL.set hown3.ty hrb3 (by decide), (t1.keep0 hM3).set hrb3 (by decide), hown3.ty.set hrb3 (by decide)⟩
      have k4 := (k2.keep0 hM3).set (s2.keep0 hM3) hrb3 (by decide) (k := 1) (v := .slice C3 p3 q3)
      have y4 := (s2.keep0 hM3).set hrb3 (by decide) (k := 1) (v := .slice C3 p3 q3)
      have m5 := set_mod (w3.setCell ⟨b, 1, none⟩ (.slice C3 p3 q3)) o 0 (.slice none 0 0)
      have rb5 := rb4.keep m5 (fun e => hob e.symm) (NoInts.row hro4 (by decide))
      have ro5 : RRing ((w3.setCell ⟨b, 1, none⟩ (.slice C3 p3 q3)).setCell ⟨o, 0, none⟩ (.slice none 0 0)) o [] none :=
        ⟨none, 0, 0, B2, 0, d2, RRing.set0 hro4, IsL.nil _, k4.set y4 hro4 (by decide), TyL.nil _, y4.set hro4 (by decide)⟩
      have mm : Mod (fun i => i = b ∨ i = o) w ((w3.setCell ⟨b, 1, none⟩ (.slice C3 p3 q3)).setCell ⟨o, 0, none⟩ (.slice none 0 0)) :=
        ((hM3.mono (fun _ _ h => h.elim)).trans' m4 (fun i _ e => .inl e)).trans' m5 (fun i _ e => .inr e)
      go_wp2
      go_ret
      exact ⟨rfl, rb5, ro5, mm⟩
  · go_simp
    refine hK.out _ _ ⟨hk0, hcy⟩ (fun hHeld => ?_)
    clear hK K
    try simp only [List.getElem_toArray, List.getElem_cons_succ, List.getElem_cons_zero, Act.put, List.setIfInBounds_toArray, List.set_cons_zero, List.set_cons_succ]
    refine wpAnyH_ready (rs := [1, 13]) (by kernel_rfl) (by simp) ?_
    refine AllReadyH.cons rfl (fun K hK => ?_) (AllReadyH.cons rfl (fun K hK => ?_) AllReadyH.nil)
    · go_simp
      refine hK.out _ _ ⟨eO, eG⟩ (fun hHeld => ?_)
      clear hK K
      try simp only [List.getElem_toArray, List.getElem_cons_succ, List.getElem_cons_zero, Act.put, List.setIfInBounds_toArray, List.set_cons_zero, List.set_cons_succ]
      refine wpAnyH_ready (rs := [6, 13]) (by kernel_rfl) (by simp) ?_
      refine AllReadyH.cons rfl (fun K hK => ?_) (AllReadyH.cons rfl (fun K hK => ?_) AllReadyH.nil)
      · have o1 : OwnL (w.alloc (.cells #[] 3)).drew (some ⟨w.heap.size, 0, none⟩) 0 0 [] := OwnL.empty w
        have r1 : IsL (w.alloc (.cells #[] 3)).drew A2 n2 c2 row := h2.alloc _
        (with_reducible refine step_app _ (by with_unfolding_all rfl) (.tmp 36) (.tmp 40) _ (by with_unfolding_all rfl) Try.underlying27 int_info _ _ _ _ (by with_unfolding_all rfl) o1 _ _ _ _ (by with_unfolding_all rfl) r1 (by omega) ?_)
        intro C2 p2 q2 w2 hp1 hp2 hown2 hg2 hat2
        obtain ⟨hM2, kO, kG, kB, hf2, fB, lO, lB⟩ := steal_facts (((Mod.refl _ w).alloc _).drew) (blk_size w) hr hro hcy hgl hg2 hat2
        have kOx : (w2.alloc (.cells #[.int .i64 g] 3)).cell? ⟨o, 0, none⟩ = some (.slice (some ⟨gg, oo, none⟩) 1 d1) := (((Mod.refl (fun _ => False) w2).alloc _).cell (p := ⟨o, 0, none⟩) lO (fun h => h)).trans kO
        have kGx : (w2.alloc (.cells #[.int .i64 g] 3)).cell? ⟨gg, oo, none⟩ = some (.int .i64 g) := (((Mod.refl (fun _ => False) w2).alloc _).cell (p := ⟨gg, oo, none⟩) (Nat.lt_of_lt_of_le hgl hM2.size) (fun h => h)).trans kG
        have o4 : OwnL (w2.alloc (.cells #[.int .i64 g] 3)) C2 p2 q2 ([] ++ row) := hown2.alloc _
        have r4 : IsL (w2.alloc (.cells #[.int .i64 g] 3)) (some ⟨w2.heap.size, 0, none⟩) 1 1 [g] := IsL.one w2 g
        have hW2 : Mod (fun _ => False) w (w2.alloc (.cells #[.int .i64 g] 3)) := hM2.alloc _
        refine hK.out _ _ ⟨kO, kG⟩ (fun hHeld => ?_)
        clear hK K
        try simp only [List.getElem_toArray, List.getElem_cons_succ, List.getElem_cons_zero, Act.put, List.setIfInBounds_toArray, List.set_cons_zero, List.set_cons_succ]
        refine wpAnyH_ready (rs := [13]) (by kernel_rfl) (by simp) ?_
        refine AllReadyH.cons rfl (fun K hK => ?_) AllReadyH.nil
        go_simp
        refine hK.out _ _ ⟨kOx, kGx⟩ (fun hHeld => ?_)
        clear hK K
        try simp only [List.getElem_toArray, List.getElem_cons_succ, List.getElem_cons_zero, Act.put, List.setIfInBounds_toArray, List.set_cons_zero, List.set_cons_succ]
        refine wpAnyH_ready (rs := [14]) (by kernel_rfl) (by simp) ?_
        refine AllReadyH.cons rfl (fun K hK => ?_) AllReadyH.nil
        (with_reducible refine step_app _ (by with_unfolding_all rfl) (.tmp 41) (.tmp 48) _ (by with_unfolding_all rfl) Try.underlying27 int_info _ _ _ _ (by with_unfolding_all rfl) o4 _ _ _ _ (by with_unfolding_all rfl) r4 (by omega) ?_)
        intro C3 p3 q3 w3 hp3 hp4 hown3 hg3 hat3
        obtain ⟨hM3, kO3, kG3, kB3, hf3, fB3, lO3, lB3⟩ := steal_facts hW2 hf2 hr hro hcy hgl hg3 hat3
        refine hK.out _ _ ⟨kO3, kG3⟩ (fun hHeld => ?_)
        clear hK K
        try simp only [List.getElem_toArray, List.getElem_cons_succ, List.getElem_cons_zero, Act.put, List.setIfInBounds_toArray, List.set_cons_zero, List.set_cons_succ]
        (refine wpAnyH_take (i := 15) (v := ?_) rfl (by kernel_rfl) (by kernel_rfl) (by kernel_rfl) (fun _ _ _ h => h) (Or.inl ⟨by kernel_rfl, ?_⟩) (by assumption) ?_; rotate_left; focus (intro wq hSw; (try dsimp only at hSw); go_simp; try with_reducible rfl); try simp only [List.getElem_toArray, List.getElem_cons_succ, List.getElem_cons_zero, Act.put, List.setIfInBounds_toArray, List.set_cons_zero, List.set_cons_succ])
        (refine wpAnyH_take (i := 16) (v := ?_) rfl (by kernel_rfl) (by kernel_rfl) (by kernel_rfl) (fun _ _ _ h => h) (Or.inl ⟨by kernel_rfl, ?_⟩) (by assumption) ?_; rotate_left; focus (intro wq hSw; (try dsimp only at hSw); go_simp; try with_reducible rfl); try simp only [List.getElem_toArray, List.getElem_cons_succ, List.getElem_cons_zero, Act.put, List.setIfInBounds_toArray, List.set_cons_zero, List.set_cons_succ])
        refine wpAnyH_ready (rs := [17]) (by kernel_rfl) (by simp) ?_
        refine AllReadyH.cons rfl (fun K hK => ?_) AllReadyH.nil
        go_simp
        refine hK.out _ _ ⟨cell_ne2 kO3 hob, cell_ne2 kG3 hgb⟩ (fun hHeld => ?_)
        clear hK K
        try simp only [List.getElem_toArray, List.getElem_cons_succ, List.getElem_cons_zero, Act.put, List.setIfInBounds_toArray, List.set_cons_zero, List.set_cons_succ]
        refine wpAnyH_done (by kernel_rfl) ?_ _
        refine NoPanic.normal ?_
        have hrb3 := hM3.rowIs hr (fun h => h)
        have hro3 := hM3.rowIs hro (fun h => h)
        have m4 := set_mod w3 b 1 (.slice C3 p3 q3)
        have hro4 := m4.rowIs hro3 hob
        have co := hro4.cell (i := 0) (by omega)
        have fo := hro4.frozen 0
        have lo := hro4.lt
        have rb4 : RRing (w3.setCell ⟨b, 1, none⟩ (.slice C3 p3 q3)) b (row ++ [g]) nxt :=
          ⟨A1, n1, c1, C3, p3, q3, RRing.set1 hrb3, (h1.keep0 hM3).set (t1.keep0 hM3) hrb3 (by decide), hown3.isL.set hown3.ty hrb3 (by decide), (t1.keep0 hM3).set hrb3 (by decide), hown3.ty.set hrb3 (by decide)⟩
        have k4 := (k2.keep0 hM3).set (s2.keep0 hM3) hrb3 (by decide) (k := 1) (v := .slice C3 p3 q3)
        have y4 := (s2.keep0 hM3).set hrb3 (by decide) (k := 1) (v := .slice C3 p3 q3)
        have m5 := set_mod (w3.setCell ⟨b, 1, none⟩ (.slice C3 p3 q3)) o 0 (.slice none 0 0)
        have rb5 := rb4.keep m5 (fun e => hob e.symm) (NoInts.row hro4 (by decide))
        have ro5 : RRing ((w3.setCell ⟨b, 1, none⟩ (.slice C3 p3 q3)).setCell ⟨o, 0, none⟩ (.slice none 0 0)) o [] none :=
          ⟨none, 0, 0, B2, 0, d2, RRing.set0 hro4, IsL.nil _, k4.set y4 hro4 (by decide), TyL.nil _, y4.set hro4 (by decide)⟩
        have mm : Mod (fun i => i = b ∨ i = o) w ((w3.setCell ⟨b, 1, none⟩ (.slice C3 p3 q3)).setCell ⟨o, 0, none⟩ (.slice none 0 0)) :=
          ((hM3.mono (fun _ _ h => h.elim)).trans' m4 (fun i _ e => .inl e)).trans' m5 (fun i _ e => .inr e)
        go_wp2
        go_ret
        exact ⟨rfl, rb5, ro5, mm⟩
      · go_simp
        refine hK.out _ _ ⟨exO, exG⟩ (fun hHeld => ?_)
        clear hK K
        try simp only [List.getElem_toArray, List.getElem_cons_succ, List.getElem_cons_zero, Act.put, List.setIfInBounds_toArray, List.set_cons_zero, List.set_cons_succ]
        refine wpAnyH_ready (rs := [6]) (by kernel_rfl) (by simp) ?_
        refine AllReadyH.cons rfl (fun K hK => ?_) AllReadyH.nil
        have o1 : OwnL ((w.alloc (.cells #[] 3)).alloc (.cells #[.int .i64 g] 3)).drew (some ⟨w.heap.size, 0, none⟩) 0 0 [] := (OwnL.empty w).alloc _
        have r1 : IsL ((w.alloc (.cells #[] 3)).alloc (.cells #[.int .i64 g] 3)).drew A2 n2 c2 row := (h2.alloc _).alloc _
        (with_reducible refine step_app _ (by with_unfolding_all rfl) (.tmp 36) (.tmp 40) _ (by with_unfolding_all rfl) Try.underlying27 int_info _ _ _ _ (by with_unfolding_all rfl) o1 _ _ _ _ (by with_unfolding_all rfl) r1 (by omega) ?_)
        intro C2 p2 q2 w2 hp1 hp2 hown2 hg2 hat2
        have r4 : IsL w2 (some ⟨w.heap.size + 1, 0, none⟩) 1 1 [g] := one_kept (w := ((w.alloc (.cells #[] 3)).alloc (.cells #[.int .i64 g] 3)).drew) (one_second w _ g) (fun d hd => by cases hd; simp [blk]) hg2
        obtain ⟨hM2, kO, kG, kB, hf2, fB, lO, lB⟩ := steal_facts ((((Mod.refl _ w).alloc _).alloc _).drew) (blk_size w) hr hro hcy hgl hg2 hat2
        have o4 := hown2
        have hW2 := hM2
        refine hK.out _ _ ⟨kO, kG⟩ (fun hHeld => ?_)
        clear hK K
        try simp only [List.getElem_toArray, List.getElem_cons_succ, List.getElem_cons_zero, Act.put, List.setIfInBounds_toArray, List.set_cons_zero, List.set_cons_succ]
        refine wpAnyH_ready (rs := [14]) (by kernel_rfl) (by simp) ?_
        refine AllReadyH.cons rfl (fun K hK => ?_) AllReadyH.nil
        (with_reducible refine step_app _ (by with_unfolding_all rfl) (.tmp 41) (.tmp 48) _ (by with_unfolding_all rfl) Try.underlying27 int_info _ _ _ _ (by with_unfolding_all rfl) o4 _ _ _ _ (by with_unfolding_all rfl) r4 (by omega) ?_)
        intro C3 p3 q3 w3 hp3 hp4 hown3 hg3 hat3
        obtain ⟨hM3, kO3, kG3, kB3, hf3, fB3, lO3, lB3⟩ := steal_facts hW2 hf2 hr hro hcy hgl hg3 hat3
        refine hK.out _ _ ⟨kO3, kG3⟩ (fun hHeld => ?_)
        clear hK K
        try simp only [List.getElem_toArray, List.getElem_cons_succ, List.getElem_cons_zero, Act.put, List.setIfInBounds_toArray, List.set_cons_zero, List.set_cons_succ]
        (refine wpAnyH_take (i := 15) (v := ?_) rfl (by kernel_rfl) (by kernel_rfl) (by kernel_rfl) (fun _ _ _ h => h) (Or.inl ⟨by kernel_rfl, ?_⟩) (by assumption) ?_; rotate_left; focus (intro wq hSw; (try dsimp only at hSw); go_simp; try with_reducible rfl); try simp only [List.getElem_toArray, List.getElem_cons_succ, List.getElem_cons_zero, Act.put, List.setIfInBounds_toArray, List.set_cons_zero, List.set_cons_succ])
        (refine wpAnyH_take (i := 16) (v := ?_) rfl (by kernel_rfl) (by kernel_rfl) (by kernel_rfl) (fun _ _ _ h => h) (Or.inl ⟨by kernel_rfl, ?_⟩) (by assumption) ?_; rotate_left; focus (intro wq hSw; (try dsimp only at hSw); go_simp; try with_reducible rfl); try simp only [List.getElem_toArray, List.getElem_cons_succ, List.getElem_cons_zero, Act.put, List.setIfInBounds_toArray, List.set_cons_zero, List.set_cons_succ])
        refine wpAnyH_ready (rs := [17]) (by kernel_rfl) (by simp) ?_
        refine AllReadyH.cons rfl (fun K hK => ?_) AllReadyH.nil
        go_simp
        refine hK.out _ _ ⟨cell_ne2 kO3 hob, cell_ne2 kG3 hgb⟩ (fun hHeld => ?_)
        clear hK K
        try simp only [List.getElem_toArray, List.getElem_cons_succ, List.getElem_cons_zero, Act.put, List.setIfInBounds_toArray, List.set_cons_zero, List.set_cons_succ]
        refine wpAnyH_done (by kernel_rfl) ?_ _
        refine NoPanic.normal ?_
        have hrb3 := hM3.rowIs hr (fun h => h)
        have hro3 := hM3.rowIs hro (fun h => h)
        have m4 := set_mod w3 b 1 (.slice C3 p3 q3)
        have hro4 := m4.rowIs hro3 hob
        have co := hro4.cell (i := 0) (by omega)
        have fo := hro4.frozen 0
        have lo := hro4.lt
        have rb4 : RRing (w3.setCell ⟨b, 1, none⟩ (.slice C3 p3 q3)) b (row ++ [g]) nxt :=
          ⟨A1, n1, c1, C3, p3, q3, RRing.set1 hrb3, (h1.keep0 hM3).set (t1.keep0 hM3) hrb3 (by decide), hown3.isL.set hown3.ty hrb3 (by decide), (t1.keep0 hM3).set hrb3 (by decide), hown3.ty.set hrb3 (by decide)⟩
        have k4 := (k2.keep0 hM3).set (s2.keep0 hM3) hrb3 (by decide) (k := 1) (v := .slice C3 p3 q3)
        have y4 := (s2.keep0 hM3).set hrb3 (by decide) (k := 1) (v := .slice C3 p3 q3)
        have m5 := set_mod (w3.setCell ⟨b, 1, none⟩ (.slice C3 p3 q3)) o 0 (.slice none 0 0)
        have rb5 := rb4.keep m5 (fun e => hob e.symm) (NoInts.row hro4 (by decide))
        have ro5 : RRing ((w3.setCell ⟨b, 1, none⟩ (.slice C3 p3 q3)).setCell ⟨o, 0, none⟩ (.slice none 0 0)) o [] none :=
          ⟨none, 0, 0, B2, 0, d2, RRing.set0 hro4, IsL.nil _, k4.set y4 hro4 (by decide), TyL.nil _, y4.set hro4 (by decide)⟩
        have mm : Mod (fun i => i = b ∨ i = o) w ((w3.setCell ⟨b, 1, none⟩ (.slice C3 p3 q3)).setCell ⟨o, 0, none⟩ (.slice none 0 0)) :=
          ((hM3.mono (fun _ _ h => h.elim)).trans' m4 (fun i _ e => .inl e)).trans' m5 (fun i _ e => .inr e)
        go_wp2
        go_ret
        exact ⟨rfl, rb5, ro5, mm⟩
    · go_simp
      refine hK.out _ _ ⟨xO, xG⟩ (fun hHeld => ?_)
      clear hK K
      try simp only [List.getElem_toArray, List.getElem_cons_succ, List.getElem_cons_zero, Act.put, List.setIfInBounds_toArray, List.set_cons_zero, List.set_cons_succ]
      refine wpAnyH_ready (rs := [1]) (by kernel_rfl) (by simp) ?_
      refine AllReadyH.cons rfl (fun K hK => ?_) AllReadyH.nil
      go_simp
      refine hK.out _ _ ⟨xeO, xeG⟩ (fun hHeld => ?_)
      clear hK K
      try simp only [List.getElem_toArray, List.getElem_cons_succ, List.getElem_cons_zero, Act.put, List.setIfInBounds_toArray, List.set_cons_zero, List.set_cons_succ]
      refine wpAnyH_ready (rs := [6]) (by kernel_rfl) (by simp) ?_
      refine AllReadyH.cons rfl (fun K hK => ?_) AllReadyH.nil
      have o1 : OwnL ((w.alloc (.cells #[.int .i64 g] 3)).alloc (.cells #[] 3)).drew (some ⟨w.heap.size + 1, 0, none⟩) 0 0 [] := own_second w _
      have r1 : IsL ((w.alloc (.cells #[.int .i64 g] 3)).alloc (.cells #[] 3)).drew A2 n2 c2 row := (h2.alloc _).alloc _
      (with_reducible refine step_app _ (by with_unfolding_all rfl) (.tmp 36) (.tmp 40) _ (by with_unfolding_all rfl) Try.underlying27 int_info _ _ _ _ (by with_unfolding_all rfl) o1 _ _ _ _ (by with_unfolding_all rfl) r1 (by omega) ?_)
      intro C2 p2 q2 w2 hp1 hp2 hown2 hg2 hat2
      have r4 : IsL w2 (some ⟨w.heap.size, 0, none⟩) 1 1 [g] := one_kept (w := ((w.alloc (.cells #[.int .i64 g] 3)).alloc (.cells #[] 3)).drew) ((IsL.one w g).alloc _) (fun d hd => by cases hd; simp [blk]) hg2
      obtain ⟨hM2, kO, kG, kB, hf2, fB, lO, lB⟩ := steal_facts ((((Mod.refl _ w).alloc _).alloc _).drew) (blk_second w) hr hro hcy hgl hg2 hat2
      have o4 := hown2
      have hW2 := hM2
      refine hK.out _ _ ⟨kO, kG⟩ (fun hHeld => ?_)
      clear hK K
      try simp only [List.getElem_toArray, List.getElem_cons_succ, List.getElem_cons_zero, Act.put, List.setIfInBounds_toArray, List.set_cons_zero, List.set_cons_succ]
      refine wpAnyH_ready (rs := [14]) (by kernel_rfl) (by simp) ?_
      refine AllReadyH.cons rfl (fun K hK => ?_) AllReadyH.nil
      (with_reducible refine step_app _ (by with_unfolding_all rfl) (.tmp 41) (.tmp 48) _ (by with_unfolding_all rfl) Try.underlying27 int_info _ _ _ _ (by with_unfolding_all rfl) o4 _ _ _ _ (by with_unfolding_all rfl) r4 (by omega) ?_)
      intro C3 p3 q3 w3 hp3 hp4 hown3 hg3 hat3
      obtain ⟨hM3, kO3, kG3, kB3, hf3, fB3, lO3, lB3⟩ := steal_facts hW2 hf2 hr hro hcy hgl hg3 hat3
      refine hK.out _ _ ⟨kO3, kG3⟩ (fun hHeld => ?_)
      clear hK K
      try simp only [List.getElem_toArray, List.getElem_cons_succ, List.getElem_cons_zero, Act.put, List.setIfInBounds_toArray, List.set_cons_zero, List.set_cons_succ]
      (refine wpAnyH_take (i := 15) (v := ?_) rfl (by kernel_rfl) (by kernel_rfl) (by kernel_rfl) (fun _ _ _ h => h) (Or.inl ⟨by kernel_rfl, ?_⟩) (by assumption) ?_; rotate_left; focus (intro wq hSw; (try dsimp only at hSw); go_simp; try with_reducible rfl); try simp only [List.getElem_toArray, List.getElem_cons_succ, List.getElem_cons_zero, Act.put, List.setIfInBounds_toArray, List.set_cons_zero, List.set_cons_succ])
      (refine wpAnyH_take (i := 16) (v := ?_) rfl (by kernel_rfl) (by kernel_rfl) (by kernel_rfl) (fun _ _ _ h => h) (Or.inl ⟨by kernel_rfl, ?_⟩) (by assumption) ?_; rotate_left; focus (intro wq hSw; (try dsimp only at hSw); go_simp; try with_reducible rfl); try simp only [List.getElem_toArray, List.getElem_cons_succ, List.getElem_cons_zero, Act.put, List.setIfInBounds_toArray, List.set_cons_zero, List.set_cons_succ])
      refine wpAnyH_ready (rs := [17]) (by kernel_rfl) (by simp) ?_
      refine AllReadyH.cons rfl (fun K hK => ?_) AllReadyH.nil
      go_simp
      refine hK.out _ _ ⟨cell_ne2 kO3 hob, cell_ne2 kG3 hgb⟩ (fun hHeld => ?_)
      clear hK K
      try simp only [List.getElem_toArray, List.getElem_cons_succ, List.getElem_cons_zero, Act.put, List.setIfInBounds_toArray, List.set_cons_zero, List.set_cons_succ]
      refine wpAnyH_done (by kernel_rfl) ?_ _
      refine NoPanic.normal ?_
      have hrb3 := hM3.rowIs hr (fun h => h)
      have hro3 := hM3.rowIs hro (fun h => h)
      have m4 := set_mod w3 b 1 (.slice C3 p3 q3)
      have hro4 := m4.rowIs hro3 hob
      have co := hro4.cell (i := 0) (by omega)
      have fo := hro4.frozen 0
      have lo := hro4.lt
      have rb4 : RRing (w3.setCell ⟨b, 1, none⟩ (.slice C3 p3 q3)) b (row ++ [g]) nxt :=
        ⟨A1, n1, c1, C3, p3, q3, RRing.set1 hrb3, (h1.keep0 hM3).set (t1.keep0 hM3) hrb3 (by decide), hown3.isL.set hown3.ty hrb3 (by decide), (t1.keep0 hM3).set hrb3 (by decide), hown3.ty.set hrb3 (by decide)⟩
      have k4 := (k2.keep0 hM3).set (s2.keep0 hM3) hrb3 (by decide) (k := 1) (v := .slice C3 p3 q3)
      have y4 := (s2.keep0 hM3).set hrb3 (by decide) (k := 1) (v := .slice C3 p3 q3)
      have m5 := set_mod (w3.setCell ⟨b, 1, none⟩ (.slice C3 p3 q3)) o 0 (.slice none 0 0)
      have rb5 := rb4.keep m5 (fun e => hob e.symm) (NoInts.row hro4 (by decide))
      have ro5 : RRing ((w3.setCell ⟨b, 1, none⟩ (.slice C3 p3 q3)).setCell ⟨o, 0, none⟩ (.slice none 0 0)) o [] none :=
        ⟨none, 0, 0, B2, 0, d2, RRing.set0 hro4, IsL.nil _, k4.set y4 hro4 (by decide), TyL.nil _, y4.set hro4 (by decide)⟩
      have mm : Mod (fun i => i = b ∨ i = o) w ((w3.setCell ⟨b, 1, none⟩ (.slice C3 p3 q3)).setCell ⟨o, 0, none⟩ (.slice none 0 0)) :=
        ((hM3.mono (fun _ _ h => h.elim)).trans' m4 (fun i _ e => .inl e)).trans' m5 (fun i _ e => .inr e)
      go_wp2
      go_ret
      exact ⟨rfl, rb5, ro5, mm⟩
  · go_simp
    refine hK.out _ _ ⟨xO, xG⟩ (fun hHeld => ?_)
    clear hK K
    try simp only [List.getElem_toArray, List.getElem_cons_succ, List.getElem_cons_zero, Act.put, List.setIfInBounds_toArray, List.set_cons_zero, List.set_cons_succ]
    refine wpAnyH_ready (rs := [1, 5]) (by kernel_rfl) (by simp) ?_
    refine AllReadyH.cons rfl (fun K hK => ?_) (AllReadyH.cons rfl (fun K hK => ?_) AllReadyH.nil)
    · go_simp
      refine hK.out _ _ ⟨xeO, xeG⟩ (fun hHeld => ?_)
      clear hK K
      try simp only [List.getElem_toArray, List.getElem_cons_succ, List.getElem_cons_zero, Act.put, List.setIfInBounds_toArray, List.set_cons_zero, List.set_cons_succ]
      refine wpAnyH_ready (rs := [5]) (by kernel_rfl) (by simp) ?_
      refine AllReadyH.cons rfl (fun K hK => ?_) AllReadyH.nil
      go_simp
      refine hK.out _ _ ⟨xeO, xeG⟩ (fun hHeld => ?_)
      clear hK K
      try simp only [List.getElem_toArray, List.getElem_cons_succ, List.getElem_cons_zero, Act.put, List.setIfInBounds_toArray, List.set_cons_zero, List.set_cons_succ]
      refine wpAnyH_ready (rs := [6]) (by kernel_rfl) (by simp) ?_
      refine AllReadyH.cons rfl (fun K hK => ?_) AllReadyH.nil
      have o1 : OwnL ((w.alloc (.cells #[.int .i64 g] 3)).alloc (.cells #[] 3)).drew (some ⟨w.heap.size + 1, 0, none⟩) 0 0 [] := own_second w _
      have r1 : IsL ((w.alloc (.cells #[.int .i64 g] 3)).alloc (.cells #[] 3)).drew A2 n2 c2 row := (h2.alloc _).alloc _
      (with_reducible refine step_app _ (by with_unfolding_all rfl) (.tmp 36) (.tmp 40) _ (by with_unfolding_all rfl) Try.underlying27 int_info _ _ _ _ (by with_unfolding_all rfl) o1 _ _ _ _ (by with_unfolding_all rfl) r1 (by omega) ?_)
      intro C2 p2 q2 w2 hp1 hp2 hown2 hg2 hat2
      have r4 : IsL w2 (some ⟨w.heap.size, 0, none⟩) 1 1 [g] := one_kept (w := ((w.alloc (.cells #[.int .i64 g] 3)).alloc (.cells #[] 3)).drew) ((IsL.one w g).alloc _) (fun d hd => by cases hd; simp [blk]) hg2
      obtain ⟨hM2, kO, kG, kB, hf2, fB, lO, lB⟩ := steal_facts ((((Mod.refl _ w).alloc _).alloc _).drew) (blk_second w) hr hro hcy hgl hg2 hat2
      have o4 := hown2
      have hW2 := hM2
      refine hK.out _ _ ⟨kO, kG⟩ (fun hHeld => ?_)
      clear hK K
      try simp only [List.getElem_toArray, List.getElem_cons_succ, List.getElem_cons_zero, Act.put, List.setIfInBounds_toArray, List.set_cons_zero, List.set_cons_succ]
      refine wpAnyH_ready (rs := [14]) (by kernel_rfl) (by simp) ?_
      refine AllReadyH.cons rfl (fun K hK => ?_) AllReadyH.nil
      (with_reducible refine step_app _ (by with_unfolding_all rfl) (.tmp 41) (.tmp 48) _ (by with_unfolding_all rfl) Try.underlying27 int_info _ _ _ _ (by with_unfolding_all rfl) o4 _ _ _ _ (by with_unfolding_all rfl) r4 (by omega) ?_)
      intro C3 p3 q3 w3 hp3 hp4 hown3 hg3 hat3
      obtain ⟨hM3, kO3, kG3, kB3, hf3, fB3, lO3, lB3⟩ := steal_facts hW2 hf2 hr hro hcy hgl hg3 hat3
      refine hK.out _ _ ⟨kO3, kG3⟩ (fun hHeld => ?_)
      clear hK K
      try simp only [List.getElem_toArray, List.getElem_cons_succ, List.getElem_cons_zero, Act.put, List.setIfInBounds_toArray, List.set_cons_zero, List.set_cons_succ]
      (refine wpAnyH_take (i := 15) (v := ?_) rfl (by kernel_rfl) (by kernel_rfl) (by kernel_rfl) (fun _ _ _ h => h) (Or.inl ⟨by kernel_rfl, ?_⟩) (by assumption) ?_; rotate_left; focus (intro wq hSw; (try dsimp only at hSw); go_simp; try with_reducible rfl); try simp only [List.getElem_toArray, List.getElem_cons_succ, List.getElem_cons_zero, Act.put, List.setIfInBounds_toArray, List.set_cons_zero, List.set_cons_succ])
      (refine wpAnyH_take (i := 16) (v := ?_) rfl (by kernel_rfl) (by kernel_rfl) (by kernel_rfl) (fun _ _ _ h => h) (Or.inl ⟨by kernel_rfl, ?_⟩) (by assumption) ?_; rotate_left; focus (intro wq hSw; (try dsimp only at hSw); go_simp; try with_reducible rfl); try simp only [List.getElem_toArray, List.getElem_cons_succ, List.getElem_cons_zero, Act.put, List.setIfInBounds_toArray, List.set_cons_zero, List.set_cons_succ])
      refine wpAnyH_ready (rs := [17]) (by kernel_rfl) (by simp) ?_
      refine AllReadyH.cons rfl (fun K hK => ?_) AllReadyH.nil
      go_simp
      refine hK.out _ _ ⟨cell_ne2 kO3 hob, cell_ne2 kG3 hgb⟩ (fun hHeld => ?_)
      clear hK K
      try simp only [List.getElem_toArray, List.getElem_cons_succ, List.getElem_cons_zero, Act.put, List.setIfInBounds_toArray, List.set_cons_zero, List.set_cons_succ]
      refine wpAnyH_done (by kernel_rfl) ?_ _
      refine NoPanic.normal ?_
      have hrb3 := hM3.rowIs hr (fun h => h)
      have hro3 := hM3.rowIs hro (fun h => h)
      have m4 := set_mod w3 b 1 (.slice C3 p3 q3)
      have hro4 := m4.rowIs hro3 hob
      have co := hro4.cell (i := 0) (by omega)
      have fo := hro4.frozen 0
      have lo := hro4.lt
      have rb4 : RRing (w3.setCell ⟨b, 1, none⟩ (.slice C3 p3 q3)) b (row ++ [g]) nxt :=
        ⟨A1, n1, c1, C3, p3, q3, RRing.set1 hrb3, (h1.keep0 hM3).set (t1.keep0 hM3) hrb3 (by decide), hown3.isL.set hown3.ty hrb3 (by decide), (t1.keep0 hM3).set hrb3 (by decide), hown3.ty.set hrb3 (by decide)⟩
      have k4 := (k2.keep0 hM3).set (s2.keep0 hM3) hrb3 (by decide) (k := 1) (v := .slice C3 p3 q3)
      have y4 := (s2.keep0 hM3).set hrb3 (by decide) (k := 1) (v := .slice C3 p3 q3)
      have m5 := set_mod (w3.setCell ⟨b, 1, none⟩ (.slice C3 p3 q3)) o 0 (.slice none 0 0)
      have rb5 := rb4.keep m5 (fun e => hob e.symm) (NoInts.row hro4 (by decide))
      have ro5 : RRing ((w3.setCell ⟨b, 1, none⟩ (.slice C3 p3 q3)).setCell ⟨o, 0, none⟩ (.slice none 0 0)) o [] none :=
        ⟨none, 0, 0, B2, 0, d2, RRing.set0 hro4, IsL.nil _, k4.set y4 hro4 (by decide), TyL.nil _, y4.set hro4 (by decide)⟩
      have mm : Mod (fun i => i = b ∨ i = o) w ((w3.setCell ⟨b, 1, none⟩ (.slice C3 p3 q3)).setCell ⟨o, 0, none⟩ (.slice none 0 0)) :=
        ((hM3.mono (fun _ _ h => h.elim)).trans' m4 (fun i _ e => .inl e)).trans' m5 (fun i _ e => .inr e)
      go_wp2
      go_ret
      exact ⟨rfl, rb5, ro5, mm⟩
    · go_simp
      refine hK.out _ _ ⟨xO, xG⟩ (fun hHeld => ?_)
      clear hK K
      try simp only [List.getElem_toArray, List.getElem_cons_succ, List.getElem_cons_zero, Act.put, List.setIfInBounds_toArray, List.set_cons_zero, List.set_cons_succ]
      refine wpAnyH_ready (rs := [1]) (by kernel_rfl) (by simp) ?_
      refine AllReadyH.cons rfl (fun K hK => ?_) AllReadyH.nil
      go_simp
      refine hK.out _ _ ⟨xeO, xeG⟩ (fun hHeld => ?_)
      clear hK K
      try simp only [List.getElem_toArray, List.getElem_cons_succ, List.getElem_cons_zero, Act.put, List.setIfInBounds_toArray, List.set_cons_zero, List.set_cons_succ]
      refine wpAnyH_ready (rs := [6]) (by kernel_rfl) (by simp) ?_
      refine AllReadyH.cons rfl (fun K hK => ?_) AllReadyH.nil
      have o1 : OwnL ((w.alloc (.cells #[.int .i64 g] 3)).alloc (.cells #[] 3)).drew (some ⟨w.heap.size + 1, 0, none⟩) 0 0 [] := own_second w _
      have r1 : IsL ((w.alloc (.cells #[.int .i64 g] 3)).alloc (.cells #[] 3)).drew A2 n2 c2 row := (h2.alloc _).alloc _
      (with_reducible refine step_app _ (by with_unfolding_all rfl) (.tmp 36) (.tmp 40) _ (by with_unfolding_all rfl) Try.underlying27 int_info _ _ _ _ (by with_unfolding_all rfl) o1 _ _ _ _ (by with_unfolding_all rfl) r1 (by omega) ?_)
      intro C2 p2 q2 w2 hp1 hp2 hown2 hg2 hat2
      have r4 : IsL w2 (some ⟨w.heap.size, 0, none⟩) 1 1 [g] := one_kept (w := ((w.alloc (.cells #[.int .i64 g] 3)).alloc (.cells #[] 3)).drew) ((IsL.one w g).alloc _) (fun d hd => by cases hd; simp [blk]) hg2
      obtain ⟨hM2, kO, kG, kB, hf2, fB, lO, lB⟩ := steal_facts ((((Mod.refl _ w).alloc _).alloc _).drew) (blk_second w) hr hro hcy hgl hg2 hat2
      have o4 := hown2
      have hW2 := hM2
      refine hK.out _ _ ⟨kO, kG⟩ (fun hHeld => ?_)
      clear hK K
      try simp only [List.getElem_toArray, List.getElem_cons_succ, List.getElem_cons_zero, Act.put, List.setIfInBounds_toArray, List.set_cons_zero, List.set_cons_succ]
      refine wpAnyH_ready (rs := [14]) (by kernel_rfl) (by simp) ?_
      refine AllReadyH.cons rfl (fun K hK => ?_) AllReadyH.nil
      (with_reducible refine step_app _ (by with_unfolding_all rfl) (.tmp 41) (.tmp 48) _ (by with_unfolding_all rfl) Try.underlying27 int_info _ _ _ _ (by with_unfolding_all rfl) o4 _ _ _ _ (by with_unfolding_all rfl) r4 (by omega) ?_)
      intro C3 p3 q3 w3 hp3 hp4 hown3 hg3 hat3
      obtain ⟨hM3, kO3, kG3, kB3, hf3, fB3, lO3, lB3⟩ := steal_facts hW2 hf2 hr hro hcy hgl hg3 hat3
      refine hK.out _ _ ⟨kO3, kG3⟩ (fun hHeld => ?_)
      clear hK K
      try simp only [List.getElem_toArray, List.getElem_cons_succ, List.getElem_cons_zero, Act.put, List.setIfInBounds_toArray, List.set_cons_zero, List.set_cons_succ]
      (refine wpAnyH_take (i := 15) (v := ?_) rfl (by kernel_rfl) (by kernel_rfl) (by kernel_rfl) (fun _ _ _ h => h) (Or.inl ⟨by kernel_rfl, ?_⟩) (by assumption) ?_; rotate_left; focus (intro wq hSw; (try dsimp only at hSw); go_simp; try with_reducible rfl); try simp only [List.getElem_toArray, List.getElem_cons_succ, List.getElem_cons_zero, Act.put, List.setIfInBounds_toArray, List.set_cons_zero, List.set_cons_succ])
      (refine wpAnyH_take (i := 16) (v := ?_) rfl (by kernel_rfl) (by kernel_rfl) (by kernel_rfl) (fun _ _ _ h => h) (Or.inl ⟨by kernel_rfl, ?_⟩) (by assumption) ?_; rotate_left; focus (intro wq hSw; (try dsimp only at hSw); go_simp; try with_reducible rfl); try simp only [List.getElem_toArray, List.getElem_cons_succ, List.getElem_cons_zero, Act.put, List.setIfInBounds_toArray, List.set_cons_zero, List.set_cons_succ])
      refine wpAnyH_ready (rs := [17]) (by kernel_rfl) (by simp) ?_
      refine AllReadyH.cons rfl (fun K hK => ?_) AllReadyH.nil
      go_simp
      refine hK.out _ _ ⟨cell_ne2 kO3 hob, cell_ne2 kG3 hgb⟩ (fun hHeld => ?_)
      clear hK K
      try simp only [List.getElem_toArray, List.getElem_cons_succ, List.getElem_cons_zero, Act.put, List.setIfInBounds_toArray, List.set_cons_zero, List.set_cons_succ]
      refine wpAnyH_done (by kernel_rfl) ?_ _
      refine NoPanic.normal ?_
      have hrb3 := hM3.rowIs hr (fun h => h)
      have hro3 := hM3.rowIs hro (fun h => h)
      have m4 := set_mod w3 b 1 (.slice C3 p3 q3)
      have hro4 := m4.rowIs hro3 hob
      have co := hro4.cell (i := 0) (by omega)
      have fo := hro4.frozen 0
      have lo := hro4.lt
      have rb4 : RRing (w3.setCell ⟨b, 1, none⟩ (.slice C3 p3 q3)) b (row ++ [g]) nxt :=
        ⟨A1, n1, c1, C3, p3, q3, RRing.set1 hrb3, (h1.keep0 hM3).set (t1.keep0 hM3) hrb3 (by decide), hown3.isL.set hown3.ty hrb3 (by decide), (t1.keep0 hM3).set hrb3 (by decide), hown3.ty.set hrb3 (by decide)⟩
      have k4 := (k2.keep0 hM3).set (s2.keep0 hM3) hrb3 (by decide) (k := 1) (v := .slice C3 p3 q3)
      have y4 := (s2.keep0 hM3).set hrb3 (by decide) (k := 1) (v := .slice C3 p3 q3)
      have m5 := set_mod (w3.setCell ⟨b, 1, none⟩ (.slice C3 p3 q3)) o 0 (.slice none 0 0)
      have rb5 := rb4.keep m5 (fun e => hob e.symm) (NoInts.row hro4 (by decide))
      have ro5 : RRing ((w3.setCell ⟨b, 1, none⟩ (.slice C3 p3 q3)).setCell ⟨o, 0, none⟩ (.slice none 0 0)) o [] none :=
        ⟨none, 0, 0, B2, 0, d2, RRing.set0 hro4, IsL.nil _, k4.set y4 hro4 (by decide), TyL.nil _, y4.set hro4 (by decide)⟩
      have mm : Mod (fun i => i = b ∨ i = o) w ((w3.setCell ⟨b, 1, none⟩ (.slice C3 p3 q3)).setCell ⟨o, 0, none⟩ (.slice none 0 0)) :=
        ((hM3.mono (fun _ _ h => h.elim)).trans' m4 (fun i _ e => .inl e)).trans' m5 (fun i _ e => .inr e)
      go_wp2
      go_ret
      exact ⟨rfl, rb5, ro5, mm⟩

section
variable {P : Program}
theorem run_min_two (ts : Array TypeId) (t : TypeId) (x y r : Int) (hr : r = min x y) (w : World) : (Builtin.min_ ts t #[.int .i64 x, .int .i64 y]).run P w = .ok (.int .i64 r) w := by
  subst hr
  have h := run_min_int2 (P := P) w ts t .i64 .i64 x y
  have e : (if y < x then y else x) = min x y := by omega
  rw [e] at h
  exact h
theorem cut_high2 (t : TypeId) (ht : P.underlying t = some (.slice 3)) (hinfo : (P.info? 3).map (fun i => (i.zero, i.size, i.bytes)) = some (some (.int .i64 0), 1, 8))
    (A : Option Addr) (n c k : Nat) (hk : k ≤ c) (W : World) : (Instr.sliceAt t (.slice A n c) none (some (.int .i64 (k : Int))) none).run P W = .ok (.slice A k c) W := by
  obtain ⟨i, hi, hzz⟩ := Option.map_eq_some_iff.1 hinfo
  simp only [Prod.mk.injEq] at hzz
  obtain ⟨_, hsz, _⟩ := hzz
  have he : P.elem t = 3 := by simp [Program.elem, ht]
  have ht' : P.underlying t = some (.slice (P.elem t)) := by rw [he]; exact ht
  rw [run_sliceAt_slice W t _ _ _ _ ht', run_slice_h W t A n c ht' .i64 (k : Int) (by omega) (by omega), he]
  cases A with
  | none => simp [sizeOf, typeInfo, hi, hsz, sliced]
  | some a => simp [sizeOf, typeInfo, hi, hsz, sliced, Addr.add]
end

set_option maxHeartbeats 1000000 in
set_option maxRecDepth 100000 in
theorem rrsteal_row (b o : Nat) (row orow : List Int) (nxt onxt : Option Int) (w : World) (h : RRing w b row nxt) (ho : RRing w o orow onxt) (hne : b ≠ o) (hn0 : orow ≠ []) (hlen : row.length ≤ 256) (holen : orow.length ≤ 256) :
    Calls Try.prog 36 #[.pointer (some ⟨b, 0, none⟩), .pointer (some ⟨o, 0, none⟩)] w fun e w' =>
      e = .returned (.int .i64 (min (orow.length - orow.length / 2) (256 - row.length) : Nat)) ∧ RRing w' b (row ++ orow.take (min (orow.length - orow.length / 2) (256 - row.length))) nxt ∧
      RRing w' o (orow.drop (min (orow.length - orow.length / 2) (256 - row.length))) onxt ∧ Mod (fun i => i = b ∨ i = o) w w' := by
  obtain ⟨A1, n1, c1, A2, n2, c2, hr, h1, h2, t1, t2⟩ := h
  obtain ⟨B1, m1, d1, B2, m2, d2, hro, k1, k2, s1, s2⟩ := ho
  have hp := rr_ptr_ne hro hr (fun e => hne e.symm)
  have hc1 : w.cell? ⟨b, 1, none⟩ = some (.slice A2 n2 c2) := hr.cell (by omega)
  have hk1 : w.cell? ⟨o, 1, none⟩ = some (.slice B2 m2 d2) := hro.cell (by omega)
  have hf1 := hr.frozen 1
  have hm0 : 0 < m2 := by rw [← k2.len]; exact List.length_pos_iff.2 hn0
  rw [h2.len] at hlen ⊢
  rw [k2.len] at holen ⊢
  obtain ⟨K, hK⟩ : ∃ K, K = min (m2 - m2 / 2) (256 - n2) := ⟨_, rfl⟩
  rw [← hK]
  obtain ⟨Q, hQ⟩ : ∃ Q : Nat, (m2 : Int) / 2 = (Q : Int) := ⟨m2 / 2, by omega⟩
  have hKm : K ≤ m2 := by omega
  have hmin := run_min_two (P := Try.prog) #[3, 3] 3 ((m2 : Int) - (Q : Int)) (256 - (n2 : Int)) (K : Int) (by omega)
  have hQm : Q ≤ m2 := by omega
  have hz1 : decide ((m2 : Int) = 0) = false := decide_eq_false (by omega)
  have hz2 : ((m2 : Int) == 0) = false := by rw [beq_eq_false_iff_ne]; omega
  have hbl := hr.lt
  have hol := hro.lt
  have hob : o ≠ b := fun e => hne e.symm
  have hrt := k2.take (k := K) hKm
  have hcap := k2.le
  have hcut2 := cut_high2 (P := Try.prog) 27 Try.underlying27 int_info B2 m2 d2 K (by omega)
  obtain ⟨A4, n4, c4, hcut, hL4, hblk4⟩ := cut_low (P := Try.prog) 27 Try.underlying27 int_info B2 m2 d2 K hKm
  have eO : (w.alloc (.cells #[] 3)).cell? ⟨o, 1, none⟩ = some (.slice B2 m2 d2) := (((Mod.refl (fun _ => False) w).alloc _).cell (p := ⟨o, 1, none⟩) hol (fun h => h)).trans hk1
  have eB : (w.alloc (.cells #[] 3)).cell? ⟨b, 1, none⟩ = some (.slice A2 n2 c2) := (((Mod.refl (fun _ => False) w).alloc _).cell (p := ⟨b, 1, none⟩) hbl (fun h => h)).trans hc1
  have hKi : (0 : Int) ≤ (K : Int) := by omega
  have hKj : (K : Int) ≤ (d2 : Int) := by omega
  clear hK
  go_enter Try.func36, Try.ntmps36
  go_wp2
  refine wp_region_noPanic ?_
  refine wp_region_held_drew (S := fun W => W.cell? ⟨o, 1, none⟩ = some (.slice B2 m2 d2)) (by kernel_rfl) hk1 (fun hHeld => ?_)
  (refine wpAnyH_take (i := 0) (v := ?_) rfl (by kernel_rfl) (by kernel_rfl) (by kernel_rfl) (fun _ _ _ h => h) (Or.inl ⟨by kernel_rfl, ?_⟩) (by assumption) ?_; rotate_left; focus (intro wq hSw; (try dsimp only at hSw); go_simp; try with_reducible rfl); try simp only [List.getElem_toArray, List.getElem_cons_succ, List.getElem_cons_zero, Act.put, List.setIfInBounds_toArray, List.set_cons_zero, List.set_cons_succ])
  (refine wpAnyH_take (i := 2) (v := ?_) rfl (by kernel_rfl) (by kernel_rfl) (by kernel_rfl) (fun _ _ _ h => h) (Or.inl ⟨by kernel_rfl, ?_⟩) (by assumption) ?_; rotate_left; focus (intro wq hSw; (try dsimp only at hSw); go_simp; try with_reducible rfl); try simp only [List.getElem_toArray, List.getElem_cons_succ, List.getElem_cons_zero, Act.put, List.setIfInBounds_toArray, List.set_cons_zero, List.set_cons_succ])
  (refine wpAnyH_take (i := 3) (v := ?_) rfl (by kernel_rfl) (by kernel_rfl) (by kernel_rfl) (fun _ _ _ h => h) (Or.inl ⟨by kernel_rfl, ?_⟩) (by assumption) ?_; rotate_left; focus (intro wq hSw; (try dsimp only at hSw); go_simp; try with_reducible rfl); try simp only [List.getElem_toArray, List.getElem_cons_succ, List.getElem_cons_zero, Act.put, List.setIfInBounds_toArray, List.set_cons_zero, List.set_cons_succ])
  (refine wpAnyH_take (i := 4) (v := ?_) rfl (by kernel_rfl) (by kernel_rfl) (by kernel_rfl) (fun _ _ _ h => h) (Or.inl ⟨by kernel_rfl, ?_⟩) (by assumption) ?_; rotate_left; focus (intro wq hSw; (try dsimp only at hSw); go_simp; try with_reducible rfl); try simp only [List.getElem_toArray, List.getElem_cons_succ, List.getElem_cons_zero, Act.put, List.setIfInBounds_toArray, List.set_cons_zero, List.set_cons_succ])
  (refine wpAnyH_take (i := 7) (v := ?_) rfl (by kernel_rfl) (by kernel_rfl) (by kernel_rfl) (fun _ _ _ h => h) (Or.inl ⟨by kernel_rfl, ?_⟩) (by assumption) ?_; rotate_left; focus (intro wq hSw; (try dsimp only at hSw); go_simp; try with_reducible rfl); try simp only [List.getElem_toArray, List.getElem_cons_succ, List.getElem_cons_zero, Act.put, List.setIfInBounds_toArray, List.set_cons_zero, List.set_cons_succ])
  (refine wpAnyH_take (i := 8) (v := ?_) rfl (by kernel_rfl) (by kernel_rfl) (by kernel_rfl) (fun _ _ _ h => h) (Or.inl ⟨by kernel_rfl, ?_⟩) (by assumption) ?_; rotate_left; focus (intro wq hSw; (try dsimp only at hSw); go_simp; try with_reducible rfl); try simp only [List.getElem_toArray, List.getElem_cons_succ, List.getElem_cons_zero, Act.put, List.setIfInBounds_toArray, List.set_cons_zero, List.set_cons_succ])
  (refine wpAnyH_take (i := 9) (v := ?_) rfl (by kernel_rfl) (by kernel_rfl) (by kernel_rfl) (fun _ _ _ h => h) (Or.inl ⟨by kernel_rfl, ?_⟩) (by assumption) ?_; rotate_left; focus (intro wq hSw; (try dsimp only at hSw); go_simp; try with_reducible rfl); try simp only [List.getElem_toArray, List.getElem_cons_succ, List.getElem_cons_zero, Act.put, List.setIfInBounds_toArray, List.set_cons_zero, List.set_cons_succ])
  (refine wpAnyH_take (i := 10) (v := ?_) rfl (by kernel_rfl) (by kernel_rfl) (by kernel_rfl) (fun _ _ _ h => h) (Or.inl ⟨by kernel_rfl, ?_⟩) (by assumption) ?_; rotate_left; focus (intro wq hSw; (try dsimp only at hSw); go_simp; try with_reducible rfl); try simp only [List.getElem_toArray, List.getElem_cons_succ, List.getElem_cons_zero, Act.put, List.setIfInBounds_toArray, List.set_cons_zero, List.set_cons_succ])
  (refine wpAnyH_take (i := 11) (v := ?_) rfl (by kernel_rfl) (by kernel_rfl) (by kernel_rfl) (fun _ _ _ h => h) (Or.inl ⟨by kernel_rfl, ?_⟩) (by assumption) ?_; rotate_left; focus (intro wq hSw; (try dsimp only at hSw); go_simp; try with_reducible rfl); try simp only [List.getElem_toArray, List.getElem_cons_succ, List.getElem_cons_zero, Act.put, List.setIfInBounds_toArray, List.set_cons_zero, List.set_cons_succ])
  (refine wpAnyH_take (i := 12) (v := ?_) rfl (by kernel_rfl) (by kernel_rfl) (by kernel_rfl) (fun _ _ _ h => h) (Or.inl ⟨by kernel_rfl, ?_⟩) (by assumption) ?_; rotate_left; focus (intro wq hSw; (try dsimp only at hSw); go_simp; try with_reducible rfl); try simp only [List.getElem_toArray, List.getElem_cons_succ, List.getElem_cons_zero, Act.put, List.setIfInBounds_toArray, List.set_cons_zero, List.set_cons_succ])
  refine wpAnyH_ready (rs := [1, 5]) (by kernel_rfl) (by simp) ?_
  refine AllReadyH.cons rfl (fun K hK => ?_) (AllReadyH.cons rfl (fun K hK => ?_) AllReadyH.nil)
  · go_simp
    refine hK.out _ _ eO (fun hHeld => ?_)
    clear hK K
    try simp only [List.getElem_toArray, List.getElem_cons_succ, List.getElem_cons_zero, Act.put, List.setIfInBounds_toArray, List.set_cons_zero, List.set_cons_succ]
    refine wpAnyH_ready (rs := [5]) (by kernel_rfl) (by simp) ?_
    refine AllReadyH.cons rfl (fun K hK => ?_) AllReadyH.nil
    go_simp
    refine hK.out _ _ eO (fun hHeld => ?_)
    clear hK K
    try simp only [List.getElem_toArray, List.getElem_cons_succ, List.getElem_cons_zero, Act.put, List.setIfInBounds_toArray, List.set_cons_zero, List.set_cons_succ]
    refine wpAnyH_ready (rs := [6]) (by kernel_rfl) (by simp) ?_
    refine AllReadyH.cons rfl (fun K hK => ?_) AllReadyH.nil
    have o1 : OwnL (w.alloc (.cells #[] 3)).drew (some ⟨w.heap.size, 0, none⟩) 0 0 [] := OwnL.empty w
    have r1 : IsL (w.alloc (.cells #[] 3)).drew A2 n2 c2 row := h2.alloc _
    (with_reducible refine step_app _ (by with_unfolding_all rfl) (.tmp 67) (.tmp 71) _ (by with_unfolding_all rfl) Try.underlying27 int_info _ _ _ _ (by with_unfolding_all rfl) o1 _ _ _ _ (by with_unfolding_all rfl) r1 (by omega) ?_)
    intro C2 p2 q2 w2 hp1 hp2 hown2 hg2 hat2
    have hM2 : Mod (fun _ => False) w w2 := (((Mod.refl _ w).alloc _).drew).grown hg2 (fun k hk => .inr (blk_size w k hk))
    have fr2 : ∀ d, blk C2 = some d → w.heap.size ≤ d := fresh_app (blk_size w) (Nat.le_refl _) hat2
    have u2 : w2.cell? ⟨o, 1, none⟩ = some (.slice B2 m2 d2) := (hM2.cell (p := ⟨o, 1, none⟩) hol (fun h => h)).trans hk1
    have rt2 := hrt.keep0 hM2
    refine hK.out _ _ u2 (fun hHeld => ?_)
    clear hK K
    try simp only [List.getElem_toArray, List.getElem_cons_succ, List.getElem_cons_zero, Act.put, List.setIfInBounds_toArray, List.set_cons_zero, List.set_cons_succ]
    refine wpAnyH_ready (rs := [13]) (by kernel_rfl) (by simp) ?_
    refine AllReadyH.cons rfl (fun K hK => ?_) AllReadyH.nil
    (with_reducible refine step_app _ (by with_unfolding_all rfl) (.tmp 72) (.tmp 78) _ (by with_unfolding_all rfl) Try.underlying27 int_info _ _ _ _ (by with_unfolding_all rfl) hown2 _ _ _ _ (by with_unfolding_all rfl) rt2 (by omega) ?_)
    intro C3 p3 q3 w3 hp3 hp4 hown3 hg3 hat3
    have hM3 : Mod (fun _ => False) w w3 := hM2.grown hg3 (fun k hk => .inr (fr2 k hk))
    have u3 : w3.cell? ⟨o, 1, none⟩ = some (.slice B2 m2 d2) := (hM3.cell (p := ⟨o, 1, none⟩) hol (fun h => h)).trans hk1
    have tc := (hM3.cell (p := ⟨b, 1, none⟩) hbl (fun h => h)).trans hc1
    have tf := (hM3.frozen (p := ⟨b, 1, none⟩) hbl (fun h => h)).trans hf1
    have tb := Nat.lt_of_lt_of_le hbl hM3.size
    refine hK.out _ _ u3 (fun hHeld => ?_)
    clear hK K
    try simp only [List.getElem_toArray, List.getElem_cons_succ, List.getElem_cons_zero, Act.put, List.setIfInBounds_toArray, List.set_cons_zero, List.set_cons_succ]
    (refine wpAnyH_take (i := 14) (v := ?_) rfl (by kernel_rfl) (by kernel_rfl) (by kernel_rfl) (fun _ _ _ h => h) (Or.inl ⟨by kernel_rfl, ?_⟩) (by assumption) ?_; rotate_left; focus (intro wq hSw; (try dsimp only at hSw); go_simp; try with_reducible rfl); try simp only [List.getElem_toArray, List.getElem_cons_succ, List.getElem_cons_zero, Act.put, List.setIfInBounds_toArray, List.set_cons_zero, List.set_cons_succ])
    (refine wpAnyH_take (i := 15) (v := ?_) rfl (by kernel_rfl) (by kernel_rfl) (by kernel_rfl) (fun _ _ _ h => h) (Or.inl ⟨by kernel_rfl, ?_⟩) (by assumption) ?_; rotate_left; focus (intro wq hSw; (try dsimp only at hSw); go_simp; try with_reducible rfl); try simp only [List.getElem_toArray, List.getElem_cons_succ, List.getElem_cons_zero, Act.put, List.setIfInBounds_toArray, List.set_cons_zero, List.set_cons_succ])
    refine wpAnyH_ready (rs := [16]) (by kernel_rfl) (by simp) ?_
    refine AllReadyH.cons rfl (fun K hK => ?_) AllReadyH.nil
    go_simp
    refine hK.out _ _ (cell_ne2 u3 hob) (fun hHeld => ?_)
    clear hK K
    try simp only [List.getElem_toArray, List.getElem_cons_succ, List.getElem_cons_zero, Act.put, List.setIfInBounds_toArray, List.set_cons_zero, List.set_cons_succ]
    refine wpAnyH_done (by kernel_rfl) ?_ _
    refine NoPanic.normal ?_
    have hrb3 := hM3.rowIs hr (fun h => h)
    have hro3 := hM3.rowIs hro (fun h => h)
    have m4 := set_mod w3 b 1 (.slice C3 p3 q3)
    have hro4 := m4.rowIs hro3 hob
    have co := hro4.cell (i := 1) (by omega)
    have fo := hro4.frozen 1
    have lo := hro4.lt
    have rb4 : RRing (w3.setCell ⟨b, 1, none⟩ (.slice C3 p3 q3)) b (row ++ orow.take K) nxt :=
      ⟨A1, n1, c1, C3, p3, q3, RRing.set1 hrb3, (h1.keep0 hM3).set (t1.keep0 hM3) hrb3 (by decide), hown3.isL.set hown3.ty hrb3 (by decide), (t1.keep0 hM3).set hrb3 (by decide), hown3.ty.set hrb3 (by decide)⟩
    have x4 := (k1.keep0 hM3).set (s1.keep0 hM3) hrb3 (by decide) (k := 1) (v := .slice C3 p3 q3)
    have xt4 := (s1.keep0 hM3).set hrb3 (by decide) (k := 1) (v := .slice C3 p3 q3)
    have k4 := (k2.keep0 hM3).set (s2.keep0 hM3) hrb3 (by decide) (k := 1) (v := .slice C3 p3 q3)
    have y4 := (s2.keep0 hM3).set hrb3 (by decide) (k := 1) (v := .slice C3 p3 q3)
    have k5 := hL4 _ _ k4
    have y5 : TyL (w3.setCell ⟨b, 1, none⟩ (.slice C3 p3 q3)) A4 := fun q hq => y4 q (by rw [← hblk4]; exact hq)
    have m5 := set_mod (w3.setCell ⟨b, 1, none⟩ (.slice C3 p3 q3)) o 1 (.slice A4 n4 c4)
    have rb5 := rb4.keep m5 (fun e => hob e.symm) (NoInts.row hro4 (by decide))
    have ro5 : RRing ((w3.setCell ⟨b, 1, none⟩ (.slice C3 p3 q3)).setCell ⟨o, 1, none⟩ (.slice A4 n4 c4)) o (orow.drop K) onxt :=
      ⟨B1, m1, d1, A4, n4, c4, RRing.set1 hro4, x4.set xt4 hro4 (by decide), k5.set y5 hro4 (by decide), xt4.set hro4 (by decide), y5.set hro4 (by decide)⟩
    have mm : Mod (fun i => i = b ∨ i = o) w ((w3.setCell ⟨b, 1, none⟩ (.slice C3 p3 q3)).setCell ⟨o, 1, none⟩ (.slice A4 n4 c4)) :=
      ((hM3.mono (fun _ _ h => h.elim)).trans' m4 (fun i _ e => .inl e)).trans' m5 (fun i _ e => .inr e)
    clear hc1 hk1 eB eO u3 tc
    go_wp2
    go_ret
    exact ⟨rfl, rb5, ro5, mm⟩
  · go_simp
    refine hK.out _ _ hk1 (fun hHeld => ?_)
    clear hK K
    try simp only [List.getElem_toArray, List.getElem_cons_succ, List.getElem_cons_zero, Act.put, List.setIfInBounds_toArray, List.set_cons_zero, List.set_cons_succ]
    refine wpAnyH_ready (rs := [1]) (by kernel_rfl) (by simp) ?_
    refine AllReadyH.cons rfl (fun K hK => ?_) AllReadyH.nil
    go_simp
    refine hK.out _ _ eO (fun hHeld => ?_)
    clear hK K
    try simp only [List.getElem_toArray, List.getElem_cons_succ, List.getElem_cons_zero, Act.put, List.setIfInBounds_toArray, List.set_cons_zero, List.set_cons_succ]
    refine wpAnyH_ready (rs := [6]) (by kernel_rfl) (by simp) ?_
    refine AllReadyH.cons rfl (fun K hK => ?_) AllReadyH.nil
    have o1 : OwnL (w.alloc (.cells #[] 3)).drew (some ⟨w.heap.size, 0, none⟩) 0 0 [] := OwnL.empty w
    have r1 : IsL (w.alloc (.cells #[] 3)).drew A2 n2 c2 row := h2.alloc _
    (with_reducible refine step_app _ (by with_unfolding_all rfl) (.tmp 67) (.tmp 71) _ (by with_unfolding_all rfl) Try.underlying27 int_info _ _ _ _ (by with_unfolding_all rfl) o1 _ _ _ _ (by with_unfolding_all rfl) r1 (by omega) ?_)
    intro C2 p2 q2 w2 hp1 hp2 hown2 hg2 hat2
    have hM2 : Mod (fun _ => False) w w2 := (((Mod.refl _ w).alloc _).drew).grown hg2 (fun k hk => .inr (blk_size w k hk))
    have fr2 : ∀ d, blk C2 = some d → w.heap.size ≤ d := fresh_app (blk_size w) (Nat.le_refl _) hat2
    have u2 : w2.cell? ⟨o, 1, none⟩ = some (.slice B2 m2 d2) := (hM2.cell (p := ⟨o, 1, none⟩) hol (fun h => h)).trans hk1
    have rt2 := hrt.keep0 hM2
    refine hK.out _ _ u2 (fun hHeld => ?_)
    clear hK K
    try simp only [List.getElem_toArray, List.getElem_cons_succ, List.getElem_cons_zero, Act.put, List.setIfInBounds_toArray, List.set_cons_zero, List.set_cons_succ]
    refine wpAnyH_ready (rs := [13]) (by kernel_rfl) (by simp) ?_
    refine AllReadyH.cons rfl (fun K hK => ?_) AllReadyH.nil
    (with_reducible refine step_app _ (by with_unfolding_all rfl) (.tmp 72) (.tmp 78) _ (by with_unfolding_all rfl) Try.underlying27 int_info _ _ _ _ (by with_unfolding_all rfl) hown2 _ _ _ _ (by with_unfolding_all rfl) rt2 (by omega) ?_)
    intro C3 p3 q3 w3 hp3 hp4 hown3 hg3 hat3
    have hM3 : Mod (fun _ => False) w w3 := hM2.grown hg3 (fun k hk => .inr (fr2 k hk))
    have u3 : w3.cell? ⟨o, 1, none⟩ = some (.slice B2 m2 d2) := (hM3.cell (p := ⟨o, 1, none⟩) hol (fun h => h)).trans hk1
    have tc := (hM3.cell (p := ⟨b, 1, none⟩) hbl (fun h => h)).trans hc1
    have tf := (hM3.frozen (p := ⟨b, 1, none⟩) hbl (fun h => h)).trans hf1
    have tb := Nat.lt_of_lt_of_le hbl hM3.size
    refine hK.out _ _ u3 (fun hHeld => ?_)
    clear hK K
    try simp only [List.getElem_toArray, List.getElem_cons_succ, List.getElem_cons_zero, Act.put, List.setIfInBounds_toArray, List.set_cons_zero, List.set_cons_succ]
    (refine wpAnyH_take (i := 14) (v := ?_) rfl (by kernel_rfl) (by kernel_rfl) (by kernel_rfl) (fun _ _ _ h => h) (Or.inl ⟨by kernel_rfl, ?_⟩) (by assumption) ?_; rotate_left; focus (intro wq hSw; (try dsimp only at hSw); go_simp; try with_reducible rfl); try simp only [List.getElem_toArray, List.getElem_cons_succ, List.getElem_cons_zero, Act.put, List.setIfInBounds_toArray, List.set_cons_zero, List.set_cons_succ])
    (refine wpAnyH_take (i := 15) (v := ?_) rfl (by kernel_rfl) (by kernel_rfl) (by kernel_rfl) (fun _ _ _ h => h) (Or.inl ⟨by kernel_rfl, ?_⟩) (by assumption) ?_; rotate_left; focus (intro wq hSw; (try dsimp only at hSw); go_simp; try with_reducible rfl); try simp only [List.getElem_toArray, List.getElem_cons_succ, List.getElem_cons_zero, Act.put, List.setIfInBounds_toArray, List.set_cons_zero, List.set_cons_succ])
    refine wpAnyH_ready (rs := [16]) (by kernel_rfl) (by simp) ?_
    refine AllReadyH.cons rfl (fun K hK => ?_) AllReadyH.nil
    go_simp
    refine hK.out _ _ (cell_ne2 u3 hob) (fun hHeld => ?_)
    clear hK K
    try simp only [List.getElem_toArray, List.getElem_cons_succ, List.getElem_cons_zero, Act.put, List.setIfInBounds_toArray, List.set_cons_zero, List.set_cons_succ]
    refine wpAnyH_done (by kernel_rfl) ?_ _
    refine NoPanic.normal ?_
    have hrb3 := hM3.rowIs hr (fun h => h)
    have hro3 := hM3.rowIs hro (fun h => h)
    have m4 := set_mod w3 b 1 (.slice C3 p3 q3)
    have hro4 := m4.rowIs hro3 hob
    have co := hro4.cell (i := 1) (by omega)
    have fo := hro4.frozen 1
    have lo := hro4.lt
    have rb4 : RRing (w3.setCell ⟨b, 1, none⟩ (.slice C3 p3 q3)) b (row ++ orow.take K) nxt :=
      ⟨A1, n1, c1, C3, p3, q3, RRing.set1 hrb3, (h1.keep0 hM3).set (t1.keep0 hM3) hrb3 (by decide), hown3.isL.set hown3.ty hrb3 (by decide), (t1.keep0 hM3).set hrb3 (by decide), hown3.ty.set hrb3 (by decide)⟩
    have x4 := (k1.keep0 hM3).set (s1.keep0 hM3) hrb3 (by decide) (k := 1) (v := .slice C3 p3 q3)
    have xt4 := (s1.keep0 hM3).set hrb3 (by decide) (k := 1) (v := .slice C3 p3 q3)
    have k4 := (k2.keep0 hM3).set (s2.keep0 hM3) hrb3 (by decide) (k := 1) (v := .slice C3 p3 q3)
    have y4 := (s2.keep0 hM3).set hrb3 (by decide) (k := 1) (v := .slice C3 p3 q3)
    have k5 := hL4 _ _ k4
    have y5 : TyL (w3.setCell ⟨b, 1, none⟩ (.slice C3 p3 q3)) A4 := fun q hq => y4 q (by rw [← hblk4]; exact hq)
    have m5 := set_mod (w3.setCell ⟨b, 1, none⟩ (.slice C3 p3 q3)) o 1 (.slice A4 n4 c4)
    have rb5 := rb4.keep m5 (fun e => hob e.symm) (NoInts.row hro4 (by decide))
    have ro5 : RRing ((w3.setCell ⟨b, 1, none⟩ (.slice C3 p3 q3)).setCell ⟨o, 1, none⟩ (.slice A4 n4 c4)) o (orow.drop K) onxt :=
      ⟨B1, m1, d1, A4, n4, c4, RRing.set1 hro4, x4.set xt4 hro4 (by decide), k5.set y5 hro4 (by decide), xt4.set hro4 (by decide), y5.set hro4 (by decide)⟩
    have mm : Mod (fun i => i = b ∨ i = o) w ((w3.setCell ⟨b, 1, none⟩ (.slice C3 p3 q3)).setCell ⟨o, 1, none⟩ (.slice A4 n4 c4)) :=
      ((hM3.mono (fun _ _ h => h.elim)).trans' m4 (fun i _ e => .inl e)).trans' m5 (fun i _ e => .inr e)
    clear hc1 hk1 eB eO u3 tc
    go_wp2
    go_ret
    exact ⟨rfl, rb5, ro5, mm⟩

end Go.Proofs.Ytgojfccaohngaaa
