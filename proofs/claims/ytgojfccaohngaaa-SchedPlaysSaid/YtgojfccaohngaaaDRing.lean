/-
  The contracts of the reference's ring once more: its lists lie in arrays away from given blocks D.
-/
import Derived.Test.YtgojfccaohngaaaRRing3
set_option linter.unusedSimpArgs false
namespace Go.Proofs.Ytgojfccaohngaaa
open Go.RowKit

/-- The array of a slice of int has cells of int, and is none of D. -/
structure TyD (D : Nat → Prop) (w : World) (A : Option Addr) : Prop where
  ty : TyL w A
  no : ∀ g, blk A = some g → ¬ D g
instance tyDCoe {D : Nat → Prop} {w : World} {A : Option Addr} : CoeOut (TyD D w A) (TyL w A) := ⟨TyD.ty⟩
section
variable {D : Nat → Prop} {S : Nat → Prop} {w w' : World} {A A' : Option Addr} {b k t m : Nat} {f : Nat → Value} {v : Value}
theorem TyD.nil (D : Nat → Prop) (w : World) : TyD D w none := ⟨TyL.nil w, fun _ h => by cases h⟩
theorem TyD.keep (h : TyD D w A) (mm : Mod S w w') (hs : ∀ g, blk A = some g → ¬ S g) : TyD D w' A := ⟨h.ty.keep mm hs, h.no⟩
theorem TyD.keep0 (h : TyD D w A) (mm : Mod (fun _ => False) w w') : TyD D w' A := ⟨h.ty.keep0 mm, h.no⟩
theorem TyD.set (h : TyD D w A) (hr : w.rowIs b t m f) (hne : t ≠ 3) : TyD D (w.setCell ⟨b, k, none⟩ v) A := ⟨h.ty.set hr hne, h.no⟩
theorem TyD.ne (h : TyD D w A) (hr : w.rowIs b t m f) (ht : t ≠ 3) : ∀ g, blk A = some g → ¬ g = b := h.ty.ne hr ht
theorem TyD.lt (h : TyD D w A) : ∀ g, blk A = some g → g < w.heap.size := h.ty.lt
theorem TyD.of_blk (h : TyD D w A) (e : blk A' = blk A) : TyD D w A' := ⟨fun g hg => h.ty g (by rw [← e]; exact hg), fun g hg => h.no g (by rw [← e]; exact hg)⟩
theorem OwnL.tyD {n c : Nat} {l : List Int} (h : OwnL w A n c l) (hn : ∀ g, blk A = some g → ¬ D g) : TyD D w A := ⟨h.ty, hn⟩
theorem TyD.outOf {w2 : World} {A3 : Option Addr} (h : TyD D w A) (hD : ∀ g, D g → g < w.heap.size) (t3 : TyL w2 A3) (hf : A3 = A ∨ ∀ d, A3 = some d → w.heap.size ≤ d.block) : TyD D w2 A3 := by
  refine ⟨t3, fun g hg hd => ?_⟩
  rcases hf with e | e
  · rw [e] at hg; exact h.no g hg hd
  · cases A3 with
    | none => cases hg
    | some d =>
      have h1 := e d rfl
      have h2 := hD g hd
      have h3 : d.block = g := by simpa [blk] using hg
      omega
end

/-- Block b is a reference's ring; its arrays are none of D. -/
def RRingD (D : Nat → Prop) (w : World) (b : Nat) (row : List Int) (nxt : Option Int) : Prop :=
  ∃ A1 n1 c1 A2 n2 c2, w.rowIs b 55 2 (fun i => if i = 0 then .slice A1 n1 c1 else .slice A2 n2 c2) ∧ IsL w A1 n1 c1 nxt.toList ∧ IsL w A2 n2 c2 row ∧ TyD D w A1 ∧ TyD D w A2
section
variable {D D' : Nat → Prop} {S : Nat → Prop} {w w' : World} {b : Nat} {row : List Int} {nxt : Option Int}
theorem RRingD.toR (h : RRingD D w b row nxt) : RRing w b row nxt := by
  obtain ⟨A1, n1, c1, A2, n2, c2, hr, h1, h2, t1, t2⟩ := h
  exact ⟨A1, n1, c1, A2, n2, c2, hr, h1, h2, t1.ty, t2.ty⟩
/-- What is written is a struct, or a block of D. -/
theorem RRingD.keep (h : RRingD D w b row nxt) (m : Mod S w w') (hs : ¬ S b) (hi : ∀ g, S g → D g ∨ ¬ ∃ cur fr, w.heap[g]? = some (.cells cur 3 fr)) : RRingD D w' b row nxt := by
  obtain ⟨A1, n1, c1, A2, n2, c2, hr, h1, h2, t1, t2⟩ := h
  have k1 : ∀ g, blk A1 = some g → ¬ S g := fun g hg hS => by
    rcases hi g hS with e | e
    · exact t1.no g hg e
    · exact e (t1.ty g hg)
  have k2 : ∀ g, blk A2 = some g → ¬ S g := fun g hg hS => by
    rcases hi g hS with e | e
    · exact t2.no g hg e
    · exact e (t2.ty g hg)
  exact ⟨A1, n1, c1, A2, n2, c2, m.rowIs hr hs, h1.keep m (fun d hd => k1 d.block (by rw [hd]; rfl)), h2.keep m (fun d hd => k2 d.block (by rw [hd]; rfl)), t1.keep m k1, t2.keep m k2⟩
theorem RRingD.keep0 (h : RRingD D w b row nxt) (m : Mod (fun _ => False) w w') : RRingD D w' b row nxt := h.keep m (fun h => h) (fun _ h => h.elim)
theorem RRingD.away (h : RRingD D w b row nxt) (hd : ∀ g, D' g → D g ∨ w.heap.size ≤ g) : RRingD D' w b row nxt := by
  obtain ⟨A1, n1, c1, A2, n2, c2, hr, h1, h2, t1, t2⟩ := h
  have k : ∀ A, TyD D w A → TyD D' w A := fun A t => ⟨t.ty, fun g hg hd' => by
    rcases hd g hd' with e | e
    · exact t.no g hg e
    · have := t.lt g hg; omega⟩
  exact ⟨A1, n1, c1, A2, n2, c2, hr, h1, h2, k _ t1, k _ t2⟩
theorem RRingD.row55 (h : RRingD D w b row nxt) : ∃ f, w.rowIs b 55 2 f := by
  obtain ⟨_, _, _, _, _, _, hr, _⟩ := h
  exact ⟨_, hr⟩
theorem RRingD.alloc (D : Nat → Prop) (w : World) : RRingD D (w.alloc (.cells #[.slice none 0 0, .slice none 0 0] 55)) w.heap.size [] none := by
  refine ⟨none, 0, 0, none, 0, 0, ?_, IsL.nil _, IsL.nil _, TyD.nil D _, TyD.nil D _⟩
  exact World.rowIs_alloc w _ 55 _ (fun i hi => by
    have h3 : i = 0 ∨ i = 1 := by simp at hi; omega
    rcases h3 with rfl | rfl <;> rfl)
theorem dr_next {b : Nat} {g : Int} {v : Value} {A2 : Option Addr} {n2 c2 : Nat} {row : List Int} (hD : ∀ g, D g → g < w.heap.size) (hr : w.rowIs b 55 2 (fun i => if i = 0 then v else .slice A2 n2 c2)) (h2 : IsL w A2 n2 c2 row) (t2 : TyD D w A2) :
    let wo := (w.setCell ⟨b, 0, none⟩ (.slice (some ⟨w.heap.size, 0, none⟩) 1 1)).alloc (.cells #[.int .i64 g] 3)
    wo.rowIs b 55 2 (fun i => if i = 0 then .slice (some ⟨w.heap.size, 0, none⟩) 1 1 else .slice A2 n2 c2) ∧ IsL wo (some ⟨w.heap.size, 0, none⟩) 1 1 [g] ∧ TyD D wo (some ⟨w.heap.size, 0, none⟩) ∧
      IsL wo A2 n2 c2 row ∧ TyD D wo A2 ∧ Mod (· = b) w wo := by
  intro wo
  obtain ⟨a1, a2, a3, a4, a5, a6⟩ := rr_next (g := g) hr h2 t2.ty
  exact ⟨a1, a2, ⟨a3, fun g' hg hd => by
    have h1 := hD g' hd
    have h2 : w.heap.size = g' := by simpa [blk] using hg
    omega⟩, a4, ⟨a5, t2.no⟩, a6⟩
end

section
variable {D : Nat → Prop}
set_option maxHeartbeats 2000000 in
set_option maxRecDepth 100000 in
theorem dput_f_room (b : Nat) (g : Int) (nxt : Option Int) (row : List Int) (w : World) (hD : ∀ g, D g → g < w.heap.size) (h : RRingD D w b row nxt) (hlen : row.length ≤ 256) (hlt : row.length < 256) :
    Calls Try.prog 34 #[.pointer (some ⟨b, 0, none⟩), .int .i64 g, .bool false] w fun e w' => ∃ A n c, e = .returned (.slice A n c) ∧ RRingD D w' b (rput row nxt g false).1.1 (rput row nxt g false).2 ∧
      IsL w' A n c (rput row nxt g false).1.2 ∧ (∀ d, A = some d → w.heap.size ≤ d.block) ∧ Mod (· = b) w w'  := by
  obtain ⟨A1, n1, c1, A2, n2, c2, hr, h1, h2, t1, t2⟩ := h
  have hc0 : w.cell? ⟨b, 0, none⟩ = some (.slice A1 n1 c1) := hr.cell (by omega)
  have hc1 : w.cell? ⟨b, 1, none⟩ = some (.slice A2 n2 c2) := hr.cell (by omega)
  have hblt := hr.lt
  have hf0 := hr.frozen 0
  have hf1 := hr.frozen 1
  have hn2 : n2 ≤ 256 := by rw [← h2.len]; exact hlen
  have e0 : rput row nxt g false = (([] ++ row ++ [g], []), nxt) := by simp [rput, rbehind, hlt]
  rw [e0]
  clear e0
  rw [h2.len] at hlt
  obtain ⟨wo, rfl⟩ : ∃ wo : World, wo = w := ⟨_, rfl⟩
  have hMo : Mod (· = b) wo wo := Mod.refl _ _
  go_enter Try.func34, Try.ntmps34
  have tok1 : True := trivial
  have tok2 : True := trivial
  go_wp2_with (first
    | (at_builtin; have _t := tok1; refine wpList_app _ rfl (.tmp 32) (.tmp 36) _ rfl Try.underlying27 int_info _ 0 0 [] rfl (OwnL.empty wo) A2 n2 c2 _ rfl (h2.alloc _) (by omega) ?_; intro B2 m2 d2 w2 hm1 hm2 hown2 hg2 hat2; obtain ⟨hM2, k0, k1, hf2⟩ := rr_more ((Mod.refl _ wo).alloc _) (blk_size wo) hr hg2 hat2; have hb2 := Nat.lt_of_lt_of_le hblt hM2.size; clear _t tok1)
    | (at_builtin; have _t := tok2; refine wpList_app _ rfl (.tmp 37) (.tmp 39) _ rfl Try.underlying27 int_info B2 m2 d2 _ rfl (hown2.alloc _) _ 1 1 [g] rfl (IsL.one w2 _) (by omega) ?_; intro B3 m3 d3 w3 hm3 hm4 hown3 hg3 hat3; obtain ⟨hM3, k2, k3, hf3⟩ := rr_more (hM2.alloc _) hf2 hr hg3 hat3; have hfz3 := (hM3.rowIs hr (fun h => h)).frozen 1; have hb3 := Nat.lt_of_lt_of_le hblt hM3.size; clear _t tok2))
  go_ret
  have hr3 := hM3.rowIs hr (fun h => h)
  refine ⟨none, 0, 0, rfl, ⟨_, _, _, B3, m3, d3, RRing.set1 hr3, (h1.keep0 hM3).set (t1.keep0 hM3) hr3 (by decide), hown3.isL.set hown3.ty hr3 (by decide), (t1.keep0 hM3).set hr3 (by decide), (hown3.tyD (fun g hg hd => by have h7 := hf3 g hg; have h8 := hD g hd; have h9 := hMo.size; omega)).set hr3 (by decide)⟩, IsL.nil _, (fun d hd => by cases hd), ?_⟩
  exact hMo.trans ((hM3.mono (fun _ _ h => h.elim)).trans (set_mod w3 b 1 _))

set_option maxHeartbeats 2000000 in
set_option maxRecDepth 100000 in
theorem dput_f_full (b : Nat) (g : Int) (nxt : Option Int) (row : List Int) (w : World) (hD : ∀ g, D g → g < w.heap.size) (h : RRingD D w b row nxt) (hlen : row.length ≤ 256) (hlt : ¬ row.length < 256) :
    Calls Try.prog 34 #[.pointer (some ⟨b, 0, none⟩), .int .i64 g, .bool false] w fun e w' => ∃ A n c, e = .returned (.slice A n c) ∧ RRingD D w' b (rput row nxt g false).1.1 (rput row nxt g false).2 ∧
      IsL w' A n c (rput row nxt g false).1.2 ∧ (∀ d, A = some d → w.heap.size ≤ d.block) ∧ Mod (· = b) w w'  := by
  obtain ⟨A1, n1, c1, A2, n2, c2, hr, h1, h2, t1, t2⟩ := h
  have hc0 : w.cell? ⟨b, 0, none⟩ = some (.slice A1 n1 c1) := hr.cell (by omega)
  have hc1 : w.cell? ⟨b, 1, none⟩ = some (.slice A2 n2 c2) := hr.cell (by omega)
  have hblt := hr.lt
  have hf0 := hr.frozen 0
  have hf1 := hr.frozen 1
  have hn2 : n2 ≤ 256 := by rw [← h2.len]; exact hlen
  have e0 : rput row nxt g false = (([] ++ row.drop 128, [] ++ row.take 128 ++ [g]), nxt) := by simp [rput, rbehind, hlt]
  rw [e0]
  clear e0
  rw [h2.len] at hlt
  obtain ⟨wo, rfl⟩ : ∃ wo : World, wo = w := ⟨_, rfl⟩
  have hMo : Mod (· = b) wo wo := Mod.refl _ _
  go_enter Try.func34, Try.ntmps34
  obtain ⟨A4, n4, c4, hcut, hL4, hblk4⟩ := cut_low (P := Try.prog) 27 Try.underlying27 int_info A2 n2 c2 128 (by omega)
  have hnc := h2.le
  have h2t := h2.take (k := 128) (by omega)
  have hcut' : ∀ (W : World), (Instr.sliceAt 27 (.slice A2 n2 c2) (some (.int .i64 128)) none none).run Try.prog W = .ok (.slice A4 n4 c4) W := hcut
  have hn4 : n4 ≤ 300 := by have h4 := (hL4 wo _ h2).len; rw [List.length_drop, h2.len] at h4; omega
  clear hcut
  have tok1 : True := trivial
  have tok2 : True := trivial
  have tok3 : True := trivial
  go_wp2_with (first
    | (at_builtin; have _t := tok1; refine wpList_app _ rfl (.tmp 43) (.tmp 48) _ rfl Try.underlying27 int_info _ 0 0 [] rfl (OwnL.empty wo) A2 128 c2 _ rfl (h2t.alloc _) (by omega) ?_; intro B2 m2 d2 w2 hm1 hm2 hown2 hg2 hat2; obtain ⟨hM2, k0, k1, hf2⟩ := rr_more ((Mod.refl _ wo).alloc _) (blk_size wo) hr hg2 hat2; have hb2 := Nat.lt_of_lt_of_le hblt hM2.size; clear _t tok1)
    | (at_builtin; have _t := tok2; refine wpList_app _ rfl (.tmp 49) (.tmp 51) _ rfl Try.underlying27 int_info B2 m2 d2 _ rfl (hown2.alloc _) _ 1 1 [g] rfl (IsL.one w2 _) (by omega) ?_; intro B3 m3 d3 w3 hm3 hm4 hown3 hg3 hat3; obtain ⟨hM3, k2, k3, hf3⟩ := rr_more (hM2.alloc _) hf2 hr hg3 hat3; have hb3 := Nat.lt_of_lt_of_le hblt hM3.size; clear _t tok2)
    | (at_builtin; have _t := tok3; refine wpList_app _ rfl (.tmp 54) (.tmp 59) _ rfl Try.underlying27 int_info _ 0 0 [] rfl (OwnL.empty w3) A4 n4 c4 _ rfl ((hL4 w3 _ (h2.keep0 hM3)).alloc _) (by omega) ?_; intro B4 m4 d4 w4 hm5 hm6 hown4 hg4 hat4; obtain ⟨hM4, k4, k5, hf4⟩ := rr_more (hM3.alloc _) (fun d hd => Nat.le_trans hM3.size (blk_size w3 d hd)) hr hg4 hat4; have hfz4 := (hM4.rowIs hr (fun h => h)).frozen 1; have hb4 := Nat.lt_of_lt_of_le hblt hM4.size; clear _t tok3))
  go_ret
  have hr4 := hM4.rowIs hr (fun h => h)
  have hsz := hM3.size
  have m34 : Mod (fun _ => False) w3 w4 := ((Mod.refl _ w3).alloc _).grown hg4 (fun k hk => .inr (by simp [blk] at hk; omega))
  have hbo := hMo.size
  refine ⟨B3, m3, d3, rfl, ⟨_, _, _, B4, m4, d4, RRing.set1 hr4, (h1.keep0 hM4).set (t1.keep0 hM4) hr4 (by decide), hown4.isL.set hown4.ty hr4 (by decide), (t1.keep0 hM4).set hr4 (by decide), (hown4.tyD (fun g hg hd => by have h7 := hf4 g hg; have h8 := hD g hd; have h9 := hMo.size; omega)).set hr4 (by decide)⟩,
    (hown3.isL.keep0 m34).set (hown3.ty.keep0 m34) hr4 (by decide), (fun d hd => by have := hf3 d.block (by rw [hd]; rfl); omega), ?_⟩
  exact hMo.trans ((hM4.mono (fun _ _ h => h.elim)).trans (set_mod w4 b 1 _))

set_option maxHeartbeats 2000000 in
set_option maxRecDepth 100000 in
theorem dput_t_room (b : Nat) (g : Int) (y : Int) (row : List Int) (w : World) (hD : ∀ g, D g → g < w.heap.size) (h : RRingD D w b row (some y)) (hlen : row.length ≤ 256) (hlt : row.length < 256) :
    Calls Try.prog 34 #[.pointer (some ⟨b, 0, none⟩), .int .i64 g, .bool true] w fun e w' => ∃ A n c, e = .returned (.slice A n c) ∧ RRingD D w' b (rput row (some y) g true).1.1 (rput row (some y) g true).2 ∧
      IsL w' A n c (rput row (some y) g true).1.2 ∧ (∀ d, A = some d → w.heap.size ≤ d.block) ∧ Mod (· = b) w w'  := by
  obtain ⟨A1, n1, c1, A2, n2, c2, hr, h1, h2, t1, t2⟩ := h
  have hc0 : w.cell? ⟨b, 0, none⟩ = some (.slice A1 n1 c1) := hr.cell (by omega)
  have hc1 : w.cell? ⟨b, 1, none⟩ = some (.slice A2 n2 c2) := hr.cell (by omega)
  have hblt := hr.lt
  have hf0 := hr.frozen 0
  have hf1 := hr.frozen 1
  have hn2 : n2 ≤ 256 := by rw [← h2.len]; exact hlen
  have e0 : rput row (some y) g true = (([] ++ row ++ [y], []), some g) := by simp [rput, rbehind, hlt]
  rw [e0]
  clear e0
  rw [h2.len] at hlt
  have hn1 : n1 = 1 := h1.len.symm
  subst hn1
  obtain ⟨gg, oo, rfl, hcy⟩ := h1.at_ (k := 0) (by omega)
  simp only [Option.toList_some, List.getD_cons_zero, Nat.add_zero] at hcy
  have hgg : gg ≠ b := t1.ne hr (by decide) gg rfl
  have hggl : gg < w.heap.size := t1.lt gg rfl
  go_enter Try.func34, Try.ntmps34
  go_upto_region 7 with (fail)
  obtain ⟨wo, hwo⟩ : ∃ wo : World, wo = (w.setCell ⟨b, 0, none⟩ (.slice (some ⟨w.heap.size, 0, none⟩) 1 1)).alloc (.cells #[.int .i64 g] 3) := ⟨_, rfl⟩
  rw [← hwo]
  obtain ⟨hro, h1o, t1o, h2o, t2o, hMo⟩ := dr_next (g := g) hD hr h2 t2
  rw [← hwo] at hro h1o t1o h2o t2o hMo
  have hblt0 : b < wo.heap.size := hro.lt
  have hc0 : wo.cell? ⟨b, 0, none⟩ = some (.slice (some ⟨w.heap.size, 0, none⟩) 1 1) := hro.cell (by omega)
  have hc1 : wo.cell? ⟨b, 1, none⟩ = some (.slice A2 n2 c2) := hro.cell (by omega)
  have hf1 := hro.frozen 1
  clear hwo hr h1 t1 h2 t2
  have hr := hro
  have h1 := h1o
  have t1 := t1o
  have h2 := h2o
  have t2 := t2o
  have hblt := hblt0
  clear hro h1o t1o h2o t2o hblt0
  have tok1 : True := trivial
  have tok2 : True := trivial
  go_wp2_with (first
    | (at_builtin; have _t := tok1; refine wpList_app _ rfl (.tmp 32) (.tmp 36) _ rfl Try.underlying27 int_info _ 0 0 [] rfl (OwnL.empty wo) A2 n2 c2 _ rfl (h2.alloc _) (by omega) ?_; intro B2 m2 d2 w2 hm1 hm2 hown2 hg2 hat2; obtain ⟨hM2, k0, k1, hf2⟩ := rr_more ((Mod.refl _ wo).alloc _) (blk_size wo) hr hg2 hat2; have hb2 := Nat.lt_of_lt_of_le hblt hM2.size; clear _t tok1)
    | (at_builtin; have _t := tok2; refine wpList_app _ rfl (.tmp 37) (.tmp 39) _ rfl Try.underlying27 int_info B2 m2 d2 _ rfl (hown2.alloc _) _ 1 1 [y] rfl (IsL.one w2 _) (by omega) ?_; intro B3 m3 d3 w3 hm3 hm4 hown3 hg3 hat3; obtain ⟨hM3, k2, k3, hf3⟩ := rr_more (hM2.alloc _) hf2 hr hg3 hat3; have hfz3 := (hM3.rowIs hr (fun h => h)).frozen 1; have hb3 := Nat.lt_of_lt_of_le hblt hM3.size; clear _t tok2))
  go_ret
  have hr3 := hM3.rowIs hr (fun h => h)
  refine ⟨none, 0, 0, rfl, ⟨_, _, _, B3, m3, d3, RRing.set1 hr3, (h1.keep0 hM3).set (t1.keep0 hM3) hr3 (by decide), hown3.isL.set hown3.ty hr3 (by decide), (t1.keep0 hM3).set hr3 (by decide), (hown3.tyD (fun g hg hd => by have h7 := hf3 g hg; have h8 := hD g hd; have h9 := hMo.size; omega)).set hr3 (by decide)⟩, IsL.nil _, (fun d hd => by cases hd), ?_⟩
  exact hMo.trans ((hM3.mono (fun _ _ h => h.elim)).trans (set_mod w3 b 1 _))

set_option maxHeartbeats 2000000 in
set_option maxRecDepth 100000 in
theorem dput_t_full (b : Nat) (g : Int) (y : Int) (row : List Int) (w : World) (hD : ∀ g, D g → g < w.heap.size) (h : RRingD D w b row (some y)) (hlen : row.length ≤ 256) (hlt : ¬ row.length < 256) :
    Calls Try.prog 34 #[.pointer (some ⟨b, 0, none⟩), .int .i64 g, .bool true] w fun e w' => ∃ A n c, e = .returned (.slice A n c) ∧ RRingD D w' b (rput row (some y) g true).1.1 (rput row (some y) g true).2 ∧
      IsL w' A n c (rput row (some y) g true).1.2 ∧ (∀ d, A = some d → w.heap.size ≤ d.block) ∧ Mod (· = b) w w'  := by
  obtain ⟨A1, n1, c1, A2, n2, c2, hr, h1, h2, t1, t2⟩ := h
  have hc0 : w.cell? ⟨b, 0, none⟩ = some (.slice A1 n1 c1) := hr.cell (by omega)
  have hc1 : w.cell? ⟨b, 1, none⟩ = some (.slice A2 n2 c2) := hr.cell (by omega)
  have hblt := hr.lt
  have hf0 := hr.frozen 0
  have hf1 := hr.frozen 1
  have hn2 : n2 ≤ 256 := by rw [← h2.len]; exact hlen
  have e0 : rput row (some y) g true = (([] ++ row.drop 128, [] ++ row.take 128 ++ [y]), some g) := by simp [rput, rbehind, hlt]
  rw [e0]
  clear e0
  rw [h2.len] at hlt
  have hn1 : n1 = 1 := h1.len.symm
  subst hn1
  obtain ⟨gg, oo, rfl, hcy⟩ := h1.at_ (k := 0) (by omega)
  simp only [Option.toList_some, List.getD_cons_zero, Nat.add_zero] at hcy
  have hgg : gg ≠ b := t1.ne hr (by decide) gg rfl
  have hggl : gg < w.heap.size := t1.lt gg rfl
  go_enter Try.func34, Try.ntmps34
  go_upto_region 7 with (fail)
  obtain ⟨wo, hwo⟩ : ∃ wo : World, wo = (w.setCell ⟨b, 0, none⟩ (.slice (some ⟨w.heap.size, 0, none⟩) 1 1)).alloc (.cells #[.int .i64 g] 3) := ⟨_, rfl⟩
  rw [← hwo]
  obtain ⟨hro, h1o, t1o, h2o, t2o, hMo⟩ := dr_next (g := g) hD hr h2 t2
  rw [← hwo] at hro h1o t1o h2o t2o hMo
  have hblt0 : b < wo.heap.size := hro.lt
  have hc0 : wo.cell? ⟨b, 0, none⟩ = some (.slice (some ⟨w.heap.size, 0, none⟩) 1 1) := hro.cell (by omega)
  have hc1 : wo.cell? ⟨b, 1, none⟩ = some (.slice A2 n2 c2) := hro.cell (by omega)
  have hf1 := hro.frozen 1
  clear hwo hr h1 t1 h2 t2
  have hr := hro
  have h1 := h1o
  have t1 := t1o
  have h2 := h2o
  have t2 := t2o
  have hblt := hblt0
  clear hro h1o t1o h2o t2o hblt0
  obtain ⟨A4, n4, c4, hcut, hL4, hblk4⟩ := cut_low (P := Try.prog) 27 Try.underlying27 int_info A2 n2 c2 128 (by omega)
  have hnc := h2.le
  have h2t := h2.take (k := 128) (by omega)
  have hcut' : ∀ (W : World), (Instr.sliceAt 27 (.slice A2 n2 c2) (some (.int .i64 128)) none none).run Try.prog W = .ok (.slice A4 n4 c4) W := hcut
  have hn4 : n4 ≤ 300 := by have h4 := (hL4 wo _ h2).len; rw [List.length_drop, h2.len] at h4; omega
  clear hcut
  have tok1 : True := trivial
  have tok2 : True := trivial
  have tok3 : True := trivial
  go_wp2_with (first
    | (at_builtin; have _t := tok1; refine wpList_app _ rfl (.tmp 43) (.tmp 48) _ rfl Try.underlying27 int_info _ 0 0 [] rfl (OwnL.empty wo) A2 128 c2 _ rfl (h2t.alloc _) (by omega) ?_; intro B2 m2 d2 w2 hm1 hm2 hown2 hg2 hat2; obtain ⟨hM2, k0, k1, hf2⟩ := rr_more ((Mod.refl _ wo).alloc _) (blk_size wo) hr hg2 hat2; have hb2 := Nat.lt_of_lt_of_le hblt hM2.size; clear _t tok1)
    | (at_builtin; have _t := tok2; refine wpList_app _ rfl (.tmp 49) (.tmp 51) _ rfl Try.underlying27 int_info B2 m2 d2 _ rfl (hown2.alloc _) _ 1 1 [y] rfl (IsL.one w2 _) (by omega) ?_; intro B3 m3 d3 w3 hm3 hm4 hown3 hg3 hat3; obtain ⟨hM3, k2, k3, hf3⟩ := rr_more (hM2.alloc _) hf2 hr hg3 hat3; have hb3 := Nat.lt_of_lt_of_le hblt hM3.size; clear _t tok2)
    | (at_builtin; have _t := tok3; refine wpList_app _ rfl (.tmp 54) (.tmp 59) _ rfl Try.underlying27 int_info _ 0 0 [] rfl (OwnL.empty w3) A4 n4 c4 _ rfl ((hL4 w3 _ (h2.keep0 hM3)).alloc _) (by omega) ?_; intro B4 m4 d4 w4 hm5 hm6 hown4 hg4 hat4; obtain ⟨hM4, k4, k5, hf4⟩ := rr_more (hM3.alloc _) (fun d hd => Nat.le_trans hM3.size (blk_size w3 d hd)) hr hg4 hat4; have hfz4 := (hM4.rowIs hr (fun h => h)).frozen 1; have hb4 := Nat.lt_of_lt_of_le hblt hM4.size; clear _t tok3))
  go_ret
  have hr4 := hM4.rowIs hr (fun h => h)
  have hsz := hM3.size
  have m34 : Mod (fun _ => False) w3 w4 := ((Mod.refl _ w3).alloc _).grown hg4 (fun k hk => .inr (by simp [blk] at hk; omega))
  have hbo := hMo.size
  refine ⟨B3, m3, d3, rfl, ⟨_, _, _, B4, m4, d4, RRing.set1 hr4, (h1.keep0 hM4).set (t1.keep0 hM4) hr4 (by decide), hown4.isL.set hown4.ty hr4 (by decide), (t1.keep0 hM4).set hr4 (by decide), (hown4.tyD (fun g hg hd => by have h7 := hf4 g hg; have h8 := hD g hd; have h9 := hMo.size; omega)).set hr4 (by decide)⟩,
    (hown3.isL.keep0 m34).set (hown3.ty.keep0 m34) hr4 (by decide), (fun d hd => by have := hf3 d.block (by rw [hd]; rfl); omega), ?_⟩
  exact hMo.trans ((hM4.mono (fun _ _ h => h.elim)).trans (set_mod w4 b 1 _))

set_option maxHeartbeats 2000000 in
set_option maxRecDepth 100000 in
theorem dput_t_none (b : Nat) (g : Int) (row : List Int) (w : World) (hD : ∀ g, D g → g < w.heap.size) (h : RRingD D w b row none) :
    Calls Try.prog 34 #[.pointer (some ⟨b, 0, none⟩), .int .i64 g, .bool true] w fun e w' => e = .returned (.slice none 0 0) ∧ RRingD D w' b row (some g) ∧ Mod (· = b) w w' := by
  obtain ⟨A1, n1, c1, A2, n2, c2, hr, h1, h2, t1, t2⟩ := h
  have hc0 : w.cell? ⟨b, 0, none⟩ = some (.slice A1 n1 c1) := hr.cell (by omega)
  have hblt := hr.lt
  have hf0 := hr.frozen 0
  have hn1 : n1 = 0 := h1.len.symm
  subst hn1
  go_enter Try.func34, Try.ntmps34
  go_wp2
  go_ret
  obtain ⟨hro, h1o, t1o, h2o, t2o, hMo⟩ := dr_next (g := g) hD hr h2 t2
  exact ⟨rfl, ⟨_, 1, 1, A2, n2, c2, hro, h1o, h2o, t1o, t2o⟩, hMo⟩

set_option maxHeartbeats 2000000 in
set_option maxRecDepth 100000 in
theorem dput_any (b : Nat) (g : Int) (next : Bool) (row : List Int) (nxt : Option Int) (w : World) (hD : ∀ g, D g → g < w.heap.size) (h : RRingD D w b row nxt) (hlen : row.length ≤ 256) :
    Calls Try.prog 34 #[.pointer (some ⟨b, 0, none⟩), .int .i64 g, .bool next] w fun e w' => ∃ A n c, e = .returned (.slice A n c) ∧ RRingD D w' b (rput row nxt g next).1.1 (rput row nxt g next).2 ∧
      IsL w' A n c (rput row nxt g next).1.2 ∧ (∀ d, A = some d → w.heap.size ≤ d.block) ∧ Mod (· = b) w w' := by
  by_cases hlt : row.length < 256
  · cases next with
    | false => exact dput_f_room b g nxt row w hD h hlen hlt
    | true =>
      cases nxt with
      | none =>
        refine (dput_t_none b g row w hD h).mono ?_
        rintro e w' ⟨rfl, h1, h2⟩
        exact ⟨none, 0, 0, rfl, h1, IsL.nil _, (fun d hd => by cases hd), h2⟩
      | some y => exact dput_t_room b g y row w hD h hlen hlt
  · cases next with
    | false => exact dput_f_full b g nxt row w hD h hlen hlt
    | true =>
      cases nxt with
      | none =>
        refine (dput_t_none b g row w hD h).mono ?_
        rintro e w' ⟨rfl, h1, h2⟩
        exact ⟨none, 0, 0, rfl, h1, IsL.nil _, (fun d hd => by cases hd), h2⟩
      | some y => exact dput_t_full b g y row w hD h hlen hlt

set_option maxHeartbeats 2000000 in
set_option maxRecDepth 100000 in
theorem dget_next (b : Nat) (g : Int) (row : List Int) (w : World) (hD : ∀ g, D g → g < w.heap.size) (h : RRingD D w b row (some g)) :
    Calls Try.prog 35 #[.pointer (some ⟨b, 0, none⟩)] w fun e w' => e = .returned (.tuple #[.int .i64 g, .bool true]) ∧ RRingD D w' b row none ∧ Mod (· = b) w w' := by
  obtain ⟨A1, n1, c1, A2, n2, c2, hr, h1, h2, t1, t2⟩ := h
  have hc0 : w.cell? ⟨b, 0, none⟩ = some (.slice A1 n1 c1) := hr.cell (by omega)
  have hf0 := hr.frozen 0
  have hn1 : n1 = 1 := h1.len.symm
  subst hn1
  obtain ⟨gg, oo, rfl, hcy⟩ := h1.at_ (k := 0) (by omega)
  simp only [Option.toList_some, List.getD_cons_zero, Nat.add_zero] at hcy
  go_enter Try.func35, Try.ntmps35
  go_wp2
  go_ret2
  exact ⟨rfl, ⟨none, 0, 0, A2, n2, c2, RRing.set0 hr, IsL.nil _, h2.set t2 hr (by decide), TyD.nil D _, t2.set hr (by decide)⟩, set_mod w b 0 _⟩

set_option maxHeartbeats 2000000 in
set_option maxRecDepth 100000 in
theorem dget_none (b : Nat) (row : List Int) (w : World) (hD : ∀ g, D g → g < w.heap.size) (h : RRingD D w b row none) :
    Calls Try.prog 35 #[.pointer (some ⟨b, 0, none⟩)] w fun e w' => e = .returned (.tuple #[.int .i64 (rget row none).1.1, .bool (rget row none).1.2]) ∧
      RRingD D w' b (rget row none).2.1 (rget row none).2.2 ∧ Mod (· = b) w w' := by
  obtain ⟨A1, n1, c1, A2, n2, c2, hr, h1, h2, t1, t2⟩ := id h
  have hc0 : w.cell? ⟨b, 0, none⟩ = some (.slice A1 n1 c1) := hr.cell (by omega)
  have hc1 : w.cell? ⟨b, 1, none⟩ = some (.slice A2 n2 c2) := hr.cell (by omega)
  have hf1 := hr.frozen 1
  have hn1 : n1 = 0 := h1.len.symm
  subst hn1
  cases row with
  | nil =>
    have hn2 : n2 = 0 := h2.len.symm
    subst hn2
    go_enter Try.func35, Try.ntmps35
    go_wp2
    go_ret2
    exact ⟨rfl, h, Mod.refl _ _⟩
  | cons x r =>
    have hn2 : 0 < n2 := by rw [← h2.len]; simp
    obtain ⟨gg, oo, rfl, hcy⟩ := h2.at_ (k := 0) hn2
    simp only [List.getD_cons_zero, Nat.add_zero] at hcy
    obtain ⟨A4, n4, c4, hcut, hL4, hblk4⟩ := cut_low (P := Try.prog) 27 Try.underlying27 int_info (some ⟨gg, oo, none⟩) n2 c2 1 (by omega)
    have hcut' : ∀ (W : World), (Instr.sliceAt 27 (.slice (some ⟨gg, oo, none⟩) n2 c2) (some (.int .i64 1)) none none).run Try.prog W = .ok (.slice A4 n4 c4) W := hcut
    have hb2 : ((n2 : Int) == 0) = false := by rw [beq_eq_false_iff_ne]; omega
    clear hcut
    go_enter Try.func35, Try.ntmps35
    go_wp2
    go_ret2
    have t4 : TyD D w A4 := t2.of_blk hblk4
    exact ⟨rfl, ⟨A1, 0, c1, A4, n4, c4, RRing.set1 hr, h1.set t1 hr (by decide), (hL4 w _ h2).set t4 hr (by decide), t1.set hr (by decide), t4.set hr (by decide)⟩, set_mod w b 1 _⟩

set_option maxHeartbeats 2000000 in
set_option maxRecDepth 100000 in
theorem dget_any (b : Nat) (row : List Int) (nxt : Option Int) (w : World) (hD : ∀ g, D g → g < w.heap.size) (h : RRingD D w b row nxt) :
    Calls Try.prog 35 #[.pointer (some ⟨b, 0, none⟩)] w fun e w' => e = .returned (.tuple #[.int .i64 (rget row nxt).1.1, .bool (rget row nxt).1.2]) ∧
      RRingD D w' b (rget row nxt).2.1 (rget row nxt).2.2 ∧ Mod (· = b) w w' := by
  cases nxt with
  | none => exact dget_none b row w hD h
  | some g => exact dget_next b g row w hD h

set_option maxHeartbeats 2000000 in
set_option maxRecDepth 100000 in
theorem ddel_any (b : Nat) (row : List Int) (nxt : Option Int) (g : Int) (w : World) (hD : ∀ g, D g → g < w.heap.size) (h : RRingD D w b row nxt) (hn : row.length ≤ 900000) :
    Calls Try.prog 37 #[.pointer (some ⟨b, 0, none⟩), .int .i64 g] w fun e w' => e = .returned (.bool (rdel row nxt g).1) ∧ RRingD D w' b (rdel row nxt g).2.1 (rdel row nxt g).2.2 ∧ Mod (· = b) w w' := by
  obtain ⟨A1, n1, c1, A2, n2, c2, hr, h1, h2, t1, t2⟩ := h
  have hc0 : w.cell? ⟨b, 0, none⟩ = some (.slice A1 n1 c1) := hr.cell (by omega)
  have hc1 : w.cell? ⟨b, 1, none⟩ = some (.slice A2 n2 c2) := hr.cell (by omega)
  have hf0 := hr.frozen 0
  have hn1 : n1 ≤ 900000 := by rw [← h1.len]; cases nxt <;> simp
  have hn2 : n2 ≤ 900000 := by rw [← h2.len]; exact hn
  by_cases hg : nxt = some g
  · subst hg
    rw [show rdel row (some g) g = (true, row, none) by simp [rdel]]
    go_enter Try.func37, Try.ntmps37
    go_wp2_with fail
    refine (has_any A1 n1 c1 _ g _ h1 hn1).mono ?_
    rintro e w1 ⟨rfl, rfl⟩
    rw [decide_eq_true (by simp)]
    go_wp2
    go_ret
    exact ⟨rfl, ⟨none, 0, 0, A2, n2, c2, RRing.set0 hr, IsL.nil _, h2.set t2 hr (by decide), TyD.nil D _, t2.set hr (by decide)⟩, set_mod w1 b 0 _⟩
  · have hnm : g ∉ nxt.toList := by
      cases nxt with
      | none => simp
      | some y => simp; intro e; exact hg (by rw [e])
    have HNM := Lib.hid hnm
    rw [show rdel row nxt g = (decide (g ∈ row), row.erase g, nxt) by simp [rdel, hg]]
    clear hnm hg
    go_enter Try.func37, Try.ntmps37
    go_wp2_with fail
    refine (has_any A1 n1 c1 _ g _ h1 hn1).mono ?_
    rintro e w1 ⟨rfl, rfl⟩
    rw [decide_eq_false HNM.out]
    go_wp2_with fail
    refine (out_any A2 n2 c2 _ g _ h2 t2 hn2).mono ?_
    rintro e w2 ⟨A3, n3, c3, rfl, h3, t3l, hA3f, m3⟩
    have t3 : TyD D w2 A3 := t2.outOf hD t3l hA3f
    have hr2 := m3.rowIs hr (fun h => h)
    have hc2 := hr2.cell (i := 1) (by omega)
    have hf2 := hr2.frozen 1
    go_wp2
    go_ret
    exact ⟨rfl, ⟨A1, n1, c1, A3, n3, c3, RRing.set1 hr2, (h1.keep0 m3).set (t1.keep0 m3) hr2 (by decide), h3.set t3 hr2 (by decide), (t1.keep0 m3).set hr2 (by decide), t3.set hr2 (by decide)⟩,
      (m3.mono (fun _ _ h => h.elim)).trans (set_mod w2 b 1 _)⟩
end

end Go.Proofs.Ytgojfccaohngaaa
