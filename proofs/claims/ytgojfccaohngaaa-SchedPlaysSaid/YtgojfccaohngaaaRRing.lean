/-
  The contracts of the reference's ring (two lists behind a pointer): the same model as the program's ring.
-/
import Derived.Test.YtgojfccaohngaaaRing3
import Derived.Test.YtgojfccaohngaaaOut
import Derived.Deep.RegionHeld3
import Derived.Deep.RegionLaw
import Derived.Deep.DeepCutAuto
namespace Go.Proofs.Ytgojfccaohngaaa
open Go.RowKit

/-- Block b is a reference's ring. -/
def RRing (w : World) (b : Nat) (row : List Int) (nxt : Option Int) : Prop :=
  ∃ A1 n1 c1 A2 n2 c2, w.rowIs b 55 2 (fun i => if i = 0 then .slice A1 n1 c1 else .slice A2 n2 c2) ∧ IsL w A1 n1 c1 nxt.toList ∧ IsL w A2 n2 c2 row ∧ TyL w A1 ∧ TyL w A2

/-- Only blocks of structs (or new ones) are changed. -/
def NoInts (S : Nat → Prop) (w : World) : Prop := ∀ g, S g → ¬ ∃ cur fr, w.heap[g]? = some (.cells cur 3 fr)

theorem RRing.keep {S : Nat → Prop} {w w' : World} {b : Nat} {row : List Int} {nxt : Option Int} (h : RRing w b row nxt) (m : Mod S w w') (hs : ¬ S b) (hi : NoInts S w) : RRing w' b row nxt := by
  obtain ⟨A1, n1, c1, A2, n2, c2, hr, h1, h2, t1, t2⟩ := h
  have k1 : ∀ g, blk A1 = some g → ¬ S g := fun g hg hS => hi g hS (t1 g hg)
  have k2 : ∀ g, blk A2 = some g → ¬ S g := fun g hg hS => hi g hS (t2 g hg)
  exact ⟨A1, n1, c1, A2, n2, c2, m.rowIs hr hs, h1.keep m (fun d hd => k1 d.block (by rw [hd]; rfl)), h2.keep m (fun d hd => k2 d.block (by rw [hd]; rfl)), t1.keep m k1, t2.keep m k2⟩
theorem NoInts.zero (w : World) : NoInts (fun _ => False) w := fun _ h => h.elim
theorem NoInts.row {w : World} {b : Nat} {t : TypeId} {n : Nat} {f : Nat → Value} (hr : w.rowIs b t n f) (ht : t ≠ 3) : NoInts (· = b) w := by
  rintro g rfl ⟨cur, fr, hh⟩
  obtain ⟨c, hc, _⟩ := hr
  rw [hh] at hc
  injection hc with hc
  injection hc with _ hc
  exact ht hc.symm
theorem NoInts.or {S T : Nat → Prop} {w : World} (h : NoInts S w) (k : NoInts T w) : NoInts (fun i => S i ∨ T i) w := fun g hg => by
  rcases hg with hg | hg
  · exact h g hg
  · exact k g hg
theorem Ring.noInts {w : World} {b : Nat} {row : List Int} {nxt : Option Int} (h : Ring w b row nxt) : NoInts (· = b) w := by
  obtain ⟨_, _, _, hr, _⟩ := h
  exact NoInts.row hr (by decide)
theorem RRing.noInts {w : World} {b : Nat} {row : List Int} {nxt : Option Int} (h : RRing w b row nxt) : NoInts (· = b) w := by
  obtain ⟨_, _, _, _, _, _, hr, _⟩ := h
  exact NoInts.row hr (by decide)
theorem RRing.lt {w : World} {b : Nat} {row : List Int} {nxt : Option Int} (h : RRing w b row nxt) : b < w.heap.size := by
  obtain ⟨_, _, _, _, _, _, hr, _⟩ := h
  exact hr.lt

theorem rr_more {W w w2 : World} {b : Nat} {v u : Value} {B B2 : Option Addr} (hW : Mod (fun _ => False) W w) (hf : ∀ d, blk B = some d → W.heap.size ≤ d) (hr : W.rowIs b 55 2 (fun i => if i = 0 then v else u)) (hg : w.grownBy w2 (blk B))
    (hat : blk B2 = blk B ∨ blk B2 = some w.heap.size) :
    Mod (fun _ => False) W w2 ∧ w2.cell? ⟨b, 0, none⟩ = some v ∧ w2.cell? ⟨b, 1, none⟩ = some u ∧ ∀ d, blk B2 = some d → W.heap.size ≤ d := by
  have hs := hW.size
  have hM : Mod (fun _ => False) W w2 := hW.grown hg (fun k hk => .inr (hf k hk))
  refine ⟨hM, (hM.rowIs hr (fun h => h)).cell (by omega), (hM.rowIs hr (fun h => h)).cell (by omega), fun d hd => ?_⟩
  rcases hat with e | e
  · exact hf d (by rw [← e]; exact hd)
  · rw [e] at hd; simp at hd; omega

theorem rall_any (b : Nat) (row : List Int) (nxt : Option Int) (w : World) (h : RRing w b row nxt) (hn : row.length ≤ 900000) :
    Calls Try.prog 38 #[.pointer (some ⟨b, 0, none⟩)] w fun e w' => ∃ A n c, e = .returned (.slice A n c) ∧ IsL w' A n c (nxt.toList ++ row) ∧ (∀ d, A = some d → w.heap.size ≤ d.block) ∧ Mod (fun _ => False) w w' := by
  obtain ⟨A1, n1, c1, A2, n2, c2, hr, h1, h2, t1, t2⟩ := h
  have hc0 : w.cell? ⟨b, 0, none⟩ = some (.slice A1 n1 c1) := hr.cell (by omega)
  have hc1 : w.cell? ⟨b, 1, none⟩ = some (.slice A2 n2 c2) := hr.cell (by omega)
  have hblt := hr.lt
  have hn1 : n1 ≤ 1 := by rw [← h1.len]; cases nxt <;> simp
  have hn2 : n2 ≤ 900000 := by rw [← h2.len]; exact hn
  go_enter Try.func38, Try.ntmps38
  go_wp2
  go_region_held3 (fun w' => w'.cell? ⟨b, 0, none⟩ = some (.slice A1 n1 c1) ∧ w'.cell? ⟨b, 1, none⟩ = some (.slice A2 n2 c2))
    (go_keep)
    ((first
      | (refine step_app _ (by rfl) (.tmp 3) (.tmp 7) _ (by rfl) Try.underlying27 int_info _ 0 0 [] (by rfl) (OwnL.empty w) A1 n1 c1 _ (by rfl) (h1.alloc _) (by omega) ?_; intro B2 m2 d2 w2 hm1 hm2 hown2 hg2 hat2; obtain ⟨hM2, k0, k1, hf2⟩ := rr_more (((Mod.refl _ w).alloc _).drew) (blk_size w) hr hg2 hat2)
      | (refine step_app _ (by rfl) (.tmp 8) (.tmp 12) _ (by rfl) Try.underlying27 int_info B2 m2 d2 _ (by rfl) hown2 A2 n2 c2 _ (by rfl) (h2.keep0 hM2) (by omega) ?_; intro B3 m3 d3 w3 hm3 hm4 hown3 hg3 hat3; obtain ⟨hM3, k2, k3, hf3⟩ := rr_more hM2 hf2 hr hg3 hat3)))
  go_wp2
  go_ret
  exact ⟨B3, m3, d3, rfl, by simpa using hown3.isL, (fun d hd => hf3 d.block (by rw [hd]; rfl)), hM3⟩

theorem RRing.set0 {w : World} {b : Nat} {v u : Value} {A : Option Addr} {n c : Nat} (hr : w.rowIs b 55 2 (fun i => if i = 0 then v else u)) :
    (w.setCell ⟨b, 0, none⟩ (.slice A n c)).rowIs b 55 2 (fun i => if i = 0 then .slice A n c else u) :=
  (hr.set 0 _).congr (fun i hi => by by_cases e : i = 0 <;> simp [e])
theorem RRing.set1 {w : World} {b : Nat} {v u : Value} {A : Option Addr} {n c : Nat} (hr : w.rowIs b 55 2 (fun i => if i = 0 then v else u)) :
    (w.setCell ⟨b, 1, none⟩ (.slice A n c)).rowIs b 55 2 (fun i => if i = 0 then v else .slice A n c) :=
  (hr.set 1 _).congr (fun i hi => by
    by_cases e : i = 0
    · simp [e]
    · have : i = 1 := by omega
      simp [this])
theorem set_mod (w : World) (b k : Nat) (v : Value) : Mod (· = b) w (w.setCell ⟨b, k, none⟩ v) := Mod.setCell (Mod.refl (· = b) w) (p := ⟨b, k, none⟩) (.inl rfl) _
theorem IsL.set {w : World} {b k : Nat} {v : Value} {A : Option Addr} {n c : Nat} {l : List Int} {t : TypeId} {m : Nat} {f : Nat → Value} (h : IsL w A n c l) (ht : TyL w A) (hr : w.rowIs b t m f) (hne : t ≠ 3) :
    IsL (w.setCell ⟨b, k, none⟩ v) A n c l := h.keep (set_mod w b k v) (fun d hd => ht.ne hr hne d.block (by rw [hd]; rfl))
theorem TyL.set {w : World} {b k : Nat} {v : Value} {A : Option Addr} {t : TypeId} {m : Nat} {f : Nat → Value} (ht : TyL w A) (hr : w.rowIs b t m f) (hne : t ≠ 3) :
    TyL (w.setCell ⟨b, k, none⟩ v) A := ht.keep (set_mod w b k v) (ht.ne hr hne)
theorem rr_next {w : World} {b : Nat} {g : Int} {v : Value} {A2 : Option Addr} {n2 c2 : Nat} {row : List Int} (hr : w.rowIs b 55 2 (fun i => if i = 0 then v else .slice A2 n2 c2)) (h2 : IsL w A2 n2 c2 row) (t2 : TyL w A2) :
    let wo := (w.setCell ⟨b, 0, none⟩ (.slice (some ⟨w.heap.size, 0, none⟩) 1 1)).alloc (.cells #[.int .i64 g] 3)
    wo.rowIs b 55 2 (fun i => if i = 0 then .slice (some ⟨w.heap.size, 0, none⟩) 1 1 else .slice A2 n2 c2) ∧ IsL wo (some ⟨w.heap.size, 0, none⟩) 1 1 [g] ∧ TyL wo (some ⟨w.heap.size, 0, none⟩) ∧
      IsL wo A2 n2 c2 row ∧ TyL wo A2 ∧ Mod (· = b) w wo := by
  intro wo
  have hs : (w.setCell ⟨b, 0, none⟩ (.slice (some ⟨w.heap.size, 0, none⟩) 1 1)).heap.size = w.heap.size := by simp [World.setCell]
  have hr1 := RRing.set0 (A := some ⟨w.heap.size, 0, none⟩) (n := 1) (c := 1) hr
  have hown := OwnL.one (w.setCell ⟨b, 0, none⟩ (.slice (some ⟨w.heap.size, 0, none⟩) 1 1)) g
  rw [hs] at hown
  have ma : ∀ W : World, Mod (fun _ => False) W (W.alloc (.cells #[.int .i64 g] 3)) := fun W => (Mod.refl _ W).alloc _
  exact ⟨hr1.alloc _, hown.isL, hown.ty, (h2.set t2 hr (by decide)).keep0 (ma _), (t2.set hr (by decide)).keep (ma _) (fun _ _ h => h), (set_mod w b 0 _).alloc _⟩
theorem TyL.keep0 {w w' : World} {A : Option Addr} (h : TyL w A) (m : Mod (fun _ => False) w w') : TyL w' A := h.keep m (fun _ _ h => h)

set_option maxHeartbeats 1000000 in
set_option maxRecDepth 100000 in
theorem rput_f_room (b : Nat) (g : Int) (nxt : Option Int) (row : List Int) (w : World) (h : RRing w b row nxt) (hlen : row.length ≤ 256) (hlt : row.length < 256) :
    Calls Try.prog 34 #[.pointer (some ⟨b, 0, none⟩), .int .i64 g, .bool false] w fun e w' => ∃ A n c, e = .returned (.slice A n c) ∧ RRing w' b (rput row nxt g false).1.1 (rput row nxt g false).2 ∧
      IsL w' A n c (rput row nxt g false).1.2 ∧ (∀ d, A = some d → w.heap.size ≤ d.block) ∧ Mod (· = b) w w'  := by
  obtain ⟨A1, n1, c1, A2, n2, c2, hr, h1, h2, t1, t2⟩ := h
  have hc0 : w.cell? ⟨b, 0, none⟩ = some (.slice A1 n1 c1) := hr.cell (by omega)
  have hc1 : w.cell? ⟨b, 1, none⟩ = some (.slice A2 n2 c2) := hr.cell (by omega)
  have hblt := hr.lt
  have hf0 := hr.frozen 0
  have hf1 := hr.frozen 1
  have hn2 : n2 ≤ 256 := by rw [← h2.len]; exact hlen
  have e0 : rput row nxt g false = (([] ++ row ++ [g], []), nxt) := by simp [rput, rbehind, hlt]
  rw [e0]
  clear e0
  rw [h2.len] at hlt
  obtain ⟨wo, rfl⟩ : ∃ wo : World, wo = w := ⟨_, rfl⟩
  have hMo : Mod (· = b) wo wo := Mod.refl _ _
  go_enter Try.func34, Try.ntmps34
  have tok1 : True := trivial
  have tok2 : True := trivial
  go_wp2_with (first
    | (at_builtin; have _t := tok1; refine wpList_app _ rfl (.tmp 32) (.tmp 36) _ rfl Try.underlying27 int_info _ 0 0 [] rfl (OwnL.empty wo) A2 n2 c2 _ rfl (h2.alloc _) (by omega) ?_; intro B2 m2 d2 w2 hm1 hm2 hown2 hg2 hat2; obtain ⟨hM2, k0, k1, hf2⟩ := rr_more ((Mod.refl _ wo).alloc _) (blk_size wo) hr hg2 hat2; have hb2 := Nat.lt_of_lt_of_le hblt hM2.size; clear _t tok1)
    | (at_builtin; have _t := tok2; refine wpList_app _ rfl (.tmp 37) (.tmp 39) _ rfl Try.underlying27 int_info B2 m2 d2 _ rfl (hown2.alloc _) _ 1 1 [g] rfl (IsL.one w2 _) (by omega) ?_; intro B3 m3 d3 w3 hm3 hm4 hown3 hg3 hat3; obtain ⟨hM3, k2, k3, hf3⟩ := rr_more (hM2.alloc _) hf2 hr hg3 hat3; have hfz3 := (hM3.rowIs hr (fun h => h)).frozen 1; have hb3 := Nat.lt_of_lt_of_le hblt hM3.size; clear _t tok2))
  go_ret
  have hr3 := hM3.rowIs hr (fun h => h)
  refine ⟨none, 0, 0, rfl, ⟨_, _, _, B3, m3, d3, RRing.set1 hr3, (h1.keep0 hM3).set (t1.keep0 hM3) hr3 (by decide), hown3.isL.set hown3.ty hr3 (by decide), (t1.keep0 hM3).set hr3 (by decide), hown3.ty.set hr3 (by decide)⟩, IsL.nil _, (fun d hd => by cases hd), ?_⟩
  exact hMo.trans ((hM3.mono (fun _ _ h => h.elim)).trans (set_mod w3 b 1 _))

set_option maxHeartbeats 1000000 in
set_option maxRecDepth 100000 in
theorem rput_f_full (b : Nat) (g : Int) (nxt : Option Int) (row : List Int) (w : World) (h : RRing w b row nxt) (hlen : row.length ≤ 256) (hlt : ¬ row.length < 256) :
    Calls Try.prog 34 #[.pointer (some ⟨b, 0, none⟩), .int .i64 g, .bool false] w fun e w' => ∃ A n c, e = .returned (.slice A n c) ∧ RRing w' b (rput row nxt g false).1.1 (rput row nxt g false).2 ∧
      IsL w' A n c (rput row nxt g false).1.2 ∧ (∀ d, A = some d → w.heap.size ≤ d.block) ∧ Mod (· = b) w w'  := by
  obtain ⟨A1, n1, c1, A2, n2, c2, hr, h1, h2, t1, t2⟩ := h
  have hc0 : w.cell? ⟨b, 0, none⟩ = some (.slice A1 n1 c1) := hr.cell (by omega)
  have hc1 : w.cell? ⟨b, 1, none⟩ = some (.slice A2 n2 c2) := hr.cell (by omega)
  have hblt := hr.lt
  have hf0 := hr.frozen 0
  have hf1 := hr.frozen 1
  have hn2 : n2 ≤ 256 := by rw [← h2.len]; exact hlen
  have e0 : rput row nxt g false = (([] ++ row.drop 128, [] ++ row.take 128 ++ [g]), nxt) := by simp [rput, rbehind, hlt]
  rw [e0]
  clear e0
  rw [h2.len] at hlt
  obtain ⟨wo, rfl⟩ : ∃ wo : World, wo = w := ⟨_, rfl⟩
  have hMo : Mod (· = b) wo wo := Mod.refl _ _
  go_enter Try.func34, Try.ntmps34
  obtain ⟨A4, n4, c4, hcut, hL4, hblk4⟩ := cut_low (P := Try.prog) 27 Try.underlying27 int_info A2 n2 c2 128 (by omega)
  have hnc := h2.le
  have h2t := h2.take (k := 128) (by omega)
  have hcut' : ∀ (W : World), (Instr.sliceAt 27 (.slice A2 n2 c2) (some (.int .i64 128)) none none).run Try.prog W = .ok (.slice A4 n4 c4) W := hcut
  have hn4 : n4 ≤ 300 := by have h4 := (hL4 wo _ h2).len; rw [List.length_drop, h2.len] at h4; omega
  clear hcut
  have tok1 : True := trivial
  have tok2 : True := trivial
  have tok3 : True := trivial
  go_wp2_with (first
    | (at_builtin; have _t := tok1; refine wpList_app _ rfl (.tmp 43) (.tmp 48) _ rfl Try.underlying27 int_info _ 0 0 [] rfl (OwnL.empty wo) A2 128 c2 _ rfl (h2t.alloc _) (by omega) ?_; intro B2 m2 d2 w2 hm1 hm2 hown2 hg2 hat2; obtain ⟨hM2, k0, k1, hf2⟩ := rr_more ((Mod.refl _ wo).alloc _) (blk_size wo) hr hg2 hat2; have hb2 := Nat.lt_of_lt_of_le hblt hM2.size; clear _t tok1)
    | (at_builtin; have _t := tok2; refine wpList_app _ rfl (.tmp 49) (.tmp 51) _ rfl Try.underlying27 int_info B2 m2 d2 _ rfl (hown2.alloc _) _ 1 1 [g] rfl (IsL.one w2 _) (by omega) ?_; intro B3 m3 d3 w3 hm3 hm4 hown3 hg3 hat3; obtain ⟨hM3, k2, k3, hf3⟩ := rr_more (hM2.alloc _) hf2 hr hg3 hat3; have hb3 := Nat.lt_of_lt_of_le hblt hM3.size; clear _t tok2)
    | (at_builtin; have _t := tok3; refine wpList_app _ rfl (.tmp 54) (.tmp 59) _ rfl Try.underlying27 int_info _ 0 0 [] rfl (OwnL.empty w3) A4 n4 c4 _ rfl ((hL4 w3 _ (h2.keep0 hM3)).alloc _) (by omega) ?_; intro B4 m4 d4 w4 hm5 hm6 hown4 hg4 hat4; obtain ⟨hM4, k4, k5, hf4⟩ := rr_more (hM3.alloc _) (fun d hd => Nat.le_trans hM3.size (blk_size w3 d hd)) hr hg4 hat4; have hfz4 := (hM4.rowIs hr (fun h => h)).frozen 1; have hb4 := Nat.lt_of_lt_of_le hblt hM4.size; clear _t tok3))
  go_ret
  have hr4 := hM4.rowIs hr (fun h => h)
  have hsz := hM3.size
  have m34 : Mod (fun _ => False) w3 w4 := ((Mod.refl _ w3).alloc _).grown hg4 (fun k hk => .inr (by simp [blk] at hk; omega))
  have hbo := hMo.size
  refine ⟨B3, m3, d3, rfl, ⟨_, _, _, B4, m4, d4, RRing.set1 hr4, (h1.keep0 hM4).set (t1.keep0 hM4) hr4 (by decide), hown4.isL.set hown4.ty hr4 (by decide), (t1.keep0 hM4).set hr4 (by decide), hown4.ty.set hr4 (by decide)⟩,
    (hown3.isL.keep0 m34).set (hown3.ty.keep0 m34) hr4 (by decide), (fun d hd => by have := hf3 d.block (by rw [hd]; rfl); omega), ?_⟩
  exact hMo.trans ((hM4.mono (fun _ _ h => h.elim)).trans (set_mod w4 b 1 _))

set_option maxHeartbeats 1000000 in
set_option maxRecDepth 100000 in
theorem rput_t_room (b : Nat) (g : Int) (y : Int) (row : List Int) (w : World) (h : RRing w b row (some y)) (hlen : row.length ≤ 256) (hlt : row.length < 256) :
    Calls Try.prog 34 #[.pointer (some ⟨b, 0, none⟩), .int .i64 g, .bool true] w fun e w' => ∃ A n c, e = .returned (.slice A n c) ∧ RRing w' b (rput row (some y) g true).1.1 (rput row (some y) g true).2 ∧
      IsL w' A n c (rput row (some y) g true).1.2 ∧ (∀ d, A = some d → w.heap.size ≤ d.block) ∧ Mod (· = b) w w'  := by
  obtain ⟨A1, n1, c1, A2, n2, c2, hr, h1, h2, t1, t2⟩ := h
  have hc0 : w.cell? ⟨b, 0, none⟩ = some (.slice A1 n1 c1) := hr.cell (by omega)
  have hc1 : w.cell? ⟨b, 1, none⟩ = some (.slice A2 n2 c2) := hr.cell (by omega)
  have hblt := hr.lt
  have hf0 := hr.frozen 0
  have hf1 := hr.frozen 1
  have hn2 : n2 ≤ 256 := by rw [← h2.len]; exact hlen
  have e0 : rput row (some y) g true = (([] ++ row ++ [y], []), some g) := by simp [rput, rbehind, hlt]
  rw [e0]
  clear e0
  rw [h2.len] at hlt
  have hn1 : n1 = 1 := h1.len.symm
  subst hn1
  obtain ⟨gg, oo, rfl, hcy⟩ := h1.at_ (k := 0) (by omega)
  simp only [Option.toList_some, List.getD_cons_zero, Nat.add_zero] at hcy
  have hgg : gg ≠ b := t1.ne hr (by decide) gg rfl
  have hggl : gg < w.heap.size := t1.lt gg rfl
  go_enter Try.func34, Try.ntmps34
  go_upto_region 7 with (fail)
  obtain ⟨wo, hwo⟩ : ∃ wo : World, wo = (w.setCell ⟨b, 0, none⟩ (.slice (some ⟨w.heap.size, 0, none⟩) 1 1)).alloc (.cells #[.int .i64 g] 3) := ⟨_, rfl⟩
  rw [← hwo]
  obtain ⟨hro, h1o, t1o, h2o, t2o, hMo⟩ := rr_next (g := g) hr h2 t2
  rw [← hwo] at hro h1o t1o h2o t2o hMo
  have hblt0 : b < wo.heap.size := hro.lt
  have hc0 : wo.cell? ⟨b, 0, none⟩ = some (.slice (some ⟨w.heap.size, 0, none⟩) 1 1) := hro.cell (by omega)
  have hc1 : wo.cell? ⟨b, 1, none⟩ = some (.slice A2 n2 c2) := hro.cell (by omega)
  have hf1 := hro.frozen 1
  clear hwo hr h1 t1 h2 t2
  have hr := hro
  have h1 := h1o
  have t1 := t1o
  have h2 := h2o
  have t2 := t2o
  have hblt := hblt0
  clear hro h1o t1o h2o t2o hblt0
  have tok1 : True := trivial
  have tok2 : True := trivial
  go_wp2_with (first
    | (at_builtin; have _t := tok1; refine wpList_app _ rfl (.tmp 32) (.tmp 36) _ rfl Try.underlying27 int_info _ 0 0 [] rfl (OwnL.empty wo) A2 n2 c2 _ rfl (h2.alloc _) (by omega) ?_; intro B2 m2 d2 w2 hm1 hm2 hown2 hg2 hat2; obtain ⟨hM2, k0, k1, hf2⟩ := rr_more ((Mod.refl _ wo).alloc _) (blk_size wo) hr hg2 hat2; have hb2 := Nat.lt_of_lt_of_le hblt hM2.size; clear _t tok1)
    | (at_builtin; have _t := tok2; refine wpList_app _ rfl (.tmp 37) (.tmp 39) _ rfl Try.underlying27 int_info B2 m2 d2 _ rfl (hown2.alloc _) _ 1 1 [y] rfl (IsL.one w2 _) (by omega) ?_; intro B3 m3 d3 w3 hm3 hm4 hown3 hg3 hat3; obtain ⟨hM3, k2, k3, hf3⟩ := rr_more (hM2.alloc _) hf2 hr hg3 hat3; have hfz3 := (hM3.rowIs hr (fun h => h)).frozen 1; have hb3 := Nat.lt_of_lt_of_le hblt hM3.size; clear _t tok2))
  go_ret
  have hr3 := hM3.rowIs hr (fun h => h)
  refine ⟨none, 0, 0, rfl, ⟨_, _, _, B3, m3, d3, RRing.set1 hr3, (h1.keep0 hM3).set (t1.keep0 hM3) hr3 (by decide), hown3.isL.set hown3.ty hr3 (by decide), (t1.keep0 hM3).set hr3 (by decide), hown3.ty.set hr3 (by decide)⟩, IsL.nil _, (fun d hd => by cases hd), ?_⟩
  exact hMo.trans ((hM3.mono (fun _ _ h => h.elim)).trans (set_mod w3 b 1 _))

set_option maxHeartbeats 1000000 in
set_option maxRecDepth 100000 in
theorem rput_t_full (b : Nat) (g : Int) (y : Int) (row : List Int) (w : World) (h : RRing w b row (some y)) (hlen : row.length ≤ 256) (hlt : ¬ row.length < 256) :
    Calls Try.prog 34 #[.pointer (some ⟨b, 0, none⟩), .int .i64 g, .bool true] w fun e w' => ∃ A n c, e = .returned (.slice A n c) ∧ RRing w' b (rput row (some y) g true).1.1 (rput row (some y) g true).2 ∧
      IsL w' A n c (rput row (some y) g true).1.2 ∧ (∀ d, A = some d → w.heap.size ≤ d.block) ∧ Mod (· = b) w w'  := by
  obtain ⟨A1, n1, c1, A2, n2, c2, hr, h1, h2, t1, t2⟩ := h
  have hc0 : w.cell? ⟨b, 0, none⟩ = some (.slice A1 n1 c1) := hr.cell (by omega)
  have hc1 : w.cell? ⟨b, 1, none⟩ = some (.slice A2 n2 c2) := hr.cell (by omega)
  have hblt := hr.lt
  have hf0 := hr.frozen 0
  have hf1 := hr.frozen 1
  have hn2 : n2 ≤ 256 := by rw [← h2.len]; exact hlen
  have e0 : rput row (some y) g true = (([] ++ row.drop 128, [] ++ row.take 128 ++ [y]), some g) := by simp [rput, rbehind, hlt]
  rw [e0]
  clear e0
  rw [h2.len] at hlt
  have hn1 : n1 = 1 := h1.len.symm
  subst hn1
  obtain ⟨gg, oo, rfl, hcy⟩ := h1.at_ (k := 0) (by omega)
  simp only [Option.toList_some, List.getD_cons_zero, Nat.add_zero] at hcy
  have hgg : gg ≠ b := t1.ne hr (by decide) gg rfl
  have hggl : gg < w.heap.size := t1.lt gg rfl
  go_enter Try.func34, Try.ntmps34
  go_upto_region 7 with (fail)
  obtain ⟨wo, hwo⟩ : ∃ wo : World, wo = (w.setCell ⟨b, 0, none⟩ (.slice (some ⟨w.heap.size, 0, none⟩) 1 1)).alloc (.cells #[.int .i64 g] 3) := ⟨_, rfl⟩
  rw [← hwo]
  obtain ⟨hro, h1o, t1o, h2o, t2o, hMo⟩ := rr_next (g := g) hr h2 t2
  rw [← hwo] at hro h1o t1o h2o t2o hMo
  have hblt0 : b < wo.heap.size := hro.lt
  have hc0 : wo.cell? ⟨b, 0, none⟩ = some (.slice (some ⟨w.heap.size, 0, none⟩) 1 1) := hro.cell (by omega)
  have hc1 : wo.cell? ⟨b, 1, none⟩ = some (.slice A2 n2 c2) := hro.cell (by omega)
  have hf1 := hro.frozen 1
  clear hwo hr h1 t1 h2 t2
  have hr := hro
  have h1 := h1o
  have t1 := t1o
  have h2 := h2o
  have t2 := t2o
  have hblt := hblt0
  clear hro h1o t1o h2o t2o hblt0
  obtain ⟨A4, n4, c4, hcut, hL4, hblk4⟩ := cut_low (P := Try.prog) 27 Try.underlying27 int_info A2 n2 c2 128 (by omega)
  have hnc := h2.le
  have h2t := h2.take (k := 128) (by omega)
  have hcut' : ∀ (W : World), (Instr.sliceAt 27 (.slice A2 n2 c2) (some (.int .i64 128)) none none).run Try.prog W = .ok (.slice A4 n4 c4) W := hcut
  have hn4 : n4 ≤ 300 := by have h4 := (hL4 wo _ h2).len; rw [List.length_drop, h2.len] at h4; omega
  clear hcut
  have tok1 : True := trivial
  have tok2 : True := trivial
  have tok3 : True := trivial
  go_wp2_with (first
    | (at_builtin; have _t := tok1; refine wpList_app _ rfl (.tmp 43) (.tmp 48) _ rfl Try.underlying27 int_info _ 0 0 [] rfl (OwnL.empty wo) A2 128 c2 _ rfl (h2t.alloc _) (by omega) ?_; intro B2 m2 d2 w2 hm1 hm2 hown2 hg2 hat2; obtain ⟨hM2, k0, k1, hf2⟩ := rr_more ((Mod.refl _ wo).alloc _) (blk_size wo) hr hg2 hat2; have hb2 := Nat.lt_of_lt_of_le hblt hM2.size; clear _t tok1)
    | (at_builtin; have _t := tok2; refine wpList_app _ rfl (.tmp 49) (.tmp 51) _ rfl Try.underlying27 int_info B2 m2 d2 _ rfl (hown2.alloc _) _ 1 1 [y] rfl (IsL.one w2 _) (by omega) ?_; intro B3 m3 d3 w3 hm3 hm4 hown3 hg3 hat3; obtain ⟨hM3, k2, k3, hf3⟩ := rr_more (hM2.alloc _) hf2 hr hg3 hat3; have hb3 := Nat.lt_of_lt_of_le hblt hM3.size; clear _t tok2)
    | (at_builtin; have _t := tok3; refine wpList_app _ rfl (.tmp 54) (.tmp 59) _ rfl Try.underlying27 int_info _ 0 0 [] rfl (OwnL.empty w3) A4 n4 c4 _ rfl ((hL4 w3 _ (h2.keep0 hM3)).alloc _) (by omega) ?_; intro B4 m4 d4 w4 hm5 hm6 hown4 hg4 hat4; obtain ⟨hM4, k4, k5, hf4⟩ := rr_more (hM3.alloc _) (fun d hd => Nat.le_trans hM3.size (blk_size w3 d hd)) hr hg4 hat4; have hfz4 := (hM4.rowIs hr (fun h => h)).frozen 1; have hb4 := Nat.lt_of_lt_of_le hblt hM4.size; clear _t tok3))
  go_ret
  have hr4 := hM4.rowIs hr (fun h => h)
  have hsz := hM3.size
  have m34 : Mod (fun _ => False) w3 w4 := ((Mod.refl _ w3).alloc _).grown hg4 (fun k hk => .inr (by simp [blk] at hk; omega))
  have hbo := hMo.size
  refine ⟨B3, m3, d3, rfl, ⟨_, _, _, B4, m4, d4, RRing.set1 hr4, (h1.keep0 hM4).set (t1.keep0 hM4) hr4 (by decide), hown4.isL.set hown4.ty hr4 (by decide), (t1.keep0 hM4).set hr4 (by decide), hown4.ty.set hr4 (by decide)⟩,
    (hown3.isL.keep0 m34).set (hown3.ty.keep0 m34) hr4 (by decide), (fun d hd => by have := hf3 d.block (by rw [hd]; rfl); omega), ?_⟩
  exact hMo.trans ((hM4.mono (fun _ _ h => h.elim)).trans (set_mod w4 b 1 _))


theorem rput_t_none (b : Nat) (g : Int) (row : List Int) (w : World) (h : RRing w b row none) :
    Calls Try.prog 34 #[.pointer (some ⟨b, 0, none⟩), .int .i64 g, .bool true] w fun e w' => e = .returned (.slice none 0 0) ∧ RRing w' b row (some g) ∧ Mod (· = b) w w' := by
  obtain ⟨A1, n1, c1, A2, n2, c2, hr, h1, h2, t1, t2⟩ := h
  have hc0 : w.cell? ⟨b, 0, none⟩ = some (.slice A1 n1 c1) := hr.cell (by omega)
  have hblt := hr.lt
  have hf0 := hr.frozen 0
  have hn1 : n1 = 0 := h1.len.symm
  subst hn1
  go_enter Try.func34, Try.ntmps34
  go_wp2
  go_ret
  obtain ⟨hro, h1o, t1o, h2o, t2o, hMo⟩ := rr_next (g := g) hr h2 t2
  exact ⟨rfl, ⟨_, 1, 1, A2, n2, c2, hro, h1o, h2o, t1o, t2o⟩, hMo⟩

theorem rrput_any (b : Nat) (g : Int) (next : Bool) (row : List Int) (nxt : Option Int) (w : World) (h : RRing w b row nxt) (hlen : row.length ≤ 256) :
    Calls Try.prog 34 #[.pointer (some ⟨b, 0, none⟩), .int .i64 g, .bool next] w fun e w' => ∃ A n c, e = .returned (.slice A n c) ∧ RRing w' b (rput row nxt g next).1.1 (rput row nxt g next).2 ∧
      IsL w' A n c (rput row nxt g next).1.2 ∧ (∀ d, A = some d → w.heap.size ≤ d.block) ∧ Mod (· = b) w w' := by
  by_cases hlt : row.length < 256
  · cases next with
    | false => exact rput_f_room b g nxt row w h hlen hlt
    | true =>
      cases nxt with
      | none =>
        refine (rput_t_none b g row w h).mono ?_
        rintro e w' ⟨rfl, h1, h2⟩
        exact ⟨none, 0, 0, rfl, h1, IsL.nil _, (fun d hd => by cases hd), h2⟩
      | some y => exact rput_t_room b g y row w h hlen hlt
  · cases next with
    | false => exact rput_f_full b g nxt row w h hlen hlt
    | true =>
      cases nxt with
      | none =>
        refine (rput_t_none b g row w h).mono ?_
        rintro e w' ⟨rfl, h1, h2⟩
        exact ⟨none, 0, 0, rfl, h1, IsL.nil _, (fun d hd => by cases hd), h2⟩
      | some y => exact rput_t_full b g y row w h hlen hlt

end Go.Proofs.Ytgojfccaohngaaa
