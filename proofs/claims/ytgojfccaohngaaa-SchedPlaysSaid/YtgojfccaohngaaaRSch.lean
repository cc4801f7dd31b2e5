/-
  The reference's scheduler in memory (treadmillref10.Sched).
-/
import Derived.Test.YtgojfccaohngaaaDRing2
import Derived.Test.YtgojfccaohngaaaSchM
import Derived.Test.YtgojfccaohngaaaQRef
set_option linter.unusedSimpArgs false
namespace Go.Proofs.Ytgojfccaohngaaa
open Go.RowKit

/-- Where a reference's scheduler lies. -/
structure RA where
  s : Nat
  g : Nat
  c : Nat
  ps : Nat

def rfield (x : RA) (A : Option Addr) (n c : Nat) : Nat → Value := fun i => if i = 0 then .slice (some ⟨x.g, 0, none⟩) x.ps x.c else .slice A n c

structure RSI (x : RA) (lo : Nat) (D : Nat → Prop) (w : World) (bs : Nat → Nat) (f : Nat → Value) (A : Option Addr) (n c : Nat) (R : Nat → RM) (Q : List Int) : Prop where
  row : w.rowIs x.s 79 2 (rfield x A n c)
  arr : w.rowIs x.g 53 x.c f
  ptr : ∀ i, i < x.ps → f i = .pointer (some ⟨bs i, 0, none⟩)
  ring : ∀ i, i < x.ps → RRingD D w (bs i) (R i).1 (R i).2
  inj : ∀ i j, i < x.ps → j < x.ps → bs i = bs j → i = j
  q : IsL w A n c Q
  ty : TyD D w A
  one : 1 ≤ x.ps
  most : x.ps ≤ 64
  cap : x.ps ≤ x.c
  capm : x.c ≤ maxLen
  ls : lo ≤ x.s
  lg : lo ≤ x.g
  lb : ∀ i, i < x.ps → lo ≤ bs i
def RSch (x : RA) (lo : Nat) (D : Nat → Prop) (w : World) (R : Nat → RM) (Q : List Int) : Prop := ∃ bs f A n c, RSI x lo D w bs f A n c R Q

/-- Only structs and pointers' rows of the reference are changed. -/
def ModT (lo : Nat) (w w' : World) : Prop := ∃ S, Mod S w w' ∧ ∀ k, S k → lo ≤ k ∧ ∃ t, (t = 79 ∨ t = 53 ∨ t = 55) ∧ HasT w k t
/-- What a call on the reference's scheduler leaves. -/
def RTo (x : RA) (lo : Nat) (D : Nat → Prop) (w w' : World) (R : Nat → RM) (Q : List Int) : Prop := RSch x lo D w' R Q ∧ ModT lo w w'

section
variable {x : RA} {lo : Nat} {D D' : Nat → Prop} {w w' w1 w2 : World} {bs : Nat → Nat} {f : Nat → Value} {A A2 : Option Addr} {n c n2 c2 : Nat} {R R' : Nat → RM} {Q Q' Q2 : List Int} {S : Nat → Prop}
theorem ModT.refl (lo : Nat) (w : World) : ModT lo w w := ⟨fun _ => False, Mod.refl _ w, fun _ h => h.elim⟩
theorem ModT.of0 (m : Mod (fun _ => False) w w') : ModT lo w w' := ⟨_, m, fun _ h => h.elim⟩
theorem ModT.one {t k : Nat} (ht : t = 79 ∨ t = 53 ∨ t = 55) (h : HasT w k t) (hk : lo ≤ k) (m : Mod (· = k) w w') : ModT lo w w' := ⟨_, m, fun i hi => by subst hi; exact ⟨hk, t, ht, h⟩⟩
theorem ModT.size (h : ModT lo w w') : w.heap.size ≤ w'.heap.size := by
  obtain ⟨S, m, _⟩ := h
  exact m.size
theorem ModT.hasT (h : ModT lo w w') {k : Nat} {t : TypeId} (hk : k < w.heap.size) (h' : HasT w' k t) : HasT w k t ∨ ∃ t', (t' = 79 ∨ t' = 53 ∨ t' = 55) ∧ HasT w k t' ∧ lo ≤ k := by
  obtain ⟨S, m, hS⟩ := h
  by_cases e : S k
  · obtain ⟨h1, t', h2, h3⟩ := hS k e
    exact .inr ⟨t', h2, h3, h1⟩
  · refine .inl ?_
    obtain ⟨cur, fr, hc⟩ := h'
    exact ⟨cur, fr, by rw [← m.block k hk e]; exact hc⟩
theorem ModT.trans (h : ModT lo w w1) (k : ModT lo w1 w2) : ModT lo w w2 := by
  obtain ⟨S, m, hS⟩ := id h
  obtain ⟨T, m2, hT⟩ := k
  refine ⟨fun i => S i ∨ (T i ∧ i < w.heap.size), (m.mono (fun _ _ h => .inl h)).trans' m2 (fun i hi ht => .inr ⟨ht, hi⟩), ?_⟩
  rintro i (hi | ⟨hi, hl⟩)
  · exact hS i hi
  · obtain ⟨h1, t, h2, h3⟩ := hT i hi
    refine ⟨h1, ?_⟩
    rcases h.hasT hl h3 with e | ⟨t', e1, e2, _⟩
    · exact ⟨t, h2, e⟩
    · exact ⟨t', e1, e2⟩
theorem ModT.not3 {k : Nat} (h : ModT lo w w') (hk : HasT w k 3) : w'.heap[k]? = w.heap[k]? := by
  obtain ⟨S, m, hS⟩ := h
  refine m.block k hk.lt (fun hs => ?_)
  obtain ⟨_, t, h2, h3⟩ := hS k hs
  rcases h2 with e | e | e <;> (subst e; exact h3.ne hk (by decide) rfl)
theorem IsL.keepT {l : List Int} (h : IsL w A n c l) (t : TyL w A) (m : ModT lo w w') : IsL w' A n c l := by
  obtain ⟨S, mm, hS⟩ := m
  refine h.keep mm (fun d hd hs => ?_)
  obtain ⟨_, t', h2, h3⟩ := hS _ hs
  obtain ⟨cur, fr, hc⟩ := t d.block (by rw [hd]; rfl)
  rcases h2 with e | e | e <;> (subst e; exact h3.ne ⟨cur, fr, hc⟩ (by decide) rfl)
theorem TyL.keepT (t : TyL w A) (m : ModT lo w w') : TyL w' A := by
  obtain ⟨S, mm, hS⟩ := m
  refine t.keep mm (fun d hd hs => ?_)
  obtain ⟨_, t', h2, h3⟩ := hS _ hs
  obtain ⟨cur, fr, hc⟩ := t d hd
  rcases h2 with e | e | e <;> (subst e; exact h3.ne ⟨cur, fr, hc⟩ (by decide) rfl)
theorem rowIs_keepT {b : Nat} {t : TypeId} {m : Nat} {ff : Nat → Value} (h : w.rowIs b t m ff) (ht : t ≠ 79 ∧ t ≠ 53 ∧ t ≠ 55) (mm : ModT lo w w') : w'.rowIs b t m ff := by
  obtain ⟨S, m1, hS⟩ := mm
  refine m1.rowIs h (fun hs => ?_)
  obtain ⟨_, t', h2, h3⟩ := hS _ hs
  rcases h2 with e | e | e <;> subst e
  · exact h3.ne (HasT.of_row h) (fun e => ht.1 e.symm) rfl
  · exact h3.ne (HasT.of_row h) (fun e => ht.2.1 e.symm) rfl
  · exact h3.ne (HasT.of_row h) (fun e => ht.2.2 e.symm) rfl

theorem RSI.keep (h : RSI x lo D w bs f A n c R Q) (m : Mod S w w') (hs : ¬ S x.s) (hg : ¬ S x.g) (hb : ∀ i, i < x.ps → ¬ S (bs i)) (hi : ∀ g, S g → D g ∨ ¬ HasT w g 3) : RSI x lo D w' bs f A n c R Q :=
  { h with
    row := m.rowIs h.row hs
    arr := m.rowIs h.arr hg
    ring := fun i hi' => (h.ring i hi').keep m (hb i hi') (fun g hg => hi g hg)
    q := h.q.keep m (fun d hd hS => by
      rcases hi _ hS with e | e
      · exact h.ty.no d.block (by rw [hd]; rfl) e
      · exact e (h.ty.ty d.block (by rw [hd]; rfl)))
    ty := h.ty.keep m (fun g hg hS => by
      rcases hi _ hS with e | e
      · exact h.ty.no g hg e
      · exact e (h.ty.ty g hg)) }
theorem RSI.keep0 (h : RSI x lo D w bs f A n c R Q) (m : Mod (fun _ => False) w w') : RSI x lo D w' bs f A n c R Q := h.keep m (fun h => h) (fun h => h) (fun _ _ h => h) (fun _ h => h.elim)
theorem RSI.away (h : RSI x lo D w bs f A n c R Q) (hd : ∀ g, D' g → D g ∨ w.heap.size ≤ g) : RSI x lo D' w bs f A n c R Q :=
  { h with
    ring := fun i hi => (h.ring i hi).away hd
    ty := ⟨h.ty.ty, fun g hg hd' => by
      rcases hd g hd' with e | e
      · exact h.ty.no g hg e
      · have := h.ty.lt g hg; omega⟩ }
theorem RRingD.hasT {b : Nat} {row : List Int} {nxt : Option Int} (h : RRingD D w b row nxt) : HasT w b 55 := by
  obtain ⟨f, hr⟩ := h.row55
  exact HasT.of_row hr
theorem RSI.onRing (h : RSI x lo D w bs f A n c R Q) {k : Nat} (hk : k < x.ps) {E : RM} (r : RRingD D w' (bs k) E.1 E.2) (m : Mod (· = bs k) w w') : RSI x lo D w' bs f A n c (upd R k E) Q := by
  have ht := (h.ring k hk).hasT
  have h3 : ∀ g, g = bs k → D g ∨ ¬ HasT w g 3 := fun g hg => .inr (fun h3 => by rw [hg] at h3; exact h3.ne ht (by decide) rfl)
  exact { h with
    row := m.rowIs h.row ((HasT.of_row h.row).ne ht (by decide))
    arr := m.rowIs h.arr ((HasT.of_row h.arr).ne ht (by decide))
    ring := fun i hi => by
      by_cases e : i = k
      · subst e
        rw [upd_same]
        exact r
      · rw [upd_ne _ _ e]
        exact (h.ring i hi).keep m (fun e2 => e (h.inj i k hi hk e2)) h3
    q := h.q.keep m (fun d hd e => by
      rcases h3 _ e with e2 | e2
      · exact h.ty.no d.block (by rw [hd]; rfl) e2
      · exact e2 (h.ty.ty d.block (by rw [hd]; rfl)))
    ty := h.ty.keep m (fun g hg e => by
      rcases h3 _ e with e2 | e2
      · exact h.ty.no g hg e2
      · exact e2 (h.ty.ty g hg)) }
theorem RSI.congr (h : RSI x lo D w bs f A n c R Q) (e : ∀ i, i < x.ps → R i = R' i) : RSI x lo D w bs f A n c R' Q := { h with ring := fun i hi => by rw [← e i hi]; exact h.ring i hi }
/-- The list in common is written. -/
theorem RSI.setQ (h : RSI x lo D w bs f A n c R Q) (hL : IsL w A2 n2 c2 Q2) (hT : TyD D w A2) : RSI x lo D (w.setCell ⟨x.s, 1, none⟩ (.slice A2 n2 c2)) bs f A2 n2 c2 R Q2 := by
  have m := set_mod w x.s 1 (.slice A2 n2 c2)
  have h3 : ∀ g, g = x.s → D g ∨ ¬ HasT w g 3 := fun g hg => .inr (fun h3 => by rw [hg] at h3; exact h3.ne (HasT.of_row h.row) (by decide) rfl)
  exact { h with
    row := (h.row.set 1 _).congr (fun i hi => by
      by_cases e : i = 0
      · subst e; rfl
      · have : i = 1 := by omega
        subst this; rfl)
    arr := m.rowIs h.arr ((HasT.of_row h.arr).ne (HasT.of_row h.row) (by decide))
    ring := fun i hi => (h.ring i hi).keep m (fun e => (h.ring i hi).hasT.ne (HasT.of_row h.row) (by decide) e) h3
    q := hL.set hT.ty h.row (by decide)
    ty := hT.set h.row (by decide) }
theorem RSI.mod_s (h : RSI x lo D w bs f A n c R Q) (v : Value) (k : Nat) : ModT lo w (w.setCell ⟨x.s, k, none⟩ v) := ModT.one (.inl rfl) (HasT.of_row h.row) h.ls (set_mod w x.s k v)
theorem RSI.mod_ring (h : RSI x lo D w bs f A n c R Q) {k : Nat} (hk : k < x.ps) (m : Mod (· = bs k) w w') : ModT lo w w' := ModT.one (.inr (.inr rfl)) (h.ring k hk).hasT (h.lb k hk) m
theorem RSI.c0 (h : RSI x lo D w bs f A n c R Q) : w.cell? ⟨x.s, 0, none⟩ = some (.slice (some ⟨x.g, 0, none⟩) x.ps x.c) := h.row.cell (by omega)
theorem RSI.c1 (h : RSI x lo D w bs f A n c R Q) : w.cell? ⟨x.s, 1, none⟩ = some (.slice A n c) := h.row.cell (by omega)
theorem RSI.cp (h : RSI x lo D w bs f A n c R Q) {i : Nat} (hi : i < x.ps) : w.cell? ⟨x.g, i, none⟩ = some (.pointer (some ⟨bs i, 0, none⟩)) := by
  rw [h.arr.cell (i := i) (by have := h.cap; omega), h.ptr i hi]
end

section
variable {x : RA} {lo : Nat} {D : Nat → Prop} {w w' : World} {R : Nat → RM} {Q : List Int}

set_option maxHeartbeats 1000000 in
set_option maxRecDepth 100000 in
theorem rs_globalI {bs : Nat → Nat} {f : Nat → Value} {A : Option Addr} {n c : Nat} (hD : ∀ g, D g → g < w.heap.size) (h : RSI x lo D w bs f A n c R Q) (A' : Option Addr) (n' c' : Nat) (l : List Int) (hl : IsL w A' n' c' l) (hb : Q.length + n' ≤ 800000) :
    Calls Try.prog 52 #[.pointer (some ⟨x.s, 0, none⟩), .slice A' n' c'] w fun e w' => e = .returned (.tuple #[]) ∧ (∃ A2 n2 c2, RSI x lo D w' bs f A2 n2 c2 R (Q ++ l)) ∧ ModT lo w w' := by
  have hc1 := h.c1
  have hblt := h.row.lt
  have hn : n + n' ≤ 800000 := by rw [← h.q.len]; exact hb
  clear hb
  have wo : ∃ wo, wo = w := ⟨_, rfl⟩
  go_enter Try.func52, Try.ntmps52
  have tok1 : True := trivial
  have tok2 : True := trivial
  go_wp2_with (first
    | (at_builtin; have _t := tok1; refine wpList_app _ rfl (.tmp 5) (.tmp 10) _ rfl Try.underlying27 int_info _ 0 0 [] rfl (OwnL.empty w) A n c _ rfl (h.q.alloc _) (by omega) ?_; intro B2 m2 d2 w2 hm1 hm2 hown2 hg2 hat2; have hM2 : Mod (fun _ => False) w w2 := ((Mod.refl _ w).alloc _).grown hg2 (fun k hk => .inr (blk_size w k hk)); have hf2 : ∀ d, blk B2 = some d → w.heap.size ≤ d := fresh_app (blk_size w) (Nat.le_refl _) hat2; clear _t tok1)
    | (at_builtin; have _t := tok2; refine wpList_app _ rfl (.tmp 11) (.tmp 12) _ rfl Try.underlying27 int_info B2 m2 d2 _ rfl hown2 A' n' c' l rfl (hl.keep0 hM2) (by omega) ?_; intro B3 m3 d3 w3 hm3 hm4 hown3 hg3 hat3; have hM3 : Mod (fun _ => False) w w3 := hM2.grown hg3 (fun k hk => .inr (hf2 k hk)); have k3 := (h.keep0 hM3).c1; have z3 := (h.keep0 hM3).row.frozen 1; have l3 := (h.keep0 hM3).row.lt; clear _t tok2))
  go_end0
  have hf3 : ∀ d, blk B3 = some d → w.heap.size ≤ d := fun d hd => by
    have := hM2.size
    rcases hat3 with e | e
    · exact hf2 d (by rw [← e]; exact hd)
    · rw [e] at hd; injection hd with hd; omega
  have h3 := h.keep0 hM3
  refine ⟨rfl, ⟨B3, m3, d3, h3.setQ (by simpa using hown3.isL) (hown3.tyD (fun g hg hd => by have h7 := hf3 g hg; have h8 := hD g hd; omega))⟩, (ModT.of0 hM3).trans (h3.mod_s _ 1)⟩
theorem rs_global (hD : ∀ g, D g → g < w.heap.size) (h : RSch x lo D w R Q) (A' : Option Addr) (n' c' : Nat) (l : List Int) (hl : IsL w A' n' c' l) (hb : Q.length + n' ≤ 800000) :
    Calls Try.prog 52 #[.pointer (some ⟨x.s, 0, none⟩), .slice A' n' c'] w fun e w' => e = .returned (.tuple #[]) ∧ RTo x lo D w w' R (Q ++ l) := by
  obtain ⟨bs, f, A, n, c, h⟩ := h
  exact (rs_globalI hD h A' n' c' l hl hb).mono fun _ _ ⟨he, ⟨A2, n2, c2, h2⟩, m⟩ => ⟨he, ⟨bs, f, A2, n2, c2, h2⟩, m⟩
end

end Go.Proofs.Ytgojfccaohngaaa
