/-
  Slices of elements of k cells: reading, one's own array, append.
-/
import Derived.Test.YtgojfccaohngaaaBase
namespace Go.Proofs.Ytgojfccaohngaaa
open Go.RowKit

def OwnG (w : World) (e : TypeId) (k : Nat) (A : Option Addr) (n c : Nat) (vs : List Value) : Prop := w.ownsRow 0 e k (.slice A n c) n vs
def RdG (w : World) (k : Nat) (A : Option Addr) (n : Nat) (vs : List Value) : Prop :=
  vs.length = n * k ∧ (∀ u ∈ vs, u.oneCell' = true) ∧ (0 < n → ∃ g o, A = some ⟨g, o, none⟩ ∧ g < w.heap.size ∧ ∀ j, j < n * k → w.cell? ⟨g, o + j, none⟩ = vs[j]?)
def TyG (w : World) (e : TypeId) (A : Option Addr) : Prop := ∀ g, blk A = some g → ∃ cur fr, w.heap[g]? = some (.cells cur e fr)

theorem TyG.keep {S : Nat → Prop} {w w' : World} {e : TypeId} {A : Option Addr} (h : TyG w e A) (m : Mod S w w') (hs : ∀ g, blk A = some g → ¬ S g) : TyG w' e A := by
  intro g hg
  obtain ⟨cur, fr, hh⟩ := h g hg
  refine ⟨cur, fr, ?_⟩
  rw [m.block g (lt_of_block hh) (hs g hg)]
  exact hh
theorem TyG.nil (w : World) (e : TypeId) : TyG w e none := fun _ h => by cases h
theorem TyG.ne {w : World} {e : TypeId} {A : Option Addr} (h : TyG w e A) {b : Nat} {t : TypeId} {n : Nat} {f : Nat → Value} (hr : w.rowIs b t n f) (ht : t ≠ e) : ∀ g, blk A = some g → ¬ g = b := by
  rintro g hg rfl
  obtain ⟨cur, fr, hh⟩ := h g hg
  obtain ⟨c, hc, _⟩ := hr
  rw [hh] at hc
  injection hc with hc
  injection hc with _ hc
  exact ht hc.symm

section
variable {w w' : World} {e : TypeId} {k : Nat} {A : Option Addr} {n c : Nat} {vs : List Value}
theorem RdG.nil (w : World) (k : Nat) : RdG w k none 0 [] := ⟨by simp, by simp, fun h => absurd h (by omega)⟩
theorem RdG.keep {S : Nat → Prop} (h : RdG w k A n vs) (m : Mod S w w') (hs : ∀ g, blk A = some g → g < w.heap.size → ¬ S g) : RdG w' k A n vs := by
  refine ⟨h.1, h.2.1, fun hn => ?_⟩
  obtain ⟨g, o, e, hg, hc⟩ := h.2.2 hn
  exact ⟨g, o, e, Nat.lt_of_lt_of_le hg m.size, fun j hj => (m.cell (p := ⟨g, o + j, none⟩) hg (hs g (by rw [e]; rfl) hg)).trans (hc j hj)⟩
theorem RdG.keep0 (h : RdG w k A n vs) (m : Mod (fun _ => False) w w') : RdG w' k A n vs := h.keep m (fun _ _ _ h => h)
theorem OwnG.nil (w : World) (e : TypeId) (k : Nat) : OwnG w e k none 0 0 [] := World.ownsRow_nil w 0 e k
theorem OwnG.empty (w : World) (e : TypeId) (k : Nat) : OwnG (w.alloc (.cells #[] e)) e k (some ⟨w.heap.size, 0, none⟩) 0 0 [] :=
  ⟨by simp, .inr ⟨w.heap.size, 0, #[], rfl, Nat.zero_le _, heap_alloc_new w _, Nat.le_refl _, Nat.zero_le _, by simp, by simp⟩⟩
theorem OwnG.ty (h : OwnG w e k A n c vs) : TyG w e A := by
  intro g hg
  rcases h.2 with ⟨hv, _⟩ | ⟨g', cap, cur, hv, _, hh, _⟩
  · injection hv with h1; subst h1; cases hg
  · injection hv with h1; subst h1
    have e : g' = g := by simpa [blk] using hg
    subst e
    exact ⟨cur, _, hh⟩
theorem OwnG.lt (h : OwnG w e k A n c vs) : ∀ g, blk A = some g → g < w.heap.size := by
  intro g hg
  obtain ⟨cur, fr, hh⟩ := h.ty g hg
  exact lt_of_block hh
theorem OwnG.keep {S : Nat → Prop} (h : OwnG w e k A n c vs) (m : Mod S w w') (hs : ∀ g, blk A = some g → ¬ S g) : OwnG w' e k A n c vs := by
  refine ⟨h.1, ?_⟩
  rcases h.2 with hn | ⟨g, cap, cur, hv, hb, hgg, rest⟩
  · exact .inl hn
  · refine .inr ⟨g, cap, cur, hv, hb, ?_, rest⟩
    injection hv with h1
    rw [m.block g (lt_of_block hgg) (hs g (by rw [h1]; rfl))]
    exact hgg
theorem OwnG.alloc (h : OwnG w e k A n c vs) (o : Obj) : OwnG (w.alloc o) e k A n c vs := h.keep ((Mod.refl (fun _ => False) w).alloc o) (fun _ _ h => h)
theorem RdG.alloc (h : RdG w k A n vs) (o : Obj) : RdG (w.alloc o) k A n vs := h.keep0 ((Mod.refl (fun _ => False) w).alloc o)
theorem OwnG.rd (h : OwnG w e k A n c vs) (h1 : ∀ u ∈ vs, u.oneCell' = true) : RdG w k A n vs := by
  refine ⟨h.1, h1, fun hn => ?_⟩
  rcases h.2 with ⟨_, h0⟩ | ⟨g, cap, cur, hv, _, hh, _, _, hs, ht⟩
  · omega
  · injection hv with h1
    refine ⟨g, 0, h1, lt_of_block hh, fun j hj => ?_⟩
    rw [Nat.zero_add, cell_of_row w g j cur e (0, 0) hh, ← ht, List.getElem?_take, if_pos hj]
    simp
theorem RdG.lit (w : World) (e k : Nat) (cs : Array Value) (n : Nat) (hn : cs.size = n * k) (h1 : ∀ u ∈ cs.toList, u.oneCell' = true) : RdG (w.alloc (.cells cs e)) k (some ⟨w.heap.size, 0, none⟩) n cs.toList := by
  refine ⟨by simpa using hn, h1, fun _ => ⟨w.heap.size, 0, rfl, by simp, fun j hj => ?_⟩⟩
  rw [Nat.zero_add, cell_of_row _ _ j cs e (0, 0) (heap_alloc_new w _)]
  simp
end

section
variable {P : Program}
theorem run_appG (w : World) (t ty e k : Nat) (z : Value) (by' : Nat) (ht : P.underlying t = some (.slice e)) (hinfo : (P.info? e).map (fun i => (i.zero, i.size, i.bytes)) = some (some z, k, by')) (hzs : z.cells.size = k) (hk : 0 < k) (hby : by' ≤ 1000)
    (A : Option Addr) (n c : Nat) (vs : List Value) (hown : OwnG w e k A n c vs) (A' : Option Addr) (n' c' : Nat) (vs' : List Value) (hr : RdG w k A' n' vs') (hb : n + n' ≤ 1000000) :
    ∃ A2 c2 w2, (Builtin.append_ #[t, t] ty #[.slice A n c, .slice A' n' c']).run P w = .ok (.slice A2 (n + n') c2) w2 ∧ OwnG w2 e k A2 (n + n') c2 (vs ++ vs') ∧ w.grownBy w2 (blk A) ∧
      (blk A2 = blk A ∨ blk A2 = some w.heap.size) := by
  obtain ⟨i, hi, hzz⟩ := Option.map_eq_some_iff.1 hinfo
  simp only [Prod.mk.injEq] at hzz
  obtain ⟨hz, hsz, hby2⟩ := hzz
  have hform : ∀ (v2 : Value) (w2 : World) (m : Nat), w2.ownsRow 0 e k v2 m (vs ++ vs') → ∃ A2 c2, v2 = Value.slice A2 m c2 := by
    intro v2 w2 m h
    rcases h.2 with ⟨hv, hn⟩ | ⟨g, cap, cur, hv, _⟩
    · exact ⟨none, 0, by rw [hv, hn]⟩
    · exact ⟨_, cap, hv⟩
  rcases A' with _ | ad
  · have hm : n' = 0 := by
      rcases Nat.eq_zero_or_pos n' with h0 | h0
      · exact h0
      · obtain ⟨g, o, h, _⟩ := hr.2.2 h0
        cases h
    subst hm
    obtain rfl : vs' = [] := List.eq_nil_of_length_eq_zero (by simpa using hr.1)
    refine ⟨A, c, w, ?_, by simpa using hown, World.grownBy.refl w _, .inl rfl⟩
    rcases hown.2 with ⟨hv, rfl⟩ | ⟨g, cap, cur, hv, _, _, hnc, _⟩
    · injection hv with h1 h2 h3
      subst h1; subst h3
      simp [Builtin.append_, run_underlying ht, sizeOf, typeInfo, hi, Builtin.lenOf, Builtin.firstCells]
    · injection hv with h1 h2 h3
      subst h1; subst h3
      simp [Builtin.append_, run_underlying ht, sizeOf, typeInfo, hi, Builtin.lenOf, Builtin.firstCells, hnc, storeCells]
  · have hcells : ∀ j u, vs'[j]? = some u → w.cell? (ad.add j) = some u := by
      intro j u hu
      have hj : j < vs'.length := (List.getElem?_eq_some_iff.1 hu).1
      rw [hr.1] at hj
      have hn : 0 < n' := Nat.pos_of_ne_zero (fun h => by subst h; omega)
      obtain ⟨g, o, he, _, hc⟩ := hr.2.2 hn
      injection he with he
      subst he
      have h2 := hc j hj
      rw [hu] at h2
      rw [Go.WideShapes.add_plain]
      exact h2
    obtain ⟨v', w', hrun, h2, h3, _, h5⟩ := run_append_own_at (P := P) w 0 t ty e i z k by' ht hi hz hsz hby2 hzs hk (.slice A n c) n vs hown ad n' c' vs'
      hr.1 hcells hr.2.1 (by simp only [maxLen]; omega) (by
        have h1 : (n + n') * by' ≤ 1000000 * 1000 := Nat.mul_le_mul hb hby
        omega) (Nat.zero_le _)
    obtain ⟨A2, c2, rfl⟩ := hform v' w' _ h2
    rw [ownBlock_slice] at h3
    rw [ownBlock_slice, ownBlock_slice] at h5
    exact ⟨A2, c2, w', hrun, h2, h3, h5⟩

theorem wp_appG (w : World) {o : Oper} {a : Act} {K : Act → World → Prop} {Q : Exit → Act → World → Prop} (s x : Operand) (t e k : Nat) (z : Value) (by' : Nat)
    (ho : o.op = .call { callee := .builtin .append, args := #[s, x], argTypes := #[t, t] })
    (ht : P.underlying t = some (.slice e)) (hinfo : (P.info? e).map (fun i => (i.zero, i.size, i.bytes)) = some (some z, k, by')) (hzs : z.cells.size = k) (hk : 0 < k) (hby : by' ≤ 1000)
    (A : Option Addr) (n c : Nat) (l : List Value) (hs : a.eval s = .slice A n c) (hown : OwnG w e k A n c l) (A' : Option Addr) (n' c' : Nat) (l' : List Value) (hx : a.eval x = .slice A' n' c') (hr : RdG w k A' n' l')
    (hb : n + n' ≤ 1000000)
    (h : ∀ A2 n2 c2 w2, n2 ≤ n + n' → n + n' ≤ n2 → OwnG w2 e k A2 n2 c2 (l ++ l') → w.grownBy w2 (blk A) → (blk A2 = blk A ∨ blk A2 = some w.heap.size) → K (a.put o.dst (.slice A2 n2 c2)) w2) : o.wp P a w K Q := by
  obtain ⟨A2, c2, w2, hrun, h2, h3, h4⟩ := run_appG (P := P) w t o.type e k z by' ht hinfo hzs hk hby A n c l hown A' n' c' l' hr hb
  unfold Oper.wp execOp
  simp only [ho, resolve, invoke, builtin, Sem.run_bind, Sem.run_pure, Result.andThen_ok, List.map_toArray, List.map_cons, List.map_nil, hs, hx, hrun]
  exact h A2 _ c2 w2 (Nat.le_refl _) (Nat.le_refl _) h2 h3 h4

/-- append, at the operation. -/
theorem wpList_appG (w : World) {ops : Array Oper} {rest : List Oper} {o : Oper} {a : Act} {Q : Exit → Act → World → Prop} (hgd : o.guard = none) (s x : Operand) (t e k : Nat) (z : Value) (by' : Nat)
    (ho : o.op = .call { callee := .builtin .append, args := #[s, x], argTypes := #[t, t] })
    (ht : P.underlying t = some (.slice e)) (hinfo : (P.info? e).map (fun i => (i.zero, i.size, i.bytes)) = some (some z, k, by')) (hzs : z.cells.size = k) (hk : 0 < k) (hby : by' ≤ 1000)
    (A : Option Addr) (n c : Nat) (l : List Value) (hs : a.eval s = .slice A n c) (hown : OwnG w e k A n c l) (A' : Option Addr) (n' c' : Nat) (l' : List Value) (hx : a.eval x = .slice A' n' c') (hr : RdG w k A' n' l')
    (hb : n + n' ≤ 1000000)
    (h : ∀ A2 n2 c2 w2, n2 ≤ n + n' → n + n' ≤ n2 → OwnG w2 e k A2 n2 c2 (l ++ l') → w.grownBy w2 (blk A) → (blk A2 = blk A ∨ blk A2 = some w.heap.size) → wpList P ops Q rest (a.put o.dst (.slice A2 n2 c2)) w2) :
    wpList P ops Q (o :: rest) a w :=
  wpList_plain hgd fun _ hK => wp_appG w s x t e k z by' ho ht hinfo hzs hk hby A n c l hs hown A' n' c' l' hx hr hb fun A2 n2 c2 w2 h1 h2 h3 h4 h5 => hK _ _ (h A2 n2 c2 w2 h1 h2 h3 h4 h5)

theorem step_appG (w : World) {ops : Array Oper} {o : Oper} {a : Act} {K : Act → World → Prop} {Q : Exit → Act → World → Prop} {E : Prop} (hgd : o.guard = none) (s x : Operand) (t e k : Nat) (z : Value) (by' : Nat)
    (ho : o.op = .call { callee := .builtin .append, args := #[s, x], argTypes := #[t, t] })
    (ht : P.underlying t = some (.slice e)) (hinfo : (P.info? e).map (fun i => (i.zero, i.size, i.bytes)) = some (some z, k, by')) (hzs : z.cells.size = k) (hk : 0 < k) (hby : by' ≤ 1000)
    (A : Option Addr) (n c : Nat) (l : List Value) (hs : a.eval s = .slice A n c) (hown : OwnG w e k A n c l) (A' : Option Addr) (n' c' : Nat) (l' : List Value) (hx : a.eval x = .slice A' n' c') (hr : RdG w k A' n' l')
    (hb : n + n' ≤ 1000000)
    (h : ∀ A2 n2 c2 w2, n2 ≤ n + n' → n + n' ≤ n2 → OwnG w2 e k A2 n2 c2 (l ++ l') → w.grownBy w2 (blk A) → (blk A2 = blk A ∨ blk A2 = some w.heap.size) → K (a.put o.dst (.slice A2 n2 c2)) w2) :
    if Region.wanted o (yielded ops a.tmps) = true then Oper.wp P o a w K Q else E := by
  have hw : Region.wanted o (yielded ops a.tmps) = true := by simp [Region.wanted, hgd]
  rw [if_pos hw]
  exact wp_appG w s x t e k z by' ho ht hinfo hzs hk hby A n c l hs hown A' n' c' l' hx hr hb h
end

end Go.Proofs.Ytgojfccaohngaaa
