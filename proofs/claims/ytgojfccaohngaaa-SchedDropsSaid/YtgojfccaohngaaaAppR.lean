/-
  append of a slice of which, if it is empty, nothing more is known.
-/
import Derived.Test.YtgojfccaohngaaaBase
namespace Go.Proofs.Ytgojfccaohngaaa
open Go.RowKit

/-- The slice value '.slice A n c' reads as the list l; of an empty one nothing more is asked. -/
def RdL (w : World) (A : Option Addr) (n c : Nat) (l : List Int) : Prop := l.length = n ∧ (0 < n → IsL w A n c l)
theorem RdL.keep0 {w w' : World} {A : Option Addr} {n c : Nat} {l : List Int} (h : RdL w A n c l) (m : Mod (fun _ => False) w w') : RdL w' A n c l := ⟨h.1, fun hn => (h.2 hn).keep0 m⟩
theorem RdL.alloc {w : World} {A : Option Addr} {n c : Nat} {l : List Int} (h : RdL w A n c l) (o : Obj) : RdL (w.alloc o) A n c l := h.keep0 ((Mod.refl (fun _ => False) w).alloc o)
theorem IsL.rdL {w : World} {A : Option Addr} {n c : Nat} {l : List Int} (h : IsL w A n c l) : RdL w A n c l := ⟨h.len, fun _ => h⟩
section
variable {P : Program}
theorem run_appR (w : World) (t ty : TypeId) (ht : P.underlying t = some (.slice 3)) (hinfo : (P.info? 3).map (fun i => (i.zero, i.size, i.bytes)) = some (some (.int .i64 0), 1, 8))
    (A : Option Addr) (n c : Nat) (l : List Int) (hown : OwnL w A n c l) (A' : Option Addr) (n' c' : Nat) (l' : List Int) (hr : RdL w A' n' c' l') (hb : n + n' ≤ 1000000) :
    ∃ A2 c2 w2, (Builtin.append_ #[t, t] ty #[.slice A n c, .slice A' n' c']).run P w = .ok (.slice A2 (n + n') c2) w2 ∧ OwnL w2 A2 (n + n') c2 (l ++ l') ∧ w.grownBy w2 (blk A) ∧
      (blk A2 = blk A ∨ blk A2 = some w.heap.size) := by
  obtain ⟨i, hi, hzz⟩ := Option.map_eq_some_iff.1 hinfo
  simp only [Prod.mk.injEq] at hzz
  obtain ⟨hz, hsz, hby⟩ := hzz
  have hform : ∀ (v2 : Value) (w2 : World) (m : Nat), w2.ownsRow 0 3 1 v2 m ((l ++ l').map (Value.int .i64)) → ∃ A2 c2, v2 = Value.slice A2 m c2 := by
    intro v2 w2 m h
    rcases h.2 with ⟨hv, hn⟩ | ⟨g, cap, cur, hv, _⟩
    · exact ⟨none, 0, by rw [hv, hn]⟩
    · exact ⟨_, cap, hv⟩
  rcases A' with _ | ad
  · have hm : n' = 0 := by
      rcases Nat.eq_zero_or_pos n' with h0 | h0
      · exact h0
      · obtain ⟨g, o, h, _⟩ := (hr.2 h0).2.2.2.2 h0
        cases h
    subst hm
    obtain rfl : l' = [] := List.eq_nil_of_length_eq_zero hr.1
    refine ⟨A, c, w, ?_, by simpa using hown, World.grownBy.refl w _, .inl rfl⟩
    rcases hown.2 with ⟨hv, rfl⟩ | ⟨g, cap, cur, hv, _, _, hnc, _⟩
    · injection hv with h1 h2 h3
      subst h1; subst h3
      simp [Builtin.append_, run_underlying ht, sizeOf, typeInfo, hi, Builtin.lenOf, Builtin.firstCells]
    · injection hv with h1 h2 h3
      subst h1; subst h3
      simp [Builtin.append_, run_underlying ht, sizeOf, typeInfo, hi, Builtin.lenOf, Builtin.firstCells, hnc, storeCells]
  · have hcells : ∀ j u, (l'.map (Value.int .i64))[j]? = some u → w.cell? (ad.add j) = some u := by
      intro j u hu
      rw [List.getElem?_map] at hu
      obtain ⟨x, hx, rfl⟩ := Option.map_eq_some_iff.1 hu
      have hjn : j < n' := by rw [← hr.1]; exact (List.getElem?_eq_some_iff.1 hx).1
      obtain ⟨g, o, he, hc⟩ := (hr.2 (by omega)).at_ hjn
      injection he with he
      subst he
      rw [List.getD_eq_getElem?_getD, hx] at hc
      by_cases h0 : j = 0
      · subst h0; simpa [Addr.add] using hc
      · simpa [Addr.add, h0] using hc
    obtain ⟨v', w', hrun, h2, h3, _, h5⟩ := run_append_own_at (P := P) w 0 t ty 3 i (.int .i64 0) 1 8 ht hi hz hsz hby rfl (by decide) (.slice A n c) n (l.map (.int .i64)) hown ad n' c' (l'.map (.int .i64))
      (by simpa using hr.1) hcells (fun u hu => by obtain ⟨x, _, rfl⟩ := List.mem_map.1 hu; rfl) (by simp only [maxLen]; omega) (by omega) (Nat.zero_le _)
    rw [← List.map_append] at h2
    obtain ⟨A2, c2, rfl⟩ := hform v' w' _ h2
    rw [ownBlock_slice] at h3
    rw [ownBlock_slice, ownBlock_slice] at h5
    exact ⟨A2, c2, w', hrun, h2, h3, h5⟩

theorem wp_appR (w : World) {o : Oper} {a : Act} {K : Act → World → Prop} {Q : Exit → Act → World → Prop} (s x : Operand) (t : TypeId)
    (ho : o.op = .call { callee := .builtin .append, args := #[s, x], argTypes := #[t, t] })
    (ht : P.underlying t = some (.slice 3)) (hinfo : (P.info? 3).map (fun i => (i.zero, i.size, i.bytes)) = some (some (.int .i64 0), 1, 8))
    (A : Option Addr) (n c : Nat) (l : List Int) (hs : a.eval s = .slice A n c) (hown : OwnL w A n c l) (A' : Option Addr) (n' c' : Nat) (l' : List Int) (hx : a.eval x = .slice A' n' c') (hr : RdL w A' n' c' l')
    (hb : n + n' ≤ 1000000)
    (h : ∀ A2 n2 c2 w2, n2 ≤ n + n' → n + n' ≤ n2 → OwnL w2 A2 n2 c2 (l ++ l') → w.grownBy w2 (blk A) → (blk A2 = blk A ∨ blk A2 = some w.heap.size) → K (a.put o.dst (.slice A2 n2 c2)) w2) : o.wp P a w K Q := by
  obtain ⟨A2, c2, w2, hrun, h2, h3, h4⟩ := run_appR (P := P) w t o.type ht hinfo A n c l hown A' n' c' l' hr hb
  unfold Oper.wp execOp
  simp only [ho, resolve, invoke, builtin, Sem.run_bind, Sem.run_pure, Result.andThen_ok, List.map_toArray, List.map_cons, List.map_nil, hs, hx, hrun]
  exact h A2 _ c2 w2 (Nat.le_refl _) (Nat.le_refl _) h2 h3 h4

/-- append, at the operation. -/
theorem wpList_appR (w : World) {ops : Array Oper} {rest : List Oper} {o : Oper} {a : Act} {Q : Exit → Act → World → Prop} (hgd : o.guard = none) (s x : Operand) (t : TypeId)
    (ho : o.op = .call { callee := .builtin .append, args := #[s, x], argTypes := #[t, t] })
    (ht : P.underlying t = some (.slice 3)) (hinfo : (P.info? 3).map (fun i => (i.zero, i.size, i.bytes)) = some (some (.int .i64 0), 1, 8))
    (A : Option Addr) (n c : Nat) (l : List Int) (hs : a.eval s = .slice A n c) (hown : OwnL w A n c l) (A' : Option Addr) (n' c' : Nat) (l' : List Int) (hx : a.eval x = .slice A' n' c') (hr : RdL w A' n' c' l')
    (hb : n + n' ≤ 1000000)
    (h : ∀ A2 n2 c2 w2, n2 ≤ n + n' → n + n' ≤ n2 → OwnL w2 A2 n2 c2 (l ++ l') → w.grownBy w2 (blk A) → (blk A2 = blk A ∨ blk A2 = some w.heap.size) → wpList P ops Q rest (a.put o.dst (.slice A2 n2 c2)) w2) :
    wpList P ops Q (o :: rest) a w :=
  wpList_plain hgd fun _ hK => wp_appR w s x t ho ht hinfo A n c l hs hown A' n' c' l' hx hr hb fun A2 n2 c2 w2 h1 h2 h3 h4 h5 => hK _ _ (h A2 n2 c2 w2 h1 h2 h3 h4 h5)

theorem step_appR (w : World) {ops : Array Oper} {o : Oper} {a : Act} {K : Act → World → Prop} {Q : Exit → Act → World → Prop} {E : Prop} (hgd : o.guard = none) (s x : Operand) (t : TypeId)
    (ho : o.op = .call { callee := .builtin .append, args := #[s, x], argTypes := #[t, t] })
    (ht : P.underlying t = some (.slice 3)) (hinfo : (P.info? 3).map (fun i => (i.zero, i.size, i.bytes)) = some (some (.int .i64 0), 1, 8))
    (A : Option Addr) (n c : Nat) (l : List Int) (hs : a.eval s = .slice A n c) (hown : OwnL w A n c l) (A' : Option Addr) (n' c' : Nat) (l' : List Int) (hx : a.eval x = .slice A' n' c') (hr : RdL w A' n' c' l')
    (hb : n + n' ≤ 1000000)
    (h : ∀ A2 n2 c2 w2, n2 ≤ n + n' → n + n' ≤ n2 → OwnL w2 A2 n2 c2 (l ++ l') → w.grownBy w2 (blk A) → (blk A2 = blk A ∨ blk A2 = some w.heap.size) → K (a.put o.dst (.slice A2 n2 c2)) w2) :
    if Region.wanted o (yielded ops a.tmps) = true then Oper.wp P o a w K Q else E := by
  have hw : Region.wanted o (yielded ops a.tmps) = true := by simp [Region.wanted, hgd]
  rw [if_pos hw]
  exact wp_appR w s x t ho ht hinfo A n c l hs hown A' n' c' l' hx hr hb h
end

end Go.Proofs.Ytgojfccaohngaaa
