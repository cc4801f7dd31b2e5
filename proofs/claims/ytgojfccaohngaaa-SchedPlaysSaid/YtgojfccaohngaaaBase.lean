/-
  Words and small lemmas on memory that all walks of this seat use: what a call may change (Mod), slices of int that read as a list (IsL), slices that the call owns (OwnL), append.
-/
import Derived.WalkKit
import Derived.WalkSpells
import Derived.WalkLawsBesides
import Derived.Deep.OwnRows
import Derived.Deep.AppendLies
import Derived.Deep.Draws
import Derived.Maps.AppendAt
import Derived.Lib.Hide
import Derived.Deep.QuietTactic
import Derived.BigQuiet
namespace Go.Proofs.Ytgojfccaohngaaa
open Go.RowKit

/-- Of the blocks that were there, those of S alone may have changed. -/
structure Mod (S : Nat → Prop) (w w' : World) : Prop where
  os : w'.os = w.os
  tape : w'.tape = w.tape
  output : w'.output = w.output
  size : w.heap.size ≤ w'.heap.size
  block : ∀ k, k < w.heap.size → ¬ S k → w'.heap[k]? = w.heap[k]?

section
variable {S T : Nat → Prop} {a b c w w' : World}
theorem Mod.refl (S : Nat → Prop) (w : World) : Mod S w w := ⟨rfl, rfl, rfl, Nat.le_refl _, fun _ _ _ => rfl⟩
theorem Mod.trans' (h : Mod S a b) (k : Mod T b c) (hT : ∀ i, i < a.heap.size → T i → S i) : Mod S a c :=
  ⟨k.os.trans h.os, k.tape.trans h.tape, k.output.trans h.output, Nat.le_trans h.size k.size,
    fun i hi hs => (k.block i (Nat.lt_of_lt_of_le hi h.size) (fun ht => hs (hT i hi ht))).trans (h.block i hi hs)⟩
theorem Mod.trans (h : Mod S a b) (k : Mod S b c) : Mod S a c := h.trans' k (fun _ _ h => h)
theorem Mod.mono (h : Mod S a b) (hT : ∀ i, i < a.heap.size → S i → T i) : Mod T a b :=
  ⟨h.os, h.tape, h.output, h.size, fun i hi hs => h.block i hi (fun ht => hs (hT i hi ht))⟩
theorem Mod.drewN (h : Mod S a w) (n : Nat) : Mod S a (w.drewN n) := ⟨h.os, h.tape, h.output, h.size, h.block⟩
theorem Mod.drew (h : Mod S a w) : Mod S a w.drew := ⟨h.os, h.tape, h.output, h.size, h.block⟩
theorem Mod.alloc (h : Mod S a w) (o : Obj) : Mod S a (w.alloc o) :=
  ⟨h.os, h.tape, h.output, Nat.le_trans h.size (by simp), fun i hi hs => (Below.heap_alloc w o i (Nat.lt_of_lt_of_le hi h.size)).trans (h.block i hi hs)⟩
theorem Mod.setCell (h : Mod S a w) {p : Addr} (hp : S p.block ∨ a.heap.size ≤ p.block) (u : Value) : Mod S a (w.setCell p u) :=
  ⟨h.os, h.tape, h.output, by simpa [World.setCell] using h.size, fun i hi hs => (Below.heap_setCell w p u i (by
    rintro rfl
    rcases hp with hp | hp
    · exact hs hp
    · omega)).trans (h.block i hi hs)⟩
theorem Mod.grown (h : Mod S a w) {row : Option Nat} (hg : w.grownBy w' row) (hr : ∀ k, row = some k → S k ∨ a.heap.size ≤ k) : Mod S a w' :=
  ⟨hg.os.trans h.os, hg.tape.trans h.tape, hg.output.trans h.output, Nat.le_trans h.size hg.size, fun i hi hs =>
    (hg.block i (Nat.lt_of_lt_of_le hi h.size) (fun e => by
      rcases hr i e.symm with h1 | h1
      · exact hs h1
      · omega)).trans (h.block i hi hs)⟩
theorem Mod.below {B : Nat} (h : Mod S a b) (hB : B ≤ a.heap.size) (hS : ∀ k, S k → B ≤ k) : Below B a b :=
  ⟨h.os, h.tape, h.output, h.size, fun k hk => h.block k (by omega) (fun hs => by have := hS k hs; omega)⟩
theorem Mod.cell (h : Mod S w w') {p : Addr} (hp : p.block < w.heap.size) (hs : ¬ S p.block) : w'.cell? p = w.cell? p := World.cell?_of_block (w := w) (h.block p.block hp hs)
theorem Mod.frozen (h : Mod S w w') {p : Addr} (hp : p.block < w.heap.size) (hs : ¬ S p.block) : w'.frozen? p = w.frozen? p := World.frozen?_of_block (w := w) (h.block p.block hp hs)
theorem Mod.rowIs (h : Mod S w w') {g : Nat} {t : TypeId} {n : Nat} {f : Nat → Value} (hr : w.rowIs g t n f) (hs : ¬ S g) : w'.rowIs g t n f := hr.of_block (h.block g hr.lt hs)
end

theorem Mod.new {S : Nat → Prop} {a b c : World} (h : Mod (fun _ => False) a b) (k : Mod S b c) (hS : ∀ i, S i → a.heap.size ≤ i) : Mod (fun _ => False) a c :=
  h.trans' k (fun i hi hs => by have := hS i hs; omega)

/-- The slice value '.slice A n c' reads as the list l. -/
def IsL (w : World) (A : Option Addr) (n c : Nat) (l : List Int) : Prop :=
  l.length = n ∧ n ≤ c ∧ c ≤ maxLen ∧ (∀ d, A = some d → d.block < w.heap.size) ∧
    (0 < n → ∃ g o, A = some ⟨g, o, none⟩ ∧ ∀ j, j < n → w.cell? ⟨g, o + j, none⟩ = some (.int .i64 (l.getD j 0)))

section
variable {S : Nat → Prop} {w w' : World} {A : Option Addr} {n c : Nat} {l : List Int}
theorem IsL.len (h : IsL w A n c l) : l.length = n := h.1
theorem IsL.le (h : IsL w A n c l) : n ≤ c := h.2.1
theorem IsL.cap (h : IsL w A n c l) : c ≤ maxLen := h.2.2.1
theorem IsL.lt (h : IsL w A n c l) : ∀ d, A = some d → d.block < w.heap.size := h.2.2.2.1
theorem IsL.nil (w : World) : IsL w none 0 0 [] := ⟨rfl, Nat.le_refl _, Nat.zero_le _, (fun _ h => by cases h), fun h => absurd h (by omega)⟩
theorem IsL.at_ (h : IsL w A n c l) {k : Nat} (hk : k < n) : ∃ g o, A = some ⟨g, o, none⟩ ∧ w.cell? ⟨g, o + k, none⟩ = some (.int .i64 (l.getD k 0)) := by
  obtain ⟨g, o, e, hc⟩ := h.2.2.2.2 (by omega)
  exact ⟨g, o, e, hc k hk⟩
theorem IsL.keep (h : IsL w A n c l) (m : Mod S w w') (hs : ∀ d, A = some d → ¬ S d.block) : IsL w' A n c l := by
  obtain ⟨h1, h2, h3, h4, h5⟩ := h
  refine ⟨h1, h2, h3, fun d hd => Nat.lt_of_lt_of_le (h4 d hd) m.size, fun hn => ?_⟩
  obtain ⟨g, o, e, hc⟩ := h5 hn
  refine ⟨g, o, e, fun j hj => ?_⟩
  exact (m.cell (p := ⟨g, o + j, none⟩) (h4 ⟨g, o, none⟩ e) (hs ⟨g, o, none⟩ e)).trans (hc j hj)
theorem IsL.keep0 (h : IsL w A n c l) (m : Mod (fun _ => False) w w') : IsL w' A n c l := h.keep m (fun _ _ h => h)
theorem IsL.take (h : IsL w A n c l) {k : Nat} (hk : k ≤ n) : IsL w A k c (l.take k) := by
  obtain ⟨h1, h2, h3, h4, h5⟩ := h
  refine ⟨by rw [List.length_take]; omega, by omega, h3, h4, fun hn => ?_⟩
  obtain ⟨g, o, e, hc⟩ := h5 (by omega)
  refine ⟨g, o, e, fun j hj => ?_⟩
  rw [hc j (by omega), List.getD_eq_getElem?_getD, List.getD_eq_getElem?_getD, List.getElem?_take, if_pos hj]
theorem IsL.drop (h : IsL w A n c l) {k : Nat} (hk : k ≤ n) : IsL w (if c = k then A else A.map (·.add k)) (n - k) (c - k) (l.drop k) := by
  obtain ⟨h1, h2, h3, h4, h5⟩ := h
  refine ⟨by rw [List.length_drop]; omega, by omega, by omega, fun d hd => ?_, fun hn => ?_⟩
  · split at hd
    · exact h4 d hd
    · obtain ⟨d', hd', rfl⟩ := Option.map_eq_some_iff.1 hd
      have := h4 d' hd'
      unfold Addr.add; split <;> exact this
  · obtain ⟨g, o, e, hc⟩ := h5 (by omega)
    rw [if_neg (by omega), e]
    by_cases h0 : k = 0
    · subst h0
      exact ⟨g, o, rfl, fun j hj => by simpa using hc j (by omega)⟩
    · refine ⟨g, o + k, by simp [Addr.add, h0], fun j hj => ?_⟩
      rw [Nat.add_assoc, hc (k + j) (by omega), List.getD_eq_getElem?_getD, List.getD_eq_getElem?_getD, List.getElem?_drop]
theorem IsL.one (w : World) (x : Int) : IsL (w.alloc (.cells #[.int .i64 x] 3)) (some ⟨w.heap.size, 0, none⟩) 1 1 [x] := by
  refine ⟨rfl, Nat.le_refl _, by simp [maxLen], (fun d hd => by cases hd; simp), fun _ => ⟨w.heap.size, 0, rfl, fun j hj => ?_⟩⟩
  obtain rfl : j = 0 := by omega
  simp
end

/-- The slice value '.slice A n c' reads as the list l, and its array is the call's own: nobody else writes there. -/
def OwnL (w : World) (A : Option Addr) (n c : Nat) (l : List Int) : Prop := w.ownsRow 0 3 1 (.slice A n c) n (l.map (Value.int .i64))

def blk (A : Option Addr) : Option Nat := A.map (·.block)

section
variable {S : Nat → Prop} {w w' : World} {A : Option Addr} {n c : Nat} {l : List Int}
theorem ownBlock_slice (A : Option Addr) (n c : Nat) : (Value.slice A n c).ownBlock = blk A := by cases A <;> rfl
theorem OwnL.nil (w : World) : OwnL w none 0 0 [] := World.ownsRow_nil w 0 3 1
theorem OwnL.empty (w : World) : OwnL (w.alloc (.cells #[] 3)) (some ⟨w.heap.size, 0, none⟩) 0 0 [] := by
  refine ⟨rfl, .inr ⟨w.heap.size, 0, #[], rfl, Nat.zero_le _, heap_alloc_new w _, Nat.le_refl _, Nat.zero_le _, rfl, rfl⟩⟩
theorem OwnL.one (w : World) (x : Int) : OwnL (w.alloc (.cells #[.int .i64 x] 3)) (some ⟨w.heap.size, 0, none⟩) 1 1 [x] :=
  ⟨rfl, .inr ⟨w.heap.size, 1, #[.int .i64 x], rfl, Nat.zero_le _, heap_alloc_new w _, Nat.le_refl _, by simp [maxLen], rfl, rfl⟩⟩
theorem OwnL.isL (h : OwnL w A n c l) : IsL w A n c l := by
  have hl : l.length = n := by simpa using h.1
  rcases h.2 with ⟨hv, hn⟩ | ⟨g, cap, cur, hv, _, hg, hnc, hcm, hsz, ht⟩
  · injection hv with h1 h2 h3
    subst h1; subst h2; subst h3
    obtain rfl : l = [] := List.eq_nil_of_length_eq_zero hl
    exact IsL.nil w
  · injection hv with h1 h2 h3
    subst h1; subst h3
    have hlt : g < w.heap.size := by
      obtain ⟨hlt, _⟩ := Array.getElem?_eq_some_iff.1 hg
      exact hlt
    refine ⟨hl, hnc, hcm, (fun d hd => by cases hd; exact hlt), fun hn => ⟨g, 0, rfl, fun j hj => ?_⟩⟩
    have := h.cells (g := g) rfl j (.int .i64 (l.getD j 0)) (by
      rw [List.getElem?_map, List.getD_eq_getElem?_getD, List.getElem?_eq_getElem (by omega)]; rfl)
    rw [Nat.zero_add]
    by_cases h0 : j = 0
    · subst h0; simpa [Addr.add] using this
    · simpa [Addr.add, h0] using this
theorem OwnL.len (h : OwnL w A n c l) : l.length = n := h.isL.len
theorem OwnL.lt (h : OwnL w A n c l) : ∀ k, blk A = some k → k < w.heap.size := by
  intro k hk
  obtain ⟨d, hd, rfl⟩ := Option.map_eq_some_iff.1 hk
  exact h.isL.lt d hd
theorem OwnL.keep (h : OwnL w A n c l) (m : Mod S w w') (hs : ∀ k, blk A = some k → ¬ S k) : OwnL w' A n c l := by
  refine ⟨h.1, ?_⟩
  rcases h.2 with hn | ⟨g, cap, cur, hv, hb, hgg, rest⟩
  · exact .inl hn
  · refine .inr ⟨g, cap, cur, hv, hb, ?_, rest⟩
    rw [m.block g (Array.getElem?_eq_some_iff.1 hgg).1 (hs g (by injection hv with h1; subst h1; rfl))]
    exact hgg
theorem OwnL.keep0 (h : OwnL w A n c l) (m : Mod (fun _ => False) w w') : OwnL w' A n c l := h.keep m (fun _ _ h => h)
theorem OwnL.alloc (h : OwnL w A n c l) (o : Obj) : OwnL (w.alloc o) A n c l := h.keep ((Mod.refl (fun _ => False) w).alloc o) (fun _ _ h => h)
theorem IsL.lit (w : World) (l : List Int) (cs : Array Value) (hcs : cs = (l.map (Value.int .i64)).toArray) (n : Nat) (hn : n = l.length) (hm : n ≤ 1000000) : IsL (w.alloc (.cells cs 3)) (some ⟨w.heap.size, 0, none⟩) n n l := by
  subst hcs
  subst hn
  refine ⟨rfl, Nat.le_refl _, by simp only [maxLen]; omega, (fun d hd => by cases hd; simp), fun _ => ⟨w.heap.size, 0, rfl, fun j hj => ?_⟩⟩
  rw [cell_of_row _ w.heap.size (0 + j) (l.map (Value.int .i64)).toArray 3 (0, 0) (heap_alloc_new w _)]
  simp [hj]
theorem IsL.alloc (h : IsL w A n c l) (o : Obj) : IsL (w.alloc o) A n c l := h.keep ((Mod.refl (fun _ => False) w).alloc o) (fun _ _ h => h)
theorem OwnL.ne_row (h : OwnL w A n c l) {g : Nat} {t : TypeId} {m : Nat} {f : Nat → Value} (hr : w.rowIs g t m f) (ht : t ≠ 3) : blk A ≠ some g := by
  rcases h.2 with ⟨hv, _⟩ | ⟨g', cap, cur, hv, _, hg, _⟩
  · injection hv with h1; subst h1; simp [blk]
  · injection hv with h1; subst h1
    rintro he
    have e : g' = g := by simpa [blk] using he
    subst e
    obtain ⟨cc, hcc, _⟩ := hr
    rw [hg] at hcc
    injection hcc with hcc
    injection hcc with _ hcc
    exact ht hcc.symm
end

section
variable {P : Program}
theorem run_app (w : World) (t ty : TypeId) (ht : P.underlying t = some (.slice 3)) (hinfo : (P.info? 3).map (fun i => (i.zero, i.size, i.bytes)) = some (some (.int .i64 0), 1, 8))
    (A : Option Addr) (n c : Nat) (l : List Int) (hown : OwnL w A n c l) (A' : Option Addr) (n' c' : Nat) (l' : List Int) (hr : IsL w A' n' c' l') (hb : n + n' ≤ 1000000) :
    ∃ A2 c2 w2, (Builtin.append_ #[t, t] ty #[.slice A n c, .slice A' n' c']).run P w = .ok (.slice A2 (n + n') c2) w2 ∧ OwnL w2 A2 (n + n') c2 (l ++ l') ∧ w.grownBy w2 (blk A) ∧
      (blk A2 = blk A ∨ blk A2 = some w.heap.size) := by
  obtain ⟨i, hi, hzz⟩ := Option.map_eq_some_iff.1 hinfo
  simp only [Prod.mk.injEq] at hzz
  obtain ⟨hz, hsz, hby⟩ := hzz
  have hform : ∀ (v2 : Value) (w2 : World) (m : Nat), w2.ownsRow 0 3 1 v2 m ((l ++ l').map (Value.int .i64)) → ∃ A2 c2, v2 = Value.slice A2 m c2 := by
    intro v2 w2 m h
    rcases h.2 with ⟨hv, hn⟩ | ⟨g, cap, cur, hv, _⟩
    · exact ⟨none, 0, by rw [hv, hn]⟩
    · exact ⟨_, cap, hv⟩
  rcases A' with _ | ad
  · have hm : n' = 0 := by
      rcases Nat.eq_zero_or_pos n' with h0 | h0
      · exact h0
      · obtain ⟨g, o, h, _⟩ := hr.2.2.2.2 h0
        cases h
    subst hm
    obtain rfl : l' = [] := List.eq_nil_of_length_eq_zero hr.1
    refine ⟨A, c, w, ?_, by simpa using hown, World.grownBy.refl w _, .inl rfl⟩
    rcases hown.2 with ⟨hv, rfl⟩ | ⟨g, cap, cur, hv, _, _, hnc, _⟩
    · injection hv with h1 h2 h3
      subst h1; subst h3
      simp [Builtin.append_, run_underlying ht, sizeOf, typeInfo, hi, Builtin.lenOf, Builtin.firstCells]
    · injection hv with h1 h2 h3
      subst h1; subst h3
      simp [Builtin.append_, run_underlying ht, sizeOf, typeInfo, hi, Builtin.lenOf, Builtin.firstCells, hnc, storeCells]
  · have hcells : ∀ j u, (l'.map (Value.int .i64))[j]? = some u → w.cell? (ad.add j) = some u := by
      intro j u hu
      rw [List.getElem?_map] at hu
      obtain ⟨x, hx, rfl⟩ := Option.map_eq_some_iff.1 hu
      have hjn : j < n' := by rw [← hr.1]; exact (List.getElem?_eq_some_iff.1 hx).1
      obtain ⟨g, o, he, hc⟩ := hr.at_ hjn
      injection he with he
      subst he
      rw [List.getD_eq_getElem?_getD, hx] at hc
      by_cases h0 : j = 0
      · subst h0; simpa [Addr.add] using hc
      · simpa [Addr.add, h0] using hc
    obtain ⟨v', w', hrun, h2, h3, _, h5⟩ := run_append_own_at (P := P) w 0 t ty 3 i (.int .i64 0) 1 8 ht hi hz hsz hby rfl (by decide) (.slice A n c) n (l.map (.int .i64)) hown ad n' c' (l'.map (.int .i64))
      (by simpa using hr.1) hcells (fun u hu => by obtain ⟨x, _, rfl⟩ := List.mem_map.1 hu; rfl) (by simp only [maxLen]; omega) (by omega) (Nat.zero_le _)
    rw [← List.map_append] at h2
    obtain ⟨A2, c2, rfl⟩ := hform v' w' _ h2
    rw [ownBlock_slice] at h3
    rw [ownBlock_slice, ownBlock_slice] at h5
    exact ⟨A2, c2, w', hrun, h2, h3, h5⟩

theorem wp_app (w : World) {o : Oper} {a : Act} {K : Act → World → Prop} {Q : Exit → Act → World → Prop} (s x : Operand) (t : TypeId)
    (ho : o.op = .call { callee := .builtin .append, args := #[s, x], argTypes := #[t, t] })
    (ht : P.underlying t = some (.slice 3)) (hinfo : (P.info? 3).map (fun i => (i.zero, i.size, i.bytes)) = some (some (.int .i64 0), 1, 8))
    (A : Option Addr) (n c : Nat) (l : List Int) (hs : a.eval s = .slice A n c) (hown : OwnL w A n c l) (A' : Option Addr) (n' c' : Nat) (l' : List Int) (hx : a.eval x = .slice A' n' c') (hr : IsL w A' n' c' l')
    (hb : n + n' ≤ 1000000)
    (h : ∀ A2 n2 c2 w2, n2 ≤ n + n' → n + n' ≤ n2 → OwnL w2 A2 n2 c2 (l ++ l') → w.grownBy w2 (blk A) → (blk A2 = blk A ∨ blk A2 = some w.heap.size) → K (a.put o.dst (.slice A2 n2 c2)) w2) : o.wp P a w K Q := by
  obtain ⟨A2, c2, w2, hrun, h2, h3, h4⟩ := run_app (P := P) w t o.type ht hinfo A n c l hown A' n' c' l' hr hb
  unfold Oper.wp execOp
  simp only [ho, resolve, invoke, builtin, Sem.run_bind, Sem.run_pure, Result.andThen_ok, List.map_toArray, List.map_cons, List.map_nil, hs, hx, hrun]
  exact h A2 _ c2 w2 (Nat.le_refl _) (Nat.le_refl _) h2 h3 h4

/-- append, at the operation. -/
theorem wpList_app (w : World) {ops : Array Oper} {rest : List Oper} {o : Oper} {a : Act} {Q : Exit → Act → World → Prop} (hgd : o.guard = none) (s x : Operand) (t : TypeId)
    (ho : o.op = .call { callee := .builtin .append, args := #[s, x], argTypes := #[t, t] })
    (ht : P.underlying t = some (.slice 3)) (hinfo : (P.info? 3).map (fun i => (i.zero, i.size, i.bytes)) = some (some (.int .i64 0), 1, 8))
    (A : Option Addr) (n c : Nat) (l : List Int) (hs : a.eval s = .slice A n c) (hown : OwnL w A n c l) (A' : Option Addr) (n' c' : Nat) (l' : List Int) (hx : a.eval x = .slice A' n' c') (hr : IsL w A' n' c' l')
    (hb : n + n' ≤ 1000000)
    (h : ∀ A2 n2 c2 w2, n2 ≤ n + n' → n + n' ≤ n2 → OwnL w2 A2 n2 c2 (l ++ l') → w.grownBy w2 (blk A) → (blk A2 = blk A ∨ blk A2 = some w.heap.size) → wpList P ops Q rest (a.put o.dst (.slice A2 n2 c2)) w2) :
    wpList P ops Q (o :: rest) a w :=
  wpList_plain hgd fun _ hK => wp_app w s x t ho ht hinfo A n c l hs hown A' n' c' l' hx hr hb fun A2 n2 c2 w2 h1 h2 h3 h4 h5 => hK _ _ (h A2 n2 c2 w2 h1 h2 h3 h4 h5)

theorem step_app (w : World) {ops : Array Oper} {o : Oper} {a : Act} {K : Act → World → Prop} {Q : Exit → Act → World → Prop} {E : Prop} (hgd : o.guard = none) (s x : Operand) (t : TypeId)
    (ho : o.op = .call { callee := .builtin .append, args := #[s, x], argTypes := #[t, t] })
    (ht : P.underlying t = some (.slice 3)) (hinfo : (P.info? 3).map (fun i => (i.zero, i.size, i.bytes)) = some (some (.int .i64 0), 1, 8))
    (A : Option Addr) (n c : Nat) (l : List Int) (hs : a.eval s = .slice A n c) (hown : OwnL w A n c l) (A' : Option Addr) (n' c' : Nat) (l' : List Int) (hx : a.eval x = .slice A' n' c') (hr : IsL w A' n' c' l')
    (hb : n + n' ≤ 1000000)
    (h : ∀ A2 n2 c2 w2, n2 ≤ n + n' → n + n' ≤ n2 → OwnL w2 A2 n2 c2 (l ++ l') → w.grownBy w2 (blk A) → (blk A2 = blk A ∨ blk A2 = some w.heap.size) → K (a.put o.dst (.slice A2 n2 c2)) w2) :
    if Region.wanted o (yielded ops a.tmps) = true then Oper.wp P o a w K Q else E := by
  have hw : Region.wanted o (yielded ops a.tmps) = true := by simp [Region.wanted, hgd]
  rw [if_pos hw]
  exact wp_app w s x t ho ht hinfo A n c l hs hown A' n' c' l' hx hr hb h
end


theorem blk_grown {S : Nat → Prop} {a w w' : World} {A : Option Addr} (h : Mod S a w) (hg : w.grownBy w' (blk A)) (hr : ∀ k, blk A = some k → S k ∨ a.heap.size ≤ k) : Mod S a w' := h.grown hg hr
theorem blk_none_grown {S : Nat → Prop} {a w w' : World} (h : Mod S a w) (hg : w.grownBy w' (blk none)) : Mod S a w' := h.grown hg (fun _ h => by cases h)
theorem grown_mod {w w' : World} {A : Option Addr} {o : Obj} (hg : (w.alloc o).grownBy w' (blk A)) : Mod (fun i => blk A = some i) w w' := ((Mod.refl _ w).alloc _).grown hg (fun _ hk => .inl hk)
theorem fresh_app {W w : World} {A A2 : Option Addr} {o : Obj} (hf : ∀ d, blk A = some d → W.heap.size ≤ d) (hs : W.heap.size ≤ w.heap.size) (hat : blk A2 = blk A ∨ blk A2 = some (w.alloc o).heap.size) :
    ∀ d, blk A2 = some d → W.heap.size ≤ d := by
  intro d hd
  rcases hat with e | e
  · exact hf d (by rw [← e]; exact hd)
  · rw [e] at hd; simp at hd; omega
theorem drop_cons (row : List Int) {k : Nat} (hk : k < row.length) : ∃ x, row.drop k = x :: row.drop (k + 1) ∧ row.take (k + 1) = row.take k ++ [x] ∧ row.getD k 0 = x := by
  refine ⟨row[k], List.drop_eq_getElem_cons hk, ?_, ?_⟩
  · rw [List.take_succ_eq_append_getElem hk]
  · rw [List.getD_eq_getElem?_getD, List.getElem?_eq_getElem hk]; rfl

section
variable {P : Program}
/-- xs[k:], whatever the capacity. -/
theorem cut_low (t : TypeId) (ht : P.underlying t = some (.slice 3)) (hinfo : (P.info? 3).map (fun i => (i.zero, i.size, i.bytes)) = some (some (.int .i64 0), 1, 8))
    (A : Option Addr) (n c k : Nat) (hk : k ≤ n) :
    ∃ A' n' c', (∀ W, (Instr.sliceAt t (.slice A n c) (some (.int .i64 (k : Int))) none none).run P W = .ok (.slice A' n' c') W) ∧ (∀ (w : World) (l : List Int), IsL w A n c l → IsL w A' n' c' (l.drop k)) ∧ blk A' = blk A := by
  obtain ⟨i, hi, hzz⟩ := Option.map_eq_some_iff.1 hinfo
  simp only [Prod.mk.injEq] at hzz
  obtain ⟨_, hsz, _⟩ := hzz
  have he : P.elem t = 3 := by simp [Program.elem, ht]
  have ht' : P.underlying t = some (.slice (P.elem t)) := by rw [he]; exact ht
  refine ⟨if c = k then A else A.map (·.add k), n - k, c - k, fun W => ?_, fun w l h => h.drop hk, ?_⟩
  · rw [run_sliceAt_slice W t _ _ _ _ ht', run_slice_l W t A n c ht' .i64 (k : Int) (by omega) (by omega), he]
    simp [sizeOf, typeInfo, hi, hsz, sliced]
  · split
    · rfl
    · cases A with
      | none => rfl
      | some d => simp [blk]; unfold Addr.add; split <;> rfl
end

/-- uint(n) % m. -/
theorem umod (n : Int) (m : Nat) (hm : 0 < m) : ∃ k : Nat, k < m ∧ (IntKind.u64.wrap n).tmod (m : Int) = (k : Int) := by
  have h0 : 0 ≤ IntKind.u64.wrap n := by
    rw [IntKind.wrap_u64]; omega
  rw [Int.tmod_eq_emod_of_nonneg h0]
  refine ⟨((IntKind.u64.wrap n) % (m : Int)).toNat, ?_, ?_⟩
  · have := Int.emod_lt_of_pos (IntKind.u64.wrap n) (b := (m : Int)) (by omega)
    have := Int.emod_nonneg (IntKind.u64.wrap n) (b := (m : Int)) (by omega)
    omega
  · have := Int.emod_nonneg (IntKind.u64.wrap n) (b := (m : Int)) (by omega)
    omega

/-- a, a + 1, .. (n of them). -/
def upto (a : Int) : Nat → List Int
  | 0 => []
  | n + 1 => a :: upto (a + 1) n
theorem upto_len (a : Int) (n : Nat) : (upto a n).length = n := by
  induction n generalizing a with
  | zero => rfl
  | succ n ih => simp [upto, ih]
theorem upto_snoc (a : Int) (n : Nat) : upto a (n + 1) = upto a n ++ [a + n] := by
  induction n generalizing a with
  | zero => simp [upto]
  | succ n ih =>
    rw [upto, ih (a + 1), upto]
    simp only [List.cons_append]
    congr 3
    omega
theorem upto_drop (a : Int) (n k : Nat) (h : k ≤ n) : (upto a n).drop k = upto (a + k) (n - k) := by
  induction k generalizing a n with
  | zero => simp
  | succ k ih =>
    obtain ⟨n, rfl⟩ : ∃ m, n = m + 1 := ⟨n - 1, by omega⟩
    rw [upto, List.drop_succ_cons, ih (a + 1) n (by omega)]
    congr 1
    · omega
    · omega
theorem upto_take (a : Int) (n k : Nat) (h : k ≤ n) : (upto a n).take k = upto a k := by
  induction k generalizing a n with
  | zero => simp [upto]
  | succ k ih =>
    obtain ⟨n, rfl⟩ : ∃ m, n = m + 1 := ⟨n - 1, by omega⟩
    rw [upto, List.take_succ_cons, ih (a + 1) n (by omega), upto]
theorem upto_getD (a : Int) (n k : Nat) (h : k < n) : (upto a n).getD k 0 = a + k := by
  induction k generalizing a n with
  | zero =>
    obtain ⟨n, rfl⟩ : ∃ m, n = m + 1 := ⟨n - 1, by omega⟩
    simp [upto]
  | succ k ih =>
    obtain ⟨n, rfl⟩ : ∃ m, n = m + 1 := ⟨n - 1, by omega⟩
    rw [upto, List.getD_cons_succ, ih (a + 1) n (by omega)]
    omega

end Go.Proofs.Ytgojfccaohngaaa
