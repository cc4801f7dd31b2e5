/-
  A scheduler in memory: the rings of its Ps, the queue in common.
-/
import Derived.Test.YtgojfccaohngaaaFour
import Derived.Test.YtgojfccaohngaaaQueue
import Derived.Test.YtgojfccaohngaaaArr
import Derived.Test.YtgojfccaohngaaaGen
namespace Go.Proofs.Ytgojfccaohngaaa
open Go.RowKit

/-- Block b has cells of type t. -/
def HasT (w : World) (b : Nat) (t : TypeId) : Prop := ∃ cur fr, w.heap[b]? = some (.cells cur t fr)
theorem HasT.ne {w : World} {b b' : Nat} {t t' : TypeId} (h : HasT w b t) (h' : HasT w b' t') (ht : t ≠ t') : b ≠ b' := by
  rintro rfl
  obtain ⟨c, f, hc⟩ := h
  obtain ⟨d, f', hd⟩ := h'
  rw [hc] at hd
  injection hd with hd
  injection hd with _ hd
  exact ht hd
theorem HasT.of_row {w : World} {b : Nat} {t : TypeId} {n : Nat} {f : Nat → Value} (h : w.rowIs b t n f) : HasT w b t := by
  obtain ⟨c, hc, _⟩ := h
  exact ⟨c, _, hc⟩
theorem HasT.lt {w : World} {b : Nat} {t : TypeId} (h : HasT w b t) : b < w.heap.size := by
  obtain ⟨c, f, hc⟩ := h
  exact lt_of_block hc
theorem HasT.keep {S : Nat → Prop} {w w' : World} {b : Nat} {t : TypeId} (h : HasT w b t) (m : Mod S w w') (hs : ¬ S b) : HasT w' b t := by
  have hl := h.lt
  obtain ⟨c, f, hc⟩ := h
  exact ⟨c, f, by rw [m.block b hl hs]; exact hc⟩
theorem Ring.hasT {w : World} {b : Nat} {row : List Int} {nxt : Option Int} (h : Ring w b row nxt) : HasT w b 86 := by
  obtain ⟨_, _, _, hr, _⟩ := h
  exact HasT.of_row hr
theorem Queue.hasT {w : World} {b : Nat} {o : Option Nat} {L : List Int} (h : Queue w b o L) : HasT w b 82 ∧ ∀ k, o = some k → HasT w k 3 := by
  obtain ⟨A, n, c, hr, hown, hb⟩ := h
  exact ⟨HasT.of_row hr, fun k hk => hown.ty k (by rw [hb]; exact hk)⟩

/-- Where a scheduler lies. -/
structure SA where
  s : Nat
  g : Nat
  qb : Nat
  c : Nat
  ps : Nat
  bs : Nat → Nat

def SS (a : SA) (o : Option Nat) : Nat → Prop := fun k => k = a.s ∨ k = a.g ∨ (k = a.qb ∨ o = some k) ∨ ∃ i, i < a.ps ∧ k = a.bs i
def sfield (a : SA) : Nat → Value := fun i => if i = 0 then .slice (some ⟨a.g, 0, none⟩) a.ps a.c else .pointer (some ⟨a.qb, 0, none⟩)

structure Sch (a : SA) (w : World) (o : Option Nat) (R : Nat → RM) (Q : List Int) : Prop where
  row : w.rowIs a.s 93 2 (sfield a)
  arr : HasT w a.g 31
  ptr : ∀ i, i < a.ps → w.cell? ⟨a.g, i, none⟩ = some (.pointer (some ⟨a.bs i, 0, none⟩))
  ring : ∀ i, i < a.ps → Ring w (a.bs i) (R i).1 (R i).2
  inj : ∀ i j, i < a.ps → j < a.ps → a.bs i = a.bs j → i = j
  queue : Queue w a.qb o Q
  one : 1 ≤ a.ps
  most : a.ps ≤ 64
  cap : a.ps ≤ a.c
  capm : a.c ≤ maxLen

/-- What a call on a scheduler leaves. -/
def To (a : SA) (o : Option Nat) (w w' : World) (R : Nat → RM) (Q : List Int) : Prop := ∃ o', Sch a w' o' R Q ∧ (∀ k, o' = some k → o = some k ∨ w.heap.size ≤ k) ∧ Mod (SS a o) w w'
/-- A scheduler that is new behind W. -/
def SL (W : World) (a : SA) (w : World) (R : Nat → RM) (Q : List Int) : Prop := ∃ o, Sch a w o R Q ∧ (∀ k, SS a o k → W.heap.size ≤ k) ∧ Mod (fun _ => False) W w

section
variable {a : SA} {W w w' w1 w2 : World} {o o' : Option Nat} {R R' R1 R2 : Nat → RM} {Q Q' Q1 Q2 : List Int} {T : Nat → Prop}
theorem Sch.keep (h : Sch a w o R Q) (m : Mod T w w') (hs : ∀ k, SS a o k → ¬ T k) : Sch a w' o R Q where
  row := m.rowIs h.row (hs _ (.inl rfl))
  arr := h.arr.keep m (hs _ (.inr (.inl rfl)))
  ptr := fun i hi => (m.cell (p := ⟨a.g, i, none⟩) h.arr.lt (hs _ (.inr (.inl rfl)))).trans (h.ptr i hi)
  ring := fun i hi => (h.ring i hi).keep m (hs _ (.inr (.inr (.inr ⟨i, hi, rfl⟩))))
  inj := h.inj
  queue := h.queue.keep m (hs _ (.inr (.inr (.inl (.inl rfl))))) (fun k hk => hs _ (.inr (.inr (.inl (.inr hk)))))
  one := h.one
  most := h.most
  cap := h.cap
  capm := h.capm
theorem Sch.keep0 (h : Sch a w o R Q) (m : Mod (fun _ => False) w w') : Sch a w' o R Q := h.keep m (fun _ _ h => h)
theorem Sch.lt (h : Sch a w o R Q) : ∀ k, SS a o k → k < w.heap.size := by
  rintro k (rfl | rfl | (rfl | hk) | ⟨i, hi, rfl⟩)
  · exact h.row.lt
  · exact h.arr.lt
  · exact h.queue.lt.1
  · exact (h.queue.lt.2 k hk).1
  · exact (h.ring i hi).lt
theorem Sch.onRing (h : Sch a w o R Q) {k : Nat} (hk : k < a.ps) {E : RM} (r : Ring w' (a.bs k) E.1 E.2) (m : Mod (· = a.bs k) w w') : Sch a w' o (upd R k E) Q := by
  have ht := (h.ring k hk).hasT
  have hq := h.queue.hasT
  exact {
    row := m.rowIs h.row ((HasT.of_row h.row).ne ht (by decide))
    arr := h.arr.keep m (h.arr.ne ht (by decide))
    ptr := fun i hi => (m.cell (p := ⟨a.g, i, none⟩) h.arr.lt (h.arr.ne ht (by decide))).trans (h.ptr i hi)
    ring := fun i hi => by
      by_cases e : i = k
      · subst e
        rw [upd_same]
        exact r
      · rw [upd_ne _ _ e]
        exact (h.ring i hi).keep m (fun e2 => e (h.inj i k hi hk e2))
    inj := h.inj
    queue := h.queue.keep m (hq.1.ne ht (by decide)) (fun j hj => (hq.2 j hj).ne ht (by decide))
    one := h.one, most := h.most, cap := h.cap, capm := h.capm }
theorem Sch.onQueue (h : Sch a w o R Q) (q : Queue w' a.qb o' Q') (m : Mod (QS a.qb o) w w') : Sch a w' o' R Q' := by
  have hq := h.queue.hasT
  have ne : ∀ b t, HasT w b t → t ≠ 82 → t ≠ 3 → ¬ QS a.qb o b := by
    rintro b t hb h1 h2 (e | e)
    · exact hb.ne hq.1 h1 e
    · exact hb.ne (hq.2 b e) h2 rfl
  exact {
    row := m.rowIs h.row (ne _ _ (HasT.of_row h.row) (by decide) (by decide))
    arr := h.arr.keep m (ne _ _ h.arr (by decide) (by decide))
    ptr := fun i hi => (m.cell (p := ⟨a.g, i, none⟩) h.arr.lt (ne _ _ h.arr (by decide) (by decide))).trans (h.ptr i hi)
    ring := fun i hi => (h.ring i hi).keep m (ne _ _ (h.ring i hi).hasT (by decide) (by decide))
    inj := h.inj, queue := q, one := h.one, most := h.most, cap := h.cap, capm := h.capm }
theorem Sch.congr (h : Sch a w o R Q) (e : ∀ i, i < a.ps → R i = R' i) : Sch a w o R' Q :=
  { h with ring := fun i hi => by rw [← e i hi]; exact h.ring i hi }

theorem To.refl (h : Sch a w o R Q) : To a o w w R Q := ⟨o, h, fun _ h => .inl h, Mod.refl _ _⟩
theorem To.keep0 (h : To a o w w' R Q) (m : Mod (fun _ => False) w' w2) : To a o w w2 R Q := by
  obtain ⟨o', h1, h2, h3⟩ := h
  exact ⟨o', h1.keep0 m, h2, h3.trans' m (fun _ _ h => h.elim)⟩
theorem To.ahead (h : To a o w1 w' R Q) (m : Mod (fun _ => False) w w1) : To a o w w' R Q := by
  obtain ⟨o', h1, h2, h3⟩ := h
  have := m.size
  exact ⟨o', h1, fun k hk => (h2 k hk).imp_right (fun e => by omega), (m.mono (fun _ _ h => h.elim)).trans h3⟩
theorem To.trans (h : To a o w w1 R1 Q1) (k : ∀ o1, Sch a w1 o1 R1 Q1 → To a o1 w1 w2 R2 Q2) : To a o w w2 R2 Q2 := by
  obtain ⟨o1, h1, h2, h3⟩ := h
  obtain ⟨o2, k1, k2, k3⟩ := k o1 h1
  have hs := h3.size
  refine ⟨o2, k1, fun i hi => ?_, h3.trans' k3 (fun i hi hS => ?_)⟩
  · rcases k2 i hi with e | e
    · exact h2 i e
    · exact .inr (by omega)
  · rcases hS with e | e | (e | e) | e
    · exact .inl e
    · exact .inr (.inl e)
    · exact .inr (.inr (.inl (.inl e)))
    · rcases h2 i e with e2 | e2
      · exact .inr (.inr (.inl (.inr e2)))
      · omega
    · exact .inr (.inr (.inr e))
theorem Sch.ringTo (h : Sch a w o R Q) {k : Nat} (hk : k < a.ps) {E : RM} (r : Ring w' (a.bs k) E.1 E.2) (m : Mod (· = a.bs k) w w') : To a o w w' (upd R k E) Q :=
  ⟨o, h.onRing hk r m, fun _ h => .inl h, m.mono (fun i _ e => .inr (.inr (.inr ⟨k, hk, e⟩)))⟩
theorem Sch.queueTo (h : Sch a w o R Q) (q : Queue w' a.qb o' Q') (hn : ∀ k, o' = some k → o = some k ∨ w.heap.size ≤ k) (m : Mod (QS a.qb o) w w') : To a o w w' R Q' :=
  ⟨o', h.onQueue q m, hn, m.mono (fun i _ e => .inr (.inr (.inl e)))⟩
theorem Newer.new (h : Newer w o o') : ∀ k, o' = some k → o = some k ∨ w.heap.size ≤ k := by
  intro k hk
  rcases h with e | ⟨j, e, hj⟩
  · exact .inl (by rw [← e]; exact hk)
  · rw [e] at hk; cases hk; exact .inr hj

theorem SL.mod (h : SL W a w R Q) : Mod (fun _ => False) W w := by
  obtain ⟨_, _, _, h3⟩ := h
  exact h3
theorem SL.keep0 (h : SL W a w R Q) (m : Mod (fun _ => False) w w') : SL W a w' R Q := by
  obtain ⟨o, h1, h2, h3⟩ := h
  exact ⟨o, h1.keep0 m, h2, h3.trans m⟩
theorem SL.to (h : SL W a w R Q) (k : ∀ o, Sch a w o R Q → To a o w w' R' Q') : SL W a w' R' Q' := by
  obtain ⟨o, h1, h2, h3⟩ := h
  obtain ⟨o', k1, k2, k3⟩ := k o h1
  have hs := h3.size
  refine ⟨o', k1, fun i hi => ?_, h3.new k3 h2⟩
  rcases hi with e | e | (e | e) | e
  · exact h2 i (.inl e)
  · exact h2 i (.inr (.inl e))
  · exact h2 i (.inr (.inr (.inl (.inl e))))
  · rcases k2 i e with e2 | e2
    · exact h2 i (.inr (.inr (.inl (.inr e2))))
    · omega
  · exact h2 i (.inr (.inr (.inr e)))
/-- A call at a law's own scheduler. -/
theorem SL.call {N : Nat} {args : Array Value} {v : Value} (h : SL W a w R Q) (hc : ∀ o, Sch a w o R Q → Calls Try.prog N args w (fun e w' => e = .returned v ∧ To a o w w' R' Q')) :
    Calls Try.prog N args w (fun e w' => e = .returned v ∧ SL W a w' R' Q') := by
  obtain ⟨o, h1, h2, h3⟩ := h
  exact (hc o h1).mono fun e w' ⟨he, k⟩ => ⟨he, SL.to ⟨o, h1, h2, h3⟩ (fun o2 h4 => by
    obtain ⟨o', k1, k2, k3⟩ := k
    -- the same scheduler: its own array is the block that it was
    have e : o2 = o := by
      obtain ⟨A, n, c, hr, hown, hb⟩ := h4.queue
      obtain ⟨A', n', c', hr', hown', hb'⟩ := h1.queue
      have e1 := hr.cell (i := 0) (by omega)
      have e2 := hr'.cell (i := 0) (by omega)
      rw [e1] at e2
      injection e2 with e2
      injection e2 with e2
      rw [← hb, ← hb', e2]
    subst e
    exact ⟨o', k1, k2, k3⟩)⟩
theorem SL.ask {N : Nat} {args : Array Value} {v : Value} (h : SL W a w R Q) (hc : ∀ o, Sch a w o R Q → Calls Try.prog N args w (fun e w' => e = .returned v ∧ Mod (fun _ => False) w w')) :
    Calls Try.prog N args w (fun e w' => e = .returned v ∧ SL W a w' R Q) := by
  obtain ⟨o, h1, h2, h3⟩ := h
  exact (hc o h1).mono fun e w' ⟨he, m⟩ => ⟨he, ⟨o, h1.keep0 m, h2, h3.trans m⟩⟩
end

/-! ### the plain model -/
def ready (R : Nat → RM) (p : Nat) (g : Int) (next : Bool) : Nat → RM := upd R p (put2 (R p) g next)
def readyQ (R : Nat → RM) (Q : List Int) (p : Nat) (g : Int) (next : Bool) : List Int := Q ++ over2 (R p) g next
def sumR (R : Nat → RM) : Nat → Nat
  | 0 => 0
  | n + 1 => sumR R n + len2 (R n)

/-! ### contracts -/
theorem has_nil (p : Int) (w : World) : Calls Try.prog 64 #[.pointer none, .int .i64 p] w fun e w' => e = .returned (.bool false) ∧ w' = w := by
  go_enter Try.func64, Try.ntmps64
  go_wp2
  go_ret
  exact ⟨rfl, rfl⟩
section
variable {a : SA} {w : World} {o : Option Nat} {R : Nat → RM} {Q : List Int}
theorem Sch.c0 (h : Sch a w o R Q) : w.cell? ⟨a.s, 0, none⟩ = some (.slice (some ⟨a.g, 0, none⟩) a.ps a.c) := h.row.cell (by omega)
theorem Sch.c1 (h : Sch a w o R Q) : w.cell? ⟨a.s, 1, none⟩ = some (.pointer (some ⟨a.qb, 0, none⟩)) := h.row.cell (by omega)
theorem has_yes (h : Sch a w o R Q) (p : Nat) (hp : p < a.ps) : Calls Try.prog 64 #[.pointer (some ⟨a.s, 0, none⟩), .int .i64 p] w fun e w' => e = .returned (.bool true) ∧ w' = w := by
  have hc := h.c0
  have h64 := h.most
  have h1 : decide ((p : Int) < (a.ps : Int)) = true := decide_eq_true (by omega)
  have h2 : decide (p < a.ps) = true := decide_eq_true hp
  have h3 : decide ((0 : Int) ≤ (p : Int)) = true := decide_eq_true (by omega)
  go_enter Try.func64, Try.ntmps64
  go_wp2
  go_ret
  exact ⟨rfl, rfl⟩
theorem has_no (h : Sch a w o R Q) (p : Int) (hp : p < 0 ∨ (a.ps : Int) ≤ p) : Calls Try.prog 64 #[.pointer (some ⟨a.s, 0, none⟩), .int .i64 p] w fun e w' => e = .returned (.bool false) ∧ w' = w := by
  have hc := h.c0
  by_cases h0 : p < 0
  · have h3 : decide ((0 : Int) ≤ p) = false := decide_eq_false (by omega)
    clear hp
    go_enter Try.func64, Try.ntmps64
    go_wp2
    go_ret
    exact ⟨rfl, rfl⟩
  · have h3 : decide ((0 : Int) ≤ p) = true := decide_eq_true (by omega)
    have h4 : decide (p < (a.ps : Int)) = false := decide_eq_false (by omega)
    clear hp
    go_enter Try.func64, Try.ntmps64
    go_wp2
    go_ret
    exact ⟨rfl, rfl⟩
end

end Go.Proofs.Ytgojfccaohngaaa
