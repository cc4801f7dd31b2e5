/-
  The contracts of package queue: what each method of a queue does, said of its list.
-/
import Derived.Test.YtgojfccaohngaaaList
namespace Go.Proofs.Ytgojfccaohngaaa
open Go.RowKit

/-- Block b is a queue: its list; o: the block of its array. -/
def Queue (w : World) (b : Nat) (o : Option Nat) (L : List Int) : Prop :=
  ∃ A n c, w.rowIs b 82 1 (fun _ => .slice A n c) ∧ OwnL w A n c L ∧ blk A = o

theorem Queue.keep {S : Nat → Prop} {w w' : World} {b : Nat} {o : Option Nat} {L : List Int} (h : Queue w b o L) (m : Mod S w w') (hs : ¬ S b) (ho : ∀ k, o = some k → ¬ S k) : Queue w' b o L := by
  obtain ⟨A, n, c, hr, hown, hb⟩ := h
  exact ⟨A, n, c, m.rowIs hr hs, hown.keep m (fun k hk => ho k (by rw [← hb]; exact hk)), hb⟩
theorem Queue.lt {w : World} {b : Nat} {o : Option Nat} {L : List Int} (h : Queue w b o L) : b < w.heap.size ∧ ∀ k, o = some k → k < w.heap.size ∧ k ≠ b := by
  obtain ⟨A, n, c, hr, hown, hb⟩ := h
  refine ⟨hr.lt, fun k hk => ⟨hown.lt k (by rw [hb]; exact hk), ?_⟩⟩
  rintro rfl
  exact hown.ne_row hr (by decide) (by rw [hb]; exact hk)

theorem row1_set {w : World} {b : Nat} {t : TypeId} {v : Value} (h : w.rowIs b t 1 (fun _ => v)) (u : Value) : (w.setCell ⟨b, 0, none⟩ u).rowIs b t 1 (fun _ => u) :=
  (h.set 0 u).congr (fun i hi => by rw [if_pos (by omega)])
theorem queue_alloc (w : World) : Queue (w.alloc (.cells #[.slice none 0 0] 82)) w.heap.size none [] := by
  refine ⟨none, 0, 0, ?_, OwnL.nil _, rfl⟩
  exact World.rowIs_alloc w #[.slice none 0 0] 82 (fun _ => .slice none 0 0) (fun i hi => by
    have : i = 0 := by simpa using hi
    subst this; rfl)

theorem new_queue (w : World) : Calls Try.prog 16 #[] w fun e w' => ∃ b, e = .returned (.pointer (some ⟨b, 0, none⟩)) ∧ w.heap.size ≤ b ∧ Queue w' b none [] ∧ Mod (fun _ => False) w w' := by
  go_enter Try.func16, Try.ntmps16
  go_wp2
  go_ret
  exact ⟨w.heap.size, rfl, Nat.le_refl _, queue_alloc w, (Mod.refl _ _).alloc _⟩

/-- What a call on a queue may change. -/
def QS (b : Nat) (o : Option Nat) : Nat → Prop := fun k => k = b ∨ o = some k
/-- The block of the array behind a call: the one that was, or a new one. -/
def Newer (w : World) (o o' : Option Nat) : Prop := o' = o ∨ ∃ k, o' = some k ∧ w.heap.size ≤ k

set_option maxHeartbeats 400000 in
theorem qput_any (b : Nat) (o : Option Nat) (L : List Int) (A' : Option Addr) (n' c' : Nat) (l : List Int) (w : World) (h : Queue w b o L) (hl : IsL w A' n' c' l) (hb : L.length + n' ≤ 900000) :
    Calls Try.prog 17 #[.pointer (some ⟨b, 0, none⟩), .slice A' n' c'] w fun e w' => e = .returned (.tuple #[]) ∧ ∃ o', Queue w' b o' (L ++ l) ∧ Newer w o o' ∧ Mod (QS b o) w w' := by
  have hlt := h.lt
  obtain ⟨A, n, c, hr, hown, rfl⟩ := h
  have hc : w.cell? ⟨b, 0, none⟩ = some (.slice A n c) := hr.cell (by omega)
  have hf := hr.frozen 0
  have hn := hown.len
  have hn2 : n + n' ≤ 900000 := by omega
  clear hn hb
  go_enter Try.func17, Try.ntmps17
  go_wp2_with (at_builtin; refine wpList_app _ rfl (.tmp 10) (.tmp 11) _ rfl Try.underlying27 int_info A n c L rfl hown A' n' c' l rfl hl (by omega) ?_; intro A2 n2 c2 w2 hn1 hn3 hown2 hg2 hat2; have m2 : Mod (fun k => blk A = some k) w w2 := (Mod.refl (fun k => blk A = some k) w).grown hg2 (fun k hk => .inl hk); have hr2 : w2.rowIs b 82 1 (fun _ => .slice A n c) := m2.rowIs hr (fun e => (hlt.2 b e).2 rfl); have hc2 := hr2.cell (i := 0) (by omega); have hf2 := hr2.frozen 0)
  go_end0
  have hr3 := row1_set hr2 (.slice A2 n2 c2)
  have hlt2 := hown2.ne_row hr2 (by decide)
  have m3 : Mod (fun k => k = b) w2 (w2.setCell ⟨b, 0, none⟩ (.slice A2 n2 c2)) := Mod.setCell (Mod.refl (· = b) w2) (p := ⟨b, 0, none⟩) (.inl rfl) _
  refine ⟨rfl, blk A2, ⟨A2, n2, c2, hr3, hown2.keep m3 (fun k hk e => hlt2 (by rw [← e]; exact hk)), rfl⟩, ?_, ?_⟩
  · rcases hat2 with e | e
    · exact .inl e
    · exact .inr ⟨_, e, Nat.le_refl _⟩
  · exact (m2.mono (fun i _ e => .inr e)).trans' m3 (fun i _ e => .inl e)

theorem qlen_nil (w : World) : Calls Try.prog 18 #[.pointer none] w fun e w' => e = .returned (.int .i64 0) ∧ w' = w := by
  go_enter Try.func18, Try.ntmps18
  go_wp2
  go_ret
  exact ⟨rfl, rfl⟩
theorem qlen_any (b : Nat) (o : Option Nat) (L : List Int) (w : World) (h : Queue w b o L) :
    Calls Try.prog 18 #[.pointer (some ⟨b, 0, none⟩)] w fun e w' => e = .returned (.int .i64 L.length) ∧ w' = w := by
  obtain ⟨A, n, c, hr, hown, rfl⟩ := h
  have hc : w.cell? ⟨b, 0, none⟩ = some (.slice A n c) := hr.cell (by omega)
  rw [hown.len]
  go_enter Try.func18, Try.ntmps18
  go_wp2
  go_ret
  exact ⟨rfl, rfl⟩

theorem qall_any (b : Nat) (o : Option Nat) (L : List Int) (w : World) (h : Queue w b o L) (hb : L.length ≤ 900000) :
    Calls Try.prog 31 #[.pointer (some ⟨b, 0, none⟩)] w fun e w' => ∃ A n c, e = .returned (.slice A n c) ∧ IsL w' A n c L ∧ (∀ d, A = some d → w.heap.size ≤ d.block) ∧ Mod (fun _ => False) w w' := by
  obtain ⟨A, n, c, hr, hown, rfl⟩ := h
  have hc : w.cell? ⟨b, 0, none⟩ = some (.slice A n c) := hr.cell (by omega)
  rw [hown.len] at hb
  go_enter Try.func31, Try.ntmps31
  go_wp2_with (go_at_call 57; refine (clone_any A n c L _ hown.isL hb).mono ?_; rintro e w1 ⟨A1, c1, rfl, h1, h2, h3⟩)
  go_ret
  exact ⟨A1, n, c1, rfl, h1.isL, (fun d hd => h2 d.block (by rw [hd]; rfl)), h3⟩

/-- How many Get takes. -/
def qtake (len : Nat) (ps most : Int) : Nat := min (min (min (len / (max ps 1).toNat + 1) (max most 0).toNat) 128) len

theorem run_min_int4 {P : Program} (ts : Array TypeId) (t : TypeId) (x y z u r : Int) (hr : r = min (min (min x y) z) u) (w : World) :
    (Builtin.min_ ts t #[.int .i64 x, .int .i64 y, .int .i64 z, .int .i64 u]).run P w = .ok (.int .i64 r) w := by
  subst hr
  have h2 : ∀ (a b : Int) (W : World), (Builtin.min2 (.int .i64 a) (.int .i64 b)).run P W = .ok (.int .i64 (min a b)) W := by
    intro a b W
    have h := run_min_int2 (P := P) W #[] 0 .i64 .i64 a b
    have e : (if b < a then b else a) = min a b := by omega
    rw [e] at h
    simpa [Builtin.min_] using h
  simp [Builtin.min_, h2]

set_option maxHeartbeats 400000 in
theorem qget_any (b : Nat) (o : Option Nat) (L : List Int) (ps most : Int) (w : World) (h : Queue w b o L) (hb : L.length ≤ 900000) (hps : ps < 9223372036854775808) (hmost : most < 9223372036854775808) :
    Calls Try.prog 19 #[.pointer (some ⟨b, 0, none⟩), .int .i64 ps, .int .i64 most] w fun e w' => ∃ A n c, e = .returned (.slice A n c) ∧ IsL w' A n c (L.take (qtake L.length ps most)) ∧
      (∃ o', Queue w' b o' (L.drop (qtake L.length ps most)) ∧ (∀ k, o' = some k → w.heap.size ≤ k) ∧ (∀ d, A = some d → w.heap.size ≤ d.block ∧ o' ≠ some d.block)) ∧ Mod (· = b) w w' := by
  have hlt := h.lt
  obtain ⟨A, n, c, hr, hown, rfl⟩ := h
  have hc : w.cell? ⟨b, 0, none⟩ = some (.slice A n c) := hr.cell (by omega)
  have hf := hr.frozen 0
  rw [hown.len] at hb ⊢
  obtain ⟨p, hp⟩ : ∃ p : Nat, max ps 1 = (p : Int) := ⟨(max ps 1).toNat, by omega⟩
  obtain ⟨M, hM⟩ : ∃ M : Nat, max most 0 = (M : Int) := ⟨(max most 0).toNat, by omega⟩
  have hp1 : 1 ≤ p := by omega
  obtain ⟨Q, hQ⟩ : ∃ Q : Nat, (n : Int) / (p : Int) = (Q : Int) := ⟨n / p, by simp⟩
  have hQn : Q ≤ n := by
    have h1 : Q = n / p := by omega
    rw [h1]; exact Nat.div_le_self _ _
  obtain ⟨N, hN⟩ : ∃ N, N = qtake n ps most := ⟨_, rfl⟩
  have hNn : N ≤ n := by rw [hN]; unfold qtake; omega
  have hmin := run_min_int4 (P := Try.prog) #[3, 3, 3, 3] 3 ((Q : Int) + 1) (M : Int) 128 (n : Int) (N : Int) (by
    rw [hN]; unfold qtake
    rw [hp, hM]
    have h1 : Q = n / p := by omega
    simp only [Int.toNat_natCast]
    rw [← h1]
    omega)
  rw [← hN]
  have HN := Lib.hid hN
  have hnc := hown.isL.le
  have hd : IsL w.drew A n c L := hown.isL.keep0 ((Mod.refl _ w).drew)
  have hrd : w.drew.rowIs b 82 1 (fun _ => .slice A n c) := hr
  obtain ⟨A4, n4, c4, hcut, hL4, _⟩ := cut_low (P := Try.prog) 27 Try.underlying27 int_info A n c N hNn
  clear hN hps hmost
  go_enter Try.func19, Try.ntmps19
  go_wp2
  go_region
  go_wp2_with fail
  refine (clone_any _ N c (L.take N) _ (hd.take hNn) (by omega)).mono ?_
  rintro e w1 ⟨A1, c1, rfl, h1, h2, h3⟩
  have hr1 := h3.rowIs hrd (fun h => h)
  have hc1 := hr1.cell (i := 0) (by omega)
  go_wp2_with fail
  have hL5 := hL4 w1 L (hd.keep0 h3)
  have hn4 : n4 ≤ 900000 := by have e1 := hL5.len; rw [List.length_drop, hown.len] at e1; omega
  refine (clone_any A4 n4 c4 _ w1 hL5 hn4).mono ?_
  rintro e w2 ⟨A2, c2, rfl, g1, g2, g3⟩
  have hr2 := g3.rowIs hr1 (fun h => h)
  have hc2 := hr2.cell (i := 0) (by omega)
  have hf2 := hr2.frozen 0
  go_wp2
  go_ret
  have hr3 := row1_set hr2 (.slice A2 n4 c2)
  have m3 : Mod (fun k => k = b) w2 (w2.setCell ⟨b, 0, none⟩ (.slice A2 n4 c2)) := Mod.setCell (Mod.refl (· = b) w2) (p := ⟨b, 0, none⟩) (.inl rfl) _
  have s1 : w.heap.size ≤ w1.heap.size := h3.size
  have hbb : ∀ d, blk A1 = some d → ¬ d = b := by
    intro d hd e
    have hh : w.heap.size ≤ d := h2 d hd
    have := hlt.1
    omega
  refine ⟨A1, N, c1, rfl, ((h1.keep0 g3).keep m3 hbb).isL, ⟨blk A2, ⟨A2, n4, c2, hr3, g1.keep m3 (fun k hk e => ?_), rfl⟩, fun k hk => ?_, fun d hd => ⟨?_, fun e => ?_⟩⟩, ?_⟩
  · have := g2 k hk
    have := hlt.1
    omega
  · have := g2 k hk
    omega
  · exact h2 d.block (by rw [hd]; rfl)
  · have e1 := g2 _ e
    have e2 := h1.lt d.block (by rw [hd]; rfl)
    omega
  · exact ((((Mod.refl (· = b) w).drew).trans' h3 (fun _ _ h => h.elim)).trans' g3 (fun _ _ h => h.elim)).trans m3

end Go.Proofs.Ytgojfccaohngaaa
