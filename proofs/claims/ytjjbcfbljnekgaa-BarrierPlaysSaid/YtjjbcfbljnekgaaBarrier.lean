/-
  The contracts of package barrier.
-/
import Derived.Test.YtjjbcfbljnekgaaList
import Derived.Laws.StructEq
import Derived.Deep.RegionWith
import Derived.Deep.RegionHeld3
namespace Go.Proofs.Ytjjbcfbljnekgaa
open Go.RowKit

def bcell (f : Nat → Int) (n : Nat) : Nat → Value := fun i => if i < 32 then .int .i64 (f i) else .int .i64 n

/-- Block b is a barrier: its pairs. -/
def Barrier (w : World) (b : Nat) (ps : List (Int × Int)) : Prop :=
  ∃ f : Nat → Int, w.rowIs b 83 33 (bcell f ps.length) ∧ ps.length ≤ 16 ∧ ∀ i, i < ps.length → f (2 * i) = (ps.getD i (0, 0)).1 ∧ f (2 * i + 1) = (ps.getD i (0, 0)).2

theorem Barrier.keep {S : Nat → Prop} {w w' : World} {b : Nat} {ps : List (Int × Int)} (h : Barrier w b ps) (m : Mod S w w') (hs : ¬ S b) : Barrier w' b ps := by
  obtain ⟨f, hr, rest⟩ := h
  exact ⟨f, m.rowIs hr hs, rest⟩
theorem Barrier.lt {w : World} {b : Nat} {ps : List (Int × Int)} (h : Barrier w b ps) : b < w.heap.size := by
  obtain ⟨f, hr, rest⟩ := h
  exact hr.lt
theorem Barrier.len {w : World} {b : Nat} {ps : List (Int × Int)} (h : Barrier w b ps) : ps.length ≤ 16 := by
  obtain ⟨f, hr, h1, _⟩ := h
  exact h1

theorem put_nil (x y : Int) (w : World) : Calls Try.prog 14 #[.pointer none, .int .i64 x, .int .i64 y] w fun e w' => e = .returned (.bool false) ∧ w' = w := by
  go_enter Try.func14, Try.ntmps14
  go_wp2
  go_ret
  exact ⟨rfl, rfl⟩

theorem put_full (b : Nat) (x y : Int) (ps : List (Int × Int)) (w : World) (h : Barrier w b ps) (hf : ps.length = 16) :
    Calls Try.prog 14 #[.pointer (some ⟨b, 0, none⟩), .int .i64 x, .int .i64 y] w fun e w' => e = .returned (.bool false) ∧ w' = w := by
  obtain ⟨f, hr, h1, h2⟩ := h
  have hc : w.cell? ⟨b, 32, none⟩ = some (.int .i64 16) := by
    have := hr.cell (i := 32) (by omega)
    simpa [bcell, hf] using this
  go_enter Try.func14, Try.ntmps14
  go_wp2
  go_ret
  exact ⟨rfl, rfl⟩

set_option maxRecDepth 100000 in
theorem put_zero (b : Nat) (ps : List (Int × Int)) (w : World) (h : Barrier w b ps) (hf : ps.length < 16) :
    Calls Try.prog 14 #[.pointer (some ⟨b, 0, none⟩), .int .i64 0, .int .i64 0] w fun e w' => e = .returned (.bool true) ∧ Mod (fun _ => False) w w' := by
  obtain ⟨f, hr, h1, h2⟩ := h
  have hc : w.cell? ⟨b, 32, none⟩ = some (.int .i64 ps.length) := hr.cell (by omega)
  have hb : ((ps.length : Int) == 16) = false := by rw [beq_eq_false_iff_ne]; omega
  go_enter Try.func14, Try.ntmps14
  go_wp2
  go_ret
  exact ⟨rfl, (Mod.refl _ w).alloc _⟩

theorem barrier_put {w : World} {b n : Nat} {x y : Int} {f : Nat → Int} {ps : List (Int × Int)} (hr : w.rowIs b 83 33 (bcell f ps.length)) (_h1 : ps.length ≤ 16)
    (h2 : ∀ i, i < ps.length → f (2 * i) = (ps.getD i (0, 0)).1 ∧ f (2 * i + 1) = (ps.getD i (0, 0)).2) (hn : n = ps.length) (hlt : n < 16) :
    Barrier ((((w.setCell ⟨b, n * 2, none⟩ (.int .i64 x)).setCell ⟨b, n * 2 + 1, none⟩ (.int .i64 y)).setCell ⟨b, 32, none⟩ (.int .i64 ((n : Int) + 1))).alloc (.cells #[.int .i64 x, .int .i64 y] 31)).drew b (ps ++ [(x, y)]) := by
  subst hn
  refine ⟨fun i => if i = 2 * ps.length then x else if i = 2 * ps.length + 1 then y else f i, ?_, by simp; omega, fun i hi => ?_⟩
  · refine ((((hr.set _ _).set _ _).set _ _).alloc _).congr (fun i hi => ?_)
    unfold bcell
    by_cases e1 : i = 32
    · subst e1; simp
    · rw [if_neg e1]
      by_cases e2 : i = ps.length * 2 + 1
      · rw [if_pos e2, if_pos (by omega)]
        dsimp only
        rw [if_neg (by omega), if_pos (by omega)]
      · rw [if_neg e2]
        by_cases e3 : i = ps.length * 2
        · rw [if_pos e3, if_pos (by omega)]
          dsimp only
          rw [if_pos (by omega)]
        · rw [if_neg e3, if_pos (by omega), if_pos (by omega)]
          dsimp only
          rw [if_neg (by omega), if_neg (by omega)]
  · rw [List.length_append] at hi
    simp only [List.length_cons, List.length_nil] at hi
    by_cases e : i = ps.length
    · subst e
      simp
    · have hlt2 : i < ps.length := by omega
      have := h2 i hlt2
      dsimp only
      rw [if_neg (by omega), if_neg (by omega), if_neg (by omega), if_neg (by omega)]
      rw [List.getD_eq_getElem?_getD, List.getElem?_append_left hlt2, ← List.getD_eq_getElem?_getD]
      exact this

set_option maxRecDepth 100000 in
theorem put_left (b : Nat) (x y : Int) (ps : List (Int × Int)) (w : World) (h : Barrier w b ps) (hf : ps.length < 16) (hx : ¬ x = 0) :
    Calls Try.prog 14 #[.pointer (some ⟨b, 0, none⟩), .int .i64 x, .int .i64 y] w fun e w' => e = .returned (.bool true) ∧ Barrier w' b (ps ++ [(x, y)]) ∧ Mod (fun k => k = b) w w' := by
  obtain ⟨f, hr, h1, h2⟩ := h
  have hc : w.cell? ⟨b, 32, none⟩ = some (.int .i64 ps.length) := hr.cell (by omega)
  have hb : ((ps.length : Int) == 16) = false := by rw [beq_eq_false_iff_ne]; omega
  have hbl := hr.lt
  obtain ⟨n, hn⟩ : ∃ n, n = ps.length := ⟨_, rfl⟩
  rw [← hn] at hf hc hb
  have hc0 : w.cell? ⟨b, n * 2, none⟩ = some (.int .i64 (f (n * 2))) := by
    rw [hr.cell (by omega)]; unfold bcell; rw [if_pos (by omega)]
  have hc1 : w.cell? ⟨b, n * 2 + 1, none⟩ = some (.int .i64 (f (n * 2 + 1))) := by
    rw [hr.cell (by omega)]; unfold bcell; rw [if_pos (by omega)]
  have hf0 := hr.frozen (n * 2)
  have hf1 := hr.frozen (n * 2 + 1)
  have hf32 := hr.frozen 32
  have HN := Lib.hid hn
  clear hn
  go_enter Try.func14, Try.ntmps14
  go_wp2
  go_region
  go_wp2
  go_ret
  exact ⟨rfl, barrier_put hr h1 h2 HN.out hf, ((Mod.setCell (Mod.setCell (Mod.setCell (Mod.refl (fun k => k = b) w) (p := ⟨b, n * 2, none⟩) (.inl rfl) _) (p := ⟨b, n * 2 + 1, none⟩) (.inl rfl) _) (p := ⟨b, 32, none⟩) (.inl rfl) _).alloc _).drew⟩

set_option maxRecDepth 100000 in
theorem put_right (b : Nat) (y : Int) (ps : List (Int × Int)) (w : World) (h : Barrier w b ps) (hf : ps.length < 16) (hy : ¬ y = 0) :
    Calls Try.prog 14 #[.pointer (some ⟨b, 0, none⟩), (.int .i64 0), .int .i64 y] w fun e w' => e = .returned (.bool true) ∧ Barrier w' b (ps ++ [(0, y)]) ∧ Mod (fun k => k = b) w w' := by
  obtain ⟨f, hr, h1, h2⟩ := h
  have hc : w.cell? ⟨b, 32, none⟩ = some (.int .i64 ps.length) := hr.cell (by omega)
  have hb : ((ps.length : Int) == 16) = false := by rw [beq_eq_false_iff_ne]; omega
  have hbl := hr.lt
  obtain ⟨n, hn⟩ : ∃ n, n = ps.length := ⟨_, rfl⟩
  rw [← hn] at hf hc hb
  have hc0 : w.cell? ⟨b, n * 2, none⟩ = some (.int .i64 (f (n * 2))) := by
    rw [hr.cell (by omega)]; unfold bcell; rw [if_pos (by omega)]
  have hc1 : w.cell? ⟨b, n * 2 + 1, none⟩ = some (.int .i64 (f (n * 2 + 1))) := by
    rw [hr.cell (by omega)]; unfold bcell; rw [if_pos (by omega)]
  have hf0 := hr.frozen (n * 2)
  have hf1 := hr.frozen (n * 2 + 1)
  have hf32 := hr.frozen 32
  have HN := Lib.hid hn
  clear hn
  go_enter Try.func14, Try.ntmps14
  go_wp2
  go_region
  go_wp2
  go_ret
  exact ⟨rfl, barrier_put hr h1 h2 HN.out hf, ((Mod.setCell (Mod.setCell (Mod.setCell (Mod.refl (fun k => k = b) w) (p := ⟨b, n * 2, none⟩) (.inl rfl) _) (p := ⟨b, n * 2 + 1, none⟩) (.inl rfl) _) (p := ⟨b, 32, none⟩) (.inl rfl) _).alloc _).drew⟩

/-- What Put leaves. -/
def bput (ps : List (Int × Int)) (x y : Int) : List (Int × Int) := if ps.length < 16 then (if x = 0 ∧ y = 0 then ps else ps ++ [(x, y)]) else ps

theorem bput_any (b : Nat) (x y : Int) (ps : List (Int × Int)) (w : World) (h : Barrier w b ps) :
    Calls Try.prog 14 #[.pointer (some ⟨b, 0, none⟩), .int .i64 x, .int .i64 y] w fun e w' => e = .returned (.bool (decide (ps.length < 16))) ∧ Barrier w' b (bput ps x y) ∧ Mod (fun k => k = b) w w' := by
  have hl := h.len
  unfold bput
  by_cases hf : ps.length < 16
  · rw [if_pos hf, decide_eq_true hf]
    by_cases hx : x = 0
    · by_cases hy : y = 0
      · subst hx; subst hy
        rw [if_pos ⟨rfl, rfl⟩]
        refine (put_zero b ps w h hf).mono ?_
        rintro e w' ⟨rfl, m⟩
        exact ⟨rfl, h.keep m (fun h => h), m.mono (fun _ _ h => h.elim)⟩
      · subst hx
        rw [if_neg (fun h => hy h.2)]
        exact put_right b y ps w h hf hy
    · rw [if_neg (fun h => hx h.1)]
      exact put_left b x y ps w h hf hx
  · rw [if_neg hf, decide_eq_false hf]
    refine (put_full b x y ps w h (by omega)).mono ?_
    rintro e w' ⟨rfl, rfl⟩
    exact ⟨rfl, h, Mod.refl _ _⟩

theorem zero_barrier (i : Nat) (hi : i < 33) : (Array.replicate 33 (Value.int .i64 0))[i]? = some (bcell (fun _ => 0) 0 i) := by
  rw [Array.getElem?_replicate, if_pos hi]
  unfold bcell
  split <;> rfl
theorem bnew (w : World) : Calls Try.prog 13 #[] w fun e w' => ∃ b, e = .returned (.pointer (some ⟨b, 0, none⟩)) ∧ w.heap.size ≤ b ∧ Barrier w' b [] ∧ Mod (fun _ => False) w w' := by
  go_enter Try.func13, Try.ntmps13
  go_wp2
  go_ret
  refine ⟨w.heap.size, rfl, Nat.le_refl _, ⟨fun _ => 0, ?_, by simp, fun i hi => by simp at hi⟩, (Mod.refl _ _).alloc _⟩
  exact World.rowIs_alloc w _ 83 (bcell (fun _ => 0) 0) (fun i hi => zero_barrier i hi)

theorem blen_nil (w : World) : Calls Try.prog 17 #[.pointer none] w fun e w' => e = .returned (.int .i64 0) ∧ w' = w := by
  go_enter Try.func17, Try.ntmps17
  go_wp2
  go_ret
  exact ⟨rfl, rfl⟩
theorem blen_any (b : Nat) (ps : List (Int × Int)) (w : World) (h : Barrier w b ps) : Calls Try.prog 17 #[.pointer (some ⟨b, 0, none⟩)] w fun e w' => e = .returned (.int .i64 ps.length) ∧ w' = w := by
  obtain ⟨f, hr, h1, h2⟩ := h
  have hc : w.cell? ⟨b, 32, none⟩ = some (.int .i64 ps.length) := hr.cell (by omega)
  go_enter Try.func17, Try.ntmps17
  go_wp2
  go_ret
  exact ⟨rfl, rfl⟩

/-! ### Slices of pairs -/

def pairsV (l : List (Int × Int)) : List Value := l.flatMap (fun p => [.int .i64 p.1, .int .i64 p.2])
theorem pairsV_len (l : List (Int × Int)) : (pairsV l).length = l.length * 2 := by
  induction l with
  | nil => rfl
  | cons p l ih =>
    have e : pairsV (p :: l) = .int .i64 p.1 :: .int .i64 p.2 :: pairsV l := rfl
    rw [e, List.length_cons, List.length_cons, ih, List.length_cons]
    omega
theorem pairsV_get (l : List (Int × Int)) (j : Nat) (hj : j < l.length) : (pairsV l)[2 * j]? = some (.int .i64 (l.getD j (0, 0)).1) ∧ (pairsV l)[2 * j + 1]? = some (.int .i64 (l.getD j (0, 0)).2) := by
  induction l generalizing j with
  | nil => simp at hj
  | cons p l ih =>
    have e : pairsV (p :: l) = .int .i64 p.1 :: .int .i64 p.2 :: pairsV l := rfl
    rw [e]
    cases j with
    | zero => exact ⟨rfl, rfl⟩
    | succ j =>
      have := ih j (by simpa using hj)
      rw [show 2 * (j + 1) = 2 * j + 1 + 1 by omega, List.getElem?_cons_succ, List.getElem?_cons_succ, List.getElem?_cons_succ, List.getElem?_cons_succ, List.getD_cons_succ]
      exact this
theorem pairsV_one (l : List (Int × Int)) : ∀ u ∈ pairsV l, u.oneCell' = true := by
  intro u hu
  obtain ⟨p, _, hp⟩ := List.mem_flatMap.1 hu
  simp at hp
  rcases hp with rfl | rfl <;> rfl
theorem pairsV_at (l : List (Int × Int)) {j : Nat} {u : Value} (h : (pairsV l)[j]? = some u) : ∃ i, i < l.length ∧ ((j = 2 * i ∧ u = .int .i64 (l.getD i (0, 0)).1) ∨ (j = 2 * i + 1 ∧ u = .int .i64 (l.getD i (0, 0)).2)) := by
  have hj : j < l.length * 2 := by rw [← pairsV_len]; exact (List.getElem?_eq_some_iff.1 h).1
  refine ⟨j / 2, by omega, ?_⟩
  have hg := pairsV_get l (j / 2) (by omega)
  by_cases e : j % 2 = 0
  · left
    have e2 : j = 2 * (j / 2) := by omega
    refine ⟨e2, ?_⟩
    rw [← e2, h] at hg
    exact Option.some.inj hg.1
  · right
    have e2 : j = 2 * (j / 2) + 1 := by omega
    refine ⟨e2, ?_⟩
    rw [← e2, h] at hg
    exact Option.some.inj hg.2

/-- The slice value '.slice A n c' reads as the list of pairs l. -/
def IsP (w : World) (A : Option Addr) (n : Nat) (l : List (Int × Int)) : Prop :=
  l.length = n ∧ (0 < n → ∃ g o, A = some ⟨g, o, none⟩ ∧ g < w.heap.size ∧ ∀ j, j < n → w.cell? ⟨g, o + 2 * j, none⟩ = some (.int .i64 (l.getD j (0, 0)).1) ∧ w.cell? ⟨g, o + (2 * j + 1), none⟩ = some (.int .i64 (l.getD j (0, 0)).2))
theorem IsP.keep {S : Nat → Prop} {w w' : World} {A : Option Addr} {n : Nat} {l : List (Int × Int)} (h : IsP w A n l) (m : Mod S w w') (hs : ∀ d, A = some d → ¬ S d.block) : IsP w' A n l := by
  refine ⟨h.1, fun hn => ?_⟩
  obtain ⟨g, o, e, hg, hc⟩ := h.2 hn
  refine ⟨g, o, e, Nat.lt_of_lt_of_le hg m.size, fun j hj => ?_⟩
  have h1 := hc j hj
  exact ⟨(m.cell (p := ⟨g, o + 2 * j, none⟩) hg (hs ⟨g, o, none⟩ e)).trans h1.1, (m.cell (p := ⟨g, o + (2 * j + 1), none⟩) hg (hs ⟨g, o, none⟩ e)).trans h1.2⟩

theorem pair_info : (Try.prog.info? 31).map (fun i => (i.zero, i.size, i.bytes)) = some (some (.agg #[.int .i64 0, .int .i64 0]), 2, 16) := by kernel_rfl

set_option maxHeartbeats 400000 in
set_option maxRecDepth 100000 in
theorem clonep_any (g o n c : Nat) (l : List (Int × Int)) (w : World) (h : IsP w (some ⟨g, o, none⟩) n l) (hn : n ≤ 1000) :
    Calls Try.prog 52 #[.slice (some ⟨g, o, none⟩) n c] w fun e w' => ∃ A' c', e = .returned (.slice A' n c') ∧ IsP w' A' n l ∧ (∀ d, A' = some d → w.heap.size ≤ d.block) ∧ Mod (fun _ => False) w w' := by
  have hnil := fun W => Lib.run_eql_slice_nil (P := Try.prog) W 22 31 (some ⟨g, o, none⟩) n c 0 0 Try.underlying22
  obtain ⟨i, hi, hzz⟩ := Option.map_eq_some_iff.1 pair_info
  simp only [Prod.mk.injEq] at hzz
  obtain ⟨hz, hsz, hby⟩ := hzz
  have hown : (w.alloc (.cells #[] 31)).ownsRow 0 31 2 (.slice (some ⟨w.heap.size, 0, none⟩) 0 0) 0 [] := ⟨rfl, .inr ⟨w.heap.size, 0, #[], rfl, Nat.zero_le _, heap_alloc_new w _, Nat.le_refl _, Nat.zero_le _, rfl, rfl⟩⟩
  have hnews : ∀ j u, (pairsV l)[j]? = some u → (w.alloc (.cells #[] 31)).cell? ((⟨g, o, none⟩ : Addr).add j) = some u := by
    intro j u hu
    obtain ⟨k, hk, hk2⟩ := pairsV_at l hu
    have hpos : 0 < n := by rw [← h.1]; omega
    obtain ⟨g', o', e, hgl, hc⟩ := h.2 hpos
    injection e with e
    injection e with e1 e2
    subst e1; subst e2
    have hck := hc k (by rw [← h.1]; exact hk)
    have ha : ∀ a : Addr, a.block = g → (w.alloc (.cells #[] 31)).cell? a = w.cell? a := fun a ha => ((Mod.refl (fun _ => False) w).alloc (.cells #[] 31)).cell (by rw [ha]; exact hgl) (fun h => h)
    have hadd : (⟨g, o, none⟩ : Addr).add j = ⟨g, o + j, none⟩ := by unfold Addr.add; split <;> simp_all
    rw [hadd, ha _ rfl]
    rcases hk2 with ⟨rfl, rfl⟩ | ⟨rfl, rfl⟩
    · exact hck.1
    · exact hck.2
  go_enter Try.func52, Try.ntmps52
  go_wp2_with (at_builtin; refine wpList_append_own_at _ rfl (.tmp 5) (.tmp 6) _ rfl 0 31 i _ 2 16 Try.underlying22 hi hz hsz hby rfl (by omega) (.slice (some ⟨w.heap.size, 0, none⟩) 0 0) 0 [] rfl hown ⟨g, o, none⟩ n c (pairsV l) rfl (by rw [pairsV_len, h.1]) hnews (pairsV_one l) (by simp only [maxLen]; omega) (by omega) (Nat.zero_le _) ?_; intro v2 w2 hown2 hg2 _ hat2)
  have hlen := h.1
  have hM : Mod (fun _ => False) w w2 := ((Mod.refl _ w).alloc _).grown hg2 (fun k hk => .inr (by simp [Value.ownBlock] at hk; omega))
  rcases hown2.2 with ⟨hv, h0⟩ | ⟨g', cap, cur, rfl, _, hh, hnc, _, hs, ht⟩
  · subst hv
    go_ret
    have hn0 : n = 0 := by omega
    subst hn0
    exact ⟨none, 0, rfl, ⟨hlen, fun h => by omega⟩, (fun d hd => by cases hd), hM⟩
  · go_ret
    rw [Nat.zero_add] at *
    refine ⟨some ⟨g', 0, none⟩, cap, rfl, ⟨hlen, fun _ => ⟨g', 0, rfl, lt_of_block hh, fun j hj => ?_⟩⟩, fun d hd => ?_, hM⟩
    · have hg := pairsV_get l j (by omega)
      have key : ∀ k u, (pairsV l)[k]? = some u → w2.cell? ⟨g', 0 + k, none⟩ = some u := by
        intro k u hu
        have hkl : k < n * 2 := by rw [← hlen, ← pairsV_len]; exact (List.getElem?_eq_some_iff.1 hu).1
        rw [Nat.zero_add, cell_of_row w2 g' k cur 31 (0, 0) hh]
        have e : (cur.toList.take (n * 2))[k]? = some u := by rw [ht]; simpa using hu
        rw [List.getElem?_take, if_pos hkl] at e
        simpa using e
      exact ⟨key _ _ hg.1, key _ _ hg.2⟩
    · cases hd
      rcases hat2 with e | e
      · simp [Value.ownBlock] at e; show w.heap.size ≤ g'; omega
      · simp [Value.ownBlock] at e; show w.heap.size ≤ g'; omega

theorem ball_nil (w : World) : Calls Try.prog 16 #[.pointer none] w fun e w' => e = .returned (.slice none 0 0) ∧ w' = w := by
  go_enter Try.func16, Try.ntmps16
  go_wp2
  go_ret
  exact ⟨rfl, rfl⟩

theorem Barrier.pairs {w : World} {b : Nat} {ps : List (Int × Int)} (h : Barrier w b ps) : IsP w (some ⟨b, 0, none⟩) ps.length ps := by
  obtain ⟨f, hr, h1, h2⟩ := h
  refine ⟨rfl, fun _ => ⟨b, 0, rfl, hr.lt, fun j hj => ?_⟩⟩
  have h3 := h2 j hj
  rw [Nat.zero_add, Nat.zero_add, hr.cell (by omega), hr.cell (by omega)]
  unfold bcell
  rw [if_pos (by omega), if_pos (by omega), h3.1, h3.2]
  exact ⟨rfl, rfl⟩

set_option maxHeartbeats 400000 in
theorem ball_any (b : Nat) (ps : List (Int × Int)) (w : World) (h : Barrier w b ps) :
    Calls Try.prog 16 #[.pointer (some ⟨b, 0, none⟩)] w fun e w' => ∃ A c, e = .returned (.slice A ps.length c) ∧ IsP w' A ps.length ps ∧ (∀ d, A = some d → w.heap.size ≤ d.block) ∧ Mod (fun _ => False) w w' := by
  have hp := h.pairs
  have hl := h.len
  obtain ⟨f, hr, h1, h2⟩ := h
  have hc : w.cell? ⟨b, 32, none⟩ = some (.int .i64 ps.length) := hr.cell (by omega)
  obtain ⟨n, hn⟩ : ∃ n, n = ps.length := ⟨_, rfl⟩
  rw [← hn] at hc hp hl ⊢
  have hi0 : (0 : Int) ≤ (n : Int) := by omega
  have hi1 : (n : Int) ≤ 16 := by omega
  clear hr h1 h2 hn
  go_enter Try.func16, Try.ntmps16
  go_wp2
  go_region_with (go_at_call 52; refine (clonep_any b 0 n 16 ps _ (hp.keep ((Mod.refl (fun _ => False) w).drew) (fun _ _ h => h)) (by omega)).mono ?_; rintro e w1 ⟨A1, c1, rfl, g1, g2, g3⟩)
  go_wp2
  go_ret
  exact ⟨A1, c1, rfl, g1, g2, ((Mod.refl _ w).drew).trans g3⟩

/-- A number is told once. -/
def add1 (out : List Int) (v : Int) : List Int := if v = 0 ∨ v ∈ out then out else out ++ [v]
def nums (ps : List (Int × Int)) : List Int := ps.flatMap (fun p => [p.1, p.2])
def told1 (l : List Int) : List Int := l.foldl add1 []
theorem told1_snoc (l : List Int) (v : Int) : told1 (l ++ [v]) = add1 (told1 l) v := by unfold told1; rw [List.foldl_append]; rfl
theorem add1_len (out : List Int) (v : Int) : (add1 out v).length ≤ out.length + 1 := by unfold add1; split <;> simp
theorem told1_len (l : List Int) : (told1 l).length ≤ l.length := by
  have key : ∀ (l out : List Int), (l.foldl add1 out).length ≤ out.length + l.length := by
    intro l
    induction l with
    | nil => intro out; simp
    | cons v l ih => intro out; have h1 := ih (add1 out v); have h2 := add1_len out v; simp only [List.foldl_cons, List.length_cons]; omega
  have := key l []
  simpa [told1] using this
theorem nums_take (ps : List (Int × Int)) {k : Nat} (hk : k < ps.length) : nums (ps.take (k + 1)) = nums (ps.take k) ++ [(ps.getD k (0, 0)).1] ++ [(ps.getD k (0, 0)).2] := by
  unfold nums
  rw [List.take_succ_eq_append_getElem hk, List.flatMap_append, List.getD_eq_getElem?_getD, List.getElem?_eq_getElem hk]
  simp
theorem nums_len (ps : List (Int × Int)) : (nums ps).length = 2 * ps.length := by
  induction ps with
  | nil => rfl
  | cons p l ih =>
    have e : nums (p :: l) = p.1 :: p.2 :: nums l := rfl
    rw [e, List.length_cons, List.length_cons, ih, List.length_cons]
    omega

/-- What Flush tells of the pairs ps. -/
def flushed (ps : List (Int × Int)) : List Int := told1 (nums ps)

end Go.Proofs.Ytjjbcfbljnekgaa
