/-
  The contracts of package ring, second part: Steal, Del.
-/
import Derived.Test.YtgojfccaohngaaaRing
import Derived.LaidEqlPtr
namespace Go.Proofs.Ytgojfccaohngaaa
open Go.RowKit

theorem info86 : (Try.prog.info? 86).map (fun i => i.size) = some 260 := by kernel_rfl

def rsteal (row orow : List Int) (onxt : Option Int) : Nat × List Int × List Int × Option Int :=
  match orow, onxt with
  | [], some g => if row.length < 256 then (1, row ++ [g], [], none) else (0, row, [], some g)
  | _, _ => (min (orow.length - orow.length / 2) (256 - row.length), row ++ orow.take (min (orow.length - orow.length / 2) (256 - row.length)), orow.drop (min (orow.length - orow.length / 2) (256 - row.length)), onxt)

theorem ring_ptr_ne {w : World} {b o : Nat} {row orow : List Int} {nxt onxt : Option Int} (h : Ring w b row nxt) (ho : Ring w o orow onxt) (hne : b ≠ o) :
    (binOp .eql 31 (.pointer (some ⟨b, 0, none⟩)) (.pointer (some ⟨o, 0, none⟩))).run Try.prog w = .ok (.bool false) w := by
  obtain ⟨_, _, _, ⟨c, hc, _⟩, _⟩ := h
  obtain ⟨_, _, _, ⟨d, hd, _⟩, _⟩ := ho
  obtain ⟨i, hi, hz⟩ := Option.map_eq_some_iff.1 info86
  exact run_eql_ptr_other w Try.underlying31 hi (by rw [hz]; decide) (by intro e; injection e; contradiction) hc hd
theorem ring_ptr_same (w : World) (b : Nat) :
    (binOp .eql 31 (.pointer (some ⟨b, 0, none⟩)) (.pointer (some ⟨b, 0, none⟩))).run Try.prog w = .ok (.bool true) w := by
  obtain ⟨i, hi, hz⟩ := Option.map_eq_some_iff.1 info86
  exact run_eql_ptr_same w _ Try.underlying31 hi

theorem steal_self (b : Nat) (w : World) : Calls Try.prog 32 #[.pointer (some ⟨b, 0, none⟩), .pointer (some ⟨b, 0, none⟩)] w fun e w' => e = .returned (.int .i64 0) ∧ w' = w := by
  have hp := ring_ptr_same w b
  go_enter Try.func32, Try.ntmps32
  go_wp2
  go_ret
  exact ⟨rfl, rfl⟩
theorem steal_none (b : Nat) (w : World) : Calls Try.prog 32 #[.pointer (some ⟨b, 0, none⟩), .pointer none] w fun e w' => e = .returned (.int .i64 0) ∧ w' = w := by
  go_enter Try.func32, Try.ntmps32
  go_wp2
  go_ret
  exact ⟨rfl, rfl⟩

set_option maxHeartbeats 400000 in
set_option maxRecDepth 100000 in
theorem steal_next (b o : Nat) (row : List Int) (nxt : Option Int) (g : Int) (w : World) (h : Ring w b row nxt) (ho : Ring w o [] (some g)) (hne : b ≠ o) (hlt : row.length < 256) :
    Calls Try.prog 32 #[.pointer (some ⟨b, 0, none⟩), .pointer (some ⟨o, 0, none⟩)] w fun e w' => e = .returned (.int .i64 1) ∧ Ring w' b (row ++ [g]) nxt ∧ Ring w' o [] none ∧ Mod (fun i => i = b ∨ i = o) w w' := by
  have hp := ring_ptr_ne h ho hne
  have ho1 : Ring (w.setCell ⟨o, 259, none⟩ (.bool false)) o [] none := ho.noNext
  have m1 : Mod (· = o) w (w.setCell ⟨o, 259, none⟩ (.bool false)) := Mod.setCell (Mod.refl (· = o) w) (p := ⟨o, 259, none⟩) (.inl rfl) _
  have h1 := h.keep m1 hne
  obtain ⟨h257, h259, ⟨nx, h258, hnx⟩, hfz⟩ := ho.cells
  obtain rfl := hnx g rfl
  have f259 := hfz 259
  have h257' : w.cell? ⟨o, 257, none⟩ = some (.int .i64 0) := h257
  have h259' : w.cell? ⟨o, 259, none⟩ = some (.bool true) := h259
  have r257 := h.cells.1
  clear h257 h259 hnx hfz
  go_enter Try.func32, Try.ntmps32
  go_wp2_with (go_at_call 58; refine (behind_room b _ row nxt _ h1 hlt).mono ?_; rintro e w2 ⟨rfl, h2, m2⟩)
  go_ret
  refine ⟨rfl, h2, ho1.keep m2 (fun e => hne e.symm), ?_⟩
  exact (m1.mono (fun i _ e => .inr e)).trans' m2 (fun i _ e => .inl e)

set_option maxHeartbeats 800000 in
set_option maxRecDepth 100000 in
theorem steal_row (b o : Nat) (row orow : List Int) (nxt onxt : Option Int) (w : World) (h : Ring w b row nxt) (ho : Ring w o orow onxt) (hne : b ≠ o) (hgo : orow ≠ [] ∨ onxt = none ∨ row.length = 256) :
    Calls Try.prog 32 #[.pointer (some ⟨b, 0, none⟩), .pointer (some ⟨o, 0, none⟩)] w fun e w' =>
      e = .returned (.int .i64 (min (orow.length - orow.length / 2) (256 - row.length) : Nat)) ∧ Ring w' b (row ++ orow.take (min (orow.length - orow.length / 2) (256 - row.length))) nxt ∧
      Ring w' o (orow.drop (min (orow.length - orow.length / 2) (256 - row.length))) onxt ∧ Mod (fun i => i = b ∨ i = o) w w' := by
  have hp := ring_ptr_ne h ho hne
  have hlen := h.len
  have holen := ho.len
  have r257 := h.cells.1
  obtain ⟨h257, h259, _, _⟩ := ho.cells
  obtain ⟨N, hN⟩ : ∃ N, N = min (orow.length - orow.length / 2) (256 - row.length) := ⟨_, rfl⟩
  rw [← hN]
  obtain ⟨m, hm⟩ : ∃ m, m = row.length := ⟨_, rfl⟩
  obtain ⟨n, hn⟩ : ∃ n, n = orow.length := ⟨_, rfl⟩
  rw [← hm] at r257 hlen
  rw [← hn] at h257 holen
  have HN := Lib.hid hN
  have Hm := Lib.hid hm
  have Hn := Lib.hid hn
  have Hgo := Lib.hid hgo
  have hN256 : N ≤ 256 := by omega
  clear hN hm hn hgo
  by_cases h0 : n = 0
  · have hN0 : N = 0 := by have := HN.out; have := Hn.out; omega
    subst hN0
    rw [List.take_zero, List.append_nil, List.drop_zero]
    subst h0
    have h257' : w.cell? ⟨o, 257, none⟩ = some (.int .i64 0) := h257
    clear h257
    cases onxt with
    | none =>
      have h259' : w.cell? ⟨o, 259, none⟩ = some (.bool false) := h259
      clear h259
      go_enter Try.func32, Try.ntmps32
      go_wp2
      go_region
      go_wp2
      refine wp_loop_rounds 1 ?_
      rw [rounds_succ]
      go_wp2
      go_ret
      exact ⟨rfl, h, ho, (Mod.refl _ w).drewN 1⟩
    | some y =>
      have h259' : w.cell? ⟨o, 259, none⟩ = some (.bool true) := h259
      have hm256 : m = 256 := by
        have := Hm.out
        have hl := List.length_eq_zero_iff.1 Hn.out.symm
        rcases Hgo.out with e | e | e
        · exact absurd hl e
        · cases e
        · omega
      subst hm256
      clear h259
      go_enter Try.func32, Try.ntmps32
      go_wp2
      go_region
      go_wp2
      refine wp_loop_rounds 1 ?_
      rw [rounds_succ]
      go_wp2
      go_ret
      exact ⟨rfl, h, ho, (Mod.refl _ w).drewN 1⟩
  · by_cases hle : n - n / 2 ≤ 256 - m
    · have hle' : (n : Int) - n / 2 ≤ 256 - m := by omega
      have e5 : (n : Int) - n / 2 = N := by have := HN.out; have := Hn.out; have := Hm.out; omega
      have E5 := Lib.hid e5
      clear e5 hle
      go_enter Try.func32, Try.ntmps32
      go_wp2
      go_region
      go_wp2
      rw [E5.out]
      go_loopw [61] (fun i wr => ∃ k : Nat, k ≤ N ∧ i = .int .i64 k ∧ Ring wr b (row ++ orow.take k) nxt ∧ Ring wr o (orow.drop k) onxt ∧ Mod (fun i => i = b ∨ i = o) w wr) (fun i _ => N - (intOf i).toNat)
      case atStart => exact ⟨0, by omega, rfl, by rw [List.take_zero, List.append_nil]; exact h, by rw [List.drop_zero]; exact ho, (Mod.refl _ w).drewN 1⟩
      case round =>
        obtain ⟨k, hk, rfl, hr1, hr2, hmod⟩ := hrel
        by_cases hk2 : k < N
        · obtain ⟨x, e1, e2, e3⟩ := drop_cons orow (k := k) (by have := HN.out; omega)
          have hr3 : Ring wr o (x :: orow.drop (k + 1)) onxt := by rw [← e1]; exact hr2
          have hr4 : (row ++ orow.take k).length < 256 := by
            rw [List.length_append, List.length_take]
            have := HN.out
            omega
          have E2 := Lib.hid e2
          clear e1 e2 e3
          go_wp2_with (first
            | (go_at_call 59; refine (first_any o x _ _ _ hr3).mono ?_; rintro e w2 ⟨rfl, h2, m2⟩)
            | (go_at_call 58; refine (behind_room b x _ _ _ (hr1.keep m2 hne) hr4).mono ?_; rintro e w3 ⟨rfl, h3, m3⟩))
          have m4 : Mod (fun i => i = b ∨ i = o) w w3 := (hmod.trans' m2 (fun i _ e => .inr e)).trans' m3 (fun i _ e => .inl e)
          have h5 := h2.keep m3 (fun e => hne e.symm)
          go_roundw
          case rel => exact ⟨k + 1, by omega, by go_num, by rw [E2.out, ← List.append_assoc]; exact h3, h5, m4⟩
          case measure => simp [intOf]; omega
        · have hkN : k = N := by omega
          have Hk := Lib.hid hkN
          clear hkN
          go_wp2
          obtain rfl := Hk.out
          go_ret
          exact ⟨rfl, hr1, hr2, hmod⟩
    · have hle' : ¬ (n : Int) - n / 2 ≤ 256 - m := by omega
      have e5 : (256 : Int) - m = N := by have := HN.out; have := Hn.out; have := Hm.out; omega
      have E5 := Lib.hid e5
      clear e5 hle
      go_enter Try.func32, Try.ntmps32
      go_wp2
      go_region
      go_wp2
      rw [E5.out]
      go_loopw [61] (fun i wr => ∃ k : Nat, k ≤ N ∧ i = .int .i64 k ∧ Ring wr b (row ++ orow.take k) nxt ∧ Ring wr o (orow.drop k) onxt ∧ Mod (fun i => i = b ∨ i = o) w wr) (fun i _ => N - (intOf i).toNat)
      case atStart => exact ⟨0, by omega, rfl, by rw [List.take_zero, List.append_nil]; exact h, by rw [List.drop_zero]; exact ho, (Mod.refl _ w).drewN 1⟩
      case round =>
        obtain ⟨k, hk, rfl, hr1, hr2, hmod⟩ := hrel
        by_cases hk2 : k < N
        · obtain ⟨x, e1, e2, e3⟩ := drop_cons orow (k := k) (by have := HN.out; omega)
          have hr3 : Ring wr o (x :: orow.drop (k + 1)) onxt := by rw [← e1]; exact hr2
          have hr4 : (row ++ orow.take k).length < 256 := by
            rw [List.length_append, List.length_take]
            have := HN.out
            omega
          have E2 := Lib.hid e2
          clear e1 e2 e3
          go_wp2_with (first
            | (go_at_call 59; refine (first_any o x _ _ _ hr3).mono ?_; rintro e w2 ⟨rfl, h2, m2⟩)
            | (go_at_call 58; refine (behind_room b x _ _ _ (hr1.keep m2 hne) hr4).mono ?_; rintro e w3 ⟨rfl, h3, m3⟩))
          have m4 : Mod (fun i => i = b ∨ i = o) w w3 := (hmod.trans' m2 (fun i _ e => .inr e)).trans' m3 (fun i _ e => .inl e)
          have h5 := h2.keep m3 (fun e => hne e.symm)
          go_roundw
          case rel => exact ⟨k + 1, by omega, by go_num, by rw [E2.out, ← List.append_assoc]; exact h3, h5, m4⟩
          case measure => simp [intOf]; omega
        · have hkN : k = N := by omega
          have Hk := Lib.hid hkN
          clear hkN
          go_wp2
          obtain rfl := Hk.out
          go_ret
          exact ⟨rfl, hr1, hr2, hmod⟩

theorem steal_any (b o : Nat) (row orow : List Int) (nxt onxt : Option Int) (w : World) (h : Ring w b row nxt) (ho : Ring w o orow onxt) (hne : b ≠ o) :
    Calls Try.prog 32 #[.pointer (some ⟨b, 0, none⟩), .pointer (some ⟨o, 0, none⟩)] w fun e w' =>
      e = .returned (.int .i64 ((rsteal row orow onxt).1 : Nat)) ∧ Ring w' b (rsteal row orow onxt).2.1 nxt ∧ Ring w' o (rsteal row orow onxt).2.2.1 (rsteal row orow onxt).2.2.2 ∧ Mod (fun i => i = b ∨ i = o) w w' := by
  by_cases hc : orow = [] ∧ onxt ≠ none ∧ row.length < 256
  · obtain ⟨rfl, h2, h3⟩ := hc
    obtain ⟨g, rfl⟩ := Option.ne_none_iff_exists'.1 h2
    have e : rsteal row [] (some g) = (1, row ++ [g], [], none) := by simp [rsteal, h3]
    rw [e]
    exact (steal_next b o row nxt g w h ho hne h3)
  · have hlen := h.len
    have hgo : orow ≠ [] ∨ onxt = none ∨ row.length = 256 := by
      by_cases h1 : orow = []
      · by_cases h2 : onxt = none
        · exact .inr (.inl h2)
        · refine .inr (.inr ?_)
          by_cases h3 : row.length < 256
          · exact absurd ⟨h1, h2, h3⟩ hc
          · omega
      · exact .inl h1
    have e : rsteal row orow onxt = (min (orow.length - orow.length / 2) (256 - row.length), row ++ orow.take (min (orow.length - orow.length / 2) (256 - row.length)), orow.drop (min (orow.length - orow.length / 2) (256 - row.length)), onxt) := by
      unfold rsteal
      cases orow with
      | nil =>
        cases onxt with
        | none => rfl
        | some g =>
          have h3 : row.length = 256 := by
            rcases hgo with e | e | e
            · exact absurd rfl e
            · cases e
            · exact e
          simp [h3]
      | cons x r => rfl
    rw [e]
    exact steal_row b o row orow nxt onxt w h ho hne hgo

/-! ### Del -/

theorem Ring.setAt {w : World} {b f k : Nat} {row : List Int} {nxt : Option Int} (h : Ring w b row nxt) (hf : w.cell? ⟨b, 256, none⟩ = some (.int .i64 f)) (hf2 : f < 256) (hk : k < row.length) (x : Int) :
    Ring (w.setCell ⟨b, (f + k) % 256, none⟩ (.int .i64 x)) b (row.set k x) nxt := by
  obtain ⟨l, f', nx, hr, hf', hn, hl, hx⟩ := h
  have hff : f' = f := by
    have h1 : w.cell? ⟨b, 256, none⟩ = some (.int .i64 (f' : Int)) := hr.cell (by omega)
    rw [h1] at hf
    injection hf with hf
    injection hf with _ hf
    omega
  subst hff
  refine ⟨_, f', nx, by rw [List.length_set]; exact rc_at hr (Nat.mod_lt _ (by omega)) x, hf', by rw [List.length_set]; exact hn, fun i hi => ?_, hx⟩
  rw [List.length_set] at hi
  rw [List.getD_eq_getElem?_getD, List.getElem?_set]
  by_cases e : k = i
  · subst e
    simp [hk]
  · have : ¬ (f' + i) % 256 = (f' + k) % 256 := by omega
    simp only [if_neg this, if_neg e]
    rw [← List.getD_eq_getElem?_getD]
    exact hl i hi
theorem Ring.pop {w : World} {b n : Nat} {row : List Int} {nxt : Option Int} (h : Ring w b row nxt) (hn : n ≤ row.length) {v : Int} (hv : v = n) : Ring (w.setCell ⟨b, 257, none⟩ (.int .i64 v)) b (row.take n) nxt := by
  obtain ⟨l, f, nx, hr, hf, hn', hl, hx⟩ := h
  refine ⟨l, f, nx, rc_n hr _ (by rw [List.length_take]; omega), hf, by rw [List.length_take]; omega, fun i hi => ?_, hx⟩
  rw [List.length_take] at hi
  rw [hl i (by omega), List.getD_eq_getElem?_getD, List.getD_eq_getElem?_getD, List.getElem?_take, if_pos (by omega)]

/-- The row while it is pushed together behind i, as far as k. -/
def shove (row : List Int) (i k : Nat) : List Int := (row.eraseIdx i).take k ++ row.drop k
theorem shove_start (row : List Int) (i : Nat) (hi : i < row.length) : shove row i i = row := by
  unfold shove
  rw [List.eraseIdx_eq_take_drop_succ, List.take_left' (by rw [List.length_take]; omega), List.take_append_drop]
theorem shove_len (row : List Int) (i k : Nat) (hi : i < row.length) (hk : k < row.length) : (shove row i k).length = row.length := by
  unfold shove
  rw [List.length_append, List.length_take, List.length_drop, List.length_eraseIdx, if_pos hi]
  omega
theorem shove_at (row : List Int) (i k : Nat) (hi : i < row.length) (hk : k + 1 < row.length) : (shove row i k).getD (k + 1) 0 = row.getD (k + 1) 0 := by
  unfold shove
  rw [List.getD_eq_getElem?_getD, List.getD_eq_getElem?_getD, List.getElem?_append_right (by rw [List.length_take]; omega), List.length_take, List.length_eraseIdx, if_pos hi, List.getElem?_drop]
  congr 2
  omega
theorem shove_step (row : List Int) (i k : Nat) (hi : i < row.length) (hik : i ≤ k) (hk : k + 1 < row.length) : (shove row i k).set k (row.getD (k + 1) 0) = shove row i (k + 1) := by
  apply List.ext_getElem?
  intro j
  have hl : (row.eraseIdx i).length = row.length - 1 := by rw [List.length_eraseIdx, if_pos hi]
  rw [List.getElem?_set, shove_len row i k hi (by omega)]
  unfold shove
  by_cases e : k = j
  · subst e
    rw [if_pos rfl, if_pos (by omega), List.getElem?_append_left (by rw [List.length_take]; omega), List.getElem?_take, if_pos (by omega), List.getElem?_eraseIdx, if_neg (by omega),
      List.getD_eq_getElem?_getD, List.getElem?_eq_getElem hk]
    rfl
  · rw [if_neg e]
    by_cases hj : j < k
    · rw [List.getElem?_append_left (by rw [List.length_take]; omega), List.getElem?_append_left (by rw [List.length_take]; omega), List.getElem?_take, List.getElem?_take, if_pos hj, if_pos (by omega)]
    · rw [List.getElem?_append_right (by rw [List.length_take]; omega), List.getElem?_append_right (by rw [List.length_take]; omega), List.length_take, List.length_take, List.getElem?_drop, List.getElem?_drop]
      congr 1
      omega
theorem shove_end (row : List Int) (i : Nat) (hi : i < row.length) : (shove row i (row.length - 1)).take (row.length - 1) = row.eraseIdx i := by
  unfold shove
  have hl : (row.eraseIdx i).length = row.length - 1 := by rw [List.length_eraseIdx, if_pos hi]
  rw [List.take_of_length_le (l := row.eraseIdx i) (by omega), List.take_left' hl]

def rdel (row : List Int) (nxt : Option Int) (g : Int) : Bool × List Int × Option Int :=
  if nxt = some g then (true, row, none) else (decide (g ∈ row), row.erase g, nxt)

theorem del_nil (g : Int) (w : World) : Calls Try.prog 33 #[.pointer none, .int .i64 g] w fun e w' => e = .returned (.bool false) ∧ w' = w := by
  go_enter Try.func33, Try.ntmps33
  go_wp2
  go_ret
  exact ⟨rfl, rfl⟩

theorem del_next (b : Nat) (row : List Int) (g : Int) (w : World) (h : Ring w b row (some g)) :
    Calls Try.prog 33 #[.pointer (some ⟨b, 0, none⟩), .int .i64 g] w fun e w' => e = .returned (.bool true) ∧ Ring w' b row none ∧ Mod (· = b) w w' := by
  obtain ⟨h257, h259, ⟨nx, h258, hnx⟩, hfz⟩ := h.cells
  obtain rfl := hnx g rfl
  have f259 := hfz 259
  have h259' : w.cell? ⟨b, 259, none⟩ = some (.bool true) := h259
  clear h257 h259 hnx hfz
  go_enter Try.func33, Try.ntmps33
  go_wp2
  go_ret
  exact ⟨rfl, h.noNext, Mod.setCell (Mod.refl (· = b) w) (p := ⟨b, 259, none⟩) (.inl rfl) _⟩

/-- g stands at none of the first k places. -/
def NotYet (row : List Int) (g : Int) (k : Nat) : Prop := ∀ j, j < k → row.getD j 0 ≠ g
theorem NotYet.snoc {row : List Int} {g : Int} {k : Nat} (h : NotYet row g k) (hk : row.getD k 0 ≠ g) : NotYet row g (k + 1) := by
  intro j hj
  by_cases e : j = k
  · subst e; exact hk
  · exact h j (by omega)
theorem NotYet.none {row : List Int} {g : Int} (h : NotYet row g row.length) : g ∉ row := by
  intro hm
  obtain ⟨i, hi, e⟩ := List.getElem_of_mem hm
  refine h i hi ?_
  rw [List.getD_eq_getElem?_getD, List.getElem?_eq_getElem hi]
  exact e
theorem mem_first (row : List Int) {g : Int} {k : Nat} (hk : k < row.length) (e : row.getD k 0 = g) : g ∈ row := by
  rw [List.getD_eq_getElem?_getD, List.getElem?_eq_getElem hk] at e
  have e' : row[k] = g := e
  rw [← e']
  exact List.getElem_mem hk
theorem erase_first (row : List Int) {g : Int} {k : Nat} (h : NotYet row g k) (hk : k < row.length) (e : row.getD k 0 = g) : row.erase g = row.eraseIdx k := by
  induction row generalizing k with
  | nil => simp at hk
  | cons a r ih =>
    cases k with
    | zero =>
      have e' : a = g := by simpa using e
      subst e'
      simp
    | succ k =>
      have ha : a ≠ g := by simpa using h 0 (by omega)
      rw [List.erase_cons_tail (by simpa using ha), List.eraseIdx_cons_succ, ih (k := k) (fun j hj => by simpa using h (j + 1) (by omega)) (by simpa using hk) (by simpa using e)]

set_option maxHeartbeats 800000 in
set_option maxRecDepth 100000 in
theorem del_row (b : Nat) (row : List Int) (nxt : Option Int) (g : Int) (w : World) (h : Ring w b row nxt) (hne : nxt ≠ some g) :
    Calls Try.prog 33 #[.pointer (some ⟨b, 0, none⟩), .int .i64 g] w fun e w' => e = .returned (.bool (decide (g ∈ row))) ∧ Ring w' b (row.erase g) nxt ∧ Mod (· = b) w w' := by
  have hlen := h.len
  obtain ⟨h257, h259, ⟨nx, h258, hnx⟩, _⟩ := h.cells
  have hdec : nxt = none ∨ ∃ y, nxt = some y ∧ (y == g) = false := by
    cases nxt with
    | none => exact .inl rfl
    | some y => exact .inr ⟨y, rfl, by rw [beq_eq_false_iff_ne]; intro e; exact hne (by rw [e])⟩
  have HX := Lib.hid hnx
  clear hnx hne
  rcases hdec with e | ⟨y, e, hy⟩
  · subst e
    have h259' : w.cell? ⟨b, 259, none⟩ = some (.bool false) := h259
    clear h259 HX h258
    go_enter Try.func33, Try.ntmps33
    go_wp2
    go_loopw [28] (fun i wr => ∃ k : Nat, k ≤ row.length ∧ i = .int .i64 k ∧ NotYet row g k ∧ Mod (fun _ => False) w wr) (fun i _ => row.length - (intOf i).toNat)
    case atStart => exact ⟨0, by omega, rfl, (fun j hj => by omega), Mod.refl _ w⟩
    case round =>
      obtain ⟨k, hk, rfl, hny, hmod⟩ := hrel
      have hring := h.keep hmod (fun h => h)
      by_cases hk2 : k < row.length
      · obtain ⟨f, hf, h256, hcs⟩ := hring.at_
        obtain ⟨x, _, _, e3⟩ := drop_cons row hk2
        have hcx := hcs k hk2
        rw [e3] at hcx
        have E3 := Lib.hid e3
        clear hcs e3
        by_cases hxg : x = g
        · have hb : (x != g) = false := by simpa using hxg
          have HXG := Lib.hid hxg
          clear hxg
          go_wp2_with (go_at_call 60; refine (at_any b f _ _ hf (by omega) (by omega) h256).mono ?_; rintro e w2 ⟨rfl, kk, rfl⟩)
          obtain ⟨wo, hwo⟩ : ∃ wo : World, wo = wr.drewN kk := ⟨_, rfl⟩
          rw [← hwo]
          have hringo : Ring wo b row none := by rw [hwo]; exact hring.keep ((Mod.refl (fun _ => False) wr).drewN kk) (fun h => h)
          have hmodo : Mod (· = b) w wo := by rw [hwo]; exact (hmod.drewN kk).mono (fun _ _ h => h.elim)
          clear hwo h256 hcx hring hmod h259' h257
          go_loopw [6] (fun v wi => ∃ q : Nat, k ≤ q ∧ q < row.length ∧ v = .int .i64 q ∧ Ring wi b (shove row k q) none ∧ Mod (· = b) w wi) (fun v _ => row.length - (intOf v).toNat)
          case atStart => exact ⟨k, by omega, hk2, rfl, by rw [shove_start row k hk2]; exact hringo, hmodo⟩
          case round =>
            obtain ⟨q, hkq, hq, rfl, hri, hmi⟩ := hrel
            obtain ⟨f1, hf1, h256, hcs⟩ := hri.at_
            have c257 := hri.cells.1
            have f257 := hri.cells.2.2.2 257
            rw [shove_len row k q hk2 hq] at c257 hcs
            by_cases hq2 : q + 1 < row.length
            · have hy := hcs (q + 1) hq2
              have hy0 := hcs q hq
              rw [shove_at row k q hk2 hq2] at hy
              obtain ⟨y, ey⟩ : ∃ y, y = row.getD (q + 1) 0 := ⟨_, rfl⟩
              obtain ⟨y0, ey0⟩ : ∃ y, y = (shove row k q).getD q 0 := ⟨_, rfl⟩
              rw [← ey] at hy
              rw [← ey0] at hy0
              have hfz := hri.cells.2.2.2 ((f1 + q) % 256)
              have EY := Lib.hid ey
              clear hcs ey ey0
              go_wp2_with (go_at_call 60; refine (at_any b f1 _ _ hf1 (by omega) (by omega) (by first | exact h256 | simpa using h256)).mono ?_; rintro e w3 ⟨rfl, k3, rfl⟩)
              have hs : ∀ kk, Ring ((wr.drewN kk).setCell ⟨b, (f1 + q) % 256, none⟩ (.int .i64 y)) b (shove row k (q + 1)) none := by
                intro kk
                have h1 := (hri.keep ((Mod.refl (fun _ => False) wr).drewN kk) (fun h => h)).setAt (f := f1) h256 hf1 (k := q) (by rw [shove_len row k q hk2 hq]; exact hq) y
                rw [EY.out, shove_step row k q hk2 hkq hq2, ← EY.out] at h1
                exact h1
              go_roundw
              case rel => exact ⟨q + 1, by omega, by omega, by go_num, hs _, Mod.setCell (hmi.drewN _) (p := ⟨b, (f1 + q) % 256, none⟩) (.inl rfl) _⟩
              case measure => simp [intOf]; omega
            · clear hcs h256
              have hql : q = row.length - 1 := by omega
              have HQ := Lib.hid hql
              clear hql
              go_wp2
              have h5 := hri.pop (n := row.length - 1) (by rw [shove_len row k q hk2 hq]; omega) (v := (row.length : Int) - 1) (by omega)
              have h6 := shove_end row k hk2
              rw [← HQ.out] at h6 h5
              rw [h6, ← erase_first row hny hk2 (by rw [E3.out, HXG.out])] at h5
              have hmem : g ∈ row := mem_first row hk2 (by rw [E3.out, HXG.out])
              rw [decide_eq_true hmem]
              go_ret
              exact ⟨rfl, h5, Mod.setCell hmi (p := ⟨b, 257, none⟩) (.inl rfl) _⟩
        · have hb : (x != g) = true := by simpa using hxg
          have hny2 : NotYet row g (k + 1) := hny.snoc (by rw [E3.out]; exact hxg)
          clear hxg
          go_wp2_with (go_at_call 60; refine (at_any b f _ _ hf (by omega) (by omega) h256).mono ?_; rintro e w2 ⟨rfl, kk, rfl⟩)
          go_roundw
          case rel => exact ⟨k + 1, by omega, by go_num, hny2, hmod.drewN kk⟩
          case measure => simp [intOf]; omega
      · have hk3 : k = row.length := by omega
        have HK := Lib.hid hk3
        clear hk3
        go_wp2
        rw [HK.out] at hny
        have hnm := hny.none
        rw [decide_eq_false hnm, List.erase_of_not_mem hnm]
        go_ret
        exact ⟨rfl, hring, hmod.mono (fun _ _ h => h.elim)⟩
  · subst e
    obtain rfl := HX.out y rfl
    have h259' : w.cell? ⟨b, 259, none⟩ = some (.bool true) := h259
    clear h259 HX
    go_enter Try.func33, Try.ntmps33
    go_wp2
    go_loopw [28] (fun i wr => ∃ k : Nat, k ≤ row.length ∧ i = .int .i64 k ∧ NotYet row g k ∧ Mod (fun _ => False) w wr) (fun i _ => row.length - (intOf i).toNat)
    case atStart => exact ⟨0, by omega, rfl, (fun j hj => by omega), Mod.refl _ w⟩
    case round =>
      obtain ⟨k, hk, rfl, hny, hmod⟩ := hrel
      have hring := h.keep hmod (fun h => h)
      by_cases hk2 : k < row.length
      · obtain ⟨f, hf, h256, hcs⟩ := hring.at_
        obtain ⟨x, _, _, e3⟩ := drop_cons row hk2
        have hcx := hcs k hk2
        rw [e3] at hcx
        have E3 := Lib.hid e3
        clear hcs e3
        by_cases hxg : x = g
        · have hb : (x != g) = false := by simpa using hxg
          have HXG := Lib.hid hxg
          clear hxg
          go_wp2_with (go_at_call 60; refine (at_any b f _ _ hf (by omega) (by omega) h256).mono ?_; rintro e w2 ⟨rfl, kk, rfl⟩)
          obtain ⟨wo, hwo⟩ : ∃ wo : World, wo = wr.drewN kk := ⟨_, rfl⟩
          rw [← hwo]
          have hringo : Ring wo b row (some nx) := by rw [hwo]; exact hring.keep ((Mod.refl (fun _ => False) wr).drewN kk) (fun h => h)
          have hmodo : Mod (· = b) w wo := by rw [hwo]; exact (hmod.drewN kk).mono (fun _ _ h => h.elim)
          clear hwo h256 hcx hring hmod h259' h257
          go_loopw [6] (fun v wi => ∃ q : Nat, k ≤ q ∧ q < row.length ∧ v = .int .i64 q ∧ Ring wi b (shove row k q) (some nx) ∧ Mod (· = b) w wi) (fun v _ => row.length - (intOf v).toNat)
          case atStart => exact ⟨k, by omega, hk2, rfl, by rw [shove_start row k hk2]; exact hringo, hmodo⟩
          case round =>
            obtain ⟨q, hkq, hq, rfl, hri, hmi⟩ := hrel
            obtain ⟨f1, hf1, h256, hcs⟩ := hri.at_
            have c257 := hri.cells.1
            have f257 := hri.cells.2.2.2 257
            rw [shove_len row k q hk2 hq] at c257 hcs
            by_cases hq2 : q + 1 < row.length
            · have hy := hcs (q + 1) hq2
              have hy0 := hcs q hq
              rw [shove_at row k q hk2 hq2] at hy
              obtain ⟨y, ey⟩ : ∃ y, y = row.getD (q + 1) 0 := ⟨_, rfl⟩
              obtain ⟨y0, ey0⟩ : ∃ y, y = (shove row k q).getD q 0 := ⟨_, rfl⟩
              rw [← ey] at hy
              rw [← ey0] at hy0
              have hfz := hri.cells.2.2.2 ((f1 + q) % 256)
              have EY := Lib.hid ey
              clear hcs ey ey0
              go_wp2_with (go_at_call 60; refine (at_any b f1 _ _ hf1 (by omega) (by omega) (by first | exact h256 | simpa using h256)).mono ?_; rintro e w3 ⟨rfl, k3, rfl⟩)
              have hs : ∀ kk, Ring ((wr.drewN kk).setCell ⟨b, (f1 + q) % 256, none⟩ (.int .i64 y)) b (shove row k (q + 1)) (some nx) := by
                intro kk
                have h1 := (hri.keep ((Mod.refl (fun _ => False) wr).drewN kk) (fun h => h)).setAt (f := f1) h256 hf1 (k := q) (by rw [shove_len row k q hk2 hq]; exact hq) y
                rw [EY.out, shove_step row k q hk2 hkq hq2, ← EY.out] at h1
                exact h1
              go_roundw
              case rel => exact ⟨q + 1, by omega, by omega, by go_num, hs _, Mod.setCell (hmi.drewN _) (p := ⟨b, (f1 + q) % 256, none⟩) (.inl rfl) _⟩
              case measure => simp [intOf]; omega
            · clear hcs h256
              have hql : q = row.length - 1 := by omega
              have HQ := Lib.hid hql
              clear hql
              go_wp2
              have h5 := hri.pop (n := row.length - 1) (by rw [shove_len row k q hk2 hq]; omega) (v := (row.length : Int) - 1) (by omega)
              have h6 := shove_end row k hk2
              rw [← HQ.out] at h6 h5
              rw [h6, ← erase_first row hny hk2 (by rw [E3.out, HXG.out])] at h5
              have hmem : g ∈ row := mem_first row hk2 (by rw [E3.out, HXG.out])
              rw [decide_eq_true hmem]
              go_ret
              exact ⟨rfl, h5, Mod.setCell hmi (p := ⟨b, 257, none⟩) (.inl rfl) _⟩
        · have hb : (x != g) = true := by simpa using hxg
          have hny2 : NotYet row g (k + 1) := hny.snoc (by rw [E3.out]; exact hxg)
          clear hxg
          go_wp2_with (go_at_call 60; refine (at_any b f _ _ hf (by omega) (by omega) h256).mono ?_; rintro e w2 ⟨rfl, kk, rfl⟩)
          go_roundw
          case rel => exact ⟨k + 1, by omega, by go_num, hny2, hmod.drewN kk⟩
          case measure => simp [intOf]; omega
      · have hk3 : k = row.length := by omega
        have HK := Lib.hid hk3
        clear hk3
        go_wp2
        rw [HK.out] at hny
        have hnm := hny.none
        rw [decide_eq_false hnm, List.erase_of_not_mem hnm]
        go_ret
        exact ⟨rfl, hring, hmod.mono (fun _ _ h => h.elim)⟩

theorem del_any (b : Nat) (row : List Int) (nxt : Option Int) (g : Int) (w : World) (h : Ring w b row nxt) :
    Calls Try.prog 33 #[.pointer (some ⟨b, 0, none⟩), .int .i64 g] w fun e w' => e = .returned (.bool (rdel row nxt g).1) ∧ Ring w' b (rdel row nxt g).2.1 (rdel row nxt g).2.2 ∧ Mod (· = b) w w' := by
  by_cases e : nxt = some g
  · subst e
    rw [show rdel row (some g) g = (true, row, none) by simp [rdel]]
    exact del_next b row g w h
  · rw [show rdel row nxt g = (decide (g ∈ row), row.erase g, nxt) by simp [rdel, e]]
    exact del_row b row nxt g w h e

end Go.Proofs.Ytgojfccaohngaaa
