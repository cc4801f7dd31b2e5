/-
  The contracts of package wait.
-/
import Derived.Test.YtjjbcfbljnekgaaOut
namespace Go.Proofs.Ytjjbcfbljnekgaa
open Go.RowKit

/-- 'a[i]' of an array of slices by value, i in range. -/
theorem run_index_arr {P : Program} (w : World) (t e e2 : TypeId) (n : Nat) (cs : Array Value) (k : Nat) (v : Value) (h : P.underlying t = some (.array n e)) (he : P.underlying e = some (.slice e2)) (hk : k < n) (hs : cs.size = n) (hv : cs[k]? = some v) (h2 : (P.info? e).map (·.size) = some 1) :
    (Instr.index t (.agg cs) (.int .i64 (k : Int))).run P w = .ok v w := by
  have hn : 0 ≤ (k : Int) ∧ (k : Int) < (n : Int) := by omega
  obtain ⟨i, hi, hz⟩ := Option.map_eq_some_iff.1 h2
  simp [Instr.index, run_underlying h, asIntOf, hn, go_sem, hv, sizeOf, typeInfo, hi, hz, isAgg, run_underlying he]
  omega

/-- Block b is the waits: for each of 32 places a list in an array of its own; o tells whose blocks they are. -/
def Waits (w : World) (b : Nat) (o : Nat → Option Nat) (L : Nat → List Int) : Prop :=
  ∃ (A : Nat → Option Addr) (n c : Nat → Nat), w.rowIs b 87 32 (fun i => .slice (A i) (n i) (c i)) ∧ (∀ i, i < 32 → OwnL w (A i) (n i) (c i) (L i) ∧ blk (A i) = o i) ∧ ∀ i j, i < 32 → j < 32 → i ≠ j → ∀ g, o i = some g → o j ≠ some g
def WS (b : Nat) (o : Nat → Option Nat) (k : Nat) : Prop := k = b ∨ ∃ i, i < 32 ∧ o i = some k

theorem Waits.keep {S : Nat → Prop} {w w' : World} {b : Nat} {o : Nat → Option Nat} {L : Nat → List Int} (h : Waits w b o L) (m : Mod S w w') (hs : ∀ k, WS b o k → ¬ S k) : Waits w' b o L := by
  obtain ⟨A, n, c, hr, hown, hd⟩ := h
  exact ⟨A, n, c, m.rowIs hr (hs b (.inl rfl)), fun i hi => ⟨(hown i hi).1.keep m (fun k hk => hs k (.inr ⟨i, hi, by rw [← (hown i hi).2]; exact hk⟩)), (hown i hi).2⟩, hd⟩
theorem Waits.keep0 {w w' : World} {b : Nat} {o : Nat → Option Nat} {L : Nat → List Int} (h : Waits w b o L) (m : Mod (fun _ => False) w w') : Waits w' b o L := h.keep m (fun _ _ h => h)
theorem Waits.lt {w : World} {b : Nat} {o : Nat → Option Nat} {L : Nat → List Int} (h : Waits w b o L) : ∀ k, WS b o k → k < w.heap.size := by
  obtain ⟨A, n, c, hr, hown, hd⟩ := h
  rintro k (rfl | ⟨i, hi, hk⟩)
  · exact hr.lt
  · exact (hown i hi).1.lt k (by rw [(hown i hi).2]; exact hk)
theorem size56 : (Try.prog.info? 56).map (·.size) = some 32 := by kernel_rfl
theorem size35 : (Try.prog.info? 35).map (·.size) = some 1 := by kernel_rfl

theorem place_any (at' : Int) (w : World) : Calls Try.prog 54 #[.int .i64 at'] w fun e w' => e = .returned (.bool (decide (0 ≤ at' ∧ at' < 32))) ∧ w' = w := by
  go_enter Try.func54, Try.ntmps54
  by_cases h0 : 0 ≤ at'
  · have hd0 : decide (0 ≤ at') = true := decide_eq_true h0
    by_cases h1 : at' < 32
    · have hd : decide (at' < 32) = true := decide_eq_true h1
      have hr : decide (0 ≤ at' ∧ at' < 32) = true := decide_eq_true ⟨h0, h1⟩
      have HR := Lib.hid hr
      clear h0 h1 hr
      go_wp2
      go_ret
      exact ⟨by rw [HR.out]; rfl, rfl⟩
    · have hd : decide (at' < 32) = false := decide_eq_false h1
      have hr : decide (0 ≤ at' ∧ at' < 32) = false := decide_eq_false (fun h => h1 h.2)
      have HR := Lib.hid hr
      clear h0 h1 hr
      go_wp2
      go_ret
      exact ⟨by rw [HR.out]; rfl, rfl⟩
  · have hd : decide (0 ≤ at') = false := decide_eq_false h0
    have hr : decide (0 ≤ at' ∧ at' < 32) = false := decide_eq_false (fun h => h0 h.1)
    have HR := Lib.hid hr
    clear h0 hr
    go_wp2
    go_ret
    exact ⟨by rw [HR.out]; rfl, rfl⟩

theorem zero_waits (i : Nat) (hi : i < 32) : (Array.replicate 32 (Value.slice none 0 0))[i]? = some (.slice none 0 0) := by
  rw [Array.getElem?_replicate, if_pos hi]

set_option maxRecDepth 100000 in
theorem wnew (w : World) : Calls Try.prog 26 #[] w fun e w' => ∃ b, e = .returned (.pointer (some ⟨b, 0, none⟩)) ∧ w.heap.size ≤ b ∧ Waits w' b (fun _ => none) (fun _ => []) ∧ Mod (fun _ => False) w w' := by
  go_enter Try.func26, Try.ntmps26
  go_wp2
  go_ret
  refine ⟨w.heap.size, rfl, Nat.le_refl _, ⟨fun _ => none, fun _ => 0, fun _ => 0, ?_, fun i hi => ⟨OwnL.nil _, rfl⟩, fun i j _ _ _ g hg => by cases hg⟩, (Mod.refl _ _).alloc _⟩
  exact World.rowIs_alloc w _ 87 (fun _ => .slice none 0 0) (fun i hi => zero_waits i hi)

set_option maxRecDepth 100000 in
theorem wfind_any (b : Nat) (o : Nat → Option Nat) (L : Nat → List Int) (g : Int) (w : World) (h : Waits w b o L) (hl : ∀ i, i < 32 → (L i).length ≤ 900000) :
    Calls Try.prog 56 #[.pointer (some ⟨b, 0, none⟩), .int .i64 g] w fun e w' => ∃ r, e = .returned (.int .i64 r) ∧ ((r = -1 ∧ ∀ i, i < 32 → ¬ g ∈ L i) ∨ ∃ k : Nat, k < 32 ∧ r = k ∧ g ∈ L k) ∧ w' = w := by
  obtain ⟨A, n, c, hr, hown, hd⟩ := h
  obtain ⟨cs, hh, hsz, hcs⟩ := hr
  go_enter Try.func56, Try.ntmps56
  go_wp2_with (refine wpList_load_row rfl 56 _ rfl b rfl 87 cs (0, 0) _ hh Try.underlying56 rfl (by rw [hsz]; exact size56) ?_)
  go_loop [11] (fun i => ∃ k : Nat, k ≤ 32 ∧ i = .int .i64 k ∧ ∀ j, j < k → ¬ g ∈ L j) (fun i => 32 - (intOf i).toNat)
  case atStart => exact ⟨0, by omega, rfl, fun j hj => by omega⟩
  case round =>
    obtain ⟨k, hk, rfl, hno⟩ := hrel
    by_cases hk2 : k < 32
    · have hidx : ∀ W, (Instr.index 56 (.agg cs) (.int .i64 (k : Int))).run Try.prog W = .ok (.slice (A k) (n k) (c k)) W := fun W => run_index_arr W 56 35 3 32 cs k _ Try.underlying56 Try.underlying35 hk2 hsz (hcs k hk2) size35
      have hlk := (hown k hk2).1.isL
      have hnk := hl k hk2
      rw [hlk.len] at hnk
      by_cases hm : g ∈ L k
      · have hd : decide (g ∈ L k) = true := decide_eq_true hm
        have HD := Lib.hid hd
        clear hd
        go_wp2_with fail
        refine (contains_any _ _ _ _ g _ hlk hnk).mono ?_
        rintro e w2 ⟨rfl, rfl⟩
        rw [HD.out]
        go_wp2
        go_ret
        exact ⟨k, rfl, .inr ⟨k, hk2, rfl, hm⟩, rfl⟩
      · have hd : decide (g ∈ L k) = false := decide_eq_false hm
        have HD := Lib.hid hd
        clear hd
        go_wp2_with fail
        refine (contains_any _ _ _ _ g _ hlk hnk).mono ?_
        rintro e w2 ⟨rfl, rfl⟩
        rw [HD.out]
        go_wp2
        go_round
        case rel => exact ⟨k + 1, by omega, by go_num, fun j hj => by
          by_cases e : j = k
          · rw [e]; exact hm
          · exact hno j (by omega)⟩
        case measure => simp [intOf]; omega
    · have hk3 : k = 32 := by omega
      rw [hk3] at hno
      have HN := Lib.hid hno
      clear hk3 hno
      go_wp2
      go_ret
      exact ⟨-1, rfl, .inl ⟨rfl, HN.out⟩, rfl⟩

/-- How many wait at the places ahead of k. -/
def wsum (L : Nat → List Int) : Nat → Nat
  | 0 => 0
  | k + 1 => wsum L k + (L k).length
theorem wsum_le (L : Nat → List Int) (k : Nat) (hk : k ≤ 32) (hl : ∀ i, i < 32 → (L i).length ≤ 900000) : wsum L k ≤ k * 900000 := by
  induction k with
  | zero => simp [wsum]
  | succ k ih => have h1 := ih (by omega); have h2 := hl k (by omega); rw [wsum]; omega

theorem wlen_nil (w : World) : Calls Try.prog 30 #[.pointer none] w fun e w' => e = .returned (.int .i64 0) ∧ w' = w := by
  go_enter Try.func30, Try.ntmps30
  go_wp2
  go_ret
  exact ⟨rfl, rfl⟩
set_option maxRecDepth 100000 in
theorem wlen_any (b : Nat) (o : Nat → Option Nat) (L : Nat → List Int) (w : World) (h : Waits w b o L) (hl : ∀ i, i < 32 → (L i).length ≤ 900000) :
    Calls Try.prog 30 #[.pointer (some ⟨b, 0, none⟩)] w fun e w' => e = .returned (.int .i64 (wsum L 32)) ∧ w' = w := by
  obtain ⟨A, n, c, hr, hown, hd⟩ := h
  obtain ⟨cs, hh, hsz, hcs⟩ := hr
  go_enter Try.func30, Try.ntmps30
  go_wp2_with (refine wpList_load_row rfl 56 _ rfl b rfl 87 cs (0, 0) _ hh Try.underlying56 rfl (by rw [hsz]; exact size56) ?_)
  go_loop [3, 12] (fun v i => ∃ k : Nat, k ≤ 32 ∧ i = .int .i64 k ∧ v = .int .i64 (wsum L k)) (fun _ i => 32 - (intOf i).toNat)
  case atStart => exact ⟨0, by omega, rfl, rfl⟩
  case round =>
    obtain ⟨k, hk, rfl, rfl⟩ := hrel
    have hb := wsum_le L k hk hl
    by_cases hk2 : k < 32
    · have hidx : ∀ W, (Instr.index 56 (.agg cs) (.int .i64 (k : Int))).run Try.prog W = .ok (.slice (A k) (n k) (c k)) W := fun W => run_index_arr W 56 35 3 32 cs k _ Try.underlying56 Try.underlying35 hk2 hsz (hcs k hk2) size35
      have hlk := (hown k hk2).1.isL.len
      have hnk := hl k hk2
      have hs : wsum L (k + 1) = wsum L k + n k := by rw [wsum, hlk]
      rw [hlk] at hnk
      obtain ⟨m, hm⟩ : ∃ m, m = wsum L k := ⟨_, rfl⟩
      rw [← hm] at hb hs ⊢
      have HS := Lib.hid hs
      clear hs hm hlk
      go_wp2
      go_round
      case rel => exact ⟨k + 1, by omega, by go_num, by rw [HS.out]; simp⟩
      case measure => simp [intOf]; omega
    · have hk3 : k = 32 := by omega
      rw [hk3]
      clear hk3
      go_wp2
      go_ret
      exact ⟨rfl, rfl⟩

theorem Waits.cell {w : World} {b : Nat} {o : Nat → Option Nat} {L : Nat → List Int} (h : Waits w b o L) {k : Nat} (hk : k < 32) : ∃ A n c, w.cell? ⟨b, k, none⟩ = some (.slice A n c) ∧ OwnL w A n c (L k) ∧ blk A = o k ∧ w.frozen? ⟨b, k, none⟩ = false := by
  obtain ⟨A, n, c, hr, hown, hd⟩ := h
  exact ⟨A k, n k, c k, hr.cell hk, (hown k hk).1, (hown k hk).2, hr.frozen k⟩
def setF {α : Type} (f : Nat → α) (k : Nat) (v : α) : Nat → α := fun i => if i = k then v else f i
theorem setF_same {α : Type} (f : Nat → α) (k : Nat) (v : α) : setF f k v k = v := by simp [setF]
theorem setF_ne {α : Type} (f : Nat → α) {k i : Nat} (v : α) (h : i ≠ k) : setF f k v i = f i := by simp [setF, h]

theorem wall_no (b : Nat) (at' : Int) (w : World) (h : ¬ (0 ≤ at' ∧ at' < 32)) : Calls Try.prog 29 #[.pointer (some ⟨b, 0, none⟩), .int .i64 at'] w fun e w' => e = .returned (.slice none 0 0) ∧ w' = w := by
  have hd : decide (0 ≤ at' ∧ at' < 32) = false := decide_eq_false h
  go_enter Try.func29, Try.ntmps29
  go_wp2_with fail
  refine (place_any at' _).mono ?_
  rintro e w2 ⟨rfl, rfl⟩
  rw [hd]
  clear hd
  go_wp2
  go_ret
  exact ⟨rfl, rfl⟩
theorem wall_any (b : Nat) (o : Nat → Option Nat) (L : Nat → List Int) (k : Nat) (w : World) (h : Waits w b o L) (hk : k < 32) (hl : (L k).length ≤ 900000) :
    Calls Try.prog 29 #[.pointer (some ⟨b, 0, none⟩), .int .i64 (k : Int)] w fun e w' => ∃ A n c, e = .returned (.slice A n c) ∧ OwnL w' A n c (L k) ∧ (∀ d, blk A = some d → w.heap.size ≤ d) ∧ Mod (fun _ => False) w w' := by
  obtain ⟨A, n, c, hc, hown, _, hf⟩ := h.cell hk
  have hd : decide (0 ≤ (k : Int) ∧ (k : Int) < 32) = true := decide_eq_true (by omega)
  have hi0 : (0 : Int) ≤ (k : Int) := by omega
  have hi1 : (k : Int) < 32 := by omega
  go_enter Try.func29, Try.ntmps29
  go_wp2_with fail
  refine (place_any k _).mono ?_
  rintro e w2 ⟨rfl, rfl⟩
  rw [hd]
  clear hd
  go_wp2_with fail
  refine (clone_any A n c _ _ hown.isL (by rw [← hown.len]; exact hl)).mono ?_
  rintro e w3 ⟨A3, c3, rfl, hown3, hf3, m3⟩
  go_wp2
  go_ret
  exact ⟨A3, n, c3, rfl, hown3, hf3, m3⟩

end Go.Proofs.Ytjjbcfbljnekgaa
