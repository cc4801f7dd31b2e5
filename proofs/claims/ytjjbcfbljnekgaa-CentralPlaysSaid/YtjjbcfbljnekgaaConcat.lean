/-
  The contract of slices.Concat at two slices of int; slices.Grow at nil.
-/
import Derived.Test.YtjjbcfbljnekgaaOut
import Derived.Lib.AppendZerosOnto
namespace Go.Proofs.Ytjjbcfbljnekgaa
open Go.RowKit

section
variable {P : Program}
/-- xs[:k]. -/
theorem cut_high (t : TypeId) (ht : P.underlying t = some (.slice 3)) (hinfo : (P.info? 3).map (fun i => (i.zero, i.size, i.bytes)) = some (some (.int .i64 0), 1, 8))
    (A : Option Addr) (n c k : Nat) (hk : k ≤ c) (W : World) : (Instr.sliceAt t (.slice A n c) none (some (.int .i64 (k : Int))) none).run P W = .ok (.slice A k c) W := by
  obtain ⟨i, hi, hzz⟩ := Option.map_eq_some_iff.1 hinfo
  simp only [Prod.mk.injEq] at hzz
  obtain ⟨_, hsz, _⟩ := hzz
  have he : P.elem t = 3 := by simp [Program.elem, ht]
  have ht' : P.underlying t = some (.slice (P.elem t)) := by rw [he]; exact ht
  rw [run_sliceAt_slice W t _ _ _ _ ht', run_slice_h W t A n c ht' .i64 (k : Int) (by omega) (by omega), he]
  cases A with
  | none => simp [sizeOf, typeInfo, hi, hsz, sliced]
  | some a => simp [sizeOf, typeInfo, hi, hsz, sliced, Addr.add]
end

theorem OwnL.cut {w : World} {A : Option Addr} {n c : Nat} {l : List Int} (h : OwnL w A n c l) {k : Nat} (hk : k ≤ n) : OwnL w A k c (l.take k) := by
  have hl := h.len
  refine ⟨by simp; omega, ?_⟩
  rcases h.2 with ⟨hv, hn⟩ | ⟨g, cap, cur, hv, hb, hg, hnc, hcm, hsz, ht⟩
  · injection hv with h1 h2 h3
    subst h1; subst h2; subst h3
    obtain rfl : k = 0 := by omega
    exact .inl ⟨rfl, rfl⟩
  · injection hv with h1 h2 h3
    subst h1; subst h3
    refine .inr ⟨g, c, cur, rfl, hb, hg, by omega, hcm, hsz, ?_⟩
    rw [Nat.mul_one] at ht ⊢
    rw [List.map_take, ← ht, List.take_take, Nat.min_eq_left hk]

theorem grow_nil (n : Nat) (w : World) (hn : n ≤ 900000) : Calls Try.prog 64 #[.slice none 0 0, .int .i64 n] w fun e w' => ∃ A c, e = .returned (.slice A 0 c) ∧ OwnL w' A 0 c [] ∧ (∀ d, blk A = some d → w.heap.size ≤ d) ∧ Mod (fun _ => False) w w' := by
  by_cases h0 : n = 0
  · subst h0
    go_enter Try.func64, Try.ntmps64
    go_wp2
    go_ret
    exact ⟨none, 0, rfl, OwnL.nil _, (fun d hd => by cases hd), Mod.refl _ _⟩
  · obtain ⟨i, hi, hzz⟩ := Option.map_eq_some_iff.1 int_info
    simp only [Prod.mk.injEq] at hzz
    obtain ⟨hz, hsz, hby⟩ := hzz
    have hrun := fun ty => Lib.run_append_nil_zeros (P := Try.prog) w 35 3 ty 3 i (.int .i64 0) .i64 .i64 Try.underlying35 Try.underlying3 hi hz n (by omega) (by omega) (by omega) (by rw [hby]; omega)
    obtain ⟨c, hc⟩ : ∃ c, c = grownCap w n 0 3 := ⟨_, rfl⟩
    have hge := grownCap_ge w n 0 3
    have hcm := grownCap_le_maxLen w n 0 3 (by simp only [maxLen]; omega)
    rw [← hc] at hge hcm
    simp only [← hc] at hrun
    have own : OwnL (w.drew.alloc (.cells (Builtin.zeroCells (Value.int .i64 0).cells n ++ Builtin.zeroCells (Value.int .i64 0).cells (c - n)) 3)) (some ⟨w.heap.size, 0, none⟩) 0 c [] :=
      ⟨rfl, .inr ⟨w.heap.size, c, _, rfl, Nat.zero_le _, heap_alloc_new w.drew _, Nat.zero_le _, hcm, by rw [Array.size_append, size_zeroCells, size_zeroCells]; simp [Value.cells]; omega, by simp⟩⟩
    have hcut := cut_high (P := Try.prog) 35 Try.underlying35 int_info (some ⟨w.heap.size, 0, none⟩) n c 0 (by omega)
    have hcut0 := cut_high (P := Try.prog) 35 Try.underlying35 int_info none 0 0 0 (by omega)
    have hd0 : (0 : Int) < (n : Int) := by omega
    have HR := Lib.hid hrun
    clear hrun hc hi hz hsz hby
    go_enter Try.func64, Try.ntmps64
    go_wp2_with (at_builtin; refine Lib.wpList_append_run _ rfl (.tmp 20) (.tmp 21) 35 3 rfl _ _ rfl rfl _ _ (HR.out _) ?_)
    go_ret
    exact ⟨_, c, rfl, own, (fun d hd => by simp [blk] at hd; omega), ((Mod.refl _ w).drew).alloc _⟩

def ConS (n n' : Nat) (s i : Value) : Prop := (i = .int .i64 0 ∧ s = .int .i64 0) ∨ (i = .int .i64 1 ∧ s = .int .i64 (n : Int)) ∨ (i = .int .i64 2 ∧ s = .int .i64 ((n : Int) + n'))
def ConW (w : World) (m : Nat) (l : List Int) (s : Value) (wr : World) : Prop := ∃ A c, s = .slice A m c ∧ OwnL wr A m c l ∧ (∀ d, blk A = some d → w.heap.size ≤ d) ∧ Mod (fun _ => False) w wr
def ConL (w : World) (n n' : Nat) (l l' : List Int) (s i : Value) (wr : World) : Prop := (i = .int .i64 0 ∧ ConW w 0 [] s wr) ∨ (i = .int .i64 1 ∧ ConW w n l s wr) ∨ (i = .int .i64 2 ∧ ConW w (n + n') (l ++ l') s wr)

set_option maxHeartbeats 1000000 in
theorem concat_two (g : Nat) (A A' : Option Addr) (n n' c c' : Nat) (l l' : List Int) (w : World) (h0 : w.cell? ⟨g, 0, none⟩ = some (.slice A n c)) (h1 : w.cell? ⟨g, 1, none⟩ = some (.slice A' n' c')) (h : IsL w A n c l) (h' : IsL w A' n' c' l') (hn : n ≤ 400000) (hn' : n' ≤ 400000) :
    Calls Try.prog 58 #[.slice (some ⟨g, 0, none⟩) 2 2] w fun e w' => ∃ A2 c2, e = .returned (.slice A2 (n + n') c2) ∧ OwnL w' A2 (n + n') c2 (l ++ l') ∧ (∀ d, blk A2 = some d → w.heap.size ≤ d) ∧ Mod (fun _ => False) w w' := by
  have hg := World.block_lt_of_cell? w _ h0
  have hg' : g < w.heap.size := hg
  clear hg
  go_enter Try.func58, Try.ntmps58
  go_wp2
  go_loop [3, 11] (fun s i => ConS n n' s i) (fun _ i => 2 - (intOf i).toNat)
  case atStart => exact .inl ⟨rfl, rfl⟩
  case round =>
    rcases hrel with ⟨rfl, rfl⟩ | ⟨rfl, rfl⟩ | ⟨rfl, rfl⟩
    · go_wp2
      go_round
      case rel => exact .inr (.inl ⟨rfl, rfl⟩)
      case measure => simp [intOf]
    · go_wp2
      go_round
      case rel => exact .inr (.inr ⟨rfl, rfl⟩)
      case measure => simp [intOf]
    · go_wp2_with fail
      have e : ((n : Int) + (n' : Int)) = ((n + n' : Nat) : Int) := by omega
      rw [e]
      clear e
      refine (grow_nil (n + n') _ (by omega)).mono ?_
      rintro e w1 ⟨A1, c1, rfl, hown1, hf1, m1⟩
      go_wp2_with fail
      go_loopw [6, 27] (fun s i wr => ConL w n n' l l' s i wr) (fun _ i _ => 2 - (intOf i).toNat)
      case atStart => exact .inl ⟨rfl, A1, c1, rfl, hown1, hf1, m1⟩
      case round =>
        clear hown1 hf1 m1
        rcases hrel with ⟨rfl, B, d, rfl, hown, hf, mm⟩ | ⟨rfl, B, d, rfl, hown, hf, mm⟩ | ⟨rfl, B, d, rfl, hown, hf, mm⟩
        · have hc0 : wr.cell? ⟨g, 0, none⟩ = some (.slice A n c) := (mm.cell (p := ⟨g, 0, none⟩) hg' (fun h => h)).trans h0
          have hr := h.keep0 mm
          go_wp2_with (at_builtin; refine wpList_app _ rfl (.tmp 31) (.tmp 32) _ rfl Try.underlying35 int_info B 0 d [] rfl hown A n c l rfl hr (by omega) ?_; intro A2 n2 c2 w2 hn1 hn2 hown2 hg2 hat2)
          obtain rfl : n = n2 := by omega
          go_roundw
          case rel =>
            refine .inr (.inl ⟨rfl, A2, c2, rfl, by simpa using hown2, fun d hd => ?_, mm.grown hg2 (fun k hk => .inr (hf k hk))⟩)
            have hms := mm.size
            rcases hat2 with e | e
            · exact hf d (by rw [← e]; exact hd)
            · rw [e] at hd; cases hd; omega
          case measure => simp [intOf]
        · have hc1 : wr.cell? ⟨g, 1, none⟩ = some (.slice A' n' c') := (mm.cell (p := ⟨g, 1, none⟩) hg' (fun h => h)).trans h1
          have hr := h'.keep0 mm
          go_wp2_with (at_builtin; refine wpList_app _ rfl (.tmp 31) (.tmp 32) _ rfl Try.underlying35 int_info B n d l rfl hown A' n' c' l' rfl hr (by omega) ?_; intro A2 n2 c2 w2 hn1 hn2 hown2 hg2 hat2)
          obtain rfl : n2 = n + n' := by omega
          go_roundw
          case rel =>
            refine .inr (.inr ⟨rfl, A2, c2, rfl, hown2, fun d hd => ?_, mm.grown hg2 (fun k hk => .inr (hf k hk))⟩)
            have hms := mm.size
            rcases hat2 with e | e
            · exact hf d (by rw [← e]; exact hd)
            · rw [e] at hd; cases hd; omega
          case measure => simp [intOf]
        · go_wp2
          go_ret
          exact ⟨B, d, rfl, hown, hf, mm⟩

end Go.Proofs.Ytjjbcfbljnekgaa
