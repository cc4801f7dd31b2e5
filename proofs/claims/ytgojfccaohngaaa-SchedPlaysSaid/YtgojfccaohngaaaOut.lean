/-
  The contract of the reference's Out: a list without the first such number.
-/
import Derived.Test.YtgojfccaohngaaaList
import Derived.Deep.RegionHeld3
namespace Go.Proofs.Ytgojfccaohngaaa
open Go.RowKit

/-- The array of a slice of int has cells of int. -/
def TyL (w : World) (A : Option Addr) : Prop := ∀ g, blk A = some g → ∃ cur fr, w.heap[g]? = some (.cells cur 3 fr)
theorem TyL.nil (w : World) : TyL w none := fun _ h => by cases h
theorem TyL.keep {S : Nat → Prop} {w w' : World} {A : Option Addr} (h : TyL w A) (m : Mod S w w') (hs : ∀ g, blk A = some g → ¬ S g) : TyL w' A := by
  intro g hg
  obtain ⟨cur, fr, hh⟩ := h g hg
  refine ⟨cur, fr, ?_⟩
  rw [m.block g (lt_of_block hh) (hs g hg)]
  exact hh
theorem TyL.ne {w : World} {A : Option Addr} (h : TyL w A) {b : Nat} {t : TypeId} {n : Nat} {f : Nat → Value} (hr : w.rowIs b t n f) (ht : t ≠ 3) : ∀ g, blk A = some g → ¬ g = b := by
  rintro g hg rfl
  obtain ⟨cur, fr, hh⟩ := h g hg
  obtain ⟨c, hc, _⟩ := hr
  rw [hh] at hc
  injection hc with hc
  injection hc with _ hc
  exact ht hc.symm
theorem TyL.lt {w : World} {A : Option Addr} (h : TyL w A) : ∀ g, blk A = some g → g < w.heap.size := by
  intro g hg
  obtain ⟨cur, fr, hh⟩ := h g hg
  exact lt_of_block hh
theorem OwnL.ty {w : World} {A : Option Addr} {n c : Nat} {l : List Int} (h : OwnL w A n c l) : TyL w A := by
  intro g hg
  rcases h.2 with ⟨hv, _⟩ | ⟨g', cap, cur, hv, _, hh, _⟩
  · injection hv with h1; subst h1; cases hg
  · injection hv with h1; subst h1
    have e : g' = g := by simpa [blk] using hg
    subst e
    exact ⟨cur, _, hh⟩

theorem blk_size (w : World) : ∀ d, blk (some ⟨w.heap.size, 0, none⟩) = some d → w.heap.size ≤ d := fun d hd => by simp [blk] at hd; omega

set_option maxHeartbeats 1000000 in
set_option maxRecDepth 100000 in
theorem out_any (A : Option Addr) (n c : Nat) (l : List Int) (x : Int) (w : World) (h : IsL w A n c l) (ht : TyL w A) (hn : n ≤ 900000) :
    Calls Try.prog 29 #[.slice A n c, .int .i64 x] w fun e w' => ∃ A' n' c', e = .returned (.tuple #[.slice A' n' c', .bool (decide (x ∈ l))]) ∧ IsL w' A' n' c' (l.erase x) ∧ TyL w' A' ∧
      (A' = A ∨ ∀ d, A' = some d → w.heap.size ≤ d.block) ∧ Mod (fun _ => False) w w' := by
  have hnc := h.le
  go_enter Try.func29, Try.ntmps29
  go_wp2
  go_loop [6] (fun i => ∃ k : Nat, k ≤ n ∧ i = .int .i64 k ∧ NotYet l x k) (fun i => n - (intOf i).toNat)
  case atStart => exact ⟨0, by omega, rfl, fun j hj => by omega⟩
  case round =>
    obtain ⟨k, hk, rfl, hny⟩ := hrel
    by_cases hk2 : k < n
    · obtain ⟨g, o, rfl, hc1⟩ := h.at_ hk2
      obtain ⟨y, ey⟩ : ∃ y, y = l.getD k 0 := ⟨_, rfl⟩
      rw [← ey] at hc1
      by_cases hxy : y = x
      · have hb : (y == x) = true := by simpa using hxy
        have hkl : k < l.length := by rw [h.len]; exact hk2
        have hm := mem_first l (g := x) hkl (by rw [← ey]; exact hxy)
        have he := erase_first l hny hkl (by rw [← ey]; exact hxy)
        have HM := Lib.hid hm
        have HE := Lib.hid he
        clear hxy ey hm he
        obtain ⟨A4, n4, c4, hcut, hL4, hblk4⟩ := cut_low (P := Try.prog) 27 Try.underlying27 int_info (some ⟨g, o, none⟩) n c (k + 1) (by omega)
        have hcut' : ∀ (W : World), (Instr.sliceAt 27 (.slice (some ⟨g, o, none⟩) n c) (some (.int .i64 ((k : Int) + 1))) none none).run Try.prog W = .ok (.slice A4 n4 c4) W := hcut
        have hn4 : n4 + (k + 1) ≤ n := by have h4 := (hL4 w _ h).len; rw [List.length_drop, h.len] at h4; omega
        have hkc : k ≤ c := by omega
        have h2t := h.take (k := k) hk
        clear hcut
        go_wp2
        have hw1 : IntKind.i64.wrap ((k : Int) + 1) = (k : Int) + 1 := by rw [IntKind.wrap_i64]; omega
        have hi0 : (0 : Int) ≤ (k : Int) + 1 := by omega
        have hi1 : (k : Int) + 1 ≤ (n : Int) := by omega
        have hi2 : (0 : Int) ≤ (k : Int) := by omega
        have hi3 : (k : Int) ≤ (c : Int) := by omega
        go_region_held3 (fun _ => True) (trivial)
          ((first
            | (refine step_app _ (by rfl) (.tmp 19) (.tmp 22) _ (by rfl) Try.underlying27 int_info _ 0 0 [] (by rfl) (OwnL.empty w) (some ⟨g, o, none⟩) k c _ (by rfl) (h2t.alloc _) (by omega) ?_; intro B2 m2 d2 w2 hm1 hm2 hown2 hg2 hat2)
            | (refine step_app _ (by rfl) (.tmp 23) (.tmp 27) _ (by rfl) Try.underlying27 int_info B2 m2 d2 _ (by rfl) hown2 A4 n4 c4 _ (by rfl) (hL4 w2 _ (h.keep0 ((((Mod.refl _ w).alloc _).drew).grown hg2 (fun k hk => .inr (blk_size w k hk))))) (by omega) ?_; intro B3 m3 d3 w3 hm3 hm4 hown3 hg3 hat3)))
        go_wp2
        rw [decide_eq_true HM.out]
        go_ret2
        have hM2 : Mod (fun _ => False) w w2 := (((Mod.refl _ w).alloc _).drew).grown hg2 (fun k hk => .inr (blk_size w k hk))
        have hf2 : ∀ d, blk B2 = some d → w.heap.size ≤ d := by
          intro d hd
          rcases hat2 with e | e
          · exact blk_size w d (by rw [← e]; exact hd)
          · rw [e] at hd; simp at hd; omega
        have hM3 : Mod (fun _ => False) w w3 := hM2.grown hg3 (fun k hk => .inr (hf2 k hk))
        refine ⟨B3, m3, d3, rfl, ?_, hown3.ty, .inr (fun d hd => ?_), hM3⟩
        · rw [HE.out, List.eraseIdx_eq_take_drop_succ]
          simpa using hown3.isL
        · have hd' : blk B3 = some d.block := by rw [hd]; rfl
          have := hM2.size
          rcases hat3 with e | e
          · exact hf2 _ (by rw [← e]; exact hd')
          · rw [e] at hd'; simp at hd'; omega
      · have hb : (y == x) = false := by simpa using hxy
        have hny2 := hny.snoc (by rw [← ey]; exact hxy)
        clear hxy ey
        go_wp2
        go_round
        case rel => exact ⟨k + 1, by omega, by go_num, hny2⟩
        case measure => simp [intOf]; omega
    · have hkn : k = l.length := by rw [h.len]; omega
      rw [hkn] at hny
      have HM := Lib.hid hny.none
      clear hkn
      go_wp2
      rw [decide_eq_false HM.out]
      go_ret2
      exact ⟨A, n, c, rfl, by rw [List.erase_of_not_mem HM.out]; exact h, ht, .inl rfl, Mod.refl _ _⟩

end Go.Proofs.Ytgojfccaohngaaa
