/-
  The contracts of the reference's central, second part: Any, Begin.
-/
import Derived.Test.YtjjbcfbljnekgaaRCent
set_option linter.unusedSimpArgs false
namespace Go.Proofs.Ytjjbcfbljnekgaa
open Go.RowKit

def RBeg (w : World) (S : Nat → Prop) (r : Nat) (L' : Nat → List Int) (w' : World) : Prop := ∃ S', ArrR 64 74 w' S' r L' ∧ (∀ i, S' i → S i ∨ w.heap.size ≤ i) ∧ Mod S w w'
theorem RBeg.comp {w w1 w' : World} {S S1 : Nat → Prop} {r : Nat} {L' : Nat → List Int} (hS1 : ∀ i, S1 i → S i ∨ w.heap.size ≤ i) (m1 : Mod S w w1) (h : RBeg w1 S1 r L' w') : RBeg w S r L' w' := by
  obtain ⟨_, S', h1, h2, h3⟩ := RRet.comp (v := .tuple #[]) (e := .returned (.tuple #[])) hS1 m1 ⟨rfl, h⟩
  exact ⟨S', h1, h2, h3⟩
section
variable {w : World} {S : Nat → Prop} {r : Nat} {L : Nat → List Int}

set_option maxHeartbeats 2000000 in
set_option maxRecDepth 100000 in
theorem rcany (h : ArrR 64 74 w S r L) (hl : Small L) : Calls Try.prog 49 #[.pointer (some ⟨r, 0, none⟩)] w (RRet w S r (canyL L 32 0) (tupA (canyV L 32 0))) := by
  have hblt := h.blt
  go_enter Try.func49, Try.ntmps49
  go_wp2
  go_loop [5] (fun i => ∃ k : Nat, k ≤ 16 ∧ i = .int .i64 k ∧ ∀ j, j < 2 * k → L (j / 2 * 4 + 2 + j % 2) = []) (fun i => 16 - (intOf i).toNat)
  case atStart => exact ⟨0, by omega, rfl, fun j hj => by omega⟩
  case round =>
    obtain ⟨k, hk, rfl, hno⟩ := hrel
    by_cases hk2 : k < 16
    · have hdk : decide ((k : Int) < 16) = true := decide_eq_true (by omega)
      go_wp2
      go_loop [6] (fun i => ∃ f : Nat, f ≤ 2 ∧ i = .int .i64 ((f : Int) + 2) ∧ ∀ j, j < 2 * k + f → L (j / 2 * 4 + 2 + j % 2) = []) (fun i => 4 - (intOf i).toNat)
      case atStart => exact ⟨0, by omega, rfl, fun j hj => hno j (by omega)⟩
      case round =>
        clear hno
        obtain ⟨f, hf, rfl, hno⟩ := hrel
        by_cases hf2 : f < 2
        · obtain ⟨A, n, c, hc0, hLk, hfz0, hty, hSA⟩ := h.cell (k := k * 4 + 2 + f) (by omega)
          have ea : k * 4 + 2 + f = k * 4 + (f + 2) := by omega
          have hc : w.cell? ⟨r, k * 4 + (f + 2), none⟩ = some (.slice A n c) := by rw [← ea]; exact hc0
          have hfz : w.frozen? ⟨r, k * 4 + (f + 2), none⟩ = false := by rw [← ea]; exact hfz0
          have hk0 : (0 : Int) ≤ (k : Int) := by omega
          have hk1 : (k : Int) < 16 := by omega
          have hf0 : (0 : Int) ≤ (f : Int) + 2 := by omega
          have hf1 : (f : Int) + 2 < 4 := by omega
          have hfn : ((f : Int) + 2).toNat = f + 2 := by omega
          have ej : (2 * k + f) / 2 * 4 + 2 + (2 * k + f) % 2 = k * 4 + 2 + f := by omega
          have ek : (2 * k + f) / 2 = k := by omega
          have hll := hl (k * 4 + 2 + f) (by omega)
          clear hc0 hfz0 ea
          cases hL : L (k * 4 + 2 + f) with
          | nil =>
            have hn : n = 0 := by rw [← hLk.len, hL]; rfl
            subst hn
            have HNO := Lib.hid (show ∀ j, j < 2 * k + (f + 1) → L (j / 2 * 4 + 2 + j % 2) = [] from fun j hj => by
              by_cases e : j = 2 * k + f
              · rw [e, ej]; exact hL
              · exact hno j (by omega))
            clear hno hL ej ek hll hLk
            go_wp2
            go_round
            case rel => exact ⟨f + 1, by omega, by go_num, HNO.out⟩
            case measure => simp [intOf]; omega
          | cons x l =>
            have hsome := cany_some (L := L) (f := 32) (i := 0) (j := 2 * k + f) (x := x) (l := l) (by omega) (by omega) (by rw [ej]; exact hL) (fun m _ hm => hno m hm)
            rw [ej, ek] at hsome
            have HV := Lib.hid hsome
            obtain ⟨m, rfl⟩ : ∃ m, n = m + 1 := ⟨l.length, by rw [← hLk.len, hL]; rfl⟩
            obtain ⟨g, o, rfl, hcg⟩ := hLk.at_ (k := 0) (by omega)
            rw [hL] at hcg
            have hcg' : w.cell? ⟨g, o, none⟩ = some (.int .i64 x) := hcg
            have hgl : g < w.heap.size := World.block_lt_of_cell? w _ hcg'
            have hgr : g ≠ r := by
              rintro rfl
              obtain ⟨ht, B, n', c', hrow, _⟩ := h
              exact hty.ne hrow ht g rfl rfl
            obtain ⟨A4, n4, c4, hcut, hL4, hblk4⟩ := cut_low (P := Try.prog) 35 Try.underlying35 int_info (some ⟨g, o, none⟩) (m + 1) c 1 (by omega)
            have hcut' : ∀ (W : World), (Instr.sliceAt 35 (.slice (some ⟨g, o, none⟩) (m + 1) c) (some (.int .i64 1)) none none).run Try.prog W = .ok (.slice A4 n4 c4) W := hcut
            have hr4 := hL4 _ _ hLk
            rw [hL, List.drop_one, List.tail_cons] at hr4
            have t4 : TyL w A4 := fun q hq => hty q (by rw [← hblk4]; exact hq)
            obtain ⟨S', a1, a2, a3⟩ := h.set (k := k * 4 + 2 + f) (by omega) ((Mod.refl (fun _ => False) w).drew) (hr4.keep0 ((Mod.refl _ w).drew)) (t4.keep ((Mod.refl (fun _ => False) w).drew) (fun _ _ h => h)) (fun q hq => .inl (hSA q (by rw [← hblk4]; exact hq)))
            have ea : k * 4 + 2 + f = k * 4 + (f + 2) := by omega
            have hsx : (w.drew.setCell ⟨r, k * 4 + (f + 2), none⟩ (.slice A4 n4 c4)).cell? ⟨g, o, none⟩ = some (.int .i64 x) :=
              ((Mod.setCell (Mod.refl (fun i => i = r) w.drew) (p := ⟨r, k * 4 + (f + 2), none⟩) (.inl rfl) _).cell (p := ⟨g, o, none⟩) hgl hgr).trans hcg'
            have hsy : (w.setCell ⟨r, k * 4 + (f + 2), none⟩ (.slice A4 n4 c4)).cell? ⟨g, o, none⟩ = some (.int .i64 x) := hsx
            have R := Lib.hid (show ∀ nq, RRet w S r (canyL L 32 0) (tupA (canyV L 32 0)) (.returned (.tuple #[.int .i64 (k : Int), .int .i64 x, .bool true])) ((w.drew.setCell ⟨r, k * 4 + (f + 2), none⟩ (.slice A4 n4 c4)).drewN nq) from fun nq => by
              rw [HV.out.1, HV.out.2, ← ea]
              exact ⟨rfl, S', a1.keep0 ((Mod.refl _ _).drewN nq), a2, a3.drewN nq⟩)
            have hm1 : m + 1 ≤ 400000 := by have := hLk.len; rw [hL] at this hll; rw [← this]; exact hll
            have hm0 : decide ((0 : Int) < (m : Int) + 1) = true := decide_eq_true (by omega)
            clear hcut hcg hno hsome ej ek hL hll hr4 hLk a1 a2 a3 ea
            go_wp2
            refine wp_region_noPanic ?_
            refine wp_region_held_drew (S := fun _ => True) (by kernel_rfl) trivial (fun hHeld => ?_)
            (refine wpAnyH_take (i := 0) (v := ?_) rfl (by kernel_rfl) (by kernel_rfl) (by kernel_rfl) (fun _ _ _ h => h) (Or.inl ⟨by kernel_rfl, ?_⟩) (by assumption) ?_; rotate_left; focus (intro wq hSw; (try dsimp only at hSw); go_simp; try with_reducible rfl); try simp only [List.getElem_toArray, List.getElem_cons_succ, List.getElem_cons_zero, Act.put, List.setIfInBounds_toArray, List.set_cons_zero, List.set_cons_succ])
            (refine wpAnyH_take (i := 1) (v := ?_) rfl (by kernel_rfl) (by kernel_rfl) (by kernel_rfl) (fun _ _ _ h => h) (Or.inl ⟨by kernel_rfl, ?_⟩) (by assumption) ?_; rotate_left; focus (intro wq hSw; (try dsimp only at hSw); go_simp; try with_reducible rfl); try simp only [List.getElem_toArray, List.getElem_cons_succ, List.getElem_cons_zero, Act.put, List.setIfInBounds_toArray, List.set_cons_zero, List.set_cons_succ])
            (refine wpAnyH_take (i := 2) (v := ?_) rfl (by kernel_rfl) (by kernel_rfl) (by kernel_rfl) (fun _ _ _ h => h) (Or.inl ⟨by kernel_rfl, ?_⟩) (by assumption) ?_; rotate_left; focus (intro wq hSw; (try dsimp only at hSw); go_simp; try with_reducible rfl); try simp only [List.getElem_toArray, List.getElem_cons_succ, List.getElem_cons_zero, Act.put, List.setIfInBounds_toArray, List.set_cons_zero, List.set_cons_succ])
            (refine wpAnyH_take (i := 3) (v := ?_) rfl (by kernel_rfl) (by kernel_rfl) (by kernel_rfl) (fun _ _ _ h => h) (Or.inl ⟨by kernel_rfl, ?_⟩) (by assumption) ?_; rotate_left; focus (intro wq hSw; (try dsimp only at hSw); go_simp; try with_reducible rfl); try simp only [List.getElem_toArray, List.getElem_cons_succ, List.getElem_cons_zero, Act.put, List.setIfInBounds_toArray, List.set_cons_zero, List.set_cons_succ])
            (refine wpAnyH_take (i := 4) (v := ?_) rfl (by kernel_rfl) (by kernel_rfl) (by kernel_rfl) (fun _ _ _ h => h) (Or.inl ⟨by kernel_rfl, ?_⟩) (by assumption) ?_; rotate_left; focus (intro wq hSw; (try dsimp only at hSw); go_simp; try with_reducible rfl); try simp only [List.getElem_toArray, List.getElem_cons_succ, List.getElem_cons_zero, Act.put, List.setIfInBounds_toArray, List.set_cons_zero, List.set_cons_succ])
            (refine wpAnyH_take (i := 5) (v := ?_) rfl (by kernel_rfl) (by kernel_rfl) (by kernel_rfl) (fun _ _ _ h => h) (Or.inl ⟨by kernel_rfl, ?_⟩) (by assumption) ?_; rotate_left; focus (intro wq hSw; (try dsimp only at hSw); go_simp; try with_reducible rfl); try simp only [List.getElem_toArray, List.getElem_cons_succ, List.getElem_cons_zero, Act.put, List.setIfInBounds_toArray, List.set_cons_zero, List.set_cons_succ])
            (refine wpAnyH_take (i := 6) (v := ?_) rfl (by kernel_rfl) (by kernel_rfl) (by kernel_rfl) (fun _ _ _ h => h) (Or.inl ⟨by kernel_rfl, ?_⟩) (by assumption) ?_; rotate_left; focus (intro wq hSw; (try dsimp only at hSw); go_simp; try with_reducible rfl); try simp only [List.getElem_toArray, List.getElem_cons_succ, List.getElem_cons_zero, Act.put, List.setIfInBounds_toArray, List.set_cons_zero, List.set_cons_succ])
            (refine wpAnyH_take (i := 7) (v := ?_) rfl (by kernel_rfl) (by kernel_rfl) (by kernel_rfl) (fun _ _ _ h => h) (Or.inl ⟨by kernel_rfl, ?_⟩) (by assumption) ?_; rotate_left; focus (intro wq hSw; (try dsimp only at hSw); go_simp; try with_reducible rfl); try simp only [List.getElem_toArray, List.getElem_cons_succ, List.getElem_cons_zero, Act.put, List.setIfInBounds_toArray, List.set_cons_zero, List.set_cons_succ])
            (refine wpAnyH_take (i := 8) (v := ?_) rfl (by kernel_rfl) (by kernel_rfl) (by kernel_rfl) (fun _ _ _ h => h) (Or.inl ⟨by kernel_rfl, ?_⟩) (by assumption) ?_; rotate_left; focus (intro wq hSw; (try dsimp only at hSw); go_simp; try with_reducible rfl); try simp only [List.getElem_toArray, List.getElem_cons_succ, List.getElem_cons_zero, Act.put, List.setIfInBounds_toArray, List.set_cons_zero, List.set_cons_succ])
            refine wpAnyH_ready (rs := [9]) (by kernel_rfl) (by simp) ?_
            refine AllReadyH.cons rfl (fun K hK => ?_) AllReadyH.nil
            go_simp
            refine hK.out _ _ trivial (fun hHeld => ?_)
            clear hK K
            try simp only [List.getElem_toArray, List.getElem_cons_succ, List.getElem_cons_zero, Act.put, List.setIfInBounds_toArray, List.set_cons_zero, List.set_cons_succ]
            refine wpAnyH_done (by kernel_rfl) ?_ _
            refine NoPanic.normal ?_
            clear hc hcut' hcg'
            go_wp2
            go_quiet (fail)
            go_wp2
            go_ret3
            exact R.out nq
        · obtain rfl : f = 2 := by omega
          have HNO := Lib.hid (show ∀ j, j < 2 * (k + 1) → L (j / 2 * 4 + 2 + j % 2) = [] from hno)
          clear hno
          go_wp2
          go_round
          case rel => exact ⟨k + 1, by omega, by go_num, HNO.out⟩
          case measure => simp [intOf]; omega
    · obtain rfl : k = 16 := by omega
      have HV := Lib.hid (cany_none (L := L) (f := 32) (i := 0) (fun j _ hj => hno j (by omega)))
      clear hno
      go_wp2
      go_ret3
      rw [HV.out.1, HV.out.2]
      exact RRet.same h (Mod.refl _ _)

set_option maxHeartbeats 4000000 in
set_option maxRecDepth 100000 in
theorem rcbegin (h : ArrR 64 74 w S r L) (hl : Small L) : Calls Try.prog 47 #[.pointer (some ⟨r, 0, none⟩)] w (RRet w S r (cbegL L) (.tuple #[])) := by
  go_enter Try.func47, Try.ntmps47
  go_wp2
  go_loopw [2] (fun i wr => ∃ k : Nat, k ≤ 16 ∧ i = .int .i64 k ∧ RBeg w S r (cbegN L (2 * k)) wr) (fun i _ => 16 - (intOf i).toNat)
  case atStart => exact ⟨0, by omega, rfl, S, by rw [cbegN_zero]; exact h, fun i hi => .inl hi, Mod.refl _ _⟩
  case round =>
    obtain ⟨k, hk, rfl, S1, h1, hS1, m1⟩ := hrel
    by_cases hk2 : k < 16
    · obtain ⟨wa, rfl⟩ : ∃ wa : World, wa = wr := ⟨_, rfl⟩
      have hdk : decide ((k : Int) < 16) = true := decide_eq_true (by omega)
      go_wp2
      go_loopw [3] (fun i wr => ∃ f : Nat, f ≤ 2 ∧ i = .int .i64 f ∧ RBeg w S r (cbegN L (2 * k + f)) wr) (fun i _ => 2 - (intOf i).toNat)
      case atStart => exact ⟨0, by omega, rfl, S1, h1, hS1, m1⟩
      case round =>
        clear h1 hS1 m1
        obtain ⟨f, hf, rfl, S1, h1, hS1, m1⟩ := hrel
        by_cases hf2 : f < 2
        · have hblt := h1.blt
          obtain ⟨A, n, c, hc0, hL, hfz0, hty, hSA⟩ := h1.cell (k := k * 4 + 2 + f) (by omega)
          obtain ⟨A', n', c', hc', hL', hfz', hty', hSA'⟩ := h1.cell (k := k * 4 + f) (by omega)
          have ea : k * 4 + 2 + f = k * 4 + (f + 2) := by omega
          have hc : wr.cell? ⟨r, k * 4 + (f + 2), none⟩ = some (.slice A n c) := by rw [← ea]; exact hc0
          have hfz : wr.frozen? ⟨r, k * 4 + (f + 2), none⟩ = false := by rw [← ea]; exact hfz0
          have hk0 : (0 : Int) ≤ (k : Int) := by omega
          have hk1 : (k : Int) < 16 := by omega
          have hf0 : (0 : Int) ≤ (f : Int) := by omega
          have hf1 : (f : Int) < 4 := by omega
          have e1 := hl (k * 4 + 2 + f) (by omega)
          have e2 := hl (k * 4 + f) (by omega)
          obtain ⟨hat1, hat2⟩ := cbegN_at L (k := k) hf2
          rw [hat1] at hL
          rw [hat2] at hL'
          rw [hL.len] at e1
          rw [hL'.len] at e2
          clear hat1 hat2 hc0 hfz0
          go_wp2
          have hwf : IntKind.i64.wrap ((f : Int) + 2) = (f : Int) + 2 := IntWalk.i64_in _ (by omega)
          have hf2a : (0 : Int) ≤ (f : Int) + 2 := by omega
          have hf2b : (f : Int) + 2 < 4 := by omega
          have hf2n : ((f : Int) + 2).toNat = f + 2 := by omega
          have hcE : (wr.alloc (.cells #[] 3)).cell? ⟨r, k * 4 + (f + 2), none⟩ = some (.slice A n c) := (((Mod.refl (fun _ => False) wr).alloc _).cell (p := ⟨r, k * 4 + (f + 2), none⟩) hblt (fun h => h)).trans hc
          have hcE' : (wr.alloc (.cells #[] 3)).cell? ⟨r, k * 4 + f, none⟩ = some (.slice A' n' c') := (((Mod.refl (fun _ => False) wr).alloc _).cell (p := ⟨r, k * 4 + f, none⟩) hblt (fun h => h)).trans hc'
          refine wp_region_noPanic ?_
          refine wp_region_held_drew (S := fun W => W.cell? ⟨r, k * 4 + f, none⟩ = some (.slice A' n' c')) (by kernel_rfl) hc' (fun hHeld => ?_)
          (refine wpAnyH_take (i := 0) (v := ?_) rfl (by kernel_rfl) (by kernel_rfl) (by kernel_rfl) (fun _ _ _ h => h) (Or.inl ⟨by kernel_rfl, ?_⟩) (by assumption) ?_; rotate_left; focus (intro wq hSw; (try dsimp only at hSw); go_simp; try with_reducible rfl); try simp only [List.getElem_toArray, List.getElem_cons_succ, List.getElem_cons_zero, Act.put, List.setIfInBounds_toArray, List.set_cons_zero, List.set_cons_succ])
          (refine wpAnyH_take (i := 1) (v := ?_) rfl (by kernel_rfl) (by kernel_rfl) (by kernel_rfl) (fun _ _ _ h => h) (Or.inl ⟨by kernel_rfl, ?_⟩) (by assumption) ?_; rotate_left; focus (intro wq hSw; (try dsimp only at hSw); go_simp; try with_reducible rfl); try simp only [List.getElem_toArray, List.getElem_cons_succ, List.getElem_cons_zero, Act.put, List.setIfInBounds_toArray, List.set_cons_zero, List.set_cons_succ])
          (refine wpAnyH_take (i := 2) (v := ?_) rfl (by kernel_rfl) (by kernel_rfl) (by kernel_rfl) (fun _ _ _ h => h) (Or.inl ⟨by kernel_rfl, ?_⟩) (by assumption) ?_; rotate_left; focus (intro wq hSw; (try dsimp only at hSw); go_simp; try with_reducible rfl); try simp only [List.getElem_toArray, List.getElem_cons_succ, List.getElem_cons_zero, Act.put, List.setIfInBounds_toArray, List.set_cons_zero, List.set_cons_succ])
          (refine wpAnyH_take (i := 3) (v := ?_) rfl (by kernel_rfl) (by kernel_rfl) (by kernel_rfl) (fun _ _ _ h => h) (Or.inl ⟨by kernel_rfl, ?_⟩) (by assumption) ?_; rotate_left; focus (intro wq hSw; (try dsimp only at hSw); go_simp; try with_reducible rfl); try simp only [List.getElem_toArray, List.getElem_cons_succ, List.getElem_cons_zero, Act.put, List.setIfInBounds_toArray, List.set_cons_zero, List.set_cons_succ])
          (refine wpAnyH_take (i := 5) (v := ?_) rfl (by kernel_rfl) (by kernel_rfl) (by kernel_rfl) (fun _ _ _ h => h) (Or.inl ⟨by kernel_rfl, ?_⟩) (by assumption) ?_; rotate_left; focus (intro wq hSw; (try dsimp only at hSw); go_simp; try with_reducible rfl); try simp only [List.getElem_toArray, List.getElem_cons_succ, List.getElem_cons_zero, Act.put, List.setIfInBounds_toArray, List.set_cons_zero, List.set_cons_succ])
          (refine wpAnyH_take (i := 6) (v := ?_) rfl (by kernel_rfl) (by kernel_rfl) (by kernel_rfl) (fun _ _ _ h => h) (Or.inl ⟨by kernel_rfl, ?_⟩) (by assumption) ?_; rotate_left; focus (intro wq hSw; (try dsimp only at hSw); go_simp; try with_reducible rfl); try simp only [List.getElem_toArray, List.getElem_cons_succ, List.getElem_cons_zero, Act.put, List.setIfInBounds_toArray, List.set_cons_zero, List.set_cons_succ])
          (refine wpAnyH_take (i := 7) (v := ?_) rfl (by kernel_rfl) (by kernel_rfl) (by kernel_rfl) (fun _ _ _ h => h) (Or.inl ⟨by kernel_rfl, ?_⟩) (by assumption) ?_; rotate_left; focus (intro wq hSw; (try dsimp only at hSw); go_simp; try with_reducible rfl); try simp only [List.getElem_toArray, List.getElem_cons_succ, List.getElem_cons_zero, Act.put, List.setIfInBounds_toArray, List.set_cons_zero, List.set_cons_succ])
          (refine wpAnyH_take (i := 8) (v := ?_) rfl (by kernel_rfl) (by kernel_rfl) (by kernel_rfl) (fun _ _ _ h => h) (Or.inl ⟨by kernel_rfl, ?_⟩) (by assumption) ?_; rotate_left; focus (intro wq hSw; (try dsimp only at hSw); go_simp; try with_reducible rfl); try simp only [List.getElem_toArray, List.getElem_cons_succ, List.getElem_cons_zero, Act.put, List.setIfInBounds_toArray, List.set_cons_zero, List.set_cons_succ])
          (refine wpAnyH_take (i := 9) (v := ?_) rfl (by kernel_rfl) (by kernel_rfl) (by kernel_rfl) (fun _ _ _ h => h) (Or.inl ⟨by kernel_rfl, ?_⟩) (by assumption) ?_; rotate_left; focus (intro wq hSw; (try dsimp only at hSw); go_simp; try with_reducible rfl); try simp only [List.getElem_toArray, List.getElem_cons_succ, List.getElem_cons_zero, Act.put, List.setIfInBounds_toArray, List.set_cons_zero, List.set_cons_succ])
          (refine wpAnyH_take (i := 10) (v := ?_) rfl (by kernel_rfl) (by kernel_rfl) (by kernel_rfl) (fun _ _ _ h => h) (Or.inl ⟨by kernel_rfl, ?_⟩) (by assumption) ?_; rotate_left; focus (intro wq hSw; (try dsimp only at hSw); go_simp; try with_reducible rfl); try simp only [List.getElem_toArray, List.getElem_cons_succ, List.getElem_cons_zero, Act.put, List.setIfInBounds_toArray, List.set_cons_zero, List.set_cons_succ])
          (refine wpAnyH_take (i := 11) (v := ?_) rfl (by kernel_rfl) (by kernel_rfl) (by kernel_rfl) (fun _ _ _ h => h) (Or.inl ⟨by kernel_rfl, ?_⟩) (by assumption) ?_; rotate_left; focus (intro wq hSw; (try dsimp only at hSw); go_simp; try with_reducible rfl); try simp only [List.getElem_toArray, List.getElem_cons_succ, List.getElem_cons_zero, Act.put, List.setIfInBounds_toArray, List.set_cons_zero, List.set_cons_succ])
          (refine wpAnyH_take (i := 12) (v := ?_) rfl (by kernel_rfl) (by kernel_rfl) (by kernel_rfl) (fun _ _ _ h => h) (Or.inl ⟨by kernel_rfl, ?_⟩) (by assumption) ?_; rotate_left; focus (intro wq hSw; (try dsimp only at hSw); go_simp; try with_reducible rfl); try simp only [List.getElem_toArray, List.getElem_cons_succ, List.getElem_cons_zero, Act.put, List.setIfInBounds_toArray, List.set_cons_zero, List.set_cons_succ])
          (refine wpAnyH_take (i := 15) (v := ?_) rfl (by kernel_rfl) (by kernel_rfl) (by kernel_rfl) (fun _ _ _ h => h) (Or.inl ⟨by kernel_rfl, ?_⟩) (by assumption) ?_; rotate_left; focus (intro wq hSw; (try dsimp only at hSw); go_simp; try with_reducible rfl); try simp only [List.getElem_toArray, List.getElem_cons_succ, List.getElem_cons_zero, Act.put, List.setIfInBounds_toArray, List.set_cons_zero, List.set_cons_succ])
          (refine wpAnyH_take (i := 16) (v := ?_) rfl (by kernel_rfl) (by kernel_rfl) (by kernel_rfl) (fun _ _ _ h => h) (Or.inl ⟨by kernel_rfl, ?_⟩) (by assumption) ?_; rotate_left; focus (intro wq hSw; (try dsimp only at hSw); go_simp; try with_reducible rfl); try simp only [List.getElem_toArray, List.getElem_cons_succ, List.getElem_cons_zero, Act.put, List.setIfInBounds_toArray, List.set_cons_zero, List.set_cons_succ])
          (refine wpAnyH_take (i := 17) (v := ?_) rfl (by kernel_rfl) (by kernel_rfl) (by kernel_rfl) (fun _ _ _ h => h) (Or.inl ⟨by kernel_rfl, ?_⟩) (by assumption) ?_; rotate_left; focus (intro wq hSw; (try dsimp only at hSw); go_simp; try with_reducible rfl); try simp only [List.getElem_toArray, List.getElem_cons_succ, List.getElem_cons_zero, Act.put, List.setIfInBounds_toArray, List.set_cons_zero, List.set_cons_succ])
          (refine wpAnyH_take (i := 18) (v := ?_) rfl (by kernel_rfl) (by kernel_rfl) (by kernel_rfl) (fun _ _ _ h => h) (Or.inl ⟨by kernel_rfl, ?_⟩) (by assumption) ?_; rotate_left; focus (intro wq hSw; (try dsimp only at hSw); go_simp; try with_reducible rfl); try simp only [List.getElem_toArray, List.getElem_cons_succ, List.getElem_cons_zero, Act.put, List.setIfInBounds_toArray, List.set_cons_zero, List.set_cons_succ])
          (refine wpAnyH_take (i := 19) (v := ?_) rfl (by kernel_rfl) (by kernel_rfl) (by kernel_rfl) (fun _ _ _ h => h) (Or.inl ⟨by kernel_rfl, ?_⟩) (by assumption) ?_; rotate_left; focus (intro wq hSw; (try dsimp only at hSw); go_simp; try with_reducible rfl); try simp only [List.getElem_toArray, List.getElem_cons_succ, List.getElem_cons_zero, Act.put, List.setIfInBounds_toArray, List.set_cons_zero, List.set_cons_succ])
          (refine wpAnyH_take (i := 20) (v := ?_) rfl (by kernel_rfl) (by kernel_rfl) (by kernel_rfl) (fun _ _ _ h => h) (Or.inl ⟨by kernel_rfl, ?_⟩) (by assumption) ?_; rotate_left; focus (intro wq hSw; (try dsimp only at hSw); go_simp; try with_reducible rfl); try simp only [List.getElem_toArray, List.getElem_cons_succ, List.getElem_cons_zero, Act.put, List.setIfInBounds_toArray, List.set_cons_zero, List.set_cons_succ])
          (refine wpAnyH_take (i := 21) (v := ?_) rfl (by kernel_rfl) (by kernel_rfl) (by kernel_rfl) (fun _ _ _ h => h) (Or.inl ⟨by kernel_rfl, ?_⟩) (by assumption) ?_; rotate_left; focus (intro wq hSw; (try dsimp only at hSw); go_simp; try with_reducible rfl); try simp only [List.getElem_toArray, List.getElem_cons_succ, List.getElem_cons_zero, Act.put, List.setIfInBounds_toArray, List.set_cons_zero, List.set_cons_succ])
          (refine wpAnyH_take (i := 22) (v := ?_) rfl (by kernel_rfl) (by kernel_rfl) (by kernel_rfl) (fun _ _ _ h => h) (Or.inl ⟨by kernel_rfl, ?_⟩) (by assumption) ?_; rotate_left; focus (intro wq hSw; (try dsimp only at hSw); go_simp; try with_reducible rfl); try simp only [List.getElem_toArray, List.getElem_cons_succ, List.getElem_cons_zero, Act.put, List.setIfInBounds_toArray, List.set_cons_zero, List.set_cons_succ])
          (refine wpAnyH_take (i := 24) (v := ?_) rfl (by kernel_rfl) (by kernel_rfl) (by kernel_rfl) (fun _ _ _ h => h) (Or.inl ⟨by kernel_rfl, ?_⟩) (by assumption) ?_; rotate_left; focus (intro wq hSw; (try dsimp only at hSw); go_simp; try with_reducible rfl); try simp only [List.getElem_toArray, List.getElem_cons_succ, List.getElem_cons_zero, Act.put, List.setIfInBounds_toArray, List.set_cons_zero, List.set_cons_succ])
          (refine wpAnyH_take (i := 25) (v := ?_) rfl (by kernel_rfl) (by kernel_rfl) (by kernel_rfl) (fun _ _ _ h => h) (Or.inl ⟨by kernel_rfl, ?_⟩) (by assumption) ?_; rotate_left; focus (intro wq hSw; (try dsimp only at hSw); go_simp; try with_reducible rfl); try simp only [List.getElem_toArray, List.getElem_cons_succ, List.getElem_cons_zero, Act.put, List.setIfInBounds_toArray, List.set_cons_zero, List.set_cons_succ])
          (refine wpAnyH_take (i := 26) (v := ?_) rfl (by kernel_rfl) (by kernel_rfl) (by kernel_rfl) (fun _ _ _ h => h) (Or.inl ⟨by kernel_rfl, ?_⟩) (by assumption) ?_; rotate_left; focus (intro wq hSw; (try dsimp only at hSw); go_simp; try with_reducible rfl); try simp only [List.getElem_toArray, List.getElem_cons_succ, List.getElem_cons_zero, Act.put, List.setIfInBounds_toArray, List.set_cons_zero, List.set_cons_succ])
          refine wpAnyH_ready (rs := [4, 13]) (by kernel_rfl) (by simp) ?_
          refine AllReadyH.cons rfl (fun K hK => ?_) (AllReadyH.cons rfl (fun K hK => ?_) AllReadyH.nil)
          · go_simp
            refine hK.out _ _ hcE' (fun hHeld => ?_)
            clear hK K
            try simp only [List.getElem_toArray, List.getElem_cons_succ, List.getElem_cons_zero, Act.put, List.setIfInBounds_toArray, List.set_cons_zero, List.set_cons_succ]
            refine wpAnyH_ready (rs := [13]) (by kernel_rfl) (by simp) ?_
            refine AllReadyH.cons rfl (fun K hK => ?_) AllReadyH.nil
            go_simp
            refine hK.out _ _ hcE' (fun hHeld => ?_)
            clear hK K
            try simp only [List.getElem_toArray, List.getElem_cons_succ, List.getElem_cons_zero, Act.put, List.setIfInBounds_toArray, List.set_cons_zero, List.set_cons_succ]
            refine wpAnyH_ready (rs := [14]) (by kernel_rfl) (by simp) ?_
            refine AllReadyH.cons rfl (fun K hK => ?_) AllReadyH.nil
            have o1 : OwnL (wr.alloc (.cells #[] 3)).drew (some ⟨wr.heap.size, 0, none⟩) 0 0 [] := OwnL.empty wr
            have r1 : IsL (wr.alloc (.cells #[] 3)).drew A n c (L (k * 4 + 2 + f)) := hL.alloc _
            (with_reducible refine step_app _ (by with_unfolding_all rfl) (.tmp 16) (.tmp 25) _ (by with_unfolding_all rfl) Try.underlying35 int_info _ _ _ _ (by with_unfolding_all rfl) o1 _ _ _ _ (by with_unfolding_all rfl) r1 (by omega) ?_)
            intro C2 p2 q2 w2 hp1 hp2 hown2 hg2 hat2
            obtain ⟨hM2, kL, hf2x⟩ := app_facts (((Mod.refl _ wr).alloc _).drew) (blk_size wr) hL' hg2 hat2
            have u2 : w2.cell? ⟨r, k * 4 + f, none⟩ = some (.slice A' n' c') := (hM2.cell (p := ⟨r, k * 4 + f, none⟩) hblt (fun h => h)).trans hc'
            refine hK.out _ _ u2 (fun hHeld => ?_)
            clear hK K
            try simp only [List.getElem_toArray, List.getElem_cons_succ, List.getElem_cons_zero, Act.put, List.setIfInBounds_toArray, List.set_cons_zero, List.set_cons_succ]
            refine wpAnyH_ready (rs := [23]) (by kernel_rfl) (by simp) ?_
            refine AllReadyH.cons rfl (fun K hK => ?_) AllReadyH.nil
            (with_reducible refine step_app _ (by with_unfolding_all rfl) (.tmp 26) (.tmp 34) _ (by with_unfolding_all rfl) Try.underlying35 int_info _ _ _ _ (by with_unfolding_all rfl) hown2 _ _ _ _ (by with_unfolding_all rfl) kL (by omega) ?_)
            intro C3 p3 q3 w3 hp3 hp4 hown3 hg3 hat3
            obtain ⟨hM3, kL3, hf3⟩ := app_facts hM2 hf2x hL hg3 hat3
            have u3 : w3.cell? ⟨r, k * 4 + f, none⟩ = some (.slice A' n' c') := (hM3.cell (p := ⟨r, k * 4 + f, none⟩) hblt (fun h => h)).trans hc'
            have tc := (hM3.cell (p := ⟨r, k * 4 + (f + 2), none⟩) hblt (fun h => h)).trans hc
            have tf := (hM3.frozen (p := ⟨r, k * 4 + (f + 2), none⟩) hblt (fun h => h)).trans hfz
            have tb := Nat.lt_of_lt_of_le hblt hM3.size
            refine hK.out _ _ u3 (fun hHeld => ?_)
            clear hK K
            try simp only [List.getElem_toArray, List.getElem_cons_succ, List.getElem_cons_zero, Act.put, List.setIfInBounds_toArray, List.set_cons_zero, List.set_cons_succ]
            (refine wpAnyH_take (i := 27) (v := ?_) rfl (by kernel_rfl) (by kernel_rfl) (by kernel_rfl) (fun _ _ _ h => h) (Or.inl ⟨by kernel_rfl, ?_⟩) (by assumption) ?_; rotate_left; focus (intro wq hSw; (try dsimp only at hSw); go_simp; try with_reducible rfl); try simp only [List.getElem_toArray, List.getElem_cons_succ, List.getElem_cons_zero, Act.put, List.setIfInBounds_toArray, List.set_cons_zero, List.set_cons_succ])
            refine wpAnyH_ready (rs := [28]) (by kernel_rfl) (by simp) ?_
            refine AllReadyH.cons rfl (fun K hK => ?_) AllReadyH.nil
            go_simp
            refine hK.out _ _ (cell_far u3 (by omega)) (fun hHeld => ?_)
            clear hK K
            try simp only [List.getElem_toArray, List.getElem_cons_succ, List.getElem_cons_zero, Act.put, List.setIfInBounds_toArray, List.set_cons_zero, List.set_cons_succ]
            refine wpAnyH_done (by kernel_rfl) ?_ _
            refine NoPanic.normal ?_
            have hsz := hM3.size
            obtain ⟨S2, h2, hS2, m2⟩ := h1.set (k := k * 4 + 2 + f) (by omega) hM3 hown3.isL hown3.ty (fun d hd => .inr (hf3 d hd))
            have eapp : ([] ++ L (k * 4 + 2 + f) ++ L (k * 4 + f) : List Int) = L (k * 4 + 2 + f) ++ L (k * 4 + f) := rfl
            rw [eapp] at h2
            obtain ⟨A6, n6, c6, hc6, hL6, hfz6, hty6, hSA6⟩ := h2.cell (k := k * 4 + f) (by omega)
            have b6 := h2.blt
            obtain ⟨S3, h3, hS3, m3⟩ := h2.set (k := k * 4 + f) (by omega) (Mod.refl _ _) (IsL.nil _) (TyL.nil _) (fun i hi => by cases hi)
            rw [cbegN_succ L hf2] at h3
            have q1 := RBeg.comp hS1 m1 (RBeg.comp hS2 m2 ⟨S3, h3, hS3, m3⟩)
            rw [ea] at q1 hc6 hfz6 b6
            clear hc hc' hL hL' tc tf tb h1 h2 h3 hS1 hS2 hS3 m1 m2 m3 hwf hf2n hcE hcE' u2 u3 eapp
            go_wp2
            go_roundw
            case rel => exact ⟨f + 1, by omega, by go_num, q1⟩
            case measure => simp [intOf]; omega
          · go_simp
            refine hK.out _ _ hc' (fun hHeld => ?_)
            clear hK K
            try simp only [List.getElem_toArray, List.getElem_cons_succ, List.getElem_cons_zero, Act.put, List.setIfInBounds_toArray, List.set_cons_zero, List.set_cons_succ]
            refine wpAnyH_ready (rs := [4]) (by kernel_rfl) (by simp) ?_
            refine AllReadyH.cons rfl (fun K hK => ?_) AllReadyH.nil
            go_simp
            refine hK.out _ _ hcE' (fun hHeld => ?_)
            clear hK K
            try simp only [List.getElem_toArray, List.getElem_cons_succ, List.getElem_cons_zero, Act.put, List.setIfInBounds_toArray, List.set_cons_zero, List.set_cons_succ]
            refine wpAnyH_ready (rs := [14]) (by kernel_rfl) (by simp) ?_
            refine AllReadyH.cons rfl (fun K hK => ?_) AllReadyH.nil
            have o1 : OwnL (wr.alloc (.cells #[] 3)).drew (some ⟨wr.heap.size, 0, none⟩) 0 0 [] := OwnL.empty wr
            have r1 : IsL (wr.alloc (.cells #[] 3)).drew A n c (L (k * 4 + 2 + f)) := hL.alloc _
            (with_reducible refine step_app _ (by with_unfolding_all rfl) (.tmp 16) (.tmp 25) _ (by with_unfolding_all rfl) Try.underlying35 int_info _ _ _ _ (by with_unfolding_all rfl) o1 _ _ _ _ (by with_unfolding_all rfl) r1 (by omega) ?_)
            intro C2 p2 q2 w2 hp1 hp2 hown2 hg2 hat2
            obtain ⟨hM2, kL, hf2x⟩ := app_facts (((Mod.refl _ wr).alloc _).drew) (blk_size wr) hL' hg2 hat2
            have u2 : w2.cell? ⟨r, k * 4 + f, none⟩ = some (.slice A' n' c') := (hM2.cell (p := ⟨r, k * 4 + f, none⟩) hblt (fun h => h)).trans hc'
            refine hK.out _ _ u2 (fun hHeld => ?_)
            clear hK K
            try simp only [List.getElem_toArray, List.getElem_cons_succ, List.getElem_cons_zero, Act.put, List.setIfInBounds_toArray, List.set_cons_zero, List.set_cons_succ]
            refine wpAnyH_ready (rs := [23]) (by kernel_rfl) (by simp) ?_
            refine AllReadyH.cons rfl (fun K hK => ?_) AllReadyH.nil
            (with_reducible refine step_app _ (by with_unfolding_all rfl) (.tmp 26) (.tmp 34) _ (by with_unfolding_all rfl) Try.underlying35 int_info _ _ _ _ (by with_unfolding_all rfl) hown2 _ _ _ _ (by with_unfolding_all rfl) kL (by omega) ?_)
            intro C3 p3 q3 w3 hp3 hp4 hown3 hg3 hat3
            obtain ⟨hM3, kL3, hf3⟩ := app_facts hM2 hf2x hL hg3 hat3
            have u3 : w3.cell? ⟨r, k * 4 + f, none⟩ = some (.slice A' n' c') := (hM3.cell (p := ⟨r, k * 4 + f, none⟩) hblt (fun h => h)).trans hc'
            have tc := (hM3.cell (p := ⟨r, k * 4 + (f + 2), none⟩) hblt (fun h => h)).trans hc
            have tf := (hM3.frozen (p := ⟨r, k * 4 + (f + 2), none⟩) hblt (fun h => h)).trans hfz
            have tb := Nat.lt_of_lt_of_le hblt hM3.size
            refine hK.out _ _ u3 (fun hHeld => ?_)
            clear hK K
            try simp only [List.getElem_toArray, List.getElem_cons_succ, List.getElem_cons_zero, Act.put, List.setIfInBounds_toArray, List.set_cons_zero, List.set_cons_succ]
            (refine wpAnyH_take (i := 27) (v := ?_) rfl (by kernel_rfl) (by kernel_rfl) (by kernel_rfl) (fun _ _ _ h => h) (Or.inl ⟨by kernel_rfl, ?_⟩) (by assumption) ?_; rotate_left; focus (intro wq hSw; (try dsimp only at hSw); go_simp; try with_reducible rfl); try simp only [List.getElem_toArray, List.getElem_cons_succ, List.getElem_cons_zero, Act.put, List.setIfInBounds_toArray, List.set_cons_zero, List.set_cons_succ])
            refine wpAnyH_ready (rs := [28]) (by kernel_rfl) (by simp) ?_
            refine AllReadyH.cons rfl (fun K hK => ?_) AllReadyH.nil
            go_simp
            refine hK.out _ _ (cell_far u3 (by omega)) (fun hHeld => ?_)
            clear hK K
            try simp only [List.getElem_toArray, List.getElem_cons_succ, List.getElem_cons_zero, Act.put, List.setIfInBounds_toArray, List.set_cons_zero, List.set_cons_succ]
            refine wpAnyH_done (by kernel_rfl) ?_ _
            refine NoPanic.normal ?_
            have hsz := hM3.size
            obtain ⟨S2, h2, hS2, m2⟩ := h1.set (k := k * 4 + 2 + f) (by omega) hM3 hown3.isL hown3.ty (fun d hd => .inr (hf3 d hd))
            have eapp : ([] ++ L (k * 4 + 2 + f) ++ L (k * 4 + f) : List Int) = L (k * 4 + 2 + f) ++ L (k * 4 + f) := rfl
            rw [eapp] at h2
            obtain ⟨A6, n6, c6, hc6, hL6, hfz6, hty6, hSA6⟩ := h2.cell (k := k * 4 + f) (by omega)
            have b6 := h2.blt
            obtain ⟨S3, h3, hS3, m3⟩ := h2.set (k := k * 4 + f) (by omega) (Mod.refl _ _) (IsL.nil _) (TyL.nil _) (fun i hi => by cases hi)
            rw [cbegN_succ L hf2] at h3
            have q1 := RBeg.comp hS1 m1 (RBeg.comp hS2 m2 ⟨S3, h3, hS3, m3⟩)
            rw [ea] at q1 hc6 hfz6 b6
            clear hc hc' hL hL' tc tf tb h1 h2 h3 hS1 hS2 hS3 m1 m2 m3 hwf hf2n hcE hcE' u2 u3 eapp
            go_wp2
            go_roundw
            case rel => exact ⟨f + 1, by omega, by go_num, q1⟩
            case measure => simp [intOf]; omega
        · obtain rfl : f = 2 := by omega
          have q1 : RBeg w S r (cbegN L (2 * (k + 1))) wr := ⟨S1, h1, hS1, m1⟩
          clear h1 hS1 m1
          go_wp2
          go_roundw
          case rel => exact ⟨k + 1, by omega, by go_num, q1⟩
          case measure => simp [intOf]; omega
    · obtain rfl : k = 16 := by omega
      have q1 : RRet w S r (cbegL L) (.tuple #[]) (.returned (.tuple #[])) wr := ⟨rfl, S1, h1, hS1, m1⟩
      clear h1 hS1 m1
      go_wp2
      go_end0
      exact q1
end

end Go.Proofs.Ytjjbcfbljnekgaa
