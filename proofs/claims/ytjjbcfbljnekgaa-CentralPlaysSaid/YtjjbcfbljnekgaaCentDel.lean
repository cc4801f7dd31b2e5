/-
  The contract of (*central.Central).Del.
-/
import Derived.Test.YtjjbcfbljnekgaaCent
import Derived.Outline
namespace Go.Proofs.Ytjjbcfbljnekgaa
open Go.RowKit

theorem lit2_0 (w : World) (v0 v1 : Value) (t : TypeId) : (w.alloc (.cells #[v0, v1] t)).cell? ⟨w.heap.size, 0, none⟩ = some v0 := by simp
theorem lit2_1 (w : World) (v0 v1 : Value) (t : TypeId) : (w.alloc (.cells #[v0, v1] t)).cell? ⟨w.heap.size, 1, none⟩ = some v1 := by simp
theorem lit2_0d (w : World) (v0 v1 : Value) (t : TypeId) : (w.alloc (.cells #[v0, v1] t)).drew.cell? ⟨w.heap.size, 0, none⟩ = some v0 := lit2_0 w v0 v1 t
theorem lit2_1d (w : World) (v0 v1 : Value) (t : TypeId) : (w.alloc (.cells #[v0, v1] t)).drew.cell? ⟨w.heap.size, 1, none⟩ = some v1 := lit2_1 w v0 v1 t
theorem IsL.drewL {w : World} {A : Option Addr} {n c : Nat} {l : List Int} (h : IsL w A n c l) : IsL w.drew A n c l := h.keep0 ((Mod.refl _ w).drew)
theorem cell_other {w : World} {z b j : Nat} {v u : Value} (h : w.cell? ⟨z, 0, none⟩ = some v) (hz : z < w.heap.size) (hne : z ≠ b) : (w.setCell ⟨b, j, none⟩ u).cell? ⟨z, 0, none⟩ = some v :=
  ((Mod.setCell (Mod.refl (fun i => i = b) w) (p := ⟨b, j, none⟩) (.inl rfl) u).cell (p := ⟨z, 0, none⟩) hz hne).trans h

def CDelPost (w : World) (S : Nat → Prop) (z b : Nat) (L : Nat → List Int) (id : Int) (e : Ending) (w' : World) : Prop :=
  e = .returned (.bool (cdelB L id)) ∧ ∃ S', Cent w' S' z b (cdelL L id) ∧ (∀ i, S' i → S i ∨ w.heap.size ≤ i) ∧ Mod S w w'

theorem cdel_nil (id : Int) (w : World) : Calls Try.prog 39 #[.pointer none, .int .i64 id] w fun e w' => e = .returned (.bool false) ∧ w' = w := by
  go_enter Try.func39, Try.ntmps39
  go_wp2
  go_ret
  exact ⟨rfl, rfl⟩

set_option maxHeartbeats 2000000 in
set_option maxRecDepth 100000 in
theorem cdel_any {w : World} {S : Nat → Prop} {z b : Nat} {L : Nat → List Int} (id : Int) (h : Cent w S z b L) (hl : ∀ i, i < 64 → (L i).length ≤ 400000) :
    Calls Try.prog 39 #[.pointer (some ⟨z, 0, none⟩), .int .i64 id] w (CDelPost w S z b L id) := by
  have ht := h.top
  have hz := h.zlt
  have hzb := h.ne
  go_enter Try.func39, Try.ntmps39
  go_wp2
  go_loop [17] (fun i => ∃ k : Nat, k ≤ 16 ∧ i = .int .i64 k ∧ ∀ j, j < k * 4 → id ∉ L j) (fun i => 16 - (intOf i).toNat)
  case atStart => exact ⟨0, by omega, rfl, fun j hj => by omega⟩
  case round =>
    obtain ⟨k, hk, rfl, hno⟩ := hrel
    by_cases hk2 : k < 16
    · go_wp2
      go_loop [20] (fun i => ∃ u : Nat, u ≤ 2 ∧ i = .int .i64 u ∧ ∀ j, j < k * 4 + u * 2 → id ∉ L j) (fun i => 2 - (intOf i).toNat)
      case atStart => exact ⟨0, by omega, rfl, fun j hj => hno j (by omega)⟩
      case round =>
        clear hno
        obtain ⟨u, hu, rfl, hno⟩ := hrel
        by_cases hu2 : u < 2
        · go_wp2
          go_loop [23] (fun i => ∃ f : Nat, f ≤ 2 ∧ i = .int .i64 f ∧ ∀ j, j < k * 4 + u * 2 + f → id ∉ L j) (fun i => 2 - (intOf i).toNat)
          case atStart => exact ⟨0, by omega, rfl, fun j hj => hno j (by omega)⟩
          case round =>
            clear hno
            obtain ⟨f, hf, rfl, hno⟩ := hrel
            by_cases hf2 : f < 2
            · obtain ⟨A, n, c, hc, hown, hfz, hg⟩ := h.cell (k := k * 4 + u * 2 + f) (by omega)
              have hk0 : (0 : Int) ≤ (k : Int) := by omega
              have hk1 : (k : Int) < 16 := by omega
              have hu0 : (0 : Int) ≤ (u : Int) := by omega
              have hu1 : (u : Int) < 2 := by omega
              have hf0 : (0 : Int) ≤ (f : Int) := by omega
              have hf1 : (f : Int) < 2 := by omega
              have hblt := h.blt
              have hln := hl (k * 4 + u * 2 + f) (by omega)
              rw [hown.len] at hln
              go_wp2_with fail
              refine (index_any A n c _ id _ hown.isL (by omega)).mono ?_
              rintro e w2 ⟨r, rfl, hidx, hw2⟩
              obtain rfl := hw2.symm
              rcases hidx with ⟨rfl, hnm⟩ | ⟨p, hp, rfl, hny, hpx⟩
              · go_wp2
                go_round
                case rel => exact ⟨f + 1, by omega, by go_num, fun j hj => by
                  by_cases e : j = k * 4 + u * 2 + f
                  · rw [e]; exact hnm
                  · exact hno j (by omega)⟩
                case measure => simp [intOf]; omega
              · have hm : id ∈ L (k * 4 + u * 2 + f) := mem_first _ hp hpx
                have he := erase_first _ hny hp hpx
                have HYES := Lib.hid (cdel_yes (by omega) hm (fun m hm => hno m hm))
                have HE := Lib.hid he
                rw [hown.len] at hp
                obtain ⟨A4, n4, c4, hcut, hL4, hblk4⟩ := cut_low (P := Try.prog) 35 Try.underlying35 int_info A n c (p + 1) (by omega)
                have hcut' : ∀ (W : World), (Instr.sliceAt 35 (.slice A n c) (some (.int .i64 ((p : Int) + 1))) none none).run Try.prog W = .ok (.slice A4 n4 c4) W := hcut
                have hr4 := hL4 _ _ hown.isL
                have hn4 : n4 = n - (p + 1) := by have := hr4.len; rw [List.length_drop, hown.len] at this; omega
                have hn4' : n4 ≤ 400000 := by omega
                have hrt := hown.isL.take (k := p) (by omega)
                have hcap := hown.isL.le
                have hcut2 := cut_high (P := Try.prog) 35 Try.underlying35 int_info A n c p (by omega)
                have hp0 : (0 : Int) ≤ (p : Int) := by omega
                have hwr : IntKind.i64.wrap ((p : Int) + 1) = (p : Int) + 1 := IntWalk.i64_in _ (by omega)
                clear hcut he hpx hny hm hn4 hno
                go_wp2
                go_region_held3 (fun W => W.cell? ⟨z, 0, none⟩ = some (.slice (some ⟨b, 0, none⟩) 16 16)) (first | (with_reducible exact tz) | (with_reducible exact cell_other tz tzl hzb) | (with_reducible exact ht) | (exact (((Mod.refl (fun _ => False) w).alloc _).cell (p := ⟨z, 0, none⟩) hz (fun h => h)).trans ht) | go_keep)
                  ((first | (go_at_call 58
                             refine (concat_two w.heap.size A A4 p n4 c c4 _ _ _ (lit2_0d w _ _ _) (lit2_1d w _ _ _) ((hrt.alloc _).drewL) ((hr4.alloc _).drewL) (by omega) hn4').mono ?_
                             rintro e w3 ⟨A5, c5, rfl, hown5, hf5, m5⟩
                             have m6 : Mod (fun _ => False) w w3 := ((Mod.refl _ w).alloc (.cells #[.slice A p c, .slice A4 n4 c4] 35)).trans (by first | (with_reducible exact m5) | exact (((Mod.refl _ _).drew).trans m5))
                             have tz : w3.cell? ⟨z, 0, none⟩ = some (.slice (some ⟨b, 0, none⟩) 16 16) := (m6.cell (p := ⟨z, 0, none⟩) hz (fun h => h)).trans ht
                             have tzl : z < w3.heap.size := Nat.lt_of_lt_of_le hz m6.size
                             have tc : w3.cell? ⟨b, k * 4 + u * 2 + f, none⟩ = some (.slice A n c) := (m6.cell (p := ⟨b, k * 4 + u * 2 + f, none⟩) hblt (fun h => h)).trans hc
                             have tf : w3.frozen? ⟨b, k * 4 + u * 2 + f, none⟩ = false := (m6.frozen (p := ⟨b, k * 4 + u * 2 + f, none⟩) hblt (fun h => h)).trans hfz
                             have tb : b < w3.heap.size := Nat.lt_of_lt_of_le hblt m6.size)))
                all_goals (
                  clear hwr hcut' hcut2
                  go_wp2
                  go_ret
                  have hat : ∀ i, blk A5 = some i → w.heap.size ≤ i := fun i hi => by
                    have h1 : (w.alloc (.cells #[.slice A p c, .slice A4 n4 c4] 35)).heap.size ≤ i := hf5 i hi
                    have h2 : (w.alloc (.cells #[.slice A p c, .slice A4 n4 c4] 35)).heap.size = w.heap.size + 1 := by simp
                    omega
                  obtain ⟨S', hS1, hS2, hS3⟩ := h.put (by omega) hc (m6.mono (fun _ _ h => h.elim)) hown5 (.inr hat)
                  refine ⟨by rw [HYES.out.1]; rfl, S', ?_, hS2, hS3⟩
                  rw [HYES.out.2, HE.out, List.eraseIdx_eq_take_drop_succ]
                  exact hS1)
            · obtain rfl : f = 2 := by omega
              go_wp2
              go_round
              case rel => exact ⟨u + 1, by omega, by go_num, fun j hj => hno j (by omega)⟩
              case measure => simp [intOf]; omega
        · obtain rfl : u = 2 := by omega
          go_wp2
          go_round
          case rel => exact ⟨k + 1, by omega, by go_num, fun j hj => hno j (by omega)⟩
          case measure => simp [intOf]; omega
    · obtain rfl : k = 16 := by omega
      have HNO := Lib.hid (cdel_no (L := L) (id := id) (fun j hj => hno j (by omega)))
      clear hno
      go_wp2
      go_ret
      exact ⟨by rw [HNO.out.1]; rfl, S, by rw [HNO.out.2]; exact h, fun i hi => .inl hi, Mod.refl _ _⟩

end Go.Proofs.Ytjjbcfbljnekgaa
