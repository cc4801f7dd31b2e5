/-
  The contracts of (*central.Central).Unswept, Any.
-/
import Derived.Test.YtjjbcfbljnekgaaCentPut
import Derived.Outline
namespace Go.Proofs.Ytjjbcfbljnekgaa
open Go.RowKit

/-- How many are unswept in the first k classes. -/
def cun (L : Nat → List Int) : Nat → Nat
  | 0 => 0
  | k + 1 => cun L k + (L (k * 4 + 2)).length + (L (k * 4 + 3)).length
theorem cun_le (L : Nat → List Int) (k : Nat) (hk : k ≤ 16) (hl : ∀ i, i < 64 → (L i).length ≤ 400000) : cun L k ≤ k * 800000 := by
  induction k with
  | zero => simp [cun]
  | succ k ih => have h1 := ih (by omega); have h2 := hl (k * 4 + 2) (by omega); have h3 := hl (k * 4 + 3) (by omega); rw [cun]; omega

theorem cun_nil (w : World) : Calls Try.prog 40 #[.pointer none] w fun e w' => e = .returned (.int .i64 0) ∧ w' = w := by
  go_enter Try.func40, Try.ntmps40
  go_wp2
  go_ret
  exact ⟨rfl, rfl⟩

set_option maxHeartbeats 1000000 in
set_option maxRecDepth 100000 in
theorem cun_any {w : World} {S : Nat → Prop} {z b : Nat} {L : Nat → List Int} (h : Cent w S z b L) (hl : ∀ i, i < 64 → (L i).length ≤ 400000) :
    Calls Try.prog 40 #[.pointer (some ⟨z, 0, none⟩)] w fun e w' => e = .returned (.int .i64 (cun L 16)) ∧ Mod (fun _ => False) w w' := by
  have ht := h.top
  go_enter Try.func40, Try.ntmps40
  go_wp2
  go_loopw [3, 13] (fun v i wr => ∃ k : Nat, k ≤ 16 ∧ i = .int .i64 k ∧ v = .int .i64 (cun L k) ∧ Mod (fun _ => False) w wr) (fun _ i _ => 16 - (intOf i).toNat)
  case atStart => exact ⟨0, by omega, rfl, rfl, Mod.refl _ _⟩
  case round =>
    obtain ⟨k, hk, rfl, rfl, mm⟩ := hrel
    have hb := cun_le L k hk hl
    obtain ⟨m, hm⟩ : ∃ m, m = cun L k := ⟨_, rfl⟩
    by_cases hk2 : k < 16
    · have h1 := h.keep0 mm
      obtain ⟨A0, n0, c0, hc0, hown0, _, _⟩ := h1.cell (k := k * 4) (by omega)
      obtain ⟨A1, n1, c1, hc1, hown1, _, _⟩ := h1.cell (k := k * 4 + 1) (by omega)
      obtain ⟨A2, n2, c2, hc2, hown2, _, _⟩ := h1.cell (k := k * 4 + 2) (by omega)
      obtain ⟨A3, n3, c3, hc3, hown3, _, _⟩ := h1.cell (k := k * 4 + 3) (by omega)
      have e2 := hl (k * 4 + 2) (by omega)
      have e3 := hl (k * 4 + 3) (by omega)
      have hs : cun L (k + 1) = cun L k + n2 + n3 := by rw [cun, hown2.len, hown3.len]
      rw [hown2.len] at e2
      rw [hown3.len] at e3
      rw [← hm] at hb hs ⊢
      have HS := Lib.hid hs
      have hk0 : (0 : Int) ≤ (k : Int) := by omega
      have hk1 : (k : Int) < 16 := by omega
      clear hs hm
      go_wp2
      go_roundw
      case rel => exact ⟨k + 1, by omega, by go_num, by rw [HS.out]; simp, mm.alloc _⟩
      case measure => simp [intOf]; omega
    · obtain rfl : k = 16 := by omega
      rw [← hm]
      have HM := Lib.hid hm
      clear hm
      go_wp2
      go_ret
      exact ⟨by rw [HM.out]; rfl, mm⟩

/-- What Any tells: class, id, is there one. -/
def canyV (L : Nat → List Int) : Nat → Nat → Int × Int × Bool
  | 0, _ => (0, 0, false)
  | f + 1, i => match L (i / 2 * 4 + 2 + i % 2) with
    | x :: _ => (((i / 2 : Nat) : Int), x, true)
    | [] => canyV L f (i + 1)
def canyL (L : Nat → List Int) : Nat → Nat → Nat → List Int
  | 0, _ => L
  | f + 1, i => match L (i / 2 * 4 + 2 + i % 2) with
    | _ :: l => upd L (i / 2 * 4 + 2 + i % 2) l
    | [] => canyL L f (i + 1)
theorem cany_none {L : Nat → List Int} {f i : Nat} (h : ∀ j, i ≤ j → j < i + f → L (j / 2 * 4 + 2 + j % 2) = []) : canyV L f i = (0, 0, false) ∧ canyL L f i = L := by
  induction f generalizing i with
  | zero => exact ⟨rfl, rfl⟩
  | succ f ih =>
    have := ih (i := i + 1) (fun j h1 h2 => h j (by omega) (by omega))
    simp only [canyV, canyL, h i (by omega) (by omega)]
    exact this
theorem cany_some {L : Nat → List Int} {f i j : Nat} {x : Int} {l : List Int} (hj : j < i + f) (hij : i ≤ j) (hx : L (j / 2 * 4 + 2 + j % 2) = x :: l) (h : ∀ m, i ≤ m → m < j → L (m / 2 * 4 + 2 + m % 2) = []) :
    canyV L f i = (((j / 2 : Nat) : Int), x, true) ∧ canyL L f i = upd L (j / 2 * 4 + 2 + j % 2) l := by
  induction f generalizing i with
  | zero => omega
  | succ f ih =>
    by_cases e : i = j
    · subst e
      simp only [canyV, canyL, hx]
      exact ⟨trivial, trivial⟩
    · have := ih (i := i + 1) (by omega) (by omega) (fun m h1 h2 => h m (by omega) (by omega))
      simp only [canyV, canyL, h i (by omega) (by omega)]
      exact this
def tupA (p : Int × Int × Bool) : Value := .tuple #[.int .i64 p.1, .int .i64 p.2.1, .bool p.2.2]

theorem cany_nil (w : World) : Calls Try.prog 48 #[.pointer none] w fun e w' => e = .returned (tupA (0, 0, false)) ∧ w' = w := by
  go_enter Try.func48, Try.ntmps48
  go_wp2
  go_ret3
  exact ⟨rfl, rfl⟩

set_option maxHeartbeats 2000000 in
set_option maxRecDepth 100000 in
theorem cany_any {w : World} {S : Nat → Prop} {z b : Nat} {L : Nat → List Int} (h : Cent w S z b L) (hl : ∀ i, i < 64 → (L i).length ≤ 400000) :
    Calls Try.prog 48 #[.pointer (some ⟨z, 0, none⟩)] w (CRet w S z b (canyL L 32 0) (tupA (canyV L 32 0))) := by
  have ht := h.top
  have hz := h.zlt
  have hzb := h.ne
  have hblt := h.blt
  go_enter Try.func48, Try.ntmps48
  go_wp2
  go_loop [15] (fun i => ∃ k : Nat, k ≤ 16 ∧ i = .int .i64 k ∧ ∀ j, j < 2 * k → L (j / 2 * 4 + 2 + j % 2) = []) (fun i => 16 - (intOf i).toNat)
  case atStart => exact ⟨0, by omega, rfl, fun j hj => by omega⟩
  case round =>
    obtain ⟨k, hk, rfl, hno⟩ := hrel
    by_cases hk2 : k < 16
    · have hdk : decide ((k : Int) < 16) = true := decide_eq_true (by omega)
      go_wp2
      go_loop [18] (fun i => ∃ f : Nat, f ≤ 2 ∧ i = .int .i64 f ∧ ∀ j, j < 2 * k + f → L (j / 2 * 4 + 2 + j % 2) = []) (fun i => 2 - (intOf i).toNat)
      case atStart => exact ⟨0, by omega, rfl, fun j hj => hno j (by omega)⟩
      case round =>
        clear hno
        obtain ⟨f, hf, rfl, hno⟩ := hrel
        by_cases hf2 : f < 2
        · obtain ⟨A, n, c, hc, hown, hfz, hg⟩ := h.cell (k := k * 4 + 2 + f) (by omega)
          have hk0 : (0 : Int) ≤ (k : Int) := by omega
          have hk1 : (k : Int) < 16 := by omega
          have hf0 : (0 : Int) ≤ (f : Int) := by omega
          have hf1 : (f : Int) < 2 := by omega
          have ej : (2 * k + f) / 2 * 4 + 2 + (2 * k + f) % 2 = k * 4 + 2 + f := by omega
          have ek : (2 * k + f) / 2 = k := by omega
          have hll := hl (k * 4 + 2 + f) (by omega)
          cases hL : L (k * 4 + 2 + f) with
          | nil =>
            have hn : n = 0 := by rw [← hown.len, hL]; rfl
            subst hn
            have HNO := Lib.hid (show ∀ j, j < 2 * k + (f + 1) → L (j / 2 * 4 + 2 + j % 2) = [] from fun j hj => by
              by_cases e : j = 2 * k + f
              · rw [e, ej]; exact hL
              · exact hno j (by omega))
            clear hno hL ej ek hll hown
            go_wp2
            go_round
            case rel => exact ⟨f + 1, by omega, by go_num, HNO.out⟩
            case measure => simp [intOf]; omega
          | cons x l =>
            have hsome := cany_some (L := L) (f := 32) (i := 0) (j := 2 * k + f) (x := x) (l := l) (by omega) (by omega) (by rw [ej]; exact hL) (fun m _ hm => hno m hm)
            rw [ej, ek] at hsome
            have HV := Lib.hid hsome
            obtain ⟨m, rfl⟩ : ∃ m, n = m + 1 := ⟨l.length, by rw [← hown.len, hL]; rfl⟩
            obtain ⟨g, o, rfl, hcg⟩ := hown.isL.at_ (k := 0) (by omega)
            rw [hL] at hcg
            have hcg' : w.cell? ⟨g, o, none⟩ = some (.int .i64 x) := hcg
            have hgl : g < w.heap.size := World.block_lt_of_cell? w _ hcg'
            obtain ⟨A4, n4, c4, hcut, hL4, hblk4⟩ := cut_low (P := Try.prog) 35 Try.underlying35 int_info (some ⟨g, o, none⟩) (m + 1) c 1 (by omega)
            have hcut' : ∀ (W : World), (Instr.sliceAt 35 (.slice (some ⟨g, o, none⟩) (m + 1) c) (some (.int .i64 1)) none none).run Try.prog W = .ok (.slice A4 n4 c4) W := hcut
            have hr4 := hL4 _ _ hown.isL
            rw [hL, List.drop_one, List.tail_cons] at hr4
            rw [hL] at hll
            have hn4 : n4 ≤ 900000 := by rw [← hr4.len]; have := hll; simp at this; omega
            have hm1 : m + 1 ≤ 400000 := by have := hown.len; rw [hL] at this; rw [← this]; exact hll
            have hm0 : decide ((0 : Int) < (m : Int) + 1) = true := decide_eq_true (by omega)
            clear hcut hcg hno hsome ej ek hL hll
            go_wp2
            go_region_held3 (fun W => W.cell? ⟨z, 0, none⟩ = some (.slice (some ⟨b, 0, none⟩) 16 16)) (first | (with_reducible exact tz) | (with_reducible exact cell_other tz tzl hzb) | (with_reducible exact ht) | go_keep)
              ((first | (go_at_call 55
                         refine (clone_any A4 n4 c4 l _ (by first | (with_reducible exact hr4) | exact hr4.drewL) hn4).mono ?_
                         rintro e w3 ⟨A5, c5, rfl, hown5, hf5, m5⟩
                         have m6 : Mod (fun _ => False) w w3 := by first | (with_reducible exact m5) | exact (((Mod.refl _ _).drew).trans m5)
                         have tz : w3.cell? ⟨z, 0, none⟩ = some (.slice (some ⟨b, 0, none⟩) 16 16) := (m6.cell (p := ⟨z, 0, none⟩) hz (fun h => h)).trans ht
                         have tzl : z < w3.heap.size := Nat.lt_of_lt_of_le hz m6.size
                         have tc : w3.cell? ⟨b, k * 4 + 2 + f, none⟩ = some (.slice (some ⟨g, o, none⟩) (m + 1) c) := (m6.cell (p := ⟨b, k * 4 + 2 + f, none⟩) hblt (fun h => h)).trans hc
                         have tf : w3.frozen? ⟨b, k * 4 + 2 + f, none⟩ = false := (m6.frozen (p := ⟨b, k * 4 + 2 + f, none⟩) hblt (fun h => h)).trans hfz
                         have tg : w3.cell? ⟨g, o, none⟩ = some (.int .i64 x) := (m6.cell (p := ⟨g, o, none⟩) hgl (fun h => h)).trans hcg'
                         have tb : b < w3.heap.size := Nat.lt_of_lt_of_le hblt m6.size)))
            all_goals (
              have hat : ∀ i, blk A5 = some i → w.heap.size ≤ i := hf5
              obtain ⟨S2, h2, hS2, m2⟩ := h.put (by omega) hc (m6.mono (fun _ _ h => h.elim)) hown5 (.inr hat)
              have hgb : g ≠ b := (hg g rfl).2.1
              have hsx : (w3.setCell ⟨b, k * 4 + 2 + f, none⟩ (.slice A5 n4 c5)).cell? ⟨g, o, none⟩ = some (.int .i64 x) :=
                ((Mod.setCell (Mod.refl (fun i => i = b) w3) (p := ⟨b, k * 4 + 2 + f, none⟩) (.inl rfl) _).cell (p := ⟨g, o, none⟩) (Nat.lt_of_lt_of_le hgl m6.size) hgb).trans tg
              clear hc ht hown hown5 tc tz tzl hcut' hr4 tg hcg'
              go_wp2
              go_quiet (fail)
              go_wp2
              go_ret3
              rw [HV.out.1, HV.out.2]
              exact ⟨rfl, S2, h2.keep0 ((Mod.refl _ _).drewN nq), hS2, m2.drewN nq⟩)
        · obtain rfl : f = 2 := by omega
          have HNO := Lib.hid (show ∀ j, j < 2 * (k + 1) → L (j / 2 * 4 + 2 + j % 2) = [] from hno)
          clear hno
          go_wp2
          go_round
          case rel => exact ⟨k + 1, by omega, by go_num, HNO.out⟩
          case measure => simp [intOf]; omega
    · obtain rfl : k = 16 := by omega
      have HV := Lib.hid (cany_none (L := L) (f := 32) (i := 0) (fun j _ hj => hno j (by omega)))
      clear hno
      go_wp2
      go_ret3
      rw [HV.out.1, HV.out.2]
      exact CRet.same h

end Go.Proofs.Ytjjbcfbljnekgaa
