/-
  treadmilllaw14.WaitPlays: the walk.
-/
import Derived.Test.YtjjbcfbljnekgaaWPlay
import Derived.Test.YtjjbcfbljnekgaaOps
import Derived.Deep.DeepCutAuto
import Derived.Deep.CutBlock
import Derived.Deep.LoopGhost
set_option linter.unusedSimpArgs false
namespace Go.Proofs.Ytjjbcfbljnekgaa
open Go.RowKit

theorem mod_case (x : Int) (n : Nat) (hn : 0 < n) : ∃ (a : Int) (k : Nat), x.tmod (n : Int) = a ∧ -(n : Int) < a ∧ a < (n : Int) ∧ k < n ∧ (a + (n : Int)).tmod (n : Int) = (k : Int) ∧ (a + (n : Int)) % (n : Int) = (k : Int) := by
  have h1 := Int.tmod_lt_of_pos x (b := (n : Int)) (by omega)
  have h2 : -(n : Int) < x.tmod (n : Int) := by
    have h3 := Int.tmod_lt_of_pos (-x) (b := (n : Int)) (by omega)
    rw [Int.neg_tmod] at h3
    omega
  obtain ⟨a, ha⟩ : ∃ a, a = x.tmod (n : Int) := ⟨_, rfl⟩
  rw [← ha] at h1 h2
  have h4 := Int.emod_nonneg (a + (n : Int)) (b := (n : Int)) (by omega)
  have h5 := Int.emod_lt_of_pos (a + (n : Int)) (b := (n : Int)) (by omega)
  refine ⟨a, ((a + (n : Int)) % (n : Int)).toNat, ha.symm, h2, h1, by omega, ?_, by omega⟩
  rw [Int.tmod_eq_emod_of_nonneg (by omega)]
  omega

theorem wlenM (b : Nat) (o : Nat → Option Nat) (L : Nat → List Int) (w : World) (h : Waits w b o L) (hl : WSmall L) :
    Calls Try.prog 30 #[.pointer (some ⟨b, 0, none⟩)] w fun e w' => e = .returned (.int .i64 (wsum L 32)) ∧ Mod (fun _ => False) w w' :=
  (wlen_any b o L w h (fun i hi => by have := hl i hi; omega)).mono fun _ _ ⟨he, e⟩ => ⟨he, e ▸ Mod.refl _ _⟩
theorem rwlenM {w : World} {S : Nat → Prop} {r : Nat} {L : Nat → List Int} (h : ArrR 32 58 w S r L) (hl : WSmall L) :
    Calls Try.prog 35 #[.pointer (some ⟨r, 0, none⟩)] w fun e w' => e = .returned (.int .i64 (wsum L 32)) ∧ Mod (fun _ => False) w w' :=
  (rwlen h (fun i hi => by have := hl i hi; omega)).mono fun _ _ ⟨he, e⟩ => ⟨he, e ▸ Mod.refl _ _⟩
theorem ints_sameM (A A' : Option Addr) (n n' c c' : Nat) (l : List Int) (w : World) (h : IsL w A n c l) (h' : IsL w A' n' c' l) (hn : n ≤ 900000) :
    Calls Try.prog 18 #[.slice A n c, .slice A' n' c'] w fun e w' => e = .returned (.bool true) ∧ Mod (fun _ => False) w w' := by
  have hnn : n' = n := by rw [← h.len, ← h'.len]
  refine (ints_any A A' n n' c c' l l w h h' hn (by omega)).mono ?_
  rintro e w' ⟨rfl, k, rfl⟩
  exact ⟨by simp, (Mod.refl _ w).drewN k⟩
theorem wallnoM (b : Nat) (at' : Int) (w : World) (h : ¬ (0 ≤ at' ∧ at' < 32)) : Calls Try.prog 29 #[.pointer (some ⟨b, 0, none⟩), .int .i64 at'] w fun e w' => e = .returned (.slice none 0 0) ∧ Mod (fun _ => False) w w' :=
  (wall_no b at' w h).mono fun _ _ ⟨he, e⟩ => ⟨he, e ▸ Mod.refl _ _⟩
theorem wallM (b : Nat) (o : Nat → Option Nat) (L : Nat → List Int) (at' : Int) (w : World) (h : Waits w b o L) (h0 : 0 ≤ at') (h1 : at' < 32) (hl : WSmall L) :
    Calls Try.prog 29 #[.pointer (some ⟨b, 0, none⟩), .int .i64 at'] w fun e w' => ∃ A n c, e = .returned (.slice A n c) ∧ IsL w' A n c (L at'.toNat) ∧ n ≤ 900000 ∧ Mod (fun _ => False) w w' := by
  obtain ⟨p, rfl⟩ : ∃ p : Nat, at' = (p : Int) := ⟨at'.toNat, by omega⟩
  have hlp := hl p (by omega)
  refine (wall_any b o L p w h (by omega) (by omega)).mono ?_
  rintro e w' ⟨A, n, c, he, hown, _, mm⟩
  rw [Int.toNat_natCast]
  exact ⟨A, n, c, he, hown.isL, by rw [← hown.len]; omega, mm⟩

def opf (kd a g : Int) : Nat → Value := fun i => if i = 0 then .int .i64 kd else if i = 1 then .int .i64 a else .int .i64 g
theorem opf_at (kd a g : Int) : ∀ i, i < (#[Value.int .i64 kd, .int .i64 a, .int .i64 g] : Array Value).size → (#[Value.int .i64 kd, .int .i64 a, .int .i64 g] : Array Value)[i]? = some (opf kd a g i) := by
  intro i hi
  have h3 : i = 0 ∨ i = 1 ∨ i = 2 := by simp at hi; omega
  rcases h3 with rfl | rfl | rfl <;> rfl

set_option maxHeartbeats 16000000 in
set_option maxRecDepth 100000 in
theorem wplays_true (A : Option Addr) (n c : Nat) (l : List (Int × Int × Int)) (w : World) (_ : n ≤ maxLen) (hl : IsO14 w A n l) :
    Calls Try.prog 8 #[.slice A n c] w fun e w' => e = .returned (.bool true) ∧ Mod (fun _ => False) w w' := by
  go_enter Try.func8, Try.ntmps8
  go_wp2_with fail
  refine (wnew w).mono ?_
  rintro e w1 ⟨b, rfl, hb, hq1, m1⟩
  go_wp2_with fail
  have ma : Mod (fun _ => False) w1 (w1.alloc (.cells (Array.replicate 32 (Value.slice none 0 0)) 58)) := (Mod.refl _ w1).alloc _
  have hr1 : ArrR 32 58 (w1.alloc (.cells (Array.replicate 32 (Value.slice none 0 0)) 58)) (fun i => i = w1.heap.size) w1.heap.size (fun _ => []) := ArrR.new (by decide) w1 _ (by simp) zero_waits
  have h0 : Duo0 w (w1.alloc (.cells (Array.replicate 32 (Value.slice none 0 0)) 58)) (WtP b (fun _ => [])) (RwP w1.heap.size (fun _ => [])) := by
    refine ⟨_, _, ⟨_, hq1.keep0 ma, rfl⟩, hr1, fun i hi => ⟨?_, fun e => ?_⟩, fun i hi => by rw [hi]; exact m1.size, m1.trans ma⟩
    · rcases hi with rfl | ⟨j, _, hj⟩
      · exact hb
      · cases hj
    · have := hq1.lt i hi
      omega
  obtain ⟨r, hr⟩ : ∃ r, r = w1.heap.size := ⟨_, rfl⟩
  rw [← hr] at h0 ⊢
  clear hr hr1 hq1 m1 ma hb
  go_loopw [5] (fun i wr => ∃ (m : Nat) (L : Nat → List Int), m ≤ n ∧ m ≤ 60 ∧ i = .int .i64 m ∧ Duo0 w wr (WtP b L) (RwP r L) ∧ ∀ i, (L i).length ≤ m) (fun i _ => n - (intOf i).toNat)
  case atStart => exact ⟨0, _, by omega, by omega, rfl, h0, fun _ => by simp⟩
  case round =>
    clear h0
    obtain ⟨m, L, hm, hm6, rfl, h, hlen⟩ := hrel
    by_cases hmn : m < n
    · by_cases hm60 : m < 60
      · obtain ⟨g, o, rfl, hg, hc⟩ := (hl.keep h.mod).2 (by omega)
        obtain ⟨hc0, hc1, hc2⟩ := hc m hmn
        generalize (l.getD m (0, 0, 0)).1 = kd at hc0
        generalize (l.getD m (0, 0, 0)).2.1 = at' at hc1
        generalize (l.getD m (0, 0, 0)).2.2 = gg at hc2
        clear hc
        have hd1 : decide (m < n) = true := decide_eq_true hmn
        have hd2 : decide ((m : Int) < 60) = true := decide_eq_true (by omega)
        have hd3 : decide (m < 60) = true := decide_eq_true hm60
        have hi0 : (0 : Int) ≤ (m : Int) := by omega
        have hi1 : (m : Int) < (n : Int) := by omega
        have hq := h.alloc (WtP.good _ _) (RwP.good _ _) #[.int .i64 kd, .int .i64 at', .int .i64 gg] 60 (opf kd at' gg) (opf_at kd at' gg)
        have hws : WSmall L := fun i _ => by have := hlen i; omega
        obtain ⟨x, k, hx, hx1, hx2, hk, hx3, hx4⟩ := mod_case kd 6 (by omega)
        have hx' : kd.tmod 6 = x := hx
        have hx3' : (x + 6).tmod 6 = (k : Int) := hx3
        have hx4' : (x + 6) % 6 = (k : Int) := hx4
        have hx1' : -6 < x := hx1
        have hx2' : x < 6 := hx2
        clear hx hx3 hx4 hx1 hx2 h
        go_upto_block 2 with (fail)
        generalize hwq : wr.alloc (.cells #[.int .i64 kd, .int .i64 at', .int .i64 gg] 60) = wq at hq ⊢
        generalize hqq : wr.heap.size = q at hq ⊢
        clear hwq hqq
        have hc1 : wq.cell? ⟨q, 1, none⟩ = some (.int .i64 at') := hq.row.cell (i := 1) (by simp)
        have hc2 : wq.cell? ⟨q, 2, none⟩ = some (.int .i64 gg) := hq.row.cell (i := 2) (by simp)
        clear hx' hx3' hx4' hx1' hx2' hc0
        go_cut [7] (fun _ wx => ∃ L2, Duo w wx (WtP b L2) (RwP r L2) q 60 3 (opf kd at' gg) ∧ ∀ i, (L2 i).length ≤ m + 1)
        case first =>
          have hks : k = 0 ∨ k = 1 ∨ k = 2 ∨ k = 3 ∨ k = 4 ∨ k = 5 := by omega
          rcases hks with rfl | rfl | rfl | rfl | rfl | rfl
          · go_wp2_with fail
            go_region_held3 (fun W => W.cell? ⟨q, 1, none⟩ = some (.int .i64 at') ∧ W.cell? ⟨q, 2, none⟩ = some (.int .i64 gg)) (first | (with_reducible exact ⟨s1, s2⟩) | (with_reducible exact ⟨t1, t2⟩) | (with_reducible exact ⟨hc1, hc2⟩) | go_keep)
              (first
                | (go_at_call 32
                   have key := h3.refer (WtP.good _ _) (fun T hT => rw_wait hT hws at' gg)
                   (with_reducible refine key.mono ?_)
                   rintro e w4 ⟨rfl, h4⟩
                   have s1 : w4.cell? ⟨q, 1, none⟩ = some (.int .i64 at') := h4.row.cell (i := 1) (by simp)
                   have s2 : w4.cell? ⟨q, 2, none⟩ = some (.int .i64 gg) := h4.row.cell (i := 2) (by simp))
                | (go_at_call 28
                   have key := (hq.keep0 (WtP.good _ _) (RwP.good _ _) ((Mod.refl (fun _ => False) wq).drew)).prog (RwP.good _ _) (fun S hS => wt_wait hS hws at' gg)
                   (with_reducible refine key.mono ?_)
                   rintro e w3 ⟨rfl, h3⟩
                   have t1 : w3.cell? ⟨q, 1, none⟩ = some (.int .i64 at') := h3.row.cell (i := 1) (by simp)
                   have t2 : w3.cell? ⟨q, 2, none⟩ = some (.int .i64 gg) := h3.row.cell (i := 2) (by simp)))
            all_goals (
              have hlen2 : ∀ i, (waitL L at' gg i).length ≤ m + 1 := fun i => by have h1 := hlen i; have h2 := waitL_len L at' gg i; omega
              generalize waitL L at' gg = L2 at h4 hlen2
              generalize waitV L at' gg = V
              clear t1 t2 h3 hq hlen hws s1 s2
              go_wp2_with fail
              go_meet
              case rel => exact ⟨_, h4, hlen2⟩)
          · go_wp2_with fail
            go_region_held3 (fun W => W.cell? ⟨q, 1, none⟩ = some (.int .i64 at') ∧ W.cell? ⟨q, 2, none⟩ = some (.int .i64 gg)) (first | (with_reducible exact ⟨s1, s2⟩) | (with_reducible exact ⟨t1, t2⟩) | (with_reducible exact ⟨hc1, hc2⟩) | go_keep)
              (first
                | (go_at_call 32
                   have key := h3.refer (WtP.good _ _) (fun T hT => rw_wait hT hws at' gg)
                   (with_reducible refine key.mono ?_)
                   rintro e w4 ⟨rfl, h4⟩
                   have s1 : w4.cell? ⟨q, 1, none⟩ = some (.int .i64 at') := h4.row.cell (i := 1) (by simp)
                   have s2 : w4.cell? ⟨q, 2, none⟩ = some (.int .i64 gg) := h4.row.cell (i := 2) (by simp))
                | (go_at_call 28
                   have key := (hq.keep0 (WtP.good _ _) (RwP.good _ _) ((Mod.refl (fun _ => False) wq).drew)).prog (RwP.good _ _) (fun S hS => wt_wait hS hws at' gg)
                   (with_reducible refine key.mono ?_)
                   rintro e w3 ⟨rfl, h3⟩
                   have t1 : w3.cell? ⟨q, 1, none⟩ = some (.int .i64 at') := h3.row.cell (i := 1) (by simp)
                   have t2 : w3.cell? ⟨q, 2, none⟩ = some (.int .i64 gg) := h3.row.cell (i := 2) (by simp)))
            all_goals (
              have hlen2 : ∀ i, (waitL L at' gg i).length ≤ m + 1 := fun i => by have h1 := hlen i; have h2 := waitL_len L at' gg i; omega
              generalize waitL L at' gg = L2 at h4 hlen2
              generalize waitV L at' gg = V
              clear t1 t2 h3 hq hlen hws s1 s2
              go_wp2_with fail
              go_meet
              case rel => exact ⟨_, h4, hlen2⟩)
          · go_wp2_with fail
            go_region_held3 (fun W => W.cell? ⟨q, 1, none⟩ = some (.int .i64 at') ∧ W.cell? ⟨q, 2, none⟩ = some (.int .i64 gg)) (first | (with_reducible exact ⟨s1, s2⟩) | (with_reducible exact ⟨t1, t2⟩) | (with_reducible exact ⟨hc1, hc2⟩) | go_keep)
              (first
                | (go_at_call 32
                   have key := h3.refer (WtP.good _ _) (fun T hT => rw_wait hT hws at' gg)
                   (with_reducible refine key.mono ?_)
                   rintro e w4 ⟨rfl, h4⟩
                   have s1 : w4.cell? ⟨q, 1, none⟩ = some (.int .i64 at') := h4.row.cell (i := 1) (by simp)
                   have s2 : w4.cell? ⟨q, 2, none⟩ = some (.int .i64 gg) := h4.row.cell (i := 2) (by simp))
                | (go_at_call 28
                   have key := (hq.keep0 (WtP.good _ _) (RwP.good _ _) ((Mod.refl (fun _ => False) wq).drew)).prog (RwP.good _ _) (fun S hS => wt_wait hS hws at' gg)
                   (with_reducible refine key.mono ?_)
                   rintro e w3 ⟨rfl, h3⟩
                   have t1 : w3.cell? ⟨q, 1, none⟩ = some (.int .i64 at') := h3.row.cell (i := 1) (by simp)
                   have t2 : w3.cell? ⟨q, 2, none⟩ = some (.int .i64 gg) := h3.row.cell (i := 2) (by simp)))
            all_goals (
              have hlen2 : ∀ i, (waitL L at' gg i).length ≤ m + 1 := fun i => by have h1 := hlen i; have h2 := waitL_len L at' gg i; omega
              generalize waitL L at' gg = L2 at h4 hlen2
              generalize waitV L at' gg = V
              clear t1 t2 h3 hq hlen hws s1 s2
              go_wp2_with fail
              go_meet
              case rel => exact ⟨_, h4, hlen2⟩)
          · go_wp2_with fail
            refine (hq.prog (RwP.good _ _) (fun S hS => wt_wake hS hws at')).mono ?_
            rintro e w3 ⟨rfl, h3⟩
            have t1 : w3.cell? ⟨q, 1, none⟩ = some (.int .i64 at') := h3.row.cell (i := 1) (by simp)
            go_wp2_with fail
            refine (h3.refer (WtP.good _ _) (fun T hT => rw_wake hT hws at')).mono ?_
            rintro e w4 ⟨rfl, h4⟩
            have hlen2 : ∀ i, (wakeL L at' i).length ≤ m + 1 := fun i => by have h1 := hlen i; have h2 := wakeL_len L at' i; omega
            generalize wakeL L at' = L2 at h4 hlen2
            generalize (wakeV L at').1 = V1
            generalize (wakeV L at').2 = V2
            clear t1 h3 hq hlen hws
            cases V2
            · go_wp2_with fail
              go_meet
              case rel => exact ⟨_, h4, hlen2⟩
            · go_wp2_with fail
              go_meet
              case rel => exact ⟨_, h4, hlen2⟩
          · go_wp2_with fail
            refine (hq.prog (RwP.good _ _) (fun S hS => wt_wake hS hws at')).mono ?_
            rintro e w3 ⟨rfl, h3⟩
            have t1 : w3.cell? ⟨q, 1, none⟩ = some (.int .i64 at') := h3.row.cell (i := 1) (by simp)
            go_wp2_with fail
            refine (h3.refer (WtP.good _ _) (fun T hT => rw_wake hT hws at')).mono ?_
            rintro e w4 ⟨rfl, h4⟩
            have hlen2 : ∀ i, (wakeL L at' i).length ≤ m + 1 := fun i => by have h1 := hlen i; have h2 := wakeL_len L at' i; omega
            generalize wakeL L at' = L2 at h4 hlen2
            generalize (wakeV L at').1 = V1
            generalize (wakeV L at').2 = V2
            clear t1 h3 hq hlen hws
            cases V2
            · go_wp2_with fail
              go_meet
              case rel => exact ⟨_, h4, hlen2⟩
            · go_wp2_with fail
              go_meet
              case rel => exact ⟨_, h4, hlen2⟩
          · go_wp2_with fail
            go_region_held3 (fun W => W.cell? ⟨q, 2, none⟩ = some (.int .i64 gg)) (first | (with_reducible exact s2) | (with_reducible exact t2) | (with_reducible exact hc2) | go_keep)
              (first
                | (go_at_call 34
                   have key := h3.refer (WtP.good _ _) (fun T hT => rw_del hT hws gg)
                   (with_reducible refine key.mono ?_)
                   rintro e w4 ⟨rfl, h4⟩
                   have s2 : w4.cell? ⟨q, 2, none⟩ = some (.int .i64 gg) := h4.row.cell (i := 2) (by simp))
                | (go_at_call 31
                   have key := (hq.keep0 (WtP.good _ _) (RwP.good _ _) ((Mod.refl (fun _ => False) wq).drew)).prog (RwP.good _ _) (fun S hS => wt_del hS hws gg)
                   (with_reducible refine key.mono ?_)
                   rintro e w3 ⟨rfl, h3⟩
                   have t2 : w3.cell? ⟨q, 2, none⟩ = some (.int .i64 gg) := h3.row.cell (i := 2) (by simp)))
            all_goals (
              have hlen2 : ∀ i, (delL L gg i).length ≤ m + 1 := fun i => by have h1 := hlen i; have h2 := delL_len L gg i; omega
              generalize delL L gg = L2 at h4 hlen2
              generalize delV L gg = V
              clear t2 h3 hq hlen hws s2
              cases V
              · go_wp2_with fail
                go_meet
                case rel => exact ⟨_, h4, hlen2⟩
              · go_wp2_with fail
                go_meet
                case rel => exact ⟨_, h4, hlen2⟩)
        case rest =>
          obtain ⟨L2, h4, hlen2⟩ := hcut
          have hws2 : WSmall L2 := fun i _ => by have := hlen2 i; omega
          have s1 : wc.cell? ⟨q, 1, none⟩ = some (.int .i64 at') := h4.row.cell (i := 1) (by simp)
          clear hq hc1 hc2 hlen hws
          by_cases hin : 0 ≤ at' ∧ at' < 32
          · have hin1 : decide ((0 : Int) ≤ at') = true := decide_eq_true hin.1
            have hin2 : decide (at' < 32) = true := decide_eq_true hin.2
            have h0a := hin.1
            have h1a := hin.2
            clear hin
            go_wp2_with fail
            obtain ⟨S0, o, hWx, _⟩ := h4.own
            have hW0 := hWx.keep0 ((Mod.refl _ wc).drew)
            obtain ⟨T0, hTx⟩ := h4.ref
            have hT0 := ArrR.keep0 hTx ((Mod.refl _ wc).drew)
            obtain ⟨B, nB, cB, c0, hB0, _, _⟩ := ArrR.cell (k := at'.toNat) hT0 (by omega)
            have x0 := hT0.blt
            have z0 : wc.drew.cell? ⟨q, 1, none⟩ = some (.int .i64 at') := s1
            have y0 : q < wc.drew.heap.size := h4.row.lt
            refine wp_region_noPanic ?_
            refine wp_region_held_drew (S := fun W => W.cell? ⟨q, 1, none⟩ = some (.int .i64 at') ∧ W.cell? ⟨r, at'.toNat, none⟩ = some (.slice B nB cB)) (by kernel_rfl) ⟨z0, c0⟩ (fun hHeld => ?_)
            (refine wpAnyH_take (i := 0) (v := ?_) rfl (by kernel_rfl) (by kernel_rfl) (by kernel_rfl) (fun _ _ _ h => h) (Or.inl ⟨by kernel_rfl, ?_⟩) (by assumption) ?_; rotate_left; focus (intro wq hSw; (try dsimp only at hSw); go_simp; try with_reducible rfl); try simp only [List.getElem_toArray, List.getElem_cons_succ, List.getElem_cons_zero, Act.put, List.setIfInBounds_toArray, List.set_cons_zero, List.set_cons_succ])
            (refine wpAnyH_take (i := 2) (v := ?_) rfl (by kernel_rfl) (by kernel_rfl) (by kernel_rfl) (fun _ _ _ h => h) (Or.inl ⟨by kernel_rfl, ?_⟩) (by assumption) ?_; rotate_left; focus (intro wq hSw; (try dsimp only at hSw); go_simp; try with_reducible rfl); try simp only [List.getElem_toArray, List.getElem_cons_succ, List.getElem_cons_zero, Act.put, List.setIfInBounds_toArray, List.set_cons_zero, List.set_cons_succ])
            refine wpAnyH_ready (rs := [1]) (by kernel_rfl) (by simp) ?_
            refine AllReadyH.cons rfl (fun K hK => ?_) AllReadyH.nil
            go_simp
            go_at_call 30
            refine (wlenM b o L2 wc.drew hW0 hws2).mono ?_
            rintro e v1 ⟨rfl, n1⟩
            have z1 : v1.cell? ⟨q, 1, none⟩ = some (.int .i64 at') := (n1.cell (p := ⟨q, 1, none⟩) y0 (fun h => h)).trans z0
            have y1 : q < v1.heap.size := Nat.lt_of_lt_of_le y0 n1.size
            have hW1 := hW0.keep0 n1
            have hT1 := ArrR.keep0 hT0 n1
            have c1 : v1.cell? ⟨r, at'.toNat, none⟩ = some (.slice B nB cB) := (n1.cell (p := ⟨r, at'.toNat, none⟩) x0 (fun h => h)).trans c0
            have x1 : r < v1.heap.size := Nat.lt_of_lt_of_le x0 n1.size
            have hB1 := hB0.keep0 n1
            go_wp2_with fail
            refine hK.out _ _ ⟨z1, c1⟩ (fun hHeld => ?_)
            clear hK K
            try simp only [List.getElem_toArray, List.getElem_cons_succ, List.getElem_cons_zero, Act.put, List.setIfInBounds_toArray, List.set_cons_zero, List.set_cons_succ]
            refine wpAnyH_ready (rs := [3]) (by kernel_rfl) (by simp) ?_
            refine AllReadyH.cons rfl (fun K hK => ?_) AllReadyH.nil
            go_simp
            go_at_call 35
            refine (rwlenM hT1 hws2).mono ?_
            rintro e v2 ⟨rfl, n2⟩
            have z2 : v2.cell? ⟨q, 1, none⟩ = some (.int .i64 at') := (n2.cell (p := ⟨q, 1, none⟩) y1 (fun h => h)).trans z1
            have y2 : q < v2.heap.size := Nat.lt_of_lt_of_le y1 n2.size
            have hW2 := hW1.keep0 n2
            have hT2 := ArrR.keep0 hT1 n2
            have c2 : v2.cell? ⟨r, at'.toNat, none⟩ = some (.slice B nB cB) := (n2.cell (p := ⟨r, at'.toNat, none⟩) x1 (fun h => h)).trans c1
            have x2 : r < v2.heap.size := Nat.lt_of_lt_of_le x1 n2.size
            have hB2 := hB1.keep0 n2
            go_wp2_with fail
            refine hK.out _ _ ⟨z2, c2⟩ (fun hHeld => ?_)
            clear hK K
            try simp only [List.getElem_toArray, List.getElem_cons_succ, List.getElem_cons_zero, Act.put, List.setIfInBounds_toArray, List.set_cons_zero, List.set_cons_succ]
            (refine wpAnyH_take (i := 4) (v := ?_) rfl (by kernel_rfl) (by kernel_rfl) (by kernel_rfl) (fun _ _ _ h => h) (Or.inl ⟨by kernel_rfl, ?_⟩) (by assumption) ?_; rotate_left; focus (intro wq hSw; (try dsimp only at hSw); go_simp; try with_reducible rfl); try simp only [List.getElem_toArray, List.getElem_cons_succ, List.getElem_cons_zero, Act.put, List.setIfInBounds_toArray, List.set_cons_zero, List.set_cons_succ])
            (refine wpAnyH_take (i := 5) (v := ?_) rfl (by kernel_rfl) (by kernel_rfl) (by kernel_rfl) (fun _ _ _ h => h) (Or.inl ⟨by kernel_rfl, ?_⟩) (by assumption) ?_; rotate_left; focus (intro wq hSw; (try dsimp only at hSw); go_simp; try with_reducible rfl); try simp only [List.getElem_toArray, List.getElem_cons_succ, List.getElem_cons_zero, Act.put, List.setIfInBounds_toArray, List.set_cons_zero, List.set_cons_succ])
            (refine wpAnyH_take (i := 6) (v := ?_) rfl (by kernel_rfl) (by kernel_rfl) (by kernel_rfl) (fun _ _ _ h => h) (Or.inl ⟨by kernel_rfl, ?_⟩) (by assumption) ?_; rotate_left; focus (intro wq hSw; (try dsimp only at hSw); go_simp; try with_reducible rfl); try simp only [List.getElem_toArray, List.getElem_cons_succ, List.getElem_cons_zero, Act.put, List.setIfInBounds_toArray, List.set_cons_zero, List.set_cons_succ])
            (refine wpAnyH_take (i := 7) (v := ?_) rfl (by kernel_rfl) (by kernel_rfl) (by kernel_rfl) (fun _ _ _ h => h) (Or.inl ⟨by kernel_rfl, ?_⟩) (by assumption) ?_; rotate_left; focus (intro wq hSw; (try dsimp only at hSw); go_simp; try with_reducible rfl); try simp only [List.getElem_toArray, List.getElem_cons_succ, List.getElem_cons_zero, Act.put, List.setIfInBounds_toArray, List.set_cons_zero, List.set_cons_succ])
            (refine wpAnyH_take (i := 8) (v := ?_) rfl (by kernel_rfl) (by kernel_rfl) (by kernel_rfl) (fun _ _ _ h => h) (Or.inl ⟨by kernel_rfl, ?_⟩) (by assumption) ?_; rotate_left; focus (intro wq hSw; (try dsimp only at hSw); go_simp; try with_reducible rfl); try simp only [List.getElem_toArray, List.getElem_cons_succ, List.getElem_cons_zero, Act.put, List.setIfInBounds_toArray, List.set_cons_zero, List.set_cons_succ])
            (refine wpAnyH_take (i := 9) (v := ?_) rfl (by kernel_rfl) (by kernel_rfl) (by kernel_rfl) (fun _ _ _ h => h) (Or.inl ⟨by kernel_rfl, ?_⟩) (by assumption) ?_; rotate_left; focus (intro wq hSw; (try dsimp only at hSw); go_simp; try with_reducible rfl); try simp only [List.getElem_toArray, List.getElem_cons_succ, List.getElem_cons_zero, Act.put, List.setIfInBounds_toArray, List.set_cons_zero, List.set_cons_succ])
            (refine wpAnyH_take (i := 10) (v := ?_) rfl (by kernel_rfl) (by kernel_rfl) (by kernel_rfl) (fun _ _ _ h => h) (Or.inl ⟨by kernel_rfl, ?_⟩) (by assumption) ?_; rotate_left; focus (intro wq hSw; (try dsimp only at hSw); go_simp; try with_reducible rfl); try simp only [List.getElem_toArray, List.getElem_cons_succ, List.getElem_cons_zero, Act.put, List.setIfInBounds_toArray, List.set_cons_zero, List.set_cons_succ])
            (refine wpAnyH_take (i := 12) (v := ?_) rfl (by kernel_rfl) (by kernel_rfl) (by kernel_rfl) (fun _ _ _ h => h) (Or.inl ⟨by kernel_rfl, ?_⟩) (by assumption) ?_; rotate_left; focus (intro wq hSw; (try dsimp only at hSw); go_simp; try with_reducible rfl); try simp only [List.getElem_toArray, List.getElem_cons_succ, List.getElem_cons_zero, Act.put, List.setIfInBounds_toArray, List.set_cons_zero, List.set_cons_succ])
            (refine wpAnyH_take (i := 13) (v := ?_) rfl (by kernel_rfl) (by kernel_rfl) (by kernel_rfl) (fun _ _ _ h => h) (Or.inl ⟨by kernel_rfl, ?_⟩) (by assumption) ?_; rotate_left; focus (intro wq hSw; (try dsimp only at hSw); go_simp; try with_reducible rfl); try simp only [List.getElem_toArray, List.getElem_cons_succ, List.getElem_cons_zero, Act.put, List.setIfInBounds_toArray, List.set_cons_zero, List.set_cons_succ])
            (refine wpAnyH_take (i := 14) (v := ?_) rfl (by kernel_rfl) (by kernel_rfl) (by kernel_rfl) (fun _ _ _ h => h) (Or.inl ⟨by kernel_rfl, ?_⟩) (by assumption) ?_; rotate_left; focus (intro wq hSw; (try dsimp only at hSw); go_simp; try with_reducible rfl); try simp only [List.getElem_toArray, List.getElem_cons_succ, List.getElem_cons_zero, Act.put, List.setIfInBounds_toArray, List.set_cons_zero, List.set_cons_succ])
            (refine wpAnyH_take (i := 15) (v := ?_) rfl (by kernel_rfl) (by kernel_rfl) (by kernel_rfl) (fun _ _ _ h => h) (Or.inl ⟨by kernel_rfl, ?_⟩) (by assumption) ?_; rotate_left; focus (intro wq hSw; (try dsimp only at hSw); go_simp; try with_reducible rfl); try simp only [List.getElem_toArray, List.getElem_cons_succ, List.getElem_cons_zero, Act.put, List.setIfInBounds_toArray, List.set_cons_zero, List.set_cons_succ])
            (refine wpAnyH_take (i := 16) (v := ?_) rfl (by kernel_rfl) (by kernel_rfl) (by kernel_rfl) (fun _ _ _ h => h) (Or.inl ⟨by kernel_rfl, ?_⟩) (by assumption) ?_; rotate_left; focus (intro wq hSw; (try dsimp only at hSw); go_simp; try with_reducible rfl); try simp only [List.getElem_toArray, List.getElem_cons_succ, List.getElem_cons_zero, Act.put, List.setIfInBounds_toArray, List.set_cons_zero, List.set_cons_succ])
            (refine wpAnyH_take (i := 17) (v := ?_) rfl (by kernel_rfl) (by kernel_rfl) (by kernel_rfl) (fun _ _ _ h => h) (Or.inl ⟨by kernel_rfl, ?_⟩) (by assumption) ?_; rotate_left; focus (intro wq hSw; (try dsimp only at hSw); go_simp; try with_reducible rfl); try simp only [List.getElem_toArray, List.getElem_cons_succ, List.getElem_cons_zero, Act.put, List.setIfInBounds_toArray, List.set_cons_zero, List.set_cons_succ])
            (refine wpAnyH_take (i := 18) (v := ?_) rfl (by kernel_rfl) (by kernel_rfl) (by kernel_rfl) (fun _ _ _ h => h) (Or.inl ⟨by kernel_rfl, ?_⟩) (by assumption) ?_; rotate_left; focus (intro wq hSw; (try dsimp only at hSw); go_simp; try with_reducible rfl); try simp only [List.getElem_toArray, List.getElem_cons_succ, List.getElem_cons_zero, Act.put, List.setIfInBounds_toArray, List.set_cons_zero, List.set_cons_succ])
            refine wpAnyH_ready (rs := [11]) (by kernel_rfl) (by simp) ?_
            refine AllReadyH.cons rfl (fun K hK => ?_) AllReadyH.nil
            go_simp
            go_at_call 29
            refine (wallM b o L2 at' _ hW2 h0a h1a hws2).mono ?_
            rintro e v3 ⟨A3, p3, q3, rfl, hA3, hp3, n3⟩
            have z3 : v3.cell? ⟨q, 1, none⟩ = some (.int .i64 at') := (n3.cell (p := ⟨q, 1, none⟩) y2 (fun h => h)).trans z2
            have y3 : q < v3.heap.size := Nat.lt_of_lt_of_le y2 n3.size
            have hW3 := hW2.keep0 n3
            have hT3 := ArrR.keep0 hT2 n3
            have c3 : v3.cell? ⟨r, at'.toNat, none⟩ = some (.slice B nB cB) := (n3.cell (p := ⟨r, at'.toNat, none⟩) x2 (fun h => h)).trans c2
            have x3 : r < v3.heap.size := Nat.lt_of_lt_of_le x2 n3.size
            have hB3 := hB2.keep0 n3
            go_wp2_with fail
            refine hK.out _ _ ⟨z3, c3⟩ (fun hHeld => ?_)
            clear hK K
            try simp only [List.getElem_toArray, List.getElem_cons_succ, List.getElem_cons_zero, Act.put, List.setIfInBounds_toArray, List.set_cons_zero, List.set_cons_succ]
            refine wpAnyH_ready (rs := [19]) (by kernel_rfl) (by simp) ?_
            refine AllReadyH.cons rfl (fun K hK => ?_) AllReadyH.nil
            go_simp
            go_at_call 18
            refine (ints_sameM A3 B p3 nB q3 cB _ _ hA3 hB3 hp3).mono ?_
            rintro e v4 ⟨rfl, n4⟩
            have z4 : v4.cell? ⟨q, 1, none⟩ = some (.int .i64 at') := (n4.cell (p := ⟨q, 1, none⟩) y3 (fun h => h)).trans z3
            have y4 : q < v4.heap.size := Nat.lt_of_lt_of_le y3 n4.size
            have hW4 := hW3.keep0 n4
            have hT4 := ArrR.keep0 hT3 n4
            have c4 : v4.cell? ⟨r, at'.toNat, none⟩ = some (.slice B nB cB) := (n4.cell (p := ⟨r, at'.toNat, none⟩) x3 (fun h => h)).trans c3
            have x4 : r < v4.heap.size := Nat.lt_of_lt_of_le x3 n4.size
            have hB4 := hB3.keep0 n4
            go_wp2_with fail
            refine hK.out _ _ ⟨z4, c4⟩ (fun hHeld => ?_)
            clear hK K
            try simp only [List.getElem_toArray, List.getElem_cons_succ, List.getElem_cons_zero, Act.put, List.setIfInBounds_toArray, List.set_cons_zero, List.set_cons_succ]
            (refine wpAnyH_take (i := 20) (v := ?_) rfl (by kernel_rfl) (by kernel_rfl) (by kernel_rfl) (fun _ _ _ h => h) (Or.inl ⟨by kernel_rfl, ?_⟩) (by assumption) ?_; rotate_left; focus (intro wq hSw; (try dsimp only at hSw); go_simp; try with_reducible rfl); try simp only [List.getElem_toArray, List.getElem_cons_succ, List.getElem_cons_zero, Act.put, List.setIfInBounds_toArray, List.set_cons_zero, List.set_cons_succ])
            (refine wpAnyH_take (i := 21) (v := ?_) rfl (by kernel_rfl) (by kernel_rfl) (by kernel_rfl) (fun _ _ _ h => h) (Or.inl ⟨by kernel_rfl, ?_⟩) (by assumption) ?_; rotate_left; focus (intro wq hSw; (try dsimp only at hSw); go_simp; try with_reducible rfl); try simp only [List.getElem_toArray, List.getElem_cons_succ, List.getElem_cons_zero, Act.put, List.setIfInBounds_toArray, List.set_cons_zero, List.set_cons_succ])
            (refine wpAnyH_take (i := 22) (v := ?_) rfl (by kernel_rfl) (by kernel_rfl) (by kernel_rfl) (fun _ _ _ h => h) (Or.inl ⟨by kernel_rfl, ?_⟩) (by assumption) ?_; rotate_left; focus (intro wq hSw; (try dsimp only at hSw); go_simp; try with_reducible rfl); try simp only [List.getElem_toArray, List.getElem_cons_succ, List.getElem_cons_zero, Act.put, List.setIfInBounds_toArray, List.set_cons_zero, List.set_cons_succ])
            (refine wpAnyH_take (i := 23) (v := ?_) rfl (by kernel_rfl) (by kernel_rfl) (by kernel_rfl) (fun _ _ _ h => h) (Or.inl ⟨by kernel_rfl, ?_⟩) (by assumption) ?_; rotate_left; focus (intro wq hSw; (try dsimp only at hSw); go_simp; try with_reducible rfl); try simp only [List.getElem_toArray, List.getElem_cons_succ, List.getElem_cons_zero, Act.put, List.setIfInBounds_toArray, List.set_cons_zero, List.set_cons_succ])
            (refine wpAnyH_take (i := 24) (v := ?_) rfl (by kernel_rfl) (by kernel_rfl) (by kernel_rfl) (fun _ _ _ h => h) (Or.inl ⟨by kernel_rfl, ?_⟩) (by assumption) ?_; rotate_left; focus (intro wq hSw; (try dsimp only at hSw); go_simp; try with_reducible rfl); try simp only [List.getElem_toArray, List.getElem_cons_succ, List.getElem_cons_zero, Act.put, List.setIfInBounds_toArray, List.set_cons_zero, List.set_cons_succ])
            (refine wpAnyH_take (i := 25) (v := ?_) rfl (by kernel_rfl) (by kernel_rfl) (by kernel_rfl) (fun _ _ _ h => h) (Or.inl ⟨by kernel_rfl, ?_⟩) (by assumption) ?_; rotate_left; focus (intro wq hSw; (try dsimp only at hSw); go_simp; try with_reducible rfl); try simp only [List.getElem_toArray, List.getElem_cons_succ, List.getElem_cons_zero, Act.put, List.setIfInBounds_toArray, List.set_cons_zero, List.set_cons_succ])
            (refine wpAnyH_take (i := 26) (v := ?_) rfl (by kernel_rfl) (by kernel_rfl) (by kernel_rfl) (fun _ _ _ h => h) (Or.inl ⟨by kernel_rfl, ?_⟩) (by assumption) ?_; rotate_left; focus (intro wq hSw; (try dsimp only at hSw); go_simp; try with_reducible rfl); try simp only [List.getElem_toArray, List.getElem_cons_succ, List.getElem_cons_zero, Act.put, List.setIfInBounds_toArray, List.set_cons_zero, List.set_cons_succ])
            (refine wpAnyH_take (i := 27) (v := undef) rfl (by kernel_rfl) (by kernel_rfl) (by kernel_rfl) (fun _ _ _ h => h) (Or.inr ⟨by kernel_rfl, rfl⟩) (by assumption) ?_; try simp only [List.getElem_toArray, List.getElem_cons_succ, List.getElem_cons_zero, Act.put, List.setIfInBounds_toArray, List.set_cons_zero, List.set_cons_succ])
            (refine wpAnyH_take (i := 28) (v := undef) rfl (by kernel_rfl) (by kernel_rfl) (by kernel_rfl) (fun _ _ _ h => h) (Or.inr ⟨by kernel_rfl, rfl⟩) (by assumption) ?_; try simp only [List.getElem_toArray, List.getElem_cons_succ, List.getElem_cons_zero, Act.put, List.setIfInBounds_toArray, List.set_cons_zero, List.set_cons_succ])
            (refine wpAnyH_take (i := 29) (v := undef) rfl (by kernel_rfl) (by kernel_rfl) (by kernel_rfl) (fun _ _ _ h => h) (Or.inr ⟨by kernel_rfl, rfl⟩) (by assumption) ?_; try simp only [List.getElem_toArray, List.getElem_cons_succ, List.getElem_cons_zero, Act.put, List.setIfInBounds_toArray, List.set_cons_zero, List.set_cons_succ])
            (refine wpAnyH_take (i := 30) (v := undef) rfl (by kernel_rfl) (by kernel_rfl) (by kernel_rfl) (fun _ _ _ h => h) (Or.inr ⟨by kernel_rfl, rfl⟩) (by assumption) ?_; try simp only [List.getElem_toArray, List.getElem_cons_succ, List.getElem_cons_zero, Act.put, List.setIfInBounds_toArray, List.set_cons_zero, List.set_cons_succ])
            (refine wpAnyH_take (i := 31) (v := undef) rfl (by kernel_rfl) (by kernel_rfl) (by kernel_rfl) (fun _ _ _ h => h) (Or.inr ⟨by kernel_rfl, rfl⟩) (by assumption) ?_; try simp only [List.getElem_toArray, List.getElem_cons_succ, List.getElem_cons_zero, Act.put, List.setIfInBounds_toArray, List.set_cons_zero, List.set_cons_succ])
            (refine wpAnyH_take (i := 32) (v := undef) rfl (by kernel_rfl) (by kernel_rfl) (by kernel_rfl) (fun _ _ _ h => h) (Or.inr ⟨by kernel_rfl, rfl⟩) (by assumption) ?_; try simp only [List.getElem_toArray, List.getElem_cons_succ, List.getElem_cons_zero, Act.put, List.setIfInBounds_toArray, List.set_cons_zero, List.set_cons_succ])
            (refine wpAnyH_take (i := 33) (v := ?_) rfl (by kernel_rfl) (by kernel_rfl) (by kernel_rfl) (fun _ _ _ h => h) (Or.inl ⟨by kernel_rfl, ?_⟩) (by assumption) ?_; rotate_left; focus (intro wq hSw; (try dsimp only at hSw); go_simp; try with_reducible rfl); try simp only [List.getElem_toArray, List.getElem_cons_succ, List.getElem_cons_zero, Act.put, List.setIfInBounds_toArray, List.set_cons_zero, List.set_cons_succ])
            (refine wpAnyH_take (i := 34) (v := ?_) rfl (by kernel_rfl) (by kernel_rfl) (by kernel_rfl) (fun _ _ _ h => h) (Or.inl ⟨by kernel_rfl, ?_⟩) (by assumption) ?_; rotate_left; focus (intro wq hSw; (try dsimp only at hSw); go_simp; try with_reducible rfl); try simp only [List.getElem_toArray, List.getElem_cons_succ, List.getElem_cons_zero, Act.put, List.setIfInBounds_toArray, List.set_cons_zero, List.set_cons_succ])
            refine wpAnyH_done (by kernel_rfl) ?_ _
            refine NoPanic.normal ?_
            clear hin1 hin2 z0 c0 
            have h9 := (h4.keep0 (WtP.good _ _) (RwP.good _ _) ((((((Mod.refl _ wc).drew).trans n1).trans n2).trans n3).trans n4)).drop
            go_wp2
            go_roundw
            case rel => first | exact ⟨m + 1, _, by omega, by omega, by go_num, h9, hlen2⟩ | ((repeat apply Exists.intro); exact ⟨⟨m + 1, _, by omega, by omega, by go_num, h9, hlen2⟩, rfl⟩)
            case measure => simp [intOf]; omega
          · have hnin := hin
            clear hin
            by_cases h0a : 0 ≤ at'
            · have hin1 : decide ((0 : Int) ≤ at') = true := decide_eq_true h0a
              have hin2 : decide (at' < 32) = false := decide_eq_false (by omega)
              go_wp2_with fail
              obtain ⟨S0, o, hWx, _⟩ := h4.own
              have hW0 := hWx.keep0 ((Mod.refl _ wc).drew)
              obtain ⟨T0, hTx⟩ := h4.ref
              have hT0 := ArrR.keep0 hTx ((Mod.refl _ wc).drew)
              have z0 : wc.drew.cell? ⟨q, 1, none⟩ = some (.int .i64 at') := s1
              have y0 : q < wc.drew.heap.size := h4.row.lt
              refine wp_region_noPanic ?_
              refine wp_region_held_drew (S := fun W => W.cell? ⟨q, 1, none⟩ = some (.int .i64 at')) (by kernel_rfl) z0 (fun hHeld => ?_)
              (refine wpAnyH_take (i := 0) (v := ?_) rfl (by kernel_rfl) (by kernel_rfl) (by kernel_rfl) (fun _ _ _ h => h) (Or.inl ⟨by kernel_rfl, ?_⟩) (by assumption) ?_; rotate_left; focus (intro wq hSw; (try dsimp only at hSw); go_simp; try with_reducible rfl); try simp only [List.getElem_toArray, List.getElem_cons_succ, List.getElem_cons_zero, Act.put, List.setIfInBounds_toArray, List.set_cons_zero, List.set_cons_succ])
              (refine wpAnyH_take (i := 2) (v := ?_) rfl (by kernel_rfl) (by kernel_rfl) (by kernel_rfl) (fun _ _ _ h => h) (Or.inl ⟨by kernel_rfl, ?_⟩) (by assumption) ?_; rotate_left; focus (intro wq hSw; (try dsimp only at hSw); go_simp; try with_reducible rfl); try simp only [List.getElem_toArray, List.getElem_cons_succ, List.getElem_cons_zero, Act.put, List.setIfInBounds_toArray, List.set_cons_zero, List.set_cons_succ])
              refine wpAnyH_ready (rs := [1]) (by kernel_rfl) (by simp) ?_
              refine AllReadyH.cons rfl (fun K hK => ?_) AllReadyH.nil
              go_simp
              go_at_call 30
              refine (wlenM b o L2 wc.drew hW0 hws2).mono ?_
              rintro e v1 ⟨rfl, n1⟩
              have z1 : v1.cell? ⟨q, 1, none⟩ = some (.int .i64 at') := (n1.cell (p := ⟨q, 1, none⟩) y0 (fun h => h)).trans z0
              have y1 : q < v1.heap.size := Nat.lt_of_lt_of_le y0 n1.size
              have hW1 := hW0.keep0 n1
              have hT1 := ArrR.keep0 hT0 n1
              go_wp2_with fail
              refine hK.out _ _ z1 (fun hHeld => ?_)
              clear hK K
              try simp only [List.getElem_toArray, List.getElem_cons_succ, List.getElem_cons_zero, Act.put, List.setIfInBounds_toArray, List.set_cons_zero, List.set_cons_succ]
              refine wpAnyH_ready (rs := [3]) (by kernel_rfl) (by simp) ?_
              refine AllReadyH.cons rfl (fun K hK => ?_) AllReadyH.nil
              go_simp
              go_at_call 35
              refine (rwlenM hT1 hws2).mono ?_
              rintro e v2 ⟨rfl, n2⟩
              have z2 : v2.cell? ⟨q, 1, none⟩ = some (.int .i64 at') := (n2.cell (p := ⟨q, 1, none⟩) y1 (fun h => h)).trans z1
              have y2 : q < v2.heap.size := Nat.lt_of_lt_of_le y1 n2.size
              have hW2 := hW1.keep0 n2
              have hT2 := ArrR.keep0 hT1 n2
              go_wp2_with fail
              refine hK.out _ _ z2 (fun hHeld => ?_)
              clear hK K
              try simp only [List.getElem_toArray, List.getElem_cons_succ, List.getElem_cons_zero, Act.put, List.setIfInBounds_toArray, List.set_cons_zero, List.set_cons_succ]
              (refine wpAnyH_take (i := 4) (v := ?_) rfl (by kernel_rfl) (by kernel_rfl) (by kernel_rfl) (fun _ _ _ h => h) (Or.inl ⟨by kernel_rfl, ?_⟩) (by assumption) ?_; rotate_left; focus (intro wq hSw; (try dsimp only at hSw); go_simp; try with_reducible rfl); try simp only [List.getElem_toArray, List.getElem_cons_succ, List.getElem_cons_zero, Act.put, List.setIfInBounds_toArray, List.set_cons_zero, List.set_cons_succ])
              (refine wpAnyH_take (i := 5) (v := ?_) rfl (by kernel_rfl) (by kernel_rfl) (by kernel_rfl) (fun _ _ _ h => h) (Or.inl ⟨by kernel_rfl, ?_⟩) (by assumption) ?_; rotate_left; focus (intro wq hSw; (try dsimp only at hSw); go_simp; try with_reducible rfl); try simp only [List.getElem_toArray, List.getElem_cons_succ, List.getElem_cons_zero, Act.put, List.setIfInBounds_toArray, List.set_cons_zero, List.set_cons_succ])
              (refine wpAnyH_take (i := 6) (v := ?_) rfl (by kernel_rfl) (by kernel_rfl) (by kernel_rfl) (fun _ _ _ h => h) (Or.inl ⟨by kernel_rfl, ?_⟩) (by assumption) ?_; rotate_left; focus (intro wq hSw; (try dsimp only at hSw); go_simp; try with_reducible rfl); try simp only [List.getElem_toArray, List.getElem_cons_succ, List.getElem_cons_zero, Act.put, List.setIfInBounds_toArray, List.set_cons_zero, List.set_cons_succ])
              (refine wpAnyH_take (i := 7) (v := ?_) rfl (by kernel_rfl) (by kernel_rfl) (by kernel_rfl) (fun _ _ _ h => h) (Or.inl ⟨by kernel_rfl, ?_⟩) (by assumption) ?_; rotate_left; focus (intro wq hSw; (try dsimp only at hSw); go_simp; try with_reducible rfl); try simp only [List.getElem_toArray, List.getElem_cons_succ, List.getElem_cons_zero, Act.put, List.setIfInBounds_toArray, List.set_cons_zero, List.set_cons_succ])
              (refine wpAnyH_take (i := 8) (v := undef) rfl (by kernel_rfl) (by kernel_rfl) (by kernel_rfl) (fun _ _ _ h => h) (Or.inr ⟨by kernel_rfl, rfl⟩) (by assumption) ?_; try simp only [List.getElem_toArray, List.getElem_cons_succ, List.getElem_cons_zero, Act.put, List.setIfInBounds_toArray, List.set_cons_zero, List.set_cons_succ])
              (refine wpAnyH_take (i := 9) (v := undef) rfl (by kernel_rfl) (by kernel_rfl) (by kernel_rfl) (fun _ _ _ h => h) (Or.inr ⟨by kernel_rfl, rfl⟩) (by assumption) ?_; try simp only [List.getElem_toArray, List.getElem_cons_succ, List.getElem_cons_zero, Act.put, List.setIfInBounds_toArray, List.set_cons_zero, List.set_cons_succ])
              (refine wpAnyH_take (i := 10) (v := undef) rfl (by kernel_rfl) (by kernel_rfl) (by kernel_rfl) (fun _ _ _ h => h) (Or.inr ⟨by kernel_rfl, rfl⟩) (by assumption) ?_; try simp only [List.getElem_toArray, List.getElem_cons_succ, List.getElem_cons_zero, Act.put, List.setIfInBounds_toArray, List.set_cons_zero, List.set_cons_succ])
              (refine wpAnyH_take (i := 11) (v := undef) rfl (by kernel_rfl) (by kernel_rfl) (by kernel_rfl) (fun _ _ _ h => h) (Or.inr ⟨by kernel_rfl, rfl⟩) (by assumption) ?_; try simp only [List.getElem_toArray, List.getElem_cons_succ, List.getElem_cons_zero, Act.put, List.setIfInBounds_toArray, List.set_cons_zero, List.set_cons_succ])
              (refine wpAnyH_take (i := 12) (v := undef) rfl (by kernel_rfl) (by kernel_rfl) (by kernel_rfl) (fun _ _ _ h => h) (Or.inr ⟨by kernel_rfl, rfl⟩) (by assumption) ?_; try simp only [List.getElem_toArray, List.getElem_cons_succ, List.getElem_cons_zero, Act.put, List.setIfInBounds_toArray, List.set_cons_zero, List.set_cons_succ])
              (refine wpAnyH_take (i := 13) (v := undef) rfl (by kernel_rfl) (by kernel_rfl) (by kernel_rfl) (fun _ _ _ h => h) (Or.inr ⟨by kernel_rfl, rfl⟩) (by assumption) ?_; try simp only [List.getElem_toArray, List.getElem_cons_succ, List.getElem_cons_zero, Act.put, List.setIfInBounds_toArray, List.set_cons_zero, List.set_cons_succ])
              (refine wpAnyH_take (i := 14) (v := undef) rfl (by kernel_rfl) (by kernel_rfl) (by kernel_rfl) (fun _ _ _ h => h) (Or.inr ⟨by kernel_rfl, rfl⟩) (by assumption) ?_; try simp only [List.getElem_toArray, List.getElem_cons_succ, List.getElem_cons_zero, Act.put, List.setIfInBounds_toArray, List.set_cons_zero, List.set_cons_succ])
              (refine wpAnyH_take (i := 15) (v := undef) rfl (by kernel_rfl) (by kernel_rfl) (by kernel_rfl) (fun _ _ _ h => h) (Or.inr ⟨by kernel_rfl, rfl⟩) (by assumption) ?_; try simp only [List.getElem_toArray, List.getElem_cons_succ, List.getElem_cons_zero, Act.put, List.setIfInBounds_toArray, List.set_cons_zero, List.set_cons_succ])
              (refine wpAnyH_take (i := 16) (v := undef) rfl (by kernel_rfl) (by kernel_rfl) (by kernel_rfl) (fun _ _ _ h => h) (Or.inr ⟨by kernel_rfl, rfl⟩) (by assumption) ?_; try simp only [List.getElem_toArray, List.getElem_cons_succ, List.getElem_cons_zero, Act.put, List.setIfInBounds_toArray, List.set_cons_zero, List.set_cons_succ])
              (refine wpAnyH_take (i := 17) (v := undef) rfl (by kernel_rfl) (by kernel_rfl) (by kernel_rfl) (fun _ _ _ h => h) (Or.inr ⟨by kernel_rfl, rfl⟩) (by assumption) ?_; try simp only [List.getElem_toArray, List.getElem_cons_succ, List.getElem_cons_zero, Act.put, List.setIfInBounds_toArray, List.set_cons_zero, List.set_cons_succ])
              (refine wpAnyH_take (i := 18) (v := undef) rfl (by kernel_rfl) (by kernel_rfl) (by kernel_rfl) (fun _ _ _ h => h) (Or.inr ⟨by kernel_rfl, rfl⟩) (by assumption) ?_; try simp only [List.getElem_toArray, List.getElem_cons_succ, List.getElem_cons_zero, Act.put, List.setIfInBounds_toArray, List.set_cons_zero, List.set_cons_succ])
              (refine wpAnyH_take (i := 19) (v := undef) rfl (by kernel_rfl) (by kernel_rfl) (by kernel_rfl) (fun _ _ _ h => h) (Or.inr ⟨by kernel_rfl, rfl⟩) (by assumption) ?_; try simp only [List.getElem_toArray, List.getElem_cons_succ, List.getElem_cons_zero, Act.put, List.setIfInBounds_toArray, List.set_cons_zero, List.set_cons_succ])
              (refine wpAnyH_take (i := 20) (v := undef) rfl (by kernel_rfl) (by kernel_rfl) (by kernel_rfl) (fun _ _ _ h => h) (Or.inr ⟨by kernel_rfl, rfl⟩) (by assumption) ?_; try simp only [List.getElem_toArray, List.getElem_cons_succ, List.getElem_cons_zero, Act.put, List.setIfInBounds_toArray, List.set_cons_zero, List.set_cons_succ])
              (refine wpAnyH_take (i := 21) (v := ?_) rfl (by kernel_rfl) (by kernel_rfl) (by kernel_rfl) (fun _ _ _ h => h) (Or.inl ⟨by kernel_rfl, ?_⟩) (by assumption) ?_; rotate_left; focus (intro wq hSw; (try dsimp only at hSw); go_simp; try with_reducible rfl); try simp only [List.getElem_toArray, List.getElem_cons_succ, List.getElem_cons_zero, Act.put, List.setIfInBounds_toArray, List.set_cons_zero, List.set_cons_succ])
              (refine wpAnyH_take (i := 22) (v := ?_) rfl (by kernel_rfl) (by kernel_rfl) (by kernel_rfl) (fun _ _ _ h => h) (Or.inl ⟨by kernel_rfl, ?_⟩) (by assumption) ?_; rotate_left; focus (intro wq hSw; (try dsimp only at hSw); go_simp; try with_reducible rfl); try simp only [List.getElem_toArray, List.getElem_cons_succ, List.getElem_cons_zero, Act.put, List.setIfInBounds_toArray, List.set_cons_zero, List.set_cons_succ])
              (refine wpAnyH_take (i := 23) (v := ?_) rfl (by kernel_rfl) (by kernel_rfl) (by kernel_rfl) (fun _ _ _ h => h) (Or.inl ⟨by kernel_rfl, ?_⟩) (by assumption) ?_; rotate_left; focus (intro wq hSw; (try dsimp only at hSw); go_simp; try with_reducible rfl); try simp only [List.getElem_toArray, List.getElem_cons_succ, List.getElem_cons_zero, Act.put, List.setIfInBounds_toArray, List.set_cons_zero, List.set_cons_succ])
              (refine wpAnyH_take (i := 24) (v := ?_) rfl (by kernel_rfl) (by kernel_rfl) (by kernel_rfl) (fun _ _ _ h => h) (Or.inl ⟨by kernel_rfl, ?_⟩) (by assumption) ?_; rotate_left; focus (intro wq hSw; (try dsimp only at hSw); go_simp; try with_reducible rfl); try simp only [List.getElem_toArray, List.getElem_cons_succ, List.getElem_cons_zero, Act.put, List.setIfInBounds_toArray, List.set_cons_zero, List.set_cons_succ])
              (refine wpAnyH_take (i := 25) (v := ?_) rfl (by kernel_rfl) (by kernel_rfl) (by kernel_rfl) (fun _ _ _ h => h) (Or.inl ⟨by kernel_rfl, ?_⟩) (by assumption) ?_; rotate_left; focus (intro wq hSw; (try dsimp only at hSw); go_simp; try with_reducible rfl); try simp only [List.getElem_toArray, List.getElem_cons_succ, List.getElem_cons_zero, Act.put, List.setIfInBounds_toArray, List.set_cons_zero, List.set_cons_succ])
              (refine wpAnyH_take (i := 26) (v := ?_) rfl (by kernel_rfl) (by kernel_rfl) (by kernel_rfl) (fun _ _ _ h => h) (Or.inl ⟨by kernel_rfl, ?_⟩) (by assumption) ?_; rotate_left; focus (intro wq hSw; (try dsimp only at hSw); go_simp; try with_reducible rfl); try simp only [List.getElem_toArray, List.getElem_cons_succ, List.getElem_cons_zero, Act.put, List.setIfInBounds_toArray, List.set_cons_zero, List.set_cons_succ])
              (refine wpAnyH_take (i := 27) (v := ?_) rfl (by kernel_rfl) (by kernel_rfl) (by kernel_rfl) (fun _ _ _ h => h) (Or.inl ⟨by kernel_rfl, ?_⟩) (by assumption) ?_; rotate_left; focus (intro wq hSw; (try dsimp only at hSw); go_simp; try with_reducible rfl); try simp only [List.getElem_toArray, List.getElem_cons_succ, List.getElem_cons_zero, Act.put, List.setIfInBounds_toArray, List.set_cons_zero, List.set_cons_succ])
              (refine wpAnyH_take (i := 28) (v := ?_) rfl (by kernel_rfl) (by kernel_rfl) (by kernel_rfl) (fun _ _ _ h => h) (Or.inl ⟨by kernel_rfl, ?_⟩) (by assumption) ?_; rotate_left; focus (intro wq hSw; (try dsimp only at hSw); go_simp; try with_reducible rfl); try simp only [List.getElem_toArray, List.getElem_cons_succ, List.getElem_cons_zero, Act.put, List.setIfInBounds_toArray, List.set_cons_zero, List.set_cons_succ])
              (refine wpAnyH_take (i := 29) (v := ?_) rfl (by kernel_rfl) (by kernel_rfl) (by kernel_rfl) (fun _ _ _ h => h) (Or.inl ⟨by kernel_rfl, ?_⟩) (by assumption) ?_; rotate_left; focus (intro wq hSw; (try dsimp only at hSw); go_simp; try with_reducible rfl); try simp only [List.getElem_toArray, List.getElem_cons_succ, List.getElem_cons_zero, Act.put, List.setIfInBounds_toArray, List.set_cons_zero, List.set_cons_succ])
              refine wpAnyH_ready (rs := [30]) (by kernel_rfl) (by simp) ?_
              refine AllReadyH.cons rfl (fun K hK => ?_) AllReadyH.nil
              go_simp
              go_at_call 29
              refine (wallnoM b at' _ hnin).mono ?_
              rintro e v3 ⟨rfl, n3⟩
              have z3 : v3.cell? ⟨q, 1, none⟩ = some (.int .i64 at') := (n3.cell (p := ⟨q, 1, none⟩) y2 (fun h => h)).trans z2
              have y3 : q < v3.heap.size := Nat.lt_of_lt_of_le y2 n3.size
              have hW3 := hW2.keep0 n3
              have hT3 := ArrR.keep0 hT2 n3
              go_wp2_with fail
              refine hK.out _ _ z3 (fun hHeld => ?_)
              clear hK K
              try simp only [List.getElem_toArray, List.getElem_cons_succ, List.getElem_cons_zero, Act.put, List.setIfInBounds_toArray, List.set_cons_zero, List.set_cons_succ]
              (refine wpAnyH_take (i := 31) (v := ?_) rfl (by kernel_rfl) (by kernel_rfl) (by kernel_rfl) (fun _ _ _ h => h) (Or.inl ⟨by kernel_rfl, ?_⟩) (by assumption) ?_; rotate_left; focus (intro wq hSw; (try dsimp only at hSw); go_simp; try with_reducible rfl); try simp only [List.getElem_toArray, List.getElem_cons_succ, List.getElem_cons_zero, Act.put, List.setIfInBounds_toArray, List.set_cons_zero, List.set_cons_succ])
              (refine wpAnyH_take (i := 32) (v := ?_) rfl (by kernel_rfl) (by kernel_rfl) (by kernel_rfl) (fun _ _ _ h => h) (Or.inl ⟨by kernel_rfl, ?_⟩) (by assumption) ?_; rotate_left; focus (intro wq hSw; (try dsimp only at hSw); go_simp; try with_reducible rfl); try simp only [List.getElem_toArray, List.getElem_cons_succ, List.getElem_cons_zero, Act.put, List.setIfInBounds_toArray, List.set_cons_zero, List.set_cons_succ])
              (refine wpAnyH_take (i := 33) (v := ?_) rfl (by kernel_rfl) (by kernel_rfl) (by kernel_rfl) (fun _ _ _ h => h) (Or.inl ⟨by kernel_rfl, ?_⟩) (by assumption) ?_; rotate_left; focus (intro wq hSw; (try dsimp only at hSw); go_simp; try with_reducible rfl); try simp only [List.getElem_toArray, List.getElem_cons_succ, List.getElem_cons_zero, Act.put, List.setIfInBounds_toArray, List.set_cons_zero, List.set_cons_succ])
              (refine wpAnyH_take (i := 34) (v := ?_) rfl (by kernel_rfl) (by kernel_rfl) (by kernel_rfl) (fun _ _ _ h => h) (Or.inl ⟨by kernel_rfl, ?_⟩) (by assumption) ?_; rotate_left; focus (intro wq hSw; (try dsimp only at hSw); go_simp; try with_reducible rfl); try simp only [List.getElem_toArray, List.getElem_cons_succ, List.getElem_cons_zero, Act.put, List.setIfInBounds_toArray, List.set_cons_zero, List.set_cons_succ])
              refine wpAnyH_done (by kernel_rfl) ?_ _
              refine NoPanic.normal ?_
              clear hin1 hin2 z0 hnin 
              have h9 := (h4.keep0 (WtP.good _ _) (RwP.good _ _) (((((Mod.refl _ wc).drew).trans n1).trans n2).trans n3)).drop
              go_wp2
              go_roundw
              case rel => first | exact ⟨m + 1, _, by omega, by omega, by go_num, h9, hlen2⟩ | ((repeat apply Exists.intro); exact ⟨⟨m + 1, _, by omega, by omega, by go_num, h9, hlen2⟩, rfl⟩)
              case measure => simp [intOf]; omega
            · have hin1 : decide ((0 : Int) ≤ at') = false := decide_eq_false h0a
              have hin2 : True := trivial
              go_wp2_with fail
              obtain ⟨S0, o, hWx, _⟩ := h4.own
              have hW0 := hWx.keep0 ((Mod.refl _ wc).drew)
              obtain ⟨T0, hTx⟩ := h4.ref
              have hT0 := ArrR.keep0 hTx ((Mod.refl _ wc).drew)
              have z0 : wc.drew.cell? ⟨q, 1, none⟩ = some (.int .i64 at') := s1
              have y0 : q < wc.drew.heap.size := h4.row.lt
              refine wp_region_noPanic ?_
              refine wp_region_held_drew (S := fun W => W.cell? ⟨q, 1, none⟩ = some (.int .i64 at')) (by kernel_rfl) z0 (fun hHeld => ?_)
              (refine wpAnyH_take (i := 0) (v := ?_) rfl (by kernel_rfl) (by kernel_rfl) (by kernel_rfl) (fun _ _ _ h => h) (Or.inl ⟨by kernel_rfl, ?_⟩) (by assumption) ?_; rotate_left; focus (intro wq hSw; (try dsimp only at hSw); go_simp; try with_reducible rfl); try simp only [List.getElem_toArray, List.getElem_cons_succ, List.getElem_cons_zero, Act.put, List.setIfInBounds_toArray, List.set_cons_zero, List.set_cons_succ])
              (refine wpAnyH_take (i := 2) (v := ?_) rfl (by kernel_rfl) (by kernel_rfl) (by kernel_rfl) (fun _ _ _ h => h) (Or.inl ⟨by kernel_rfl, ?_⟩) (by assumption) ?_; rotate_left; focus (intro wq hSw; (try dsimp only at hSw); go_simp; try with_reducible rfl); try simp only [List.getElem_toArray, List.getElem_cons_succ, List.getElem_cons_zero, Act.put, List.setIfInBounds_toArray, List.set_cons_zero, List.set_cons_succ])
              refine wpAnyH_ready (rs := [1]) (by kernel_rfl) (by simp) ?_
              refine AllReadyH.cons rfl (fun K hK => ?_) AllReadyH.nil
              go_simp
              go_at_call 30
              refine (wlenM b o L2 wc.drew hW0 hws2).mono ?_
              rintro e v1 ⟨rfl, n1⟩
              have z1 : v1.cell? ⟨q, 1, none⟩ = some (.int .i64 at') := (n1.cell (p := ⟨q, 1, none⟩) y0 (fun h => h)).trans z0
              have y1 : q < v1.heap.size := Nat.lt_of_lt_of_le y0 n1.size
              have hW1 := hW0.keep0 n1
              have hT1 := ArrR.keep0 hT0 n1
              go_wp2_with fail
              refine hK.out _ _ z1 (fun hHeld => ?_)
              clear hK K
              try simp only [List.getElem_toArray, List.getElem_cons_succ, List.getElem_cons_zero, Act.put, List.setIfInBounds_toArray, List.set_cons_zero, List.set_cons_succ]
              refine wpAnyH_ready (rs := [3]) (by kernel_rfl) (by simp) ?_
              refine AllReadyH.cons rfl (fun K hK => ?_) AllReadyH.nil
              go_simp
              go_at_call 35
              refine (rwlenM hT1 hws2).mono ?_
              rintro e v2 ⟨rfl, n2⟩
              have z2 : v2.cell? ⟨q, 1, none⟩ = some (.int .i64 at') := (n2.cell (p := ⟨q, 1, none⟩) y1 (fun h => h)).trans z1
              have y2 : q < v2.heap.size := Nat.lt_of_lt_of_le y1 n2.size
              have hW2 := hW1.keep0 n2
              have hT2 := ArrR.keep0 hT1 n2
              go_wp2_with fail
              refine hK.out _ _ z2 (fun hHeld => ?_)
              clear hK K
              try simp only [List.getElem_toArray, List.getElem_cons_succ, List.getElem_cons_zero, Act.put, List.setIfInBounds_toArray, List.set_cons_zero, List.set_cons_succ]
              (refine wpAnyH_take (i := 4) (v := ?_) rfl (by kernel_rfl) (by kernel_rfl) (by kernel_rfl) (fun _ _ _ h => h) (Or.inl ⟨by kernel_rfl, ?_⟩) (by assumption) ?_; rotate_left; focus (intro wq hSw; (try dsimp only at hSw); go_simp; try with_reducible rfl); try simp only [List.getElem_toArray, List.getElem_cons_succ, List.getElem_cons_zero, Act.put, List.setIfInBounds_toArray, List.set_cons_zero, List.set_cons_succ])
              (refine wpAnyH_take (i := 5) (v := ?_) rfl (by kernel_rfl) (by kernel_rfl) (by kernel_rfl) (fun _ _ _ h => h) (Or.inl ⟨by kernel_rfl, ?_⟩) (by assumption) ?_; rotate_left; focus (intro wq hSw; (try dsimp only at hSw); go_simp; try with_reducible rfl); try simp only [List.getElem_toArray, List.getElem_cons_succ, List.getElem_cons_zero, Act.put, List.setIfInBounds_toArray, List.set_cons_zero, List.set_cons_succ])
              (refine wpAnyH_take (i := 6) (v := ?_) rfl (by kernel_rfl) (by kernel_rfl) (by kernel_rfl) (fun _ _ _ h => h) (Or.inl ⟨by kernel_rfl, ?_⟩) (by assumption) ?_; rotate_left; focus (intro wq hSw; (try dsimp only at hSw); go_simp; try with_reducible rfl); try simp only [List.getElem_toArray, List.getElem_cons_succ, List.getElem_cons_zero, Act.put, List.setIfInBounds_toArray, List.set_cons_zero, List.set_cons_succ])
              (refine wpAnyH_take (i := 7) (v := ?_) rfl (by kernel_rfl) (by kernel_rfl) (by kernel_rfl) (fun _ _ _ h => h) (Or.inl ⟨by kernel_rfl, ?_⟩) (by assumption) ?_; rotate_left; focus (intro wq hSw; (try dsimp only at hSw); go_simp; try with_reducible rfl); try simp only [List.getElem_toArray, List.getElem_cons_succ, List.getElem_cons_zero, Act.put, List.setIfInBounds_toArray, List.set_cons_zero, List.set_cons_succ])
              (refine wpAnyH_take (i := 8) (v := undef) rfl (by kernel_rfl) (by kernel_rfl) (by kernel_rfl) (fun _ _ _ h => h) (Or.inr ⟨by kernel_rfl, rfl⟩) (by assumption) ?_; try simp only [List.getElem_toArray, List.getElem_cons_succ, List.getElem_cons_zero, Act.put, List.setIfInBounds_toArray, List.set_cons_zero, List.set_cons_succ])
              (refine wpAnyH_take (i := 9) (v := undef) rfl (by kernel_rfl) (by kernel_rfl) (by kernel_rfl) (fun _ _ _ h => h) (Or.inr ⟨by kernel_rfl, rfl⟩) (by assumption) ?_; try simp only [List.getElem_toArray, List.getElem_cons_succ, List.getElem_cons_zero, Act.put, List.setIfInBounds_toArray, List.set_cons_zero, List.set_cons_succ])
              (refine wpAnyH_take (i := 10) (v := undef) rfl (by kernel_rfl) (by kernel_rfl) (by kernel_rfl) (fun _ _ _ h => h) (Or.inr ⟨by kernel_rfl, rfl⟩) (by assumption) ?_; try simp only [List.getElem_toArray, List.getElem_cons_succ, List.getElem_cons_zero, Act.put, List.setIfInBounds_toArray, List.set_cons_zero, List.set_cons_succ])
              (refine wpAnyH_take (i := 11) (v := undef) rfl (by kernel_rfl) (by kernel_rfl) (by kernel_rfl) (fun _ _ _ h => h) (Or.inr ⟨by kernel_rfl, rfl⟩) (by assumption) ?_; try simp only [List.getElem_toArray, List.getElem_cons_succ, List.getElem_cons_zero, Act.put, List.setIfInBounds_toArray, List.set_cons_zero, List.set_cons_succ])
              (refine wpAnyH_take (i := 12) (v := undef) rfl (by kernel_rfl) (by kernel_rfl) (by kernel_rfl) (fun _ _ _ h => h) (Or.inr ⟨by kernel_rfl, rfl⟩) (by assumption) ?_; try simp only [List.getElem_toArray, List.getElem_cons_succ, List.getElem_cons_zero, Act.put, List.setIfInBounds_toArray, List.set_cons_zero, List.set_cons_succ])
              (refine wpAnyH_take (i := 13) (v := undef) rfl (by kernel_rfl) (by kernel_rfl) (by kernel_rfl) (fun _ _ _ h => h) (Or.inr ⟨by kernel_rfl, rfl⟩) (by assumption) ?_; try simp only [List.getElem_toArray, List.getElem_cons_succ, List.getElem_cons_zero, Act.put, List.setIfInBounds_toArray, List.set_cons_zero, List.set_cons_succ])
              (refine wpAnyH_take (i := 14) (v := undef) rfl (by kernel_rfl) (by kernel_rfl) (by kernel_rfl) (fun _ _ _ h => h) (Or.inr ⟨by kernel_rfl, rfl⟩) (by assumption) ?_; try simp only [List.getElem_toArray, List.getElem_cons_succ, List.getElem_cons_zero, Act.put, List.setIfInBounds_toArray, List.set_cons_zero, List.set_cons_succ])
              (refine wpAnyH_take (i := 15) (v := undef) rfl (by kernel_rfl) (by kernel_rfl) (by kernel_rfl) (fun _ _ _ h => h) (Or.inr ⟨by kernel_rfl, rfl⟩) (by assumption) ?_; try simp only [List.getElem_toArray, List.getElem_cons_succ, List.getElem_cons_zero, Act.put, List.setIfInBounds_toArray, List.set_cons_zero, List.set_cons_succ])
              (refine wpAnyH_take (i := 16) (v := undef) rfl (by kernel_rfl) (by kernel_rfl) (by kernel_rfl) (fun _ _ _ h => h) (Or.inr ⟨by kernel_rfl, rfl⟩) (by assumption) ?_; try simp only [List.getElem_toArray, List.getElem_cons_succ, List.getElem_cons_zero, Act.put, List.setIfInBounds_toArray, List.set_cons_zero, List.set_cons_succ])
              (refine wpAnyH_take (i := 17) (v := undef) rfl (by kernel_rfl) (by kernel_rfl) (by kernel_rfl) (fun _ _ _ h => h) (Or.inr ⟨by kernel_rfl, rfl⟩) (by assumption) ?_; try simp only [List.getElem_toArray, List.getElem_cons_succ, List.getElem_cons_zero, Act.put, List.setIfInBounds_toArray, List.set_cons_zero, List.set_cons_succ])
              (refine wpAnyH_take (i := 18) (v := undef) rfl (by kernel_rfl) (by kernel_rfl) (by kernel_rfl) (fun _ _ _ h => h) (Or.inr ⟨by kernel_rfl, rfl⟩) (by assumption) ?_; try simp only [List.getElem_toArray, List.getElem_cons_succ, List.getElem_cons_zero, Act.put, List.setIfInBounds_toArray, List.set_cons_zero, List.set_cons_succ])
              (refine wpAnyH_take (i := 19) (v := undef) rfl (by kernel_rfl) (by kernel_rfl) (by kernel_rfl) (fun _ _ _ h => h) (Or.inr ⟨by kernel_rfl, rfl⟩) (by assumption) ?_; try simp only [List.getElem_toArray, List.getElem_cons_succ, List.getElem_cons_zero, Act.put, List.setIfInBounds_toArray, List.set_cons_zero, List.set_cons_succ])
              (refine wpAnyH_take (i := 20) (v := undef) rfl (by kernel_rfl) (by kernel_rfl) (by kernel_rfl) (fun _ _ _ h => h) (Or.inr ⟨by kernel_rfl, rfl⟩) (by assumption) ?_; try simp only [List.getElem_toArray, List.getElem_cons_succ, List.getElem_cons_zero, Act.put, List.setIfInBounds_toArray, List.set_cons_zero, List.set_cons_succ])
              (refine wpAnyH_take (i := 21) (v := ?_) rfl (by kernel_rfl) (by kernel_rfl) (by kernel_rfl) (fun _ _ _ h => h) (Or.inl ⟨by kernel_rfl, ?_⟩) (by assumption) ?_; rotate_left; focus (intro wq hSw; (try dsimp only at hSw); go_simp; try with_reducible rfl); try simp only [List.getElem_toArray, List.getElem_cons_succ, List.getElem_cons_zero, Act.put, List.setIfInBounds_toArray, List.set_cons_zero, List.set_cons_succ])
              (refine wpAnyH_take (i := 22) (v := ?_) rfl (by kernel_rfl) (by kernel_rfl) (by kernel_rfl) (fun _ _ _ h => h) (Or.inl ⟨by kernel_rfl, ?_⟩) (by assumption) ?_; rotate_left; focus (intro wq hSw; (try dsimp only at hSw); go_simp; try with_reducible rfl); try simp only [List.getElem_toArray, List.getElem_cons_succ, List.getElem_cons_zero, Act.put, List.setIfInBounds_toArray, List.set_cons_zero, List.set_cons_succ])
              (refine wpAnyH_take (i := 23) (v := ?_) rfl (by kernel_rfl) (by kernel_rfl) (by kernel_rfl) (fun _ _ _ h => h) (Or.inl ⟨by kernel_rfl, ?_⟩) (by assumption) ?_; rotate_left; focus (intro wq hSw; (try dsimp only at hSw); go_simp; try with_reducible rfl); try simp only [List.getElem_toArray, List.getElem_cons_succ, List.getElem_cons_zero, Act.put, List.setIfInBounds_toArray, List.set_cons_zero, List.set_cons_succ])
              (refine wpAnyH_take (i := 24) (v := ?_) rfl (by kernel_rfl) (by kernel_rfl) (by kernel_rfl) (fun _ _ _ h => h) (Or.inl ⟨by kernel_rfl, ?_⟩) (by assumption) ?_; rotate_left; focus (intro wq hSw; (try dsimp only at hSw); go_simp; try with_reducible rfl); try simp only [List.getElem_toArray, List.getElem_cons_succ, List.getElem_cons_zero, Act.put, List.setIfInBounds_toArray, List.set_cons_zero, List.set_cons_succ])
              (refine wpAnyH_take (i := 25) (v := ?_) rfl (by kernel_rfl) (by kernel_rfl) (by kernel_rfl) (fun _ _ _ h => h) (Or.inl ⟨by kernel_rfl, ?_⟩) (by assumption) ?_; rotate_left; focus (intro wq hSw; (try dsimp only at hSw); go_simp; try with_reducible rfl); try simp only [List.getElem_toArray, List.getElem_cons_succ, List.getElem_cons_zero, Act.put, List.setIfInBounds_toArray, List.set_cons_zero, List.set_cons_succ])
              (refine wpAnyH_take (i := 26) (v := ?_) rfl (by kernel_rfl) (by kernel_rfl) (by kernel_rfl) (fun _ _ _ h => h) (Or.inl ⟨by kernel_rfl, ?_⟩) (by assumption) ?_; rotate_left; focus (intro wq hSw; (try dsimp only at hSw); go_simp; try with_reducible rfl); try simp only [List.getElem_toArray, List.getElem_cons_succ, List.getElem_cons_zero, Act.put, List.setIfInBounds_toArray, List.set_cons_zero, List.set_cons_succ])
              (refine wpAnyH_take (i := 27) (v := ?_) rfl (by kernel_rfl) (by kernel_rfl) (by kernel_rfl) (fun _ _ _ h => h) (Or.inl ⟨by kernel_rfl, ?_⟩) (by assumption) ?_; rotate_left; focus (intro wq hSw; (try dsimp only at hSw); go_simp; try with_reducible rfl); try simp only [List.getElem_toArray, List.getElem_cons_succ, List.getElem_cons_zero, Act.put, List.setIfInBounds_toArray, List.set_cons_zero, List.set_cons_succ])
              (refine wpAnyH_take (i := 28) (v := ?_) rfl (by kernel_rfl) (by kernel_rfl) (by kernel_rfl) (fun _ _ _ h => h) (Or.inl ⟨by kernel_rfl, ?_⟩) (by assumption) ?_; rotate_left; focus (intro wq hSw; (try dsimp only at hSw); go_simp; try with_reducible rfl); try simp only [List.getElem_toArray, List.getElem_cons_succ, List.getElem_cons_zero, Act.put, List.setIfInBounds_toArray, List.set_cons_zero, List.set_cons_succ])
              (refine wpAnyH_take (i := 29) (v := ?_) rfl (by kernel_rfl) (by kernel_rfl) (by kernel_rfl) (fun _ _ _ h => h) (Or.inl ⟨by kernel_rfl, ?_⟩) (by assumption) ?_; rotate_left; focus (intro wq hSw; (try dsimp only at hSw); go_simp; try with_reducible rfl); try simp only [List.getElem_toArray, List.getElem_cons_succ, List.getElem_cons_zero, Act.put, List.setIfInBounds_toArray, List.set_cons_zero, List.set_cons_succ])
              refine wpAnyH_ready (rs := [30]) (by kernel_rfl) (by simp) ?_
              refine AllReadyH.cons rfl (fun K hK => ?_) AllReadyH.nil
              go_simp
              go_at_call 29
              refine (wallnoM b at' _ hnin).mono ?_
              rintro e v3 ⟨rfl, n3⟩
              have z3 : v3.cell? ⟨q, 1, none⟩ = some (.int .i64 at') := (n3.cell (p := ⟨q, 1, none⟩) y2 (fun h => h)).trans z2
              have y3 : q < v3.heap.size := Nat.lt_of_lt_of_le y2 n3.size
              have hW3 := hW2.keep0 n3
              have hT3 := ArrR.keep0 hT2 n3
              go_wp2_with fail
              refine hK.out _ _ z3 (fun hHeld => ?_)
              clear hK K
              try simp only [List.getElem_toArray, List.getElem_cons_succ, List.getElem_cons_zero, Act.put, List.setIfInBounds_toArray, List.set_cons_zero, List.set_cons_succ]
              (refine wpAnyH_take (i := 31) (v := ?_) rfl (by kernel_rfl) (by kernel_rfl) (by kernel_rfl) (fun _ _ _ h => h) (Or.inl ⟨by kernel_rfl, ?_⟩) (by assumption) ?_; rotate_left; focus (intro wq hSw; (try dsimp only at hSw); go_simp; try with_reducible rfl); try simp only [List.getElem_toArray, List.getElem_cons_succ, List.getElem_cons_zero, Act.put, List.setIfInBounds_toArray, List.set_cons_zero, List.set_cons_succ])
              (refine wpAnyH_take (i := 32) (v := ?_) rfl (by kernel_rfl) (by kernel_rfl) (by kernel_rfl) (fun _ _ _ h => h) (Or.inl ⟨by kernel_rfl, ?_⟩) (by assumption) ?_; rotate_left; focus (intro wq hSw; (try dsimp only at hSw); go_simp; try with_reducible rfl); try simp only [List.getElem_toArray, List.getElem_cons_succ, List.getElem_cons_zero, Act.put, List.setIfInBounds_toArray, List.set_cons_zero, List.set_cons_succ])
              (refine wpAnyH_take (i := 33) (v := ?_) rfl (by kernel_rfl) (by kernel_rfl) (by kernel_rfl) (fun _ _ _ h => h) (Or.inl ⟨by kernel_rfl, ?_⟩) (by assumption) ?_; rotate_left; focus (intro wq hSw; (try dsimp only at hSw); go_simp; try with_reducible rfl); try simp only [List.getElem_toArray, List.getElem_cons_succ, List.getElem_cons_zero, Act.put, List.setIfInBounds_toArray, List.set_cons_zero, List.set_cons_succ])
              (refine wpAnyH_take (i := 34) (v := ?_) rfl (by kernel_rfl) (by kernel_rfl) (by kernel_rfl) (fun _ _ _ h => h) (Or.inl ⟨by kernel_rfl, ?_⟩) (by assumption) ?_; rotate_left; focus (intro wq hSw; (try dsimp only at hSw); go_simp; try with_reducible rfl); try simp only [List.getElem_toArray, List.getElem_cons_succ, List.getElem_cons_zero, Act.put, List.setIfInBounds_toArray, List.set_cons_zero, List.set_cons_succ])
              refine wpAnyH_done (by kernel_rfl) ?_ _
              refine NoPanic.normal ?_
              clear hin1 hin2 z0 hnin 
              have h9 := (h4.keep0 (WtP.good _ _) (RwP.good _ _) (((((Mod.refl _ wc).drew).trans n1).trans n2).trans n3)).drop
              go_wp2
              go_roundw
              case rel => first | exact ⟨m + 1, _, by omega, by omega, by go_num, h9, hlen2⟩ | ((repeat apply Exists.intro); exact ⟨⟨m + 1, _, by omega, by omega, by go_num, h9, hlen2⟩, rfl⟩)
              case measure => simp [intOf]; omega
      · obtain rfl : m = 60 := by omega
        have hd1 : decide (60 < n) = true := decide_eq_true hmn
        rw [show ((60 : Nat) : Int) = 60 from rfl]
        go_wp2_with fail
        refine (told14 _).mono ?_
        rintro e w2 ⟨rfl, m2⟩
        go_wp2
        go_ret
        exact ⟨rfl, h.mod.trans m2⟩
    · obtain rfl : m = n := by omega
      have hd1 : decide (m < m) = false := decide_eq_false (by omega)
      go_wp2_with fail
      refine (told14 _).mono ?_
      rintro e w2 ⟨rfl, m2⟩
      go_wp2
      go_ret
      exact ⟨rfl, h.mod.trans m2⟩

end Go.Proofs.Ytjjbcfbljnekgaa
