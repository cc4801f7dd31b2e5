/-
  treadmilllaw10.RingPlays: the walk.
-/
import Derived.Test.YtgojfccaohngaaaFour
import Derived.Test.YtgojfccaohngaaaOpsR
import Derived.Deep.RegionHeld3
import Derived.Deep.DeepCutAuto
import Derived.Deep.CutBlock
import Derived.Deep.LoopGhost
import Derived.IntWalk
set_option linter.unusedSimpArgs false
namespace Go.Proofs.Ytgojfccaohngaaa
open Go.RowKit

theorem mod_case' (x : Int) (n : Nat) (hn : 0 < n) : ∃ (a : Int) (k : Nat), x.tmod (n : Int) = a ∧ -(n : Int) < a ∧ a < (n : Int) ∧ k < n ∧ (a + (n : Int)).tmod (n : Int) = (k : Int) ∧ (a + (n : Int)) % (n : Int) = (k : Int) := by
  have h1 := Int.tmod_lt_of_pos x (b := (n : Int)) (by omega)
  have h2 : -(n : Int) < x.tmod (n : Int) := by
    have h3 := Int.tmod_lt_of_pos (-x) (b := (n : Int)) (by omega)
    rw [Int.neg_tmod] at h3
    omega
  obtain ⟨a, ha⟩ : ∃ a, a = x.tmod (n : Int) := ⟨_, rfl⟩
  rw [← ha] at h1 h2
  have h4 := Int.emod_nonneg (a + (n : Int)) (b := (n : Int)) (by omega)
  have h5 := Int.emod_lt_of_pos (a + (n : Int)) (b := (n : Int)) (by omega)
  refine ⟨a, ((a + (n : Int)) % (n : Int)).toNat, ha.symm, h2, h1, by omega, ?_, by omega⟩
  rw [Int.tmod_eq_emod_of_nonneg (by omega)]
  omega
theorem ints_sameM' (A A' : Option Addr) (n n' c c' : Nat) (l : List Int) (w : World) (h : IsL w A n c l) (h' : IsL w A' n' c' l) (hn : n ≤ 900000) :
    Calls Try.prog 27 #[.slice A n c, .slice A' n' c'] w fun e w' => e = .returned (.bool true) ∧ Mod (fun _ => False) w w' := by
  have hnn : n' = n := by rw [← h.len, ← h'.len]
  refine (ints_any A A' n n' c c' l l w h h' hn (by omega)).mono ?_
  rintro e w' ⟨rfl, k, rfl⟩
  exact ⟨by simp, (Mod.refl _ w).drewN k⟩
def opf3 (kd g : Int) (nx : Bool) : Nat → Value := fun i => if i = 0 then .int .i64 kd else if i = 1 then .int .i64 g else .bool nx
theorem opf3_row (w : World) (kd g : Int) (nx : Bool) : (w.alloc (.cells #[.int .i64 kd, .int .i64 g, .bool nx] 57)).rowIs w.heap.size 57 3 (opf3 kd g nx) :=
  World.rowIs_alloc w #[.int .i64 kd, .int .i64 g, .bool nx] 57 (opf3 kd g nx) (fun i hi => by
    have h3 : i = 0 ∨ i = 1 ∨ i = 2 := by simp at hi; omega
    rcases h3 with rfl | rfl | rfl <;> rfl)

set_option maxHeartbeats 16000000 in
set_option maxRecDepth 100000 in
theorem rplays_true (P : Option Addr) (n c : Nat) (l : List (Int × Int × Bool)) (w : World) (_ : n ≤ maxLen) (hl : IsO10 w P n l) :
    Calls Try.prog 10 #[.slice P n c] w fun e w' => e = .returned (.bool true) ∧ Mod (fun _ => False) w w' := by
  go_enter Try.func10, Try.ntmps10
  go_wp2_with fail
  refine (new_ring w).mono ?_
  rintro e w1 ⟨a, rfl, ha, hr1, m1⟩
  go_wp2_with fail
  refine (new_ring w1).mono ?_
  rintro e w2 ⟨b, rfl, hb, hr2, m2⟩
  go_wp2_with fail
  have h0 : Four w ((w2.alloc (.cells #[.slice none 0 0, .slice none 0 0] 55)).alloc (.cells #[.slice none 0 0, .slice none 0 0] 55)) a b w2.heap.size (w2.alloc (.cells #[.slice none 0 0, .slice none 0 0] 55)).heap.size ([], none) ([], none) ([], none) ([], none) := by
    have ma : Mod (fun _ => False) w2 ((w2.alloc (.cells #[.slice none 0 0, .slice none 0 0] 55)).alloc (.cells #[.slice none 0 0, .slice none 0 0] 55)) := ((Mod.refl _ w2).alloc _).alloc _
    have mb : Mod (fun _ => False) (w2.alloc (.cells #[.slice none 0 0, .slice none 0 0] 55)) ((w2.alloc (.cells #[.slice none 0 0, .slice none 0 0] 55)).alloc (.cells #[.slice none 0 0, .slice none 0 0] 55)) := (Mod.refl _ _).alloc _
    have s1 := m1.size
    have s2 := m2.size
    have s3 := hr1.lt
    exact ⟨(hr1.keep m2 (fun h => h)).keep ma (fun h => h), hr2.keep ma (fun h => h), (rring_alloc w2).keep mb (fun h => h) (NoInts.zero _), rring_alloc _, by omega, by simp, ha, by omega, by omega, by simp; omega, (m1.trans m2).trans ma⟩
  obtain ⟨x, hx⟩ : ∃ x, x = w2.heap.size := ⟨_, rfl⟩
  have hy : (w2.alloc (.cells #[.slice none 0 0, .slice none 0 0] 55)).heap.size = x + 1 := by rw [hx]; simp
  rw [hy, ← hx] at h0
  rw [← hx]
  clear hr1 hr2 m1 m2 ha hb hx hy
  go_loopw [3, 4, 5, 6, 7] (fun va vb vx vy vi wr => ∃ (m : Nat) (a b x y : Nat) (A B : RM), m ≤ n ∧ m ≤ 60 ∧ va = .pointer (some ⟨a, 0, none⟩) ∧ vb = .pointer (some ⟨b, 0, none⟩) ∧ vx = .pointer (some ⟨x, 0, none⟩) ∧ vy = .pointer (some ⟨y, 0, none⟩) ∧ vi = .int .i64 m ∧
    Four w wr a b x y A B A B) (fun _ _ _ _ vi _ => n - (intOf vi).toNat)
  case atStart => exact ⟨0, a, b, x, x + 1, _, _, by omega, by omega, rfl, rfl, rfl, rfl, rfl, h0⟩
  case round =>
    clear h0
    obtain ⟨m, a, b, x, y, A, B, hm, hm6, rfl, rfl, rfl, rfl, rfl, h⟩ := hrel
    by_cases hmn : m < n
    · by_cases hm60 : m < 60
      · obtain ⟨g, o, rfl, hg, hcw⟩ := hl.2 (by omega)
        obtain ⟨b0, b1, b2⟩ := hcw m hmn
        generalize l.getD m (0, 0, false) = op at b0 b1 b2
        obtain ⟨kd, gg, nx⟩ := op
        have hc0 := (h.mod.cell (p := ⟨g, o + m * 3, none⟩) hg (fun h => h)).trans b0
        have hc1 := (h.mod.cell (p := ⟨g, o + m * 3 + 1, none⟩) hg (fun h => h)).trans b1
        have hc2 := (h.mod.cell (p := ⟨g, o + m * 3 + 2, none⟩) hg (fun h => h)).trans b2
        clear b0 b1 b2 hcw
        have hc0 : wr.cell? ⟨g, o + m * 3, none⟩ = some (.int .i64 kd) := hc0
        have hc1 : wr.cell? ⟨g, o + m * 3 + 1, none⟩ = some (.int .i64 gg) := hc1
        have hc2 : wr.cell? ⟨g, o + m * 3 + 2, none⟩ = some (.bool nx) := hc2
        have hd1 : decide (m < n) = true := decide_eq_true hmn
        have hd2 : decide ((m : Int) < 60) = true := decide_eq_true (by omega)
        have hd3 : decide (m < 60) = true := decide_eq_true hm60
        have hi0 : (0 : Int) ≤ (m : Int) := by omega
        have hi1 : (m : Int) < (n : Int) := by omega
        have hrow := opf3_row wr kd gg nx
        have h := h.keep0 ((Mod.refl (fun _ => False) wr).alloc (.cells #[.int .i64 kd, .int .i64 gg, .bool nx] 57))
        obtain ⟨z, k, hx, hx1, hx2, hk, hx3, hx4⟩ := mod_case' kd 8 (by omega)
        have hx' : kd.tmod 8 = z := hx
        have hx3' : (z + 8).tmod 8 = (k : Int) := hx3
        have hx4' : (z + 8) % 8 = (k : Int) := hx4
        have hx1' : -8 < z := hx1
        have hx2' : z < 8 := hx2
        clear hx hx3 hx4 hx1 hx2
        go_upto_block 2 with (fail)
        generalize hwq : wr.alloc (.cells #[.int .i64 kd, .int .i64 gg, .bool nx] 57) = wq at h hrow ⊢
        generalize hqq : wr.heap.size = q at hrow ⊢
        clear hwq hqq hc0 hc1 hc2
        have hlA := h.ra.len
        have hlB := h.rb.len
        clear hx' hx3' hx4' hx1' hx2'
        go_cut [9, 3, 4, 5, 6] (fun vok va vb vx vy wx => vok = .bool true ∧ ∃ (a b x y : Nat) (A B : RM), va = .pointer (some ⟨a, 0, none⟩) ∧ vb = .pointer (some ⟨b, 0, none⟩) ∧ vx = .pointer (some ⟨x, 0, none⟩) ∧ vy = .pointer (some ⟨y, 0, none⟩) ∧ Four w wx a b x y A B A B)
        case first =>
          have hc1 : wq.cell? ⟨q, 1, none⟩ = some (.int .i64 gg) := hrow.cell (i := 1) (by omega)
          have hc2 : wq.cell? ⟨q, 2, none⟩ = some (.bool nx) := hrow.cell (i := 2) (by omega)
          have h3d : Four w wq.drew a b x y A B A B := h.keep0 ((Mod.refl (fun _ => False) wq).drew)
          have hrd : wq.drew.rowIs q 57 3 (opf3 kd gg nx) := hrow
          have hks : k = 0 ∨ k = 1 ∨ k = 2 ∨ k = 3 ∨ k = 4 ∨ k = 5 ∨ k = 6 ∨ k = 7 := by omega
          rcases hks with rfl | rfl | rfl | rfl | rfl | rfl | rfl | rfl
          · go_wp2_with fail
            go_region_held3 (fun W => W.cell? ⟨q, 1, none⟩ = some (.int .i64 gg) ∧ W.cell? ⟨q, 2, none⟩ = some (.bool nx)) (first | (with_reducible exact ⟨u1, u2⟩) | (with_reducible exact ⟨s1, s2⟩) | (with_reducible exact ⟨t1, t2⟩) | (with_reducible exact ⟨hc1, hc2⟩) | go_keep)
              (first
                | (go_at_call 27
                   have _t := hB4
                   refine (ints_sameM' R3 R4 n3 n4 k3 k4 _ _ hA4 hB4 hn3).mono ?_
                   rintro e w5 ⟨rfl, m5⟩
                   have u1 : w5.cell? ⟨q, 1, none⟩ = some (.int .i64 gg) := (m5.cell (p := ⟨q, 1, none⟩) r4.lt (fun h => h)).trans s1
                   have u2 : w5.cell? ⟨q, 2, none⟩ = some (.bool nx) := (m5.cell (p := ⟨q, 2, none⟩) r4.lt (fun h => h)).trans s2)
                | (go_at_call 34
                   have _t := hA3
                   refine (Four.rput h3 hlA gg nx).mono ?_
                   rintro e w4 ⟨R4, n4, k4, rfl, hB4, _, h4, m4⟩
                   have hA4 : IsL w4 R3 n3 k3 (over2 A gg nx) := hA3.keep m4 (fun d hd ht => by have h1 := hA3f d hd; have h2 := h3d.rx.lt; omega)
                   have r4 := m4.rowIs r3 (h3.rx.ne r3 (by decide))
                   have s1 : w4.cell? ⟨q, 1, none⟩ = some (.int .i64 gg) := r4.cell (i := 1) (by omega)
                   have s2 : w4.cell? ⟨q, 2, none⟩ = some (.bool nx) := r4.cell (i := 2) (by omega))
                | (go_at_call 22
                   refine (Four.put h3d gg nx).mono ?_
                   rintro e w3 ⟨R3, n3, k3, rfl, hA3, hA3f, h3, m3⟩
                   have hn3 : n3 ≤ 900000 := by have h5 := over2_len A gg nx; rw [hA3.len] at h5; omega
                   have r3 := m3.rowIs hrd (h3d.ra.ne hrd (by decide))
                   have t1 : w3.cell? ⟨q, 1, none⟩ = some (.int .i64 gg) := r3.cell (i := 1) (by omega)
                   have t2 : w3.cell? ⟨q, 2, none⟩ = some (.bool nx) := r3.cell (i := 2) (by omega)))
            all_goals (
              have h5 := h4.keep0 m5
              have r5 := m5.rowIs r4 (fun h => h)
              generalize put2 A gg nx = A2 at h5
              clear h3 h4 h3d hrd r3 r4 t1 t2 s1 s2 u1 u2 hA3 hA4 hB4 hc1 hc2 m3 m4 m5 h
              go_wp2_with fail
              go_meet
              case rel => exact ⟨rfl, _, _, _, _, _, _, rfl, rfl, rfl, rfl, h5⟩)
          · go_wp2_with fail
            go_region_held3 (fun W => W.cell? ⟨q, 1, none⟩ = some (.int .i64 gg) ∧ W.cell? ⟨q, 2, none⟩ = some (.bool nx)) (first | (with_reducible exact ⟨u1, u2⟩) | (with_reducible exact ⟨s1, s2⟩) | (with_reducible exact ⟨t1, t2⟩) | (with_reducible exact ⟨hc1, hc2⟩) | go_keep)
              (first
                | (go_at_call 27
                   have _t := hB4
                   refine (ints_sameM' R3 R4 n3 n4 k3 k4 _ _ hA4 hB4 hn3).mono ?_
                   rintro e w5 ⟨rfl, m5⟩
                   have u1 : w5.cell? ⟨q, 1, none⟩ = some (.int .i64 gg) := (m5.cell (p := ⟨q, 1, none⟩) r4.lt (fun h => h)).trans s1
                   have u2 : w5.cell? ⟨q, 2, none⟩ = some (.bool nx) := (m5.cell (p := ⟨q, 2, none⟩) r4.lt (fun h => h)).trans s2)
                | (go_at_call 34
                   have _t := hA3
                   refine (Four.rput h3 hlA gg nx).mono ?_
                   rintro e w4 ⟨R4, n4, k4, rfl, hB4, _, h4, m4⟩
                   have hA4 : IsL w4 R3 n3 k3 (over2 A gg nx) := hA3.keep m4 (fun d hd ht => by have h1 := hA3f d hd; have h2 := h3d.rx.lt; omega)
                   have r4 := m4.rowIs r3 (h3.rx.ne r3 (by decide))
                   have s1 : w4.cell? ⟨q, 1, none⟩ = some (.int .i64 gg) := r4.cell (i := 1) (by omega)
                   have s2 : w4.cell? ⟨q, 2, none⟩ = some (.bool nx) := r4.cell (i := 2) (by omega))
                | (go_at_call 22
                   refine (Four.put h3d gg nx).mono ?_
                   rintro e w3 ⟨R3, n3, k3, rfl, hA3, hA3f, h3, m3⟩
                   have hn3 : n3 ≤ 900000 := by have h5 := over2_len A gg nx; rw [hA3.len] at h5; omega
                   have r3 := m3.rowIs hrd (h3d.ra.ne hrd (by decide))
                   have t1 : w3.cell? ⟨q, 1, none⟩ = some (.int .i64 gg) := r3.cell (i := 1) (by omega)
                   have t2 : w3.cell? ⟨q, 2, none⟩ = some (.bool nx) := r3.cell (i := 2) (by omega)))
            all_goals (
              have h5 := h4.keep0 m5
              have r5 := m5.rowIs r4 (fun h => h)
              generalize put2 A gg nx = A2 at h5
              clear h3 h4 h3d hrd r3 r4 t1 t2 s1 s2 u1 u2 hA3 hA4 hB4 hc1 hc2 m3 m4 m5 h
              go_wp2_with fail
              go_meet
              case rel => exact ⟨rfl, _, _, _, _, _, _, rfl, rfl, rfl, rfl, h5⟩)
          · go_wp2_with fail
            go_region_held3 (fun W => W.cell? ⟨q, 1, none⟩ = some (.int .i64 gg) ∧ W.cell? ⟨q, 2, none⟩ = some (.bool nx)) (first | (with_reducible exact ⟨u1, u2⟩) | (with_reducible exact ⟨s1, s2⟩) | (with_reducible exact ⟨t1, t2⟩) | (with_reducible exact ⟨hc1, hc2⟩) | go_keep)
              (first
                | (go_at_call 27
                   have _t := hB4
                   refine (ints_sameM' R3 R4 n3 n4 k3 k4 _ _ hA4 hB4 hn3).mono ?_
                   rintro e w5 ⟨rfl, m5⟩
                   have u1 : w5.cell? ⟨q, 1, none⟩ = some (.int .i64 gg) := (m5.cell (p := ⟨q, 1, none⟩) r4.lt (fun h => h)).trans s1
                   have u2 : w5.cell? ⟨q, 2, none⟩ = some (.bool nx) := (m5.cell (p := ⟨q, 2, none⟩) r4.lt (fun h => h)).trans s2)
                | (go_at_call 34
                   have _t := hA3
                   refine (Four.rput h3 hlA gg nx).mono ?_
                   rintro e w4 ⟨R4, n4, k4, rfl, hB4, _, h4, m4⟩
                   have hA4 : IsL w4 R3 n3 k3 (over2 A gg nx) := hA3.keep m4 (fun d hd ht => by have h1 := hA3f d hd; have h2 := h3d.rx.lt; omega)
                   have r4 := m4.rowIs r3 (h3.rx.ne r3 (by decide))
                   have s1 : w4.cell? ⟨q, 1, none⟩ = some (.int .i64 gg) := r4.cell (i := 1) (by omega)
                   have s2 : w4.cell? ⟨q, 2, none⟩ = some (.bool nx) := r4.cell (i := 2) (by omega))
                | (go_at_call 22
                   refine (Four.put h3d gg nx).mono ?_
                   rintro e w3 ⟨R3, n3, k3, rfl, hA3, hA3f, h3, m3⟩
                   have hn3 : n3 ≤ 900000 := by have h5 := over2_len A gg nx; rw [hA3.len] at h5; omega
                   have r3 := m3.rowIs hrd (h3d.ra.ne hrd (by decide))
                   have t1 : w3.cell? ⟨q, 1, none⟩ = some (.int .i64 gg) := r3.cell (i := 1) (by omega)
                   have t2 : w3.cell? ⟨q, 2, none⟩ = some (.bool nx) := r3.cell (i := 2) (by omega)))
            all_goals (
              have h5 := h4.keep0 m5
              have r5 := m5.rowIs r4 (fun h => h)
              generalize put2 A gg nx = A2 at h5
              clear h3 h4 h3d hrd r3 r4 t1 t2 s1 s2 u1 u2 hA3 hA4 hB4 hc1 hc2 m3 m4 m5 h
              go_wp2_with fail
              go_meet
              case rel => exact ⟨rfl, _, _, _, _, _, _, rfl, rfl, rfl, rfl, h5⟩)
          · have HV : ∃ v1 v2, v1 = (rget A.1 A.2).1.1 ∧ v2 = (rget A.1 A.2).1.2 := ⟨_, _, rfl, rfl⟩
            obtain ⟨v1, v2, e1, e2⟩ := HV
            have g1 := Four.get h
            rw [← e1, ← e2] at g1
            have g2 := fun (W : World) (A' : RM) (h3 : Four w W a b x y A' B A B) => Four.rget h3
            rw [← e1, ← e2] at g2
            have G1 := Lib.hid g1
            have G2 := Lib.hid g2
            clear e1 e2 g1 g2
            go_wp2_with fail
            refine G1.out.mono ?_
            rintro e w3 ⟨rfl, h3, m3⟩
            go_wp2_with fail
            refine (G2.out _ _ h3).mono ?_
            rintro e w4 ⟨rfl, h4, m4⟩
            generalize get2 A = A2 at h4
            clear h3 h hrd hc1 hc2 m3 m4 G1 G2
            cases v2 <;> (
              go_wp2_with fail
              go_meet
              case rel => exact ⟨rfl, _, _, _, _, _, _, rfl, rfl, rfl, rfl, h4⟩)
          · go_wp2_with fail
            refine (Four.steal h).mono ?_
            rintro e w3 ⟨rfl, h3, m3⟩
            generalize hV : (rsteal A.1 B.1 B.2).1 = V
            have HV := Lib.hid hV
            clear hV
            go_wp2_with fail
            refine (Four.rsteal h3 hlA hlB).mono ?_
            rintro e w4 ⟨rfl, h4, m4⟩
            rw [HV.out]
            generalize stA A B = A2 at h4
            generalize stB A B = B2 at h4
            clear h3 h hrd hc1 hc2 m3 m4 HV
            go_wp2_with fail
            go_meet
            case rel => exact ⟨rfl, _, _, _, _, _, _, rfl, rfl, rfl, rfl, h4⟩
          · go_wp2_with fail
            go_region_held3 (fun W => W.cell? ⟨q, 1, none⟩ = some (.int .i64 gg)) (first | (with_reducible exact s1) | (with_reducible exact t1) | (with_reducible exact hc1) | go_keep)
              (first
                | (go_at_call 37
                   have _t := t1
                   refine (Four.rdel h3 hlA gg).mono ?_
                   rintro e w4 ⟨rfl, h4, m4⟩
                   have r4 := m4.rowIs r3 (h3.rx.ne r3 (by decide))
                   have s1 : w4.cell? ⟨q, 1, none⟩ = some (.int .i64 gg) := r4.cell (i := 1) (by omega))
                | (go_at_call 33
                   refine (Four.del h3d gg).mono ?_
                   rintro e w3 ⟨rfl, h3, m3⟩
                   have r3 := m3.rowIs hrd (h3d.ra.ne hrd (by decide))
                   have t1 : w3.cell? ⟨q, 1, none⟩ = some (.int .i64 gg) := r3.cell (i := 1) (by omega)))
            all_goals (
              generalize del2 A gg = A2 at h4
              generalize (rdel A.1 A.2 gg).1 = V
              clear h3 h3d hrd r3 r4 t1 s1 hc1 hc2 m3 m4 h
              cases V <;> (
                go_wp2_with fail
                go_meet
                case rel => exact ⟨rfl, _, _, _, _, _, _, rfl, rfl, rfl, rfl, h4⟩))
          · obtain ⟨N, hN, heN⟩ := umod gg 300 (by omega)
            have heN' : (IntKind.u64.wrap gg).tmod 300 = (N : Int) := heN
            clear heN hc2
            go_wp2_with fail
            go_loopw [14, 9] (fun vk vok wi => ∃ (k : Nat) (A : RM), k ≤ N ∧ vk = .int .i64 k ∧ vok = .bool true ∧ Four w wi a b x y A B A B ∧ wi.rowIs q 57 3 (opf3 kd gg nx)) (fun vk _ _ => N - (intOf vk).toNat)
            case atStart => exact ⟨0, A, by omega, rfl, rfl, h, hrow⟩
            case round =>
              clear h hrd h3d hc1 hrow hlA
              obtain ⟨k, A, hk, rfl, rfl, h, hrow⟩ := hrel
              have hc1 : wr.cell? ⟨q, 1, none⟩ = some (.int .i64 gg) := hrow.cell (i := 1) (by omega)
              have hlA := h.ra.len
              by_cases hkN : k < N
              · have hd : decide ((k : Int) < (N : Int)) = true := decide_eq_true (by omega)
                go_wp2_with fail
                refine (Four.put h k false).mono ?_
                rintro e w3 ⟨R3, n3, k3, rfl, hA3, hA3f, h3, m3⟩
                have hn3 : n3 ≤ 900000 := by have h5 := over2_len A k false; rw [hA3.len] at h5; omega
                have r3 := m3.rowIs hrow (h.ra.ne hrow (by decide))
                go_wp2_with fail
                refine (Four.rput h3 hlA k false).mono ?_
                rintro e w4 ⟨R4, n4, k4, rfl, hB4, _, h4, m4⟩
                have hA4 : IsL w4 R3 n3 k3 (over2 A k false) := hA3.keep m4 (fun d hd ht => by have h1 := hA3f d hd; have h2 := h.rx.lt; omega)
                have r4 := m4.rowIs r3 (h3.rx.ne r3 (by decide))
                go_wp2_with fail
                refine (ints_sameM' R3 R4 n3 n4 k3 k4 _ _ hA4 hB4 hn3).mono ?_
                rintro e w5 ⟨rfl, m5⟩
                have h5 := h4.keep0 m5
                have r5 := m5.rowIs r4 (fun h => h)
                generalize put2 A k false = A2 at h5
                clear h3 h4 hrow r3 r4 hA3 hA4 hB4 hc1 m3 m4 m5 h
                go_wp2_with fail
                go_roundw
                case rel => exact ⟨k + 1, A2, by omega, by go_num, rfl, h5, r5⟩
                case measure => simp [intOf]; omega
              · have hd : decide ((k : Int) < (N : Int)) = false := decide_eq_false (by omega)
                go_wp2_with fail
                go_meet
                case rel => exact ⟨rfl, _, _, _, _, _, _, rfl, rfl, rfl, rfl, h⟩
          · clear hc1 hc2 hrd h3d
            go_wp2_with fail
            go_meet
            case rel => exact ⟨rfl, _, _, _, _, _, _, rfl, rfl, rfl, rfl, h.swap⟩
        case rest =>
          obtain ⟨rfl, a, b, x, y, A, B, rfl, rfl, rfl, rfl, h⟩ := hcut
          clear hlA hlB hrow
          have hlA := h.ra.len
          have hlB := h.rb.len
          go_wp2_with fail
          refine (Four.len h).mono ?_
          rintro e w3 ⟨rfl, h3, m3⟩
          go_wp2_with fail
          refine (Four.rall h3 hlA).mono ?_
          rintro e w4 ⟨R4, c4, rfl, _, h4, m4⟩
          generalize len2 A = LA
          go_wp2_with fail
          refine (Four.len h4.swap).mono ?_
          rintro e w5 ⟨rfl, h5, m5⟩
          go_wp2_with fail
          refine (Four.rall h5 hlB).mono ?_
          rintro e w6 ⟨R6, c6, rfl, _, h6, m6⟩
          have h9 := h6.swap
          clear h h3 h4 h5 h6 m3 m4 m5 m6
          go_wp2
          go_roundw
          case rel => first | exact ⟨m + 1, a, b, x, y, A, B, by omega, by omega, rfl, rfl, rfl, rfl, by go_num, h9⟩ | ((repeat apply Exists.intro); exact ⟨⟨m + 1, a, b, x, y, A, B, by omega, by omega, rfl, rfl, rfl, rfl, by go_num, h9⟩, rfl⟩)
          case measure => simp [intOf]; omega
      · obtain rfl : m = 60 := by omega
        have hd1 : decide (60 < n) = true := decide_eq_true hmn
        rw [show ((60 : Nat) : Int) = 60 from rfl]
        go_wp2_with fail
        refine (told10 _).mono ?_
        rintro e w2 ⟨rfl, m2⟩
        have h := h.keep0 m2
        have hlA := h.ra.len
        have hlB := h.rb.len
        have hnA := len2_le A hlA
        have hnB := len2_le B hlB
        go_wp2_with fail
        refine (Four.all h).mono ?_
        rintro e w3 ⟨R3, c3, rfl, hA3, h3, m3⟩
        go_wp2_with fail
        refine (Four.rall h3 hlA).mono ?_
        rintro e w4 ⟨R4, c4, rfl, hA4, h4, m4⟩
        go_wp2_with fail
        refine (ints_sameM' R3 R4 _ _ c3 c4 _ _ (hA3.keep0 m4) hA4 (by omega)).mono ?_
        rintro e w5 ⟨rfl, m5⟩
        have h5 := h4.keep0 m5
        go_wp2_with fail
        refine (Four.all h5.swap).mono ?_
        rintro e w6 ⟨R6, c6, rfl, hA6, h6, m6⟩
        go_wp2_with fail
        refine (Four.rall h6 hlB).mono ?_
        rintro e w7 ⟨R7, c7, rfl, hA7, h7, m7⟩
        go_wp2_with fail
        refine (ints_sameM' R6 R7 _ _ c6 c7 _ _ (hA6.keep0 m7) hA7 (by omega)).mono ?_
        rintro e w8 ⟨rfl, m8⟩
        have h8 := h7.keep0 m8
        clear h h3 h4 h5 h6 h7 hA3 hA4 hA6 hA7 m3 m4 m5 m6 m7 m8
        go_wp2
        go_ret
        exact ⟨rfl, h8.mod⟩
    · obtain rfl : m = n := by omega
      have hd1 : decide (m < m) = false := decide_eq_false (by omega)
      go_wp2_with fail
      refine (told10 _).mono ?_
      rintro e w2 ⟨rfl, m2⟩
      have h := h.keep0 m2
      have hlA := h.ra.len
      have hlB := h.rb.len
      have hnA := len2_le A hlA
      have hnB := len2_le B hlB
      go_wp2_with fail
      refine (Four.all h).mono ?_
      rintro e w3 ⟨R3, c3, rfl, hA3, h3, m3⟩
      go_wp2_with fail
      refine (Four.rall h3 hlA).mono ?_
      rintro e w4 ⟨R4, c4, rfl, hA4, h4, m4⟩
      go_wp2_with fail
      refine (ints_sameM' R3 R4 _ _ c3 c4 _ _ (hA3.keep0 m4) hA4 (by omega)).mono ?_
      rintro e w5 ⟨rfl, m5⟩
      have h5 := h4.keep0 m5
      go_wp2_with fail
      refine (Four.all h5.swap).mono ?_
      rintro e w6 ⟨R6, c6, rfl, hA6, h6, m6⟩
      go_wp2_with fail
      refine (Four.rall h6 hlB).mono ?_
      rintro e w7 ⟨R7, c7, rfl, hA7, h7, m7⟩
      go_wp2_with fail
      refine (ints_sameM' R6 R7 _ _ c6 c7 _ _ (hA6.keep0 m7) hA7 (by omega)).mono ?_
      rintro e w8 ⟨rfl, m8⟩
      have h8 := h7.keep0 m8
      clear h h3 h4 h5 h6 h7 hA3 hA4 hA6 hA7 m3 m4 m5 m6 m7 m8
      go_wp2
      go_ret
      exact ⟨rfl, h8.mod⟩

end Go.Proofs.Ytgojfccaohngaaa
