/-
  treadmilllaw8.CentralPlays: the walk.
-/
import Derived.Test.YtjjbcfbljnekgaaCPlay
import Derived.Test.YtjjbcfbljnekgaaOps
import Derived.Deep.DeepCutAuto
import Derived.Deep.CutBlock
import Derived.Deep.LoopGhost
set_option linter.unusedSimpArgs false
namespace Go.Proofs.Ytjjbcfbljnekgaa
open Go.RowKit

theorem mod_case (x : Int) (n : Nat) (hn : 0 < n) : ∃ (a : Int) (k : Nat), x.tmod (n : Int) = a ∧ -(n : Int) < a ∧ a < (n : Int) ∧ k < n ∧ (a + (n : Int)).tmod (n : Int) = (k : Int) ∧ (a + (n : Int)) % (n : Int) = (k : Int) := by
  have h1 := Int.tmod_lt_of_pos x (b := (n : Int)) (by omega)
  have h2 : -(n : Int) < x.tmod (n : Int) := by
    have h3 := Int.tmod_lt_of_pos (-x) (b := (n : Int)) (by omega)
    rw [Int.neg_tmod] at h3
    omega
  obtain ⟨a, ha⟩ : ∃ a, a = x.tmod (n : Int) := ⟨_, rfl⟩
  rw [← ha] at h1 h2
  have h4 := Int.emod_nonneg (a + (n : Int)) (b := (n : Int)) (by omega)
  have h5 := Int.emod_lt_of_pos (a + (n : Int)) (b := (n : Int)) (by omega)
  refine ⟨a, ((a + (n : Int)) % (n : Int)).toNat, ha.symm, h2, h1, by omega, ?_, by omega⟩
  rw [Int.tmod_eq_emod_of_nonneg (by omega)]
  omega

def opf (kd cl id : Int) (fl : Bool) : Nat → Value := fun i => if i = 0 then .int .i64 kd else if i = 1 then .int .i64 cl else if i = 2 then .int .i64 id else .bool fl
theorem opf_at (kd cl id : Int) (fl : Bool) : ∀ i, i < (#[Value.int .i64 kd, .int .i64 cl, .int .i64 id, .bool fl] : Array Value).size → (#[Value.int .i64 kd, .int .i64 cl, .int .i64 id, .bool fl] : Array Value)[i]? = some (opf kd cl id fl i) := by
  intro i hi
  have h3 : i = 0 ∨ i = 1 ∨ i = 2 ∨ i = 3 := by simp at hi; omega
  rcases h3 with rfl | rfl | rfl | rfl <;> rfl

set_option maxHeartbeats 16000000 in
set_option maxRecDepth 100000 in
theorem cplays_true (A : Option Addr) (n c : Nat) (l : List (Int × Int × Int × Bool)) (w : World) (_ : n ≤ maxLen) (hl : IsO8 w A n l) :
    Calls Try.prog 11 #[.slice A n c] w fun e w' => e = .returned (.bool true) ∧ Mod (fun _ => False) w w' := by
  go_enter Try.func11, Try.ntmps11
  go_wp2_with fail
  refine (cnew w).mono ?_
  rintro e w1 ⟨z, b, S0, rfl, hq1, hS0, m1⟩
  go_wp2_with fail
  have ma : Mod (fun _ => False) w1 (w1.alloc (.cells (Array.replicate 64 (Value.slice none 0 0)) 74)) := (Mod.refl _ w1).alloc _
  have hr1 : ArrR 64 74 (w1.alloc (.cells (Array.replicate 64 (Value.slice none 0 0)) 74)) (fun i => i = w1.heap.size) w1.heap.size (fun _ => []) := ArrR.new (by decide) w1 _ (by simp) zero_rows
  have h0 : Duo0 w (w1.alloc (.cells (Array.replicate 64 (Value.slice none 0 0)) 74)) (CtP z b (fun _ => [])) (RcP w1.heap.size (fun _ => [])) := by
    refine ⟨_, _, hq1.keep0 ma, hr1, fun i hi => ⟨hS0 i hi, fun e => ?_⟩, fun i hi => by rw [hi]; exact m1.size, m1.trans ma⟩
    have := hq1.lt i hi
    omega
  obtain ⟨r, hr⟩ : ∃ r, r = w1.heap.size := ⟨_, rfl⟩
  rw [← hr] at h0 ⊢
  clear hr hr1 hq1 m1 ma hS0
  go_loopw [5] (fun i wr => ∃ (m : Nat) (L : Nat → List Int), m ≤ n ∧ m ≤ 60 ∧ i = .int .i64 m ∧ Duo0 w wr (CtP z b L) (RcP r L) ∧ tot L 16 ≤ m) (fun i _ => n - (intOf i).toNat)
  case atStart => exact ⟨0, _, by omega, by omega, rfl, h0, by decide⟩
  case round =>
    clear h0
    obtain ⟨m, L, hm, hm6, rfl, h, hlen⟩ := hrel
    by_cases hmn : m < n
    · by_cases hm60 : m < 60
      · obtain ⟨g, o, rfl, hg, hc⟩ := (hl.keep h.mod).2 (by omega)
        obtain ⟨hc0, hc1, hc2, hc3⟩ := hc m hmn
        generalize (l.getD m (0, 0, 0, false)).1 = kd at hc0
        generalize (l.getD m (0, 0, 0, false)).2.1 = cl at hc1
        generalize (l.getD m (0, 0, 0, false)).2.2.1 = id at hc2
        generalize (l.getD m (0, 0, 0, false)).2.2.2 = fl at hc3
        clear hc
        have hd1 : decide (m < n) = true := decide_eq_true hmn
        have hd2 : decide ((m : Int) < 60) = true := decide_eq_true (by omega)
        have hd3 : decide (m < 60) = true := decide_eq_true hm60
        have hi0 : (0 : Int) ≤ (m : Int) := by omega
        have hi1 : (m : Int) < (n : Int) := by omega
        have hq := h.alloc (CtP.good _ _ _) (RcP.good _ _) #[.int .i64 kd, .int .i64 cl, .int .i64 id, .bool fl] 76 (opf kd cl id fl) (opf_at kd cl id fl)
        have hws : Small L := small_of m (by omega) hlen
        obtain ⟨x, k, hx, hx1, hx2, hk, hx3, hx4⟩ := mod_case kd 8 (by omega)
        have hx' : kd.tmod 8 = x := hx
        have hx3' : (x + 8).tmod 8 = (k : Int) := hx3
        have hx4' : (x + 8) % 8 = (k : Int) := hx4
        have hx1' : -8 < x := hx1
        have hx2' : x < 8 := hx2
        clear hx hx3 hx4 hx1 hx2 h
        go_upto_block 2 with (fail)
        generalize hwq : wr.alloc (.cells #[.int .i64 kd, .int .i64 cl, .int .i64 id, .bool fl] 76) = wq at hq ⊢
        generalize hqq : wr.heap.size = q at hq ⊢
        clear hwq hqq
        have hc1 : wq.cell? ⟨q, 1, none⟩ = some (.int .i64 cl) := hq.row.cell (i := 1) (by simp)
        have hc2 : wq.cell? ⟨q, 2, none⟩ = some (.int .i64 id) := hq.row.cell (i := 2) (by simp)
        have hc3 : wq.cell? ⟨q, 3, none⟩ = some (.bool fl) := hq.row.cell (i := 3) (by simp)
        clear hx' hx3' hx4' hx1' hx2' hc0
        go_cut [7] (fun s7 wx => s7 = .bool true ∧ ∃ L2, Duo w wx (CtP z b L2) (RcP r L2) q 76 4 (opf kd cl id fl) ∧ tot L2 16 ≤ m + 1)
        case first =>
          have hks : k = 0 ∨ k = 1 ∨ k = 2 ∨ k = 3 ∨ k = 4 ∨ k = 5 ∨ k = 6 ∨ k = 7 := by omega
          rcases hks with rfl | rfl | rfl | rfl | rfl | rfl | rfl | rfl
          · go_wp2_with fail
            refine (hq.prog (RcP.good _ _) (fun S hS => ct_put hS hws cl id fl)).mono ?_
            rintro e w3 ⟨rfl, h3⟩
            have t1 : w3.cell? ⟨q, 1, none⟩ = some (.int .i64 cl) := h3.row.cell (i := 1) (by simp)
            have t2 : w3.cell? ⟨q, 2, none⟩ = some (.int .i64 id) := h3.row.cell (i := 2) (by simp)
            have t3 : w3.cell? ⟨q, 3, none⟩ = some (.bool fl) := h3.row.cell (i := 3) (by simp)
            go_wp2_with fail
            refine (h3.refer (CtP.good _ _ _) (fun T hT => rc_put hT hws cl id fl)).mono ?_
            rintro e w4 ⟨rfl, h4⟩
            have hlen2 : tot (pPut L cl id fl) 16 ≤ m + 1 := by have h1 := tot_put L cl id fl; omega
            generalize pPut L cl id fl = L2 at h4 hlen2
            clear t1 t2 t3 h3 hq hlen hws
            go_wp2_with fail
            go_meet
            case rel => exact ⟨rfl, _, h4, hlen2⟩
          · go_wp2_with fail
            refine (hq.prog (RcP.good _ _) (fun S hS => ct_put hS hws cl id fl)).mono ?_
            rintro e w3 ⟨rfl, h3⟩
            have t1 : w3.cell? ⟨q, 1, none⟩ = some (.int .i64 cl) := h3.row.cell (i := 1) (by simp)
            have t2 : w3.cell? ⟨q, 2, none⟩ = some (.int .i64 id) := h3.row.cell (i := 2) (by simp)
            have t3 : w3.cell? ⟨q, 3, none⟩ = some (.bool fl) := h3.row.cell (i := 3) (by simp)
            go_wp2_with fail
            refine (h3.refer (CtP.good _ _ _) (fun T hT => rc_put hT hws cl id fl)).mono ?_
            rintro e w4 ⟨rfl, h4⟩
            have hlen2 : tot (pPut L cl id fl) 16 ≤ m + 1 := by have h1 := tot_put L cl id fl; omega
            generalize pPut L cl id fl = L2 at h4 hlen2
            clear t1 t2 t3 h3 hq hlen hws
            go_wp2_with fail
            go_meet
            case rel => exact ⟨rfl, _, h4, hlen2⟩
          · go_wp2_with fail
            refine (hq.prog (RcP.good _ _) (fun S hS => ct_put hS hws cl id fl)).mono ?_
            rintro e w3 ⟨rfl, h3⟩
            have t1 : w3.cell? ⟨q, 1, none⟩ = some (.int .i64 cl) := h3.row.cell (i := 1) (by simp)
            have t2 : w3.cell? ⟨q, 2, none⟩ = some (.int .i64 id) := h3.row.cell (i := 2) (by simp)
            have t3 : w3.cell? ⟨q, 3, none⟩ = some (.bool fl) := h3.row.cell (i := 3) (by simp)
            go_wp2_with fail
            refine (h3.refer (CtP.good _ _ _) (fun T hT => rc_put hT hws cl id fl)).mono ?_
            rintro e w4 ⟨rfl, h4⟩
            have hlen2 : tot (pPut L cl id fl) 16 ≤ m + 1 := by have h1 := tot_put L cl id fl; omega
            generalize pPut L cl id fl = L2 at h4 hlen2
            clear t1 t2 t3 h3 hq hlen hws
            go_wp2_with fail
            go_meet
            case rel => exact ⟨rfl, _, h4, hlen2⟩
          · go_wp2_with fail
            refine (hq.prog (RcP.good _ _) (fun S hS => ct_take hS hws cl)).mono ?_
            rintro e w3 ⟨rfl, h3⟩
            have t1 : w3.cell? ⟨q, 1, none⟩ = some (.int .i64 cl) := h3.row.cell (i := 1) (by simp)
            have t2 : w3.cell? ⟨q, 2, none⟩ = some (.int .i64 id) := h3.row.cell (i := 2) (by simp)
            have t3 : w3.cell? ⟨q, 3, none⟩ = some (.bool fl) := h3.row.cell (i := 3) (by simp)
            generalize hV : pTakeV L cl = V
            obtain ⟨x1, x2, x3⟩ := V
            have HV := Lib.hid hV
            clear hV
            rw [show tup3 (x1, x2, x3) = .tuple #[.int .i64 x1, .bool x2, .bool x3] from rfl]
            go_wp2_with fail
            refine (h3.refer (CtP.good _ _ _) (fun T hT => rc_take hT hws cl)).mono ?_
            rintro e w4 ⟨rfl, h4⟩
            rw [HV.out]
            rw [show tup3 (x1, x2, x3) = .tuple #[.int .i64 x1, .bool x2, .bool x3] from rfl]
            have hlen2 : tot (pTakeL L cl) 16 ≤ m + 1 := by have h1 := tot_take L cl; omega
            generalize pTakeL L cl = L2 at h4 hlen2
            clear t1 t2 t3 h3 hq hlen hws
            cases x2 <;> cases x3 <;> (
              go_wp2_with fail
              go_meet
              case rel => exact ⟨rfl, _, h4, hlen2⟩)
          · go_wp2_with fail
            refine (hq.prog (RcP.good _ _) (fun S hS => ct_full hS hws cl)).mono ?_
            rintro e w3 ⟨rfl, h3⟩
            have t1 : w3.cell? ⟨q, 1, none⟩ = some (.int .i64 cl) := h3.row.cell (i := 1) (by simp)
            have t2 : w3.cell? ⟨q, 2, none⟩ = some (.int .i64 id) := h3.row.cell (i := 2) (by simp)
            have t3 : w3.cell? ⟨q, 3, none⟩ = some (.bool fl) := h3.row.cell (i := 3) (by simp)
            generalize hV : pFullV L cl = V
            obtain ⟨x1, x2⟩ := V
            have HV := Lib.hid hV
            clear hV
            rw [show tup2 (x1, x2) = .tuple #[.int .i64 x1, .bool x2] from rfl]
            go_wp2_with fail
            refine (h3.refer (CtP.good _ _ _) (fun T hT => rc_full hT hws cl)).mono ?_
            rintro e w4 ⟨rfl, h4⟩
            rw [HV.out]
            rw [show tup2 (x1, x2) = .tuple #[.int .i64 x1, .bool x2] from rfl]
            have hlen2 : tot (pFullL L cl) 16 ≤ m + 1 := by have h1 := tot_full L cl; omega
            generalize pFullL L cl = L2 at h4 hlen2
            clear t1 t2 t3 h3 hq hlen hws
            cases x2 <;> (
              go_wp2_with fail
              go_meet
              case rel => exact ⟨rfl, _, h4, hlen2⟩)
          · go_wp2_with fail
            refine (hq.prog (RcP.good _ _) (fun S hS => ct_begin hS hws)).mono ?_
            rintro e w3 ⟨rfl, h3⟩
            have t1 : w3.cell? ⟨q, 1, none⟩ = some (.int .i64 cl) := h3.row.cell (i := 1) (by simp)
            have t2 : w3.cell? ⟨q, 2, none⟩ = some (.int .i64 id) := h3.row.cell (i := 2) (by simp)
            have t3 : w3.cell? ⟨q, 3, none⟩ = some (.bool fl) := h3.row.cell (i := 3) (by simp)
            go_wp2_with fail
            refine (h3.refer (CtP.good _ _ _) (fun T hT => rc_begin hT hws)).mono ?_
            rintro e w4 ⟨rfl, h4⟩
            have hlen2 : tot (cbegL L) 16 ≤ m + 1 := by have h1 := tot_begin L 16 (by omega); omega
            generalize cbegL L = L2 at h4 hlen2
            clear t1 t2 t3 h3 hq hlen hws
            go_wp2_with fail
            go_meet
            case rel => exact ⟨rfl, _, h4, hlen2⟩
          · go_wp2_with fail
            refine (hq.prog (RcP.good _ _) (fun S hS => ct_any hS hws)).mono ?_
            rintro e w3 ⟨rfl, h3⟩
            have t1 : w3.cell? ⟨q, 1, none⟩ = some (.int .i64 cl) := h3.row.cell (i := 1) (by simp)
            have t2 : w3.cell? ⟨q, 2, none⟩ = some (.int .i64 id) := h3.row.cell (i := 2) (by simp)
            have t3 : w3.cell? ⟨q, 3, none⟩ = some (.bool fl) := h3.row.cell (i := 3) (by simp)
            generalize hV : canyV L 32 0 = V
            obtain ⟨x1, x2, x3⟩ := V
            have HV := Lib.hid hV
            clear hV
            rw [show tupA (x1, x2, x3) = .tuple #[.int .i64 x1, .int .i64 x2, .bool x3] from rfl]
            go_wp2_with fail
            refine (h3.refer (CtP.good _ _ _) (fun T hT => rc_any hT hws)).mono ?_
            rintro e w4 ⟨rfl, h4⟩
            rw [HV.out]
            rw [show tupA (x1, x2, x3) = .tuple #[.int .i64 x1, .int .i64 x2, .bool x3] from rfl]
            have hlen2 : tot (canyL L 32 0) 16 ≤ m + 1 := by have h1 := tot_any L; omega
            generalize canyL L 32 0 = L2 at h4 hlen2
            clear t1 t2 t3 h3 hq hlen hws
            cases x3 <;> (
              go_wp2_with fail
              go_meet
              case rel => exact ⟨rfl, _, h4, hlen2⟩)
          · go_wp2_with fail
            go_region_held3 (fun W => W.cell? ⟨q, 2, none⟩ = some (.int .i64 id)) (first | (with_reducible exact s2) | (with_reducible exact t2) | (with_reducible exact hc2) | go_keep)
              (first
                | (go_at_call 50
                   have key := h3.refer (CtP.good _ _ _) (fun T hT => rc_del hT hws id)
                   (with_reducible refine key.mono ?_)
                   rintro e w4 ⟨rfl, h4⟩
                   have s2 : w4.cell? ⟨q, 2, none⟩ = some (.int .i64 id) := h4.row.cell (i := 2) (by simp))
                | (go_at_call 39
                   have key := (hq.keep0 (CtP.good _ _ _) (RcP.good _ _) ((Mod.refl (fun _ => False) wq).drew)).prog (RcP.good _ _) (fun S hS => ct_del hS hws id)
                   (with_reducible refine key.mono ?_)
                   rintro e w3 ⟨rfl, h3⟩
                   have t2 : w3.cell? ⟨q, 2, none⟩ = some (.int .i64 id) := h3.row.cell (i := 2) (by simp)))
            all_goals (
              have hlen2 : tot (cdelL L id) 16 ≤ m + 1 := by have h1 := tot_del L id; omega
              generalize cdelL L id = L2 at h4 hlen2
              generalize cdelB L id = V
              clear t2 h3 hq hlen hws s2
              cases V <;> (
                go_wp2_with fail
                go_meet
                case rel => exact ⟨rfl, _, h4, hlen2⟩))
        case rest =>
          obtain ⟨rfl, L2, h4, hlen2⟩ := hcut
          have hws2 : Small L2 := small_of (m + 1) (by omega) hlen2
          clear hq hc1 hc2 hc3 hlen hws
          go_wp2_with fail
          obtain ⟨S1, hS1⟩ := h4.own
          refine (ct_un hS1 hws2).mono ?_
          rintro e w5 ⟨rfl, m5⟩
          have h5 := h4.keep0 (CtP.good _ _ _) (RcP.good _ _) m5
          go_wp2_with fail
          obtain ⟨T1, hT1⟩ := h5.ref
          refine (rc_un hT1 hws2).mono ?_
          rintro e w6 ⟨rfl, m6⟩
          have h6 := (h5.keep0 (CtP.good _ _ _) (RcP.good _ _) m6).drop
          clear h4 h5 hS1 hT1 m5 m6
          go_wp2
          go_roundw
          case rel => first | exact ⟨m + 1, _, by omega, by omega, by go_num, h6, hlen2⟩ | ((repeat apply Exists.intro); exact ⟨⟨m + 1, _, by omega, by omega, by go_num, h6, hlen2⟩, rfl⟩)
          case measure => simp [intOf]; omega
      · obtain rfl : m = 60 := by omega
        have hd1 : decide (60 < n) = true := decide_eq_true hmn
        rw [show ((60 : Nat) : Int) = 60 from rfl]
        go_wp2_with fail
        refine (told8 _).mono ?_
        rintro e w2 ⟨rfl, m2⟩
        go_wp2
        go_ret
        exact ⟨rfl, h.mod.trans m2⟩
    · obtain rfl : m = n := by omega
      have hd1 : decide (m < m) = false := decide_eq_false (by omega)
      go_wp2_with fail
      refine (told8 _).mono ?_
      rintro e w2 ⟨rfl, m2⟩
      go_wp2
      go_ret
      exact ⟨rfl, h.mod.trans m2⟩

end Go.Proofs.Ytjjbcfbljnekgaa
