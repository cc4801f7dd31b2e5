/-
  treadmilllaw8.CentralOnce: the walk.
-/
import Derived.Test.YtjjbcfbljnekgaaCOnce
import Derived.Test.YtjjbcfbljnekgaaOps
set_option linter.unusedSimpArgs false
namespace Go.Proofs.Ytjjbcfbljnekgaa
open Go.RowKit

/-- The central, and the ten bools in block r. -/
def CB (W w : World) (z b : Nat) (L : Nat → List Int) (r : Nat) (I : Nat → Bool) : Prop :=
  ∃ S, Cent w S z b L ∧ (∀ i, S i → W.heap.size ≤ i) ∧ ¬ S r ∧ w.rowIs r 4 10 (fun i => .bool (I i)) ∧ W.heap.size ≤ r ∧ Mod (fun _ => False) W w
section
variable {W w w' : World} {z b r : Nat} {L L' : Nat → List Int} {I : Nat → Bool}
theorem CB.mod (h : CB W w z b L r I) : Mod (fun _ => False) W w := by obtain ⟨S, h1, h2, h3, h4, h5, h6⟩ := h; exact h6
theorem CB.keep0 (h : CB W w z b L r I) (m : Mod (fun _ => False) w w') : CB W w' z b L r I := by
  obtain ⟨S, h1, h2, h3, h4, h5, h6⟩ := h
  exact ⟨S, h1.keep0 m, h2, h3, m.rowIs h4 (fun h => h), h5, h6.trans m⟩
theorem CB.step {N : Nat} {args : Array Value} {v : Value} (h : CB W w z b L r I) (hc : ∀ S, Cent w S z b L → Calls Try.prog N args w (CRet w S z b L' v)) : Calls Try.prog N args w (fun e w' => e = .returned v ∧ CB W w' z b L' r I) := by
  obtain ⟨S, h1, h2, h3, h4, h5, h6⟩ := h
  refine (hc S h1).mono ?_
  rintro e w' ⟨he, S', a1, a2, a3⟩
  refine ⟨he, S', a1, fun i hi => ?_, fun hr => ?_, a3.rowIs h4 h3, h5, h6.new a3 h2⟩
  · have := h6.size
    rcases a2 i hi with h7 | h7
    · exact h2 i h7
    · omega
  · rcases a2 r hr with h7 | h7
    · exact h3 h7
    · have := h4.lt
      omega
theorem CB.same {N : Nat} {args : Array Value} {v : Value} (h : CB W w z b L r I) (hc : Calls Try.prog N args w (fun e w' => e = .returned v ∧ Mod (fun _ => False) w w')) : Calls Try.prog N args w (fun e w' => e = .returned v ∧ CB W w' z b L r I) :=
  hc.mono fun _ _ ⟨he, m⟩ => ⟨he, h.keep0 m⟩
theorem CB.set (h : CB W w z b L r I) (k : Nat) (v : Bool) : CB W (w.setCell ⟨r, k, none⟩ (.bool v)) z b L r (upd I k v) := by
  obtain ⟨S, h1, h2, h3, h4, h5, h6⟩ := h
  have ms : Mod (fun i => i = r) w (w.setCell ⟨r, k, none⟩ (.bool v)) := Mod.setCell (Mod.refl (fun i => i = r) w) (p := ⟨r, k, none⟩) (.inl rfl) _
  refine ⟨S, h1.keep ms (fun i hi e => h3 (by rw [← e]; exact hi)), h2, h3, (h4.set k _).congr (fun i hi => ?_), h5, h6.new ms (fun i hi => by rw [hi]; exact h5)⟩
  by_cases e : i = k
  · subst e; simp [upd]
  · simp [upd, e]
theorem CB.cell (h : CB W w z b L r I) {k : Nat} (hk : k < 10) : w.cell? ⟨r, k, none⟩ = some (.bool (I k)) ∧ w.frozen? ⟨r, k, none⟩ = false ∧ r < w.heap.size := by
  obtain ⟨S, h1, h2, h3, h4, h5, h6⟩ := h
  exact ⟨h4.cell hk, h4.frozen k, h4.lt⟩
theorem CB.of (h : CF W w z b L) (cs : Array Value) (hm : cs.size = 10) (hcs : ∀ i, i < 10 → cs[i]? = some (.bool (I i))) : CB W (w.alloc (.cells cs 4)) z b L w.heap.size I := by
  obtain ⟨S, h1, h2, h3⟩ := h
  have ma : Mod (fun _ => False) w (w.alloc (.cells cs 4)) := (Mod.refl _ w).alloc _
  refine ⟨S, h1.keep0 ma, h2, fun hr => ?_, ?_, h3.size, h3.trans ma⟩
  · have := h1.lt _ hr
    omega
  · have := World.rowIs_alloc w cs 4 (fun i => .bool (I i)) (fun i hi => hcs i (by omega))
    rw [hm] at this
    exact this
end

theorem cun_ret {w : World} {S : Nat → Prop} {z b : Nat} {L : Nat → List Int} (hS : Cent w S z b L) (hl : Small L) : Calls Try.prog 40 #[.pointer (some ⟨z, 0, none⟩)] w (CRet w S z b L (.int .i64 (cun L 16))) :=
  (cun_any hS hl).mono fun _ _ ⟨he, m⟩ => ⟨he, S, hS.keep0 m, fun _ hi => .inl hi, m.mono (fun _ _ h => h.elim)⟩

/-- Behind some rounds of Take: nobody yet, or one taken out of its row. -/
def TakeRel (W : World) (z b : Nat) (L : Nat → List Int) (r : Nat) (I : Nat → Bool) (x k i : Value) (w : World) : Prop :=
  (k = .bool false ∧ ∃ q : Nat, q ≤ 16 ∧ i = .int .i64 q ∧ (∃ a : Int, x = .int .i64 a) ∧ CB W w z b L r I) ∨
  (k = .bool true ∧ ∃ (q : Nat) (a : Int) (j : Nat) (l : List Int), q ≤ 16 ∧ i = .int .i64 q ∧ x = .int .i64 a ∧ j < 64 ∧ L j = l ++ [a] ∧ CB W w z b (upd L j l) r I)

theorem false_ten (i : Nat) (hi : i < 10) : (Array.replicate 10 (Value.bool false))[i]? = some (.bool false) := by
  rw [Array.getElem?_replicate, if_pos hi]

set_option maxRecDepth 100000 in
theorem conce_long (A : Option Addr) (n c : Nat) (begin' : Bool) (w : World) (hn : ¬ n ≤ 30) : Calls Try.prog 12 #[.slice A n c, .bool begin'] w fun e w' => e = .returned (.bool true) ∧ Mod (fun _ => False) w w' := by
  have hd : decide (30 < n) = true := decide_eq_true (by omega)
  go_enter Try.func12, Try.ntmps12
  go_wp2_with fail
  refine (told8 _).mono ?_
  rintro e w1 ⟨rfl, m1⟩
  go_wp2
  go_ret
  exact ⟨rfl, m1⟩

set_option maxHeartbeats 4000000 in
set_option maxRecDepth 100000 in
theorem conce_true (A : Option Addr) (n c : Nat) (l : List (Int × Int × Int × Bool)) (begin' : Bool) (w : World) (_ : n ≤ maxLen) (hl : IsO8 w A n l) :
    Calls Try.prog 12 #[.slice A n c, .bool begin'] w fun e w' => e = .returned (.bool true) ∧ Mod (fun _ => False) w w' := by
  by_cases hn : n ≤ 30
  case neg => exact conce_long A n c begin' w hn
  have hd : decide (30 < n) = false := decide_eq_false (by omega)
  have hmk : ∀ W, (Instr.makeSlice 23 (.int .i64 10) (.int .i64 10)).run Try.prog W = .ok (.slice (some ⟨W.heap.size, 0, none⟩) 10 10) (W.alloc (.cells (Array.replicate 10 (Value.bool false)) 4)) := fun _ => by kernel_rfl
  go_enter Try.func12, Try.ntmps12
  go_wp2_with fail
  refine (cf_new w).mono ?_
  rintro e w1 ⟨z, b, rfl, h1⟩
  go_wp2_with fail
  have h2 := CB.of (I := fun _ => false) h1 (Array.replicate 10 (Value.bool false)) (by simp) false_ten
  obtain ⟨r, hr⟩ : ∃ r, r = w1.heap.size := ⟨_, rfl⟩
  rw [← hr] at h2 ⊢
  have hinv := Inv.zero
  clear hr h1 hmk
  go_loopw [7] (fun i wr => ∃ (m : Nat) (L : Nat → List Int) (I : Nat → Bool), m ≤ n ∧ i = .int .i64 m ∧ CB w wr z b L r I ∧ Inv L I) (fun i _ => n - (intOf i).toNat)
  case atStart => exact ⟨0, _, _, by omega, rfl, h2, hinv⟩
  case round =>
    clear h2 hinv
    obtain ⟨m, L, I, hm, rfl, h, hinv⟩ := hrel
    by_cases hmn : m < n
    · obtain ⟨g, o, rfl, hgw, hcw⟩ := hl.2 (by omega)
      obtain ⟨_, hcw1, hcw2, hcw3⟩ := hcw m hmn
      obtain ⟨cl, hcl⟩ : ∃ x, x = (l.getD m (0, 0, 0, false)).2.1 := ⟨_, rfl⟩
      obtain ⟨id, hid⟩ : ∃ x, x = (l.getD m (0, 0, 0, false)).2.2.1 := ⟨_, rfl⟩
      obtain ⟨f, hf⟩ : ∃ x, x = (l.getD m (0, 0, 0, false)).2.2.2 := ⟨_, rfl⟩
      rw [← hcl] at hcw1
      rw [← hid] at hcw2
      rw [← hf] at hcw3
      have hc1 : wr.cell? ⟨g, o + m * 4 + 1, none⟩ = some (.int .i64 cl) := (h.mod.cell (p := ⟨g, o + m * 4 + 1, none⟩) hgw (fun h => h)).trans hcw1
      have hc2 : wr.cell? ⟨g, o + m * 4 + 2, none⟩ = some (.int .i64 id) := (h.mod.cell (p := ⟨g, o + m * 4 + 2, none⟩) hgw (fun h => h)).trans hcw2
      have hc3 : wr.cell? ⟨g, o + m * 4 + 3, none⟩ = some (.bool f) := (h.mod.cell (p := ⟨g, o + m * 4 + 3, none⟩) hgw (fun h => h)).trans hcw3
      obtain ⟨k, hk, ek⟩ := umod id 10 (by omega)
      have ek' : (IntKind.u64.wrap id).tmod 10 = (k : Int) := ek
      obtain ⟨q, hq, eq⟩ := umod cl 16 (by omega)
      have eq' : (IntKind.u64.wrap cl).tmod 16 = (q : Int) := eq
      have hi0 : (0 : Int) ≤ (m : Int) := by omega
      have hi1 : (m : Int) < (n : Int) := by omega
      have hwq : IntKind.i64.wrap (q : Int) = (q : Int) := IntWalk.i64_in _ (by omega)
      clear ek eq hcw hcl hid hf
      go_wp2_with fail
      go_region_held3 (fun W => W.cell? ⟨g, o + m * 4 + 1, none⟩ = some (.int .i64 cl) ∧ W.cell? ⟨g, o + m * 4 + 3, none⟩ = some (.bool f)) (first | (with_reducible exact ⟨t1, t3⟩) | (with_reducible exact ⟨hc1, hc3⟩) | go_keep)
        ((first | (go_at_call 37
                   have key := (h.keep0 ((Mod.refl (fun _ => False) wr).drew)).step (fun S hS => cput_yes q (k : Int) f hS hq hinv.small)
                   (with_reducible refine key.mono ?_)
                   rintro e w3 ⟨rfl, h3⟩
                   have t1 : w3.cell? ⟨g, o + m * 4 + 1, none⟩ = some (.int .i64 cl) := (h3.mod.cell (p := ⟨g, o + m * 4 + 1, none⟩) hgw (fun h => h)).trans hcw1
                   have t3 : w3.cell? ⟨g, o + m * 4 + 3, none⟩ = some (.bool f) := (h3.mod.cell (p := ⟨g, o + m * 4 + 3, none⟩) hgw (fun h => h)).trans hcw3)))
      all_goals (
        have hinv3 := hinv.cput hk hq f
        have hk0 : (0 : Int) ≤ (k : Int) := by omega
        have hk1 : (k : Int) < 10 := by omega
        obtain ⟨hcr, hfr, hrl⟩ := h3.cell (k := k) hk
        have h4 := h3.set k true
        clear hwq hc1 hc2 hc3 t1 t3 h h3 hcw1 hcw2 hcw3 hinv
        go_wp2
        go_roundw
        case rel => exact ⟨m + 1, _, _, by omega, by go_num, h4, hinv3⟩
        case measure => simp [intOf]; omega)
    · obtain rfl : m = n := by omega
      clear hl
      cases begin' with
      | true =>
        go_wp2_with fail
        refine (h.step (fun S hS => cbegin_any hS hinv.small)).mono ?_
        rintro e w2 ⟨rfl, h2⟩
        have hinv2 := hinv.begin
        have hun := cun_begin L 16 (by omega)
        rw [hinv.count] at hun
        have hrows : ∀ j, j < 64 → j % 4 < 2 → cbegL L j = [] := fun j hj h2 => by rw [cbegL_at _ _ hj, if_pos h2]
        generalize cbegL L = L2 at h2 hinv2 hun hrows
        clear h hinv
        go_wp2_with fail
        go_loop [9, 10] (fun s i => ∃ k : Nat, k ≤ 10 ∧ i = .int .i64 k ∧ s = .int .i64 (cnt I k : Int)) (fun _ i => 10 - (intOf i).toNat)
        case atStart => exact ⟨0, by omega, rfl, rfl⟩
        case round =>
          obtain ⟨k, hk, rfl, rfl⟩ := hrel
          by_cases hk2 : k < 10
          · obtain ⟨hcr, hfr, hrl⟩ := h2.cell (k := k) hk2
            have hk0 : (0 : Int) ≤ (k : Int) := by omega
            have hk1 : (k : Int) < 10 := by omega
            have hcl := cnt_le I k
            cases hI : I k with
            | true =>
              rw [hI] at hcr
              have HS := Lib.hid (show cnt I (k + 1) = cnt I k + 1 by rw [cnt, hI]; rfl)
              clear hI
              go_wp2
              go_round
              case rel => exact ⟨k + 1, by omega, by go_num, by rw [HS.out]; simp⟩
              case measure => simp [intOf]; omega
            | false =>
              rw [hI] at hcr
              have HS := Lib.hid (show cnt I (k + 1) = cnt I k by rw [cnt, hI]; rfl)
              clear hI
              go_wp2
              go_round
              case rel => exact ⟨k + 1, by omega, by go_num, by rw [HS.out]⟩
              case measure => simp [intOf]; omega
          · obtain rfl : k = 10 := by omega
            go_wp2_with fail
            refine (h2.step (fun S hS => (cun_any hS hinv2.small).mono fun _ _ ⟨he, m⟩ => (⟨he, S, hS.keep0 m, fun i hi => .inl hi, m.mono (fun _ _ h => h.elim)⟩ : CRet w2 S z b L2 (.int .i64 (cun L2 16)) _ _))).mono ?_
            rintro e w3 ⟨rfl, h3⟩
            rw [hun]
            clear hun h2
            go_wp2_with fail
            go_loopw [11] (fun i wr => ∃ (N : Nat) (L : Nat → List Int) (I : Nat → Bool), i = .int .i64 N ∧ CB w wr z b L r I ∧ Inv L I ∧ N + cnt I 10 ≤ 10 ∧ (∀ j, j < 64 → j % 4 < 2 → L j = [])) (fun i _ => 11 - (intOf i).toNat)
            case atStart => exact ⟨0, _, _, rfl, h3, hinv2, by have := cnt_le I 10; omega, hrows⟩
            case round =>
              clear h3 hinv2 hrows
              obtain ⟨N, L, J, rfl, h, hinv, hN, hrows⟩ := hrel
              have hNle : N ≤ 10 := by omega
              have HN := Lib.hid hN
              clear hN
              go_wp2_with fail
              refine (h.step (fun S hS => cany_any hS hinv.small)).mono ?_
              rintro e w2 ⟨rfl, h2⟩
              rcases cany_cases L with ⟨e1, e2, hno⟩ | ⟨i, x, l2, hi, hx, e1, e2⟩
              · rw [e1, tupA]
                rw [e2] at h2
                have hall : ∀ k, k < 10 → J k = false := fun k hk => hinv.empty (fun j hj => by
                  by_cases e : j % 4 < 2
                  · exact hrows j hj e
                  · have := hno (j / 4 * 2 + j % 2) (by omega)
                    rw [show (j / 4 * 2 + j % 2) / 2 * 4 + 2 + (j / 4 * 2 + j % 2) % 2 = j by omega] at this
                    exact this) k hk
                have HALL := Lib.hid hall
                clear e1 e2 hno hrows h hall
                have h := h2
                clear h2
                go_wp2_with fail
                refine wp_loop_rounds 1 ?_
                rw [rounds_succ]
                go_wp2_with fail
                have hall := HALL.out
                go_loopw [15] (fun i wr => ∃ (k : Nat) (L : Nat → List Int) (I : Nat → Bool), k ≤ 10 ∧ i = .int .i64 k ∧ CB w wr z b L r J ∧ Inv L I ∧ (∀ q, q < 10 → k ≤ q → I q = J q) ∧ (∀ q, q < k → I q = false)) (fun i _ => 10 - (intOf i).toNat)
                case atStart => exact ⟨0, _, _, by omega, rfl, h, hinv, fun _ _ _ => rfl, fun q hq => by omega⟩
                case round =>
                  clear h hinv
                  obtain ⟨k, L, I, hk, rfl, h, hinv, hIJ, hI0⟩ := hrel
                  by_cases hk2 : k < 10
                  · obtain ⟨hcr, hfr, hrl⟩ := h.cell (k := k) hk2
                    have hk0 : (0 : Int) ≤ (k : Int) := by omega
                    have hk1 : (k : Int) < 10 := by omega
                    obtain ⟨hdel, hinv3⟩ := hinv.del hk2
                    rw [hIJ k hk2 (by omega)] at hdel
                    cases hJ : J k with
                    | false =>
                      rw [hJ] at hcr hdel
                      go_wp2_with fail
                      go_region_held3 (fun W => W.cell? ⟨r, k, none⟩ = some (.bool false)) (first | (with_reducible exact t1) | (with_reducible exact hcr) | go_keep)
                        ((first | (go_at_call 39
                                   have key := (h.keep0 ((Mod.refl (fun _ => False) wr).drew)).step (fun S hS => cdel_any (k : Int) hS hinv.small)
                                   rw [hdel] at key
                                   (with_reducible refine key.mono ?_)
                                   rintro e w3 ⟨rfl, h3⟩
                                   have t1 : w3.cell? ⟨r, k, none⟩ = some (.bool false) := by have := (h3.cell (k := k) hk2).1; rw [hJ] at this; exact this)))
                      all_goals (
                        have q1 : ∀ q, q < 10 → k + 1 ≤ q → upd I k false q = J q := fun q hq hq2 => by rw [upd_ne _ _ (by omega)]; exact hIJ q hq (by omega)
                        have q2 : ∀ q, q < k + 1 → upd I k false q = false := fun q hq => by
                          by_cases e : q = k
                          · subst e; rw [upd_same]
                          · rw [upd_ne _ _ e]; exact hI0 q (by omega)
                        have Q1 := Lib.hid q1
                        have Q2 := Lib.hid q2
                        clear q1 q2 hcr t1 h hinv hdel hIJ hI0 hJ
                        go_wp2
                        go_roundw
                        case rel => exact ⟨k + 1, _, _, by omega, by go_num, h3, hinv3, Q1.out, Q2.out⟩
                        case measure => simp [intOf]; omega)
                    | true =>
                      exact absurd hJ (by rw [hall k hk2]; simp)
                  · obtain rfl : k = 10 := by omega
                    have hz : cun L 16 = 0 := by
                      have h1 := cun_le_tot L 16
                      have h2 := cnt_zero (I := I) (k := 10) hI0
                      have h3 := hinv.count
                      omega
                    clear hIJ hI0
                    go_wp2_with fail
                    refine (h.same (told8 _)).mono ?_
                    rintro e w3 ⟨rfl, h3⟩
                    go_wp2_with fail
                    refine (h3.step (fun S hS => cun_ret hS hinv.small)).mono ?_
                    rintro e w4 ⟨rfl, h4⟩
                    rw [hz]
                    clear hz
                    go_wp2
                    go_ret
                    exact ⟨rfl, h4.mod⟩
              · rw [e1, tupA]
                rw [e2] at h2
                obtain ⟨k, hk, rfl, hik, hinv2⟩ := hinv.first (by omega) hx
                have hrows2 : ∀ j, j < 64 → j % 4 < 2 → upd L (i / 2 * 4 + 2 + i % 2) l2 j = [] := fun j hj h3 => by rw [upd_ne _ _ (by omega)]; exact hrows j hj h3
                have hN := HN.out
                clear e1 e2 hrows h hinv hx
                generalize upd L (i / 2 * 4 + 2 + i % 2) l2 = L2 at h2 hinv2 hrows2
                obtain ⟨hcr, hfr, hrl⟩ := h2.cell (k := k) hk
                rw [hik] at hcr
                have hc2 := cnt_upd J k false 10
                rw [if_pos ⟨hk, hik⟩, if_neg (by simp)] at hc2
                have hd1 : decide ((10 : Int) < (N : Int)) = false := decide_eq_false (by omega)
                have hd2 : decide ((k : Int) < 0) = false := decide_eq_false (by omega)
                have hd3 : decide ((9 : Int) < (k : Int)) = false := decide_eq_false (by omega)
                have hk0 : (0 : Int) ≤ (k : Int) := by omega
                have hk1 : (k : Int) < 10 := by omega
                have h5 := h2.set k false
                have HC := Lib.hid hc2
                have hN2 : N + 1 + cnt (upd J k false) 10 ≤ 10 := by omega
                have HN2 := Lib.hid hN2
                clear hik hc2 h2 hN2

                clear hN HN
                go_wp2_with fail
                refine wp_loop_rounds 1 ?_
                rw [rounds_succ]
                go_wp2_with fail
                go_roundw
                case rel => exact ⟨N + 1, _, _, by go_num, h5, hinv2, HN2.out, hrows2⟩
                case measure => simp [intOf]; omega

      | false =>
        go_wp2_with fail
        have hcN := cnt_le I 10
        go_loopw [11] (fun i wr => ∃ (N : Nat) (L : Nat → List Int) (I : Nat → Bool), i = .int .i64 N ∧ CB w wr z b L r I ∧ Inv L I ∧ N + cnt I 10 ≤ 10) (fun i _ => 11 - (intOf i).toNat)
        case atStart => exact ⟨0, _, _, rfl, h, hinv, by omega⟩
        case round =>
          clear h hinv hcN
          obtain ⟨N, L, J, rfl, h, hinv, hN⟩ := hrel
          have hNle : N ≤ 10 := by omega
          have HN := Lib.hid hN
          clear hN
          obtain ⟨wa, rfl⟩ : ∃ wa : World, wa = wr := ⟨_, rfl⟩
          go_wp2_with fail
          go_loopw [12, 13, 14] (fun x k i wr => TakeRel w z b L r J x k i wr) (fun _ _ i _ => 16 - (intOf i).toNat)
          case atStart => exact .inl ⟨rfl, 0, by omega, rfl, ⟨0, rfl⟩, h⟩
          case round =>
            clear h
            rcases hrel with ⟨rfl, q, hq, rfl, ⟨x0, rfl⟩, h⟩ | ⟨rfl, q, k, j, l, hq, rfl, rfl, hj, hx, h⟩
            · by_cases hq2 : q < 16
              · have hqd : decide ((q : Int) < 16) = true := decide_eq_true (by omega)
                go_wp2_with fail
                refine (h.step (fun S hS => ctake_any q hS hq2 hinv.small)).mono ?_
                rintro e w2 ⟨rfl, h2⟩
                rcases ctake_cases L q with ⟨e1, e2, _, _⟩ | ⟨j, rr, x, u, hj, hx, e1, e2⟩
                · rw [e1, tup3]
                  rw [e2] at h2
                  have R := Lib.hid (show TakeRel w z b L r J (.int .i64 0) (.bool false) (.int .i64 ((q + 1 : Nat) : Int)) w2 from .inl ⟨rfl, q + 1, by omega, rfl, ⟨0, rfl⟩, h2⟩)
                  clear e1 e2 h h2
                  go_wp2
                  go_roundw
                  case rel => exact R.out
                  case measure => simp [intOf]; omega
                · rw [e1, tup3]
                  rw [e2] at h2
                  have R := Lib.hid (show TakeRel w z b L r J (.int .i64 x) (.bool true) (.int .i64 ((q + 1 : Nat) : Int)) w2 from .inr ⟨rfl, q + 1, x, j, rr, by omega, rfl, rfl, by omega, hx, h2⟩)
                  clear e1 e2 h h2 hx hj
                  go_wp2
                  go_roundw
                  case rel => exact R.out
                  case measure => simp [intOf]; omega
              · obtain rfl : q = 16 := by omega
                rw [show ((16 : Nat) : Int) = 16 from rfl]
                go_wp2_with fail
                go_loopw [15] (fun i wr => ∃ (k : Nat) (L : Nat → List Int) (I : Nat → Bool), k ≤ 10 ∧ i = .int .i64 k ∧ CB w wr z b L r J ∧ Inv L I ∧ (∀ q, q < 10 → k ≤ q → I q = J q) ∧ (∀ q, q < k → I q = false)) (fun i _ => 10 - (intOf i).toNat)
                case atStart => exact ⟨0, _, _, by omega, rfl, h, hinv, fun _ _ _ => rfl, fun q hq => by omega⟩
                case round =>
                  clear h hinv
                  obtain ⟨k, L, I, hk, rfl, h, hinv, hIJ, hI0⟩ := hrel
                  by_cases hk2 : k < 10
                  · obtain ⟨hcr, hfr, hrl⟩ := h.cell (k := k) hk2
                    have hk0 : (0 : Int) ≤ (k : Int) := by omega
                    have hk1 : (k : Int) < 10 := by omega
                    obtain ⟨hdel, hinv3⟩ := hinv.del hk2
                    rw [hIJ k hk2 (by omega)] at hdel
                    cases hJ : J k with
                    | false =>
                      rw [hJ] at hcr hdel
                      go_wp2_with fail
                      refine wp_region_noPanic ?_
                      refine wp_region_held_drew (S := fun W => W.cell? ⟨r, k, none⟩ = some (.bool false)) (by kernel_rfl) hcr (fun hHeld => ?_)
                      (refine wpAnyH_take (i := 0) (v := ?_) rfl (by kernel_rfl) (by kernel_rfl) (by kernel_rfl) (fun _ _ _ h => h) (Or.inl ⟨by rfl, ?_⟩) (by assumption) ?_; rotate_left; focus (intro wq hSw; (try dsimp only at hSw); go_simp; try with_reducible rfl); try simp only [List.getElem_toArray, List.getElem_cons_succ, List.getElem_cons_zero, Act.put, List.setIfInBounds_toArray, List.set_cons_zero, List.set_cons_succ])
                      (refine wpAnyH_take (i := 1) (v := ?_) rfl (by kernel_rfl) (by kernel_rfl) (by kernel_rfl) (fun _ _ _ h => h) (Or.inl ⟨by rfl, ?_⟩) (by assumption) ?_; rotate_left; focus (intro wq hSw; (try dsimp only at hSw); go_simp; try with_reducible rfl); try simp only [List.getElem_toArray, List.getElem_cons_succ, List.getElem_cons_zero, Act.put, List.setIfInBounds_toArray, List.set_cons_zero, List.set_cons_succ])
                      (refine wpAnyH_take (i := 3) (v := ?_) rfl (by kernel_rfl) (by kernel_rfl) (by kernel_rfl) (fun _ _ _ h => h) (Or.inl ⟨by rfl, ?_⟩) (by assumption) ?_; rotate_left; focus (intro wq hSw; (try dsimp only at hSw); go_simp; try with_reducible rfl); try simp only [List.getElem_toArray, List.getElem_cons_succ, List.getElem_cons_zero, Act.put, List.setIfInBounds_toArray, List.set_cons_zero, List.set_cons_succ])
                      (refine wpAnyH_take (i := 4) (v := ?_) rfl (by kernel_rfl) (by kernel_rfl) (by kernel_rfl) (fun _ _ _ h => h) (Or.inl ⟨by rfl, ?_⟩) (by assumption) ?_; rotate_left; focus (intro wq hSw; (try dsimp only at hSw); go_simp; try with_reducible rfl); try simp only [List.getElem_toArray, List.getElem_cons_succ, List.getElem_cons_zero, Act.put, List.setIfInBounds_toArray, List.set_cons_zero, List.set_cons_succ])
                      (refine wpAnyH_take (i := 5) (v := ?_) rfl (by kernel_rfl) (by kernel_rfl) (by kernel_rfl) (fun _ _ _ h => h) (Or.inl ⟨by rfl, ?_⟩) (by assumption) ?_; rotate_left; focus (intro wq hSw; (try dsimp only at hSw); go_simp; try with_reducible rfl); try simp only [List.getElem_toArray, List.getElem_cons_succ, List.getElem_cons_zero, Act.put, List.setIfInBounds_toArray, List.set_cons_zero, List.set_cons_succ])
                      (refine wpAnyH_take (i := 6) (v := ?_) rfl (by kernel_rfl) (by kernel_rfl) (by kernel_rfl) (fun _ _ _ h => h) (Or.inl ⟨by rfl, ?_⟩) (by assumption) ?_; rotate_left; focus (intro wq hSw; (try dsimp only at hSw); go_simp; try with_reducible rfl); try simp only [List.getElem_toArray, List.getElem_cons_succ, List.getElem_cons_zero, Act.put, List.setIfInBounds_toArray, List.set_cons_zero, List.set_cons_succ])
                      refine wpAnyH_ready (rs := [2]) (by kernel_rfl) (by simp) ?_
                      refine AllReadyH.cons rfl (fun K hK => ?_) AllReadyH.nil
                      go_simp
                      go_at_call 39
                      have key := (h.keep0 ((Mod.refl (fun _ => False) wr).drew)).step (fun S hS => cdel_any (k : Int) hS hinv.small)
                      rw [hdel] at key
                      (with_reducible refine key.mono ?_)
                      rintro e w3 ⟨rfl, h3⟩
                      have t1 : w3.cell? ⟨r, k, none⟩ = some (.bool false) := by have := (h3.cell (k := k) hk2).1; rw [hJ] at this; exact this
                      go_wp2_with fail
                      refine hK.out _ _ t1 (fun hHeld => ?_)
                      clear hK K
                      try simp only [List.getElem_toArray, List.getElem_cons_succ, List.getElem_cons_zero, Act.put, List.setIfInBounds_toArray, List.set_cons_zero, List.set_cons_succ]
                      (refine wpAnyH_take (i := 7) (v := ?_) rfl (by kernel_rfl) (by kernel_rfl) (by kernel_rfl) (fun _ _ _ h => h) (Or.inl ⟨by rfl, ?_⟩) (by assumption) ?_; rotate_left; focus (intro wq hSw; (try dsimp only at hSw); go_simp; try with_reducible rfl); try simp only [List.getElem_toArray, List.getElem_cons_succ, List.getElem_cons_zero, Act.put, List.setIfInBounds_toArray, List.set_cons_zero, List.set_cons_succ])
                      (refine wpAnyH_take (i := 8) (v := ?_) rfl (by kernel_rfl) (by kernel_rfl) (by kernel_rfl) (fun _ _ _ h => h) (Or.inl ⟨by rfl, ?_⟩) (by assumption) ?_; rotate_left; focus (intro wq hSw; (try dsimp only at hSw); go_simp; try with_reducible rfl); try simp only [List.getElem_toArray, List.getElem_cons_succ, List.getElem_cons_zero, Act.put, List.setIfInBounds_toArray, List.set_cons_zero, List.set_cons_succ])
                      (refine wpAnyH_take (i := 9) (v := ?_) rfl (by kernel_rfl) (by kernel_rfl) (by kernel_rfl) (fun _ _ _ h => h) (Or.inl ⟨by rfl, ?_⟩) (by assumption) ?_; rotate_left; focus (intro wq hSw; (try dsimp only at hSw); go_simp; try with_reducible rfl); try simp only [List.getElem_toArray, List.getElem_cons_succ, List.getElem_cons_zero, Act.put, List.setIfInBounds_toArray, List.set_cons_zero, List.set_cons_succ])
                      (refine wpAnyH_take (i := 10) (v := ?_) rfl (by kernel_rfl) (by kernel_rfl) (by kernel_rfl) (fun _ _ _ h => h) (Or.inl ⟨by rfl, ?_⟩) (by assumption) ?_; rotate_left; focus (intro wq hSw; (try dsimp only at hSw); go_simp; try with_reducible rfl); try simp only [List.getElem_toArray, List.getElem_cons_succ, List.getElem_cons_zero, Act.put, List.setIfInBounds_toArray, List.set_cons_zero, List.set_cons_succ])
                      (refine wpAnyH_take (i := 11) (v := undef) rfl (by kernel_rfl) (by kernel_rfl) (by kernel_rfl) (fun _ _ _ h => h) (Or.inr ⟨by rfl, rfl⟩) (by assumption) ?_; try simp only [List.getElem_toArray, List.getElem_cons_succ, List.getElem_cons_zero, Act.put, List.setIfInBounds_toArray, List.set_cons_zero, List.set_cons_succ])
                      (refine wpAnyH_take (i := 12) (v := undef) rfl (by kernel_rfl) (by kernel_rfl) (by kernel_rfl) (fun _ _ _ h => h) (Or.inr ⟨by rfl, rfl⟩) (by assumption) ?_; try simp only [List.getElem_toArray, List.getElem_cons_succ, List.getElem_cons_zero, Act.put, List.setIfInBounds_toArray, List.set_cons_zero, List.set_cons_succ])
                      (refine wpAnyH_take (i := 13) (v := undef) rfl (by kernel_rfl) (by kernel_rfl) (by kernel_rfl) (fun _ _ _ h => h) (Or.inr ⟨by rfl, rfl⟩) (by assumption) ?_; try simp only [List.getElem_toArray, List.getElem_cons_succ, List.getElem_cons_zero, Act.put, List.setIfInBounds_toArray, List.set_cons_zero, List.set_cons_succ])
                      (refine wpAnyH_take (i := 14) (v := undef) rfl (by kernel_rfl) (by kernel_rfl) (by kernel_rfl) (fun _ _ _ h => h) (Or.inr ⟨by rfl, rfl⟩) (by assumption) ?_; try simp only [List.getElem_toArray, List.getElem_cons_succ, List.getElem_cons_zero, Act.put, List.setIfInBounds_toArray, List.set_cons_zero, List.set_cons_succ])
                      (refine wpAnyH_take (i := 15) (v := ?_) rfl (by kernel_rfl) (by kernel_rfl) (by kernel_rfl) (fun _ _ _ h => h) (Or.inl ⟨by rfl, ?_⟩) (by assumption) ?_; rotate_left; focus (intro wq hSw; (try dsimp only at hSw); go_simp; try with_reducible rfl); try simp only [List.getElem_toArray, List.getElem_cons_succ, List.getElem_cons_zero, Act.put, List.setIfInBounds_toArray, List.set_cons_zero, List.set_cons_succ])
                      (refine wpAnyH_take (i := 16) (v := ?_) rfl (by kernel_rfl) (by kernel_rfl) (by kernel_rfl) (fun _ _ _ h => h) (Or.inl ⟨by rfl, ?_⟩) (by assumption) ?_; rotate_left; focus (intro wq hSw; (try dsimp only at hSw); go_simp; try with_reducible rfl); try simp only [List.getElem_toArray, List.getElem_cons_succ, List.getElem_cons_zero, Act.put, List.setIfInBounds_toArray, List.set_cons_zero, List.set_cons_succ])
                      refine wpAnyH_done (by kernel_rfl) ?_ _
                      refine NoPanic.normal ?_
                      all_goals (
                        have q1 : ∀ q, q < 10 → k + 1 ≤ q → upd I k false q = J q := fun q hq hq2 => by rw [upd_ne _ _ (by omega)]; exact hIJ q hq (by omega)
                        have q2 : ∀ q, q < k + 1 → upd I k false q = false := fun q hq => by
                          by_cases e : q = k
                          · subst e; rw [upd_same]
                          · rw [upd_ne _ _ e]; exact hI0 q (by omega)
                        have Q1 := Lib.hid q1
                        have Q2 := Lib.hid q2
                        clear q1 q2 hcr t1 h hinv hdel hIJ hI0 hJ
                        go_wp2
                        go_roundw
                        case rel => exact ⟨k + 1, _, _, by omega, by go_num, h3, hinv3, Q1.out, Q2.out⟩
                        case measure => simp [intOf]; omega)
                    | true =>
                      rw [hJ] at hcr hdel
                      go_wp2_with fail
                      refine wp_region_noPanic ?_
                      refine wp_region_held_drew (S := fun W => W.cell? ⟨r, k, none⟩ = some (.bool true)) (by kernel_rfl) hcr (fun hHeld => ?_)
                      (refine wpAnyH_take (i := 0) (v := ?_) rfl (by kernel_rfl) (by kernel_rfl) (by kernel_rfl) (fun _ _ _ h => h) (Or.inl ⟨by rfl, ?_⟩) (by assumption) ?_; rotate_left; focus (intro wq hSw; (try dsimp only at hSw); go_simp; try with_reducible rfl); try simp only [List.getElem_toArray, List.getElem_cons_succ, List.getElem_cons_zero, Act.put, List.setIfInBounds_toArray, List.set_cons_zero, List.set_cons_succ])
                      (refine wpAnyH_take (i := 1) (v := ?_) rfl (by kernel_rfl) (by kernel_rfl) (by kernel_rfl) (fun _ _ _ h => h) (Or.inl ⟨by rfl, ?_⟩) (by assumption) ?_; rotate_left; focus (intro wq hSw; (try dsimp only at hSw); go_simp; try with_reducible rfl); try simp only [List.getElem_toArray, List.getElem_cons_succ, List.getElem_cons_zero, Act.put, List.setIfInBounds_toArray, List.set_cons_zero, List.set_cons_succ])
                      (refine wpAnyH_take (i := 3) (v := ?_) rfl (by kernel_rfl) (by kernel_rfl) (by kernel_rfl) (fun _ _ _ h => h) (Or.inl ⟨by rfl, ?_⟩) (by assumption) ?_; rotate_left; focus (intro wq hSw; (try dsimp only at hSw); go_simp; try with_reducible rfl); try simp only [List.getElem_toArray, List.getElem_cons_succ, List.getElem_cons_zero, Act.put, List.setIfInBounds_toArray, List.set_cons_zero, List.set_cons_succ])
                      (refine wpAnyH_take (i := 4) (v := ?_) rfl (by kernel_rfl) (by kernel_rfl) (by kernel_rfl) (fun _ _ _ h => h) (Or.inl ⟨by rfl, ?_⟩) (by assumption) ?_; rotate_left; focus (intro wq hSw; (try dsimp only at hSw); go_simp; try with_reducible rfl); try simp only [List.getElem_toArray, List.getElem_cons_succ, List.getElem_cons_zero, Act.put, List.setIfInBounds_toArray, List.set_cons_zero, List.set_cons_succ])
                      (refine wpAnyH_take (i := 5) (v := ?_) rfl (by kernel_rfl) (by kernel_rfl) (by kernel_rfl) (fun _ _ _ h => h) (Or.inl ⟨by rfl, ?_⟩) (by assumption) ?_; rotate_left; focus (intro wq hSw; (try dsimp only at hSw); go_simp; try with_reducible rfl); try simp only [List.getElem_toArray, List.getElem_cons_succ, List.getElem_cons_zero, Act.put, List.setIfInBounds_toArray, List.set_cons_zero, List.set_cons_succ])
                      (refine wpAnyH_take (i := 6) (v := ?_) rfl (by kernel_rfl) (by kernel_rfl) (by kernel_rfl) (fun _ _ _ h => h) (Or.inl ⟨by rfl, ?_⟩) (by assumption) ?_; rotate_left; focus (intro wq hSw; (try dsimp only at hSw); go_simp; try with_reducible rfl); try simp only [List.getElem_toArray, List.getElem_cons_succ, List.getElem_cons_zero, Act.put, List.setIfInBounds_toArray, List.set_cons_zero, List.set_cons_succ])
                      refine wpAnyH_ready (rs := [2]) (by kernel_rfl) (by simp) ?_
                      refine AllReadyH.cons rfl (fun K hK => ?_) AllReadyH.nil
                      go_simp
                      go_at_call 39
                      have key := (h.keep0 ((Mod.refl (fun _ => False) wr).drew)).step (fun S hS => cdel_any (k : Int) hS hinv.small)
                      rw [hdel] at key
                      (with_reducible refine key.mono ?_)
                      rintro e w3 ⟨rfl, h3⟩
                      have t1 : w3.cell? ⟨r, k, none⟩ = some (.bool true) := by have := (h3.cell (k := k) hk2).1; rw [hJ] at this; exact this
                      go_wp2_with fail
                      refine hK.out _ _ t1 (fun hHeld => ?_)
                      clear hK K
                      try simp only [List.getElem_toArray, List.getElem_cons_succ, List.getElem_cons_zero, Act.put, List.setIfInBounds_toArray, List.set_cons_zero, List.set_cons_succ]
                      (refine wpAnyH_take (i := 7) (v := ?_) rfl (by kernel_rfl) (by kernel_rfl) (by kernel_rfl) (fun _ _ _ h => h) (Or.inl ⟨by rfl, ?_⟩) (by assumption) ?_; rotate_left; focus (intro wq hSw; (try dsimp only at hSw); go_simp; try with_reducible rfl); try simp only [List.getElem_toArray, List.getElem_cons_succ, List.getElem_cons_zero, Act.put, List.setIfInBounds_toArray, List.set_cons_zero, List.set_cons_succ])
                      (refine wpAnyH_take (i := 8) (v := ?_) rfl (by kernel_rfl) (by kernel_rfl) (by kernel_rfl) (fun _ _ _ h => h) (Or.inl ⟨by rfl, ?_⟩) (by assumption) ?_; rotate_left; focus (intro wq hSw; (try dsimp only at hSw); go_simp; try with_reducible rfl); try simp only [List.getElem_toArray, List.getElem_cons_succ, List.getElem_cons_zero, Act.put, List.setIfInBounds_toArray, List.set_cons_zero, List.set_cons_succ])
                      (refine wpAnyH_take (i := 9) (v := ?_) rfl (by kernel_rfl) (by kernel_rfl) (by kernel_rfl) (fun _ _ _ h => h) (Or.inl ⟨by rfl, ?_⟩) (by assumption) ?_; rotate_left; focus (intro wq hSw; (try dsimp only at hSw); go_simp; try with_reducible rfl); try simp only [List.getElem_toArray, List.getElem_cons_succ, List.getElem_cons_zero, Act.put, List.setIfInBounds_toArray, List.set_cons_zero, List.set_cons_succ])
                      (refine wpAnyH_take (i := 10) (v := ?_) rfl (by kernel_rfl) (by kernel_rfl) (by kernel_rfl) (fun _ _ _ h => h) (Or.inl ⟨by rfl, ?_⟩) (by assumption) ?_; rotate_left; focus (intro wq hSw; (try dsimp only at hSw); go_simp; try with_reducible rfl); try simp only [List.getElem_toArray, List.getElem_cons_succ, List.getElem_cons_zero, Act.put, List.setIfInBounds_toArray, List.set_cons_zero, List.set_cons_succ])
                      (refine wpAnyH_take (i := 11) (v := undef) rfl (by kernel_rfl) (by kernel_rfl) (by kernel_rfl) (fun _ _ _ h => h) (Or.inr ⟨by rfl, rfl⟩) (by assumption) ?_; try simp only [List.getElem_toArray, List.getElem_cons_succ, List.getElem_cons_zero, Act.put, List.setIfInBounds_toArray, List.set_cons_zero, List.set_cons_succ])
                      (refine wpAnyH_take (i := 12) (v := undef) rfl (by kernel_rfl) (by kernel_rfl) (by kernel_rfl) (fun _ _ _ h => h) (Or.inr ⟨by rfl, rfl⟩) (by assumption) ?_; try simp only [List.getElem_toArray, List.getElem_cons_succ, List.getElem_cons_zero, Act.put, List.setIfInBounds_toArray, List.set_cons_zero, List.set_cons_succ])
                      (refine wpAnyH_take (i := 13) (v := undef) rfl (by kernel_rfl) (by kernel_rfl) (by kernel_rfl) (fun _ _ _ h => h) (Or.inr ⟨by rfl, rfl⟩) (by assumption) ?_; try simp only [List.getElem_toArray, List.getElem_cons_succ, List.getElem_cons_zero, Act.put, List.setIfInBounds_toArray, List.set_cons_zero, List.set_cons_succ])
                      (refine wpAnyH_take (i := 14) (v := undef) rfl (by kernel_rfl) (by kernel_rfl) (by kernel_rfl) (fun _ _ _ h => h) (Or.inr ⟨by rfl, rfl⟩) (by assumption) ?_; try simp only [List.getElem_toArray, List.getElem_cons_succ, List.getElem_cons_zero, Act.put, List.setIfInBounds_toArray, List.set_cons_zero, List.set_cons_succ])
                      (refine wpAnyH_take (i := 15) (v := ?_) rfl (by kernel_rfl) (by kernel_rfl) (by kernel_rfl) (fun _ _ _ h => h) (Or.inl ⟨by rfl, ?_⟩) (by assumption) ?_; rotate_left; focus (intro wq hSw; (try dsimp only at hSw); go_simp; try with_reducible rfl); try simp only [List.getElem_toArray, List.getElem_cons_succ, List.getElem_cons_zero, Act.put, List.setIfInBounds_toArray, List.set_cons_zero, List.set_cons_succ])
                      (refine wpAnyH_take (i := 16) (v := ?_) rfl (by kernel_rfl) (by kernel_rfl) (by kernel_rfl) (fun _ _ _ h => h) (Or.inl ⟨by rfl, ?_⟩) (by assumption) ?_; rotate_left; focus (intro wq hSw; (try dsimp only at hSw); go_simp; try with_reducible rfl); try simp only [List.getElem_toArray, List.getElem_cons_succ, List.getElem_cons_zero, Act.put, List.setIfInBounds_toArray, List.set_cons_zero, List.set_cons_succ])
                      refine wpAnyH_done (by kernel_rfl) ?_ _
                      refine NoPanic.normal ?_
                      all_goals (
                        have q1 : ∀ q, q < 10 → k + 1 ≤ q → upd I k false q = J q := fun q hq hq2 => by rw [upd_ne _ _ (by omega)]; exact hIJ q hq (by omega)
                        have q2 : ∀ q, q < k + 1 → upd I k false q = false := fun q hq => by
                          by_cases e : q = k
                          · subst e; rw [upd_same]
                          · rw [upd_ne _ _ e]; exact hI0 q (by omega)
                        have Q1 := Lib.hid q1
                        have Q2 := Lib.hid q2
                        clear q1 q2 hcr t1 h hinv hdel hIJ hI0 hJ
                        go_wp2
                        go_roundw
                        case rel => exact ⟨k + 1, _, _, by omega, by go_num, h3, hinv3, Q1.out, Q2.out⟩
                        case measure => simp [intOf]; omega)
                  · obtain rfl : k = 10 := by omega
                    have hz : cun L 16 = 0 := by
                      have h1 := cun_le_tot L 16
                      have h2 := cnt_zero (I := I) (k := 10) hI0
                      have h3 := hinv.count
                      omega
                    clear hIJ hI0
                    go_wp2_with fail
                    refine (h.same (told8 _)).mono ?_
                    rintro e w3 ⟨rfl, h3⟩
                    go_wp2_with fail
                    refine (h3.step (fun S hS => cun_ret hS hinv.small)).mono ?_
                    rintro e w4 ⟨rfl, h4⟩
                    rw [hz]
                    clear hz
                    go_wp2
                    go_ret
                    exact ⟨rfl, h4.mod⟩
            · obtain ⟨k, hk, rfl, hik, hinv2⟩ := hinv.last hj hx
              have h2 := h
              have hN := HN.out
              clear h hinv hx
              generalize upd L j l = L2 at h2 hinv2
              obtain ⟨hcr, hfr, hrl⟩ := h2.cell (k := k) hk
              rw [hik] at hcr
              have hc2 := cnt_upd J k false 10
              rw [if_pos ⟨hk, hik⟩, if_neg (by simp)] at hc2
              have hd1 : decide ((10 : Int) < (N : Int)) = false := decide_eq_false (by omega)
              have hd2 : decide ((k : Int) < 0) = false := decide_eq_false (by omega)
              have hd3 : decide ((9 : Int) < (k : Int)) = false := decide_eq_false (by omega)
              have hk0 : (0 : Int) ≤ (k : Int) := by omega
              have hk1 : (k : Int) < 10 := by omega
              have h5 := h2.set k false
              have hN2 : N + 1 + cnt (upd J k false) 10 ≤ 10 := by omega
              have HN2 := Lib.hid hN2
              clear hik hc2 h2 hN2 hN HN
              by_cases hq2 : q < 16
              · have hqd : decide ((q : Int) < 16) = true := decide_eq_true (by omega)
                go_wp2
                go_roundw
                case rel => exact ⟨N + 1, _, _, by go_num, h5, hinv2, HN2.out⟩
                case measure => simp [intOf]; omega
              · have hqd : decide ((q : Int) < 16) = false := decide_eq_false (by omega)
                go_wp2
                go_roundw
                case rel => exact ⟨N + 1, _, _, by go_num, h5, hinv2, HN2.out⟩
                case measure => simp [intOf]; omega

end Go.Proofs.Ytjjbcfbljnekgaa
