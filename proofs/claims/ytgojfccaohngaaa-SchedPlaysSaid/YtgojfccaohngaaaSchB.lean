/-
  The contracts of package sched, second part: Where, Drop.
-/
import Derived.Test.YtgojfccaohngaaaSchA
set_option linter.unusedSimpArgs false
namespace Go.Proofs.Ytgojfccaohngaaa
open Go.RowKit

theorem get2_all {E : RM} {x : Int} {L : List Int} (h : all2 E = x :: L) : all2 (get2 E) = L := by
  obtain ⟨row', nxt', e1, e2⟩ := rget_cons E.1 E.2 x L h
  unfold get2 all2
  rw [e1]
  exact e2
section
variable {a : SA} {w : World} {o : Option Nat} {R : Nat → RM} {Q : List Int}
theorem sdrop_no (h : Sch a w o R Q) (p : Int) (hp : p < 0 ∨ (a.ps : Int) ≤ p) :
    Calls Try.prog 48 #[.pointer (some ⟨a.s, 0, none⟩), .int .i64 p] w fun e w' => e = .returned (.int .i64 0) ∧ w' = w := by
  have HP := Lib.hid hp
  clear hp
  go_enter Try.func48, Try.ntmps48
  go_wp2_with fail
  refine (has_no h p HP.out).mono ?_
  rintro e w1 ⟨rfl, hw⟩
  obtain rfl := hw.symm
  go_wp2
  go_ret
  exact ⟨rfl, rfl⟩

set_option maxHeartbeats 1000000 in
theorem sdrop_yes (h : Sch a w o R Q) (p : Nat) (hp : p < a.ps) (hb : Q.length ≤ 800000) :
    Calls Try.prog 48 #[.pointer (some ⟨a.s, 0, none⟩), .int .i64 p] w fun e w' => e = .returned (.int .i64 (len2 (R p))) ∧ To a o w w' (upd R p ([], none)) (Q ++ all2 (R p)) := by
  have hpm := h.most
  have hcap := h.cap
  have hc0 := h.c0
  have hcp := h.ptr p hp
  have hi0 : (0 : Int) ≤ (p : Int) := by omega
  have hi1 : (p : Int) < (a.ps : Int) := by omega
  have hl := h.len p hp
  obtain ⟨N, hN⟩ : ∃ N, N = len2 (R p) := ⟨_, rfl⟩
  rw [← hN] at hl ⊢
  have HN := Lib.hid hN
  clear hN
  go_enter Try.func48, Try.ntmps48
  go_wp2_with fail
  refine (has_yes h p hp).mono ?_
  rintro e w1 ⟨rfl, hw⟩
  obtain rfl := hw.symm
  clear hw
  go_wp2_with fail
  refine (all_any (a.bs p) (R p).1 (R p).2 _ (h.ring p hp)).mono ?_
  rintro e w2 ⟨A, n, c, rfl, hA, hAf, m2⟩
  have e2 : len2 (R p) = n := hA.len
  obtain rfl : n = N := by rw [HN.out, ← e2]
  have hA : IsL w2 A n c (all2 (R p)) := hA
  have hlen : (all2 (R p)).length = n := e2
  have h2 := h.keep0 m2
  have hne : ∀ d, A = some d → ¬ d.block = a.bs p := fun d hd e => by have h1 := hAf d hd; have h2 := (h.ring p hp).lt; omega
  have E2 := Lib.hid e2
  have HL := Lib.hid hlen
  have hstart : Sch a w2 o (upd R p (R p)) Q := h2.congr (fun i _ => by
    by_cases e : i = p
    · rw [e, upd_same]
    · rw [upd_ne _ _ e])
  have ms : Mod (· = a.bs p) w w2 := m2.mono (fun _ _ h => h.elim)
  clear hc0 hcp h2 e2 hlen
  go_wp2_with fail
  go_loopw [20] (fun i wr => ∃ (k : Nat) (E : RM), k ≤ n ∧ i = .int .i64 k ∧ all2 E = (all2 (R p)).drop k ∧ IsL wr A n c (all2 (R p)) ∧ Sch a wr o (upd R p E) Q ∧ Mod (· = a.bs p) w wr) (fun i _ => n - (intOf i).toNat)
  case atStart => exact ⟨0, _, by omega, rfl, rfl, hA, hstart, ms⟩
  case round =>
    clear hstart hA ms
    obtain ⟨k, E, hk, rfl, hE, hA, hS, ms⟩ := hrel
    by_cases hk2 : k < n
    · obtain ⟨x, e1, _, _⟩ := drop_cons (all2 (R p)) (k := k) (by rw [HL.out]; exact hk2)
      have hE2 : all2 (get2 E) = (all2 (R p)).drop (k + 1) := get2_all (hE.trans e1)
      have HE2 := Lib.hid hE2
      clear hE2 hE e1
      have hc0 := hS.c0
      have hcp := hS.ptr p hp
      have hr := hS.ring p hp
      rw [upd_same] at hr
      go_wp2_with fail
      refine (get_any (a.bs p) E.1 E.2 _ hr).mono ?_
      rintro e w3 ⟨rfl, hr3, m3⟩
      have hS3 : Sch a w3 o (upd R p (get2 E)) Q := (hS.onRing hp (E := get2 E) hr3 m3).congr (fun i _ => by
        by_cases e : i = p
        · rw [e, upd_same, upd_same]
        · rw [upd_ne _ _ e, upd_ne _ _ e, upd_ne _ _ e])
      have hA3 : IsL w3 A n c (all2 (R p)) := hA.keep m3 (fun d hd => hne d hd)
      have ms3 := ms.trans m3
      clear hS hA ms hr hr3 m3 hc0 hcp
      go_wp2_with fail
      go_roundw
      case rel => exact ⟨k + 1, _, by omega, by go_num, HE2.out, hA3, hS3, ms3⟩
      case measure => simp [intOf]; omega
    · have hE2 : all2 E = [] := by rw [hE]; exact List.drop_eq_nil_of_le (by rw [HL.out]; omega)
      obtain rfl := all2_nil hE2
      have hc0 := hS.c0
      have hc1 := hS.c1
      clear hE hE2
      go_wp2_with fail
      refine (qput_any a.qb o Q A n c _ _ hS.queue hA (by omega)).mono ?_
      rintro e w4 ⟨rfl, o', hq4, hn4, m4⟩
      have hT : To a o w w4 (upd R p ([], none)) (Q ++ all2 (R p)) := by
        obtain ⟨o2, k1, k2, k3⟩ := hS.queueTo hq4 hn4.new m4
        have := ms.size
        exact ⟨o2, k1, fun i hi => (k2 i hi).imp_right (fun e => by omega), (ms.mono (fun i _ e => .inr (.inr (.inr ⟨p, hp, e⟩)))).trans k3⟩
      clear hS hq4 hn4 m4 hA ms hc0 hc1
      go_wp2
      go_ret
      exact ⟨rfl, hT⟩

theorem swhere_nil (g : Int) (w : World) : Calls Try.prog 42 #[.pointer none, .int .i64 g] w fun e w' => e = .returned (.tuple #[.int .i64 0, .bool false]) ∧ w' = w := by
  go_enter Try.func42, Try.ntmps42
  go_wp2
  go_ret2
  exact ⟨rfl, rfl⟩

set_option maxHeartbeats 1000000 in
theorem swhere_any (h : Sch a w o R Q) (g : Int) (hb : Q.length ≤ 800000) :
    Calls Try.prog 42 #[.pointer (some ⟨a.s, 0, none⟩), .int .i64 g] w fun e w' => e = .returned (.tuple #[.int .i64 (swhere R Q a.ps g).1, .bool (swhere R Q a.ps g).2]) ∧ Mod (fun _ => False) w w' := by
  have hpm := h.most
  have hcap := h.cap
  have hc0 := h.c0
  obtain ⟨V, hV⟩ : ∃ V, V = swhere R Q a.ps g := ⟨_, rfl⟩
  rw [← hV]
  have HV := Lib.hid hV
  clear hV
  go_enter Try.func42, Try.ntmps42
  go_wp2_with fail
  go_loopw [15] (fun i wr => ∃ k : Nat, k ≤ a.ps ∧ i = .int .i64 k ∧ (∀ j, j < k → g ∉ all2 (R j)) ∧ Sch a wr o R Q ∧ Mod (fun _ => False) w wr) (fun i _ => a.ps - (intOf i).toNat)
  case atStart => exact ⟨0, by omega, rfl, (fun j hj => by omega), h, Mod.refl _ _⟩
  case round =>
    clear h hc0
    obtain ⟨k, hk, rfl, hno, h, mr⟩ := hrel
    have hc0 := h.c0
    by_cases hk2 : k < a.ps
    · have hcp := h.ptr k hk2
      have hi0 : (0 : Int) ≤ (k : Int) := by omega
      have hi1 : (k : Int) < (a.ps : Int) := by omega
      have HN := Lib.hid hno
      clear hno
      go_wp2_with fail
      refine (all_any (a.bs k) (R k).1 (R k).2 _ (h.ring k hk2)).mono ?_
      rintro e w3 ⟨A, n, c, rfl, hA, _, m3⟩
      have hA : IsL w3 A n c (all2 (R k)) := hA
      have hn : n ≤ 900000 := by have := hA.len; have := h.len k hk2; rw [← all2_len] at this; omega
      have h3 := h.keep0 m3
      have m4 := mr.trans m3
      clear h hc0 hcp mr m3
      go_wp2_with fail
      refine (contains_any A n c _ g _ hA hn).mono ?_
      rintro e w4 ⟨rfl, hw⟩
      obtain rfl := hw.symm
      clear hw
      by_cases hm : g ∈ all2 (R k)
      · rw [decide_eq_true hm]
        have e := swhere_ring (Q := Q) hk2 hm HN.out
        have HE := Lib.hid e
        clear e hm hA
        go_wp2
        rw [HV.out, HE.out]
        go_ret2
        exact ⟨rfl, m4⟩
      · rw [decide_eq_false hm]
        have hno2 : ∀ j, j < k + 1 → g ∉ all2 (R j) := fun j hj => by
          by_cases e : j = k
          · rw [e]; exact hm
          · exact HN.out j (by omega)
        have HN2 := Lib.hid hno2
        clear hno2 hm hA
        go_wp2
        go_roundw
        case rel => exact ⟨k + 1, by omega, by go_num, HN2.out, h3, m4⟩
        case measure => simp [intOf]; omega
    · have hkp : k = a.ps := by omega
      have e := swhere_queue (R := R) (Q := Q) (ps := a.ps) (g := g) (fun j hj => hno j (by omega))
      have HE := Lib.hid e
      have hc1 := h.c1
      clear hno e hkp
      go_wp2_with fail
      refine (qall_any a.qb o Q _ h.queue (by omega)).mono ?_
      rintro e w3 ⟨A, n, c, rfl, hA, _, m3⟩
      have hn : n ≤ 900000 := by have := hA.len; omega
      have m4 := mr.trans m3
      clear hc0 hc1
      go_wp2_with fail
      refine (contains_any A n c _ g _ hA hn).mono ?_
      rintro e w4 ⟨rfl, hw⟩
      obtain rfl := hw.symm
      clear hw
      by_cases hm : g ∈ Q
      · have e2 : swhere R Q a.ps g = (-1, true) := by rw [HE.out, if_pos hm]
        have HE2 := Lib.hid e2
        rw [decide_eq_true hm]
        clear e2 hm hA
        go_wp2
        rw [HV.out, HE2.out]
        go_ret2
        exact ⟨rfl, m4⟩
      · have e2 : swhere R Q a.ps g = (0, false) := by rw [HE.out, if_neg hm]
        have HE2 := Lib.hid e2
        rw [decide_eq_false hm]
        clear e2 hm hA
        go_wp2
        rw [HV.out, HE2.out]
        go_ret2
        exact ⟨rfl, m4⟩
end

end Go.Proofs.Ytgojfccaohngaaa
