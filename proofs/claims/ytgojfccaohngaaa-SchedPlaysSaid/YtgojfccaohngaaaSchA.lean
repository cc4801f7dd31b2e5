/-
  The contracts of package sched: Ready, Global, Local, Common, Where, Len, Drop.
-/
import Derived.Test.YtgojfccaohngaaaSch
import Derived.Deep.RegionHeld3
set_option linter.unusedSimpArgs false
namespace Go.Proofs.Ytgojfccaohngaaa
open Go.RowKit

/-- Where a goroutine is. -/
def swhere (R : Nat → RM) (Q : List Int) (ps : Nat) (g : Int) : Int × Bool :=
  match (List.range ps).find? (fun i => decide (g ∈ all2 (R i))) with
  | some i => ((i : Int), true)
  | none => if g ∈ Q then (-1, true) else (0, false)
theorem swhere_ring {R : Nat → RM} {Q : List Int} {ps : Nat} {g : Int} {k : Nat} (hk : k < ps) (hm : g ∈ all2 (R k)) (h : ∀ j, j < k → g ∉ all2 (R j)) : swhere R Q ps g = ((k : Int), true) := by
  have e : (List.range ps).find? (fun i => decide (g ∈ all2 (R i))) = some k := by
    rw [List.find?_range_eq_some]
    exact ⟨by simpa using hm, by simpa using hk, fun j hj => by simpa using h j hj⟩
  unfold swhere
  rw [e]
theorem swhere_queue {R : Nat → RM} {Q : List Int} {ps : Nat} {g : Int} (h : ∀ j, j < ps → g ∉ all2 (R j)) : swhere R Q ps g = if g ∈ Q then (-1, true) else (0, false) := by
  have e : (List.range ps).find? (fun i => decide (g ∈ all2 (R i))) = none := by
    rw [List.find?_range_eq_none]
    exact fun j hj => by simpa using h j hj
  unfold swhere
  rw [e]
theorem all2_nil {E : RM} (h : all2 E = []) : E = ([], none) := by
  obtain ⟨r, n⟩ := E
  cases n with
  | some g => simp [all2] at h
  | none => simp [all2] at h; rw [h]
theorem all2_len (E : RM) : (all2 E).length = len2 E := rfl
theorem sumR_le {R : Nat → RM} {n : Nat} (h : ∀ i, i < n → len2 (R i) ≤ 257) : sumR R n ≤ 257 * n := by
  induction n with
  | zero => simp [sumR]
  | succ n ih =>
    have h1 := ih (fun i hi => h i (by omega))
    have h2 := h n (by omega)
    simp only [sumR]
    omega

section
variable {a : SA} {w : World} {o : Option Nat} {R : Nat → RM} {Q : List Int}
theorem Sch.len (h : Sch a w o R Q) : ∀ i, i < a.ps → len2 (R i) ≤ 257 := fun i hi => len2_le _ (h.ring i hi).len
theorem To.two {w3 w4 : World} {o' : Option Nat} {Q' : List Int} (h : Sch a w o R Q) {k : Nat} (hk : k < a.ps) {E : RM} (r : Ring w3 (a.bs k) E.1 E.2) (m3 : Mod (· = a.bs k) w w3) (q : Queue w4 a.qb o' Q') (hn : Newer w3 o o') (m4 : Mod (QS a.qb o) w3 w4) :
    To a o w w4 (upd R k E) Q' :=
  ⟨o', (h.onRing hk r m3).onQueue q m4, fun k hk => (hn.new k hk).imp_right (Nat.le_trans m3.size), (m3.mono (fun i _ e => .inr (.inr (.inr ⟨k, hk, e⟩)))).trans' m4 (fun i _ e => .inr (.inr (.inl e)))⟩

theorem sready_no (h : Sch a w o R Q) (p : Int) (hp : p < 0 ∨ (a.ps : Int) ≤ p) (g : Int) (next : Bool) :
    Calls Try.prog 41 #[.pointer (some ⟨a.s, 0, none⟩), .int .i64 p, .int .i64 g, .bool next] w fun e w' => e = .returned (.int .i64 1) ∧ w' = w := by
  have HP := Lib.hid hp
  clear hp
  go_enter Try.func41, Try.ntmps41
  go_wp2_with fail
  refine (has_no h p HP.out).mono ?_
  rintro e w1 ⟨rfl, hw⟩
  obtain rfl := hw.symm
  go_wp2
  go_ret
  exact ⟨rfl, rfl⟩

set_option maxHeartbeats 1000000 in
theorem sready_yes (h : Sch a w o R Q) (p : Nat) (hp : p < a.ps) (g : Int) (next : Bool) (hb : Q.length ≤ 800000) :
    Calls Try.prog 41 #[.pointer (some ⟨a.s, 0, none⟩), .int .i64 p, .int .i64 g, .bool next] w fun e w' => e = .returned (.int .i64 0) ∧ To a o w w' (ready R p g next) (readyQ R Q p g next) := by
  have hpm := h.most
  have hcap := h.cap
  have hc0 := h.c0
  have hc1 := h.c1
  have hcp := h.ptr p hp
  have hi0 : (0 : Int) ≤ (p : Int) := by omega
  have hi1 : (p : Int) < (a.ps : Int) := by omega
  have hd : Sch a w.drew o R Q := h.keep0 ((Mod.refl _ w).drew)
  go_enter Try.func41, Try.ntmps41
  go_wp2_with fail
  refine (has_yes h p hp).mono ?_
  rintro e w1 ⟨rfl, hw⟩
  obtain rfl := hw.symm
  clear hw
  go_wp2_with fail
  go_region_held3 (fun W => W.cell? ⟨a.s, 0, none⟩ = some (.slice (some ⟨a.g, 0, none⟩) a.ps a.c) ∧ W.cell? ⟨a.s, 1, none⟩ = some (.pointer (some ⟨a.qb, 0, none⟩)) ∧ W.cell? ⟨a.g, p, none⟩ = some (.pointer (some ⟨a.bs p, 0, none⟩)))
    (first | (with_reducible exact ⟨u0, u1, u2⟩) | (with_reducible exact ⟨t0, t1, t2⟩) | (with_reducible exact ⟨hc0, hc1, hcp⟩) | go_keep)
    (first
      | (go_at_call 17
         have _t := hA3
         refine (qput_any a.qb o Q A3 n3 k3 _ _ h3.queue hA3 (by omega)).mono ?_
         rintro e w4 ⟨rfl, o', hq4, hn4, m4⟩
         have h4 := h3.onQueue hq4 m4
         have u0 := h4.c0
         have u1 := h4.c1
         have u2 := h4.ptr p hp)
      | (go_at_call 22
         refine (put_any (a.bs p) g next (R p).1 (R p).2 _ (hd.ring p hp)).mono ?_
         rintro e w3 ⟨A3, n3, k3, rfl, hr3, hA3, _, m3⟩
         have h3 : Sch a w3 o (ready R p g next) Q := hd.onRing hp (E := put2 (R p) g next) hr3 m3
         have hn3 : n3 ≤ 129 := by rw [← hA3.len]; exact over2_len (R p) g next
         have t0 := h3.c0
         have t1 := h3.c1
         have t2 := h3.ptr p hp))
  all_goals (
    go_wp2
    go_ret
    exact ⟨rfl, To.ahead (w1 := w.drew) (To.two hd hp hr3 m3 hq4 hn4 m4) ((Mod.refl _ w).drew)⟩)

theorem sglobal (h : Sch a w o R Q) (g : Int) (hb : Q.length ≤ 800000) :
    Calls Try.prog 46 #[.pointer (some ⟨a.s, 0, none⟩), .int .i64 g] w fun e w' => e = .returned (.tuple #[]) ∧ To a o w w' R (Q ++ [g]) := by
  have hc1 := h.c1
  have ma : Mod (fun _ => False) w (w.alloc (.cells #[.int .i64 g] 3)) := (Mod.refl _ w).alloc _
  go_enter Try.func46, Try.ntmps46
  go_wp2_with fail
  refine (qput_any a.qb o Q _ 1 1 [g] _ (h.keep0 ma).queue (IsL.one w g) (by omega)).mono ?_
  rintro e w4 ⟨rfl, o', hq4, hn4, m4⟩
  go_wp2
  go_end0
  exact ⟨rfl, To.ahead ((h.keep0 ma).queueTo hq4 hn4.new m4) ma⟩

theorem slocal_no (h : Sch a w o R Q) (p : Int) (hp : p < 0 ∨ (a.ps : Int) ≤ p) :
    Calls Try.prog 47 #[.pointer (some ⟨a.s, 0, none⟩), .int .i64 p] w fun e w' => e = .returned (.slice none 0 0) ∧ w' = w := by
  have HP := Lib.hid hp
  clear hp
  go_enter Try.func47, Try.ntmps47
  go_wp2_with fail
  refine (has_no h p HP.out).mono ?_
  rintro e w1 ⟨rfl, hw⟩
  obtain rfl := hw.symm
  go_wp2
  go_ret
  exact ⟨rfl, rfl⟩
theorem slocal_yes (h : Sch a w o R Q) (p : Nat) (hp : p < a.ps) :
    Calls Try.prog 47 #[.pointer (some ⟨a.s, 0, none⟩), .int .i64 p] w fun e w' => ∃ A c, e = .returned (.slice A (len2 (R p)) c) ∧ IsL w' A (len2 (R p)) c (all2 (R p)) ∧ Mod (fun _ => False) w w' := by
  have hpm := h.most
  have hcap := h.cap
  have hc0 := h.c0
  have hcp := h.ptr p hp
  have hi0 : (0 : Int) ≤ (p : Int) := by omega
  have hi1 : (p : Int) < (a.ps : Int) := by omega
  go_enter Try.func47, Try.ntmps47
  go_wp2_with fail
  refine (has_yes h p hp).mono ?_
  rintro e w1 ⟨rfl, hw⟩
  obtain rfl := hw.symm
  clear hw
  go_wp2_with fail
  refine (all_any (a.bs p) (R p).1 (R p).2 _ (h.ring p hp)).mono ?_
  rintro e w2 ⟨A, n, c, rfl, h1, _, h3⟩
  have e2 : len2 (R p) = n := h1.len
  subst e2
  go_wp2
  go_ret
  exact ⟨A, c, rfl, h1, h3⟩

theorem scommon_nil (w : World) : Calls Try.prog 49 #[.pointer none] w fun e w' => e = .returned (.slice none 0 0) ∧ w' = w := by
  go_enter Try.func49, Try.ntmps49
  go_wp2
  go_ret
  exact ⟨rfl, rfl⟩
theorem scommon (h : Sch a w o R Q) (hb : Q.length ≤ 800000) :
    Calls Try.prog 49 #[.pointer (some ⟨a.s, 0, none⟩)] w fun e w' => ∃ A c, e = .returned (.slice A Q.length c) ∧ IsL w' A Q.length c Q ∧ Mod (fun _ => False) w w' := by
  have hc1 := h.c1
  go_enter Try.func49, Try.ntmps49
  go_wp2_with fail
  refine (qall_any a.qb o Q _ h.queue (by omega)).mono ?_
  rintro e w2 ⟨A, n, c, rfl, h1, _, h3⟩
  have e2 : Q.length = n := h1.len
  subst e2
  go_wp2
  go_ret
  exact ⟨A, c, rfl, h1, h3⟩

theorem slen_nil (w : World) : Calls Try.prog 44 #[.pointer none] w fun e w' => e = .returned (.int .i64 0) ∧ w' = w := by
  go_enter Try.func44, Try.ntmps44
  go_wp2_with fail
  refine (scommon_nil _).mono ?_
  rintro e w1 ⟨rfl, hw⟩
  obtain rfl := hw.symm
  go_wp2
  go_ret
  exact ⟨rfl, rfl⟩

set_option maxHeartbeats 400000 in
theorem slen (h : Sch a w o R Q) (hb : Q.length ≤ 800000) :
    Calls Try.prog 44 #[.pointer (some ⟨a.s, 0, none⟩)] w fun e w' => e = .returned (.int .i64 ((Q.length + sumR R a.ps : Nat) : Int)) ∧ Mod (fun _ => False) w w' := by
  have hpm := h.most
  have hcap := h.cap
  have hlen := h.len
  have HL := Lib.hid hlen
  clear hlen
  go_enter Try.func44, Try.ntmps44
  go_wp2_with fail
  refine (scommon h hb).mono ?_
  rintro e w2 ⟨A, c, rfl, _, m2⟩
  have h2 := h.keep0 m2
  have hc0 := h2.c0
  clear h
  generalize hQ : Q.length = L at hb
  have HQ := Lib.hid hQ
  clear hQ
  go_wp2_with fail
  go_loopw [3, 16] (fun v i wr => ∃ k : Nat, k ≤ a.ps ∧ i = .int .i64 k ∧ v = .int .i64 ((L + sumR R k : Nat) : Int) ∧ Sch a wr o R Q ∧ Mod (fun _ => False) w wr) (fun _ i _ => a.ps - (intOf i).toNat)
  case atStart => exact ⟨0, by omega, rfl, by simp [sumR], h2, m2⟩
  case round =>
    clear h2 hc0
    obtain ⟨k, hk, rfl, rfl, h2, mr⟩ := hrel
    have hc0 := h2.c0
    have hs : sumR R k ≤ 257 * k := sumR_le (fun i hi => HL.out i (by omega))
    generalize hS : sumR R k = S at hs
    have HS := Lib.hid hS
    clear hS
    by_cases hk2 : k < a.ps
    · have hcp := h2.ptr k hk2
      have hi0 : (0 : Int) ≤ (k : Int) := by omega
      have hi1 : (k : Int) < (a.ps : Int) := by omega
      have hl := HL.out k hk2
      have e9 : L + S + len2 (R k) = L + sumR R (k + 1) := by simp only [sumR]; rw [HS.out]; omega
      have E9 := Lib.hid e9
      clear e9
      go_wp2_with fail
      refine (len_any (a.bs k) (R k).1 (R k).2 _ (h2.ring k hk2)).mono ?_
      rintro e w3 ⟨rfl, m3⟩
      have e3 : ((R k).2.toList ++ (R k).1).length = len2 (R k) := rfl
      rw [e3]
      clear e3
      have h3 := h2.keep0 m3
      have m4 := mr.trans m3
      clear h2 hc0 hcp mr m3
      go_wp2
      go_roundw
      case rel => exact ⟨k + 1, by omega, by go_num, by rw [← E9.out]; go_num, h3, m4⟩
      case measure => simp [intOf]; omega
    · have hkp : k = a.ps := by omega
      have HK := Lib.hid hkp
      clear hkp
      go_wp2
      go_ret
      refine ⟨?_, mr⟩
      rw [HQ.out, ← HK.out, HS.out]
      first | rfl | simp
end

end Go.Proofs.Ytgojfccaohngaaa
