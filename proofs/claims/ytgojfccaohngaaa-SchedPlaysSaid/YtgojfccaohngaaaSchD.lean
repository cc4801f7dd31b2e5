/-
  The contracts of package sched, fourth part: Pick.
-/
import Derived.Test.YtgojfccaohngaaaSchC
set_option linter.unusedSimpArgs false
namespace Go.Proofs.Ytgojfccaohngaaa
open Go.RowKit

/-- What stealing leaves: p from v. -/
def stealR (R : Nat → RM) (p v : Nat) : Nat → RM := upd (upd R p (stA (R p) (R v))) v (stB (R p) (R v))
def getR (R : Nat → RM) (p : Nat) : Nat → RM := upd R p (get2 (R p))
theorem stealR_p {R : Nat → RM} {p v : Nat} (h : p ≠ v) : stealR R p v p = stA (R p) (R v) := by
  unfold stealR
  rw [upd_ne _ _ h, upd_same]

section
variable {a : SA} {w : World} {o : Option Nat} {R : Nat → RM} {Q : List Int}
theorem To.getTo {w1 w2 : World} (h : To a o w w1 R Q) {p : Nat} (hp : p < a.ps) (r : Ring w2 (a.bs p) (get2 (R p)).1 (get2 (R p)).2) (m : Mod (· = a.bs p) w1 w2) : To a o w w2 (getR R p) Q :=
  h.trans (fun _ h1 => h1.ringTo hp (E := get2 (R p)) r m)

set_option maxHeartbeats 800000 in
theorem steal_no (h : Sch a w o R Q) (p : Nat) (hp : p < a.ps) (v : Int) (hv : v < 0 ∨ (a.ps : Int) ≤ v ∨ v = p) (sb vb pb rb : Nat) (hs : w.cell? ⟨sb, 0, none⟩ = some (.pointer (some ⟨a.s, 0, none⟩)))
    (hvb : w.cell? ⟨vb, 0, none⟩ = some (.int .i64 v)) (hpb : w.cell? ⟨pb, 0, none⟩ = some (.int .i64 p)) (hr : w.cell? ⟨rb, 0, none⟩ = some (.pointer (some ⟨a.bs p, 0, none⟩))) :
    Calls Try.prog 68 #[.pointer (some ⟨sb, 0, none⟩), .pointer (some ⟨vb, 0, none⟩), .pointer (some ⟨pb, 0, none⟩), .pointer (some ⟨rb, 0, none⟩)] w fun e w' =>
      e = .returned (.tuple #[.int .i64 (rget (R p).1 (R p).2).1.1, .bool (rget (R p).1 (R p).2).1.2]) ∧ To a o w w' (getR R p) Q := by
  have hg := get_any (a.bs p) (R p).1 (R p).2 w (h.ring p hp)
  have hT : ∀ w', Ring w' (a.bs p) (get2 (R p)).1 (get2 (R p)).2 → Mod (· = a.bs p) w w' → To a o w w' (getR R p) Q := fun w' r m => (To.refl h).getTo hp r m
  generalize (rget (R p).1 (R p).2).1.1 = v1 at hg ⊢
  generalize (rget (R p).1 (R p).2).1.2 = v2 at hg ⊢
  have HG := Lib.hid hg
  have HT := Lib.hid hT
  clear hg hT
  by_cases hin : v < 0 ∨ (a.ps : Int) ≤ v
  · have hno := has_no h v hin
    clear hin hv
    go_enter Try.func68, Try.ntmps68
    go_wp2_with fail
    refine hno.mono ?_
    rintro e w1 ⟨rfl, hw⟩
    obtain rfl := hw.symm
    clear hw hno
    go_wp2_with fail
    refine HG.out.mono ?_
    rintro e w2 ⟨rfl, r2, m2⟩
    have hT := HT.out _ r2 m2
    clear r2 m2
    go_wp2
    go_ret2
    exact ⟨rfl, hT⟩
  · obtain rfl : v = p := by omega
    have hyes := has_yes h p hp
    have hne : ((p : Int) != (p : Int)) = false := by simp
    clear hin hv
    go_enter Try.func68, Try.ntmps68
    go_wp2_with fail
    refine hyes.mono ?_
    rintro e w1 ⟨rfl, hw⟩
    obtain rfl := hw.symm
    clear hw hyes
    go_wp2_with fail
    refine HG.out.mono ?_
    rintro e w2 ⟨rfl, r2, m2⟩
    have hT := HT.out _ r2 m2
    clear r2 m2
    go_wp2
    go_ret2
    exact ⟨rfl, hT⟩

set_option maxHeartbeats 800000 in
theorem steal_yes (h : Sch a w o R Q) (p : Nat) (hp : p < a.ps) (v : Nat) (hv : v < a.ps) (hne : v ≠ p) (sb vb pb rb : Nat) (hs : w.cell? ⟨sb, 0, none⟩ = some (.pointer (some ⟨a.s, 0, none⟩)))
    (hvb : w.cell? ⟨vb, 0, none⟩ = some (.int .i64 v)) (hpb : w.cell? ⟨pb, 0, none⟩ = some (.int .i64 p)) (hr : w.cell? ⟨rb, 0, none⟩ = some (.pointer (some ⟨a.bs p, 0, none⟩)))
    (hsb : ¬ SS a o sb) (hsl : sb < w.heap.size) (hwb : ¬ SS a o vb) (hvl : vb < w.heap.size) (hrb : ¬ SS a o rb) (hrl : rb < w.heap.size) :
    Calls Try.prog 68 #[.pointer (some ⟨sb, 0, none⟩), .pointer (some ⟨vb, 0, none⟩), .pointer (some ⟨pb, 0, none⟩), .pointer (some ⟨rb, 0, none⟩)] w fun e w' =>
      e = .returned (.tuple #[.int .i64 (rget (stA (R p) (R v)).1 (stA (R p) (R v)).2).1.1, .bool (rget (stA (R p) (R v)).1 (stA (R p) (R v)).2).1.2]) ∧ To a o w w' (getR (stealR R p v) p) Q := by
  have hpm := h.most
  have hcap := h.cap
  have hyes := has_yes h v hv
  have hc0 := h.c0
  have hcv := h.ptr v hv
  have hi0 : (0 : Int) ≤ (v : Int) := by omega
  have hi1 : (v : Int) < (a.ps : Int) := by omega
  have hnv : ((v : Int) != (p : Int)) = true := by rw [bne_iff_ne]; omega
  have hd : Sch a w.drew o R Q := h.keep0 ((Mod.refl _ w).drew)
  have hbne : a.bs p ≠ a.bs v := fun e => hne (h.inj p v hp hv e).symm
  have hst := steal_any (a.bs p) (a.bs v) (R p).1 (R v).1 (R p).2 (R v).2 w.drew (hd.ring p hp) (hd.ring v hv) hbne
  have hT : ∀ w', Ring w' (a.bs p) (stA (R p) (R v)).1 (stA (R p) (R v)).2 → Ring w' (a.bs v) (stB (R p) (R v)).1 (stB (R p) (R v)).2 → Mod (fun i => i = a.bs p ∨ i = a.bs v) w.drew w' → To a o w w' (stealR R p v) Q := by
    intro w' r1 r2 m
    refine ⟨o, ?_, fun _ h => .inl h, ((Mod.refl (SS a o) w).drew).trans (m.mono (fun i _ e => .inr (.inr (.inr (by rcases e with e | e; exact ⟨p, hp, e⟩; exact ⟨v, hv, e⟩)))))⟩
    have hq := hd.queue.hasT
    have hrp := (hd.ring p hp).hasT
    have hrv := (hd.ring v hv).hasT
    have ne : ∀ b t, HasT w.drew b t → t ≠ 86 → ¬ (b = a.bs p ∨ b = a.bs v) := by
      rintro b t hb h1 (e | e)
      · exact hb.ne hrp h1 e
      · exact hb.ne hrv h1 e
    exact {
      row := m.rowIs hd.row (ne _ _ (HasT.of_row hd.row) (by decide))
      arr := hd.arr.keep m (ne _ _ hd.arr (by decide))
      ptr := fun i hi => (m.cell (p := ⟨a.g, i, none⟩) hd.arr.lt (ne _ _ hd.arr (by decide))).trans (hd.ptr i hi)
      ring := fun i hi => by
        unfold stealR
        by_cases e : i = v
        · subst e; rw [upd_same]; exact r2
        · rw [upd_ne _ _ e]
          by_cases e2 : i = p
          · subst e2; rw [upd_same]; exact r1
          · rw [upd_ne _ _ e2]
            exact (hd.ring i hi).keep m (fun e3 => by rcases e3 with e3 | e3; exact e2 (hd.inj i p hi hp e3); exact e (hd.inj i v hi hv e3))
      inj := hd.inj
      queue := hd.queue.keep m (ne _ _ hq.1 (by decide)) (fun j hj => ne _ _ (hq.2 j hj) (by decide))
      one := hd.one, most := hd.most, cap := hd.cap, capm := hd.capm }
  have hg : ∀ W, To a o w W (stealR R p v) Q → Calls Try.prog 24 #[.pointer (some ⟨a.bs p, 0, none⟩)] W fun e w' =>
      e = .returned (.tuple #[.int .i64 (rget (stA (R p) (R v)).1 (stA (R p) (R v)).2).1.1, .bool (rget (stA (R p) (R v)).1 (stA (R p) (R v)).2).1.2]) ∧ To a o w w' (getR (stealR R p v) p) Q := by
    intro W hW
    obtain ⟨o1, k1, _, _⟩ := id hW
    have hr := k1.ring p hp
    have e := stealR_p (R := R) (p := p) (v := v) (fun e => hne e.symm)
    have hr' := hr
    rw [e] at hr'
    refine (get_any (a.bs p) _ _ W hr').mono ?_
    rintro e2 w2 ⟨he, r2, m2⟩
    exact ⟨he, hW.getTo hp (by rw [e]; exact r2) m2⟩
  generalize (rget (stA (R p) (R v)).1 (stA (R p) (R v)).2).1.1 = v1 at hg ⊢
  generalize (rget (stA (R p) (R v)).1 (stA (R p) (R v)).2).1.2 = v2 at hg ⊢
  have HG := Lib.hid hg
  have HT := Lib.hid hT
  have HS := Lib.hid hst
  have HY := Lib.hid hyes
  clear hg hT hst hyes hne
  go_enter Try.func68, Try.ntmps68
  go_wp2_with fail
  refine HY.out.mono ?_
  rintro e w1 ⟨rfl, hw⟩
  obtain rfl := hw.symm
  clear hw
  go_wp2_with fail
  go_region_held3 (fun W => W.cell? ⟨sb, 0, none⟩ = some (.pointer (some ⟨a.s, 0, none⟩)) ∧ W.cell? ⟨a.s, 0, none⟩ = some (.slice (some ⟨a.g, 0, none⟩) a.ps a.c) ∧ W.cell? ⟨vb, 0, none⟩ = some (.int .i64 v) ∧ W.cell? ⟨rb, 0, none⟩ = some (.pointer (some ⟨a.bs p, 0, none⟩)) ∧ W.cell? ⟨a.g, v, none⟩ = some (.pointer (some ⟨a.bs v, 0, none⟩)))
    (first | (with_reducible exact ⟨t0, t1, t2, t3, t4⟩) | (with_reducible exact ⟨hs, hc0, hvb, hr, hcv⟩) | go_keep)
    (first
      | (go_at_call 32
         refine HS.out.mono ?_
         rintro e w3 ⟨rfl, r1, r2, m3⟩
         have hTo := HT.out w3 r1 r2 m3
         have hS3 : ∃ o3, Sch a w3 o3 (stealR R p v) Q := by obtain ⟨o3, k1, _, _⟩ := hTo; exact ⟨o3, k1⟩
         obtain ⟨o3, h3⟩ := hS3
         have nS : ∀ b, ¬ SS a o b → ¬ (b = a.bs p ∨ b = a.bs v) := by
           rintro b hb1 (e | e)
           · exact hb1 (.inr (.inr (.inr ⟨p, hp, e⟩)))
           · exact hb1 (.inr (.inr (.inr ⟨v, hv, e⟩)))
         have t0 : w3.cell? ⟨sb, 0, none⟩ = some (.pointer (some ⟨a.s, 0, none⟩)) := (m3.cell (p := ⟨sb, 0, none⟩) hsl (nS sb hsb)).trans hs
         have t1 := h3.c0
         have t2 : w3.cell? ⟨vb, 0, none⟩ = some (.int .i64 v) := (m3.cell (p := ⟨vb, 0, none⟩) hvl (nS vb hwb)).trans hvb
         have t3 : w3.cell? ⟨rb, 0, none⟩ = some (.pointer (some ⟨a.bs p, 0, none⟩)) := (m3.cell (p := ⟨rb, 0, none⟩) hrl (nS rb hrb)).trans hr
         have t4 := h3.ptr v hv))
  all_goals (
    clear h3 r1 r2 m3 t0 t1 t2 t4 nS
    go_wp2_with fail
    refine (HG.out _ hTo).mono ?_
    rintro e w4 ⟨rfl, hT4⟩
    clear hTo t3
    go_wp2
    go_ret2
    exact ⟨rfl, hT4⟩)
end

end Go.Proofs.Ytgojfccaohngaaa
