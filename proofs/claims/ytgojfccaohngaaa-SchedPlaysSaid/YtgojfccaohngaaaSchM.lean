/-
  A scheduler as the laws use it; treadmilllaw27.told is true.
-/
import Derived.Test.YtgojfccaohngaaaSchNew
import Derived.Test.YtgojfccaohngaaaSchB
import Derived.Test.YtgojfccaohngaaaSchE
set_option linter.unusedSimpArgs false
namespace Go.Proofs.Ytgojfccaohngaaa
open Go.RowKit

instance fairDec (tick : Int) (Q : List Int) : Decidable (Fair tick Q) := by unfold Fair; infer_instance

/-- What a pick gives, and what it leaves. -/
def pickM (R : Nat → RM) (Q : List Int) (ps p : Nat) (tick v : Int) : (Int × Bool) × (Nat → RM) × List Int :=
  if Fair tick Q then ((Q.headD 0, true), R, Q.tail)
  else match all2 (R p) with
    | x :: _ => ((x, true), getR R p, Q)
    | [] => match Q with
      | x :: L => ((x, true), upd R p (((x :: L).take (qtake (x :: L).length ps 64)).tail, none), (x :: L).drop (qtake (x :: L).length ps 64))
      | [] => if 0 ≤ v ∧ v < ps ∧ ¬ v = p then ((rget (stA (R p) (R v.toNat)).1 (stA (R p) (R v.toNat)).2).1, getR (stealR R p v.toNat) p, []) else ((0, false), R, [])

section
variable {a : SA} {w W : World} {o : Option Nat} {R : Nat → RM} {Q : List Int}
theorem pick_any (h : Sch a w o R Q) (p : Nat) (hp : p < a.ps) (tick v : Int) (hb : Q.length ≤ 700000) :
    Calls Try.prog 43 #[.pointer (some ⟨a.s, 0, none⟩), .int .i64 p, .int .i64 tick, .int .i64 v] w fun e w' =>
      e = .returned (.tuple #[.int .i64 (pickM R Q a.ps p tick v).1.1, .bool (pickM R Q a.ps p tick v).1.2]) ∧ To a o w w' (pickM R Q a.ps p tick v).2.1 (pickM R Q a.ps p tick v).2.2 := by
  by_cases hf : Fair tick Q
  · cases Q with
    | nil => exact absurd rfl hf.2.2
    | cons x L =>
      have e : pickM R (x :: L) a.ps p tick v = ((x, true), R, L) := by unfold pickM; rw [if_pos hf]; rfl
      rw [e]
      exact pick_fair x L h p hp tick v hf (by simp at hb; omega)
  · cases hx : all2 (R p) with
    | cons x T =>
      have e : pickM R Q a.ps p tick v = ((x, true), getR R p, Q) := by unfold pickM; rw [if_neg hf, hx]
      rw [e]
      exact pick_get h p hp tick v hf x T hx
    | nil =>
      have hR := all2_nil hx
      cases Q with
      | cons x L =>
        have e : pickM R (x :: L) a.ps p tick v = ((x, true), upd R p (((x :: L).take (qtake (x :: L).length a.ps 64)).tail, none), (x :: L).drop (qtake (x :: L).length a.ps 64)) := by unfold pickM; rw [if_neg hf, hx]
        rw [e]
        exact pick_part x L h p hp tick v hf hR (by simp at hb; omega)
      | nil =>
        by_cases hv : 0 ≤ v ∧ v < a.ps ∧ ¬ v = p
        · have e : pickM R [] a.ps p tick v = ((rget (stA (R p) (R v.toNat)).1 (stA (R p) (R v.toNat)).2).1, getR (stealR R p v.toNat) p, []) := by unfold pickM; rw [if_neg hf, hx]; simp only []; rw [if_pos hv]
          rw [e]
          obtain ⟨n, rfl⟩ := Int.eq_ofNat_of_zero_le hv.1
          rw [Int.toNat_natCast]
          exact pick_steal h p hp tick n (by omega) (by omega) hR
        · have e : pickM R [] a.ps p tick v = ((0, false), R, []) := by unfold pickM; rw [if_neg hf, hx]; simp only []; rw [if_neg hv]
          rw [e]
          exact pick_none h p hp tick v (by omega) hR

theorem SL.ready (h : SL W a w R Q) (p : Nat) (hp : p < a.ps) (g : Int) (next : Bool) (hb : Q.length ≤ 800000) :
    Calls Try.prog 41 #[.pointer (some ⟨a.s, 0, none⟩), .int .i64 p, .int .i64 g, .bool next] w fun e w' => e = .returned (.int .i64 0) ∧ SL W a w' (ready R p g next) (readyQ R Q p g next) :=
  h.call fun _ hs => sready_yes hs p hp g next hb
theorem SL.global (h : SL W a w R Q) (g : Int) (hb : Q.length ≤ 800000) :
    Calls Try.prog 46 #[.pointer (some ⟨a.s, 0, none⟩), .int .i64 g] w fun e w' => e = .returned (.tuple #[]) ∧ SL W a w' R (Q ++ [g]) :=
  h.call fun _ hs => sglobal hs g hb
theorem SL.pick (h : SL W a w R Q) (p : Nat) (hp : p < a.ps) (tick v : Int) (hb : Q.length ≤ 700000) :
    Calls Try.prog 43 #[.pointer (some ⟨a.s, 0, none⟩), .int .i64 p, .int .i64 tick, .int .i64 v] w fun e w' =>
      e = .returned (.tuple #[.int .i64 (pickM R Q a.ps p tick v).1.1, .bool (pickM R Q a.ps p tick v).1.2]) ∧ SL W a w' (pickM R Q a.ps p tick v).2.1 (pickM R Q a.ps p tick v).2.2 :=
  h.call fun _ hs => pick_any hs p hp tick v hb
theorem SL.pick' (h : SL W a w R Q) (p : Nat) (hp : p < a.ps) (tick v : Int) (hb : Q.length ≤ 700000) {g : Int} {ok : Bool} {R' : Nat → RM} {Q' : List Int} (e : pickM R Q a.ps p tick v = ((g, ok), R', Q')) :
    Calls Try.prog 43 #[.pointer (some ⟨a.s, 0, none⟩), .int .i64 p, .int .i64 tick, .int .i64 v] w fun e w' => e = .returned (.tuple #[.int .i64 g, .bool ok]) ∧ SL W a w' R' Q' := by
  have h1 := h.pick p hp tick v hb
  rw [e] at h1
  exact h1
theorem SL.drop (h : SL W a w R Q) (p : Nat) (hp : p < a.ps) (hb : Q.length ≤ 800000) :
    Calls Try.prog 48 #[.pointer (some ⟨a.s, 0, none⟩), .int .i64 p] w fun e w' => e = .returned (.int .i64 (len2 (R p))) ∧ SL W a w' (upd R p ([], none)) (Q ++ all2 (R p)) :=
  h.call fun _ hs => sdrop_yes hs p hp hb
theorem SL.where (h : SL W a w R Q) (g : Int) (hb : Q.length ≤ 800000) :
    Calls Try.prog 42 #[.pointer (some ⟨a.s, 0, none⟩), .int .i64 g] w fun e w' => e = .returned (.tuple #[.int .i64 (swhere R Q a.ps g).1, .bool (swhere R Q a.ps g).2]) ∧ SL W a w' R Q :=
  h.ask fun _ hs => swhere_any hs g hb
theorem SL.len (h : SL W a w R Q) (hb : Q.length ≤ 800000) :
    Calls Try.prog 44 #[.pointer (some ⟨a.s, 0, none⟩)] w fun e w' => e = .returned (.int .i64 ((Q.length + sumR R a.ps : Nat) : Int)) ∧ SL W a w' R Q :=
  h.ask fun _ hs => slen hs hb
theorem SL.local (h : SL W a w R Q) (p : Nat) (hp : p < a.ps) :
    Calls Try.prog 47 #[.pointer (some ⟨a.s, 0, none⟩), .int .i64 p] w fun e w' => ∃ A c, e = .returned (.slice A (len2 (R p)) c) ∧ IsL w' A (len2 (R p)) c (all2 (R p)) ∧ SL W a w' R Q ∧ Mod (fun _ => False) w w' := by
  obtain ⟨o, h1, h2, h3⟩ := h
  exact (slocal_yes h1 p hp).mono fun _ _ ⟨A, c, he, hl, m⟩ => ⟨A, c, he, hl, ⟨o, h1.keep0 m, h2, h3.trans m⟩, m⟩
theorem SL.common (h : SL W a w R Q) (hb : Q.length ≤ 800000) :
    Calls Try.prog 49 #[.pointer (some ⟨a.s, 0, none⟩)] w fun e w' => ∃ A c, e = .returned (.slice A Q.length c) ∧ IsL w' A Q.length c Q ∧ SL W a w' R Q ∧ Mod (fun _ => False) w w' := by
  obtain ⟨o, h1, h2, h3⟩ := h
  exact (scommon h1 hb).mono fun _ _ ⟨A, c, he, hl, m⟩ => ⟨A, c, he, hl, ⟨o, h1.keep0 m, h2, h3.trans m⟩, m⟩
end

def E0 : Nat → RM := fun _ => ([], none)

set_option maxHeartbeats 1000000 in
theorem told27 (w : World) : Calls Try.prog 45 #[] w fun e w' => e = .returned (.bool true) ∧ Mod (fun _ => False) w w' := by
  go_enter Try.func45, Try.ntmps45
  go_wp2_with fail
  refine (snew_yes 2 w (by omega) (by omega)).mono ?_
  rintro e w1 ⟨a, rfl, hps, h1⟩
  go_wp2_with fail
  refine (snew_no 0 w1 (by omega)).mono ?_
  rintro e w2 ⟨rfl, hw⟩
  obtain rfl := hw.symm
  clear hw
  go_wp2_with fail
  refine (h1.ready 0 (by omega) 5 true (by simp)).mono ?_
  rintro e w3 ⟨rfl, h3⟩
  go_wp2_with fail
  refine (h3.where 5 (by simp [readyQ, over2, rput])).mono ?_
  rintro e w4 ⟨rfl, h4⟩
  have e4 : swhere (ready (fun _ => ([], none)) 0 5 true) (readyQ (fun _ => ([], none)) [] 0 5 true) a.ps 5 = (0, true) := by rw [hps]; rfl
  rw [e4]
  have e5 : (pickM (ready (fun _ => ([], none)) 0 5 true) (readyQ (fun _ => ([], none)) [] 0 5 true) a.ps 1 1 0).1 = (5, true) := by rw [hps]; rfl
  have hp := h4.pick 1 (by omega) 1 0 (by simp [readyQ, over2, rput])
  have e6 : swhere (pickM (ready (fun _ => ([], none)) 0 5 true) (readyQ (fun _ => ([], none)) [] 0 5 true) a.ps 1 1 0).2.1 (pickM (ready (fun _ => ([], none)) 0 5 true) (readyQ (fun _ => ([], none)) [] 0 5 true) a.ps 1 1 0).2.2 a.ps 5 = (0, false) := by rw [hps]; rfl
  have e7 : (pickM (ready (fun _ => ([], none)) 0 5 true) (readyQ (fun _ => ([], none)) [] 0 5 true) a.ps 1 1 0).2.2.length + sumR (pickM (ready (fun _ => ([], none)) 0 5 true) (readyQ (fun _ => ([], none)) [] 0 5 true) a.ps 1 1 0).2.1 a.ps = 0 := by rw [hps]; rfl
  rw [e5] at hp
  generalize (pickM (ready (fun _ => ([], none)) 0 5 true) (readyQ (fun _ => ([], none)) [] 0 5 true) a.ps 1 1 0).2.1 = R5 at hp e6 e7
  generalize (pickM (ready (fun _ => ([], none)) 0 5 true) (readyQ (fun _ => ([], none)) [] 0 5 true) a.ps 1 1 0).2.2 = Q5 at hp e6 e7
  have HP := Lib.hid hp
  have HE := Lib.hid e6
  have HL := Lib.hid e7
  clear hp e4 e5 e6 e7 h3 h1 h4
  go_wp2_with fail
  refine HP.out.mono ?_
  rintro e w5 ⟨rfl, h5⟩
  have hq : Q5.length ≤ 800000 := by have := HL.out; omega
  have h6 := h5.where 5 hq
  rw [HE.out] at h6
  have h7 := fun (W : World) (h : SL w a W R5 Q5) => h.len hq
  rw [HL.out] at h7
  have H6 := Lib.hid h6
  have H7 := Lib.hid h7
  clear h6 h7
  go_wp2_with fail
  refine H6.out.mono ?_
  rintro e w6 ⟨rfl, h6⟩
  go_wp2_with fail
  refine (H7.out _ h6).mono ?_
  rintro e w7 ⟨rfl, h7⟩
  have hm := h7.mod
  clear h5 h6 h7
  go_wp2
  go_ret
  exact ⟨rfl, hm⟩

end Go.Proofs.Ytgojfccaohngaaa
