/-
  The program's scheduler and the reference's beside one another.
-/
import Derived.Test.YtgojfccaohngaaaRSchN
import Derived.Test.YtgojfccaohngaaaRSchQ
import Derived.Test.YtgojfccaohngaaaSOnceP
import Derived.Test.YtgojfccaohngaaaOpsS
set_option linter.unusedSimpArgs false
namespace Go.Proofs.Ytgojfccaohngaaa
open Go.RowKit

section
variable {x : RA} {lo : Nat} {D : Nat → Prop} {w : World} {R : Nat → RM} {Q : List Int}
theorem rs_pick (hD : ∀ g, D g → g < w.heap.size) (h : RSch x lo D w R Q) (hlen : ∀ i, i < x.ps → (R i).1.length ≤ 256) (p : Nat) (hp : p < x.ps) (tick v : Int) (hb : Q.length ≤ 700000) :
    Calls Try.prog 53 #[.pointer (some ⟨x.s, 0, none⟩), .int .i64 p, .int .i64 tick, .int .i64 v] w fun e w' =>
      e = .returned (.tuple #[.int .i64 (pickM R Q x.ps p tick v).1.1, .bool (pickM R Q x.ps p tick v).1.2]) ∧ RTo x lo D w w' (pickM R Q x.ps p tick v).2.1 (pickM R Q x.ps p tick v).2.2 := by
  by_cases hf : Fair tick Q
  · cases Q with
    | nil => exact absurd rfl hf.2.2
    | cons y L =>
      have e : pickM R (y :: L) x.ps p tick v = ((y, true), R, L) := by unfold pickM; rw [if_pos hf]; rfl
      rw [e]
      exact rp_fair y L h p hp tick v hf
  · cases hx : all2 (R p) with
    | cons y T =>
      have e : pickM R Q x.ps p tick v = ((y, true), getR R p, Q) := by unfold pickM; rw [if_neg hf, hx]
      rw [e]
      exact rp_get hD h p hp tick v hf y T hx
    | nil =>
      have hR := all2_nil hx
      cases Q with
      | cons y L =>
        have e : pickM R (y :: L) x.ps p tick v = ((y, true), upd R p (((y :: L).take (qtake (y :: L).length x.ps 64)).tail, none), (y :: L).drop (qtake (y :: L).length x.ps 64)) := by unfold pickM; rw [if_neg hf, hx]
        rw [e]
        exact rp_part hD y L h p hp tick v hf hR (by simp at hb; omega)
      | nil =>
        by_cases hv : 0 ≤ v ∧ v < x.ps ∧ ¬ v = p
        · have e : pickM R [] x.ps p tick v = ((rget (stA (R p) (R v.toNat)).1 (stA (R p) (R v.toNat)).2).1, getR (stealR R p v.toNat) p, []) := by unfold pickM; rw [if_neg hf, hx]; simp only []; rw [if_pos hv]
          rw [e]
          obtain ⟨n, rfl⟩ := Int.eq_ofNat_of_zero_le hv.1
          rw [Int.toNat_natCast]
          exact rp_steal hD h p hp tick n (by omega) (by omega) hR (hlen n (by omega))
        · have e : pickM R [] x.ps p tick v = ((0, false), R, []) := by unfold pickM; rw [if_neg hf, hx]; simp only []; rw [if_neg hv]
          rw [e]
          exact rp_none hD h p hp tick v (by omega) hR
end

/-! ### the ops at any P -/
def okP (ps : Nat) (p : Int) : Prop := 0 ≤ p ∧ p < ps
instance okPDec (ps : Nat) (p : Int) : Decidable (okP ps p) := by unfold okP; infer_instance
def codeI (ps : Nat) (p : Int) : Int := if okP ps p then 0 else 1
def readyI (R : Nat → RM) (Q : List Int) (ps : Nat) (p g : Int) (next : Bool) : (Nat → RM) × List Int := if okP ps p then (ready R p.toNat g next, readyQ R Q p.toNat g next) else (R, Q)
def pickI (R : Nat → RM) (Q : List Int) (ps : Nat) (p tick v : Int) : (Int × Bool) × (Nat → RM) × List Int := if okP ps p then pickM R Q ps p.toNat tick v else ((0, false), R, Q)
def dropI (R : Nat → RM) (Q : List Int) (ps : Nat) (p : Int) : Int × (Nat → RM) × List Int := if okP ps p then ((len2 (R p.toNat) : Int), upd R p.toNat ([], none), Q ++ all2 (R p.toNat)) else (0, R, Q)

theorem okP_nat {ps : Nat} {p : Int} (h : okP ps p) : ∃ n : Nat, p = n ∧ n < ps ∧ p.toNat = n := by
  obtain ⟨h1, h2⟩ := h
  exact ⟨p.toNat, by omega, by omega, rfl⟩
theorem readyI_tot (R : Nat → RM) (Q : List Int) (ps : Nat) (p g : Int) (next : Bool) : tot (readyI R Q ps p g next).1 (readyI R Q ps p g next).2 ps ≤ tot R Q ps + 1 := by
  unfold readyI
  by_cases h : okP ps p
  · rw [if_pos h]
    obtain ⟨n, _, hn, e⟩ := okP_nat h
    rw [e]
    exact Nat.le_of_eq (ready_tot R Q ps n hn g next)
  · rw [if_neg h]
    exact Nat.le_succ _
theorem pickI_tot (R : Nat → RM) (Q : List Int) (ps : Nat) (p tick v : Int) : tot (pickI R Q ps p tick v).2.1 (pickI R Q ps p tick v).2.2 ps ≤ tot R Q ps := by
  unfold pickI
  by_cases h : okP ps p
  · rw [if_pos h]
    obtain ⟨n, _, hn, e⟩ := okP_nat h
    rw [e]
    cases hok : (pickM R Q ps n tick v).1.2 with
    | true => have := (pick_yes R Q ps n hn tick v hok).2; omega
    | false =>
      have h1 := (pick_no R Q ps n tick v hok).1
      rw [h1]
      exact Nat.le_refl _
  · rw [if_neg h]
    exact Nat.le_refl _
theorem dropI_tot (R : Nat → RM) (Q : List Int) (ps : Nat) (p : Int) : tot (dropI R Q ps p).2.1 (dropI R Q ps p).2.2 ps ≤ tot R Q ps := by
  unfold dropI
  by_cases h : okP ps p
  · rw [if_pos h]
    obtain ⟨n, _, hn, e⟩ := okP_nat h
    rw [e]
    have h1 := sumR_upd R n ([], none) ps hn
    have h2 : len2 (([], none) : RM) = 0 := rfl
    simp only [tot, List.length_append, all2_len]
    omega
  · rw [if_neg h]
    exact Nat.le_refl _

section
variable {a : SA} {w : World} {o : Option Nat} {R : Nat → RM} {Q : List Int}
theorem sreadyI (h : Sch a w o R Q) (p g : Int) (next : Bool) (hb : Q.length ≤ 700000) :
    Calls Try.prog 41 #[.pointer (some ⟨a.s, 0, none⟩), .int .i64 p, .int .i64 g, .bool next] w fun e w' => e = .returned (.int .i64 (codeI a.ps p)) ∧ To a o w w' (readyI R Q a.ps p g next).1 (readyI R Q a.ps p g next).2 := by
  unfold codeI readyI
  by_cases hp : okP a.ps p
  · rw [if_pos hp, if_pos hp]
    obtain ⟨n, e, hn, e2⟩ := okP_nat hp
    rw [e2, e]
    exact sready_yes h n hn g next (by omega)
  · rw [if_neg hp, if_neg hp]
    exact (sready_no h p (by unfold okP at hp; omega) g next).mono fun e w' ⟨he, hw⟩ => ⟨he, by rw [hw]; exact To.refl h⟩
theorem spickI (h : Sch a w o R Q) (p tick v : Int) (hb : Q.length ≤ 700000) :
    Calls Try.prog 43 #[.pointer (some ⟨a.s, 0, none⟩), .int .i64 p, .int .i64 tick, .int .i64 v] w fun e w' => e = .returned (.tuple #[.int .i64 (pickI R Q a.ps p tick v).1.1, .bool (pickI R Q a.ps p tick v).1.2]) ∧
      To a o w w' (pickI R Q a.ps p tick v).2.1 (pickI R Q a.ps p tick v).2.2 := by
  unfold pickI
  by_cases hp : okP a.ps p
  · rw [if_pos hp]
    obtain ⟨n, e, hn, e2⟩ := okP_nat hp
    rw [e2, e]
    exact pick_any h n hn tick v hb
  · rw [if_neg hp]
    exact pick_bad h p tick v (by unfold okP at hp; omega)
theorem sdropI (h : Sch a w o R Q) (p : Int) (hb : Q.length ≤ 700000) :
    Calls Try.prog 48 #[.pointer (some ⟨a.s, 0, none⟩), .int .i64 p] w fun e w' => e = .returned (.int .i64 (dropI R Q a.ps p).1) ∧ To a o w w' (dropI R Q a.ps p).2.1 (dropI R Q a.ps p).2.2 := by
  unfold dropI
  by_cases hp : okP a.ps p
  · rw [if_pos hp]
    obtain ⟨n, e, hn, e2⟩ := okP_nat hp
    rw [e2, e]
    exact sdrop_yes h n hn (by omega)
  · rw [if_neg hp]
    exact (sdrop_no h p (by unfold okP at hp; omega)).mono fun e w' ⟨he, hw⟩ => ⟨he, by rw [hw]; exact To.refl h⟩
end
section
variable {x : RA} {lo : Nat} {D : Nat → Prop} {w : World} {R : Nat → RM} {Q : List Int}
theorem rs_readyI (hD : ∀ g, D g → g < w.heap.size) (h : RSch x lo D w R Q) (hlen : ∀ i, i < x.ps → (R i).1.length ≤ 256) (p g : Int) (next : Bool) (hb : Q.length ≤ 700000) :
    Calls Try.prog 51 #[.pointer (some ⟨x.s, 0, none⟩), .int .i64 p, .int .i64 g, .bool next] w fun e w' => e = .returned (.int .i64 (codeI x.ps p)) ∧ RTo x lo D w w' (readyI R Q x.ps p g next).1 (readyI R Q x.ps p g next).2 := by
  unfold codeI readyI
  by_cases hp : okP x.ps p
  · rw [if_pos hp, if_pos hp]
    obtain ⟨n, e, hn, e2⟩ := okP_nat hp
    rw [e2, e]
    exact rs_ready_yes hD h n hn (hlen n hn) g next hb
  · rw [if_neg hp, if_neg hp]
    exact (rs_ready_no h p (by unfold okP at hp; omega) g next).mono fun e w' ⟨he, hw⟩ => ⟨he, by rw [hw]; exact ⟨h, ModT.refl _ _⟩⟩
theorem rs_pickI (hD : ∀ g, D g → g < w.heap.size) (h : RSch x lo D w R Q) (hlen : ∀ i, i < x.ps → (R i).1.length ≤ 256) (p tick v : Int) (hb : Q.length ≤ 700000) :
    Calls Try.prog 53 #[.pointer (some ⟨x.s, 0, none⟩), .int .i64 p, .int .i64 tick, .int .i64 v] w fun e w' => e = .returned (.tuple #[.int .i64 (pickI R Q x.ps p tick v).1.1, .bool (pickI R Q x.ps p tick v).1.2]) ∧
      RTo x lo D w w' (pickI R Q x.ps p tick v).2.1 (pickI R Q x.ps p tick v).2.2 := by
  unfold pickI
  by_cases hp : okP x.ps p
  · rw [if_pos hp]
    obtain ⟨n, e, hn, e2⟩ := okP_nat hp
    rw [e2, e]
    exact rs_pick hD h hlen n hn tick v hb
  · rw [if_neg hp]
    exact (rp_bad h p tick v (by unfold okP at hp; omega)).mono fun e w' ⟨he, hw⟩ => ⟨he, by rw [hw]; exact ⟨h, ModT.refl _ _⟩⟩
theorem rs_dropI (hD : ∀ g, D g → g < w.heap.size) (h : RSch x lo D w R Q) (hlen : ∀ i, i < x.ps → (R i).1.length ≤ 256) (p : Int) (hb : Q.length ≤ 700000) :
    Calls Try.prog 54 #[.pointer (some ⟨x.s, 0, none⟩), .int .i64 p] w fun e w' => e = .returned (.int .i64 (dropI R Q x.ps p).1) ∧ RTo x lo D w w' (dropI R Q x.ps p).2.1 (dropI R Q x.ps p).2.2 := by
  unfold dropI
  by_cases hp : okP x.ps p
  · rw [if_pos hp]
    obtain ⟨n, e, hn, e2⟩ := okP_nat hp
    rw [e2, e]
    exact rs_drop_yes hD h n hn (hlen n hn) hb
  · rw [if_neg hp]
    exact (rs_drop_no h p (by unfold okP at hp; omega)).mono fun e w' ⟨he, hw⟩ => ⟨he, by rw [hw]; exact ⟨h, ModT.refl _ _⟩⟩
end

/-- Both schedulers, new behind W. -/
def Both (W : World) (a : SA) (x : RA) (w : World) (R : Nat → RM) (Q : List Int) (R' : Nat → RM) (Q' : List Int) : Prop :=
  ∃ o, Sch a w o R Q ∧ (∀ k, SS a o k → W.heap.size ≤ k) ∧ RSch x W.heap.size (fun g => o = some g) w R' Q' ∧ Mod (fun _ => False) W w
/-- The ops' own variables stand as they were. -/
def Kept66 (w w' : World) : Prop := ∀ (q : Nat) (f : Nat → Value), w.rowIs q 66 6 f → w'.rowIs q 66 6 f
section
variable {W w w' : World} {a : SA} {x : RA} {R R' R2 : Nat → RM} {Q Q' Q2 : List Int}
theorem Both.mod (h : Both W a x w R Q R' Q') : Mod (fun _ => False) W w := by
  obtain ⟨_, _, _, _, h4⟩ := h
  exact h4
theorem Both.keep0 (h : Both W a x w R Q R' Q') (m : Mod (fun _ => False) w w') : Both W a x w' R Q R' Q' := by
  obtain ⟨o, h1, h2, ⟨bs, f, A, n, c, h3⟩, h4⟩ := h
  exact ⟨o, h1.keep0 m, h2, ⟨bs, f, A, n, c, h3.keep0 m⟩, h4.trans m⟩
theorem Kept66.of0 (m : Mod (fun _ => False) w w') : Kept66 w w' := fun _ _ h => m.rowIs h (fun h => h)
theorem Both.rows (h : Both W a x w R Q R' Q') : ∀ i, i < a.ps → (R i).1.length ≤ 256 := by
  obtain ⟨_, h1, _, _, _⟩ := h
  exact fun i hi => (h1.ring i hi).len
theorem Sch.types {o : Option Nat} (h : Sch a w o R Q) {k : Nat} (hk : SS a o k) {t : TypeId} (hT : HasT w k t) : t = 93 ∨ t = 31 ∨ t = 82 ∨ t = 86 ∨ (t = 3 ∧ o = some k) := by
  have same : ∀ t', HasT w k t' → t = t' := by
    rintro t' ⟨c, f, e⟩
    obtain ⟨c2, f2, e2⟩ := hT
    rw [e] at e2
    injection e2 with e2
    injection e2 with _ e2
    exact e2.symm
  rcases hk with e | e | (e | e) | ⟨i, hi, e⟩
  · exact .inl (same _ (by rw [e]; exact HasT.of_row h.row))
  · exact .inr (.inl (same _ (by rw [e]; exact h.arr)))
  · exact .inr (.inr (.inl (same _ (by rw [e]; exact h.queue.hasT.1))))
  · exact .inr (.inr (.inr (.inr ⟨same _ (h.queue.hasT.2 k e), e⟩)))
  · exact .inr (.inr (.inr (.inl (same _ (by rw [e]; exact (h.ring i hi).hasT)))))
theorem Both.prog {N : Nat} {args : Array Value} {v : Value} (h : Both W a x w R Q R' Q') (hc : ∀ o, Sch a w o R Q → Calls Try.prog N args w (fun e w' => e = .returned v ∧ To a o w w' R2 Q2)) :
    Calls Try.prog N args w (fun e w' => e = .returned v ∧ Both W a x w' R2 Q2 R' Q' ∧ Kept66 w w') := by
  obtain ⟨o, h1, h2, ⟨bs, f, A, n, c, h3⟩, h4⟩ := h
  refine (hc o h1).mono ?_
  rintro e w' ⟨he, o', k1, k2, k3⟩
  have hs := h4.size
  have no : ∀ k t, HasT w k t → t ≠ 93 → t ≠ 31 → t ≠ 82 → t ≠ 86 → t ≠ 3 → ¬ SS a o k := by
    intro k t hT n1 n2 n3 n4 n5 hk
    rcases h1.types hk hT with e | e | e | e | ⟨e, _⟩
    · exact n1 e
    · exact n2 e
    · exact n3 e
    · exact n4 e
    · exact n5 e
  have r2 := h3.away (D' := fun g => o = some g ∨ w.heap.size ≤ g) (fun g hg => hg)
  have r3 := r2.keep k3 (no _ _ (HasT.of_row h3.row) (by decide) (by decide) (by decide) (by decide) (by decide)) (no _ _ (HasT.of_row h3.arr) (by decide) (by decide) (by decide) (by decide) (by decide))
    (fun i hi => no _ _ (h3.ring i hi).hasT (by decide) (by decide) (by decide) (by decide) (by decide)) (fun g hg => by
      by_cases h3 : HasT w g 3
      · rcases h1.types hg h3 with e | e | e | e | ⟨_, e⟩
        · cases e
        · cases e
        · cases e
        · cases e
        · exact .inl (.inl e)
      · exact .inr h3)
  have r4 := r3.away (D' := fun g => o' = some g) (fun g hg => .inl (k2 g hg))
  exact ⟨he, ⟨o', k1, fun i hi => by
    rcases hi with e | e | (e | e) | e
    · exact h2 i (.inl e)
    · exact h2 i (.inr (.inl e))
    · exact h2 i (.inr (.inr (.inl (.inl e))))
    · rcases k2 i e with e2 | e2
      · exact h2 i (.inr (.inr (.inl (.inr e2))))
      · omega
    · exact h2 i (.inr (.inr (.inr e))), ⟨bs, f, A, n, c, r4⟩, h4.new k3 h2⟩, fun q ff hq => k3.rowIs hq (no _ _ (HasT.of_row hq) (by decide) (by decide) (by decide) (by decide) (by decide))⟩
theorem Both.refer {N : Nat} {args : Array Value} {v : Value} (h : Both W a x w R Q R' Q')
    (hc : ∀ D : Nat → Prop, (∀ g, D g → g < w.heap.size) → RSch x W.heap.size D w R' Q' → Calls Try.prog N args w (fun e w' => e = .returned v ∧ RTo x W.heap.size D w w' R2 Q2)) :
    Calls Try.prog N args w (fun e w' => e = .returned v ∧ Both W a x w' R Q R2 Q2 ∧ Kept66 w w') := by
  obtain ⟨o, h1, h2, h3, h4⟩ := h
  refine (hc _ (fun g hg => h1.lt g (.inr (.inr (.inl (.inr hg))))) h3).mono ?_
  rintro e w' ⟨he, r, hm⟩
  obtain ⟨S, m, hS⟩ := id hm
  refine ⟨he, ⟨o, h1.keep m (fun k hk hs => ?_), h2, r, h4.new m (fun i hi => (hS i hi).1)⟩, fun q ff hq => rowIs_keepT hq ⟨by decide, by decide, by decide⟩ hm⟩
  obtain ⟨_, t, ht, hT⟩ := hS k hs
  rcases h1.types hk hT with e | e | e | e | ⟨e, _⟩ <;> rcases ht with f | f | f <;> (rw [e] at f; cases f)
theorem Both.ask {N : Nat} {args : Array Value} {v : Value} (h : Both W a x w R Q R' Q') (hc : ∀ o, Sch a w o R Q → Calls Try.prog N args w (fun e w' => e = .returned v ∧ Mod (fun _ => False) w w')) :
    Calls Try.prog N args w (fun e w' => e = .returned v ∧ Both W a x w' R Q R' Q' ∧ Kept66 w w') := by
  obtain ⟨o, h1, _, _, _⟩ := id h
  exact (hc o h1).mono fun _ _ ⟨he, m⟩ => ⟨he, h.keep0 m, Kept66.of0 m⟩
theorem Both.askR {N : Nat} {args : Array Value} {v : Value} (h : Both W a x w R Q R' Q') (hc : ∀ D : Nat → Prop, RSch x W.heap.size D w R' Q' → Calls Try.prog N args w (fun e w' => e = .returned v ∧ Mod (fun _ => False) w w')) :
    Calls Try.prog N args w (fun e w' => e = .returned v ∧ Both W a x w' R Q R' Q' ∧ Kept66 w w') := by
  obtain ⟨o, _, _, h3, _⟩ := id h
  exact (hc _ h3).mono fun _ _ ⟨he, m⟩ => ⟨he, h.keep0 m, Kept66.of0 m⟩
end

end Go.Proofs.Ytgojfccaohngaaa
