/-
  The contracts of (*central.Central).Put, Take, TakeFull.
-/
import Derived.Test.YtjjbcfbljnekgaaCentDel
import Derived.Outline
namespace Go.Proofs.Ytjjbcfbljnekgaa
open Go.RowKit

def slot (f : Bool) : Nat := if f then 1 else 0
def cputL (L : Nat → List Int) (k : Nat) (f : Bool) (id : Int) : Nat → List Int := upd (cdelL L id) (k * 4 + slot f) (cdelL L id (k * 4 + slot f) ++ [id])
def CRet (w : World) (S : Nat → Prop) (z b : Nat) (L' : Nat → List Int) (v : Value) (e : Ending) (w' : World) : Prop :=
  e = .returned v ∧ ∃ S', Cent w' S' z b L' ∧ (∀ i, S' i → S i ∨ w.heap.size ≤ i) ∧ Mod S w w'
theorem CRet.same {w : World} {S : Nat → Prop} {z b : Nat} {L : Nat → List Int} {v : Value} (h : Cent w S z b L) : CRet w S z b L v (.returned v) w := ⟨rfl, S, h, fun _ h => .inl h, Mod.refl _ _⟩

theorem CRet.comp {w w1 w' : World} {S S1 : Nat → Prop} {z b : Nat} {L' : Nat → List Int} {v : Value} {e : Ending} (hS1 : ∀ i, S1 i → S i ∨ w.heap.size ≤ i) (m1 : Mod S w w1) (h : CRet w1 S1 z b L' v e w') : CRet w S z b L' v e w' := by
  obtain ⟨he, S', h1, h2, h3⟩ := h
  refine ⟨he, S', h1, fun i hi => ?_, m1.trans' h3 (fun i hi hs => ?_)⟩
  · rcases h2 i hi with h4 | h4
    · exact hS1 i h4
    · have := m1.size
      exact .inr (by omega)
  · rcases hS1 i hs with h4 | h4
    · exact h4
    · omega
theorem at_lit {w : World} {o : Obj} {A A2 : Option Addr} (h : blk A2 = blk A ∨ blk A2 = some (w.alloc o).heap.size) : blk A2 = blk A ∨ ∀ i, blk A2 = some i → w.heap.size ≤ i := by
  rcases h with e | e
  · exact .inl e
  · refine .inr (fun i hi => ?_)
    rw [e] at hi
    simp at hi
    omega

theorem cdelL_len (L : Nat → List Int) (id : Int) (i : Nat) : (cdelL L id i).length ≤ (L i).length := by
  unfold cdelL
  cases cfind L id 64 0 with
  | some j =>
    show (upd L j ((L j).erase id) i).length ≤ _
    by_cases e : i = j
    · subst e
      rw [upd_same]
      exact (List.erase_sublist ..).length_le
    · rw [upd_ne _ _ e]; exact Nat.le_refl _
  | none => exact Nat.le_refl _

theorem side_f (w : World) : Calls Try.prog 61 #[.bool false] w fun e w' => e = .returned (.int .i64 0) ∧ w' = w := side_any false w
theorem side_t (w : World) : Calls Try.prog 61 #[.bool true] w fun e w' => e = .returned (.int .i64 1) ∧ w' = w := side_any true w

theorem cput_no {w : World} {S : Nat → Prop} {z b : Nat} {L : Nat → List Int} (k id : Int) (f : Bool) (h : Cent w S z b L) (hk : ¬ (0 ≤ k ∧ k < 16)) :
    Calls Try.prog 37 #[.pointer (some ⟨z, 0, none⟩), .int .i64 k, .int .i64 id, .bool f] w (CRet w S z b L (.tuple #[])) := by
  go_enter Try.func37, Try.ntmps37
  go_wp2_with fail
  refine (chas_no k h hk).mono ?_
  rintro e w2 ⟨rfl, hw2⟩
  obtain rfl := hw2.symm
  go_wp2
  go_end0
  exact CRet.same h

set_option maxHeartbeats 1000000 in
set_option maxRecDepth 100000 in
theorem cput_f {w : World} {S : Nat → Prop} {z b : Nat} {L : Nat → List Int} (k : Nat) (id : Int) (h : Cent w S z b L) (hk : k < 16) (hl : ∀ i, i < 64 → (L i).length ≤ 400000) :
    Calls Try.prog 37 #[.pointer (some ⟨z, 0, none⟩), .int .i64 k, .int .i64 id, .bool false] w (CRet w S z b (cputL L k false id) (.tuple #[])) := by
  go_enter Try.func37, Try.ntmps37
  go_wp2_with fail
  refine (chas_yes k h hk).mono ?_
  rintro e w2 ⟨rfl, hw2⟩
  obtain rfl := hw2.symm
  go_wp2_with fail
  refine (cdel_any id h hl).mono ?_
  rintro e w1 ⟨rfl, S1, h1, hS1, m1⟩
  have ht := h1.top
  have hk0 : (0 : Int) ≤ (k : Int) := by omega
  have hk1 : (k : Int) < 16 := by omega
  go_wp2
  go_quiet ((go_at_call 61; exact Calls.quiet_of_same (side_f _)))
  have h1q := h1.keep0 ((Mod.refl _ w1).drewN nq)
  have mq := m1.drewN nq
  clear ht
  obtain ⟨A, n, c, hc, hown, hfz, hg⟩ := h1q.cell (k := k * 4) (by omega)
  have hblt := h1q.blt
  have hcl := cdelL_len L id (k * 4)
  have hll := hl (k * 4) (by omega)
  rw [hown.len] at hcl
  go_wp2_with (at_builtin; refine wpList_app _ rfl (.tmp 29) (.tmp 31) _ rfl Try.underlying35 int_info A n c _ rfl (hown.alloc _) _ 1 1 [id] rfl (IsL.one _ id) (by omega) ?_; intro A2 n2 c2 w2 hn1 hn2 hown2 hg2 hat2; have m2 : Mod (fun i => blk A = some i) (w1.drewN nq) w2 := grown_mod hg2; have tc : w2.cell? ⟨b, k * 4, none⟩ = some (.slice A n c) := (m2.cell (p := ⟨b, k * 4, none⟩) hblt (fun e => (hg b e).2.1 rfl)).trans hc; have tf : w2.frozen? ⟨b, k * 4, none⟩ = false := (m2.frozen (p := ⟨b, k * 4, none⟩) hblt (fun e => (hg b e).2.1 rfl)).trans hfz; have tb : b < w2.heap.size := Nat.lt_of_lt_of_le hblt m2.size)
  go_end0
  obtain ⟨S', hS1', hS2, hS3⟩ := h1q.put (by omega) hc m2 hown2 (at_lit hat2)
  exact CRet.comp hS1 mq ⟨rfl, S', hS1', hS2, hS3⟩

set_option maxHeartbeats 1000000 in
set_option maxRecDepth 100000 in
theorem cput_t {w : World} {S : Nat → Prop} {z b : Nat} {L : Nat → List Int} (k : Nat) (id : Int) (h : Cent w S z b L) (hk : k < 16) (hl : ∀ i, i < 64 → (L i).length ≤ 400000) :
    Calls Try.prog 37 #[.pointer (some ⟨z, 0, none⟩), .int .i64 k, .int .i64 id, .bool true] w (CRet w S z b (cputL L k true id) (.tuple #[])) := by
  go_enter Try.func37, Try.ntmps37
  go_wp2_with fail
  refine (chas_yes k h hk).mono ?_
  rintro e w2 ⟨rfl, hw2⟩
  obtain rfl := hw2.symm
  go_wp2_with fail
  refine (cdel_any id h hl).mono ?_
  rintro e w1 ⟨rfl, S1, h1, hS1, m1⟩
  have ht := h1.top
  have hk0 : (0 : Int) ≤ (k : Int) := by omega
  have hk1 : (k : Int) < 16 := by omega
  go_wp2
  go_quiet ((go_at_call 61; exact Calls.quiet_of_same (side_t _)))
  have h1q := h1.keep0 ((Mod.refl _ w1).drewN nq)
  have mq := m1.drewN nq
  clear ht
  obtain ⟨A, n, c, hc, hown, hfz, hg⟩ := h1q.cell (k := k * 4 + 1) (by omega)
  have hblt := h1q.blt
  have hcl := cdelL_len L id (k * 4 + 1)
  have hll := hl (k * 4 + 1) (by omega)
  rw [hown.len] at hcl
  go_wp2_with (at_builtin; refine wpList_app _ rfl (.tmp 29) (.tmp 31) _ rfl Try.underlying35 int_info A n c _ rfl (hown.alloc _) _ 1 1 [id] rfl (IsL.one _ id) (by omega) ?_; intro A2 n2 c2 w2 hn1 hn2 hown2 hg2 hat2; have m2 : Mod (fun i => blk A = some i) (w1.drewN nq) w2 := grown_mod hg2; have tc : w2.cell? ⟨b, k * 4 + 1, none⟩ = some (.slice A n c) := (m2.cell (p := ⟨b, k * 4 + 1, none⟩) hblt (fun e => (hg b e).2.1 rfl)).trans hc; have tf : w2.frozen? ⟨b, k * 4 + 1, none⟩ = false := (m2.frozen (p := ⟨b, k * 4 + 1, none⟩) hblt (fun e => (hg b e).2.1 rfl)).trans hfz; have tb : b < w2.heap.size := Nat.lt_of_lt_of_le hblt m2.size)
  go_end0
  obtain ⟨S', hS1', hS2, hS3⟩ := h1q.put (by omega) hc m2 hown2 (at_lit hat2)
  exact CRet.comp hS1 mq ⟨rfl, S', hS1', hS2, hS3⟩


theorem clast_eq {l : List Int} (h : l ≠ []) : ∃ r x, l = r ++ [x] := ⟨l.dropLast, l.getLast h, (List.dropLast_concat_getLast h).symm⟩

/-- What Take tells: the id, is it unswept, is there one; and what it leaves. -/
def ctakeV (L : Nat → List Int) (k : Nat) : Int × Bool × Bool :=
  match (L (k * 4)).getLast? with
  | some x => (x, false, true)
  | none => match (L (k * 4 + 2)).getLast? with
    | some x => (x, true, true)
    | none => (0, false, false)
def ctakeL (L : Nat → List Int) (k : Nat) : Nat → List Int :=
  if L (k * 4) = [] then (if L (k * 4 + 2) = [] then L else upd L (k * 4 + 2) (L (k * 4 + 2)).dropLast) else upd L (k * 4) (L (k * 4)).dropLast
def tup3 (p : Int × Bool × Bool) : Value := .tuple #[.int .i64 p.1, .bool p.2.1, .bool p.2.2]

theorem ctake_nil (k : Int) (w : World) : Calls Try.prog 41 #[.pointer none, .int .i64 k] w fun e w' => e = .returned (.tuple #[.int .i64 0, .bool false, .bool false]) ∧ w' = w := by
  go_enter Try.func41, Try.ntmps41
  go_wp2_with fail
  refine (chas_nil k _).mono ?_
  rintro e w2 ⟨rfl, hw2⟩
  obtain rfl := hw2.symm
  go_wp2
  go_ret3
  exact ⟨rfl, rfl⟩
theorem ctake_no {w : World} {S : Nat → Prop} {z b : Nat} {L : Nat → List Int} (k : Int) (h : Cent w S z b L) (hk : ¬ (0 ≤ k ∧ k < 16)) :
    Calls Try.prog 41 #[.pointer (some ⟨z, 0, none⟩), .int .i64 k] w (CRet w S z b L (tup3 (0, false, false))) := by
  go_enter Try.func41, Try.ntmps41
  go_wp2_with fail
  refine (chas_no k h hk).mono ?_
  rintro e w2 ⟨rfl, hw2⟩
  obtain rfl := hw2.symm
  go_wp2
  go_ret3
  exact CRet.same h

set_option maxHeartbeats 1000000 in
set_option maxRecDepth 100000 in
theorem ctake_any {w : World} {S : Nat → Prop} {z b : Nat} {L : Nat → List Int} (k : Nat) (h : Cent w S z b L) (hk : k < 16) (hl : ∀ i, i < 64 → (L i).length ≤ 400000) :
    Calls Try.prog 41 #[.pointer (some ⟨z, 0, none⟩), .int .i64 k] w (CRet w S z b (ctakeL L k) (tup3 (ctakeV L k))) := by
  have ht := h.top
  have hk0 : (0 : Int) ≤ (k : Int) := by omega
  have hk1 : (k : Int) < 16 := by omega
  by_cases h0 : L (k * 4) = []
  · by_cases h2 : L (k * 4 + 2) = []
    · have HV := Lib.hid (show ctakeV L k = (0, false, false) ∧ ctakeL L k = L by simp [ctakeV, ctakeL, h0, h2])
      have H0 := Lib.hid h0
      have H2 := Lib.hid h2
      clear h0 h2
      go_enter Try.func41, Try.ntmps41
      go_wp2_with fail
      refine (chas_yes k h hk).mono ?_
      rintro e w2 ⟨rfl, hw2⟩
      obtain rfl := hw2.symm
      go_wp2_with fail
      refine wp_loop_rounds 3 ?_
      rw [rounds_succ]
      go_wp2_with fail
      refine (clast_none (k * 4) h (by omega) H0.out).mono ?_
      rintro e w2 ⟨rfl, hw2⟩
      obtain rfl := hw2.symm
      go_wp2_with fail
      rw [rounds_succ]
      go_wp2_with fail
      refine (clast_none (k * 4 + 2) h (by omega) H2.out).mono ?_
      rintro e w2 ⟨rfl, hw2⟩
      obtain rfl := hw2.symm
      go_wp2_with fail
      rw [rounds_succ]
      go_wp2
      go_ret3
      rw [HV.out.1, HV.out.2]
      exact CRet.same h
    · obtain ⟨r, x, hrx⟩ := clast_eq h2
      have HV := Lib.hid (show ctakeV L k = (x, true, true) ∧ ctakeL L k = upd L (k * 4 + 2) r by simp [ctakeV, ctakeL, h0, hrx])
      have hlr := hl (k * 4 + 2) (by omega)
      rw [hrx, List.length_append] at hlr
      have hlr2 : r.length ≤ 800000 := by omega
      have H0 := Lib.hid h0
      have H2 := Lib.hid hrx
      clear h0 h2 hrx hlr
      go_enter Try.func41, Try.ntmps41
      go_wp2_with fail
      refine (chas_yes k h hk).mono ?_
      rintro e w2 ⟨rfl, hw2⟩
      obtain rfl := hw2.symm
      go_wp2_with fail
      refine wp_loop_rounds 2 ?_
      rw [rounds_succ]
      go_wp2_with fail
      refine (clast_none (k * 4) h (by omega) H0.out).mono ?_
      rintro e w2 ⟨rfl, hw2⟩
      obtain rfl := hw2.symm
      go_wp2_with fail
      rw [rounds_succ]
      go_wp2_with fail
      refine (clast_some (k * 4 + 2) h (by omega) r x H2.out hlr2).mono ?_
      rintro e w2 ⟨rfl, S', h1, h2, h3⟩
      go_wp2
      go_ret3
      rw [HV.out.1, HV.out.2]
      exact ⟨rfl, S', h1, h2, h3⟩
  · obtain ⟨r, x, hrx⟩ := clast_eq h0
    have HV := Lib.hid (show ctakeV L k = (x, false, true) ∧ ctakeL L k = upd L (k * 4) r by simp [ctakeV, ctakeL, hrx])
    have hlr := hl (k * 4) (by omega)
    rw [hrx, List.length_append] at hlr
    have hlr2 : r.length ≤ 800000 := by omega
    have H0 := Lib.hid hrx
    clear h0 hrx hlr
    go_enter Try.func41, Try.ntmps41
    go_wp2_with fail
    refine (chas_yes k h hk).mono ?_
    rintro e w2 ⟨rfl, hw2⟩
    obtain rfl := hw2.symm
    go_wp2_with fail
    refine wp_loop_rounds 1 ?_
    rw [rounds_succ]
    go_wp2_with fail
    refine (clast_some (k * 4) h (by omega) r x H0.out hlr2).mono ?_
    rintro e w2 ⟨rfl, S', h1, h2, h3⟩
    go_wp2
    go_ret3
    rw [HV.out.1, HV.out.2]
    exact ⟨rfl, S', h1, h2, h3⟩

/-- What TakeFull tells. -/
def clastV (L : Nat → List Int) (j : Nat) : Int × Bool := match (L j).getLast? with | some x => (x, true) | none => (0, false)
def clastL (L : Nat → List Int) (j : Nat) : Nat → List Int := if L j = [] then L else upd L j (L j).dropLast
def tup2 (p : Int × Bool) : Value := .tuple #[.int .i64 p.1, .bool p.2]
theorem cfull_no {w : World} {S : Nat → Prop} {z b : Nat} {L : Nat → List Int} (k : Int) (h : Cent w S z b L) (hk : ¬ (0 ≤ k ∧ k < 16)) :
    Calls Try.prog 43 #[.pointer (some ⟨z, 0, none⟩), .int .i64 k] w (CRet w S z b L (tup2 (0, false))) := by
  go_enter Try.func43, Try.ntmps43
  go_wp2_with fail
  refine (chas_no k h hk).mono ?_
  rintro e w2 ⟨rfl, hw2⟩
  obtain rfl := hw2.symm
  go_wp2
  go_ret2
  exact CRet.same h
set_option maxRecDepth 100000 in
theorem cfull_any {w : World} {S : Nat → Prop} {z b : Nat} {L : Nat → List Int} (k : Nat) (h : Cent w S z b L) (hk : k < 16) (hl : ∀ i, i < 64 → (L i).length ≤ 400000) :
    Calls Try.prog 43 #[.pointer (some ⟨z, 0, none⟩), .int .i64 k] w (CRet w S z b (clastL L (k * 4 + 3)) (tup2 (clastV L (k * 4 + 3)))) := by
  have ht := h.top
  have hk0 : (0 : Int) ≤ (k : Int) := by omega
  have hk1 : (k : Int) < 16 := by omega
  by_cases h0 : L (k * 4 + 3) = []
  · have HV := Lib.hid (show clastV L (k * 4 + 3) = (0, false) ∧ clastL L (k * 4 + 3) = L by simp [clastV, clastL, h0])
    have H0 := Lib.hid h0
    clear h0
    go_enter Try.func43, Try.ntmps43
    go_wp2_with fail
    refine (chas_yes k h hk).mono ?_
    rintro e w2 ⟨rfl, hw2⟩
    obtain rfl := hw2.symm
    go_wp2_with fail
    refine (clast_none (k * 4 + 3) h (by omega) H0.out).mono ?_
    rintro e w2 ⟨rfl, hw2⟩
    obtain rfl := hw2.symm
    go_wp2
    go_ret2
    rw [HV.out.1, HV.out.2]
    exact CRet.same h
  · obtain ⟨r, x, hrx⟩ := clast_eq h0
    have HV := Lib.hid (show clastV L (k * 4 + 3) = (x, true) ∧ clastL L (k * 4 + 3) = upd L (k * 4 + 3) r by simp [clastV, clastL, hrx])
    have hlr := hl (k * 4 + 3) (by omega)
    rw [hrx, List.length_append] at hlr
    have hlr2 : r.length ≤ 800000 := by omega
    have H0 := Lib.hid hrx
    clear h0 hrx hlr
    go_enter Try.func43, Try.ntmps43
    go_wp2_with fail
    refine (chas_yes k h hk).mono ?_
    rintro e w2 ⟨rfl, hw2⟩
    obtain rfl := hw2.symm
    go_wp2_with fail
    refine (clast_some (k * 4 + 3) h (by omega) r x H0.out hlr2).mono ?_
    rintro e w2 ⟨rfl, S', h1, h2, h3⟩
    go_wp2
    go_ret2
    rw [HV.out.1, HV.out.2]
    exact ⟨rfl, S', h1, h2, h3⟩

end Go.Proofs.Ytjjbcfbljnekgaa
