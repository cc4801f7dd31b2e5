/-
  treadmilllaw14.WaitOnce: the walk.
-/
import Derived.Test.YtjjbcfbljnekgaaWTold
import Derived.BigQuiet
import Derived.Deep.RegionHeld3
import Derived.IntWalk
namespace Go.Proofs.Ytjjbcfbljnekgaa
open Go.RowKit

/-- Block r holds two lists, in arrays that are none of the waits'. -/
def Two (w : World) (r : Nat) (o : Nat → Option Nat) (R : Nat → List Int) : Prop :=
  ∃ (A : Nat → Option Addr) (n c : Nat → Nat), w.rowIs r 48 2 (fun i => .slice (A i) (n i) (c i)) ∧ ∀ i, i < 2 → IsL w (A i) (n i) (c i) (R i) ∧ TyL w (A i) ∧ ∀ j, j < 32 → ∀ g, o j = some g → blk (A i) ≠ some g
theorem Two.keep {S : Nat → Prop} {w w' : World} {r : Nat} {o : Nat → Option Nat} {R : Nat → List Int} (h : Two w r o R) (m : Mod S w w') (hr : ¬ S r) (hs : ∀ A, TyL w A → (∀ j, j < 32 → ∀ g, o j = some g → blk A ≠ some g) → ∀ g, blk A = some g → ¬ S g) : Two w' r o R := by
  obtain ⟨A, n, c, hrow, ha⟩ := h
  refine ⟨A, n, c, m.rowIs hrow hr, fun i hi => ?_⟩
  obtain ⟨h1, h2, h3⟩ := ha i hi
  have key := hs (A i) h2 h3
  exact ⟨h1.keep m (fun d hd => key d.block (by rw [hd]; rfl)), h2.keep m key, h3⟩
theorem Two.keep0 {w w' : World} {r : Nat} {o : Nat → Option Nat} {R : Nat → List Int} (h : Two w r o R) (m : Mod (fun _ => False) w w') : Two w' r o R := h.keep m (fun h => h) (fun _ _ _ _ _ h => h)
theorem Two.lt {w : World} {r : Nat} {o : Nat → Option Nat} {R : Nat → List Int} (h : Two w r o R) : r < w.heap.size := by
  obtain ⟨A, n, c, hrow, ha⟩ := h
  exact hrow.lt
/-- An op of the waits leaves the two lists. -/
theorem Two.waits {w w' : World} {r b a : Nat} {o : Nat → Option Nat} {R L : Nat → List Int} {x : Option Nat} (h : Two w r o R) (hw : Waits w b o L) (m : Mod (WS b o) w w') (hx : x = o a ∨ ∀ i, x = some i → w.heap.size ≤ i) (ha : a < 32) : Two w' r (setF o a x) R := by
  obtain ⟨B, n, c, hrow, hb⟩ := h
  obtain ⟨A, n', c', hr, hown, hd⟩ := hw
  have hrb : r ≠ b := by
    rintro rfl
    obtain ⟨c1, h1, _⟩ := hrow
    obtain ⟨c2, h2, _⟩ := hr
    rw [h1] at h2
    injection h2 with h2
    injection h2 with _ h2
    exact absurd h2 (by decide)
  have hnr : ¬ WS b o r := by
    rintro (e | ⟨j, hj, e⟩)
    · exact hrb e
    · exact (hown j hj).1.ne_row hrow (by decide) (by rw [(hown j hj).2]; exact e)
  refine ⟨B, n, c, m.rowIs hrow hnr, fun i hi => ?_⟩
  obtain ⟨h1, h2, h3⟩ := hb i hi
  have key : ∀ g, blk (B i) = some g → ¬ WS b o g := by
    rintro g hg (e | ⟨j, hj, e⟩)
    · exact h2.ne hr (by decide) g hg e
    · exact h3 j hj g e hg
  refine ⟨h1.keep m (fun d hd => key d.block (by rw [hd]; rfl)), h2.keep m key, fun j hj g hg e => ?_⟩
  by_cases hja : j = a
  · subst hja
    rw [setF_same] at hg
    rcases hx with h4 | h4
    · exact h3 j hj g (by rw [← h4]; exact hg) e
    · have h5 := h4 g hg
      have h6 := h2.lt g e
      omega
  · rw [setF_ne _ _ hja] at hg
    exact h3 j hj g hg e
theorem Two.set {w w2 : World} {r a : Nat} {o : Nat → Option Nat} {R : Nat → List Int} {A2 : Option Addr} {n2 c2 : Nat} {l2 : List Int} (h : Two w r o R) (ha : a < 2) (m : Mod (fun _ => False) w w2) (h2 : IsL w2 A2 n2 c2 l2) (t2 : TyL w2 A2) (hd : ∀ j, j < 32 → ∀ g, o j = some g → blk A2 ≠ some g) :
    Two (w2.setCell ⟨r, a, none⟩ (.slice A2 n2 c2)) r o (setF R a l2) ∧ Mod (fun i => i = r) w (w2.setCell ⟨r, a, none⟩ (.slice A2 n2 c2)) := by
  obtain ⟨B, n, c, hrow, hb⟩ := h.keep0 m
  have ms : Mod (fun i => i = r) w2 (w2.setCell ⟨r, a, none⟩ (.slice A2 n2 c2)) := Mod.setCell (Mod.refl (fun i => i = r) w2) (p := ⟨r, a, none⟩) (.inl rfl) _
  have hne2 := t2.ne hrow (by decide)
  refine ⟨⟨setF B a A2, setF n a n2, setF c a c2, (hrow.set a _).congr (fun i hi => ?_), fun i hi => ?_⟩, (m.mono (fun _ _ h => h.elim)).trans ms⟩
  · by_cases e : i = a
    · subst e; simp [setF]
    · simp [setF, e]
  · by_cases e : i = a
    · subst e
      rw [setF_same, setF_same, setF_same, setF_same]
      exact ⟨h2.keep ms (fun d hd => hne2 d.block (by rw [hd]; rfl)), t2.keep ms hne2, hd⟩
    · rw [setF_ne _ _ e, setF_ne _ _ e, setF_ne _ _ e, setF_ne _ _ e]
      obtain ⟨h3, h4, h5⟩ := hb i hi
      have hne := h4.ne hrow (by decide)
      exact ⟨h3.keep ms (fun d hd => hne d.block (by rw [hd]; rfl)), h4.keep ms hne, h5⟩

theorem Two.apart {w : World} {r b : Nat} {o : Nat → Option Nat} {R L : Nat → List Int} (h : Two w r o R) (hw : Waits w b o L) : ∀ k, WS b o k → ¬ k = r := by
  obtain ⟨B, n, c, hrow, hb⟩ := h
  obtain ⟨A, n', c', hr, hown, hd⟩ := hw
  rintro k hk rfl
  rcases hk with rfl | ⟨j, hj, e⟩
  · obtain ⟨c1, h1, _⟩ := hrow
    obtain ⟨c2, h2, _⟩ := hr
    rw [h1] at h2
    injection h2 with h2
    injection h2 with _ h2
    exact absurd h2 (by decide)
  · exact (hown j hj).1.ne_row hrow (by decide) (by rw [(hown j hj).2]; exact e)
theorem Two.cell {w : World} {r a : Nat} {o : Nat → Option Nat} {R : Nat → List Int} (h : Two w r o R) (ha : a < 2) : ∃ A n c, w.cell? ⟨r, a, none⟩ = some (.slice A n c) ∧ IsL w A n c (R a) ∧ TyL w A ∧ (∀ j, j < 32 → ∀ g, o j = some g → blk A ≠ some g) ∧ w.frozen? ⟨r, a, none⟩ = false := by
  obtain ⟨B, n, c, hrow, hb⟩ := h
  obtain ⟨h1, h2, h3⟩ := hb a ha
  exact ⟨B a, n a, c a, hrow.cell ha, h1, h2, h3, hrow.frozen a⟩
theorem Two.new (w : World) : Two (w.alloc (.cells #[.slice none 0 0, .slice none 0 0] 48)) w.heap.size (fun _ => none) (fun _ => []) := by
  refine ⟨fun _ => none, fun _ => 0, fun _ => 0, ?_, fun i hi => ⟨IsL.nil _, TyL.nil _, fun j _ g hg => by cases hg⟩⟩
  exact World.rowIs_alloc w _ 48 (fun _ => .slice none 0 0) (fun i hi => by
    have h01 : i = 0 ∨ i = 1 := by simp at hi; omega
    rcases h01 with rfl | rfl <;> rfl)

theorem ints_same (A A' : Option Addr) (n n' c c' : Nat) (l : List Int) (w : World) (h : IsL w A n c l) (h' : IsL w A' n' c' l) (hn : n ≤ 900000) :
    Calls Try.prog 18 #[.slice A n c, .slice A' n' c'] w fun e w' => e = .returned (.bool true) ∧ Mod (fun _ => False) w w' := by
  have hnn : n' = n := by rw [← h.len, ← h'.len]
  refine (ints_any A A' n n' c c' l l w h h' hn (by omega)).mono ?_
  rintro e w' ⟨rfl, k, rfl⟩
  exact ⟨by simp, (Mod.refl _ w).drewN k⟩

theorem wlen_two (b : Nat) (o : Nat → Option Nat) (L : Nat → List Int) (m n : Nat) (w : World) (h : Waits w b o L) (hl : ∀ i, i < 32 → (L i).length ≤ 900000) (hs : Hid (wsum L 32 = m + n)) :
    Calls Try.prog 30 #[.pointer (some ⟨b, 0, none⟩)] w fun e w' => e = .returned (.int .i64 ((m : Int) + (n : Int))) ∧ Mod (fun _ => False) w w' := by
  refine (wlen_any b o L w h hl).mono ?_
  rintro e w' ⟨rfl, rfl⟩
  exact ⟨by rw [hs.out]; simp, Mod.refl _ _⟩
theorem wwait_nil2 (at' g : Int) (w : World) : Calls Try.prog 28 #[.pointer none, .int .i64 at', .int .i64 g] w fun e w' => e = .returned (.int .i64 1) ∧ Mod (fun _ => False) w w' :=
  (wwait_nil at' g w).mono fun _ _ ⟨he, hw⟩ => ⟨he, hw ▸ Mod.refl _ _⟩
theorem wlen_nil2 (w : World) : Calls Try.prog 30 #[.pointer none] w fun e w' => e = .returned (.int .i64 0) ∧ Mod (fun _ => False) w w' :=
  (wlen_nil w).mono fun _ _ ⟨he, hw⟩ => ⟨he, hw ▸ Mod.refl _ _⟩

set_option maxRecDepth 100000 in
theorem once_long (A : Option Addr) (n c : Nat) (w : World) (hn : ¬ n ≤ 60) : Calls Try.prog 6 #[.slice A n c] w fun e w' => e = .returned (.bool true) ∧ Mod (fun _ => False) w w' := by
  have hd : decide (60 < n) = true := decide_eq_true (by omega)
  go_enter Try.func6, Try.ntmps6
  go_wp2_with fail
  refine (told14 _).mono ?_
  rintro e w1 ⟨rfl, m1⟩
  go_wp2
  go_ret
  exact ⟨rfl, m1⟩

set_option maxHeartbeats 4000000 in
set_option maxRecDepth 100000 in
theorem once_true (A : Option Addr) (n c : Nat) (l : List Int) (w : World) (_ : n ≤ maxLen) (hl : 0 < n → IsL w A n c l) : Calls Try.prog 6 #[.slice A n c] w fun e w' => e = .returned (.bool true) ∧ Mod (fun _ => False) w w' := by
  by_cases hn : n ≤ 60
  case neg => exact once_long A n c w hn
  have hd : decide (60 < n) = false := decide_eq_false (by omega)
  go_enter Try.func6, Try.ntmps6
  go_wp2_with fail
  refine (wnew _).mono ?_
  rintro e w1 ⟨b, rfl, hb, hq1, m1⟩
  go_wp2_with fail
  obtain ⟨r, hr⟩ : ∃ r, r = w1.heap.size := ⟨_, rfl⟩
  have ht := Two.new w1
  have mA : Mod (fun _ => False) w1 (w1.alloc (.cells #[.slice none 0 0, .slice none 0 0] 48)) := (Mod.refl _ w1).alloc _
  rw [← hr] at ht
  rw [← hr]
  have hSr : ∀ i, i = r → w.heap.size ≤ i := fun i hi => by subst hi; have := m1.size; omega
  have hWS : ∀ (o : Nat → Option Nat), (∀ i, i < 32 → ∀ k, o i = some k → w.heap.size ≤ k) → ∀ i, WS b o i → w.heap.size ≤ i := by
    rintro o ho i (rfl | ⟨j, hj, hk⟩)
    · exact hb
    · exact ho j hj i hk
  have hqA := hq1.keep0 mA
  have hmA := m1.trans mA
  clear hq1 m1 mA hr
  go_loopw [5] (fun i wr => ∃ (k : Nat) (o : Nat → Option Nat) (R : Nat → List Int), k ≤ n ∧ i = .int .i64 k ∧ Waits wr b o R ∧ Two wr r o R ∧ (∀ i, i < 32 → ∀ k, o i = some k → w.heap.size ≤ k) ∧ (∀ i, 2 ≤ i → R i = []) ∧ (∀ i, (R i).length ≤ k) ∧ Mod (fun _ => False) w wr) (fun i _ => n - (intOf i).toNat)
  case atStart => exact ⟨0, _, _, by omega, rfl, hqA, ht, (fun i _ k hk => by cases hk), (fun _ _ => rfl), (fun _ => by simp), hmA⟩
  case round =>
    clear hqA ht hmA
    obtain ⟨k, o, R, hk, rfl, hq, ht, ho, hR2, hRl, hm⟩ := hrel
    by_cases hkn : k < n
    · obtain ⟨gl, ol, rfl, hcl⟩ := ((hl (by omega)).keep0 hm).at_ hkn
      obtain ⟨x, hx⟩ : ∃ x, x = l.getD k 0 := ⟨_, rfl⟩
      rw [← hx] at hcl
      obtain ⟨a, ha, ea⟩ := umod x 2 (by omega)
      have ea' : (IntKind.u64.wrap x).tmod 2 = (a : Int) := ea
      obtain ⟨g, hg, eg⟩ := umod (wrap64 (x.tdiv 2)) 6 (by omega)
      have eg' : (IntKind.u64.wrap (wrap64 (x.tdiv 2))).tmod 6 = (g : Int) := eg
      clear ea eg hx
      have hx800 : ∀ i, i < 32 → (R i).length ≤ 900000 := fun i _ => by have := hRl i; omega
      have hai0 : (0 : Int) ≤ (a : Int) := by omega
      have hai1 : (a : Int) < 2 := by omega
      obtain ⟨A2, n2, c2, hct, hL2, ht2, hd2, hf2⟩ := ht.cell ha
      have hrl := ht.lt
      have hn2 : n2 ≤ 60 := by rw [← hL2.len]; have := hRl a; omega
      by_cases hbit : bits BinOp.and IntKind.i64 x 64 = 0
      · have hbb : (bits BinOp.and IntKind.i64 x 64 != 0) = false := by rw [hbit]; rfl
        clear hbit
        obtain ⟨B0, m0, d0, hc0, hL0, _, _, _⟩ := ht.cell (a := 0) (by omega)
        obtain ⟨B1, n1, d1, hc1, hL1, _, _, _⟩ := ht.cell (a := 1) (by omega)
        have hm0 : m0 ≤ 60 := by rw [← hL0.len]; have := hRl 0; omega
        have hm1 : n1 ≤ 60 := by rw [← hL1.len]; have := hRl 1; omega
        by_cases h0 : (g : Int) ∈ R 0
        · have HD0 := Lib.hid (decide_eq_true h0)
          go_wp2
          go_quiet (fail)
          have hqq : Waits (wr.drewN nq) b o R := hq.keep0 ((Mod.refl _ wr).drewN nq)
          have htt : Two (wr.drewN nq) r o R := ht.keep0 ((Mod.refl _ wr).drewN nq)
          have hL0q : IsL (wr.drewN nq) B0 m0 d0 (R 0) := hL0.keep0 ((Mod.refl _ wr).drewN nq)
          have hL1q : IsL (wr.drewN nq) B1 n1 d1 (R 1) := hL1.keep0 ((Mod.refl _ wr).drewN nq)
          go_wp2_with fail
          refine (has_any B0 m0 d0 (R 0) g (wr.drewN nq) hL0q (by omega)).mono ?_
          rintro e w2 ⟨rfl, rfl⟩
          rw [HD0.out]
          go_wp2_with fail
          refine (wwait_in b o R a g (wr.drewN nq) hqq (by omega) hx800 ⟨0, by omega, h0⟩).mono ?_
          rintro e w2 ⟨rfl, rfl⟩
          go_wp2
          go_roundw
          case rel => exact ⟨k + 1, o, R, by omega, by go_num, hqq, htt, ho, hR2, (fun i => by have := hRl i; omega), hm.drewN nq⟩
          case measure => simp [intOf]; omega
        · have HD0 := Lib.hid (decide_eq_false h0)
          by_cases h1 : (g : Int) ∈ R 1
          · have HD1 := Lib.hid (decide_eq_true h1)
            go_wp2
            go_quiet (fail)
            have hqq : Waits (wr.drewN nq) b o R := hq.keep0 ((Mod.refl _ wr).drewN nq)
            have htt : Two (wr.drewN nq) r o R := ht.keep0 ((Mod.refl _ wr).drewN nq)
            have hL0q : IsL (wr.drewN nq) B0 m0 d0 (R 0) := hL0.keep0 ((Mod.refl _ wr).drewN nq)
            have hL1q : IsL (wr.drewN nq) B1 n1 d1 (R 1) := hL1.keep0 ((Mod.refl _ wr).drewN nq)
            go_wp2_with fail
            refine (has_any B0 m0 d0 (R 0) g (wr.drewN nq) hL0q (by omega)).mono ?_
            rintro e w2 ⟨rfl, rfl⟩
            rw [HD0.out]
            go_wp2_with fail
            refine (has_any B1 n1 d1 (R 1) g (wr.drewN nq) hL1q (by omega)).mono ?_
            rintro e w2 ⟨rfl, rfl⟩
            rw [HD1.out]
            go_wp2_with fail
            refine (wwait_in b o R a g (wr.drewN nq) hqq (by omega) hx800 ⟨1, by omega, h1⟩).mono ?_
            rintro e w2 ⟨rfl, rfl⟩
            go_wp2
            go_roundw
            case rel => exact ⟨k + 1, o, R, by omega, by go_num, hqq, htt, ho, hR2, (fun i => by have := hRl i; omega), hm.drewN nq⟩
            case measure => simp [intOf]; omega
          · have HD1 := Lib.hid (decide_eq_false h1)
            have hno : ∀ i, i < 32 → ¬ (g : Int) ∈ R i := by
              intro i hi
              have h01 : i = 0 ∨ i = 1 ∨ 2 ≤ i := by omega
              rcases h01 with rfl | rfl | h
              · exact h0
              · exact h1
              · rw [hR2 i h]; simp
            go_wp2
            go_quiet (fail)
            have hqq : Waits (wr.drewN nq) b o R := hq.keep0 ((Mod.refl _ wr).drewN nq)
            have htt : Two (wr.drewN nq) r o R := ht.keep0 ((Mod.refl _ wr).drewN nq)
            have hL0q : IsL (wr.drewN nq) B0 m0 d0 (R 0) := hL0.keep0 ((Mod.refl _ wr).drewN nq)
            have hL1q : IsL (wr.drewN nq) B1 n1 d1 (R 1) := hL1.keep0 ((Mod.refl _ wr).drewN nq)
            go_wp2_with fail
            refine (has_any B0 m0 d0 (R 0) g (wr.drewN nq) hL0q (by omega)).mono ?_
            rintro e w2 ⟨rfl, rfl⟩
            rw [HD0.out]
            go_wp2_with fail
            refine (has_any B1 n1 d1 (R 1) g (wr.drewN nq) hL1q (by omega)).mono ?_
            rintro e w2 ⟨rfl, rfl⟩
            rw [HD1.out]
            go_wp2_with fail
            refine (wwait_put b o R a g (wr.drewN nq) hqq (by omega) hx800 hno).mono ?_
            rintro e w2 ⟨rfl, X, hq2, hX, m2⟩
            have hmW := (hm.drewN nq).new m2 (hWS o ho)
            have htW := htt.waits hqq m2 hX (by omega : a < 32)
            obtain ⟨A3, n3, c3, hct3, hL3, ht3, hd3, hf3⟩ := htW.cell ha
            have hrl3 := htW.lt
            have hn3 : n3 ≤ 60 := by rw [← hL3.len]; have := hRl a; omega
            go_wp2_with (at_builtin; first
              | (have _t := hown5
                 refine wpList_app _ (by rfl) (.tmp 114) (.tmp 116) _ (by rfl) Try.underlying35 int_info _ _ _ _ (by rfl) (hown5.alloc _) _ _ _ _ (by rfl) (IsL.one _ (g : Int)) (by omega) ?_
                 intro A6 n6 c6 w6 hn6 hn6b hown6 hg6 hat6
                 have m6 : Mod (fun _ => False) w2 w6 := (m5.alloc _).grown hg6 (fun k hk => .inr (hfr5 k hk))
                 have hfr6 : ∀ d, blk A6 = some d → w2.heap.size ≤ d := fresh_app hfr5 m5.size hat6
                 have hct6 : w6.cell? ⟨r, a, none⟩ = some (.slice A3 n3 c3) := (m6.cell (p := ⟨r, a, none⟩) hrl3 (fun h => h)).trans hct3
                 have hf6 : w6.frozen? ⟨r, a, none⟩ = false := (m6.frozen (p := ⟨r, a, none⟩) hrl3 (fun h => h)).trans hf3
                 have hr6 : r < w6.heap.size := Nat.lt_of_lt_of_le hrl3 m6.size)
              | (refine wpList_app _ (by rfl) (.tmp 110) (.tmp 113) _ (by rfl) Try.underlying35 int_info _ _ _ _ (by rfl) (OwnL.empty w2) A3 n3 c3 _ (by rfl) (hL3.alloc _) (by omega) ?_
                 intro A5 n5 c5 w5 hn5 hn5b hown5 hg5 hat5
                 have m5 : Mod (fun _ => False) w2 w5 := ((Mod.refl _ w2).alloc _).grown hg5 (fun k hk => .inr (by simp [blk] at hk; omega))
                 have hfr5 : ∀ d, blk A5 = some d → w2.heap.size ≤ d := fresh_app (blk_size w2) (Nat.le_refl _) hat5))
            go_roundw
            case rel =>
              have hdis : ∀ j, j < 32 → ∀ q, setF o a X j = some q → blk A6 ≠ some q := by
                intro j hj q hq3 e
                have h5 := hq2.lt q (.inr ⟨j, hj, hq3⟩)
                have h6 := hfr6 q e
                omega
              obtain ⟨ht6, m7⟩ := htW.set ha m6 hown6.isL hown6.ty hdis
              have hq6 := hq2.keep m7 (htW.apart hq2)
              have eR : ([] ++ R a ++ [(g : Int)] : List Int) = R a ++ [(g : Int)] := by simp
              rw [eR] at ht6
              refine ⟨k + 1, setF o a X, setF R a (R a ++ [(g : Int)]), by omega, by go_num, hq6, ht6, fun i hi q hq3 => ?_, fun i hi => ?_, fun i => ?_, hmW.new m7 hSr⟩
              · by_cases e : i = a
                · subst e
                  rw [setF_same] at hq3
                  rcases hX with h4 | h4
                  · exact ho i hi q (by rw [← h4]; exact hq3)
                  · have h5 : wr.heap.size ≤ q := h4 q hq3
                    have h6 := hm.size
                    omega
                · rw [setF_ne _ _ e] at hq3
                  exact ho i hi q hq3
              · rw [setF_ne _ _ (by omega)]
                exact hR2 i hi
              · have h5 := hRl i
                by_cases e : i = a
                · subst e
                  rw [setF_same, List.length_append]
                  simp only [List.length_cons, List.length_nil]
                  omega
                · rw [setF_ne _ _ e]
                  omega
            case measure => simp [intOf]; omega
      · have hbb : (bits BinOp.and IntKind.i64 x 64 != 0) = true := by simpa using hbit
        clear hbit
        cases hRa : R a with
        | nil =>
          have hn0 : n2 = 0 := by rw [← hL2.len, hRa]; rfl
          subst hn0
          have HR := Lib.hid hRa
          clear hRa
          go_wp2
          go_quiet (fail)
          have hqq : Waits (wr.drewN nq) b o R := hq.keep0 ((Mod.refl _ wr).drewN nq)
          have htt : Two (wr.drewN nq) r o R := ht.keep0 ((Mod.refl _ wr).drewN nq)
          go_wp2_with fail
          refine (wwake_none b o R a (wr.drewN nq) hqq (by omega) HR.out).mono ?_
          rintro e w2 ⟨rfl, rfl⟩
          go_wp2
          go_roundw
          case rel => exact ⟨k + 1, o, R, by omega, by go_num, hqq, htt, ho, hR2, (fun i => by have := hRl i; omega), hm.drewN nq⟩
          case measure => simp [intOf]; omega
        | cons y rest =>
          have HR := Lib.hid hRa
          have hrestl : rest.length ≤ 60 := by have := hRl a; rw [hRa] at this; simp at this; omega
          clear hRa
          go_wp2
          go_quiet (fail)
          have hqq : Waits (wr.drewN nq) b o R := hq.keep0 ((Mod.refl _ wr).drewN nq)
          have htt : Two (wr.drewN nq) r o R := ht.keep0 ((Mod.refl _ wr).drewN nq)
          go_wp2_with fail
          refine (wwake_one b o R a y rest (wr.drewN nq) hqq (by omega) HR.out (by omega)).mono ?_
          rintro e w2 ⟨rfl, X, hq2, hX, m2⟩
          have hmW := (hm.drewN nq).new m2 (hWS o ho)
          have htW := htt.waits hqq m2 (.inr hX) (by omega : a < 32)
          obtain ⟨A3, n3, c3, hct3, hL3, ht3, hd3, hf3⟩ := htW.cell ha
          have hrl3 := htW.lt
          have hn3 : n3 = rest.length + 1 := by rw [← hL3.len, HR.out]; rfl
          obtain ⟨g3, o3, rfl, hcg3⟩ := hL3.at_ (k := 0) (by omega)
          rw [HR.out] at hcg3
          have hcg3' : w2.cell? ⟨g3, o3, none⟩ = some (.int .i64 y) := hcg3
          obtain ⟨A4, n4, c4, hcut, hL4, hblk4⟩ := cut_low (P := Try.prog) 35 Try.underlying35 int_info (some ⟨g3, o3, none⟩) n3 c3 1 (by omega)
          have hcut' : ∀ (W : World), (Instr.sliceAt 35 (.slice (some ⟨g3, o3, none⟩) n3 c3) (some (.int .i64 1)) none none).run Try.prog W = .ok (.slice A4 n4 c4) W := hcut
          have hL5 : IsL w2 A4 n4 c4 rest := by have := hL4 w2 _ hL3; rw [HR.out] at this; exact this
          have hn3p : (0 : Int) < (n3 : Int) := by omega
          clear hcut hcg3
          have HN3 := Lib.hid hn3
          clear hn3
          go_wp2
          go_roundw
          case rel =>
            have t4 : TyL w2 A4 := fun q hq3 => ht3 q (by rw [← hblk4]; exact hq3)
            have d4 : ∀ j, j < 32 → ∀ q, setF o a X j = some q → blk A4 ≠ some q := fun j hj q hq3 => by rw [hblk4]; exact hd3 j hj q hq3
            obtain ⟨ht6, m7⟩ := htW.set ha (Mod.refl _ w2) hL5 t4 d4
            have hq6 := hq2.keep m7 (htW.apart hq2)
            refine ⟨k + 1, setF o a X, setF R a rest, by omega, by go_num, hq6, ht6, fun i hi q hq3 => ?_, fun i hi => ?_, fun i => ?_, hmW.new m7 hSr⟩
            · by_cases e : i = a
              · subst e
                rw [setF_same] at hq3
                have h5 : wr.heap.size ≤ q := hX q hq3
                have h6 := hm.size
                omega
              · rw [setF_ne _ _ e] at hq3
                exact ho i hi q hq3
            · rw [setF_ne _ _ (by omega)]
              exact hR2 i hi
            · have h5 := hRl i
              by_cases e : i = a
              · subst e
                rw [HR.out] at h5
                simp only [List.length_cons] at h5
                rw [setF_same]
                omega
              · rw [setF_ne _ _ e]
                omega
          case measure => simp [intOf]; omega
    · clear hl
      have hs : wsum R 32 = (R 0).length + (R 1).length := by
        have key : ∀ m, wsum R (m + 2) = (R 0).length + (R 1).length := by
          intro m
          induction m with
          | zero => simp [wsum]
          | succ m ih => rw [show m + 1 + 2 = (m + 2) + 1 by omega, wsum, ih, hR2 (m + 2) (by omega)]; simp
        exact key 30
      have hx800 : ∀ i, i < 32 → (R i).length ≤ 900000 := fun i _ => by have := hRl i; omega
      obtain ⟨B0, m0, d0, x0, L00, _, _, _⟩ := ht.cell (a := 0) (by omega)
      obtain ⟨B1, n1, d1, y0, L10, _, _, _⟩ := ht.cell (a := 1) (by omega)
      have hm0 : m0 ≤ 60 := by rw [← L00.len]; have := hRl 0; omega
      have hm1 : n1 ≤ 60 := by rw [← L10.len]; have := hRl 1; omega
      rw [L00.len, L10.len] at hs
      have HS := Lib.hid hs
      clear hs
      have q0 := hq
      have r0 := ht.lt
      go_wp2_with fail
      refine (wwake_nil 0 _).mono ?_
      rintro e wz ⟨rfl, hz⟩
      obtain rfl := hz.symm
      have hwr : IntKind.i64.wrap ((m0 : Int) + (n1 : Int)) = (m0 : Int) + (n1 : Int) := IntWalk.i64_in _ (by omega)
      go_wp2_with fail
      go_region_held3 (fun W => W.cell? ⟨r, 0, none⟩ = some (.slice B0 m0 d0) ∧ W.cell? ⟨r, 1, none⟩ = some (.slice B1 n1 d1)) (first | (with_reducible exact ⟨x8, y8⟩) | (with_reducible exact ⟨x7, y7⟩) | (with_reducible exact ⟨x6, y6⟩) | (with_reducible exact ⟨x5, y5⟩) | (with_reducible exact ⟨x4, y4⟩) | (with_reducible exact ⟨x3, y3⟩) | (with_reducible exact ⟨x2, y2⟩) | (with_reducible exact ⟨x1, y1⟩) | (with_reducible exact ⟨x0, y0⟩) | go_keep)
        (first
          | (go_at_call 30
             have _t := q7
             refine (wlen_nil2 _).mono ?_
             rintro e v8 ⟨rfl, m8⟩
             have m8' : Mod (fun _ => False) v7 v8 := by first | (with_reducible exact m8) | exact (((Mod.refl _ v7).drew).trans m8)
             have q8 := q7.keep0 m8'
             have L08 := L07.keep0 m8'
             have L18 := L17.keep0 m8'
             have r8 : r < v8.heap.size := Nat.lt_of_lt_of_le r7 m8'.size
             have x8 : v8.cell? ⟨r, 0, none⟩ = some (.slice B0 m0 d0) := (m8'.cell (p := ⟨r, 0, none⟩) r7 (fun h => h)).trans x7
             have y8 : v8.cell? ⟨r, 1, none⟩ = some (.slice B1 n1 d1) := (m8'.cell (p := ⟨r, 1, none⟩) r7 (fun h => h)).trans y7)
          | (go_at_call 28
             have _t := q6
             refine (wwait_nil2 0 1 _).mono ?_
             rintro e v7 ⟨rfl, m7⟩
             have m7' : Mod (fun _ => False) v6 v7 := by first | (with_reducible exact m7) | exact (((Mod.refl _ v6).drew).trans m7)
             have q7 := q6.keep0 m7'
             have L07 := L06.keep0 m7'
             have L17 := L16.keep0 m7'
             have r7 : r < v7.heap.size := Nat.lt_of_lt_of_le r6 m7'.size
             have x7 : v7.cell? ⟨r, 0, none⟩ = some (.slice B0 m0 d0) := (m7'.cell (p := ⟨r, 0, none⟩) r6 (fun h => h)).trans x6
             have y7 : v7.cell? ⟨r, 1, none⟩ = some (.slice B1 n1 d1) := (m7'.cell (p := ⟨r, 1, none⟩) r6 (fun h => h)).trans y6)
          | (go_at_call 30
             have _t := q5
             refine (wlen_two b o R m0 n1 _ (by first | (with_reducible exact q5) | exact q5.keep0 ((Mod.refl _ v5).drew)) hx800 HS).mono ?_
             rintro e v6 ⟨rfl, m6⟩
             have m6' : Mod (fun _ => False) v5 v6 := by first | (with_reducible exact m6) | exact (((Mod.refl _ v5).drew).trans m6)
             have q6 := q5.keep0 m6'
             have L06 := L05.keep0 m6'
             have L16 := L15.keep0 m6'
             have r6 : r < v6.heap.size := Nat.lt_of_lt_of_le r5 m6'.size
             have x6 : v6.cell? ⟨r, 0, none⟩ = some (.slice B0 m0 d0) := (m6'.cell (p := ⟨r, 0, none⟩) r5 (fun h => h)).trans x5
             have y6 : v6.cell? ⟨r, 1, none⟩ = some (.slice B1 n1 d1) := (m6'.cell (p := ⟨r, 1, none⟩) r5 (fun h => h)).trans y5)
          | (go_at_call 18
             have _t := own4
             refine (ints_same C4 B1 p4 n1 s4 d1 (R 1) _ (by first | (with_reducible exact own4.isL) | exact own4.isL.keep0 ((Mod.refl _ v4).drew)) (by first | (with_reducible exact L14) | exact L14.keep0 ((Mod.refl _ v4).drew)) hp4).mono ?_
             rintro e v5 ⟨rfl, m5⟩
             have m5' : Mod (fun _ => False) v4 v5 := by first | (with_reducible exact m5) | exact (((Mod.refl _ v4).drew).trans m5)
             have q5 := q4.keep0 m5'
             have L05 := L04.keep0 m5'
             have L15 := L14.keep0 m5'
             have r5 : r < v5.heap.size := Nat.lt_of_lt_of_le r4 m5'.size
             have x5 : v5.cell? ⟨r, 0, none⟩ = some (.slice B0 m0 d0) := (m5'.cell (p := ⟨r, 0, none⟩) r4 (fun h => h)).trans x4
             have y5 : v5.cell? ⟨r, 1, none⟩ = some (.slice B1 n1 d1) := (m5'.cell (p := ⟨r, 1, none⟩) r4 (fun h => h)).trans y4)
          | (go_at_call 29
             have _t := q3
             refine (wall_any b o R 1 _ (by first | (with_reducible exact q3) | exact q3.keep0 ((Mod.refl _ v3).drew)) (by omega) (hx800 1 (by omega))).mono ?_
             rintro e v4 ⟨C4, p4, s4, rfl, own4, _, m4⟩
             have m4' : Mod (fun _ => False) v3 v4 := by first | (with_reducible exact m4) | exact (((Mod.refl _ v3).drew).trans m4)
             have hp4 : p4 ≤ 900000 := by rw [← own4.len]; exact hx800 1 (by omega)
             have q4 := q3.keep0 m4'
             have L04 := L03.keep0 m4'
             have L14 := L13.keep0 m4'
             have r4 : r < v4.heap.size := Nat.lt_of_lt_of_le r3 m4'.size
             have x4 : v4.cell? ⟨r, 0, none⟩ = some (.slice B0 m0 d0) := (m4'.cell (p := ⟨r, 0, none⟩) r3 (fun h => h)).trans x3
             have y4 : v4.cell? ⟨r, 1, none⟩ = some (.slice B1 n1 d1) := (m4'.cell (p := ⟨r, 1, none⟩) r3 (fun h => h)).trans y3)
          | (go_at_call 18
             have _t := own2
             refine (ints_same C2 B0 p2 m0 s2 d0 (R 0) _ (by first | (with_reducible exact own2.isL) | exact own2.isL.keep0 ((Mod.refl _ v2).drew)) (by first | (with_reducible exact L02) | exact L02.keep0 ((Mod.refl _ v2).drew)) hp2).mono ?_
             rintro e v3 ⟨rfl, m3⟩
             have m3' : Mod (fun _ => False) v2 v3 := by first | (with_reducible exact m3) | exact (((Mod.refl _ v2).drew).trans m3)
             have q3 := q2.keep0 m3'
             have L03 := L02.keep0 m3'
             have L13 := L12.keep0 m3'
             have r3 : r < v3.heap.size := Nat.lt_of_lt_of_le r2 m3'.size
             have x3 : v3.cell? ⟨r, 0, none⟩ = some (.slice B0 m0 d0) := (m3'.cell (p := ⟨r, 0, none⟩) r2 (fun h => h)).trans x2
             have y3 : v3.cell? ⟨r, 1, none⟩ = some (.slice B1 n1 d1) := (m3'.cell (p := ⟨r, 1, none⟩) r2 (fun h => h)).trans y2)
          | (go_at_call 29
             have _t := q1
             refine (wall_any b o R 0 _ (by first | (with_reducible exact q1) | exact q1.keep0 ((Mod.refl _ v1).drew)) (by omega) (hx800 0 (by omega))).mono ?_
             rintro e v2 ⟨C2, p2, s2, rfl, own2, _, m2⟩
             have m2' : Mod (fun _ => False) v1 v2 := by first | (with_reducible exact m2) | exact (((Mod.refl _ v1).drew).trans m2)
             have hp2 : p2 ≤ 900000 := by rw [← own2.len]; exact hx800 0 (by omega)
             have q2 := q1.keep0 m2'
             have L02 := L01.keep0 m2'
             have L12 := L11.keep0 m2'
             have r2 : r < v2.heap.size := Nat.lt_of_lt_of_le r1 m2'.size
             have x2 : v2.cell? ⟨r, 0, none⟩ = some (.slice B0 m0 d0) := (m2'.cell (p := ⟨r, 0, none⟩) r1 (fun h => h)).trans x1
             have y2 : v2.cell? ⟨r, 1, none⟩ = some (.slice B1 n1 d1) := (m2'.cell (p := ⟨r, 1, none⟩) r1 (fun h => h)).trans y1)
          | (go_at_call 25
             refine (told14 _).mono ?_
             rintro e v1 ⟨rfl, m1⟩
             have m1' : Mod (fun _ => False) wr v1 := by first | (with_reducible exact m1) | exact (((Mod.refl _ wr).drew).trans m1)
             have q1 := q0.keep0 m1'
             have L01 := L00.keep0 m1'
             have L11 := L10.keep0 m1'
             have r1 : r < v1.heap.size := Nat.lt_of_lt_of_le r0 m1'.size
             have x1 : v1.cell? ⟨r, 0, none⟩ = some (.slice B0 m0 d0) := (m1'.cell (p := ⟨r, 0, none⟩) r0 (fun h => h)).trans x0
             have y1 : v1.cell? ⟨r, 1, none⟩ = some (.slice B1 n1 d1) := (m1'.cell (p := ⟨r, 1, none⟩) r0 (fun h => h)).trans y0))
      all_goals (
        clear hwr
        go_wp2
        go_ret
        exact ⟨rfl, (((((((hm.trans m1').trans m2').trans m3').trans m4').trans m5').trans m6').trans m7').trans m8'⟩)

end Go.Proofs.Ytjjbcfbljnekgaa
