/-
  treadmilllaw14.WaitOrder: the walk.
-/
import Derived.Test.YtjjbcfbljnekgaaWLaw
namespace Go.Proofs.Ytjjbcfbljnekgaa
open Go.RowKit

/-- Those of i, i + 1, .. (k of them) for which p holds. -/
def pick (p : Nat → Bool) : Nat → Nat → List Int
  | _, 0 => []
  | i, k + 1 => if p i then (i : Int) :: pick p (i + 1) k else pick p (i + 1) k
theorem pick_snoc (p : Nat → Bool) (i k : Nat) : pick p i (k + 1) = pick p i k ++ (if p (i + k) then [((i + k : Nat) : Int)] else []) := by
  induction k generalizing i with
  | zero => simp [pick]
  | succ k ih =>
    rw [pick, ih (i + 1), pick]
    have e : i + 1 + k = i + (k + 1) := by omega
    rw [e]
    by_cases h : p i <;> simp [h]
theorem mem_pick {p : Nat → Bool} {i k : Nat} {x : Int} : x ∈ pick p i k ↔ ∃ j : Nat, i ≤ j ∧ j < i + k ∧ p j = true ∧ x = (j : Int) := by
  induction k generalizing i with
  | zero => simp [pick]; omega
  | succ k ih =>
    rw [pick]
    by_cases h : p i
    · rw [if_pos h, List.mem_cons, ih]
      constructor
      · rintro (rfl | ⟨j, h1, h2, h3, h4⟩)
        · exact ⟨i, by omega, by omega, h, rfl⟩
        · exact ⟨j, by omega, by omega, h3, h4⟩
      · rintro ⟨j, h1, h2, h3, h4⟩
        by_cases e : j = i
        · subst e; exact .inl h4
        · exact .inr ⟨j, by omega, by omega, h3, h4⟩
    · rw [if_neg h, ih]
      constructor
      · rintro ⟨j, h1, h2, h3, h4⟩
        exact ⟨j, by omega, by omega, h3, h4⟩
      · rintro ⟨j, h1, h2, h3, h4⟩
        refine ⟨j, ?_, by omega, h3, h4⟩
        by_cases e : j = i
        · subst e; exact absurd h3 h
        · omega
theorem pick_congr {p q : Nat → Bool} {i k : Nat} (h : ∀ j, i ≤ j → j < i + k → p j = q j) : pick p i k = pick q i k := by
  induction k generalizing i with
  | zero => rfl
  | succ k ih => rw [pick, pick, h i (by omega) (by omega), ih (fun j h1 h2 => h j (by omega) (by omega))]
theorem pick_erase (p : Nat → Bool) (i k x : Nat) : (pick p i k).erase (x : Int) = pick (fun j => p j && decide (j ≠ x)) i k := by
  induction k generalizing i with
  | zero => rfl
  | succ k ih =>
    rw [pick, pick]
    by_cases h : p i
    · by_cases e : i = x
      · subst e
        simp only [h, if_true, List.erase_cons_head, ne_eq, not_true_eq_false, decide_false, Bool.and_false, Bool.false_eq_true, if_false]
        refine pick_congr (fun j h1 h2 => ?_)
        have : decide (¬ j = i) = true := decide_eq_true (by omega)
        rw [this, Bool.and_true]
      · have e2 : decide (i ≠ x) = true := decide_eq_true e
        simp only [h, e2, Bool.and_self, if_true]
        rw [List.erase_cons_tail (by simp; omega), ih]
    · simp only [h, Bool.false_and, Bool.false_eq_true, if_false]
      exact ih (i + 1)
theorem pick_len (p : Nat → Bool) (i k : Nat) : (pick p i k).length ≤ k := by
  induction k generalizing i with
  | zero => simp [pick]
  | succ k ih =>
    have := ih (i + 1)
    rw [pick]
    split
    · rw [List.length_cons]; omega
    · omega

/-- Where the number x waits. -/
def at32 (x : Int) : Nat := ((IntKind.u64.wrap x).tmod 32).toNat
theorem at32_lt (x : Int) : at32 x < 32 ∧ (IntKind.u64.wrap x).tmod 32 = (at32 x : Int) := by
  obtain ⟨k, hk, e⟩ := umod x 32 (by omega)
  have e' : (IntKind.u64.wrap x).tmod 32 = (k : Int) := e
  have : at32 x = k := by unfold at32; rw [e']; simp
  rw [this]
  exact ⟨hk, e'⟩

/-- The first m have come. -/
def wL (l : List Int) (m : Nat) : Nat → List Int := fun c => pick (fun j => decide (at32 (l.getD j 0) = c)) 0 m
theorem wL_succ (l : List Int) (m : Nat) : setF (wL l m) (at32 (l.getD m 0)) (wL l m (at32 (l.getD m 0)) ++ [(m : Int)]) = wL l (m + 1) := by
  funext c
  unfold wL
  by_cases e : c = at32 (l.getD m 0)
  · subst e
    rw [setF_same, pick_snoc]
    simp
  · rw [setF_ne _ _ e, pick_snoc]
    have : ¬ at32 (l.getD (0 + m) 0) = c := by rw [Nat.zero_add]; exact fun h => e h.symm
    simp only [this, decide_false, Bool.false_eq_true, if_false, List.append_nil]
theorem wL_new (l : List Int) (m c : Nat) : ¬ (m : Int) ∈ wL l m c := by
  unfold wL; rw [mem_pick]; rintro ⟨j, h1, h2, h3, h4⟩; omega
theorem wL_small (l : List Int) (m : Nat) (hm : m ≤ 60) : WSmall (wL l m) := fun c _ => by
  have := pick_len (fun j => decide (at32 (l.getD j 0) = c)) 0 m
  show (pick _ 0 m).length ≤ _
  omega
/-- Who stays, of place c: not x. -/
def stays (l : List Int) (x : Int) (c : Nat) : Nat → Bool := fun j => decide (at32 (l.getD j 0) = c) && decide ((j : Int) ≠ x)
/-- The places below q are empty, at q those below i are woken. -/
def wS (l : List Int) (x : Int) (n q i : Nat) : Nat → List Int := fun c => if c < q then [] else if c = q then pick (stays l x q) i (n - i) else pick (stays l x c) 0 n
theorem wS_small (l : List Int) (x : Int) (n q i : Nat) (hn : n ≤ 60) : WSmall (wS l x n q i) := fun c _ => by
  unfold wS
  split
  · simp
  · split
    · have := pick_len (stays l x q) i (n - i); omega
    · have := pick_len (stays l x c) 0 n; omega
theorem wL_del (l : List Int) (n x : Nat) : setF (wL l n) (at32 (l.getD x 0)) ((wL l n (at32 (l.getD x 0))).erase (x : Int)) = wS l x n 0 0 := by
  funext c
  unfold wS
  rw [if_neg (by omega)]
  have key : (if c = 0 then pick (stays l x 0) 0 (n - 0) else pick (stays l x c) 0 n) = pick (stays l x c) 0 n := by
    by_cases e : c = 0
    · subst e; rw [if_pos rfl]; rfl
    · rw [if_neg e]
  rw [key]
  by_cases e : c = at32 (l.getD x 0)
  · subst e
    rw [setF_same]
    unfold wL
    rw [pick_erase]
    refine pick_congr (fun j _ _ => ?_)
    unfold stays
    congr 1
    exact decide_eq_decide.2 (by omega)
  · rw [setF_ne _ _ e]
    unfold wL
    refine pick_congr (fun j _ _ => ?_)
    unfold stays
    by_cases h : at32 (l.getD j 0) = c
    · have : (j : Int) ≠ (x : Int) := by
        intro h2
        have : j = x := by omega
        subst this
        exact e h.symm
      rw [decide_eq_true h, decide_eq_true this]; rfl
    · rw [decide_eq_false h]; rfl
theorem wL_zero (l : List Int) (x : Int) : wL l 0 = wS l x 0 0 0 := by
  funext c
  unfold wS wL
  by_cases e : c = 0
  · subst e; simp [pick]
  · simp [pick]
theorem wL_at (l : List Int) (n x : Nat) (hx : x < n) : (x : Int) ∈ wL l n (at32 (l.getD x 0)) ∧ ∀ j, j < at32 (l.getD x 0) → ¬ (x : Int) ∈ wL l n j := by
  refine ⟨?_, fun j hj => ?_⟩
  · unfold wL; rw [mem_pick]; exact ⟨x, by omega, by omega, by simp, rfl⟩
  · unfold wL; rw [mem_pick]
    rintro ⟨i, _, _, h3, h4⟩
    have : x = i := by omega
    subst this
    have := of_decide_eq_true h3
    omega
theorem wS_gone (l : List Int) (n : Nat) (x : Int) (c : Nat) : ¬ x ∈ wS l x n 0 0 c := by
  unfold wS
  rw [if_neg (by omega)]
  split
  · rw [mem_pick]; rintro ⟨i, _, _, h3, h4⟩; unfold stays at h3; simp at h3; omega
  · rw [mem_pick]; rintro ⟨i, _, _, h3, h4⟩; unfold stays at h3; simp at h3; omega
theorem wS_skip (l : List Int) (x : Int) (n q i : Nat) (hi : i < n) (h : stays l x q i = false) : wS l x n q i = wS l x n q (i + 1) := by
  funext c
  unfold wS
  have e : n - i = (n - (i + 1)) + 1 := by omega
  rw [e, pick, h]
  simp
theorem wS_here (l : List Int) (x : Int) (n q i : Nat) (hi : i < n) (h : stays l x q i = true) : wS l x n q i q = (i : Int) :: pick (stays l x q) (i + 1) (n - (i + 1)) ∧ setF (wS l x n q i) q (pick (stays l x q) (i + 1) (n - (i + 1))) = wS l x n q (i + 1) := by
  have e : n - i = (n - (i + 1)) + 1 := by omega
  constructor
  · unfold wS
    rw [if_neg (by omega), if_pos rfl, e, pick, if_pos h]
  · funext c
    by_cases e2 : c = q
    · subst e2
      rw [setF_same]
      unfold wS
      rw [if_neg (by omega), if_pos rfl]
    · rw [setF_ne _ _ e2]
      unfold wS
      rw [if_neg e2, if_neg e2]
theorem wS_next (l : List Int) (x : Int) (n q : Nat) : wS l x n q n q = [] ∧ wS l x n q n = wS l x n (q + 1) 0 := by
  constructor
  · unfold wS; rw [if_neg (by omega), if_pos rfl, Nat.sub_self]; rfl
  · funext c
    unfold wS
    by_cases h1 : c < q
    · rw [if_pos h1, if_pos (by omega)]
    · by_cases h2 : c = q
      · rw [if_neg h1, if_pos h2, if_pos (by omega), Nat.sub_self]; rfl
      · rw [if_neg h1, if_neg h2, if_neg (by omega)]
        by_cases h3 : c = q + 1
        · subst h3; rw [if_pos rfl]; rfl
        · rw [if_neg h3]

set_option maxRecDepth 100000 in
theorem order_long (A : Option Addr) (n c : Nat) (gone : Int) (w : World) (hn : ¬ n ≤ 60) : Calls Try.prog 7 #[.slice A n c, .int .i64 gone] w fun e w' => e = .returned (.bool true) ∧ Mod (fun _ => False) w w' := by
  have hd : decide (60 < n) = true := decide_eq_true (by omega)
  go_enter Try.func7, Try.ntmps7
  go_wp2_with fail
  refine (told14 _).mono ?_
  rintro e w1 ⟨rfl, m1⟩
  go_wp2
  go_ret
  exact ⟨rfl, m1⟩

set_option maxHeartbeats 1000000 in
set_option maxRecDepth 100000 in
theorem order_zero (A : Option Addr) (c : Nat) (l : List Int) (gone : Int) (w : World) : Calls Try.prog 7 #[.slice A 0 c, .int .i64 gone] w fun e w' => e = .returned (.bool true) ∧ Mod (fun _ => False) w w' := by
  go_enter Try.func7, Try.ntmps7
  go_wp2_with fail
  refine (wf_new w).mono ?_
  rintro e w1 ⟨b, rfl, h1⟩
  have h : WF w w1 b (wL l 0) := h1
  rw [wL_zero l (-1)] at h
  clear h1
  go_wp2_with fail
  refine wp_loop_rounds 1 ?_
  rw [rounds_succ]
  go_wp2_with fail
  go_loopw [8] (fun i wr => ∃ q : Nat, q ≤ 32 ∧ i = .int .i64 q ∧ WF w wr b (wS l (-1) 0 q 0)) (fun i _ => 32 - (intOf i).toNat)
  case atStart => exact ⟨0, by omega, rfl, h⟩
  case round =>
    clear h
    obtain ⟨q, hq, rfl, h⟩ := hrel
    by_cases hq2 : q < 32
    · obtain ⟨wa, rfl⟩ : ∃ wa : World, wa = wr := ⟨_, rfl⟩
      have hqd : decide ((q : Int) < 32) = true := decide_eq_true (by omega)
      go_wp2_with fail
      go_loopw [9] (fun i wr => ∃ m : Nat, m ≤ 0 ∧ i = .int .i64 m ∧ WF w wr b (wS l (-1) 0 q m)) (fun i _ => 0 - (intOf i).toNat)
      case atStart => exact ⟨0, by omega, rfl, h⟩
      case round =>
        clear h
        obtain ⟨m, hm, rfl, h⟩ := hrel
        obtain rfl : m = 0 := by omega
        rw [show ((0 : Nat) : Int) = 0 from rfl]
        have hnx := wS_next l (-1) 0 q
        go_wp2_with fail
        refine (wf_wakeno h q hq2 hnx.1).mono ?_
        rintro e w2 ⟨rfl, h2⟩
        rw [hnx.2] at h2
        clear h hnx
        go_wp2
        go_roundw
        case rel => exact ⟨q + 1, by omega, by go_num, h2⟩
        case measure => simp [intOf]; omega
    · obtain rfl : q = 32 := by omega
      have hz : wsum (wS l (-1) 0 32 0) 32 = 0 := wsum_zero (fun i hi => by unfold wS; rw [if_pos hi])
      have hsm := wS_small l (-1) 0 32 0 (by omega)
      go_wp2_with fail
      refine (wf_told h).mono ?_
      rintro e w2 ⟨rfl, h2⟩
      go_wp2_with fail
      refine (wf_len h2 hsm 0 hz).mono ?_
      rintro e w3 ⟨rfl, h3⟩
      clear hz hsm
      go_wp2
      go_ret
      exact ⟨rfl, h3.mod⟩

set_option maxHeartbeats 4000000 in
set_option maxRecDepth 100000 in
theorem order_true (A : Option Addr) (n c : Nat) (l : List Int) (gone : Int) (w : World) (_ : n ≤ maxLen) (hl : 0 < n → IsL w A n c l) :
    Calls Try.prog 7 #[.slice A n c, .int .i64 gone] w fun e w' => e = .returned (.bool true) ∧ Mod (fun _ => False) w w' := by
  by_cases hn : n ≤ 60
  case neg => exact order_long A n c gone w hn
  by_cases hn0 : n = 0
  · subst hn0; exact order_zero A c l gone w
  have hd : decide (60 < n) = false := decide_eq_false (by omega)
  go_enter Try.func7, Try.ntmps7
  go_wp2_with fail
  refine (wf_new w).mono ?_
  rintro e w1 ⟨b, rfl, h1⟩
  go_wp2_with fail
  have h0 : WF w w1 b (wL l 0) := h1
  clear h1
  go_loopw [6] (fun i wr => ∃ m : Nat, m ≤ n ∧ i = .int .i64 m ∧ WF w wr b (wL l m)) (fun i _ => n - (intOf i).toNat)
  case atStart => exact ⟨0, by omega, rfl, h0⟩
  case round =>
    clear h0
    obtain ⟨m, hm, rfl, h⟩ := hrel
    by_cases hmn : m < n
    · obtain ⟨g, o, rfl, hcl⟩ := ((hl (by omega)).keep0 h.mod).at_ hmn
      have hstep := wL_succ l m
      obtain ⟨hk, ek⟩ := at32_lt (l.getD m 0)
      generalize at32 (l.getD m 0) = k at hstep hk ek
      generalize l.getD m 0 = x at hcl ek
      go_wp2_with fail
      refine (wf_put h k (m : Int) hk (wL_small l m (by omega)) (fun c _ => wL_new l m c)).mono ?_
      rintro e w2 ⟨rfl, h2⟩
      rw [hstep] at h2
      clear h hstep ek hcl
      go_wp2
      go_roundw
      case rel => exact ⟨m + 1, by omega, by go_num, h2⟩
      case measure => simp [intOf]; omega
    · obtain rfl : n = m := by omega
      obtain ⟨x, hx, ex⟩ := umod gone n (by omega)
      have hwn : IntKind.u64.wrap (n : Int) = (n : Int) := by rw [IntKind.wrap_u64]; omega
      have hnp : decide ((0 : Int) < (n : Int)) = true := decide_eq_true (by omega)
      have hnz : ((n : Int) == 0) = false := by rw [beq_eq_false_iff_ne]; omega
      have hdz : decide ((n : Int) = 0) = false := decide_eq_false (by omega)
      have hat := wL_at l n x hx
      have hde := wL_del l n x
      have hk := (at32_lt (l.getD x 0)).1
      generalize at32 (l.getD x 0) = k at hat hde hk
      go_wp2_with fail
      refine (wf_delyes h (x : Int) k (wL_small l n hn) hk hat.1 hat.2).mono ?_
      rintro e w2 ⟨rfl, h2⟩
      rw [hde] at h2
      clear h hat hde ex hwn hnz hdz
      go_wp2_with fail
      refine (wf_delno h2 (x : Int) (wS_small l _ n 0 0 hn) (fun c _ => wS_gone l n _ c)).mono ?_
      rintro e w3 ⟨rfl, h⟩
      clear h2
      go_wp2_with fail
      go_loopw [8] (fun i wr => ∃ q : Nat, q ≤ 32 ∧ i = .int .i64 q ∧ WF w wr b (wS l (x : Int) n q 0)) (fun i _ => 32 - (intOf i).toNat)
      case atStart => exact ⟨0, by omega, rfl, h⟩
      case round =>
        clear h
        obtain ⟨q, hq, rfl, h⟩ := hrel
        by_cases hq2 : q < 32
        · obtain ⟨wa, rfl⟩ : ∃ wa : World, wa = wr := ⟨_, rfl⟩
          have hqd : decide ((q : Int) < 32) = true := decide_eq_true (by omega)
          go_wp2_with fail
          go_loopw [9] (fun i wr => ∃ m : Nat, m ≤ n ∧ i = .int .i64 m ∧ WF w wr b (wS l (x : Int) n q m)) (fun i _ => n - (intOf i).toNat)
          case atStart => exact ⟨0, by omega, rfl, h⟩
          case round =>
            clear h
            obtain ⟨m, hm, rfl, h⟩ := hrel
            by_cases hmn : m < n
            · by_cases hmx : m = x
              · subst hmx
                have hs : stays l (m : Int) q m = false := by unfold stays; simp
                rw [wS_skip l (m : Int) n q m hmn hs] at h
                clear hs
                go_wp2
                go_roundw
                case rel => exact ⟨m + 1, by omega, by go_num, h⟩
                case measure => simp [intOf]; omega
              · have hb : ((m : Int) == (x : Int)) = false := by rw [beq_eq_false_iff_ne]; omega
                have hdx : decide ((m : Int) ≠ (x : Int)) = true := decide_eq_true (by omega)
                have hdn : decide (m = x) = false := decide_eq_false hmx
                obtain ⟨g, o, rfl, hcl⟩ := ((hl (by omega)).keep0 h.mod).at_ hmn
                obtain ⟨hk, ek⟩ := at32_lt (l.getD m 0)
                have hst : stays l (x : Int) q m = decide (at32 (l.getD m 0) = q) := by unfold stays; rw [hdx, Bool.and_true]
                generalize at32 (l.getD m 0) = k at hk ek hst
                generalize l.getD m 0 = y at hcl ek
                clear hdx hmx
                by_cases hkq : k = q
                · subst hkq
                  rw [decide_eq_true rfl] at hst
                  obtain ⟨e1, e2⟩ := wS_here l (x : Int) n k m hmn hst
                  have HL := Lib.hid e1
                  have hpl := pick_len (stays l (x : Int) k) (m + 1) (n - (m + 1))
                  clear e1 hst
                  go_wp2_with fail
                  refine (wf_wake h k (m : Int) _ hk HL.out (by omega)).mono ?_
                  rintro e w2 ⟨rfl, h2⟩
                  rw [e2] at h2
                  clear h e2 hpl ek hcl
                  go_wp2
                  go_roundw
                  case rel => exact ⟨m + 1, by omega, by go_num, h2⟩
                  case measure => simp [intOf]; omega
                · rw [decide_eq_false hkq] at hst
                  have hb2 : ((k : Int) != (q : Int)) = true := by rw [bne_iff_ne]; omega
                  have hd2 : decide (k = q) = false := decide_eq_false hkq
                  rw [wS_skip l (x : Int) n q m hmn hst] at h
                  clear hst hkq
                  go_wp2
                  go_roundw
                  case rel => exact ⟨m + 1, by omega, by go_num, h⟩
                  case measure => simp [intOf]; omega
            · obtain rfl : n = m := by omega
              have hnx := wS_next l (x : Int) n q
              go_wp2_with fail
              refine (wf_wakeno h q hq2 hnx.1).mono ?_
              rintro e w2 ⟨rfl, h2⟩
              rw [hnx.2] at h2
              clear h hnx
              go_wp2
              go_roundw
              case rel => exact ⟨q + 1, by omega, by go_num, h2⟩
              case measure => simp [intOf]; omega
        · obtain rfl : q = 32 := by omega
          have hz : wsum (wS l (x : Int) n 32 0) 32 = 0 := wsum_zero (fun i hi => by unfold wS; rw [if_pos hi])
          have hsm := wS_small l (x : Int) n 32 0 hn
          go_wp2_with fail
          refine (wf_told h).mono ?_
          rintro e w2 ⟨rfl, h2⟩
          go_wp2_with fail
          refine (wf_len h2 hsm 0 hz).mono ?_
          rintro e w3 ⟨rfl, h3⟩
          clear hz hsm
          go_wp2
          go_ret
          exact ⟨rfl, h3.mod⟩

end Go.Proofs.Ytjjbcfbljnekgaa
