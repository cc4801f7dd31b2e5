/-
  The contracts of functions on lists of int: slices.Clone, Index, Contains, Delete; the reference's Ints, Out, Has.
-/
import Derived.Test.YtgojfccaohngaaaRing2
import Derived.Test.YtgojfccaohngaaaDel
import Derived.Lib.SliceRun
namespace Go.Proofs.Ytgojfccaohngaaa
open Go.RowKit

theorem clone_any (A : Option Addr) (n c : Nat) (l : List Int) (w : World) (h : IsL w A n c l) (hn : n ≤ 900000) :
    Calls Try.prog 57 #[.slice A n c] w fun e w' => ∃ A' c', e = .returned (.slice A' n c') ∧ OwnL w' A' n c' l ∧ (∀ d, blk A' = some d → w.heap.size ≤ d) ∧ Mod (fun _ => False) w w' := by
  have hnil := fun W => Lib.run_eql_slice_nil (P := Try.prog) W 27 3 A n c 0 0 Try.underlying27
  cases A with
  | none =>
    have h0 : n = 0 := by
      rcases Nat.eq_zero_or_pos n with h0 | h0
      · exact h0
      · obtain ⟨g, o, e, _⟩ := h.at_ h0
        cases e
    subst h0
    obtain rfl : l = [] := List.eq_nil_of_length_eq_zero h.len
    go_enter Try.func57, Try.ntmps57
    go_wp2
    go_ret
    exact ⟨none, 0, rfl, OwnL.nil _, (fun d hd => by cases hd), Mod.refl _ _⟩
  | some ad =>
    go_enter Try.func57, Try.ntmps57
    go_wp2_with (at_builtin; refine wpList_app _ rfl (.tmp 5) (.tmp 6) _ rfl Try.underlying27 int_info _ 0 0 [] rfl (OwnL.empty w) (some ad) n c l rfl (h.alloc _) (by omega) ?_; intro A2 n2 c2 w2 hn1 hn2 hown2 hg2 hat2)
    obtain rfl : n2 = n := by omega
    go_ret
    refine ⟨A2, c2, rfl, by simpa using hown2, fun d hd => ?_, ((Mod.refl _ w).alloc _).grown hg2 (fun k hk => .inr ?_)⟩
    · rcases hat2 with e | e
      · rw [e] at hd; simp [blk] at hd; omega
      · rw [e] at hd; simp at hd; omega
    · simp [blk] at hk; omega

set_option maxHeartbeats 400000 in
theorem ints_any (A A' : Option Addr) (n n' c c' : Nat) (l l' : List Int) (w : World) (h : IsL w A n c l) (h' : IsL w A' n' c' l') (hn : n ≤ 900000) (hn' : n' ≤ 900000) :
    Calls Try.prog 27 #[.slice A n c, .slice A' n' c'] w fun e w' => e = .returned (.bool (decide (l = l'))) ∧ ∃ k, w' = w.drewN k := by
  by_cases hnn : n = n'
  · subst hnn
    go_enter Try.func27, Try.ntmps27
    go_wp2
    go_loopw [5] (fun i wr => ∃ k : Nat, k ≤ n ∧ i = .int .i64 k ∧ l.take k = l'.take k ∧ ∃ q, wr = w.drewN q) (fun i _ => n - (intOf i).toNat)
    case atStart => exact ⟨0, by omega, rfl, rfl, 0, rfl⟩
    case round =>
      obtain ⟨k, hk, rfl, htk, q, rfl⟩ := hrel
      by_cases hk2 : k < n
      · obtain ⟨g, o, rfl, hc1⟩ := h.at_ hk2
        obtain ⟨g', o', rfl, hc2⟩ := h'.at_ hk2
        obtain ⟨x, _, e2, e3⟩ := drop_cons l (k := k) (by rw [h.len]; exact hk2)
        obtain ⟨y, _, e2', e3'⟩ := drop_cons l' (k := k) (by rw [h'.len]; exact hk2)
        rw [e3] at hc1
        rw [e3'] at hc2
        have E2 := Lib.hid e2
        have E2' := Lib.hid e2'
        have HTK := Lib.hid htk
        have E3 := Lib.hid e3
        have E3' := Lib.hid e3'
        clear e2 e2' e3 e3' htk
        by_cases hxy : x = y
        · have hb : (x != y) = false := by simpa using hxy
          have HXY := Lib.hid hxy
          clear hxy
          go_wp2
          go_quiet (fail)
          go_wp2
          go_roundw
          case rel => exact ⟨k + 1, by omega, by go_num, by rw [E2.out, E2'.out, HTK.out, HXY.out], _, rfl⟩
          case measure => simp [intOf]; omega
        · have hb : (x != y) = true := by simpa using hxy
          have hd : ¬ l = l' := by
            intro e
            apply hxy
            rw [← E3.out, ← E3'.out, e]
          have HD := Lib.hid hd
          clear hxy hd
          go_wp2
          go_quiet (fail)
          go_wp2
          rw [decide_eq_false HD.out]
          go_ret
          exact ⟨rfl, _, World.drewN_drewN _ _ _⟩
      · have hd : l = l' := by
          have hkn : k = n := by omega
          rw [hkn, List.take_of_length_le (by rw [h.len]; exact Nat.le_refl _), List.take_of_length_le (by rw [h'.len]; exact Nat.le_refl _)] at htk
          exact htk
        have HD := Lib.hid hd
        clear htk hd
        go_wp2
        rw [decide_eq_true HD.out]
        go_ret
        exact ⟨rfl, q, rfl⟩
  · have hb : ((n : Int) != (n' : Int)) = true := by rw [bne_iff_ne]; omega
    have hd : ¬ l = l' := by
      intro e
      apply hnn
      rw [← h.len, ← h'.len, e]
    rw [decide_eq_false hd]
    clear hd
    go_enter Try.func27, Try.ntmps27
    go_wp2
    go_ret
    exact ⟨rfl, 0, rfl⟩

/-- Where x stands first in l: -1 if nowhere. -/
def IdxOf (l : List Int) (x r : Int) : Prop := (r = -1 ∧ x ∉ l) ∨ ∃ k : Nat, k < l.length ∧ r = k ∧ NotYet l x k ∧ l.getD k 0 = x

set_option maxHeartbeats 400000 in
theorem has_any (A : Option Addr) (n c : Nat) (l : List Int) (x : Int) (w : World) (h : IsL w A n c l) (hn : n ≤ 900000) :
    Calls Try.prog 63 #[.slice A n c, .int .i64 x] w fun e w' => e = .returned (.bool (decide (x ∈ l))) ∧ w' = w := by
  go_enter Try.func63, Try.ntmps63
  go_wp2
  go_loop [5] (fun i => ∃ k : Nat, k ≤ n ∧ i = .int .i64 k ∧ NotYet l x k) (fun i => n - (intOf i).toNat)
  case atStart => exact ⟨0, by omega, rfl, fun j hj => by omega⟩
  case round =>
    obtain ⟨k, hk, rfl, hny⟩ := hrel
    by_cases hk2 : k < n
    · obtain ⟨g, o, rfl, hc1⟩ := h.at_ hk2
      obtain ⟨y, ey⟩ : ∃ y, y = l.getD k 0 := ⟨_, rfl⟩
      rw [← ey] at hc1
      by_cases hxy : y = x
      · have hb : (y == x) = true := by simpa using hxy
        have HM := Lib.hid (mem_first l (g := x) (k := k) (by rw [h.len]; exact hk2) (by rw [← ey]; exact hxy))
        clear hxy ey
        go_wp2
        rw [decide_eq_true HM.out]
        go_ret
        exact ⟨rfl, rfl⟩
      · have hb : (y == x) = false := by simpa using hxy
        have hny2 := hny.snoc (by rw [← ey]; exact hxy)
        clear hxy ey
        go_wp2
        go_round
        case rel => exact ⟨k + 1, by omega, by go_num, hny2⟩
        case measure => simp [intOf]; omega
    · have hkn : k = l.length := by rw [h.len]; omega
      rw [hkn] at hny
      have HM := Lib.hid hny.none
      clear hkn
      go_wp2
      rw [decide_eq_false HM.out]
      go_ret
      exact ⟨rfl, rfl⟩

set_option maxHeartbeats 400000 in
theorem index_any (A : Option Addr) (n c : Nat) (l : List Int) (x : Int) (w : World) (h : IsL w A n c l) (hn : n ≤ 900000) :
    Calls Try.prog 61 #[.slice A n c, .int .i64 x] w fun e w' => ∃ r, e = .returned (.int .i64 r) ∧ IdxOf l x r ∧ w' = w := by
  go_enter Try.func61, Try.ntmps61
  go_wp2
  go_loop [8] (fun i => ∃ k : Nat, k ≤ n ∧ i = .int .i64 k ∧ NotYet l x k) (fun i => n - (intOf i).toNat)
  case atStart => exact ⟨0, by omega, rfl, fun j hj => by omega⟩
  case round =>
    obtain ⟨k, hk, rfl, hny⟩ := hrel
    by_cases hk2 : k < n
    · obtain ⟨g, o, rfl, hc1⟩ := h.at_ hk2
      obtain ⟨y, ey⟩ : ∃ y, y = l.getD k 0 := ⟨_, rfl⟩
      rw [← ey] at hc1
      by_cases hxy : y = x
      · have hb : (x == y) = true := by rw [hxy]; simp
        have hi : IdxOf l x k := .inr ⟨k, by rw [h.len]; exact hk2, rfl, hny, by rw [← ey]; exact hxy⟩
        clear hxy ey
        go_wp2
        go_ret
        exact ⟨_, rfl, hi, rfl⟩
      · have hb : (x == y) = false := by rw [beq_eq_false_iff_ne]; exact fun e => hxy e.symm
        have hny2 := hny.snoc (by rw [← ey]; exact hxy)
        clear hxy ey
        go_wp2
        go_round
        case rel => exact ⟨k + 1, by omega, by go_num, hny2⟩
        case measure => simp [intOf]; omega
    · have hkn : k = l.length := by rw [h.len]; omega
      rw [hkn] at hny
      have hi : IdxOf l x (-1) := .inl ⟨rfl, hny.none⟩
      clear hkn
      go_wp2
      go_ret
      exact ⟨_, rfl, hi, rfl⟩

theorem contains_any (A : Option Addr) (n c : Nat) (l : List Int) (x : Int) (w : World) (h : IsL w A n c l) (hn : n ≤ 900000) :
    Calls Try.prog 65 #[.slice A n c, .int .i64 x] w fun e w' => e = .returned (.bool (decide (x ∈ l))) ∧ w' = w := by
  go_enter Try.func65, Try.ntmps65
  go_wp2_with (go_at_call 61; refine (index_any A n c l x _ h hn).mono ?_; rintro e w' ⟨r, rfl, hi, rfl⟩)
  go_ret
  refine ⟨?_, rfl⟩
  rcases hi with ⟨rfl, hm⟩ | ⟨k, hk, rfl, hny, e⟩
  · rw [decide_eq_false hm]; rfl
  · rw [decide_eq_true (mem_first l hk e)]
    simp

end Go.Proofs.Ytgojfccaohngaaa
