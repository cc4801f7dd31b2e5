/-
  treadmilllaw27.SchedDrops: the walk.
-/
import Derived.Test.YtgojfccaohngaaaSchL
import Derived.Test.YtgojfccaohngaaaAppR
set_option linter.unusedSimpArgs false
namespace Go.Proofs.Ytgojfccaohngaaa
open Go.RowKit

/-- A law's scheduler beside a list of the law's own. -/
def With (W : World) (a : SA) (w : World) (R : Nat → RM) (Q : List Int) (A : Option Addr) (n c : Nat) (l : List Int) : Prop :=
  ∃ o, Sch a w o R Q ∧ (∀ k, SS a o k → W.heap.size ≤ k ∧ blk A ≠ some k) ∧ Mod (fun _ => False) W w ∧ OwnL w A n c l ∧ (∀ d, blk A = some d → W.heap.size ≤ d)
section
variable {W w w' w2 : World} {a : SA} {R R' : Nat → RM} {Q Q' : List Int} {A A2 : Option Addr} {n c n2 c2 : Nat} {l l2 : List Int}
theorem With.sl (h : With W a w R Q A n c l) : SL W a w R Q := by
  obtain ⟨o, h1, h2, h3, _, _⟩ := h
  exact ⟨o, h1, fun k hk => (h2 k hk).1, h3⟩
theorem With.own (h : With W a w R Q A n c l) : OwnL w A n c l := by
  obtain ⟨_, _, _, _, h4, _⟩ := h
  exact h4
theorem With.mod (h : With W a w R Q A n c l) : Mod (fun _ => False) W w := by
  obtain ⟨_, _, _, h3, _, _⟩ := h
  exact h3
theorem With.keep0 (h : With W a w R Q A n c l) (m : Mod (fun _ => False) w w') : With W a w' R Q A n c l := by
  obtain ⟨o, h1, h2, h3, h4, h5⟩ := h
  exact ⟨o, h1.keep0 m, h2, h3.trans m, h4.keep0 m, h5⟩
theorem With.to {o : Option Nat} (h1 : Sch a w o R Q) (h2 : ∀ k, SS a o k → W.heap.size ≤ k ∧ blk A ≠ some k) (h3 : Mod (fun _ => False) W w) (h4 : OwnL w A n c l) (h5 : ∀ d, blk A = some d → W.heap.size ≤ d) (k : To a o w w' R' Q') : With W a w' R' Q' A n c l := by
  obtain ⟨o', k1, k2, k3⟩ := k
  have hs := h3.size
  refine ⟨o', k1, fun i hi => ?_, h3.new k3 (fun i hi => (h2 i hi).1), h4.keep k3 (fun g hg hS => (h2 g hS).2 hg), h5⟩
  rcases hi with e | e | (e | e) | e
  · exact h2 i (.inl e)
  · exact h2 i (.inr (.inl e))
  · exact h2 i (.inr (.inr (.inl (.inl e))))
  · rcases k2 i e with e2 | e2
    · exact h2 i (.inr (.inr (.inl (.inr e2))))
    · exact ⟨by omega, fun e3 => by have := h4.lt i e3; omega⟩
  · exact h2 i (.inr (.inr (.inr e)))
theorem With.call {N : Nat} {args : Array Value} {v : Value} (h : With W a w R Q A n c l) (hc : ∀ o, Sch a w o R Q → Calls Try.prog N args w (fun e w' => e = .returned v ∧ To a o w w' R' Q')) :
    Calls Try.prog N args w (fun e w' => e = .returned v ∧ With W a w' R' Q' A n c l) := by
  obtain ⟨o, h1, h2, h3, h4, h5⟩ := h
  exact (hc o h1).mono fun e w' ⟨he, k⟩ => ⟨he, With.to h1 h2 h3 h4 h5 k⟩
theorem With.ask {N : Nat} {args : Array Value} {v : Value} (h : With W a w R Q A n c l) (hc : ∀ o, Sch a w o R Q → Calls Try.prog N args w (fun e w' => e = .returned v ∧ Mod (fun _ => False) w w')) :
    Calls Try.prog N args w (fun e w' => e = .returned v ∧ With W a w' R Q A n c l) := by
  obtain ⟨o, h1, _, _, _, _⟩ := id h
  exact (hc o h1).mono fun e w' ⟨he, m⟩ => ⟨he, h.keep0 m⟩
theorem With.app {o : Obj} (h : With W a w R Q A n c l) (hg : (w.alloc o).grownBy w2 (blk A)) (hown : OwnL w2 A2 n2 c2 l2) (hat : blk A2 = blk A ∨ blk A2 = some (w.alloc o).heap.size) : With W a w2 R Q A2 n2 c2 l2 := by
  obtain ⟨ow, h1, h2, h3, h4, h5⟩ := h
  have m : Mod (fun i => blk A = some i) w w2 := ((Mod.refl _ w).alloc _).grown hg (fun _ hk => .inl hk)
  have hs := h3.size
  refine ⟨ow, h1.keep m (fun k hk e => (h2 k hk).2 e), fun k hk => ⟨(h2 k hk).1, fun e => ?_⟩, h3.new m (fun i hi => h5 i hi), hown, fun d hd => ?_⟩
  · rcases hat with e2 | e2
    · exact (h2 k hk).2 (by rw [← e2]; exact e)
    · rw [e2] at e
      have := h1.lt k hk
      simp at e
      omega
  · rcases hat with e2 | e2
    · exact h5 d (by rw [← e2]; exact hd)
    · rw [e2] at hd
      simp at hd
      omega
theorem With.swap (h : With W a w R Q A n c l) (m : Mod (fun _ => False) w w2) (hown : OwnL w2 A2 n2 c2 l2) (hat : ∀ d, blk A2 = some d → w.heap.size ≤ d) : With W a w2 R Q A2 n2 c2 l2 := by
  obtain ⟨ow, h1, h2, h3, h4, h5⟩ := h
  have hs := h3.size
  refine ⟨ow, h1.keep0 m, fun k hk => ⟨(h2 k hk).1, fun e => ?_⟩, h3.trans m, hown, fun d hd => by have := hat d hd; omega⟩
  have := hat k e
  have := h1.lt k hk
  omega
theorem With.local (h : With W a w R Q A n c l) (p : Nat) (hp : p < a.ps) :
    Calls Try.prog 47 #[.pointer (some ⟨a.s, 0, none⟩), .int .i64 p] w fun e w' => ∃ A' c', e = .returned (.slice A' (len2 (R p)) c') ∧ IsL w' A' (len2 (R p)) c' (all2 (R p)) ∧ With W a w' R Q A n c l := by
  obtain ⟨o, h1, _, _, _, _⟩ := id h
  exact (slocal_yes h1 p hp).mono fun _ _ ⟨A', c', he, hl, m⟩ => ⟨A', c', he, hl, h.keep0 m⟩
theorem With.common (h : With W a w R Q A n c l) (hb : Q.length ≤ 800000) :
    Calls Try.prog 49 #[.pointer (some ⟨a.s, 0, none⟩)] w fun e w' => ∃ A' c', e = .returned (.slice A' Q.length c') ∧ IsL w' A' Q.length c' Q ∧ With W a w' R Q A n c l := by
  obtain ⟨o, h1, _, _, _, _⟩ := id h
  exact (scommon h1 hb).mono fun _ _ ⟨A', c', he, hl, m⟩ => ⟨A', c', he, hl, h.keep0 m⟩
end
theorem ints_sameS (A A' : Option Addr) (n n' c c' : Nat) (l : List Int) (w : World) (h : IsL w A n c l) (h' : IsL w A' n' c' l) (hn : n ≤ 900000) :
    Calls Try.prog 27 #[.slice A n c, .slice A' n' c'] w fun e w' => e = .returned (.bool true) ∧ Mod (fun _ => False) w w' := by
  have hnn : n' = n := by rw [← h.len, ← h'.len]
  refine (ints_any A A' n n' c c' l l w h h' hn (by omega)).mono ?_
  rintro e w' ⟨rfl, k, rfl⟩
  exact ⟨by simp, (Mod.refl _ w).drewN k⟩

def R2 (row : List Int) (nx : Option Int) : Nat → RM := upd E0 0 (row, nx)
theorem R2_0 (row : List Int) (nx : Option Int) : R2 row nx 0 = (row, nx) := upd_same _ _ _
theorem R2_1 (row : List Int) (nx : Option Int) : R2 row nx 1 = ([], none) := by unfold R2; rw [upd_ne _ _ (by decide)]; rfl
theorem R2_set (row row' : List Int) (nx nx' : Option Int) : upd (R2 row nx) 0 (row', nx') = R2 row' nx' := upd_upd _ _ _ _
theorem R2_start : (fun _ => (([], none) : RM)) = R2 [] none := by
  funext i
  unfold R2
  by_cases e : i = 0
  · rw [e, upd_same]
  · rw [upd_ne _ _ e]; rfl
theorem R2_sum : sumR (R2 [] none) 2 = 0 := by
  simp only [sumR, R2_0, R2_1, len2]
  rfl
theorem R2_where (Q : List Int) (x : Int) (h : x ∈ Q) : swhere (R2 [] none) Q 2 x = (-1, true) := by
  rw [swhere_queue (fun j hj => ?_), if_pos h]
  have h3 : j = 0 ∨ j = 1 := by omega
  rcases h3 with rfl | rfl
  · rw [R2_0]; simp [all2]
  · rw [R2_1]; simp [all2]
theorem steal_same' (R : Nat → RM) (p v : Nat) (h : R p = ([], none)) (h2 : R v = ([], none)) (hne : v ≠ p) : getR (stealR R p v) p = R ∧ (rget (stA (R p) (R v)).1 (stA (R p) (R v)).2).1 = (0, false) := by
  have e1 : stA (R p) (R v) = ([], none) := by rw [h, h2]; rfl
  have e2 : stB (R p) (R v) = ([], none) := by rw [h, h2]; rfl
  refine ⟨?_, by rw [e1]; rfl⟩
  funext i
  unfold getR
  by_cases e : i = p
  · rw [e, upd_same, stealR_p (fun e => hne e.symm), e1, h]; rfl
  · rw [upd_ne _ _ e]
    unfold stealR
    by_cases e3 : i = v
    · rw [e3, upd_same, e2, h2]
    · rw [upd_ne _ _ e3, upd_ne _ _ e]

set_option maxHeartbeats 8000000 in
set_option maxRecDepth 100000 in
theorem sdrops_true (n next : Int) (w : World) : Calls Try.prog 14 #[.int .i64 n, .int .i64 next] w fun e w' => e = .returned (.bool true) ∧ Mod (fun _ => False) w w' := by
  obtain ⟨k, hk, ek⟩ := umod n 101 (by omega)
  have ek' : (IntKind.u64.wrap n).tmod 101 = (k : Int) := ek
  obtain ⟨t, ht, et⟩ := umod next 100 (by omega)
  have et' : (IntKind.u64.wrap next).tmod 100 = (t : Int) := et
  clear ek et
  go_enter Try.func14, Try.ntmps14
  go_wp2_with fail
  refine (snew_yes 2 w (by omega) (by omega)).mono ?_
  rintro e w1 ⟨a, rfl, hps, h1⟩
  rw [R2_start] at h1
  have h1 : With w a w1 (R2 [] none) [] none 0 0 [] := by
    obtain ⟨o, q1, q2, q3⟩ := h1
    exact ⟨o, q1, fun k hk => ⟨q2 k hk, fun e => by cases e⟩, q3, OwnL.nil _, fun d hd => by cases hd⟩
  have HP := Lib.hid hps
  clear hps
  go_wp2_with fail
  clear ek'
  go_loopw [8, 9] (fun v i wr => ∃ (m : Nat) (A : Option Addr) (c : Nat), m ≤ k ∧ i = .int .i64 m ∧ v = .slice A m c ∧ With w a wr (R2 (upto 0 m) none) [] A m c (upto 0 m)) (fun _ i _ => k - (intOf i).toNat)
  case atStart => exact ⟨0, none, 0, by omega, rfl, rfl, h1⟩
  case round =>
    clear h1
    obtain ⟨m, A, c, hm, rfl, rfl, h⟩ := hrel
    by_cases hmk : m < k
    · have hr := ready_room (R2 (upto 0 m) none) [] 0 m (R2_0 _ _) (by rw [upto_len]; omega)
      have e : upto 0 m ++ [(m : Int)] = upto 0 (m + 1) := by rw [upto_snoc]; simp
      rw [e, R2_set] at hr
      have HR := Lib.hid hr
      have HE := Lib.hid e
      clear e hr
      go_wp2_with fail
      refine (h.call (fun o hs => sready_yes hs 0 (by have := HP.out; omega) m false (by simp))).mono ?_
      rintro e w2 ⟨rfl, h2⟩
      rw [HR.out.1, HR.out.2] at h2
      clear h
      go_wp2_with (at_builtin; refine wpList_app _ rfl (.tmp 41) (.tmp 43) _ rfl Try.underlying27 int_info A m c _ rfl (h2.own.alloc _) _ 1 1 [(m : Int)] rfl (IsL.one w2 _) (by omega) ?_; intro A3 n3 c3 w3 hn1 hn2 hown3 hg3 hat3)
      obtain rfl : n3 = m + 1 := by omega
      have h3 := h2.app hg3 hown3 hat3
      rw [HE.out] at h3
      clear h2 hown3 hg3 hat3
      go_roundw
      case rel => exact ⟨m + 1, A3, c3, by omega, by go_num, rfl, h3⟩
      case measure => simp [intOf]; omega
    · obtain rfl : m = k := by omega
      clear hm hmk
      obtain ⟨wa, rfl⟩ : ∃ wa : World, wa = wr := ⟨_, rfl⟩
      by_cases hm0 : 0 < m
      · have d1 : decide ((0 : Int) < (m : Int)) = true := decide_eq_true (by omega)
        have d2 : decide (0 < m) = true := decide_eq_true hm0
        go_wp2_with fail
        refine (h.call (fun o hs => sready_yes hs 0 (by have := HP.out; omega) (1000 + (t : Int)) true (by simp))).mono ?_
        rintro e w2 ⟨rfl, h2⟩
        obtain ⟨r1, r2⟩ := ready_next (R2 (upto 0 m) none) [] 0 (1000 + (t : Int)) (R2_0 _ _)
        rw [r1, r2, R2_set] at h2
        clear h r1 r2
        go_wp2_with (at_builtin; refine wpList_app _ rfl (.tmp 56) (.tmp 57) _ rfl Try.underlying27 int_info _ 1 1 [1000 + (t : Int)] rfl (OwnL.one w2 _) A m c (upto 0 m) rfl (h2.own.isL.alloc _) (by omega) ?_; intro A3 n3 c3 w3 hn1 hn2 hown3 hg3 hat3)
        have h3 : With w a w3 (R2 (upto 0 m) (some (1000 + (t : Int)))) [] A3 n3 c3 ([1000 + (t : Int)] ++ upto 0 m) := h2.swap (((Mod.refl _ w2).alloc _).grown hg3 (fun k hk => .inr (blk_size w2 k hk))) hown3 (fresh_app (blk_size w2) (Nat.le_refl _) hat3)
        have hWl : all2 (R2 (upto 0 m) (some (1000 + (t : Int))) 0) = [1000 + (t : Int)] ++ upto 0 m := by rw [R2_0]; rfl
        have hnl : n3 ≤ 101 := by omega
        clear h2 hown3 hg3 hat3 hn1 hn2
        generalize [1000 + (t : Int)] ++ upto 0 m = Wl at h3 hWl
        have hset : upd (R2 (upto 0 m) (some (1000 + (t : Int)))) 0 ([], none) = R2 [] none := R2_set _ _ _ _
        generalize R2 (upto 0 m) (some (1000 + (t : Int))) = RR at h3 hWl hset
        have hlen : Wl.length = n3 := h3.own.len
        have HW := Lib.hid hWl
        have HS := Lib.hid hset
        have HL := Lib.hid hlen
        clear hWl hset hlen
        go_wp2_with fail
        refine (h3.local 0 (by have := HP.out; omega)).mono ?_
        rintro e w4 ⟨A4, c4, rfl, hl4, h4⟩
        rw [HW.out] at hl4
        have e4 : len2 (RR 0) = n3 := by rw [← all2_len, HW.out, HL.out]
        rw [e4] at hl4 ⊢
        have E4 := Lib.hid e4
        clear h3 e4
        go_wp2_with fail
        refine (ints_sameS A4 A3 n3 n3 c4 c3 Wl _ hl4 h4.own.isL (by omega)).mono ?_
        rintro e w5 ⟨rfl, m5⟩
        have h5 := h4.keep0 m5
        clear h4 hl4 m5
        have hd : Calls Try.prog 48 #[.pointer (some ⟨a.s, 0, none⟩), .int .i64 (0 : Nat)] w5 fun e w' => e = .returned (.int .i64 (n3 : Nat)) ∧ With w a w' (R2 [] none) Wl A3 n3 c3 Wl := by
          have h6 := h5.call (fun o hs => sdrop_yes hs 0 (by have := HP.out; omega) (by simp))
          rw [HS.out, HW.out, E4.out] at h6
          exact h6
        have HD := Lib.hid hd
        clear hd
        go_wp2_with fail
        refine HD.out.mono ?_
        rintro e w6 ⟨rfl, h6⟩
        have hz1 : (((n3 : Nat) : Int) != ((n3 : Nat) : Int)) = false := by simp
        clear h5
        go_wp2_with fail
        refine (h6.local 0 (by have := HP.out; omega)).mono ?_
        rintro e w7 ⟨A7, c7, rfl, _, h7⟩
        have e7 : len2 (R2 [] none 0) = 0 := by rw [R2_0]; rfl
        rw [e7]
        clear h6 e7
        go_wp2_with fail
        have hlq : Wl.length ≤ 800000 := by rw [HL.out]; omega
        refine (h7.common hlq).mono ?_
        rintro e w8 ⟨A8, c8, rfl, hl8, h8⟩
        rw [HL.out] at hl8 ⊢
        clear h7
        go_wp2_with fail
        refine (ints_sameS A8 A3 n3 n3 c8 c3 Wl _ hl8 h8.own.isL (by omega)).mono ?_
        rintro e w9 ⟨rfl, m9⟩
        have h9 := h8.keep0 m9
        clear h8 hl8 m9
        have hln : Calls Try.prog 44 #[.pointer (some ⟨a.s, 0, none⟩)] w9 fun e w' => e = .returned (.int .i64 (n3 : Nat)) ∧ With w a w' (R2 [] none) Wl A3 n3 c3 Wl := by
          have h10 := h9.ask (fun o hs => slen hs hlq)
          rw [HP.out, R2_sum, Nat.add_zero, HL.out] at h10
          exact h10
        have HLn := Lib.hid hln
        clear hln
        go_wp2_with fail
        refine HLn.out.mono ?_
        rintro e w10 ⟨rfl, h10⟩
        clear h9
        go_wp2_with fail
        -- each of them is in common
        go_loopw [11] (fun i wr => ∃ j : Nat, j ≤ n3 ∧ i = .int .i64 j ∧ With w a wr (R2 [] none) Wl A3 n3 c3 Wl) (fun i _ => n3 - (intOf i).toNat)
        case atStart => exact ⟨0, by omega, rfl, h10⟩
        case round =>
          clear h10
          obtain ⟨j, hj, rfl, hj2⟩ := hrel
          by_cases hjn : j < n3
          · obtain ⟨x, _, _, e3⟩ := drop_cons Wl (k := j) (by rw [HL.out]; exact hjn)
            have hmem : x ∈ Wl := mem_first Wl (by rw [HL.out]; exact hjn) e3
            have hw : Calls Try.prog 42 #[.pointer (some ⟨a.s, 0, none⟩), .int .i64 x] wr fun e w' => e = .returned (.tuple #[.int .i64 (-1), .bool true]) ∧ With w a w' (R2 [] none) Wl A3 n3 c3 Wl := by
              have h11 := hj2.ask (fun o hs => swhere_any hs x hlq)
              rw [HP.out, R2_where Wl x hmem] at h11
              exact h11
            obtain ⟨gg, oo, rfl, hcx⟩ := hj2.own.isL.at_ hjn
            rw [e3] at hcx
            have HWh := Lib.hid hw
            have hi0 : (0 : Int) ≤ (j : Int) := by omega
            have hi1 : (j : Int) < (n3 : Int) := by omega
            clear hw e3 hmem
            go_wp2_with fail
            refine HWh.out.mono ?_
            rintro e w11 ⟨rfl, h11⟩
            clear hj2 hcx HWh
            go_wp2_with fail
            go_roundw
            case rel => exact ⟨j + 1, by omega, by go_num, h11⟩
            case measure => simp [intOf]; omega
          · obtain rfl : j = n3 := by omega
            obtain ⟨wb, rfl⟩ : ∃ wb : World, wb = wr := ⟨_, rfl⟩
            clear hj hjn
            go_wp2_with fail
            -- each comes out, in order
            go_loopw [14] (fun i wr => ∃ j' : Nat, j' ≤ j ∧ i = .int .i64 j' ∧ With w a wr (R2 [] none) (Wl.drop j') A3 j c3 Wl) (fun i _ => j - (intOf i).toNat)
            case atStart => exact ⟨0, by omega, rfl, hj2⟩
            case round =>
              clear hj2
              obtain ⟨i, hi, rfl, h⟩ := hrel
              by_cases hin : i < j
              · obtain ⟨x, e1, _, e3⟩ := drop_cons Wl (k := i) (by rw [HL.out]; exact hin)
                rw [e1] at h
                have hp : Calls Try.prog 43 #[.pointer (some ⟨a.s, 0, none⟩), .int .i64 (1 : Nat), .int .i64 61, .int .i64 0] wr fun e w' => e = .returned (.tuple #[.int .i64 x, .bool true]) ∧ With w a w' (R2 [] none) (Wl.drop (i + 1)) A3 j c3 Wl := by
                  have h12 := h.call (fun o hs => pick_any hs 1 (by have := HP.out; omega) 61 0 (by rw [← e1, List.length_drop, HL.out]; omega))
                  rw [pickM_fair _ _ _ _ _ _ _ (by omega) (by decide)] at h12
                  exact h12
                have HPk := Lib.hid hp
                have E3 := Lib.hid e3
                have hi0 : (0 : Int) ≤ (i : Int) := by omega
                have hi1 : (i : Int) < (j : Int) := by omega
                clear hp e1 e3
                go_wp2_with fail
                refine HPk.out.mono ?_
                rintro e w12 ⟨rfl, h12⟩
                clear h
                obtain ⟨gg, oo, rfl, hcx⟩ := h12.own.isL.at_ hin
                rw [E3.out] at hcx
                have hzx : (x != x) = false := by simp
                go_wp2_with fail
                go_roundw
                case rel => exact ⟨i + 1, by omega, by go_num, h12⟩
                case measure => simp [intOf]; omega
              · obtain rfl : i = j := by omega
                have e0 : Wl.drop i = [] := List.drop_eq_nil_of_le (by rw [HL.out]; omega)
                rw [e0] at h
                have hs := steal_same' (R2 [] none) 1 0 (R2_1 _ _) (R2_0 _ _) (by omega)
                have hpk := pickM_steal (R2 [] none) a.ps 1 61 0 (R2_1 _ _) (by have := HP.out; omega) (by omega)
                rw [hs.1, hs.2] at hpk
                have hp := h.sl.pick' 1 (by have := HP.out; omega) 61 (0 : Nat) (by simp) hpk
                have HPk := Lib.hid hp
                have hset1 : upd (R2 [] none) 1 ([], none) = R2 [] none := by
                  have e := upd_self (R2 [] none) 1
                  rw [R2_1] at e
                  exact e
                have HS1 := Lib.hid hset1
                clear e0 hs hpk hp hset1
                go_wp2_with fail
                refine HPk.out.mono ?_
                rintro e w13 ⟨rfl, h13⟩
                clear h
                go_wp2_with fail
                refine (told27 _).mono ?_
                rintro e w14 ⟨rfl, m14⟩
                have h14 := h13.keep0 m14
                clear h13 m14
                have hd1 := h14.drop 1 (by have := HP.out; omega) (by simp)
                rw [R2_1] at hd1
                have hd1 : Calls Try.prog 48 #[.pointer (some ⟨a.s, 0, none⟩), .int .i64 (1 : Nat)] w14 fun e w' => e = .returned (.int .i64 0) ∧ SL w a w' (upd (R2 [] none) 1 ([], none)) [] := hd1
                have HD1 := Lib.hid hd1
                clear hd1
                go_wp2_with fail
                refine HD1.out.mono ?_
                rintro e w15 ⟨rfl, h15⟩
                clear h14
                have hd2 : Calls Try.prog 48 #[.pointer (some ⟨a.s, 0, none⟩), .int .i64 9] w15 fun e w' => e = .returned (.int .i64 0) ∧ SL w a w' (upd (R2 [] none) 1 ([], none)) [] :=
                  h15.ask (fun o hs => (sdrop_no hs 9 (by have := HP.out; omega)).mono fun e w' ⟨he, hw⟩ => ⟨he, by rw [hw]; exact Mod.refl _ _⟩)
                have HD2 := Lib.hid hd2
                clear hd2
                go_wp2_with fail
                refine HD2.out.mono ?_
                rintro e w16 ⟨rfl, h16⟩
                have hmd := h16.mod
                clear h15 h16
                go_wp2_with fail
                go_ret
                exact ⟨rfl, hmd⟩
      · have d1 : decide ((0 : Int) < (m : Int)) = false := decide_eq_false (by omega)
        have d2 : decide (0 < m) = false := decide_eq_false hm0
        have hWl : all2 (R2 (upto 0 m) none 0) = upto 0 m := by rw [R2_0]; rfl
        have hnl : m ≤ 101 := by omega
        have h3 := h
        have hset : upd (R2 (upto 0 m) none) 0 ([], none) = R2 [] none := R2_set _ _ _ _
        clear h
        generalize upto 0 m = Wl at h3 hWl hset
        generalize R2 Wl none = RR at h3 hWl hset
        have hlen : Wl.length = m := h3.own.len
        have HW := Lib.hid hWl
        have HS := Lib.hid hset
        have HL := Lib.hid hlen
        clear hWl hset hlen
        go_wp2_with fail
        refine (h3.local 0 (by have := HP.out; omega)).mono ?_
        rintro e w4 ⟨A4, c4, rfl, hl4, h4⟩
        rw [HW.out] at hl4
        have e4 : len2 (RR 0) = m := by rw [← all2_len, HW.out, HL.out]
        rw [e4] at hl4 ⊢
        have E4 := Lib.hid e4
        clear h3 e4
        go_wp2_with fail
        refine (ints_sameS A4 A m m c4 c Wl _ hl4 h4.own.isL (by omega)).mono ?_
        rintro e w5 ⟨rfl, m5⟩
        have h5 := h4.keep0 m5
        clear h4 hl4 m5
        have hd : Calls Try.prog 48 #[.pointer (some ⟨a.s, 0, none⟩), .int .i64 (0 : Nat)] w5 fun e w' => e = .returned (.int .i64 (m : Nat)) ∧ With w a w' (R2 [] none) Wl A m c Wl := by
          have h6 := h5.call (fun o hs => sdrop_yes hs 0 (by have := HP.out; omega) (by simp))
          rw [HS.out, HW.out, E4.out] at h6
          exact h6
        have HD := Lib.hid hd
        clear hd
        go_wp2_with fail
        refine HD.out.mono ?_
        rintro e w6 ⟨rfl, h6⟩
        have hz1 : (((m : Nat) : Int) != ((m : Nat) : Int)) = false := by simp
        clear h5
        go_wp2_with fail
        refine (h6.local 0 (by have := HP.out; omega)).mono ?_
        rintro e w7 ⟨A7, c7, rfl, _, h7⟩
        have e7 : len2 (R2 [] none 0) = 0 := by rw [R2_0]; rfl
        rw [e7]
        clear h6 e7
        go_wp2_with fail
        have hlq : Wl.length ≤ 800000 := by rw [HL.out]; omega
        refine (h7.common hlq).mono ?_
        rintro e w8 ⟨A8, c8, rfl, hl8, h8⟩
        rw [HL.out] at hl8 ⊢
        clear h7
        go_wp2_with fail
        refine (ints_sameS A8 A m m c8 c Wl _ hl8 h8.own.isL (by omega)).mono ?_
        rintro e w9 ⟨rfl, m9⟩
        have h9 := h8.keep0 m9
        clear h8 hl8 m9
        have hln : Calls Try.prog 44 #[.pointer (some ⟨a.s, 0, none⟩)] w9 fun e w' => e = .returned (.int .i64 (m : Nat)) ∧ With w a w' (R2 [] none) Wl A m c Wl := by
          have h10 := h9.ask (fun o hs => slen hs hlq)
          rw [HP.out, R2_sum, Nat.add_zero, HL.out] at h10
          exact h10
        have HLn := Lib.hid hln
        clear hln
        go_wp2_with fail
        refine HLn.out.mono ?_
        rintro e w10 ⟨rfl, h10⟩
        clear h9
        go_wp2_with fail
        -- each of them is in common
        go_loopw [11] (fun i wr => ∃ j : Nat, j ≤ m ∧ i = .int .i64 j ∧ With w a wr (R2 [] none) Wl A m c Wl) (fun i _ => m - (intOf i).toNat)
        case atStart => exact ⟨0, by omega, rfl, h10⟩
        case round =>
          clear h10
          obtain ⟨j, hj, rfl, hj2⟩ := hrel
          by_cases hjn : j < m
          · obtain ⟨x, _, _, e3⟩ := drop_cons Wl (k := j) (by rw [HL.out]; exact hjn)
            have hmem : x ∈ Wl := mem_first Wl (by rw [HL.out]; exact hjn) e3
            have hw : Calls Try.prog 42 #[.pointer (some ⟨a.s, 0, none⟩), .int .i64 x] wr fun e w' => e = .returned (.tuple #[.int .i64 (-1), .bool true]) ∧ With w a w' (R2 [] none) Wl A m c Wl := by
              have h11 := hj2.ask (fun o hs => swhere_any hs x hlq)
              rw [HP.out, R2_where Wl x hmem] at h11
              exact h11
            obtain ⟨gg, oo, rfl, hcx⟩ := hj2.own.isL.at_ hjn
            rw [e3] at hcx
            have HWh := Lib.hid hw
            have hi0 : (0 : Int) ≤ (j : Int) := by omega
            have hi1 : (j : Int) < (m : Int) := by omega
            clear hw e3 hmem
            go_wp2_with fail
            refine HWh.out.mono ?_
            rintro e w11 ⟨rfl, h11⟩
            clear hj2 hcx HWh
            go_wp2_with fail
            go_roundw
            case rel => exact ⟨j + 1, by omega, by go_num, h11⟩
            case measure => simp [intOf]; omega
          · obtain rfl : j = m := by omega
            obtain ⟨wb, rfl⟩ : ∃ wb : World, wb = wr := ⟨_, rfl⟩
            clear hj hjn
            go_wp2_with fail
            -- each comes out, in order
            go_loopw [14] (fun i wr => ∃ j' : Nat, j' ≤ j ∧ i = .int .i64 j' ∧ With w a wr (R2 [] none) (Wl.drop j') A j c Wl) (fun i _ => j - (intOf i).toNat)
            case atStart => exact ⟨0, by omega, rfl, hj2⟩
            case round =>
              clear hj2
              obtain ⟨i, hi, rfl, h⟩ := hrel
              by_cases hin : i < j
              · obtain ⟨x, e1, _, e3⟩ := drop_cons Wl (k := i) (by rw [HL.out]; exact hin)
                rw [e1] at h
                have hp : Calls Try.prog 43 #[.pointer (some ⟨a.s, 0, none⟩), .int .i64 (1 : Nat), .int .i64 61, .int .i64 0] wr fun e w' => e = .returned (.tuple #[.int .i64 x, .bool true]) ∧ With w a w' (R2 [] none) (Wl.drop (i + 1)) A j c Wl := by
                  have h12 := h.call (fun o hs => pick_any hs 1 (by have := HP.out; omega) 61 0 (by rw [← e1, List.length_drop, HL.out]; omega))
                  rw [pickM_fair _ _ _ _ _ _ _ (by omega) (by decide)] at h12
                  exact h12
                have HPk := Lib.hid hp
                have E3 := Lib.hid e3
                have hi0 : (0 : Int) ≤ (i : Int) := by omega
                have hi1 : (i : Int) < (j : Int) := by omega
                clear hp e1 e3
                go_wp2_with fail
                refine HPk.out.mono ?_
                rintro e w12 ⟨rfl, h12⟩
                clear h
                obtain ⟨gg, oo, rfl, hcx⟩ := h12.own.isL.at_ hin
                rw [E3.out] at hcx
                have hzx : (x != x) = false := by simp
                go_wp2_with fail
                go_roundw
                case rel => exact ⟨i + 1, by omega, by go_num, h12⟩
                case measure => simp [intOf]; omega
              · obtain rfl : i = j := by omega
                have e0 : Wl.drop i = [] := List.drop_eq_nil_of_le (by rw [HL.out]; omega)
                rw [e0] at h
                have hs := steal_same' (R2 [] none) 1 0 (R2_1 _ _) (R2_0 _ _) (by omega)
                have hpk := pickM_steal (R2 [] none) a.ps 1 61 0 (R2_1 _ _) (by have := HP.out; omega) (by omega)
                rw [hs.1, hs.2] at hpk
                have hp := h.sl.pick' 1 (by have := HP.out; omega) 61 (0 : Nat) (by simp) hpk
                have HPk := Lib.hid hp
                have hset1 : upd (R2 [] none) 1 ([], none) = R2 [] none := by
                  have e := upd_self (R2 [] none) 1
                  rw [R2_1] at e
                  exact e
                have HS1 := Lib.hid hset1
                clear e0 hs hpk hp hset1
                go_wp2_with fail
                refine HPk.out.mono ?_
                rintro e w13 ⟨rfl, h13⟩
                clear h
                go_wp2_with fail
                refine (told27 _).mono ?_
                rintro e w14 ⟨rfl, m14⟩
                have h14 := h13.keep0 m14
                clear h13 m14
                have hd1 := h14.drop 1 (by have := HP.out; omega) (by simp)
                rw [R2_1] at hd1
                have hd1 : Calls Try.prog 48 #[.pointer (some ⟨a.s, 0, none⟩), .int .i64 (1 : Nat)] w14 fun e w' => e = .returned (.int .i64 0) ∧ SL w a w' (upd (R2 [] none) 1 ([], none)) [] := hd1
                have HD1 := Lib.hid hd1
                clear hd1
                go_wp2_with fail
                refine HD1.out.mono ?_
                rintro e w15 ⟨rfl, h15⟩
                clear h14
                have hd2 : Calls Try.prog 48 #[.pointer (some ⟨a.s, 0, none⟩), .int .i64 9] w15 fun e w' => e = .returned (.int .i64 0) ∧ SL w a w' (upd (R2 [] none) 1 ([], none)) [] :=
                  h15.ask (fun o hs => (sdrop_no hs 9 (by have := HP.out; omega)).mono fun e w' ⟨he, hw⟩ => ⟨he, by rw [hw]; exact Mod.refl _ _⟩)
                have HD2 := Lib.hid hd2
                clear hd2
                go_wp2_with fail
                refine HD2.out.mono ?_
                rintro e w16 ⟨rfl, h16⟩
                have hmd := h16.mod
                clear h15 h16
                go_wp2_with fail
                go_ret
                exact ⟨rfl, hmd⟩

end Go.Proofs.Ytgojfccaohngaaa
