/-
  The contracts of the reference's scheduler: New, Ready, Where, Len, Drop.
-/
import Derived.Test.YtgojfccaohngaaaRSch
set_option linter.unusedSimpArgs false
namespace Go.Proofs.Ytgojfccaohngaaa
open Go.RowKit

section
variable {x : RA} {lo : Nat} {D : Nat → Prop} {w w' w1 w2 : World} {bs : Nat → Nat} {f : Nat → Value} {A : Option Addr} {n c : Nat} {R R1 R2 : Nat → RM} {Q Q1 Q2 : List Int}
theorem RSI.keepT0 (h : RSI x lo D w bs f A n c R Q) (m : Mod (fun _ => False) w w') : RTo x lo D w w' R Q := ⟨⟨bs, f, A, n, c, h.keep0 m⟩, ModT.of0 m⟩
theorem RTo.trans (h : RTo x lo D w w1 R1 Q1) (k : RSch x lo D w1 R1 Q1 → RTo x lo D w1 w2 R2 Q2) : RTo x lo D w w2 R2 Q2 := ⟨(k h.1).1, h.2.trans (k h.1).2⟩
theorem RTo.ahead (m : Mod (fun _ => False) w w1) (k : RTo x lo D w1 w2 R2 Q2) : RTo x lo D w w2 R2 Q2 := ⟨k.1, (ModT.of0 m).trans k.2⟩
theorem RTo.behind (k : RTo x lo D w w1 R2 Q2) (m : Mod (fun _ => False) w1 w2) : RTo x lo D w w2 R2 Q2 := by
  obtain ⟨⟨bs, f, A, n, c, h⟩, t⟩ := k
  exact ⟨⟨bs, f, A, n, c, h.keep0 m⟩, t.trans (ModT.of0 m)⟩
theorem RSI.toRing (h : RSI x lo D w bs f A n c R Q) {k : Nat} (hk : k < x.ps) {E : RM} (r : RRingD D w' (bs k) E.1 E.2) (m : Mod (· = bs k) w w') : RTo x lo D w w' (upd R k E) Q := ⟨⟨bs, f, A, n, c, h.onRing hk r m⟩, h.mod_ring hk m⟩
/-- A ring is laid anew. -/
theorem RSI.newRing (h : RSI x lo D w bs f A n c R Q) {k : Nat} (hk : k < x.ps) :
    RTo x lo D w ((w.alloc (.cells #[.slice none 0 0, .slice none 0 0] 55)).setCell ⟨x.g, k, none⟩ (.pointer (some ⟨w.heap.size, 0, none⟩))) (upd R k ([], none)) Q := by
  have ma : Mod (fun _ => False) w (w.alloc (.cells #[.slice none 0 0, .slice none 0 0] 55)) := (Mod.refl _ w).alloc _
  have h1 := h.keep0 ma
  have hr := RRingD.alloc D w
  have ms := set_mod (w.alloc (.cells #[.slice none 0 0, .slice none 0 0] 55)) x.g k (.pointer (some ⟨w.heap.size, 0, none⟩))
  have hT := HasT.of_row h1.arr
  have h3 : ∀ g, g = x.g → D g ∨ ¬ HasT (w.alloc (.cells #[.slice none 0 0, .slice none 0 0] 55)) g 3 := fun g hg => .inr (fun h3 => by rw [hg] at h3; exact h3.ne hT (by decide) rfl)
  have h2 := h1.arr.set k (.pointer (some ⟨w.heap.size, 0, none⟩))
  have hsz : lo ≤ w.heap.size := Nat.le_trans h.ls (Nat.le_of_lt h.row.lt)
  refine ⟨⟨upd bs k w.heap.size, fun j => if j = k then .pointer (some ⟨w.heap.size, 0, none⟩) else f j, A, n, c, ?_⟩, (ModT.of0 ma).trans (ModT.one (.inr (.inl rfl)) hT h.lg ms)⟩
  exact {
    row := ms.rowIs h1.row ((HasT.of_row h1.row).ne hT (by decide))
    arr := h2
    ptr := fun i hi => by
      by_cases e : i = k
      · subst e; rw [if_pos rfl, upd_same]
      · rw [if_neg e, upd_ne _ _ e]; exact h.ptr i hi
    ring := fun i hi => by
      by_cases e : i = k
      · subst e
        rw [upd_same, upd_same]
        exact hr.keep ms (fun e => hr.hasT.ne hT (by decide) e) h3
      · rw [upd_ne _ _ e, upd_ne _ _ e]
        exact (h1.ring i hi).keep ms (fun e => (h1.ring i hi).hasT.ne hT (by decide) e) h3
    inj := fun i j hi hj e => by
      by_cases ei : i = k
      · by_cases ej : j = k
        · omega
        · subst ei
          rw [upd_same, upd_ne _ _ ej] at e
          have := (h.ring j hj).hasT.lt
          omega
      · by_cases ej : j = k
        · subst ej
          rw [upd_same, upd_ne _ _ ei] at e
          have := (h.ring i hi).hasT.lt
          omega
        · rw [upd_ne _ _ ei, upd_ne _ _ ej] at e
          exact h.inj i j hi hj e
    q := h1.q.keep ms (fun d hd e => by
      rcases h3 _ e with e2 | e2
      · exact h1.ty.no d.block (by rw [hd]; rfl) e2
      · exact e2 (h1.ty.ty d.block (by rw [hd]; rfl)))
    ty := h1.ty.keep ms (fun g hg e => by
      rcases h3 _ e with e2 | e2
      · exact h1.ty.no g hg e2
      · exact e2 (h1.ty.ty g hg))
    one := h.one, most := h.most, cap := h.cap, capm := h.capm, ls := h.ls, lg := h.lg
    lb := fun i hi => by
      by_cases e : i = k
      · subst e; rw [upd_same]; exact hsz
      · rw [upd_ne _ _ e]; exact h.lb i hi }

theorem rs_ready_no (h : RSch x lo D w R Q) (p : Int) (hp : p < 0 ∨ (x.ps : Int) ≤ p) (g : Int) (next : Bool) :
    Calls Try.prog 51 #[.pointer (some ⟨x.s, 0, none⟩), .int .i64 p, .int .i64 g, .bool next] w fun e w' => e = .returned (.int .i64 1) ∧ w' = w := by
  obtain ⟨bs, f, A, n, c, h⟩ := h
  have hc := h.c0
  by_cases h0 : p < 0
  · have h3 : decide (p < 0) = true := decide_eq_true h0
    clear hp
    go_enter Try.func51, Try.ntmps51
    go_wp2
    go_ret
    exact ⟨rfl, rfl⟩
  · have h3 : decide (p < 0) = false := decide_eq_false h0
    have h4 : decide ((x.ps : Int) ≤ p) = true := decide_eq_true (by omega)
    clear hp
    go_enter Try.func51, Try.ntmps51
    go_wp2
    go_ret
    exact ⟨rfl, rfl⟩

set_option maxHeartbeats 1000000 in
theorem rs_ready_yes (hD : ∀ g, D g → g < w.heap.size) (h : RSch x lo D w R Q) (p : Nat) (hp : p < x.ps) (hlen : (R p).1.length ≤ 256) (g : Int) (next : Bool) (hb : Q.length ≤ 700000) :
    Calls Try.prog 51 #[.pointer (some ⟨x.s, 0, none⟩), .int .i64 p, .int .i64 g, .bool next] w fun e w' => e = .returned (.int .i64 0) ∧ RTo x lo D w w' (ready R p g next) (readyQ R Q p g next) := by
  obtain ⟨bs, f, A, n, c, h⟩ := h
  have hc := h.c0
  have hcp := h.cp hp
  have h64 := h.most
  have hcap := h.cap
  have hi0 : (0 : Int) ≤ (p : Int) := by omega
  have hi1 : (p : Int) < (x.ps : Int) := by omega
  have h3 : decide ((p : Int) < 0) = false := decide_eq_false (by omega)
  have h4 : decide ((x.ps : Int) ≤ (p : Int)) = false := decide_eq_false (by omega)
  have h5 : decide (x.ps ≤ p) = false := decide_eq_false (by omega)
  go_enter Try.func51, Try.ntmps51
  go_wp2_with fail
  refine (dput_any (bs p) g next (R p).1 (R p).2 w hD (h.ring p hp) hlen).mono ?_
  rintro e w3 ⟨A3, n3, c3, rfl, hr3, hA3, _, m3⟩
  have hT := h.toRing hp (E := put2 (R p) g next) hr3 m3
  have hn3 : n3 ≤ 129 := by rw [← hA3.len]; exact over2_len (R p) g next
  have hD3 : ∀ g, D g → g < w3.heap.size := fun g hg => Nat.lt_of_lt_of_le (hD g hg) m3.size
  go_wp2_with fail
  refine (rs_global hD3 hT.1 A3 n3 c3 _ hA3 (by omega)).mono ?_
  rintro e w4 ⟨rfl, hT4⟩
  clear hr3 m3 hA3
  go_wp2
  go_ret
  exact ⟨rfl, hT.trans (fun _ => hT4)⟩

set_option maxHeartbeats 1000000 in
theorem rs_where (h : RSch x lo D w R Q) (g : Int) (hlen : ∀ i, i < x.ps → (R i).1.length ≤ 256) (hb : Q.length ≤ 800000) :
    Calls Try.prog 55 #[.pointer (some ⟨x.s, 0, none⟩), .int .i64 g] w fun e w' => e = .returned (.tuple #[.int .i64 (swhere R Q x.ps g).1, .bool (swhere R Q x.ps g).2]) ∧ Mod (fun _ => False) w w' := by
  obtain ⟨bs, f, A, n, c, h⟩ := h
  have hpm := h.most
  have hcap := h.cap
  have hnQ : n ≤ 900000 := by have := h.q.len; omega
  obtain ⟨V, hV⟩ : ∃ V, V = swhere R Q x.ps g := ⟨_, rfl⟩
  rw [← hV]
  have HV := Lib.hid hV
  have HL := Lib.hid hlen
  clear hV hlen hb
  go_enter Try.func55, Try.ntmps55
  go_wp2_with fail
  go_loopw [6] (fun i wr => ∃ k : Nat, k ≤ x.ps ∧ i = .int .i64 k ∧ (∀ j, j < k → g ∉ all2 (R j)) ∧ RSI x lo D wr bs f A n c R Q ∧ Mod (fun _ => False) w wr) (fun i _ => x.ps - (intOf i).toNat)
  case atStart => exact ⟨0, by omega, rfl, (fun j hj => by omega), h, Mod.refl _ _⟩
  case round =>
    clear h
    obtain ⟨k, hk, rfl, hno, h, mr⟩ := hrel
    have hc0 := h.c0
    by_cases hk2 : k < x.ps
    · have hcp := h.cp hk2
      have hi0 : (0 : Int) ≤ (k : Int) := by omega
      have hi1 : (k : Int) < (x.ps : Int) := by omega
      have HN := Lib.hid hno
      have hlk := HL.out k hk2
      clear hno
      go_wp2_with fail
      refine (rall_any (bs k) (R k).1 (R k).2 _ (h.ring k hk2).toR (by omega)).mono ?_
      rintro e w3 ⟨A3, n3, c3, rfl, hA, _, m3⟩
      have hA : IsL w3 A3 n3 c3 (all2 (R k)) := hA
      have hn : n3 ≤ 900000 := by have h1 := hA.len; have h2 := len2_le (R k) hlk; rw [← all2_len] at h2; omega
      have h3 := h.keep0 m3
      have m4 := mr.trans m3
      clear h hc0 hcp mr m3
      go_wp2_with fail
      refine (has_any A3 n3 c3 _ g _ hA hn).mono ?_
      rintro e w4 ⟨rfl, hw⟩
      obtain rfl := hw.symm
      clear hw
      by_cases hm : g ∈ all2 (R k)
      · rw [decide_eq_true hm]
        have e := swhere_ring (Q := Q) hk2 hm HN.out
        have HE := Lib.hid e
        clear e hm hA
        go_wp2
        rw [HV.out, HE.out]
        go_ret2
        exact ⟨rfl, m4⟩
      · rw [decide_eq_false hm]
        have hno2 : ∀ j, j < k + 1 → g ∉ all2 (R j) := fun j hj => by
          by_cases e : j = k
          · rw [e]; exact hm
          · exact HN.out j (by omega)
        have HN2 := Lib.hid hno2
        clear hno2 hm hA
        go_wp2
        go_roundw
        case rel => exact ⟨k + 1, by omega, by go_num, HN2.out, h3, m4⟩
        case measure => simp [intOf]; omega
    · have hkp : k = x.ps := by omega
      have e := swhere_queue (R := R) (Q := Q) (ps := x.ps) (g := g) (fun j hj => hno j (by omega))
      have HE := Lib.hid e
      have hc1 := h.c1
      clear hno e hkp
      go_wp2_with fail
      refine (has_any A n c _ g _ h.q hnQ).mono ?_
      rintro e w4 ⟨rfl, hw⟩
      obtain rfl := hw.symm
      clear hw
      by_cases hm : g ∈ Q
      · have e2 : swhere R Q x.ps g = (-1, true) := by rw [HE.out, if_pos hm]
        have HE2 := Lib.hid e2
        rw [decide_eq_true hm]
        clear e2 hm
        go_wp2
        rw [HV.out, HE2.out]
        go_ret2
        exact ⟨rfl, mr⟩
      · have e2 : swhere R Q x.ps g = (0, false) := by rw [HE.out, if_neg hm]
        have HE2 := Lib.hid e2
        rw [decide_eq_false hm]
        clear e2 hm
        go_wp2
        rw [HV.out, HE2.out]
        go_ret2
        exact ⟨rfl, mr⟩

set_option maxHeartbeats 1000000 in
theorem rs_len (h : RSch x lo D w R Q) (hlen : ∀ i, i < x.ps → (R i).1.length ≤ 256) (hb : Q.length ≤ 800000) :
    Calls Try.prog 56 #[.pointer (some ⟨x.s, 0, none⟩)] w fun e w' => e = .returned (.int .i64 ((Q.length + sumR R x.ps : Nat) : Int)) ∧ Mod (fun _ => False) w w' := by
  obtain ⟨bs, f, A, n, c, h⟩ := h
  have hpm := h.most
  have hcap := h.cap
  have hc1 := h.c1
  have HL := Lib.hid hlen
  clear hlen
  have hQ : Q.length = n := h.q.len
  rw [hQ] at hb ⊢
  have HQ := Lib.hid hQ
  clear hQ
  go_enter Try.func56, Try.ntmps56
  go_wp2_with fail
  go_loopw [3, 4] (fun v i wr => ∃ k : Nat, k ≤ x.ps ∧ i = .int .i64 k ∧ v = .int .i64 ((n + sumR R k : Nat) : Int) ∧ RSI x lo D wr bs f A n c R Q ∧ Mod (fun _ => False) w wr) (fun _ i _ => x.ps - (intOf i).toNat)
  case atStart => exact ⟨0, by omega, rfl, by simp [sumR], h, Mod.refl _ _⟩
  case round =>
    clear h hc1
    obtain ⟨k, hk, rfl, rfl, h2, mr⟩ := hrel
    have hc0 := h2.c0
    have hs : sumR R k ≤ 257 * k := sumR_le (fun i hi => len2_le _ (HL.out i (by omega)))
    generalize hS : sumR R k = S at hs
    have HS := Lib.hid hS
    clear hS
    by_cases hk2 : k < x.ps
    · have hcp := h2.cp hk2
      have hi0 : (0 : Int) ≤ (k : Int) := by omega
      have hi1 : (k : Int) < (x.ps : Int) := by omega
      have hl := HL.out k hk2
      have hl2 := len2_le (R k) hl
      have e9 : n + S + len2 (R k) = n + sumR R (k + 1) := by simp only [sumR]; rw [HS.out]; omega
      have E9 := Lib.hid e9
      clear e9
      go_wp2_with fail
      refine (rall_any (bs k) (R k).1 (R k).2 _ (h2.ring k hk2).toR (by omega)).mono ?_
      rintro e w3 ⟨A3, n3, c3, rfl, hA, _, m3⟩
      have e3 : len2 (R k) = n3 := hA.len
      rw [e3] at hl2
      have E3 := Lib.hid e3
      have h3 := h2.keep0 m3
      have m4 := mr.trans m3
      clear h2 hc0 hcp mr m3 e3 hA
      go_wp2
      go_roundw
      case rel => exact ⟨k + 1, by omega, by go_num, by rw [← E9.out, E3.out]; go_num, h3, m4⟩
      case measure => simp [intOf]; omega
    · have hkp : k = x.ps := by omega
      have HK := Lib.hid hkp
      clear hkp
      go_wp2
      go_ret
      refine ⟨?_, mr⟩
      rw [← HK.out, HS.out]
      first | rfl | simp

theorem rs_drop_no (h : RSch x lo D w R Q) (p : Int) (hp : p < 0 ∨ (x.ps : Int) ≤ p) :
    Calls Try.prog 54 #[.pointer (some ⟨x.s, 0, none⟩), .int .i64 p] w fun e w' => e = .returned (.int .i64 0) ∧ w' = w := by
  obtain ⟨bs, f, A, n, c, h⟩ := h
  have hc := h.c0
  by_cases h0 : p < 0
  · have h3 : decide (p < 0) = true := decide_eq_true h0
    clear hp
    go_enter Try.func54, Try.ntmps54
    go_wp2
    go_ret
    exact ⟨rfl, rfl⟩
  · have h3 : decide (p < 0) = false := decide_eq_false h0
    have h4 : decide ((x.ps : Int) ≤ p) = true := decide_eq_true (by omega)
    clear hp
    go_enter Try.func54, Try.ntmps54
    go_wp2
    go_ret
    exact ⟨rfl, rfl⟩

set_option maxHeartbeats 1000000 in
theorem rs_drop_yes (hD : ∀ g, D g → g < w.heap.size) (h : RSch x lo D w R Q) (p : Nat) (hp : p < x.ps) (hlen : (R p).1.length ≤ 256) (hb : Q.length ≤ 700000) :
    Calls Try.prog 54 #[.pointer (some ⟨x.s, 0, none⟩), .int .i64 p] w fun e w' => e = .returned (.int .i64 (len2 (R p))) ∧ RTo x lo D w w' (upd R p ([], none)) (Q ++ all2 (R p)) := by
  obtain ⟨bs, f, A, n, c, h⟩ := h
  have hc := h.c0
  have hcp := h.cp hp
  have h64 := h.most
  have hcap := h.cap
  have hi0 : (0 : Int) ≤ (p : Int) := by omega
  have hi1 : (p : Int) < (x.ps : Int) := by omega
  have h3 : decide ((p : Int) < 0) = false := decide_eq_false (by omega)
  have h4 : decide ((x.ps : Int) ≤ (p : Int)) = false := decide_eq_false (by omega)
  have h5 : decide (x.ps ≤ p) = false := decide_eq_false (by omega)
  have hl := len2_le (R p) hlen
  obtain ⟨N, hN⟩ : ∃ N, N = len2 (R p) := ⟨_, rfl⟩
  rw [← hN] at hl ⊢
  have HN := Lib.hid hN
  clear hN
  go_enter Try.func54, Try.ntmps54
  go_wp2_with fail
  refine (rall_any (bs p) (R p).1 (R p).2 _ (h.ring p hp).toR (by omega)).mono ?_
  rintro e w3 ⟨A3, n3, c3, rfl, hA, hAf, m3⟩
  have hA : IsL w3 A3 n3 c3 (all2 (R p)) := hA
  have e3 : len2 (R p) = n3 := hA.len
  obtain rfl : n3 = N := by rw [HN.out, ← e3]
  have h1 := h.keep0 m3
  have hc0 := h1.c0
  have hcp1 := h1.cp hp
  have hfz := h1.arr.frozen p
  have hgl := h1.arr.lt
  have hn1 := World.new_ne w3 _ hcp1
  have hT := h1.newRing hp
  have eW : (w3.alloc (.cells #[.slice none 0 0, .slice none 0 0] 55)).setCell ⟨x.g, p, none⟩ (.pointer (some ⟨w3.heap.size, 0, none⟩)) = (w3.setCell ⟨x.g, p, none⟩ (.pointer (some ⟨w3.heap.size, 0, none⟩))).alloc (.cells #[.slice none 0 0, .slice none 0 0] 55) := World.setCell_alloc_past _ _ _ _ hgl
  have hA2 : IsL ((w3.alloc (.cells #[.slice none 0 0, .slice none 0 0] 55)).setCell ⟨x.g, p, none⟩ (.pointer (some ⟨w3.heap.size, 0, none⟩))) A3 n3 c3 (all2 (R p)) := by
    refine (hA.alloc _).keep (set_mod _ x.g p _) (fun d hd e => ?_)
    have h8 := hAf d hd
    have h9 := h.arr.lt
    omega
  rw [eW] at hT hA2
  clear hc hcp e3 hA eW
  go_wp2_with fail
  generalize (w3.setCell ⟨x.g, p, none⟩ (.pointer (some ⟨w3.heap.size, 0, none⟩))).alloc (.cells #[.slice none 0 0, .slice none 0 0] 55) = w5 at hT hA2 ⊢
  have hD5 : ∀ g, D g → g < w5.heap.size := fun g hg => Nat.lt_of_lt_of_le (hD g hg) (Nat.le_trans m3.size hT.2.size)
  refine (rs_global hD5 hT.1 A3 n3 c3 _ hA2 (by omega)).mono ?_
  rintro e w6 ⟨rfl, hT6⟩
  have hTT := RTo.ahead m3 (hT.trans (fun _ => hT6))
  clear hA2 hT hT6 hc0 hcp1 hfz hgl hn1
  go_wp2
  go_ret
  exact ⟨rfl, hTT⟩
end

theorem info53 : (Try.prog.info? 53).map (fun i => (i.zero, i.size, i.bytes)) = some (some (.pointer none), 1, 8) := by kernel_rfl
end Go.Proofs.Ytgojfccaohngaaa
