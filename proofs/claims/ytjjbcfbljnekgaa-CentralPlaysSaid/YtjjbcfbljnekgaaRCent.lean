/-
  The contracts of the reference's central (treadmillref5.Central).
-/
import Derived.Test.YtjjbcfbljnekgaaArr
import Derived.Test.YtjjbcfbljnekgaaRPut
import Derived.Test.YtjjbcfbljnekgaaCLaw
set_option linter.unusedSimpArgs false
namespace Go.Proofs.Ytjjbcfbljnekgaa
open Go.RowKit

/-- It returns v and leaves the lists L'. -/
def RRet (w : World) (S : Nat → Prop) (r : Nat) (L' : Nat → List Int) (v : Value) (e : Ending) (w' : World) : Prop :=
  e = .returned v ∧ ∃ S', ArrR 64 74 w' S' r L' ∧ (∀ i, S' i → S i ∨ w.heap.size ≤ i) ∧ Mod S w w'
section
variable {w w' w1 w2 : World} {S S1 S' : Nat → Prop} {r : Nat} {L L' L0 : Nat → List Int} {v : Value} {e : Ending}
theorem RRet.same (h : ArrR 64 74 w S r L) (mm : Mod (fun _ => False) w w') : RRet w S r L v (.returned v) w' := ⟨rfl, S, h.keep0 mm, fun _ h => .inl h, mm.mono (fun _ _ h => h.elim)⟩
theorem RRet.comp (hS1 : ∀ i, S1 i → S i ∨ w.heap.size ≤ i) (m1 : Mod S w w1) (h : RRet w1 S1 r L' v e w') : RRet w S r L' v e w' := by
  obtain ⟨he, S', h1, h2, h3⟩ := h
  refine ⟨he, S', h1, fun i hi => ?_, m1.trans' h3 (fun i hi hs => ?_)⟩
  · rcases h2 i hi with h4 | h4
    · exact hS1 i h4
    · have := m1.size
      exact .inr (by omega)
  · rcases hS1 i hs with h4 | h4
    · exact h4
    · omega
theorem RRet.after (m1 : Mod (fun _ => False) w w1) (h : RRet w1 S r L' v e w') : RRet w S r L' v e w' :=
  RRet.comp (fun _ h => .inl h) (m1.mono (fun _ _ h => h.elim)) h
theorem ArrR.blt {m : Nat} {t : TypeId} (h : ArrR m t w S r L) : r < w.heap.size := h.lt r h.inS

set_option maxHeartbeats 1000000 in
set_option maxRecDepth 100000 in
theorem rcdel (h : ArrR 64 74 w S r L) (id : Int) (hl : Small L) : Calls Try.prog 50 #[.pointer (some ⟨r, 0, none⟩), .int .i64 id] w (RRet w S r (cdelL L id) (.bool (cdelB L id))) := by
  go_enter Try.func50, Try.ntmps50
  go_wp2
  go_loopw [5] (fun i wr => ∃ k : Nat, k ≤ 16 ∧ i = .int .i64 k ∧ Mod (fun _ => False) w wr ∧ ∀ j, j < k * 4 → id ∉ L j) (fun i _ => 16 - (intOf i).toNat)
  case atStart => exact ⟨0, by omega, rfl, Mod.refl _ _, fun j hj => by omega⟩
  case round =>
    obtain ⟨k, hk, rfl, mm, hno⟩ := hrel
    by_cases hk2 : k < 16
    · have hdk : decide ((k : Int) < 16) = true := decide_eq_true (by omega)
      obtain ⟨wa, rfl⟩ : ∃ wa : World, wa = wr := ⟨_, rfl⟩
      go_wp2
      go_loopw [6] (fun i wr => ∃ f : Nat, f ≤ 4 ∧ i = .int .i64 f ∧ Mod (fun _ => False) w wr ∧ ∀ j, j < k * 4 + f → id ∉ L j) (fun i _ => 4 - (intOf i).toNat)
      case atStart => exact ⟨0, by omega, rfl, mm, fun j hj => hno j (by omega)⟩
      case round =>
        clear hno mm
        obtain ⟨f, hf, rfl, mm, hno⟩ := hrel
        by_cases hf2 : f < 4
        · obtain ⟨A, n, c, hc, hLk, hfz, hty, hSA⟩ := (h.keep0 mm).cell (k := k * 4 + f) (by omega)
          have hblt := (h.keep0 mm).blt
          have hk0 : (0 : Int) ≤ (k : Int) := by omega
          have hk1 : (k : Int) < 16 := by omega
          have hf0 : (0 : Int) ≤ (f : Int) := by omega
          have hf1 : (f : Int) < 4 := by omega
          have hln := hl (k * 4 + f) (by omega)
          rw [hLk.len] at hln
          by_cases hm : id ∈ L (k * 4 + f)
          · have hd := decide_eq_true hm
            have HYES := Lib.hid (cdel_yes (by omega) hm (fun m hm => hno m hm))
            clear hno
            go_wp2_with fail
            refine (out_any A n c (L (k * 4 + f)) id _ hLk hty (by omega)).mono ?_
            rintro e w2 ⟨A', n', c', rfl, hr2, ht2, hA2, m2⟩
            rw [hd]
            have tc := (m2.cell (p := ⟨r, k * 4 + f, none⟩) hblt (fun h => h)).trans hc
            have tf := (m2.frozen (p := ⟨r, k * 4 + f, none⟩) hblt (fun h => h)).trans hfz
            have tb := Nat.lt_of_lt_of_le hblt m2.size
            obtain ⟨S', a1, a2, a3⟩ := (h.keep0 mm).set (k := k * 4 + f) (by omega) m2 hr2 ht2 (fun d hd => by
              rcases hA2 with e | e
              · exact .inl (hSA d (by rw [← e]; exact hd))
              · cases A' with
                | none => cases hd
                | some ad => exact .inr (by have := e ad rfl; simp [blk] at hd; omega))
            clear hd hc hLk hr2
            go_wp2
            go_ret
            rw [HYES.out.1, HYES.out.2]
            exact RRet.after mm ⟨rfl, S', a1, a2, a3⟩
          · have hd := decide_eq_false hm
            have HNO := Lib.hid (show ∀ j, j < k * 4 + (f + 1) → id ∉ L j from fun j hj => by
              by_cases e : j = k * 4 + f
              · rw [e]; exact hm
              · exact hno j (by omega))
            clear hno
            go_wp2_with fail
            refine (out_any A n c (L (k * 4 + f)) id _ hLk hty (by omega)).mono ?_
            rintro e w2 ⟨A', n', c', rfl, _, _, _, m2⟩
            rw [hd]
            clear hd
            go_wp2
            go_roundw
            case rel => exact ⟨f + 1, by omega, by go_num, mm.trans m2, HNO.out⟩
            case measure => simp [intOf]; omega
        · obtain rfl : f = 4 := by omega
          have HNO := Lib.hid (show ∀ j, j < (k + 1) * 4 → id ∉ L j from fun j hj => hno j (by omega))
          clear hno
          go_wp2
          go_roundw
          case rel => exact ⟨k + 1, by omega, by go_num, mm, HNO.out⟩
          case measure => simp [intOf]; omega
    · obtain rfl : k = 16 := by omega
      have HNO := Lib.hid (cdel_no (L := L) (id := id) (fun j hj => hno j (by omega)))
      clear hno
      go_wp2
      go_ret
      rw [HNO.out.1, HNO.out.2]
      exact RRet.same h mm

theorem rcun (h : ArrR 64 74 w S r L) (hl : Small L) : Calls Try.prog 51 #[.pointer (some ⟨r, 0, none⟩)] w fun e w' => e = .returned (.int .i64 (cun L 16)) ∧ Mod (fun _ => False) w w' := by
  go_enter Try.func51, Try.ntmps51
  go_wp2
  go_loopw [3, 4] (fun v i wr => ∃ k : Nat, k ≤ 16 ∧ i = .int .i64 k ∧ v = .int .i64 (cun L k) ∧ Mod (fun _ => False) w wr) (fun _ i _ => 16 - (intOf i).toNat)
  case atStart => exact ⟨0, by omega, rfl, rfl, Mod.refl _ _⟩
  case round =>
    obtain ⟨k, hk, rfl, rfl, mm⟩ := hrel
    have hb := cun_le L k hk hl
    obtain ⟨m, hm⟩ : ∃ m, m = cun L k := ⟨_, rfl⟩
    by_cases hk2 : k < 16
    · have h1 := h.keep0 mm
      obtain ⟨A2, n2, c2, hc2, hL2, _, _, _⟩ := h1.cell (k := k * 4 + 2) (by omega)
      obtain ⟨A3, n3, c3, hc3, hL3, _, _, _⟩ := h1.cell (k := k * 4 + 3) (by omega)
      have e2 := hl (k * 4 + 2) (by omega)
      have e3 := hl (k * 4 + 3) (by omega)
      have hs : cun L (k + 1) = cun L k + n2 + n3 := by rw [cun, hL2.len, hL3.len]
      rw [hL2.len] at e2
      rw [hL3.len] at e3
      rw [← hm] at hb hs ⊢
      have HS := Lib.hid hs
      have hk0 : (0 : Int) ≤ (k : Int) := by omega
      have hk1 : (k : Int) < 16 := by omega
      clear hs hm
      go_wp2
      have hw1 : IntKind.i64.wrap ((m : Int) + (n2 : Int)) = (m : Int) + (n2 : Int) := IntWalk.i64_in _ (by omega)
      have hw2 : IntKind.i64.wrap ((m : Int) + (n2 : Int) + (n3 : Int)) = (m : Int) + (n2 : Int) + (n3 : Int) := IntWalk.i64_in _ (by omega)
      go_quiet (fail)
      clear hw1 hw2
      go_wp2
      go_roundw
      case rel => exact ⟨k + 1, by omega, by go_num, by rw [HS.out]; simp, mm.drewN nq⟩
      case measure => simp [intOf]; omega
    · obtain rfl : k = 16 := by omega
      rw [← hm]
      have HM := Lib.hid hm
      clear hm
      go_wp2
      go_ret
      exact ⟨by rw [HM.out]; rfl, mm⟩

theorem rclast_out (h : ArrR 64 74 w S r L) (k j : Int) (hk : ¬ (0 ≤ k ∧ k < 16)) :
    Calls Try.prog 63 #[.pointer (some ⟨r, 0, none⟩), .int .i64 k, .int .i64 j] w (RRet w S r L (tup2 (0, false))) := by
  by_cases h0 : k < 0
  · have hd : decide (k < 0) = true := decide_eq_true h0
    go_enter Try.func63, Try.ntmps63
    go_wp2
    go_ret2
    exact RRet.same h (Mod.refl _ _)
  · have hd : decide (k < 0) = false := decide_eq_false h0
    have hd2 : decide (15 < k) = true := decide_eq_true (by omega)
    clear h0 hk
    go_enter Try.func63, Try.ntmps63
    go_wp2
    go_ret2
    exact RRet.same h (Mod.refl _ _)

set_option maxHeartbeats 1000000 in
set_option maxRecDepth 100000 in
theorem rclast (h : ArrR 64 74 w S r L) (k f : Nat) (hk : k < 16) (hf : f < 4) (hl : Small L) :
    Calls Try.prog 63 #[.pointer (some ⟨r, 0, none⟩), .int .i64 (k : Int), .int .i64 (f : Int)] w (RRet w S r (clastL L (k * 4 + f)) (tup2 (clastV L (k * 4 + f)))) := by
  obtain ⟨A, n, c, hc, hLk, hfz, hty, hSA⟩ := h.cell (k := k * 4 + f) (by omega)
  have hblt := h.blt
  have hd : decide ((k : Int) < 0) = false := decide_eq_false (by omega)
  have hd2 : decide ((15 : Int) < (k : Int)) = false := decide_eq_false (by omega)
  have hd3 : decide (15 < k) = false := decide_eq_false (by omega)
  have hk0 : (0 : Int) ≤ (k : Int) := by omega
  have hk1 : (k : Int) < 16 := by omega
  have hf0 : (0 : Int) ≤ (f : Int) := by omega
  have hf1 : (f : Int) < 4 := by omega
  by_cases h0 : L (k * 4 + f) = []
  · have HV := Lib.hid (show clastV L (k * 4 + f) = (0, false) ∧ clastL L (k * 4 + f) = L by simp [clastV, clastL, h0])
    have hn : n = 0 := by rw [← hLk.len, h0]; rfl
    subst hn
    clear h0
    go_enter Try.func63, Try.ntmps63
    go_wp2
    go_ret2
    rw [HV.out.1, HV.out.2]
    exact RRet.same h (Mod.refl _ _)
  · obtain ⟨l, x, hrx⟩ := clast_eq h0
    have HV := Lib.hid (show clastV L (k * 4 + f) = (x, true) ∧ clastL L (k * 4 + f) = upd L (k * 4 + f) l by simp [clastV, clastL, hrx])
    obtain ⟨m, rfl⟩ : ∃ m, n = m + 1 := ⟨l.length, by rw [← hLk.len, hrx]; simp⟩
    have hlm : l.length = m := by have := hLk.len; rw [hrx] at this; simpa using this
    have hln := hl (k * 4 + f) (by omega)
    rw [hLk.len] at hln
    obtain ⟨g, o, rfl, hcell⟩ := hLk.at_ (k := m) (by omega)
    rw [hrx, List.getD_eq_getElem?_getD, List.getElem?_append_right (by omega), hlm, Nat.sub_self] at hcell
    have hcell' : w.cell? ⟨g, o + m, none⟩ = some (.int .i64 x) := hcell
    have hr4 : IsL w (some ⟨g, o, none⟩) m c l := by have := hLk.take (k := m) (by omega); rw [hrx, ← hlm, List.take_left, hlm] at this; exact this
    have hcut := cut_high (P := Try.prog) 35 Try.underlying35 int_info (some ⟨g, o, none⟩) (m + 1) c m (by have := hLk.le; omega)
    have hgl : g < w.heap.size := World.block_lt_of_cell? w _ hcell'
    have hgr : g ≠ r := by
      rintro rfl
      obtain ⟨ht, B, n', c', hrow, _⟩ := h
      exact hty.ne hrow ht g rfl rfl
    obtain ⟨S', a1, a2, a3⟩ := h.set (k := k * 4 + f) (by omega) ((Mod.refl (fun _ => False) w).drew) (hr4.keep0 ((Mod.refl _ w).drew)) (hty.keep ((Mod.refl (fun _ => False) w).drew) (fun _ _ h => h)) (fun q hq => .inl (hSA q hq))
    have tcell : (w.drew.setCell ⟨r, k * 4 + f, none⟩ (.slice (some ⟨g, o, none⟩) m c)).cell? ⟨g, o + m, none⟩ = some (.int .i64 x) :=
      ((Mod.setCell (Mod.refl (fun i => i = r) w.drew) (p := ⟨r, k * 4 + f, none⟩) (.inl rfl) _).cell (p := ⟨g, o + m, none⟩) hgl hgr).trans hcell'
    have hn1 : decide ((m : Int) + 1 = 0) = false := by simp; omega
    have hn2 : ((m : Int) + 1 == 0) = false := by rw [beq_eq_false_iff_ne]; omega
    clear hcell hlm hrx h0 hr4
    go_enter Try.func63, Try.ntmps63
    go_wp2
    have hwm : IntKind.i64.wrap (m : Int) = (m : Int) := IntWalk.i64_in _ (by omega)
    have hwm1 : IntKind.i64.wrap ((m : Int) + 1 - 1) = (m : Int) := by rw [show (m : Int) + 1 - 1 = (m : Int) by omega]; exact hwm
    refine wp_region_noPanic ?_
    refine wp_region_held_drew (S := fun _ => True) (by kernel_rfl) trivial (fun hHeld => ?_)
    (refine wpAnyH_take (i := 0) (v := ?_) rfl (by kernel_rfl) (by kernel_rfl) (by kernel_rfl) (fun _ _ _ h => h) (Or.inl ⟨by kernel_rfl, ?_⟩) (by assumption) ?_; rotate_left; focus (intro wq hSw; (try dsimp only at hSw); go_simp; try with_reducible rfl); try simp only [List.getElem_toArray, List.getElem_cons_succ, List.getElem_cons_zero, Act.put, List.setIfInBounds_toArray, List.set_cons_zero, List.set_cons_succ])
    (refine wpAnyH_take (i := 1) (v := ?_) rfl (by kernel_rfl) (by kernel_rfl) (by kernel_rfl) (fun _ _ _ h => h) (Or.inl ⟨by kernel_rfl, ?_⟩) (by assumption) ?_; rotate_left; focus (intro wq hSw; (try dsimp only at hSw); go_simp; try with_reducible rfl); try simp only [List.getElem_toArray, List.getElem_cons_succ, List.getElem_cons_zero, Act.put, List.setIfInBounds_toArray, List.set_cons_zero, List.set_cons_succ])
    (refine wpAnyH_take (i := 2) (v := ?_) rfl (by kernel_rfl) (by kernel_rfl) (by kernel_rfl) (fun _ _ _ h => h) (Or.inl ⟨by kernel_rfl, ?_⟩) (by assumption) ?_; rotate_left; focus (intro wq hSw; (try dsimp only at hSw); go_simp; try with_reducible rfl); try simp only [List.getElem_toArray, List.getElem_cons_succ, List.getElem_cons_zero, Act.put, List.setIfInBounds_toArray, List.set_cons_zero, List.set_cons_succ])
    (refine wpAnyH_take (i := 3) (v := ?_) rfl (by kernel_rfl) (by kernel_rfl) (by kernel_rfl) (fun _ _ _ h => h) (Or.inl ⟨by kernel_rfl, ?_⟩) (by assumption) ?_; rotate_left; focus (intro wq hSw; (try dsimp only at hSw); go_simp; try with_reducible rfl); try simp only [List.getElem_toArray, List.getElem_cons_succ, List.getElem_cons_zero, Act.put, List.setIfInBounds_toArray, List.set_cons_zero, List.set_cons_succ])
    (refine wpAnyH_take (i := 4) (v := ?_) rfl (by kernel_rfl) (by kernel_rfl) (by kernel_rfl) (fun _ _ _ h => h) (Or.inl ⟨by kernel_rfl, ?_⟩) (by assumption) ?_; rotate_left; focus (intro wq hSw; (try dsimp only at hSw); go_simp; try with_reducible rfl); try simp only [List.getElem_toArray, List.getElem_cons_succ, List.getElem_cons_zero, Act.put, List.setIfInBounds_toArray, List.set_cons_zero, List.set_cons_succ])
    (refine wpAnyH_take (i := 5) (v := ?_) rfl (by kernel_rfl) (by kernel_rfl) (by kernel_rfl) (fun _ _ _ h => h) (Or.inl ⟨by kernel_rfl, ?_⟩) (by assumption) ?_; rotate_left; focus (intro wq hSw; (try dsimp only at hSw); go_simp; try with_reducible rfl); try simp only [List.getElem_toArray, List.getElem_cons_succ, List.getElem_cons_zero, Act.put, List.setIfInBounds_toArray, List.set_cons_zero, List.set_cons_succ])
    (refine wpAnyH_take (i := 6) (v := ?_) rfl (by kernel_rfl) (by kernel_rfl) (by kernel_rfl) (fun _ _ _ h => h) (Or.inl ⟨by kernel_rfl, ?_⟩) (by assumption) ?_; rotate_left; focus (intro wq hSw; (try dsimp only at hSw); go_simp; try with_reducible rfl); try simp only [List.getElem_toArray, List.getElem_cons_succ, List.getElem_cons_zero, Act.put, List.setIfInBounds_toArray, List.set_cons_zero, List.set_cons_succ])
    (refine wpAnyH_take (i := 7) (v := ?_) rfl (by kernel_rfl) (by kernel_rfl) (by kernel_rfl) (fun _ _ _ h => h) (Or.inl ⟨by kernel_rfl, ?_⟩) (by assumption) ?_; rotate_left; focus (intro wq hSw; (try dsimp only at hSw); go_simp; try with_reducible rfl); try simp only [List.getElem_toArray, List.getElem_cons_succ, List.getElem_cons_zero, Act.put, List.setIfInBounds_toArray, List.set_cons_zero, List.set_cons_succ])
    (refine wpAnyH_take (i := 8) (v := ?_) rfl (by kernel_rfl) (by kernel_rfl) (by kernel_rfl) (fun _ _ _ h => h) (Or.inl ⟨by kernel_rfl, ?_⟩) (by assumption) ?_; rotate_left; focus (intro wq hSw; (try dsimp only at hSw); go_simp; try with_reducible rfl); try simp only [List.getElem_toArray, List.getElem_cons_succ, List.getElem_cons_zero, Act.put, List.setIfInBounds_toArray, List.set_cons_zero, List.set_cons_succ])
    (refine wpAnyH_take (i := 9) (v := ?_) rfl (by kernel_rfl) (by kernel_rfl) (by kernel_rfl) (fun _ _ _ h => h) (Or.inl ⟨by kernel_rfl, ?_⟩) (by assumption) ?_; rotate_left; focus (intro wq hSw; (try dsimp only at hSw); go_simp; try with_reducible rfl); try simp only [List.getElem_toArray, List.getElem_cons_succ, List.getElem_cons_zero, Act.put, List.setIfInBounds_toArray, List.set_cons_zero, List.set_cons_succ])
    (refine wpAnyH_take (i := 10) (v := ?_) rfl (by kernel_rfl) (by kernel_rfl) (by kernel_rfl) (fun _ _ _ h => h) (Or.inl ⟨by kernel_rfl, ?_⟩) (by assumption) ?_; rotate_left; focus (intro wq hSw; (try dsimp only at hSw); go_simp; try with_reducible rfl); try simp only [List.getElem_toArray, List.getElem_cons_succ, List.getElem_cons_zero, Act.put, List.setIfInBounds_toArray, List.set_cons_zero, List.set_cons_succ])
    (refine wpAnyH_take (i := 11) (v := ?_) rfl (by kernel_rfl) (by kernel_rfl) (by kernel_rfl) (fun _ _ _ h => h) (Or.inl ⟨by kernel_rfl, ?_⟩) (by assumption) ?_; rotate_left; focus (intro wq hSw; (try dsimp only at hSw); go_simp; try with_reducible rfl); try simp only [List.getElem_toArray, List.getElem_cons_succ, List.getElem_cons_zero, Act.put, List.setIfInBounds_toArray, List.set_cons_zero, List.set_cons_succ])
    refine wpAnyH_ready (rs := [12]) (by kernel_rfl) (by simp) ?_
    refine AllReadyH.cons rfl (fun K hK => ?_) AllReadyH.nil
    go_simp
    refine hK.out _ _ trivial (fun hHeld => ?_)
    clear hK K
    try simp only [List.getElem_toArray, List.getElem_cons_succ, List.getElem_cons_zero, Act.put, List.setIfInBounds_toArray, List.set_cons_zero, List.set_cons_succ]
    refine wpAnyH_done (by kernel_rfl) ?_ _
    refine NoPanic.normal ?_
    clear hc hcut hwm hwm1
    go_wp2
    go_ret2
    rw [HV.out.1, HV.out.2]
    exact ⟨rfl, S', a1, a2, a3⟩

theorem rcfull (h : ArrR 64 74 w S r L) (k : Nat) (hk : k < 16) (hl : Small L) : Calls Try.prog 46 #[.pointer (some ⟨r, 0, none⟩), .int .i64 (k : Int)] w (RRet w S r (clastL L (k * 4 + 3)) (tup2 (clastV L (k * 4 + 3)))) := by
  go_enter Try.func46, Try.ntmps46
  go_wp2_with fail
  refine (rclast h k 3 hk (by omega) hl).mono ?_
  rintro e w2 ⟨rfl, S', a1, a2, a3⟩
  generalize hV : clastV L (k * 4 + 3) = V
  obtain ⟨x, u⟩ := V
  have HV := Lib.hid hV
  clear hV
  rw [show tup2 (x, u) = .tuple #[.int .i64 x, .bool u] from rfl]
  go_wp2
  go_ret2
  rw [HV.out]
  exact ⟨rfl, S', a1, a2, a3⟩
theorem rcfull_out (h : ArrR 64 74 w S r L) (k : Int) (hk : ¬ (0 ≤ k ∧ k < 16)) : Calls Try.prog 46 #[.pointer (some ⟨r, 0, none⟩), .int .i64 k] w (RRet w S r L (tup2 (0, false))) := by
  go_enter Try.func46, Try.ntmps46
  go_wp2_with fail
  refine (rclast_out h k 3 hk).mono ?_
  rintro e w2 ⟨rfl, S', a1, a2, a3⟩
  rw [tup2]
  go_wp2
  go_ret2
  exact ⟨rfl, S', a1, a2, a3⟩
theorem rctake_out (h : ArrR 64 74 w S r L) (k : Int) (hk : ¬ (0 ≤ k ∧ k < 16)) : Calls Try.prog 45 #[.pointer (some ⟨r, 0, none⟩), .int .i64 k] w (RRet w S r L (tup3 (0, false, false))) := by
  go_enter Try.func45, Try.ntmps45
  go_wp2_with fail
  refine (rclast_out h k 0 hk).mono ?_
  rintro e w2 ⟨rfl, S1, a1, a2, a3⟩
  rw [tup2]
  go_wp2_with fail
  refine (rclast_out a1 k 2 hk).mono ?_
  rintro e w3 ⟨rfl, S', b1, b2, b3⟩
  rw [tup2]
  go_wp2
  go_ret3
  exact RRet.comp a2 a3 ⟨rfl, S', b1, b2, b3⟩
set_option maxHeartbeats 400000 in
theorem rctake (h : ArrR 64 74 w S r L) (k : Nat) (hk : k < 16) (hl : Small L) : Calls Try.prog 45 #[.pointer (some ⟨r, 0, none⟩), .int .i64 (k : Int)] w (RRet w S r (ctakeL L k) (tup3 (ctakeV L k))) := by
  by_cases h0 : L (k * 4) = []
  · have e1 : clastV L (k * 4 + 0) = (0, false) ∧ clastL L (k * 4 + 0) = L := by simp [clastV, clastL, h0]
    have E1 := Lib.hid e1
    by_cases h2 : L (k * 4 + 2) = []
    · have E2 := Lib.hid (show clastV L (k * 4 + 2) = (0, false) ∧ clastL L (k * 4 + 2) = L by simp [clastV, clastL, h2])
      have HV := Lib.hid (show ctakeV L k = (0, false, false) ∧ ctakeL L k = L by simp [ctakeV, ctakeL, h0, h2])
      clear h0 h2 e1
      go_enter Try.func45, Try.ntmps45
      go_wp2_with fail
      refine (rclast h k 0 hk (by omega) hl).mono ?_
      rintro e w2 ⟨rfl, S1, a1, a2, a3⟩
      rw [E1.out.1, tup2]
      rw [E1.out.2] at a1
      go_wp2_with fail
      refine (rclast a1 k 2 hk (by omega) hl).mono ?_
      rintro e w3 ⟨rfl, S', b1, b2, b3⟩
      rw [E2.out.1, tup2]
      rw [E2.out.2] at b1
      go_wp2
      go_ret3
      rw [HV.out.1, HV.out.2]
      exact RRet.comp a2 a3 ⟨rfl, S', b1, b2, b3⟩
    · obtain ⟨l, x, hx⟩ := clast_eq h2
      have E2 := Lib.hid (show clastV L (k * 4 + 2) = (x, true) ∧ clastL L (k * 4 + 2) = upd L (k * 4 + 2) l by simp [clastV, clastL, hx])
      have HV := Lib.hid (show ctakeV L k = (x, true, true) ∧ ctakeL L k = upd L (k * 4 + 2) l by simp [ctakeV, ctakeL, h0, hx])
      clear h0 h2 e1 hx
      go_enter Try.func45, Try.ntmps45
      go_wp2_with fail
      refine (rclast h k 0 hk (by omega) hl).mono ?_
      rintro e w2 ⟨rfl, S1, a1, a2, a3⟩
      rw [E1.out.1, tup2]
      rw [E1.out.2] at a1
      go_wp2_with fail
      refine (rclast a1 k 2 hk (by omega) hl).mono ?_
      rintro e w3 ⟨rfl, S', b1, b2, b3⟩
      rw [E2.out.1, tup2]
      rw [E2.out.2] at b1
      go_wp2
      go_ret3
      rw [HV.out.1, HV.out.2]
      exact RRet.comp a2 a3 ⟨rfl, S', b1, b2, b3⟩
  · obtain ⟨l, x, hx⟩ := clast_eq h0
    have E1 := Lib.hid (show clastV L (k * 4 + 0) = (x, true) ∧ clastL L (k * 4 + 0) = upd L (k * 4) l by simp [clastV, clastL, hx])
    have HV := Lib.hid (show ctakeV L k = (x, false, true) ∧ ctakeL L k = upd L (k * 4) l by simp [ctakeV, ctakeL, hx])
    clear h0 hx
    go_enter Try.func45, Try.ntmps45
    go_wp2_with fail
    refine (rclast h k 0 hk (by omega) hl).mono ?_
    rintro e w2 ⟨rfl, S1, a1, a2, a3⟩
    rw [E1.out.1, tup2]
    rw [E1.out.2] at a1
    go_wp2
    go_ret3
    rw [HV.out.1, HV.out.2]
    exact ⟨rfl, S1, a1, a2, a3⟩

theorem rcput_out (h : ArrR 64 74 w S r L) (k id : Int) (f : Bool) (hk : ¬ (0 ≤ k ∧ k < 16)) : Calls Try.prog 44 #[.pointer (some ⟨r, 0, none⟩), .int .i64 k, .int .i64 id, .bool f] w (RRet w S r L (.tuple #[])) := by
  by_cases h0 : k < 0
  · have hd : decide (k < 0) = true := decide_eq_true h0
    go_enter Try.func44, Try.ntmps44
    go_wp2
    go_end0
    exact RRet.same h (Mod.refl _ _)
  · have hd : decide (k < 0) = false := decide_eq_false h0
    have hd2 : decide (15 < k) = true := decide_eq_true (by omega)
    clear h0 hk
    go_enter Try.func44, Try.ntmps44
    go_wp2
    go_end0
    exact RRet.same h (Mod.refl _ _)

set_option maxHeartbeats 2000000 in
set_option maxRecDepth 100000 in
theorem rcput_f (h : ArrR 64 74 w S r L0) (k : Nat) (id : Int) (hk : k < 16) (hl : Small L0) : Calls Try.prog 44 #[.pointer (some ⟨r, 0, none⟩), .int .i64 (k : Int), .int .i64 id, .bool false] w (RRet w S r (cputL L0 k false id) (.tuple #[])) := by
  have hd : decide ((k : Int) < 0) = false := decide_eq_false (by omega)
  have hd2 : decide ((15 : Int) < (k : Int)) = false := decide_eq_false (by omega)
  have hd3 : decide (15 < k) = false := decide_eq_false (by omega)
  go_enter Try.func44, Try.ntmps44
  go_wp2_with fail
  refine (rcdel h id hl).mono ?_
  rintro e wd ⟨rfl, S1, h1, hS1, m1⟩
  have hln := cdelL_len L0 id (k * 4)
  have hl2 := hl (k * 4) (by omega)
  obtain ⟨L, hL⟩ : ∃ L, L = cdelL L0 id := ⟨_, rfl⟩
  rw [← hL] at h1 hln
  have HL := Lib.hid hL
  clear hL
  obtain ⟨A, n, c, hc, hLk, hfz, hty, hSA⟩ := h1.cell (k := k * 4) (by omega)
  have hblt := h1.blt
  rw [hLk.len] at hln
  have hk0 : (0 : Int) ≤ (k : Int) := by omega
  have hk1 : (k : Int) < 16 := by omega
  go_wp2
  have hcE : (wd.alloc (.cells #[] 3)).cell? ⟨r, k * 4, none⟩ = some (.slice A n c) := (((Mod.refl (fun _ => False) wd).alloc _).cell (p := ⟨r, k * 4, none⟩) hblt (fun h => h)).trans hc
  have hcX : (wd.alloc (.cells #[.int .i64 id] 3)).cell? ⟨r, k * 4, none⟩ = some (.slice A n c) := (((Mod.refl (fun _ => False) wd).alloc _).cell (p := ⟨r, k * 4, none⟩) hblt (fun h => h)).trans hc
  have hcEX : ((wd.alloc (.cells #[] 3)).alloc (.cells #[.int .i64 id] 3)).cell? ⟨r, k * 4, none⟩ = some (.slice A n c) := ((((Mod.refl (fun _ => False) wd).alloc _).alloc _).cell (p := ⟨r, k * 4, none⟩) hblt (fun h => h)).trans hc
  have hcXE : ((wd.alloc (.cells #[.int .i64 id] 3)).alloc (.cells #[] 3)).cell? ⟨r, k * 4, none⟩ = some (.slice A n c) := ((((Mod.refl (fun _ => False) wd).alloc _).alloc _).cell (p := ⟨r, k * 4, none⟩) hblt (fun h => h)).trans hc
  refine wp_region_noPanic ?_
  refine wp_region_held_drew (S := fun _ => True) (by kernel_rfl) trivial (fun hHeld => ?_)
  (refine wpAnyH_take (i := 0) (v := ?_) rfl (by kernel_rfl) (by kernel_rfl) (by kernel_rfl) (fun _ _ _ h => h) (Or.inl ⟨by kernel_rfl, ?_⟩) (by assumption) ?_; rotate_left; focus (intro wq hSw; (try dsimp only at hSw); go_simp; try with_reducible rfl); try simp only [List.getElem_toArray, List.getElem_cons_succ, List.getElem_cons_zero, Act.put, List.setIfInBounds_toArray, List.set_cons_zero, List.set_cons_succ])
  (refine wpAnyH_take (i := 1) (v := ?_) rfl (by kernel_rfl) (by kernel_rfl) (by kernel_rfl) (fun _ _ _ h => h) (Or.inl ⟨by kernel_rfl, ?_⟩) (by assumption) ?_; rotate_left; focus (intro wq hSw; (try dsimp only at hSw); go_simp; try with_reducible rfl); try simp only [List.getElem_toArray, List.getElem_cons_succ, List.getElem_cons_zero, Act.put, List.setIfInBounds_toArray, List.set_cons_zero, List.set_cons_succ])
  (refine wpAnyH_take (i := 2) (v := ?_) rfl (by kernel_rfl) (by kernel_rfl) (by kernel_rfl) (fun _ _ _ h => h) (Or.inl ⟨by kernel_rfl, ?_⟩) (by assumption) ?_; rotate_left; focus (intro wq hSw; (try dsimp only at hSw); go_simp; try with_reducible rfl); try simp only [List.getElem_toArray, List.getElem_cons_succ, List.getElem_cons_zero, Act.put, List.setIfInBounds_toArray, List.set_cons_zero, List.set_cons_succ])
  (refine wpAnyH_take (i := 4) (v := ?_) rfl (by kernel_rfl) (by kernel_rfl) (by kernel_rfl) (fun _ _ _ h => h) (Or.inl ⟨by kernel_rfl, ?_⟩) (by assumption) ?_; rotate_left; focus (intro wq hSw; (try dsimp only at hSw); go_simp; try with_reducible rfl); try simp only [List.getElem_toArray, List.getElem_cons_succ, List.getElem_cons_zero, Act.put, List.setIfInBounds_toArray, List.set_cons_zero, List.set_cons_succ])
  (refine wpAnyH_take (i := 5) (v := ?_) rfl (by kernel_rfl) (by kernel_rfl) (by kernel_rfl) (fun _ _ _ h => h) (Or.inl ⟨by kernel_rfl, ?_⟩) (by assumption) ?_; rotate_left; focus (intro wq hSw; (try dsimp only at hSw); go_simp; try with_reducible rfl); try simp only [List.getElem_toArray, List.getElem_cons_succ, List.getElem_cons_zero, Act.put, List.setIfInBounds_toArray, List.set_cons_zero, List.set_cons_succ])
  (refine wpAnyH_take (i := 6) (v := ?_) rfl (by kernel_rfl) (by kernel_rfl) (by kernel_rfl) (fun _ _ _ h => h) (Or.inl ⟨by kernel_rfl, ?_⟩) (by assumption) ?_; rotate_left; focus (intro wq hSw; (try dsimp only at hSw); go_simp; try with_reducible rfl); try simp only [List.getElem_toArray, List.getElem_cons_succ, List.getElem_cons_zero, Act.put, List.setIfInBounds_toArray, List.set_cons_zero, List.set_cons_succ])
  (refine wpAnyH_take (i := 7) (v := ?_) rfl (by kernel_rfl) (by kernel_rfl) (by kernel_rfl) (fun _ _ _ h => h) (Or.inl ⟨by kernel_rfl, ?_⟩) (by assumption) ?_; rotate_left; focus (intro wq hSw; (try dsimp only at hSw); go_simp; try with_reducible rfl); try simp only [List.getElem_toArray, List.getElem_cons_succ, List.getElem_cons_zero, Act.put, List.setIfInBounds_toArray, List.set_cons_zero, List.set_cons_succ])
  (refine wpAnyH_take (i := 8) (v := ?_) rfl (by kernel_rfl) (by kernel_rfl) (by kernel_rfl) (fun _ _ _ h => h) (Or.inl ⟨by kernel_rfl, ?_⟩) (by assumption) ?_; rotate_left; focus (intro wq hSw; (try dsimp only at hSw); go_simp; try with_reducible rfl); try simp only [List.getElem_toArray, List.getElem_cons_succ, List.getElem_cons_zero, Act.put, List.setIfInBounds_toArray, List.set_cons_zero, List.set_cons_succ])
  (refine wpAnyH_take (i := 9) (v := ?_) rfl (by kernel_rfl) (by kernel_rfl) (by kernel_rfl) (fun _ _ _ h => h) (Or.inl ⟨by kernel_rfl, ?_⟩) (by assumption) ?_; rotate_left; focus (intro wq hSw; (try dsimp only at hSw); go_simp; try with_reducible rfl); try simp only [List.getElem_toArray, List.getElem_cons_succ, List.getElem_cons_zero, Act.put, List.setIfInBounds_toArray, List.set_cons_zero, List.set_cons_succ])
  (refine wpAnyH_take (i := 10) (v := ?_) rfl (by kernel_rfl) (by kernel_rfl) (by kernel_rfl) (fun _ _ _ h => h) (Or.inl ⟨by kernel_rfl, ?_⟩) (by assumption) ?_; rotate_left; focus (intro wq hSw; (try dsimp only at hSw); go_simp; try with_reducible rfl); try simp only [List.getElem_toArray, List.getElem_cons_succ, List.getElem_cons_zero, Act.put, List.setIfInBounds_toArray, List.set_cons_zero, List.set_cons_succ])
  (refine wpAnyH_take (i := 13) (v := ?_) rfl (by kernel_rfl) (by kernel_rfl) (by kernel_rfl) (fun _ _ _ h => h) (Or.inl ⟨by kernel_rfl, ?_⟩) (by assumption) ?_; rotate_left; focus (intro wq hSw; (try dsimp only at hSw); go_simp; try with_reducible rfl); try simp only [List.getElem_toArray, List.getElem_cons_succ, List.getElem_cons_zero, Act.put, List.setIfInBounds_toArray, List.set_cons_zero, List.set_cons_succ])
  (refine wpAnyH_take (i := 16) (v := ?_) rfl (by kernel_rfl) (by kernel_rfl) (by kernel_rfl) (fun _ _ _ h => h) (Or.inl ⟨by kernel_rfl, ?_⟩) (by assumption) ?_; rotate_left; focus (intro wq hSw; (try dsimp only at hSw); go_simp; try with_reducible rfl); try simp only [List.getElem_toArray, List.getElem_cons_succ, List.getElem_cons_zero, Act.put, List.setIfInBounds_toArray, List.set_cons_zero, List.set_cons_succ])
  (refine wpAnyH_take (i := 17) (v := ?_) rfl (by kernel_rfl) (by kernel_rfl) (by kernel_rfl) (fun _ _ _ h => h) (Or.inl ⟨by kernel_rfl, ?_⟩) (by assumption) ?_; rotate_left; focus (intro wq hSw; (try dsimp only at hSw); go_simp; try with_reducible rfl); try simp only [List.getElem_toArray, List.getElem_cons_succ, List.getElem_cons_zero, Act.put, List.setIfInBounds_toArray, List.set_cons_zero, List.set_cons_succ])
  (refine wpAnyH_take (i := 18) (v := ?_) rfl (by kernel_rfl) (by kernel_rfl) (by kernel_rfl) (fun _ _ _ h => h) (Or.inl ⟨by kernel_rfl, ?_⟩) (by assumption) ?_; rotate_left; focus (intro wq hSw; (try dsimp only at hSw); go_simp; try with_reducible rfl); try simp only [List.getElem_toArray, List.getElem_cons_succ, List.getElem_cons_zero, Act.put, List.setIfInBounds_toArray, List.set_cons_zero, List.set_cons_succ])
  refine wpAnyH_ready (rs := [3, 11, 14]) (by kernel_rfl) (by simp) ?_
  refine AllReadyH.cons rfl (fun K hK => ?_) (AllReadyH.cons rfl (fun K hK => ?_) (AllReadyH.cons rfl (fun K hK => ?_) AllReadyH.nil))
  · go_simp
    refine hK.out _ _ trivial (fun hHeld => ?_)
    clear hK K
    try simp only [List.getElem_toArray, List.getElem_cons_succ, List.getElem_cons_zero, Act.put, List.setIfInBounds_toArray, List.set_cons_zero, List.set_cons_succ]
    refine wpAnyH_ready (rs := [11, 14]) (by kernel_rfl) (by simp) ?_
    refine AllReadyH.cons rfl (fun K hK => ?_) (AllReadyH.cons rfl (fun K hK => ?_) AllReadyH.nil)
    · go_simp
      refine hK.out _ _ trivial (fun hHeld => ?_)
      clear hK K
      try simp only [List.getElem_toArray, List.getElem_cons_succ, List.getElem_cons_zero, Act.put, List.setIfInBounds_toArray, List.set_cons_zero, List.set_cons_succ]
      refine wpAnyH_ready (rs := [12, 14]) (by kernel_rfl) (by simp) ?_
      refine AllReadyH.cons rfl (fun K hK => ?_) (AllReadyH.cons rfl (fun K hK => ?_) AllReadyH.nil)
      · have o1 : OwnL (wd.alloc (.cells #[] 3)).drew (some ⟨wd.heap.size, 0, none⟩) 0 0 [] := OwnL.empty wd
        have r1 : IsL (wd.alloc (.cells #[] 3)).drew A n c (L (k * 4)) := hLk.alloc _
        (with_reducible refine step_app _ (by with_unfolding_all rfl) (.tmp 22) (.tmp 30) _ (by with_unfolding_all rfl) Try.underlying35 int_info _ _ _ _ (by with_unfolding_all rfl) o1 _ _ _ _ (by with_unfolding_all rfl) r1 (by omega) ?_)
        intro C2 p2 q2 w2 hp1 hp2 hown2 hg2 hat2
        obtain ⟨hM2, kL, hf2⟩ := app_facts (((Mod.refl _ wd).alloc _).drew) (blk_size wd) hLk hg2 hat2
        have o4 : OwnL (w2.alloc (.cells #[.int .i64 id] 3)) C2 p2 q2 ([] ++ L (k * 4)) := hown2.alloc _
        have r4 : IsL (w2.alloc (.cells #[.int .i64 id] 3)) (some ⟨w2.heap.size, 0, none⟩) 1 1 [id] := IsL.one w2 id
        have hW2 : Mod (fun _ => False) wd (w2.alloc (.cells #[.int .i64 id] 3)) := hM2.alloc _
        refine hK.out _ _ trivial (fun hHeld => ?_)
        clear hK K
        try simp only [List.getElem_toArray, List.getElem_cons_succ, List.getElem_cons_zero, Act.put, List.setIfInBounds_toArray, List.set_cons_zero, List.set_cons_succ]
        refine wpAnyH_ready (rs := [14]) (by kernel_rfl) (by simp) ?_
        refine AllReadyH.cons rfl (fun K hK => ?_) AllReadyH.nil
        go_simp
        refine hK.out _ _ trivial (fun hHeld => ?_)
        clear hK K
        try simp only [List.getElem_toArray, List.getElem_cons_succ, List.getElem_cons_zero, Act.put, List.setIfInBounds_toArray, List.set_cons_zero, List.set_cons_succ]
        refine wpAnyH_ready (rs := [15]) (by kernel_rfl) (by simp) ?_
        refine AllReadyH.cons rfl (fun K hK => ?_) AllReadyH.nil
        (with_reducible refine step_app _ (by with_unfolding_all rfl) (.tmp 31) (.tmp 33) _ (by with_unfolding_all rfl) Try.underlying35 int_info _ _ _ _ (by with_unfolding_all rfl) o4 _ _ _ _ (by with_unfolding_all rfl) r4 (by omega) ?_)
        intro C3 p3 q3 w3 hp3 hp4 hown3 hg3 hat3
        obtain ⟨hM3, kL3, hf3⟩ := app_facts hW2 hf2 hLk hg3 hat3
        have tc := (hM3.cell (p := ⟨r, k * 4, none⟩) hblt (fun h => h)).trans hc
        have tf := (hM3.frozen (p := ⟨r, k * 4, none⟩) hblt (fun h => h)).trans hfz
        have tb := Nat.lt_of_lt_of_le hblt hM3.size
        refine hK.out _ _ trivial (fun hHeld => ?_)
        clear hK K
        try simp only [List.getElem_toArray, List.getElem_cons_succ, List.getElem_cons_zero, Act.put, List.setIfInBounds_toArray, List.set_cons_zero, List.set_cons_succ]
        (refine wpAnyH_take (i := 19) (v := ?_) rfl (by kernel_rfl) (by kernel_rfl) (by kernel_rfl) (fun _ _ _ h => h) (Or.inl ⟨by kernel_rfl, ?_⟩) (by assumption) ?_; rotate_left; focus (intro wq hSw; (try dsimp only at hSw); go_simp; try with_reducible rfl); try simp only [List.getElem_toArray, List.getElem_cons_succ, List.getElem_cons_zero, Act.put, List.setIfInBounds_toArray, List.set_cons_zero, List.set_cons_succ])
        refine wpAnyH_ready (rs := [20]) (by kernel_rfl) (by simp) ?_
        refine AllReadyH.cons rfl (fun K hK => ?_) AllReadyH.nil
        go_simp
        refine hK.out _ _ trivial (fun hHeld => ?_)
        clear hK K
        try simp only [List.getElem_toArray, List.getElem_cons_succ, List.getElem_cons_zero, Act.put, List.setIfInBounds_toArray, List.set_cons_zero, List.set_cons_succ]
        refine wpAnyH_done (by kernel_rfl) ?_ _
        refine NoPanic.normal ?_
        go_wp2
        go_end0
        obtain ⟨S', a1, a2, a3⟩ := h1.set (k := k * 4) (by omega) hM3 hown3.isL hown3.ty (fun d hd => .inr (hf3 d hd))
        rw [show cputL L0 k false id = upd L (k * 4) (L (k * 4) ++ [id]) from by rw [HL.out]; rfl]
        exact RRet.comp hS1 m1 ⟨rfl, S', a1, a2, a3⟩
      · go_simp
        refine hK.out _ _ trivial (fun hHeld => ?_)
        clear hK K
        try simp only [List.getElem_toArray, List.getElem_cons_succ, List.getElem_cons_zero, Act.put, List.setIfInBounds_toArray, List.set_cons_zero, List.set_cons_succ]
        refine wpAnyH_ready (rs := [12]) (by kernel_rfl) (by simp) ?_
        refine AllReadyH.cons rfl (fun K hK => ?_) AllReadyH.nil
        have o1 : OwnL ((wd.alloc (.cells #[] 3)).alloc (.cells #[.int .i64 id] 3)).drew (some ⟨wd.heap.size, 0, none⟩) 0 0 [] := (OwnL.empty wd).alloc _
        have r1 : IsL ((wd.alloc (.cells #[] 3)).alloc (.cells #[.int .i64 id] 3)).drew A n c (L (k * 4)) := (hLk.alloc _).alloc _
        (with_reducible refine step_app _ (by with_unfolding_all rfl) (.tmp 22) (.tmp 30) _ (by with_unfolding_all rfl) Try.underlying35 int_info _ _ _ _ (by with_unfolding_all rfl) o1 _ _ _ _ (by with_unfolding_all rfl) r1 (by omega) ?_)
        intro C2 p2 q2 w2 hp1 hp2 hown2 hg2 hat2
        have r4 : IsL w2 (some ⟨wd.heap.size + 1, 0, none⟩) 1 1 [id] := one_kept (w := ((wd.alloc (.cells #[] 3)).alloc (.cells #[.int .i64 id] 3)).drew) (one_second wd _ id) (fun d hd => by cases hd; simp [blk]) hg2
        obtain ⟨hM2, kL, hf2⟩ := app_facts ((((Mod.refl _ wd).alloc _).alloc _).drew) (blk_size wd) hLk hg2 hat2
        have o4 := hown2
        have hW2 := hM2
        refine hK.out _ _ trivial (fun hHeld => ?_)
        clear hK K
        try simp only [List.getElem_toArray, List.getElem_cons_succ, List.getElem_cons_zero, Act.put, List.setIfInBounds_toArray, List.set_cons_zero, List.set_cons_succ]
        refine wpAnyH_ready (rs := [15]) (by kernel_rfl) (by simp) ?_
        refine AllReadyH.cons rfl (fun K hK => ?_) AllReadyH.nil
        (with_reducible refine step_app _ (by with_unfolding_all rfl) (.tmp 31) (.tmp 33) _ (by with_unfolding_all rfl) Try.underlying35 int_info _ _ _ _ (by with_unfolding_all rfl) o4 _ _ _ _ (by with_unfolding_all rfl) r4 (by omega) ?_)
        intro C3 p3 q3 w3 hp3 hp4 hown3 hg3 hat3
        obtain ⟨hM3, kL3, hf3⟩ := app_facts hW2 hf2 hLk hg3 hat3
        have tc := (hM3.cell (p := ⟨r, k * 4, none⟩) hblt (fun h => h)).trans hc
        have tf := (hM3.frozen (p := ⟨r, k * 4, none⟩) hblt (fun h => h)).trans hfz
        have tb := Nat.lt_of_lt_of_le hblt hM3.size
        refine hK.out _ _ trivial (fun hHeld => ?_)
        clear hK K
        try simp only [List.getElem_toArray, List.getElem_cons_succ, List.getElem_cons_zero, Act.put, List.setIfInBounds_toArray, List.set_cons_zero, List.set_cons_succ]
        (refine wpAnyH_take (i := 19) (v := ?_) rfl (by kernel_rfl) (by kernel_rfl) (by kernel_rfl) (fun _ _ _ h => h) (Or.inl ⟨by kernel_rfl, ?_⟩) (by assumption) ?_; rotate_left; focus (intro wq hSw; (try dsimp only at hSw); go_simp; try with_reducible rfl); try simp only [List.getElem_toArray, List.getElem_cons_succ, List.getElem_cons_zero, Act.put, List.setIfInBounds_toArray, List.set_cons_zero, List.set_cons_succ])
        refine wpAnyH_ready (rs := [20]) (by kernel_rfl) (by simp) ?_
        refine AllReadyH.cons rfl (fun K hK => ?_) AllReadyH.nil
        go_simp
        refine hK.out _ _ trivial (fun hHeld => ?_)
        clear hK K
        try simp only [List.getElem_toArray, List.getElem_cons_succ, List.getElem_cons_zero, Act.put, List.setIfInBounds_toArray, List.set_cons_zero, List.set_cons_succ]
        refine wpAnyH_done (by kernel_rfl) ?_ _
        refine NoPanic.normal ?_
        go_wp2
        go_end0
        obtain ⟨S', a1, a2, a3⟩ := h1.set (k := k * 4) (by omega) hM3 hown3.isL hown3.ty (fun d hd => .inr (hf3 d hd))
        rw [show cputL L0 k false id = upd L (k * 4) (L (k * 4) ++ [id]) from by rw [HL.out]; rfl]
        exact RRet.comp hS1 m1 ⟨rfl, S', a1, a2, a3⟩
    · go_simp
      refine hK.out _ _ trivial (fun hHeld => ?_)
      clear hK K
      try simp only [List.getElem_toArray, List.getElem_cons_succ, List.getElem_cons_zero, Act.put, List.setIfInBounds_toArray, List.set_cons_zero, List.set_cons_succ]
      refine wpAnyH_ready (rs := [11]) (by kernel_rfl) (by simp) ?_
      refine AllReadyH.cons rfl (fun K hK => ?_) AllReadyH.nil
      go_simp
      refine hK.out _ _ trivial (fun hHeld => ?_)
      clear hK K
      try simp only [List.getElem_toArray, List.getElem_cons_succ, List.getElem_cons_zero, Act.put, List.setIfInBounds_toArray, List.set_cons_zero, List.set_cons_succ]
      refine wpAnyH_ready (rs := [12]) (by kernel_rfl) (by simp) ?_
      refine AllReadyH.cons rfl (fun K hK => ?_) AllReadyH.nil
      have o1 : OwnL ((wd.alloc (.cells #[] 3)).alloc (.cells #[.int .i64 id] 3)).drew (some ⟨wd.heap.size, 0, none⟩) 0 0 [] := (OwnL.empty wd).alloc _
      have r1 : IsL ((wd.alloc (.cells #[] 3)).alloc (.cells #[.int .i64 id] 3)).drew A n c (L (k * 4)) := (hLk.alloc _).alloc _
      (with_reducible refine step_app _ (by with_unfolding_all rfl) (.tmp 22) (.tmp 30) _ (by with_unfolding_all rfl) Try.underlying35 int_info _ _ _ _ (by with_unfolding_all rfl) o1 _ _ _ _ (by with_unfolding_all rfl) r1 (by omega) ?_)
      intro C2 p2 q2 w2 hp1 hp2 hown2 hg2 hat2
      have r4 : IsL w2 (some ⟨wd.heap.size + 1, 0, none⟩) 1 1 [id] := one_kept (w := ((wd.alloc (.cells #[] 3)).alloc (.cells #[.int .i64 id] 3)).drew) (one_second wd _ id) (fun d hd => by cases hd; simp [blk]) hg2
      obtain ⟨hM2, kL, hf2⟩ := app_facts ((((Mod.refl _ wd).alloc _).alloc _).drew) (blk_size wd) hLk hg2 hat2
      have o4 := hown2
      have hW2 := hM2
      refine hK.out _ _ trivial (fun hHeld => ?_)
      clear hK K
      try simp only [List.getElem_toArray, List.getElem_cons_succ, List.getElem_cons_zero, Act.put, List.setIfInBounds_toArray, List.set_cons_zero, List.set_cons_succ]
      refine wpAnyH_ready (rs := [15]) (by kernel_rfl) (by simp) ?_
      refine AllReadyH.cons rfl (fun K hK => ?_) AllReadyH.nil
      (with_reducible refine step_app _ (by with_unfolding_all rfl) (.tmp 31) (.tmp 33) _ (by with_unfolding_all rfl) Try.underlying35 int_info _ _ _ _ (by with_unfolding_all rfl) o4 _ _ _ _ (by with_unfolding_all rfl) r4 (by omega) ?_)
      intro C3 p3 q3 w3 hp3 hp4 hown3 hg3 hat3
      obtain ⟨hM3, kL3, hf3⟩ := app_facts hW2 hf2 hLk hg3 hat3
      have tc := (hM3.cell (p := ⟨r, k * 4, none⟩) hblt (fun h => h)).trans hc
      have tf := (hM3.frozen (p := ⟨r, k * 4, none⟩) hblt (fun h => h)).trans hfz
      have tb := Nat.lt_of_lt_of_le hblt hM3.size
      refine hK.out _ _ trivial (fun hHeld => ?_)
      clear hK K
      try simp only [List.getElem_toArray, List.getElem_cons_succ, List.getElem_cons_zero, Act.put, List.setIfInBounds_toArray, List.set_cons_zero, List.set_cons_succ]
      (refine wpAnyH_take (i := 19) (v := ?_) rfl (by kernel_rfl) (by kernel_rfl) (by kernel_rfl) (fun _ _ _ h => h) (Or.inl ⟨by kernel_rfl, ?_⟩) (by assumption) ?_; rotate_left; focus (intro wq hSw; (try dsimp only at hSw); go_simp; try with_reducible rfl); try simp only [List.getElem_toArray, List.getElem_cons_succ, List.getElem_cons_zero, Act.put, List.setIfInBounds_toArray, List.set_cons_zero, List.set_cons_succ])
      refine wpAnyH_ready (rs := [20]) (by kernel_rfl) (by simp) ?_
      refine AllReadyH.cons rfl (fun K hK => ?_) AllReadyH.nil
      go_simp
      refine hK.out _ _ trivial (fun hHeld => ?_)
      clear hK K
      try simp only [List.getElem_toArray, List.getElem_cons_succ, List.getElem_cons_zero, Act.put, List.setIfInBounds_toArray, List.set_cons_zero, List.set_cons_succ]
      refine wpAnyH_done (by kernel_rfl) ?_ _
      refine NoPanic.normal ?_
      go_wp2
      go_end0
      obtain ⟨S', a1, a2, a3⟩ := h1.set (k := k * 4) (by omega) hM3 hown3.isL hown3.ty (fun d hd => .inr (hf3 d hd))
      rw [show cputL L0 k false id = upd L (k * 4) (L (k * 4) ++ [id]) from by rw [HL.out]; rfl]
      exact RRet.comp hS1 m1 ⟨rfl, S', a1, a2, a3⟩
  · go_simp
    refine hK.out _ _ trivial (fun hHeld => ?_)
    clear hK K
    try simp only [List.getElem_toArray, List.getElem_cons_succ, List.getElem_cons_zero, Act.put, List.setIfInBounds_toArray, List.set_cons_zero, List.set_cons_succ]
    refine wpAnyH_ready (rs := [3, 14]) (by kernel_rfl) (by simp) ?_
    refine AllReadyH.cons rfl (fun K hK => ?_) (AllReadyH.cons rfl (fun K hK => ?_) AllReadyH.nil)
    · go_simp
      refine hK.out _ _ trivial (fun hHeld => ?_)
      clear hK K
      try simp only [List.getElem_toArray, List.getElem_cons_succ, List.getElem_cons_zero, Act.put, List.setIfInBounds_toArray, List.set_cons_zero, List.set_cons_succ]
      refine wpAnyH_ready (rs := [12, 14]) (by kernel_rfl) (by simp) ?_
      refine AllReadyH.cons rfl (fun K hK => ?_) (AllReadyH.cons rfl (fun K hK => ?_) AllReadyH.nil)
      · have o1 : OwnL (wd.alloc (.cells #[] 3)).drew (some ⟨wd.heap.size, 0, none⟩) 0 0 [] := OwnL.empty wd
        have r1 : IsL (wd.alloc (.cells #[] 3)).drew A n c (L (k * 4)) := hLk.alloc _
        (with_reducible refine step_app _ (by with_unfolding_all rfl) (.tmp 22) (.tmp 30) _ (by with_unfolding_all rfl) Try.underlying35 int_info _ _ _ _ (by with_unfolding_all rfl) o1 _ _ _ _ (by with_unfolding_all rfl) r1 (by omega) ?_)
        intro C2 p2 q2 w2 hp1 hp2 hown2 hg2 hat2
        obtain ⟨hM2, kL, hf2⟩ := app_facts (((Mod.refl _ wd).alloc _).drew) (blk_size wd) hLk hg2 hat2
        have o4 : OwnL (w2.alloc (.cells #[.int .i64 id] 3)) C2 p2 q2 ([] ++ L (k * 4)) := hown2.alloc _
        have r4 : IsL (w2.alloc (.cells #[.int .i64 id] 3)) (some ⟨w2.heap.size, 0, none⟩) 1 1 [id] := IsL.one w2 id
        have hW2 : Mod (fun _ => False) wd (w2.alloc (.cells #[.int .i64 id] 3)) := hM2.alloc _
        refine hK.out _ _ trivial (fun hHeld => ?_)
        clear hK K
        try simp only [List.getElem_toArray, List.getElem_cons_succ, List.getElem_cons_zero, Act.put, List.setIfInBounds_toArray, List.set_cons_zero, List.set_cons_succ]
        refine wpAnyH_ready (rs := [14]) (by kernel_rfl) (by simp) ?_
        refine AllReadyH.cons rfl (fun K hK => ?_) AllReadyH.nil
        go_simp
        refine hK.out _ _ trivial (fun hHeld => ?_)
        clear hK K
        try simp only [List.getElem_toArray, List.getElem_cons_succ, List.getElem_cons_zero, Act.put, List.setIfInBounds_toArray, List.set_cons_zero, List.set_cons_succ]
        refine wpAnyH_ready (rs := [15]) (by kernel_rfl) (by simp) ?_
        refine AllReadyH.cons rfl (fun K hK => ?_) AllReadyH.nil
        (with_reducible refine step_app _ (by with_unfolding_all rfl) (.tmp 31) (.tmp 33) _ (by with_unfolding_all rfl) Try.underlying35 int_info _ _ _ _ (by with_unfolding_all rfl) o4 _ _ _ _ (by with_unfolding_all rfl) r4 (by omega) ?_)
        intro C3 p3 q3 w3 hp3 hp4 hown3 hg3 hat3
        obtain ⟨hM3, kL3, hf3⟩ := app_facts hW2 hf2 hLk hg3 hat3
        have tc := (hM3.cell (p := ⟨r, k * 4, none⟩) hblt (fun h => h)).trans hc
        have tf := (hM3.frozen (p := ⟨r, k * 4, none⟩) hblt (fun h => h)).trans hfz
        have tb := Nat.lt_of_lt_of_le hblt hM3.size
        refine hK.out _ _ trivial (fun hHeld => ?_)
        clear hK K
        try simp only [List.getElem_toArray, List.getElem_cons_succ, List.getElem_cons_zero, Act.put, List.setIfInBounds_toArray, List.set_cons_zero, List.set_cons_succ]
        (refine wpAnyH_take (i := 19) (v := ?_) rfl (by kernel_rfl) (by kernel_rfl) (by kernel_rfl) (fun _ _ _ h => h) (Or.inl ⟨by kernel_rfl, ?_⟩) (by assumption) ?_; rotate_left; focus (intro wq hSw; (try dsimp only at hSw); go_simp; try with_reducible rfl); try simp only [List.getElem_toArray, List.getElem_cons_succ, List.getElem_cons_zero, Act.put, List.setIfInBounds_toArray, List.set_cons_zero, List.set_cons_succ])
        refine wpAnyH_ready (rs := [20]) (by kernel_rfl) (by simp) ?_
        refine AllReadyH.cons rfl (fun K hK => ?_) AllReadyH.nil
        go_simp
        refine hK.out _ _ trivial (fun hHeld => ?_)
        clear hK K
        try simp only [List.getElem_toArray, List.getElem_cons_succ, List.getElem_cons_zero, Act.put, List.setIfInBounds_toArray, List.set_cons_zero, List.set_cons_succ]
        refine wpAnyH_done (by kernel_rfl) ?_ _
        refine NoPanic.normal ?_
        go_wp2
        go_end0
        obtain ⟨S', a1, a2, a3⟩ := h1.set (k := k * 4) (by omega) hM3 hown3.isL hown3.ty (fun d hd => .inr (hf3 d hd))
        rw [show cputL L0 k false id = upd L (k * 4) (L (k * 4) ++ [id]) from by rw [HL.out]; rfl]
        exact RRet.comp hS1 m1 ⟨rfl, S', a1, a2, a3⟩
      · go_simp
        refine hK.out _ _ trivial (fun hHeld => ?_)
        clear hK K
        try simp only [List.getElem_toArray, List.getElem_cons_succ, List.getElem_cons_zero, Act.put, List.setIfInBounds_toArray, List.set_cons_zero, List.set_cons_succ]
        refine wpAnyH_ready (rs := [12]) (by kernel_rfl) (by simp) ?_
        refine AllReadyH.cons rfl (fun K hK => ?_) AllReadyH.nil
        have o1 : OwnL ((wd.alloc (.cells #[] 3)).alloc (.cells #[.int .i64 id] 3)).drew (some ⟨wd.heap.size, 0, none⟩) 0 0 [] := (OwnL.empty wd).alloc _
        have r1 : IsL ((wd.alloc (.cells #[] 3)).alloc (.cells #[.int .i64 id] 3)).drew A n c (L (k * 4)) := (hLk.alloc _).alloc _
        (with_reducible refine step_app _ (by with_unfolding_all rfl) (.tmp 22) (.tmp 30) _ (by with_unfolding_all rfl) Try.underlying35 int_info _ _ _ _ (by with_unfolding_all rfl) o1 _ _ _ _ (by with_unfolding_all rfl) r1 (by omega) ?_)
        intro C2 p2 q2 w2 hp1 hp2 hown2 hg2 hat2
        have r4 : IsL w2 (some ⟨wd.heap.size + 1, 0, none⟩) 1 1 [id] := one_kept (w := ((wd.alloc (.cells #[] 3)).alloc (.cells #[.int .i64 id] 3)).drew) (one_second wd _ id) (fun d hd => by cases hd; simp [blk]) hg2
        obtain ⟨hM2, kL, hf2⟩ := app_facts ((((Mod.refl _ wd).alloc _).alloc _).drew) (blk_size wd) hLk hg2 hat2
        have o4 := hown2
        have hW2 := hM2
        refine hK.out _ _ trivial (fun hHeld => ?_)
        clear hK K
        try simp only [List.getElem_toArray, List.getElem_cons_succ, List.getElem_cons_zero, Act.put, List.setIfInBounds_toArray, List.set_cons_zero, List.set_cons_succ]
        refine wpAnyH_ready (rs := [15]) (by kernel_rfl) (by simp) ?_
        refine AllReadyH.cons rfl (fun K hK => ?_) AllReadyH.nil
        (with_reducible refine step_app _ (by with_unfolding_all rfl) (.tmp 31) (.tmp 33) _ (by with_unfolding_all rfl) Try.underlying35 int_info _ _ _ _ (by with_unfolding_all rfl) o4 _ _ _ _ (by with_unfolding_all rfl) r4 (by omega) ?_)
        intro C3 p3 q3 w3 hp3 hp4 hown3 hg3 hat3
        obtain ⟨hM3, kL3, hf3⟩ := app_facts hW2 hf2 hLk hg3 hat3
        have tc := (hM3.cell (p := ⟨r, k * 4, none⟩) hblt (fun h => h)).trans hc
        have tf := (hM3.frozen (p := ⟨r, k * 4, none⟩) hblt (fun h => h)).trans hfz
        have tb := Nat.lt_of_lt_of_le hblt hM3.size
        refine hK.out _ _ trivial (fun hHeld => ?_)
        clear hK K
        try simp only [List.getElem_toArray, List.getElem_cons_succ, List.getElem_cons_zero, Act.put, List.setIfInBounds_toArray, List.set_cons_zero, List.set_cons_succ]
        (refine wpAnyH_take (i := 19) (v := ?_) rfl (by kernel_rfl) (by kernel_rfl) (by kernel_rfl) (fun _ _ _ h => h) (Or.inl ⟨by kernel_rfl, ?_⟩) (by assumption) ?_; rotate_left; focus (intro wq hSw; (try dsimp only at hSw); go_simp; try with_reducible rfl); try simp only [List.getElem_toArray, List.getElem_cons_succ, List.getElem_cons_zero, Act.put, List.setIfInBounds_toArray, List.set_cons_zero, List.set_cons_succ])
        refine wpAnyH_ready (rs := [20]) (by kernel_rfl) (by simp) ?_
        refine AllReadyH.cons rfl (fun K hK => ?_) AllReadyH.nil
        go_simp
        refine hK.out _ _ trivial (fun hHeld => ?_)
        clear hK K
        try simp only [List.getElem_toArray, List.getElem_cons_succ, List.getElem_cons_zero, Act.put, List.setIfInBounds_toArray, List.set_cons_zero, List.set_cons_succ]
        refine wpAnyH_done (by kernel_rfl) ?_ _
        refine NoPanic.normal ?_
        go_wp2
        go_end0
        obtain ⟨S', a1, a2, a3⟩ := h1.set (k := k * 4) (by omega) hM3 hown3.isL hown3.ty (fun d hd => .inr (hf3 d hd))
        rw [show cputL L0 k false id = upd L (k * 4) (L (k * 4) ++ [id]) from by rw [HL.out]; rfl]
        exact RRet.comp hS1 m1 ⟨rfl, S', a1, a2, a3⟩
    · go_simp
      refine hK.out _ _ trivial (fun hHeld => ?_)
      clear hK K
      try simp only [List.getElem_toArray, List.getElem_cons_succ, List.getElem_cons_zero, Act.put, List.setIfInBounds_toArray, List.set_cons_zero, List.set_cons_succ]
      refine wpAnyH_ready (rs := [3]) (by kernel_rfl) (by simp) ?_
      refine AllReadyH.cons rfl (fun K hK => ?_) AllReadyH.nil
      go_simp
      refine hK.out _ _ trivial (fun hHeld => ?_)
      clear hK K
      try simp only [List.getElem_toArray, List.getElem_cons_succ, List.getElem_cons_zero, Act.put, List.setIfInBounds_toArray, List.set_cons_zero, List.set_cons_succ]
      refine wpAnyH_ready (rs := [12]) (by kernel_rfl) (by simp) ?_
      refine AllReadyH.cons rfl (fun K hK => ?_) AllReadyH.nil
      have o1 : OwnL ((wd.alloc (.cells #[.int .i64 id] 3)).alloc (.cells #[] 3)).drew (some ⟨wd.heap.size + 1, 0, none⟩) 0 0 [] := own_second wd _
      have r1 : IsL ((wd.alloc (.cells #[.int .i64 id] 3)).alloc (.cells #[] 3)).drew A n c (L (k * 4)) := (hLk.alloc _).alloc _
      (with_reducible refine step_app _ (by with_unfolding_all rfl) (.tmp 22) (.tmp 30) _ (by with_unfolding_all rfl) Try.underlying35 int_info _ _ _ _ (by with_unfolding_all rfl) o1 _ _ _ _ (by with_unfolding_all rfl) r1 (by omega) ?_)
      intro C2 p2 q2 w2 hp1 hp2 hown2 hg2 hat2
      have r4 : IsL w2 (some ⟨wd.heap.size, 0, none⟩) 1 1 [id] := one_kept (w := ((wd.alloc (.cells #[.int .i64 id] 3)).alloc (.cells #[] 3)).drew) ((IsL.one wd id).alloc _) (fun d hd => by cases hd; simp [blk]) hg2
      obtain ⟨hM2, kL, hf2⟩ := app_facts ((((Mod.refl _ wd).alloc _).alloc _).drew) (blk_second wd) hLk hg2 hat2
      have o4 := hown2
      have hW2 := hM2
      refine hK.out _ _ trivial (fun hHeld => ?_)
      clear hK K
      try simp only [List.getElem_toArray, List.getElem_cons_succ, List.getElem_cons_zero, Act.put, List.setIfInBounds_toArray, List.set_cons_zero, List.set_cons_succ]
      refine wpAnyH_ready (rs := [15]) (by kernel_rfl) (by simp) ?_
      refine AllReadyH.cons rfl (fun K hK => ?_) AllReadyH.nil
      (with_reducible refine step_app _ (by with_unfolding_all rfl) (.tmp 31) (.tmp 33) _ (by with_unfolding_all rfl) Try.underlying35 int_info _ _ _ _ (by with_unfolding_all rfl) o4 _ _ _ _ (by with_unfolding_all rfl) r4 (by omega) ?_)
      intro C3 p3 q3 w3 hp3 hp4 hown3 hg3 hat3
      obtain ⟨hM3, kL3, hf3⟩ := app_facts hW2 hf2 hLk hg3 hat3
      have tc := (hM3.cell (p := ⟨r, k * 4, none⟩) hblt (fun h => h)).trans hc
      have tf := (hM3.frozen (p := ⟨r, k * 4, none⟩) hblt (fun h => h)).trans hfz
      have tb := Nat.lt_of_lt_of_le hblt hM3.size
      refine hK.out _ _ trivial (fun hHeld => ?_)
      clear hK K
      try simp only [List.getElem_toArray, List.getElem_cons_succ, List.getElem_cons_zero, Act.put, List.setIfInBounds_toArray, List.set_cons_zero, List.set_cons_succ]
      (refine wpAnyH_take (i := 19) (v := ?_) rfl (by kernel_rfl) (by kernel_rfl) (by kernel_rfl) (fun _ _ _ h => h) (Or.inl ⟨by kernel_rfl, ?_⟩) (by assumption) ?_; rotate_left; focus (intro wq hSw; (try dsimp only at hSw); go_simp; try with_reducible rfl); try simp only [List.getElem_toArray, List.getElem_cons_succ, List.getElem_cons_zero, Act.put, List.setIfInBounds_toArray, List.set_cons_zero, List.set_cons_succ])
      refine wpAnyH_ready (rs := [20]) (by kernel_rfl) (by simp) ?_
      refine AllReadyH.cons rfl (fun K hK => ?_) AllReadyH.nil
      go_simp
      refine hK.out _ _ trivial (fun hHeld => ?_)
      clear hK K
      try simp only [List.getElem_toArray, List.getElem_cons_succ, List.getElem_cons_zero, Act.put, List.setIfInBounds_toArray, List.set_cons_zero, List.set_cons_succ]
      refine wpAnyH_done (by kernel_rfl) ?_ _
      refine NoPanic.normal ?_
      go_wp2
      go_end0
      obtain ⟨S', a1, a2, a3⟩ := h1.set (k := k * 4) (by omega) hM3 hown3.isL hown3.ty (fun d hd => .inr (hf3 d hd))
      rw [show cputL L0 k false id = upd L (k * 4) (L (k * 4) ++ [id]) from by rw [HL.out]; rfl]
      exact RRet.comp hS1 m1 ⟨rfl, S', a1, a2, a3⟩
  · go_simp
    refine hK.out _ _ trivial (fun hHeld => ?_)
    clear hK K
    try simp only [List.getElem_toArray, List.getElem_cons_succ, List.getElem_cons_zero, Act.put, List.setIfInBounds_toArray, List.set_cons_zero, List.set_cons_succ]
    refine wpAnyH_ready (rs := [3, 11]) (by kernel_rfl) (by simp) ?_
    refine AllReadyH.cons rfl (fun K hK => ?_) (AllReadyH.cons rfl (fun K hK => ?_) AllReadyH.nil)
    · go_simp
      refine hK.out _ _ trivial (fun hHeld => ?_)
      clear hK K
      try simp only [List.getElem_toArray, List.getElem_cons_succ, List.getElem_cons_zero, Act.put, List.setIfInBounds_toArray, List.set_cons_zero, List.set_cons_succ]
      refine wpAnyH_ready (rs := [11]) (by kernel_rfl) (by simp) ?_
      refine AllReadyH.cons rfl (fun K hK => ?_) AllReadyH.nil
      go_simp
      refine hK.out _ _ trivial (fun hHeld => ?_)
      clear hK K
      try simp only [List.getElem_toArray, List.getElem_cons_succ, List.getElem_cons_zero, Act.put, List.setIfInBounds_toArray, List.set_cons_zero, List.set_cons_succ]
      refine wpAnyH_ready (rs := [12]) (by kernel_rfl) (by simp) ?_
      refine AllReadyH.cons rfl (fun K hK => ?_) AllReadyH.nil
      have o1 : OwnL ((wd.alloc (.cells #[.int .i64 id] 3)).alloc (.cells #[] 3)).drew (some ⟨wd.heap.size + 1, 0, none⟩) 0 0 [] := own_second wd _
      have r1 : IsL ((wd.alloc (.cells #[.int .i64 id] 3)).alloc (.cells #[] 3)).drew A n c (L (k * 4)) := (hLk.alloc _).alloc _
      (with_reducible refine step_app _ (by with_unfolding_all rfl) (.tmp 22) (.tmp 30) _ (by with_unfolding_all rfl) Try.underlying35 int_info _ _ _ _ (by with_unfolding_all rfl) o1 _ _ _ _ (by with_unfolding_all rfl) r1 (by omega) ?_)
      intro C2 p2 q2 w2 hp1 hp2 hown2 hg2 hat2
      have r4 : IsL w2 (some ⟨wd.heap.size, 0, none⟩) 1 1 [id] := one_kept (w := ((wd.alloc (.cells #[.int .i64 id] 3)).alloc (.cells #[] 3)).drew) ((IsL.one wd id).alloc _) (fun d hd => by cases hd; simp [blk]) hg2
      obtain ⟨hM2, kL, hf2⟩ := app_facts ((((Mod.refl _ wd).alloc _).alloc _).drew) (blk_second wd) hLk hg2 hat2
      have o4 := hown2
      have hW2 := hM2
      refine hK.out _ _ trivial (fun hHeld => ?_)
      clear hK K
      try simp only [List.getElem_toArray, List.getElem_cons_succ, List.getElem_cons_zero, Act.put, List.setIfInBounds_toArray, List.set_cons_zero, List.set_cons_succ]
      refine wpAnyH_ready (rs := [15]) (by kernel_rfl) (by simp) ?_
      refine AllReadyH.cons rfl (fun K hK => ?_) AllReadyH.nil
      (with_reducible refine step_app _ (by with_unfolding_all rfl) (.tmp 31) (.tmp 33) _ (by with_unfolding_all rfl) Try.underlying35 int_info _ _ _ _ (by with_unfolding_all rfl) o4 _ _ _ _ (by with_unfolding_all rfl) r4 (by omega) ?_)
      intro C3 p3 q3 w3 hp3 hp4 hown3 hg3 hat3
      obtain ⟨hM3, kL3, hf3⟩ := app_facts hW2 hf2 hLk hg3 hat3
      have tc := (hM3.cell (p := ⟨r, k * 4, none⟩) hblt (fun h => h)).trans hc
      have tf := (hM3.frozen (p := ⟨r, k * 4, none⟩) hblt (fun h => h)).trans hfz
      have tb := Nat.lt_of_lt_of_le hblt hM3.size
      refine hK.out _ _ trivial (fun hHeld => ?_)
      clear hK K
      try simp only [List.getElem_toArray, List.getElem_cons_succ, List.getElem_cons_zero, Act.put, List.setIfInBounds_toArray, List.set_cons_zero, List.set_cons_succ]
      (refine wpAnyH_take (i := 19) (v := ?_) rfl (by kernel_rfl) (by kernel_rfl) (by kernel_rfl) (fun _ _ _ h => h) (Or.inl ⟨by kernel_rfl, ?_⟩) (by assumption) ?_; rotate_left; focus (intro wq hSw; (try dsimp only at hSw); go_simp; try with_reducible rfl); try simp only [List.getElem_toArray, List.getElem_cons_succ, List.getElem_cons_zero, Act.put, List.setIfInBounds_toArray, List.set_cons_zero, List.set_cons_succ])
      refine wpAnyH_ready (rs := [20]) (by kernel_rfl) (by simp) ?_
      refine AllReadyH.cons rfl (fun K hK => ?_) AllReadyH.nil
      go_simp
      refine hK.out _ _ trivial (fun hHeld => ?_)
      clear hK K
      try simp only [List.getElem_toArray, List.getElem_cons_succ, List.getElem_cons_zero, Act.put, List.setIfInBounds_toArray, List.set_cons_zero, List.set_cons_succ]
      refine wpAnyH_done (by kernel_rfl) ?_ _
      refine NoPanic.normal ?_
      go_wp2
      go_end0
      obtain ⟨S', a1, a2, a3⟩ := h1.set (k := k * 4) (by omega) hM3 hown3.isL hown3.ty (fun d hd => .inr (hf3 d hd))
      rw [show cputL L0 k false id = upd L (k * 4) (L (k * 4) ++ [id]) from by rw [HL.out]; rfl]
      exact RRet.comp hS1 m1 ⟨rfl, S', a1, a2, a3⟩
    · go_simp
      refine hK.out _ _ trivial (fun hHeld => ?_)
      clear hK K
      try simp only [List.getElem_toArray, List.getElem_cons_succ, List.getElem_cons_zero, Act.put, List.setIfInBounds_toArray, List.set_cons_zero, List.set_cons_succ]
      refine wpAnyH_ready (rs := [3]) (by kernel_rfl) (by simp) ?_
      refine AllReadyH.cons rfl (fun K hK => ?_) AllReadyH.nil
      go_simp
      refine hK.out _ _ trivial (fun hHeld => ?_)
      clear hK K
      try simp only [List.getElem_toArray, List.getElem_cons_succ, List.getElem_cons_zero, Act.put, List.setIfInBounds_toArray, List.set_cons_zero, List.set_cons_succ]
      refine wpAnyH_ready (rs := [12]) (by kernel_rfl) (by simp) ?_
      refine AllReadyH.cons rfl (fun K hK => ?_) AllReadyH.nil
      have o1 : OwnL ((wd.alloc (.cells #[.int .i64 id] 3)).alloc (.cells #[] 3)).drew (some ⟨wd.heap.size + 1, 0, none⟩) 0 0 [] := own_second wd _
      have r1 : IsL ((wd.alloc (.cells #[.int .i64 id] 3)).alloc (.cells #[] 3)).drew A n c (L (k * 4)) := (hLk.alloc _).alloc _
      (with_reducible refine step_app _ (by with_unfolding_all rfl) (.tmp 22) (.tmp 30) _ (by with_unfolding_all rfl) Try.underlying35 int_info _ _ _ _ (by with_unfolding_all rfl) o1 _ _ _ _ (by with_unfolding_all rfl) r1 (by omega) ?_)
      intro C2 p2 q2 w2 hp1 hp2 hown2 hg2 hat2
      have r4 : IsL w2 (some ⟨wd.heap.size, 0, none⟩) 1 1 [id] := one_kept (w := ((wd.alloc (.cells #[.int .i64 id] 3)).alloc (.cells #[] 3)).drew) ((IsL.one wd id).alloc _) (fun d hd => by cases hd; simp [blk]) hg2
      obtain ⟨hM2, kL, hf2⟩ := app_facts ((((Mod.refl _ wd).alloc _).alloc _).drew) (blk_second wd) hLk hg2 hat2
      have o4 := hown2
      have hW2 := hM2
      refine hK.out _ _ trivial (fun hHeld => ?_)
      clear hK K
      try simp only [List.getElem_toArray, List.getElem_cons_succ, List.getElem_cons_zero, Act.put, List.setIfInBounds_toArray, List.set_cons_zero, List.set_cons_succ]
      refine wpAnyH_ready (rs := [15]) (by kernel_rfl) (by simp) ?_
      refine AllReadyH.cons rfl (fun K hK => ?_) AllReadyH.nil
      (with_reducible refine step_app _ (by with_unfolding_all rfl) (.tmp 31) (.tmp 33) _ (by with_unfolding_all rfl) Try.underlying35 int_info _ _ _ _ (by with_unfolding_all rfl) o4 _ _ _ _ (by with_unfolding_all rfl) r4 (by omega) ?_)
      intro C3 p3 q3 w3 hp3 hp4 hown3 hg3 hat3
      obtain ⟨hM3, kL3, hf3⟩ := app_facts hW2 hf2 hLk hg3 hat3
      have tc := (hM3.cell (p := ⟨r, k * 4, none⟩) hblt (fun h => h)).trans hc
      have tf := (hM3.frozen (p := ⟨r, k * 4, none⟩) hblt (fun h => h)).trans hfz
      have tb := Nat.lt_of_lt_of_le hblt hM3.size
      refine hK.out _ _ trivial (fun hHeld => ?_)
      clear hK K
      try simp only [List.getElem_toArray, List.getElem_cons_succ, List.getElem_cons_zero, Act.put, List.setIfInBounds_toArray, List.set_cons_zero, List.set_cons_succ]
      (refine wpAnyH_take (i := 19) (v := ?_) rfl (by kernel_rfl) (by kernel_rfl) (by kernel_rfl) (fun _ _ _ h => h) (Or.inl ⟨by kernel_rfl, ?_⟩) (by assumption) ?_; rotate_left; focus (intro wq hSw; (try dsimp only at hSw); go_simp; try with_reducible rfl); try simp only [List.getElem_toArray, List.getElem_cons_succ, List.getElem_cons_zero, Act.put, List.setIfInBounds_toArray, List.set_cons_zero, List.set_cons_succ])
      refine wpAnyH_ready (rs := [20]) (by kernel_rfl) (by simp) ?_
      refine AllReadyH.cons rfl (fun K hK => ?_) AllReadyH.nil
      go_simp
      refine hK.out _ _ trivial (fun hHeld => ?_)
      clear hK K
      try simp only [List.getElem_toArray, List.getElem_cons_succ, List.getElem_cons_zero, Act.put, List.setIfInBounds_toArray, List.set_cons_zero, List.set_cons_succ]
      refine wpAnyH_done (by kernel_rfl) ?_ _
      refine NoPanic.normal ?_
      go_wp2
      go_end0
      obtain ⟨S', a1, a2, a3⟩ := h1.set (k := k * 4) (by omega) hM3 hown3.isL hown3.ty (fun d hd => .inr (hf3 d hd))
      rw [show cputL L0 k false id = upd L (k * 4) (L (k * 4) ++ [id]) from by rw [HL.out]; rfl]
      exact RRet.comp hS1 m1 ⟨rfl, S', a1, a2, a3⟩

set_option maxHeartbeats 2000000 in
set_option maxRecDepth 100000 in
theorem rcput_t (h : ArrR 64 74 w S r L0) (k : Nat) (id : Int) (hk : k < 16) (hl : Small L0) : Calls Try.prog 44 #[.pointer (some ⟨r, 0, none⟩), .int .i64 (k : Int), .int .i64 id, .bool true] w (RRet w S r (cputL L0 k true id) (.tuple #[])) := by
  have hd : decide ((k : Int) < 0) = false := decide_eq_false (by omega)
  have hd2 : decide ((15 : Int) < (k : Int)) = false := decide_eq_false (by omega)
  have hd3 : decide (15 < k) = false := decide_eq_false (by omega)
  go_enter Try.func44, Try.ntmps44
  go_wp2_with fail
  refine (rcdel h id hl).mono ?_
  rintro e wd ⟨rfl, S1, h1, hS1, m1⟩
  have hln := cdelL_len L0 id (k * 4 + 1)
  have hl2 := hl (k * 4 + 1) (by omega)
  obtain ⟨L, hL⟩ : ∃ L, L = cdelL L0 id := ⟨_, rfl⟩
  rw [← hL] at h1 hln
  have HL := Lib.hid hL
  clear hL
  obtain ⟨A, n, c, hc, hLk, hfz, hty, hSA⟩ := h1.cell (k := k * 4 + 1) (by omega)
  have hblt := h1.blt
  rw [hLk.len] at hln
  have hk0 : (0 : Int) ≤ (k : Int) := by omega
  have hk1 : (k : Int) < 16 := by omega
  go_wp2
  have hcE : (wd.alloc (.cells #[] 3)).cell? ⟨r, k * 4 + 1, none⟩ = some (.slice A n c) := (((Mod.refl (fun _ => False) wd).alloc _).cell (p := ⟨r, k * 4 + 1, none⟩) hblt (fun h => h)).trans hc
  have hcX : (wd.alloc (.cells #[.int .i64 id] 3)).cell? ⟨r, k * 4 + 1, none⟩ = some (.slice A n c) := (((Mod.refl (fun _ => False) wd).alloc _).cell (p := ⟨r, k * 4 + 1, none⟩) hblt (fun h => h)).trans hc
  have hcEX : ((wd.alloc (.cells #[] 3)).alloc (.cells #[.int .i64 id] 3)).cell? ⟨r, k * 4 + 1, none⟩ = some (.slice A n c) := ((((Mod.refl (fun _ => False) wd).alloc _).alloc _).cell (p := ⟨r, k * 4 + 1, none⟩) hblt (fun h => h)).trans hc
  have hcXE : ((wd.alloc (.cells #[.int .i64 id] 3)).alloc (.cells #[] 3)).cell? ⟨r, k * 4 + 1, none⟩ = some (.slice A n c) := ((((Mod.refl (fun _ => False) wd).alloc _).alloc _).cell (p := ⟨r, k * 4 + 1, none⟩) hblt (fun h => h)).trans hc
  refine wp_region_noPanic ?_
  refine wp_region_held_drew (S := fun _ => True) (by kernel_rfl) trivial (fun hHeld => ?_)
  (refine wpAnyH_take (i := 0) (v := ?_) rfl (by kernel_rfl) (by kernel_rfl) (by kernel_rfl) (fun _ _ _ h => h) (Or.inl ⟨by kernel_rfl, ?_⟩) (by assumption) ?_; rotate_left; focus (intro wq hSw; (try dsimp only at hSw); go_simp; try with_reducible rfl); try simp only [List.getElem_toArray, List.getElem_cons_succ, List.getElem_cons_zero, Act.put, List.setIfInBounds_toArray, List.set_cons_zero, List.set_cons_succ])
  (refine wpAnyH_take (i := 1) (v := ?_) rfl (by kernel_rfl) (by kernel_rfl) (by kernel_rfl) (fun _ _ _ h => h) (Or.inl ⟨by kernel_rfl, ?_⟩) (by assumption) ?_; rotate_left; focus (intro wq hSw; (try dsimp only at hSw); go_simp; try with_reducible rfl); try simp only [List.getElem_toArray, List.getElem_cons_succ, List.getElem_cons_zero, Act.put, List.setIfInBounds_toArray, List.set_cons_zero, List.set_cons_succ])
  (refine wpAnyH_take (i := 2) (v := ?_) rfl (by kernel_rfl) (by kernel_rfl) (by kernel_rfl) (fun _ _ _ h => h) (Or.inl ⟨by kernel_rfl, ?_⟩) (by assumption) ?_; rotate_left; focus (intro wq hSw; (try dsimp only at hSw); go_simp; try with_reducible rfl); try simp only [List.getElem_toArray, List.getElem_cons_succ, List.getElem_cons_zero, Act.put, List.setIfInBounds_toArray, List.set_cons_zero, List.set_cons_succ])
  (refine wpAnyH_take (i := 4) (v := ?_) rfl (by kernel_rfl) (by kernel_rfl) (by kernel_rfl) (fun _ _ _ h => h) (Or.inl ⟨by kernel_rfl, ?_⟩) (by assumption) ?_; rotate_left; focus (intro wq hSw; (try dsimp only at hSw); go_simp; try with_reducible rfl); try simp only [List.getElem_toArray, List.getElem_cons_succ, List.getElem_cons_zero, Act.put, List.setIfInBounds_toArray, List.set_cons_zero, List.set_cons_succ])
  (refine wpAnyH_take (i := 5) (v := ?_) rfl (by kernel_rfl) (by kernel_rfl) (by kernel_rfl) (fun _ _ _ h => h) (Or.inl ⟨by kernel_rfl, ?_⟩) (by assumption) ?_; rotate_left; focus (intro wq hSw; (try dsimp only at hSw); go_simp; try with_reducible rfl); try simp only [List.getElem_toArray, List.getElem_cons_succ, List.getElem_cons_zero, Act.put, List.setIfInBounds_toArray, List.set_cons_zero, List.set_cons_succ])
  (refine wpAnyH_take (i := 6) (v := ?_) rfl (by kernel_rfl) (by kernel_rfl) (by kernel_rfl) (fun _ _ _ h => h) (Or.inl ⟨by kernel_rfl, ?_⟩) (by assumption) ?_; rotate_left; focus (intro wq hSw; (try dsimp only at hSw); go_simp; try with_reducible rfl); try simp only [List.getElem_toArray, List.getElem_cons_succ, List.getElem_cons_zero, Act.put, List.setIfInBounds_toArray, List.set_cons_zero, List.set_cons_succ])
  (refine wpAnyH_take (i := 7) (v := ?_) rfl (by kernel_rfl) (by kernel_rfl) (by kernel_rfl) (fun _ _ _ h => h) (Or.inl ⟨by kernel_rfl, ?_⟩) (by assumption) ?_; rotate_left; focus (intro wq hSw; (try dsimp only at hSw); go_simp; try with_reducible rfl); try simp only [List.getElem_toArray, List.getElem_cons_succ, List.getElem_cons_zero, Act.put, List.setIfInBounds_toArray, List.set_cons_zero, List.set_cons_succ])
  (refine wpAnyH_take (i := 8) (v := ?_) rfl (by kernel_rfl) (by kernel_rfl) (by kernel_rfl) (fun _ _ _ h => h) (Or.inl ⟨by kernel_rfl, ?_⟩) (by assumption) ?_; rotate_left; focus (intro wq hSw; (try dsimp only at hSw); go_simp; try with_reducible rfl); try simp only [List.getElem_toArray, List.getElem_cons_succ, List.getElem_cons_zero, Act.put, List.setIfInBounds_toArray, List.set_cons_zero, List.set_cons_succ])
  (refine wpAnyH_take (i := 9) (v := ?_) rfl (by kernel_rfl) (by kernel_rfl) (by kernel_rfl) (fun _ _ _ h => h) (Or.inl ⟨by kernel_rfl, ?_⟩) (by assumption) ?_; rotate_left; focus (intro wq hSw; (try dsimp only at hSw); go_simp; try with_reducible rfl); try simp only [List.getElem_toArray, List.getElem_cons_succ, List.getElem_cons_zero, Act.put, List.setIfInBounds_toArray, List.set_cons_zero, List.set_cons_succ])
  (refine wpAnyH_take (i := 10) (v := ?_) rfl (by kernel_rfl) (by kernel_rfl) (by kernel_rfl) (fun _ _ _ h => h) (Or.inl ⟨by kernel_rfl, ?_⟩) (by assumption) ?_; rotate_left; focus (intro wq hSw; (try dsimp only at hSw); go_simp; try with_reducible rfl); try simp only [List.getElem_toArray, List.getElem_cons_succ, List.getElem_cons_zero, Act.put, List.setIfInBounds_toArray, List.set_cons_zero, List.set_cons_succ])
  (refine wpAnyH_take (i := 13) (v := ?_) rfl (by kernel_rfl) (by kernel_rfl) (by kernel_rfl) (fun _ _ _ h => h) (Or.inl ⟨by kernel_rfl, ?_⟩) (by assumption) ?_; rotate_left; focus (intro wq hSw; (try dsimp only at hSw); go_simp; try with_reducible rfl); try simp only [List.getElem_toArray, List.getElem_cons_succ, List.getElem_cons_zero, Act.put, List.setIfInBounds_toArray, List.set_cons_zero, List.set_cons_succ])
  (refine wpAnyH_take (i := 16) (v := ?_) rfl (by kernel_rfl) (by kernel_rfl) (by kernel_rfl) (fun _ _ _ h => h) (Or.inl ⟨by kernel_rfl, ?_⟩) (by assumption) ?_; rotate_left; focus (intro wq hSw; (try dsimp only at hSw); go_simp; try with_reducible rfl); try simp only [List.getElem_toArray, List.getElem_cons_succ, List.getElem_cons_zero, Act.put, List.setIfInBounds_toArray, List.set_cons_zero, List.set_cons_succ])
  (refine wpAnyH_take (i := 17) (v := ?_) rfl (by kernel_rfl) (by kernel_rfl) (by kernel_rfl) (fun _ _ _ h => h) (Or.inl ⟨by kernel_rfl, ?_⟩) (by assumption) ?_; rotate_left; focus (intro wq hSw; (try dsimp only at hSw); go_simp; try with_reducible rfl); try simp only [List.getElem_toArray, List.getElem_cons_succ, List.getElem_cons_zero, Act.put, List.setIfInBounds_toArray, List.set_cons_zero, List.set_cons_succ])
  (refine wpAnyH_take (i := 18) (v := ?_) rfl (by kernel_rfl) (by kernel_rfl) (by kernel_rfl) (fun _ _ _ h => h) (Or.inl ⟨by kernel_rfl, ?_⟩) (by assumption) ?_; rotate_left; focus (intro wq hSw; (try dsimp only at hSw); go_simp; try with_reducible rfl); try simp only [List.getElem_toArray, List.getElem_cons_succ, List.getElem_cons_zero, Act.put, List.setIfInBounds_toArray, List.set_cons_zero, List.set_cons_succ])
  refine wpAnyH_ready (rs := [3, 11, 14]) (by kernel_rfl) (by simp) ?_
  refine AllReadyH.cons rfl (fun K hK => ?_) (AllReadyH.cons rfl (fun K hK => ?_) (AllReadyH.cons rfl (fun K hK => ?_) AllReadyH.nil))
  · go_simp
    refine hK.out _ _ trivial (fun hHeld => ?_)
    clear hK K
    try simp only [List.getElem_toArray, List.getElem_cons_succ, List.getElem_cons_zero, Act.put, List.setIfInBounds_toArray, List.set_cons_zero, List.set_cons_succ]
    refine wpAnyH_ready (rs := [11, 14]) (by kernel_rfl) (by simp) ?_
    refine AllReadyH.cons rfl (fun K hK => ?_) (AllReadyH.cons rfl (fun K hK => ?_) AllReadyH.nil)
    · go_simp
      refine hK.out _ _ trivial (fun hHeld => ?_)
      clear hK K
      try simp only [List.getElem_toArray, List.getElem_cons_succ, List.getElem_cons_zero, Act.put, List.setIfInBounds_toArray, List.set_cons_zero, List.set_cons_succ]
      refine wpAnyH_ready (rs := [12, 14]) (by kernel_rfl) (by simp) ?_
      refine AllReadyH.cons rfl (fun K hK => ?_) (AllReadyH.cons rfl (fun K hK => ?_) AllReadyH.nil)
      · have o1 : OwnL (wd.alloc (.cells #[] 3)).drew (some ⟨wd.heap.size, 0, none⟩) 0 0 [] := OwnL.empty wd
        have r1 : IsL (wd.alloc (.cells #[] 3)).drew A n c (L (k * 4 + 1)) := hLk.alloc _
        (with_reducible refine step_app _ (by with_unfolding_all rfl) (.tmp 22) (.tmp 30) _ (by with_unfolding_all rfl) Try.underlying35 int_info _ _ _ _ (by with_unfolding_all rfl) o1 _ _ _ _ (by with_unfolding_all rfl) r1 (by omega) ?_)
        intro C2 p2 q2 w2 hp1 hp2 hown2 hg2 hat2
        obtain ⟨hM2, kL, hf2⟩ := app_facts (((Mod.refl _ wd).alloc _).drew) (blk_size wd) hLk hg2 hat2
        have o4 : OwnL (w2.alloc (.cells #[.int .i64 id] 3)) C2 p2 q2 ([] ++ L (k * 4 + 1)) := hown2.alloc _
        have r4 : IsL (w2.alloc (.cells #[.int .i64 id] 3)) (some ⟨w2.heap.size, 0, none⟩) 1 1 [id] := IsL.one w2 id
        have hW2 : Mod (fun _ => False) wd (w2.alloc (.cells #[.int .i64 id] 3)) := hM2.alloc _
        refine hK.out _ _ trivial (fun hHeld => ?_)
        clear hK K
        try simp only [List.getElem_toArray, List.getElem_cons_succ, List.getElem_cons_zero, Act.put, List.setIfInBounds_toArray, List.set_cons_zero, List.set_cons_succ]
        refine wpAnyH_ready (rs := [14]) (by kernel_rfl) (by simp) ?_
        refine AllReadyH.cons rfl (fun K hK => ?_) AllReadyH.nil
        go_simp
        refine hK.out _ _ trivial (fun hHeld => ?_)
        clear hK K
        try simp only [List.getElem_toArray, List.getElem_cons_succ, List.getElem_cons_zero, Act.put, List.setIfInBounds_toArray, List.set_cons_zero, List.set_cons_succ]
        refine wpAnyH_ready (rs := [15]) (by kernel_rfl) (by simp) ?_
        refine AllReadyH.cons rfl (fun K hK => ?_) AllReadyH.nil
        (with_reducible refine step_app _ (by with_unfolding_all rfl) (.tmp 31) (.tmp 33) _ (by with_unfolding_all rfl) Try.underlying35 int_info _ _ _ _ (by with_unfolding_all rfl) o4 _ _ _ _ (by with_unfolding_all rfl) r4 (by omega) ?_)
        intro C3 p3 q3 w3 hp3 hp4 hown3 hg3 hat3
        obtain ⟨hM3, kL3, hf3⟩ := app_facts hW2 hf2 hLk hg3 hat3
        have tc := (hM3.cell (p := ⟨r, k * 4 + 1, none⟩) hblt (fun h => h)).trans hc
        have tf := (hM3.frozen (p := ⟨r, k * 4 + 1, none⟩) hblt (fun h => h)).trans hfz
        have tb := Nat.lt_of_lt_of_le hblt hM3.size
        refine hK.out _ _ trivial (fun hHeld => ?_)
        clear hK K
        try simp only [List.getElem_toArray, List.getElem_cons_succ, List.getElem_cons_zero, Act.put, List.setIfInBounds_toArray, List.set_cons_zero, List.set_cons_succ]
        (refine wpAnyH_take (i := 19) (v := ?_) rfl (by kernel_rfl) (by kernel_rfl) (by kernel_rfl) (fun _ _ _ h => h) (Or.inl ⟨by kernel_rfl, ?_⟩) (by assumption) ?_; rotate_left; focus (intro wq hSw; (try dsimp only at hSw); go_simp; try with_reducible rfl); try simp only [List.getElem_toArray, List.getElem_cons_succ, List.getElem_cons_zero, Act.put, List.setIfInBounds_toArray, List.set_cons_zero, List.set_cons_succ])
        refine wpAnyH_ready (rs := [20]) (by kernel_rfl) (by simp) ?_
        refine AllReadyH.cons rfl (fun K hK => ?_) AllReadyH.nil
        go_simp
        refine hK.out _ _ trivial (fun hHeld => ?_)
        clear hK K
        try simp only [List.getElem_toArray, List.getElem_cons_succ, List.getElem_cons_zero, Act.put, List.setIfInBounds_toArray, List.set_cons_zero, List.set_cons_succ]
        refine wpAnyH_done (by kernel_rfl) ?_ _
        refine NoPanic.normal ?_
        go_wp2
        go_end0
        obtain ⟨S', a1, a2, a3⟩ := h1.set (k := k * 4 + 1) (by omega) hM3 hown3.isL hown3.ty (fun d hd => .inr (hf3 d hd))
        rw [show cputL L0 k true id = upd L (k * 4 + 1) (L (k * 4 + 1) ++ [id]) from by rw [HL.out]; rfl]
        exact RRet.comp hS1 m1 ⟨rfl, S', a1, a2, a3⟩
      · go_simp
        refine hK.out _ _ trivial (fun hHeld => ?_)
        clear hK K
        try simp only [List.getElem_toArray, List.getElem_cons_succ, List.getElem_cons_zero, Act.put, List.setIfInBounds_toArray, List.set_cons_zero, List.set_cons_succ]
        refine wpAnyH_ready (rs := [12]) (by kernel_rfl) (by simp) ?_
        refine AllReadyH.cons rfl (fun K hK => ?_) AllReadyH.nil
        have o1 : OwnL ((wd.alloc (.cells #[] 3)).alloc (.cells #[.int .i64 id] 3)).drew (some ⟨wd.heap.size, 0, none⟩) 0 0 [] := (OwnL.empty wd).alloc _
        have r1 : IsL ((wd.alloc (.cells #[] 3)).alloc (.cells #[.int .i64 id] 3)).drew A n c (L (k * 4 + 1)) := (hLk.alloc _).alloc _
        (with_reducible refine step_app _ (by with_unfolding_all rfl) (.tmp 22) (.tmp 30) _ (by with_unfolding_all rfl) Try.underlying35 int_info _ _ _ _ (by with_unfolding_all rfl) o1 _ _ _ _ (by with_unfolding_all rfl) r1 (by omega) ?_)
        intro C2 p2 q2 w2 hp1 hp2 hown2 hg2 hat2
        have r4 : IsL w2 (some ⟨wd.heap.size + 1, 0, none⟩) 1 1 [id] := one_kept (w := ((wd.alloc (.cells #[] 3)).alloc (.cells #[.int .i64 id] 3)).drew) (one_second wd _ id) (fun d hd => by cases hd; simp [blk]) hg2
        obtain ⟨hM2, kL, hf2⟩ := app_facts ((((Mod.refl _ wd).alloc _).alloc _).drew) (blk_size wd) hLk hg2 hat2
        have o4 := hown2
        have hW2 := hM2
        refine hK.out _ _ trivial (fun hHeld => ?_)
        clear hK K
        try simp only [List.getElem_toArray, List.getElem_cons_succ, List.getElem_cons_zero, Act.put, List.setIfInBounds_toArray, List.set_cons_zero, List.set_cons_succ]
        refine wpAnyH_ready (rs := [15]) (by kernel_rfl) (by simp) ?_
        refine AllReadyH.cons rfl (fun K hK => ?_) AllReadyH.nil
        (with_reducible refine step_app _ (by with_unfolding_all rfl) (.tmp 31) (.tmp 33) _ (by with_unfolding_all rfl) Try.underlying35 int_info _ _ _ _ (by with_unfolding_all rfl) o4 _ _ _ _ (by with_unfolding_all rfl) r4 (by omega) ?_)
        intro C3 p3 q3 w3 hp3 hp4 hown3 hg3 hat3
        obtain ⟨hM3, kL3, hf3⟩ := app_facts hW2 hf2 hLk hg3 hat3
        have tc := (hM3.cell (p := ⟨r, k * 4 + 1, none⟩) hblt (fun h => h)).trans hc
        have tf := (hM3.frozen (p := ⟨r, k * 4 + 1, none⟩) hblt (fun h => h)).trans hfz
        have tb := Nat.lt_of_lt_of_le hblt hM3.size
        refine hK.out _ _ trivial (fun hHeld => ?_)
        clear hK K
        try simp only [List.getElem_toArray, List.getElem_cons_succ, List.getElem_cons_zero, Act.put, List.setIfInBounds_toArray, List.set_cons_zero, List.set_cons_succ]
        (refine wpAnyH_take (i := 19) (v := ?_) rfl (by kernel_rfl) (by kernel_rfl) (by kernel_rfl) (fun _ _ _ h => h) (Or.inl ⟨by kernel_rfl, ?_⟩) (by assumption) ?_; rotate_left; focus (intro wq hSw; (try dsimp only at hSw); go_simp; try with_reducible rfl); try simp only [List.getElem_toArray, List.getElem_cons_succ, List.getElem_cons_zero, Act.put, List.setIfInBounds_toArray, List.set_cons_zero, List.set_cons_succ])
        refine wpAnyH_ready (rs := [20]) (by kernel_rfl) (by simp) ?_
        refine AllReadyH.cons rfl (fun K hK => ?_) AllReadyH.nil
        go_simp
        refine hK.out _ _ trivial (fun hHeld => ?_)
        clear hK K
        try simp only [List.getElem_toArray, List.getElem_cons_succ, List.getElem_cons_zero, Act.put, List.setIfInBounds_toArray, List.set_cons_zero, List.set_cons_succ]
        refine wpAnyH_done (by kernel_rfl) ?_ _
        refine NoPanic.normal ?_
        go_wp2
        go_end0
        obtain ⟨S', a1, a2, a3⟩ := h1.set (k := k * 4 + 1) (by omega) hM3 hown3.isL hown3.ty (fun d hd => .inr (hf3 d hd))
        rw [show cputL L0 k true id = upd L (k * 4 + 1) (L (k * 4 + 1) ++ [id]) from by rw [HL.out]; rfl]
        exact RRet.comp hS1 m1 ⟨rfl, S', a1, a2, a3⟩
    · go_simp
      refine hK.out _ _ trivial (fun hHeld => ?_)
      clear hK K
      try simp only [List.getElem_toArray, List.getElem_cons_succ, List.getElem_cons_zero, Act.put, List.setIfInBounds_toArray, List.set_cons_zero, List.set_cons_succ]
      refine wpAnyH_ready (rs := [11]) (by kernel_rfl) (by simp) ?_
      refine AllReadyH.cons rfl (fun K hK => ?_) AllReadyH.nil
      go_simp
      refine hK.out _ _ trivial (fun hHeld => ?_)
      clear hK K
      try simp only [List.getElem_toArray, List.getElem_cons_succ, List.getElem_cons_zero, Act.put, List.setIfInBounds_toArray, List.set_cons_zero, List.set_cons_succ]
      refine wpAnyH_ready (rs := [12]) (by kernel_rfl) (by simp) ?_
      refine AllReadyH.cons rfl (fun K hK => ?_) AllReadyH.nil
      have o1 : OwnL ((wd.alloc (.cells #[] 3)).alloc (.cells #[.int .i64 id] 3)).drew (some ⟨wd.heap.size, 0, none⟩) 0 0 [] := (OwnL.empty wd).alloc _
      have r1 : IsL ((wd.alloc (.cells #[] 3)).alloc (.cells #[.int .i64 id] 3)).drew A n c (L (k * 4 + 1)) := (hLk.alloc _).alloc _
      (with_reducible refine step_app _ (by with_unfolding_all rfl) (.tmp 22) (.tmp 30) _ (by with_unfolding_all rfl) Try.underlying35 int_info _ _ _ _ (by with_unfolding_all rfl) o1 _ _ _ _ (by with_unfolding_all rfl) r1 (by omega) ?_)
      intro C2 p2 q2 w2 hp1 hp2 hown2 hg2 hat2
      have r4 : IsL w2 (some ⟨wd.heap.size + 1, 0, none⟩) 1 1 [id] := one_kept (w := ((wd.alloc (.cells #[] 3)).alloc (.cells #[.int .i64 id] 3)).drew) (one_second wd _ id) (fun d hd => by cases hd; simp [blk]) hg2
      obtain ⟨hM2, kL, hf2⟩ := app_facts ((((Mod.refl _ wd).alloc _).alloc _).drew) (blk_size wd) hLk hg2 hat2
      have o4 := hown2
      have hW2 := hM2
      refine hK.out _ _ trivial (fun hHeld => ?_)
      clear hK K
      try simp only [List.getElem_toArray, List.getElem_cons_succ, List.getElem_cons_zero, Act.put, List.setIfInBounds_toArray, List.set_cons_zero, List.set_cons_succ]
      refine wpAnyH_ready (rs := [15]) (by kernel_rfl) (by simp) ?_
      refine AllReadyH.cons rfl (fun K hK => ?_) AllReadyH.nil
      (with_reducible refine step_app _ (by with_unfolding_all rfl) (.tmp 31) (.tmp 33) _ (by with_unfolding_all rfl) Try.underlying35 int_info _ _ _ _ (by with_unfolding_all rfl) o4 _ _ _ _ (by with_unfolding_all rfl) r4 (by omega) ?_)
      intro C3 p3 q3 w3 hp3 hp4 hown3 hg3 hat3
      obtain ⟨hM3, kL3, hf3⟩ := app_facts hW2 hf2 hLk hg3 hat3
      have tc := (hM3.cell (p := ⟨r, k * 4 + 1, none⟩) hblt (fun h => h)).trans hc
      have tf := (hM3.frozen (p := ⟨r, k * 4 + 1, none⟩) hblt (fun h => h)).trans hfz
      have tb := Nat.lt_of_lt_of_le hblt hM3.size
      refine hK.out _ _ trivial (fun hHeld => ?_)
      clear hK K
      try simp only [List.getElem_toArray, List.getElem_cons_succ, List.getElem_cons_zero, Act.put, List.setIfInBounds_toArray, List.set_cons_zero, List.set_cons_succ]
      (refine wpAnyH_take (i := 19) (v := ?_) rfl (by kernel_rfl) (by kernel_rfl) (by kernel_rfl) (fun _ _ _ h => h) (Or.inl ⟨by kernel_rfl, ?_⟩) (by assumption) ?_; rotate_left; focus (intro wq hSw; (try dsimp only at hSw); go_simp; try with_reducible rfl); try simp only [List.getElem_toArray, List.getElem_cons_succ, List.getElem_cons_zero, Act.put, List.setIfInBounds_toArray, List.set_cons_zero, List.set_cons_succ])
      refine wpAnyH_ready (rs := [20]) (by kernel_rfl) (by simp) ?_
      refine AllReadyH.cons rfl (fun K hK => ?_) AllReadyH.nil
      go_simp
      refine hK.out _ _ trivial (fun hHeld => ?_)
      clear hK K
      try simp only [List.getElem_toArray, List.getElem_cons_succ, List.getElem_cons_zero, Act.put, List.setIfInBounds_toArray, List.set_cons_zero, List.set_cons_succ]
      refine wpAnyH_done (by kernel_rfl) ?_ _
      refine NoPanic.normal ?_
      go_wp2
      go_end0
      obtain ⟨S', a1, a2, a3⟩ := h1.set (k := k * 4 + 1) (by omega) hM3 hown3.isL hown3.ty (fun d hd => .inr (hf3 d hd))
      rw [show cputL L0 k true id = upd L (k * 4 + 1) (L (k * 4 + 1) ++ [id]) from by rw [HL.out]; rfl]
      exact RRet.comp hS1 m1 ⟨rfl, S', a1, a2, a3⟩
  · go_simp
    refine hK.out _ _ trivial (fun hHeld => ?_)
    clear hK K
    try simp only [List.getElem_toArray, List.getElem_cons_succ, List.getElem_cons_zero, Act.put, List.setIfInBounds_toArray, List.set_cons_zero, List.set_cons_succ]
    refine wpAnyH_ready (rs := [3, 14]) (by kernel_rfl) (by simp) ?_
    refine AllReadyH.cons rfl (fun K hK => ?_) (AllReadyH.cons rfl (fun K hK => ?_) AllReadyH.nil)
    · go_simp
      refine hK.out _ _ trivial (fun hHeld => ?_)
      clear hK K
      try simp only [List.getElem_toArray, List.getElem_cons_succ, List.getElem_cons_zero, Act.put, List.setIfInBounds_toArray, List.set_cons_zero, List.set_cons_succ]
      refine wpAnyH_ready (rs := [12, 14]) (by kernel_rfl) (by simp) ?_
      refine AllReadyH.cons rfl (fun K hK => ?_) (AllReadyH.cons rfl (fun K hK => ?_) AllReadyH.nil)
      · have o1 : OwnL (wd.alloc (.cells #[] 3)).drew (some ⟨wd.heap.size, 0, none⟩) 0 0 [] := OwnL.empty wd
        have r1 : IsL (wd.alloc (.cells #[] 3)).drew A n c (L (k * 4 + 1)) := hLk.alloc _
        (with_reducible refine step_app _ (by with_unfolding_all rfl) (.tmp 22) (.tmp 30) _ (by with_unfolding_all rfl) Try.underlying35 int_info _ _ _ _ (by with_unfolding_all rfl) o1 _ _ _ _ (by with_unfolding_all rfl) r1 (by omega) ?_)
        intro C2 p2 q2 w2 hp1 hp2 hown2 hg2 hat2
        obtain ⟨hM2, kL, hf2⟩ := app_facts (((Mod.refl _ wd).alloc _).drew) (blk_size wd) hLk hg2 hat2
        have o4 : OwnL (w2.alloc (.cells #[.int .i64 id] 3)) C2 p2 q2 ([] ++ L (k * 4 + 1)) := hown2.alloc _
        have r4 : IsL (w2.alloc (.cells #[.int .i64 id] 3)) (some ⟨w2.heap.size, 0, none⟩) 1 1 [id] := IsL.one w2 id
        have hW2 : Mod (fun _ => False) wd (w2.alloc (.cells #[.int .i64 id] 3)) := hM2.alloc _
        refine hK.out _ _ trivial (fun hHeld => ?_)
        clear hK K
        try simp only [List.getElem_toArray, List.getElem_cons_succ, List.getElem_cons_zero, Act.put, List.setIfInBounds_toArray, List.set_cons_zero, List.set_cons_succ]
        refine wpAnyH_ready (rs := [14]) (by kernel_rfl) (by simp) ?_
        refine AllReadyH.cons rfl (fun K hK => ?_) AllReadyH.nil
        go_simp
        refine hK.out _ _ trivial (fun hHeld => ?_)
        clear hK K
        try simp only [List.getElem_toArray, List.getElem_cons_succ, List.getElem_cons_zero, Act.put, List.setIfInBounds_toArray, List.set_cons_zero, List.set_cons_succ]
        refine wpAnyH_ready (rs := [15]) (by kernel_rfl) (by simp) ?_
        refine AllReadyH.cons rfl (fun K hK => ?_) AllReadyH.nil
        (with_reducible refine step_app _ (by with_unfolding_all rfl) (.tmp 31) (.tmp 33) _ (by with_unfolding_all rfl) Try.underlying35 int_info _ _ _ _ (by with_unfolding_all rfl) o4 _ _ _ _ (by with_unfolding_all rfl) r4 (by omega) ?_)
        intro C3 p3 q3 w3 hp3 hp4 hown3 hg3 hat3
        obtain ⟨hM3, kL3, hf3⟩ := app_facts hW2 hf2 hLk hg3 hat3
        have tc := (hM3.cell (p := ⟨r, k * 4 + 1, none⟩) hblt (fun h => h)).trans hc
        have tf := (hM3.frozen (p := ⟨r, k * 4 + 1, none⟩) hblt (fun h => h)).trans hfz
        have tb := Nat.lt_of_lt_of_le hblt hM3.size
        refine hK.out _ _ trivial (fun hHeld => ?_)
        clear hK K
        try simp only [List.getElem_toArray, List.getElem_cons_succ, List.getElem_cons_zero, Act.put, List.setIfInBounds_toArray, List.set_cons_zero, List.set_cons_succ]
        (refine wpAnyH_take (i := 19) (v := ?_) rfl (by kernel_rfl) (by kernel_rfl) (by kernel_rfl) (fun _ _ _ h => h) (Or.inl ⟨by kernel_rfl, ?_⟩) (by assumption) ?_; rotate_left; focus (intro wq hSw; (try dsimp only at hSw); go_simp; try with_reducible rfl); try simp only [List.getElem_toArray, List.getElem_cons_succ, List.getElem_cons_zero, Act.put, List.setIfInBounds_toArray, List.set_cons_zero, List.set_cons_succ])
        refine wpAnyH_ready (rs := [20]) (by kernel_rfl) (by simp) ?_
        refine AllReadyH.cons rfl (fun K hK => ?_) AllReadyH.nil
        go_simp
        refine hK.out _ _ trivial (fun hHeld => ?_)
        clear hK K
        try simp only [List.getElem_toArray, List.getElem_cons_succ, List.getElem_cons_zero, Act.put, List.setIfInBounds_toArray, List.set_cons_zero, List.set_cons_succ]
        refine wpAnyH_done (by kernel_rfl) ?_ _
        refine NoPanic.normal ?_
        go_wp2
        go_end0
        obtain ⟨S', a1, a2, a3⟩ := h1.set (k := k * 4 + 1) (by omega) hM3 hown3.isL hown3.ty (fun d hd => .inr (hf3 d hd))
        rw [show cputL L0 k true id = upd L (k * 4 + 1) (L (k * 4 + 1) ++ [id]) from by rw [HL.out]; rfl]
        exact RRet.comp hS1 m1 ⟨rfl, S', a1, a2, a3⟩
      · go_simp
        refine hK.out _ _ trivial (fun hHeld => ?_)
        clear hK K
        try simp only [List.getElem_toArray, List.getElem_cons_succ, List.getElem_cons_zero, Act.put, List.setIfInBounds_toArray, List.set_cons_zero, List.set_cons_succ]
        refine wpAnyH_ready (rs := [12]) (by kernel_rfl) (by simp) ?_
        refine AllReadyH.cons rfl (fun K hK => ?_) AllReadyH.nil
        have o1 : OwnL ((wd.alloc (.cells #[] 3)).alloc (.cells #[.int .i64 id] 3)).drew (some ⟨wd.heap.size, 0, none⟩) 0 0 [] := (OwnL.empty wd).alloc _
        have r1 : IsL ((wd.alloc (.cells #[] 3)).alloc (.cells #[.int .i64 id] 3)).drew A n c (L (k * 4 + 1)) := (hLk.alloc _).alloc _
        (with_reducible refine step_app _ (by with_unfolding_all rfl) (.tmp 22) (.tmp 30) _ (by with_unfolding_all rfl) Try.underlying35 int_info _ _ _ _ (by with_unfolding_all rfl) o1 _ _ _ _ (by with_unfolding_all rfl) r1 (by omega) ?_)
        intro C2 p2 q2 w2 hp1 hp2 hown2 hg2 hat2
        have r4 : IsL w2 (some ⟨wd.heap.size + 1, 0, none⟩) 1 1 [id] := one_kept (w := ((wd.alloc (.cells #[] 3)).alloc (.cells #[.int .i64 id] 3)).drew) (one_second wd _ id) (fun d hd => by cases hd; simp [blk]) hg2
        obtain ⟨hM2, kL, hf2⟩ := app_facts ((((Mod.refl _ wd).alloc _).alloc _).drew) (blk_size wd) hLk hg2 hat2
        have o4 := hown2
        have hW2 := hM2
        refine hK.out _ _ trivial (fun hHeld => ?_)
        clear hK K
        try simp only [List.getElem_toArray, List.getElem_cons_succ, List.getElem_cons_zero, Act.put, List.setIfInBounds_toArray, List.set_cons_zero, List.set_cons_succ]
        refine wpAnyH_ready (rs := [15]) (by kernel_rfl) (by simp) ?_
        refine AllReadyH.cons rfl (fun K hK => ?_) AllReadyH.nil
        (with_reducible refine step_app _ (by with_unfolding_all rfl) (.tmp 31) (.tmp 33) _ (by with_unfolding_all rfl) Try.underlying35 int_info _ _ _ _ (by with_unfolding_all rfl) o4 _ _ _ _ (by with_unfolding_all rfl) r4 (by omega) ?_)
        intro C3 p3 q3 w3 hp3 hp4 hown3 hg3 hat3
        obtain ⟨hM3, kL3, hf3⟩ := app_facts hW2 hf2 hLk hg3 hat3
        have tc := (hM3.cell (p := ⟨r, k * 4 + 1, none⟩) hblt (fun h => h)).trans hc
        have tf := (hM3.frozen (p := ⟨r, k * 4 + 1, none⟩) hblt (fun h => h)).trans hfz
        have tb := Nat.lt_of_lt_of_le hblt hM3.size
        refine hK.out _ _ trivial (fun hHeld => ?_)
        clear hK K
        try simp only [List.getElem_toArray, List.getElem_cons_succ, List.getElem_cons_zero, Act.put, List.setIfInBounds_toArray, List.set_cons_zero, List.set_cons_succ]
        (refine wpAnyH_take (i := 19) (v := ?_) rfl (by kernel_rfl) (by kernel_rfl) (by kernel_rfl) (fun _ _ _ h => h) (Or.inl ⟨by kernel_rfl, ?_⟩) (by assumption) ?_; rotate_left; focus (intro wq hSw; (try dsimp only at hSw); go_simp; try with_reducible rfl); try simp only [List.getElem_toArray, List.getElem_cons_succ, List.getElem_cons_zero, Act.put, List.setIfInBounds_toArray, List.set_cons_zero, List.set_cons_succ])
        refine wpAnyH_ready (rs := [20]) (by kernel_rfl) (by simp) ?_
        refine AllReadyH.cons rfl (fun K hK => ?_) AllReadyH.nil
        go_simp
        refine hK.out _ _ trivial (fun hHeld => ?_)
        clear hK K
        try simp only [List.getElem_toArray, List.getElem_cons_succ, List.getElem_cons_zero, Act.put, List.setIfInBounds_toArray, List.set_cons_zero, List.set_cons_succ]
        refine wpAnyH_done (by kernel_rfl) ?_ _
        refine NoPanic.normal ?_
        go_wp2
        go_end0
        obtain ⟨S', a1, a2, a3⟩ := h1.set (k := k * 4 + 1) (by omega) hM3 hown3.isL hown3.ty (fun d hd => .inr (hf3 d hd))
        rw [show cputL L0 k true id = upd L (k * 4 + 1) (L (k * 4 + 1) ++ [id]) from by rw [HL.out]; rfl]
        exact RRet.comp hS1 m1 ⟨rfl, S', a1, a2, a3⟩
    · go_simp
      refine hK.out _ _ trivial (fun hHeld => ?_)
      clear hK K
      try simp only [List.getElem_toArray, List.getElem_cons_succ, List.getElem_cons_zero, Act.put, List.setIfInBounds_toArray, List.set_cons_zero, List.set_cons_succ]
      refine wpAnyH_ready (rs := [3]) (by kernel_rfl) (by simp) ?_
      refine AllReadyH.cons rfl (fun K hK => ?_) AllReadyH.nil
      go_simp
      refine hK.out _ _ trivial (fun hHeld => ?_)
      clear hK K
      try simp only [List.getElem_toArray, List.getElem_cons_succ, List.getElem_cons_zero, Act.put, List.setIfInBounds_toArray, List.set_cons_zero, List.set_cons_succ]
      refine wpAnyH_ready (rs := [12]) (by kernel_rfl) (by simp) ?_
      refine AllReadyH.cons rfl (fun K hK => ?_) AllReadyH.nil
      have o1 : OwnL ((wd.alloc (.cells #[.int .i64 id] 3)).alloc (.cells #[] 3)).drew (some ⟨wd.heap.size + 1, 0, none⟩) 0 0 [] := own_second wd _
      have r1 : IsL ((wd.alloc (.cells #[.int .i64 id] 3)).alloc (.cells #[] 3)).drew A n c (L (k * 4 + 1)) := (hLk.alloc _).alloc _
      (with_reducible refine step_app _ (by with_unfolding_all rfl) (.tmp 22) (.tmp 30) _ (by with_unfolding_all rfl) Try.underlying35 int_info _ _ _ _ (by with_unfolding_all rfl) o1 _ _ _ _ (by with_unfolding_all rfl) r1 (by omega) ?_)
      intro C2 p2 q2 w2 hp1 hp2 hown2 hg2 hat2
      have r4 : IsL w2 (some ⟨wd.heap.size, 0, none⟩) 1 1 [id] := one_kept (w := ((wd.alloc (.cells #[.int .i64 id] 3)).alloc (.cells #[] 3)).drew) ((IsL.one wd id).alloc _) (fun d hd => by cases hd; simp [blk]) hg2
      obtain ⟨hM2, kL, hf2⟩ := app_facts ((((Mod.refl _ wd).alloc _).alloc _).drew) (blk_second wd) hLk hg2 hat2
      have o4 := hown2
      have hW2 := hM2
      refine hK.out _ _ trivial (fun hHeld => ?_)
      clear hK K
      try simp only [List.getElem_toArray, List.getElem_cons_succ, List.getElem_cons_zero, Act.put, List.setIfInBounds_toArray, List.set_cons_zero, List.set_cons_succ]
      refine wpAnyH_ready (rs := [15]) (by kernel_rfl) (by simp) ?_
      refine AllReadyH.cons rfl (fun K hK => ?_) AllReadyH.nil
      (with_reducible refine step_app _ (by with_unfolding_all rfl) (.tmp 31) (.tmp 33) _ (by with_unfolding_all rfl) Try.underlying35 int_info _ _ _ _ (by with_unfolding_all rfl) o4 _ _ _ _ (by with_unfolding_all rfl) r4 (by omega) ?_)
      intro C3 p3 q3 w3 hp3 hp4 hown3 hg3 hat3
      obtain ⟨hM3, kL3, hf3⟩ := app_facts hW2 hf2 hLk hg3 hat3
      have tc := (hM3.cell (p := ⟨r, k * 4 + 1, none⟩) hblt (fun h => h)).trans hc
      have tf := (hM3.frozen (p := ⟨r, k * 4 + 1, none⟩) hblt (fun h => h)).trans hfz
      have tb := Nat.lt_of_lt_of_le hblt hM3.size
      refine hK.out _ _ trivial (fun hHeld => ?_)
      clear hK K
      try simp only [List.getElem_toArray, List.getElem_cons_succ, List.getElem_cons_zero, Act.put, List.setIfInBounds_toArray, List.set_cons_zero, List.set_cons_succ]
      (refine wpAnyH_take (i := 19) (v := ?_) rfl (by kernel_rfl) (by kernel_rfl) (by kernel_rfl) (fun _ _ _ h => h) (Or.inl ⟨by kernel_rfl, ?_⟩) (by assumption) ?_; rotate_left; focus (intro wq hSw; (try dsimp only at hSw); go_simp; try with_reducible rfl); try simp only [List.getElem_toArray, List.getElem_cons_succ, List.getElem_cons_zero, Act.put, List.setIfInBounds_toArray, List.set_cons_zero, List.set_cons_succ])
      refine wpAnyH_ready (rs := [20]) (by kernel_rfl) (by simp) ?_
      refine AllReadyH.cons rfl (fun K hK => ?_) AllReadyH.nil
      go_simp
      refine hK.out _ _ trivial (fun hHeld => ?_)
      clear hK K
      try simp only [List.getElem_toArray, List.getElem_cons_succ, List.getElem_cons_zero, Act.put, List.setIfInBounds_toArray, List.set_cons_zero, List.set_cons_succ]
      refine wpAnyH_done (by kernel_rfl) ?_ _
      refine NoPanic.normal ?_
      go_wp2
      go_end0
      obtain ⟨S', a1, a2, a3⟩ := h1.set (k := k * 4 + 1) (by omega) hM3 hown3.isL hown3.ty (fun d hd => .inr (hf3 d hd))
      rw [show cputL L0 k true id = upd L (k * 4 + 1) (L (k * 4 + 1) ++ [id]) from by rw [HL.out]; rfl]
      exact RRet.comp hS1 m1 ⟨rfl, S', a1, a2, a3⟩
  · go_simp
    refine hK.out _ _ trivial (fun hHeld => ?_)
    clear hK K
    try simp only [List.getElem_toArray, List.getElem_cons_succ, List.getElem_cons_zero, Act.put, List.setIfInBounds_toArray, List.set_cons_zero, List.set_cons_succ]
    refine wpAnyH_ready (rs := [3, 11]) (by kernel_rfl) (by simp) ?_
    refine AllReadyH.cons rfl (fun K hK => ?_) (AllReadyH.cons rfl (fun K hK => ?_) AllReadyH.nil)
    · go_simp
      refine hK.out _ _ trivial (fun hHeld => ?_)
      clear hK K
      try simp only [List.getElem_toArray, List.getElem_cons_succ, List.getElem_cons_zero, Act.put, List.setIfInBounds_toArray, List.set_cons_zero, List.set_cons_succ]
      refine wpAnyH_ready (rs := [11]) (by kernel_rfl) (by simp) ?_
      refine AllReadyH.cons rfl (fun K hK => ?_) AllReadyH.nil
      go_simp
      refine hK.out _ _ trivial (fun hHeld => ?_)
      clear hK K
      try simp only [List.getElem_toArray, List.getElem_cons_succ, List.getElem_cons_zero, Act.put, List.setIfInBounds_toArray, List.set_cons_zero, List.set_cons_succ]
      refine wpAnyH_ready (rs := [12]) (by kernel_rfl) (by simp) ?_
      refine AllReadyH.cons rfl (fun K hK => ?_) AllReadyH.nil
      have o1 : OwnL ((wd.alloc (.cells #[.int .i64 id] 3)).alloc (.cells #[] 3)).drew (some ⟨wd.heap.size + 1, 0, none⟩) 0 0 [] := own_second wd _
      have r1 : IsL ((wd.alloc (.cells #[.int .i64 id] 3)).alloc (.cells #[] 3)).drew A n c (L (k * 4 + 1)) := (hLk.alloc _).alloc _
      (with_reducible refine step_app _ (by with_unfolding_all rfl) (.tmp 22) (.tmp 30) _ (by with_unfolding_all rfl) Try.underlying35 int_info _ _ _ _ (by with_unfolding_all rfl) o1 _ _ _ _ (by with_unfolding_all rfl) r1 (by omega) ?_)
      intro C2 p2 q2 w2 hp1 hp2 hown2 hg2 hat2
      have r4 : IsL w2 (some ⟨wd.heap.size, 0, none⟩) 1 1 [id] := one_kept (w := ((wd.alloc (.cells #[.int .i64 id] 3)).alloc (.cells #[] 3)).drew) ((IsL.one wd id).alloc _) (fun d hd => by cases hd; simp [blk]) hg2
      obtain ⟨hM2, kL, hf2⟩ := app_facts ((((Mod.refl _ wd).alloc _).alloc _).drew) (blk_second wd) hLk hg2 hat2
      have o4 := hown2
      have hW2 := hM2
      refine hK.out _ _ trivial (fun hHeld => ?_)
      clear hK K
      try simp only [List.getElem_toArray, List.getElem_cons_succ, List.getElem_cons_zero, Act.put, List.setIfInBounds_toArray, List.set_cons_zero, List.set_cons_succ]
      refine wpAnyH_ready (rs := [15]) (by kernel_rfl) (by simp) ?_
      refine AllReadyH.cons rfl (fun K hK => ?_) AllReadyH.nil
      (with_reducible refine step_app _ (by with_unfolding_all rfl) (.tmp 31) (.tmp 33) _ (by with_unfolding_all rfl) Try.underlying35 int_info _ _ _ _ (by with_unfolding_all rfl) o4 _ _ _ _ (by with_unfolding_all rfl) r4 (by omega) ?_)
      intro C3 p3 q3 w3 hp3 hp4 hown3 hg3 hat3
      obtain ⟨hM3, kL3, hf3⟩ := app_facts hW2 hf2 hLk hg3 hat3
      have tc := (hM3.cell (p := ⟨r, k * 4 + 1, none⟩) hblt (fun h => h)).trans hc
      have tf := (hM3.frozen (p := ⟨r, k * 4 + 1, none⟩) hblt (fun h => h)).trans hfz
      have tb := Nat.lt_of_lt_of_le hblt hM3.size
      refine hK.out _ _ trivial (fun hHeld => ?_)
      clear hK K
      try simp only [List.getElem_toArray, List.getElem_cons_succ, List.getElem_cons_zero, Act.put, List.setIfInBounds_toArray, List.set_cons_zero, List.set_cons_succ]
      (refine wpAnyH_take (i := 19) (v := ?_) rfl (by kernel_rfl) (by kernel_rfl) (by kernel_rfl) (fun _ _ _ h => h) (Or.inl ⟨by kernel_rfl, ?_⟩) (by assumption) ?_; rotate_left; focus (intro wq hSw; (try dsimp only at hSw); go_simp; try with_reducible rfl); try simp only [List.getElem_toArray, List.getElem_cons_succ, List.getElem_cons_zero, Act.put, List.setIfInBounds_toArray, List.set_cons_zero, List.set_cons_succ])
      refine wpAnyH_ready (rs := [20]) (by kernel_rfl) (by simp) ?_
      refine AllReadyH.cons rfl (fun K hK => ?_) AllReadyH.nil
      go_simp
      refine hK.out _ _ trivial (fun hHeld => ?_)
      clear hK K
      try simp only [List.getElem_toArray, List.getElem_cons_succ, List.getElem_cons_zero, Act.put, List.setIfInBounds_toArray, List.set_cons_zero, List.set_cons_succ]
      refine wpAnyH_done (by kernel_rfl) ?_ _
      refine NoPanic.normal ?_
      go_wp2
      go_end0
      obtain ⟨S', a1, a2, a3⟩ := h1.set (k := k * 4 + 1) (by omega) hM3 hown3.isL hown3.ty (fun d hd => .inr (hf3 d hd))
      rw [show cputL L0 k true id = upd L (k * 4 + 1) (L (k * 4 + 1) ++ [id]) from by rw [HL.out]; rfl]
      exact RRet.comp hS1 m1 ⟨rfl, S', a1, a2, a3⟩
    · go_simp
      refine hK.out _ _ trivial (fun hHeld => ?_)
      clear hK K
      try simp only [List.getElem_toArray, List.getElem_cons_succ, List.getElem_cons_zero, Act.put, List.setIfInBounds_toArray, List.set_cons_zero, List.set_cons_succ]
      refine wpAnyH_ready (rs := [3]) (by kernel_rfl) (by simp) ?_
      refine AllReadyH.cons rfl (fun K hK => ?_) AllReadyH.nil
      go_simp
      refine hK.out _ _ trivial (fun hHeld => ?_)
      clear hK K
      try simp only [List.getElem_toArray, List.getElem_cons_succ, List.getElem_cons_zero, Act.put, List.setIfInBounds_toArray, List.set_cons_zero, List.set_cons_succ]
      refine wpAnyH_ready (rs := [12]) (by kernel_rfl) (by simp) ?_
      refine AllReadyH.cons rfl (fun K hK => ?_) AllReadyH.nil
      have o1 : OwnL ((wd.alloc (.cells #[.int .i64 id] 3)).alloc (.cells #[] 3)).drew (some ⟨wd.heap.size + 1, 0, none⟩) 0 0 [] := own_second wd _
      have r1 : IsL ((wd.alloc (.cells #[.int .i64 id] 3)).alloc (.cells #[] 3)).drew A n c (L (k * 4 + 1)) := (hLk.alloc _).alloc _
      (with_reducible refine step_app _ (by with_unfolding_all rfl) (.tmp 22) (.tmp 30) _ (by with_unfolding_all rfl) Try.underlying35 int_info _ _ _ _ (by with_unfolding_all rfl) o1 _ _ _ _ (by with_unfolding_all rfl) r1 (by omega) ?_)
      intro C2 p2 q2 w2 hp1 hp2 hown2 hg2 hat2
      have r4 : IsL w2 (some ⟨wd.heap.size, 0, none⟩) 1 1 [id] := one_kept (w := ((wd.alloc (.cells #[.int .i64 id] 3)).alloc (.cells #[] 3)).drew) ((IsL.one wd id).alloc _) (fun d hd => by cases hd; simp [blk]) hg2
      obtain ⟨hM2, kL, hf2⟩ := app_facts ((((Mod.refl _ wd).alloc _).alloc _).drew) (blk_second wd) hLk hg2 hat2
      have o4 := hown2
      have hW2 := hM2
      refine hK.out _ _ trivial (fun hHeld => ?_)
      clear hK K
      try simp only [List.getElem_toArray, List.getElem_cons_succ, List.getElem_cons_zero, Act.put, List.setIfInBounds_toArray, List.set_cons_zero, List.set_cons_succ]
      refine wpAnyH_ready (rs := [15]) (by kernel_rfl) (by simp) ?_
      refine AllReadyH.cons rfl (fun K hK => ?_) AllReadyH.nil
      (with_reducible refine step_app _ (by with_unfolding_all rfl) (.tmp 31) (.tmp 33) _ (by with_unfolding_all rfl) Try.underlying35 int_info _ _ _ _ (by with_unfolding_all rfl) o4 _ _ _ _ (by with_unfolding_all rfl) r4 (by omega) ?_)
      intro C3 p3 q3 w3 hp3 hp4 hown3 hg3 hat3
      obtain ⟨hM3, kL3, hf3⟩ := app_facts hW2 hf2 hLk hg3 hat3
      have tc := (hM3.cell (p := ⟨r, k * 4 + 1, none⟩) hblt (fun h => h)).trans hc
      have tf := (hM3.frozen (p := ⟨r, k * 4 + 1, none⟩) hblt (fun h => h)).trans hfz
      have tb := Nat.lt_of_lt_of_le hblt hM3.size
      refine hK.out _ _ trivial (fun hHeld => ?_)
      clear hK K
      try simp only [List.getElem_toArray, List.getElem_cons_succ, List.getElem_cons_zero, Act.put, List.setIfInBounds_toArray, List.set_cons_zero, List.set_cons_succ]
      (refine wpAnyH_take (i := 19) (v := ?_) rfl (by kernel_rfl) (by kernel_rfl) (by kernel_rfl) (fun _ _ _ h => h) (Or.inl ⟨by kernel_rfl, ?_⟩) (by assumption) ?_; rotate_left; focus (intro wq hSw; (try dsimp only at hSw); go_simp; try with_reducible rfl); try simp only [List.getElem_toArray, List.getElem_cons_succ, List.getElem_cons_zero, Act.put, List.setIfInBounds_toArray, List.set_cons_zero, List.set_cons_succ])
      refine wpAnyH_ready (rs := [20]) (by kernel_rfl) (by simp) ?_
      refine AllReadyH.cons rfl (fun K hK => ?_) AllReadyH.nil
      go_simp
      refine hK.out _ _ trivial (fun hHeld => ?_)
      clear hK K
      try simp only [List.getElem_toArray, List.getElem_cons_succ, List.getElem_cons_zero, Act.put, List.setIfInBounds_toArray, List.set_cons_zero, List.set_cons_succ]
      refine wpAnyH_done (by kernel_rfl) ?_ _
      refine NoPanic.normal ?_
      go_wp2
      go_end0
      obtain ⟨S', a1, a2, a3⟩ := h1.set (k := k * 4 + 1) (by omega) hM3 hown3.isL hown3.ty (fun d hd => .inr (hf3 d hd))
      rw [show cputL L0 k true id = upd L (k * 4 + 1) (L (k * 4 + 1) ++ [id]) from by rw [HL.out]; rfl]
      exact RRet.comp hS1 m1 ⟨rfl, S', a1, a2, a3⟩

end

end Go.Proofs.Ytjjbcfbljnekgaa
