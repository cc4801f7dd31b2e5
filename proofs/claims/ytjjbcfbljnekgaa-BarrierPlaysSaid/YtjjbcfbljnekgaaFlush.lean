/-
  The contract of Flush.
-/
import Derived.Test.YtjjbcfbljnekgaaBarrier
namespace Go.Proofs.Ytjjbcfbljnekgaa
open Go.RowKit

theorem IsP.keep2 {S : Nat → Prop} {w w' : World} {A : Option Addr} {n : Nat} {l : List (Int × Int)} (h : IsP w A n l) (m : Mod S w w') (hs : ∀ d, A = some d → d.block < w.heap.size → ¬ S d.block) : IsP w' A n l := by
  refine ⟨h.1, fun hn => ?_⟩
  obtain ⟨g, o, e, hg, hc⟩ := h.2 hn
  refine ⟨g, o, e, Nat.lt_of_lt_of_le hg m.size, fun j hj => ?_⟩
  have h1 := hc j hj
  exact ⟨(m.cell (p := ⟨g, o + 2 * j, none⟩) hg (hs ⟨g, o, none⟩ e hg)).trans h1.1, (m.cell (p := ⟨g, o + (2 * j + 1), none⟩) hg (hs ⟨g, o, none⟩ e hg)).trans h1.2⟩

theorem Barrier.clear {w : World} {b : Nat} {ps : List (Int × Int)} (h : Barrier w b ps) : Barrier (w.setCell ⟨b, 32, none⟩ (.int .i64 0)) b [] := by
  obtain ⟨f, hr, h1, h2⟩ := h
  refine ⟨f, (hr.set 32 _).congr (fun i hi => ?_), by simp, fun i hi => by simp at hi⟩
  unfold bcell
  by_cases e : i = 32
  · subst e; simp
  · rw [if_neg e, if_pos (by omega), if_pos (by omega)]
theorem Barrier.ne_own {w : World} {b : Nat} {ps : List (Int × Int)} (h : Barrier w b ps) {A : Option Addr} {n c : Nat} {l : List Int} (ho : OwnL w A n c l) : blk A ≠ some b := by
  obtain ⟨f, hr, _⟩ := h
  exact ho.ne_row hr (by decide)

theorem flush_nil (w : World) : Calls Try.prog 19 #[.pointer none] w fun e w' => e = .returned (.slice none 0 0) ∧ w' = w := by
  go_enter Try.func19, Try.ntmps19
  go_wp2_with (go_at_call 16; refine (ball_nil _).mono ?_; rintro e w1 ⟨rfl, rfl⟩)
  refine wp_loop_rounds 1 ?_
  rw [rounds_succ]
  go_wp2
  go_ret
  exact ⟨rfl, rfl⟩

set_option maxHeartbeats 2000000 in
set_option maxRecDepth 100000 in
theorem flush_any (b : Nat) (ps : List (Int × Int)) (w : World) (h : Barrier w b ps) :
    Calls Try.prog 19 #[.pointer (some ⟨b, 0, none⟩)] w fun e w' => ∃ A n c, e = .returned (.slice A n c) ∧ IsL w' A n c (flushed ps) ∧ (∀ d, A = some d → w.heap.size ≤ d.block) ∧ Barrier w' b [] ∧ Mod (fun k => k = b) w w' := by
  have hl := h.len
  have hblt := h.lt
  obtain ⟨N, hN⟩ : ∃ N, N = ps.length := ⟨_, rfl⟩
  rw [← hN] at hl
  have HN := Lib.hid hN
  clear hN
  go_enter Try.func19, Try.ntmps19
  go_wp2_with fail
  refine (ball_any b ps _ h).mono ?_
  rintro e w1 ⟨A, c, rfl, hp, hA, m1⟩
  rw [← HN.out] at hp ⊢
  have h1 := h.keep m1 (fun h => h)
  have s1 := m1.size
  go_wp2
  go_loopw [3, 11] (fun v i wr => ∃ (k : Nat) (B : Option Addr) (n d : Nat), k ≤ N ∧ i = .int .i64 k ∧ v = .slice B n d ∧ OwnL wr B n d (told1 (nums (ps.take k))) ∧ (∀ j, blk B = some j → w1.heap.size ≤ j) ∧
      IsP wr A N ps ∧ Barrier wr b ps ∧ Mod (fun _ => False) w wr ∧ w1.heap.size ≤ wr.heap.size) (fun _ i _ => N - (intOf i).toNat)
  case atStart => exact ⟨0, none, 0, 0, by omega, rfl, rfl, OwnL.nil _, (fun j hj => by cases hj), hp, h1, m1, Nat.le_refl _⟩
  case round =>
    obtain ⟨k, B, n, d, hk, rfl, rfl, hown, hf, hpw, hbw, hm, hs⟩ := hrel
    have hn : n ≤ 40 := by
      rw [← hown.len]
      have h1 := told1_len (nums (ps.take k))
      rw [nums_len, List.length_take] at h1
      omega
    by_cases hkN : k < N
    · obtain ⟨g, o, rfl, hgl, hc⟩ := hpw.2 (by omega)
      have hgl1 : g < w1.heap.size := by obtain ⟨g', o', e', h', _⟩ := hp.2 (by omega); cases e'; exact h'
      have hck := hc k hkN
      obtain ⟨x, hx⟩ : ∃ x, x = (ps.getD k (0, 0)).1 := ⟨_, rfl⟩
      obtain ⟨y, hy⟩ : ∃ y, y = (ps.getD k (0, 0)).2 := ⟨_, rfl⟩
      have ent := nums_take ps (k := k) (by rw [← HN.out]; exact hkN)
      rw [← hx, ← hy] at hck ent
      obtain ⟨hcx0, hcy0⟩ := hck
      have hcx : wr.cell? ⟨g, o + k * 2, none⟩ = some (.int .i64 x) := by rw [Nat.mul_comm]; exact hcx0
      have hcy : wr.cell? ⟨g, o + k * 2 + 1, none⟩ = some (.int .i64 y) := by rw [Nat.mul_comm, Nat.add_assoc]; exact hcy0
      have ENT := Lib.hid ent
      have i0 : ∀ w, (Instr.index 85 (.agg #[.int .i64 x, .int .i64 y]) (.int .i64 0)).run Try.prog w = .ok (.int .i64 x) w := fun _ => by kernel_rfl
      have i1 : ∀ w, (Instr.index 85 (.agg #[.int .i64 x, .int .i64 y]) (.int .i64 1)).run Try.prog w = .ok (.int .i64 y) w := fun _ => by kernel_rfl
      clear hc hx hy ent hcx0 hcy0 hp h1 m1
      go_wp2
      go_loopw [3, 20] (fun v i wr2 => ∃ (q : Nat) (B2 : Option Addr) (n2 d2 : Nat), q ≤ 2 ∧ i = .int .i64 q ∧ v = .slice B2 n2 d2 ∧ OwnL wr2 B2 n2 d2 (told1 (nums (ps.take k) ++ [x, y].take q)) ∧ (∀ j, blk B2 = some j → w1.heap.size ≤ j) ∧
        IsP wr2 (some ⟨g, o, none⟩) N ps ∧ Barrier wr2 b ps ∧ Mod (fun _ => False) w wr2 ∧ w1.heap.size ≤ wr2.heap.size) (fun _ i _ => 2 - (intOf i).toNat)
      case atStart =>
        have mA : Mod (fun _ => False) wr (wr.alloc (.cells #[.int .i64 x, .int .i64 y] 31)) := (Mod.refl _ wr).alloc _
        refine ⟨0, B, n, d, by omega, rfl, rfl, ?_, hf, hpw.keep mA (fun _ _ h => h), hbw.keep mA (fun h => h), hm.trans mA, Nat.le_trans hs mA.size⟩
        rw [List.take_zero, List.append_nil]
        exact hown.keep0 mA
      case round =>
        obtain ⟨q, B2, n2, d2, hq, rfl, rfl, hown2, hf2, hpw2, hbw2, hm2, hs2⟩ := hrel
        have hn2 : n2 ≤ 40 := by
          rw [← hown2.len]
          have h1 := told1_len (nums (ps.take k) ++ [x, y].take q)
          rw [List.length_append, nums_len, List.length_take, List.length_take] at h1
          simp only [List.length_cons, List.length_nil] at h1
          omega
        by_cases hq2 : q < 2
        · obtain ⟨v, hv, hv2⟩ : ∃ v : Int, (∀ w, (Instr.index 85 (.agg #[.int .i64 x, .int .i64 y]) (.int .i64 (q : Int))).run Try.prog w = .ok (.int .i64 v) w) ∧ [x, y].take (q + 1) = [x, y].take q ++ [v] := by
            have h01 : q = 0 ∨ q = 1 := by omega
            rcases h01 with rfl | rfl
            · exact ⟨x, i0, rfl⟩
            · exact ⟨y, i1, rfl⟩
          have hsn : told1 (nums (ps.take k) ++ [x, y].take (q + 1)) = add1 (told1 (nums (ps.take k) ++ [x, y].take q)) v := by rw [hv2, ← List.append_assoc, told1_snoc]
          have SN := Lib.hid hsn
          clear hv2 hsn i0 i1 hown hbw hpw hm hs hf hcx hcy
          by_cases hv0 : v = 0
          · subst hv0
            go_wp2
            go_roundw
            case rel =>
              refine ⟨q + 1, B2, n2, d2, by omega, by simp, rfl, ?_, hf2, hpw2, hbw2, hm2, hs2⟩
              rw [SN.out]
              unfold add1
              rw [if_pos (.inl rfl)]
              exact hown2
            case measure => simp only [intOf, Int.toNat_natCast]; omega
          · have hb0 : (v == 0) = false := by simpa using hv0
            by_cases hmem : v ∈ told1 (nums (ps.take k) ++ [x, y].take q)
            · have hd : decide (v ∈ told1 (nums (ps.take k) ++ [x, y].take q)) = true := by simpa using hmem
              have HD := Lib.hid hd
              clear hd
              go_wp2_with fail
              refine (contains_any B2 n2 d2 _ v _ hown2.isL (by omega)).mono ?_
              rintro e w3 ⟨rfl, rfl⟩
              rw [HD.out]
              go_wp2
              go_roundw
              case rel =>
                refine ⟨q + 1, B2, n2, d2, by omega, by simp, rfl, ?_, hf2, hpw2, hbw2, hm2, hs2⟩
                rw [SN.out]
                unfold add1
                rw [if_pos (.inr hmem)]
                exact hown2
              case measure => simp only [intOf, Int.toNat_natCast]; omega
            · have hd : decide (v ∈ told1 (nums (ps.take k) ++ [x, y].take q)) = false := by simpa using hmem
              have HD := Lib.hid hd
              clear hd
              go_wp2_with fail
              refine (contains_any B2 n2 d2 _ v _ hown2.isL (by omega)).mono ?_
              rintro e w3 ⟨rfl, rfl⟩
              rw [HD.out]
              go_wp2_with (at_builtin; refine wpList_app _ (by rfl) (.tmp 31) (.tmp 33) _ (by rfl) Try.underlying35 int_info _ _ _ _ (by rfl) (hown2.alloc _) _ _ _ _ (by rfl) (IsL.one _ v) (by omega) ?_; intro B4 n4 d4 w4 hn4 hn4b hown4 hg4 hat4)
              go_roundw
              case rel =>
                have m4 := grown_mod hg4
                have sw1 := s1
                have m4F := hm2.new m4 (fun i hi => by have := hf2 i hi; omega)
                have f4 : ∀ j, blk B4 = some j → w1.heap.size ≤ j := fresh_app hf2 hs2 hat4
                refine ⟨q + 1, B4, n4, d4, by omega, by simp, rfl, ?_, f4, ?_, ?_, m4F, Nat.le_trans hs2 m4.size⟩
                · rw [SN.out]
                  unfold add1
                  rw [if_neg (by rintro (h | h); exact hv0 h; exact hmem h)]
                  exact hown4
                · refine hpw2.keep m4 (fun d hd hk => ?_)
                  cases hd
                  have h6 : w1.heap.size ≤ g := hf2 _ hk
                  omega
                · exact hbw2.keep m4 (fun hk => hbw2.ne_own hown2 hk)
              case measure => simp only [intOf, Int.toNat_natCast]; omega
        · have hq3 : q = 2 := by omega
          subst hq3
          go_wp2
          go_roundw
          case rel =>
            refine ⟨k + 1, B2, n2, d2, by omega, by simp, rfl, ?_, hf2, hpw2, hbw2, hm2, hs2⟩
            rw [ENT.out, List.append_assoc]
            exact hown2
          case measure => simp only [intOf, Int.toNat_natCast]; omega
    · have htk : ps.take k = ps := List.take_of_length_le (by rw [← HN.out]; omega)
      rw [htk] at hown
      have hc32 := hbw
      obtain ⟨f, hr, _, _⟩ := hc32
      have hcc := hr.cell (i := 32) (by omega)
      have hfc := hr.frozen 32
      have hcc' : wr.cell? ⟨b, 32, none⟩ = some (.int .i64 ps.length) := hcc
      clear htk hcc hr hp h1 m1
      go_wp2
      go_ret
      have mset : Mod (fun k => k = b) wr (wr.setCell ⟨b, 32, none⟩ (.int .i64 0)) := Mod.setCell (Mod.refl (fun k => k = b) wr) (p := ⟨b, 32, none⟩) (.inl rfl) _
      have hne := hbw.ne_own hown
      exact ⟨B, n, d, rfl, (hown.keep mset (fun k hk e => hne (by rw [← e]; exact hk))).isL, (fun j hj => by have := hf j.block (by rw [hj]; rfl); omega), hbw.clear, (hm.mono (fun _ _ h => h.elim)).trans mset⟩

end Go.Proofs.Ytjjbcfbljnekgaa
