/-
  The reference's Put: a rising list with a number, once.
-/
import Derived.Test.YtjjbcfbljnekgaaOut
import Derived.Deep.RegionLaw
namespace Go.Proofs.Ytjjbcfbljnekgaa
open Go.RowKit

def rins : List Int → Int → List Int
  | [], x => [x]
  | y :: l, x => if y < x then y :: rins l x else if y = x then y :: l else x :: y :: l

theorem rins_at (l : List Int) (x : Int) (i : Nat) (hi : i ≤ l.length) (h : ∀ j, j < i → l.getD j 0 < x) : rins l x = l.take i ++ rins (l.drop i) x := by
  induction i generalizing l with
  | zero => simp
  | succ i ih =>
    cases l with
    | nil => simp at hi
    | cons y l =>
      have h0 := h 0 (by omega)
      simp at h0
      rw [rins, if_pos h0, List.take_succ_cons, List.drop_succ_cons, List.cons_append, ← ih l (by simpa using hi) (fun j hj => by simpa using h (j + 1) (by omega))]
theorem rins_same (l : List Int) (x : Int) (i : Nat) (hi : i < l.length) (h : ∀ j, j < i → l.getD j 0 < x) (e : l.getD i 0 = x) : rins l x = l := by
  rw [rins_at l x i (by omega) h]
  obtain ⟨y, e1, _, e3⟩ := drop_cons l (k := i) hi
  rw [e1, rins, if_neg (by omega), if_pos (by omega), ← e1, List.take_append_drop]
theorem rins_new (l : List Int) (x : Int) (i : Nat) (hi : i ≤ l.length) (h : ∀ j, j < i → l.getD j 0 < x) (e : i < l.length → x < l.getD i 0) : rins l x = l.take i ++ [x] ++ l.drop i := by
  rw [rins_at l x i hi h, List.append_assoc]
  congr 1
  by_cases hl : i < l.length
  · obtain ⟨y, e1, _, e3⟩ := drop_cons l (k := i) hl
    have := e hl
    rw [e1, rins, if_neg (by omega), if_neg (by omega)]
    rfl
  · rw [List.drop_of_length_le (by omega)]
    rfl
theorem rins_len (l : List Int) (x : Int) : (rins l x).length ≤ l.length + 1 := by
  induction l with
  | nil => simp [rins]
  | cons y l ih => rw [rins]; split; simp; exact ih; split <;> simp
theorem rins_mem (l : List Int) (x z : Int) : z ∈ rins l x ↔ z = x ∨ z ∈ l := by
  induction l with
  | nil => simp [rins]
  | cons y l ih =>
    rw [rins]
    split
    · rw [List.mem_cons, ih, List.mem_cons]; constructor <;> (rintro (h | h | h) <;> simp [h])
    · split
      · rename_i h; subst h; simp
      · simp
theorem rins_rise (l : List Int) (x : Int) (h : l.Pairwise (· < ·)) : (rins l x).Pairwise (· < ·) := by
  induction l with
  | nil => simp [rins]
  | cons y l ih =>
    rw [List.pairwise_cons] at h
    rw [rins]
    split
    · rw [List.pairwise_cons]
      refine ⟨fun z hz => ?_, ih h.2⟩
      rcases (rins_mem l x z).1 hz with rfl | hz
      · assumption
      · exact h.1 z hz
    · split
      · rw [List.pairwise_cons]; exact h
      · rw [List.pairwise_cons, List.pairwise_cons]
        refine ⟨fun z hz => ?_, h⟩
        rcases List.mem_cons.1 hz with rfl | hz
        · omega
        · have := h.1 z hz; omega

/-- A literal of one number, laid ahead of an append onto an empty literal, reads as it did behind it. -/
theorem one_kept {w w2 : World} {A : Option Addr} {B : Option Addr} {l : List Int} {n c : Nat} (h : IsL w A n c l) (hne : ∀ d, A = some d → blk B ≠ some d.block) (hg : w.grownBy w2 (blk B)) : IsL w2 A n c l :=
  h.keep ((Mod.refl (fun i => blk B = some i) w).grown hg (fun _ hk => .inl hk)) (fun d hd e => hne d hd e)
theorem own_second (w : World) (o : Obj) : OwnL ((w.alloc o).alloc (.cells #[] 3)) (some ⟨w.heap.size + 1, 0, none⟩) 0 0 [] := by
  have h := OwnL.empty (w.alloc o)
  simpa using h
theorem one_second (w : World) (o : Obj) (g : Int) : IsL ((w.alloc o).alloc (.cells #[.int .i64 g] 3)) (some ⟨w.heap.size + 1, 0, none⟩) 1 1 [g] := by
  have h := IsL.one (w.alloc o) g
  simpa using h
theorem blk_second (w : World) : ∀ d, blk (some ⟨w.heap.size + 1, 0, none⟩) = some d → w.heap.size ≤ d := fun d hd => by simp [blk] at hd; omega
theorem app_facts {W w w2 : World} {A B B2 : Option Addr} {n c : Nat} {l : List Int} (hW : Mod (fun _ => False) W w) (hf : ∀ d, blk B = some d → W.heap.size ≤ d) (h : IsL W A n c l) (hg : w.grownBy w2 (blk B)) (hat : blk B2 = blk B ∨ blk B2 = some w.heap.size) :
    Mod (fun _ => False) W w2 ∧ IsL w2 A n c l ∧ (∀ d, blk B2 = some d → W.heap.size ≤ d) := by
  have hM : Mod (fun _ => False) W w2 := hW.grown hg (fun k hk => .inr (hf k hk))
  refine ⟨hM, h.keep0 hM, fun d hd => ?_⟩
  rcases hat with e | e
  · exact hf d (by rw [← e]; exact hd)
  · rw [e] at hd; have := hW.size; cases hd; omega

set_option maxHeartbeats 1000000 in
set_option maxRecDepth 100000 in
theorem rins_any (A : Option Addr) (n c : Nat) (l : List Int) (x : Int) (w : World) (h : IsL w A n c l) (ht : TyL w A) (hn : n ≤ 900000) :
    Calls Try.prog 22 #[.slice A n c, .int .i64 x] w fun e w' => ∃ A' n' c', e = .returned (.slice A' n' c') ∧ IsL w' A' n' c' (rins l x) ∧ TyL w' A' ∧ Mod (fun _ => False) w w' := by
  have hnc := h.le
  go_enter Try.func22, Try.ntmps22
  go_wp2
  go_loopw [5] (fun i wr => ∃ k : Nat, k ≤ n ∧ i = .int .i64 k ∧ (∀ j, j < k → l.getD j 0 < x) ∧ IsL wr A n c l ∧ TyL wr A ∧ Mod (fun _ => False) w wr) (fun i _ => n - (intOf i).toNat)
  case atStart => exact ⟨0, by omega, rfl, (fun j hj => by omega), h, ht, Mod.refl _ _⟩
  case round =>
    clear h ht
    obtain ⟨k, hk, rfl, hlt, h, ht, hm⟩ := hrel
    by_cases hk2 : k < n
    · obtain ⟨g, o, rfl, hc1⟩ := h.at_ hk2
      obtain ⟨y, ey⟩ : ∃ y, y = l.getD k 0 := ⟨_, rfl⟩
      rw [← ey] at hc1
      by_cases hyx : y < x
      · have hlt2 : ∀ j, j < k + 1 → l.getD j 0 < x := by
          intro j hj
          by_cases e : j = k
          · rw [e, ← ey]; exact hyx
          · exact hlt j (by omega)
        have HL := Lib.hid hlt2
        clear ey hlt hlt2
        go_wp2
        go_roundw
        case rel => exact ⟨k + 1, by omega, by go_num, HL.out, h, ht, hm⟩
        case measure => simp [intOf]; omega
      · have hyx0 : decide (y < x) = false := by simpa using hyx
        by_cases hxy : y = x
        · have hb : (y == x) = true := by simpa using hxy
          have hs := rins_same l x k (by rw [h.len]; exact hk2) hlt (by rw [← ey]; exact hxy)
          have HS := Lib.hid hs
          clear hs ey hxy hlt hyx
          go_wp2
          go_ret
          exact ⟨_, n, c, rfl, by rw [HS.out]; exact h, ht, hm⟩
        · have hb : (y == x) = false := by simpa using hxy
          have hs := rins_new l x k (by rw [h.len]; omega) hlt (fun _ => by omega)
          have HS := Lib.hid hs
          clear hs ey hxy hlt hyx
          obtain ⟨A4, n4, c4, hcut, hL4, hblk4⟩ := cut_low (P := Try.prog) 35 Try.underlying35 int_info (some ⟨g, o, none⟩) n c k (by omega)
          have hcut' : ∀ (W : World), (Instr.sliceAt 35 (.slice (some ⟨g, o, none⟩) n c) (some (.int .i64 (k : Int))) none none).run Try.prog W = .ok (.slice A4 n4 c4) W := hcut
          have hn4 : n4 + k ≤ n := by have h4 := (hL4 wr _ h).len; rw [List.length_drop, h.len] at h4; omega
          have hkc : k ≤ c := by omega
          have h2t := h.take (k := k) hk
          clear hcut
          go_wp2
          have hi2 : (0 : Int) ≤ (k : Int) := by omega
          have hi3 : (k : Int) ≤ (c : Int) := by omega
          have o1 : OwnL (wr.alloc (.cells #[] 3)).drew (some ⟨wr.heap.size, 0, none⟩) 0 0 [] := OwnL.empty wr
          have r1 : IsL (wr.alloc (.cells #[] 3)).drew (some ⟨g, o, none⟩) k c (l.take k) := h2t.alloc _
          have o2 : OwnL ((wr.alloc (.cells #[] 3)).alloc (.cells #[.int .i64 x] 3)).drew (some ⟨wr.heap.size, 0, none⟩) 0 0 [] := (OwnL.empty wr).alloc _
          have r2 : IsL ((wr.alloc (.cells #[] 3)).alloc (.cells #[.int .i64 x] 3)).drew (some ⟨g, o, none⟩) k c (l.take k) := (h2t.alloc _).alloc _
          have o3 : OwnL ((wr.alloc (.cells #[.int .i64 x] 3)).alloc (.cells #[] 3)).drew (some ⟨wr.heap.size + 1, 0, none⟩) 0 0 [] := own_second wr _
          have r3 : IsL ((wr.alloc (.cells #[.int .i64 x] 3)).alloc (.cells #[] 3)).drew (some ⟨g, o, none⟩) k c (l.take k) := (h2t.alloc _).alloc _
          go_region_law (first
            | ((with_reducible refine step_app _ (by with_unfolding_all rfl) (.tmp 33) (.tmp 36) _ (by with_unfolding_all rfl) Try.underlying35 int_info _ _ _ _ (by with_unfolding_all rfl) o1 _ _ _ _ (by with_unfolding_all rfl) r1 (by omega) ?_)
               intro C2 p2 q2 w2 hp1 hp2 hown2 hg2 hat2
               obtain ⟨hM2, kL, hf2⟩ := app_facts (((Mod.refl _ wr).alloc _).drew) (blk_size wr) h hg2 hat2
               have o4 : OwnL (w2.alloc (.cells #[.int .i64 x] 3)) C2 p2 q2 ([] ++ l.take k) := hown2.alloc _
               have r4 : IsL (w2.alloc (.cells #[.int .i64 x] 3)) (some ⟨w2.heap.size, 0, none⟩) 1 1 [x] := IsL.one w2 x
               have hW2 : Mod (fun _ => False) wr (w2.alloc (.cells #[.int .i64 x] 3)) := hM2.alloc _)
            | ((with_reducible refine step_app _ (by with_unfolding_all rfl) (.tmp 33) (.tmp 36) _ (by with_unfolding_all rfl) Try.underlying35 int_info _ _ _ _ (by with_unfolding_all rfl) o2 _ _ _ _ (by with_unfolding_all rfl) r2 (by omega) ?_)
               intro C2 p2 q2 w2 hp1 hp2 hown2 hg2 hat2
               have r4 : IsL w2 (some ⟨wr.heap.size + 1, 0, none⟩) 1 1 [x] := one_kept (w := ((wr.alloc (.cells #[] 3)).alloc (.cells #[.int .i64 x] 3)).drew) (one_second wr _ x) (fun d hd => by cases hd; simp [blk]) hg2
               obtain ⟨hM2, kL, hf2⟩ := app_facts ((((Mod.refl _ wr).alloc _).alloc _).drew) (blk_size wr) h hg2 hat2
               have o4 := hown2
               have hW2 := hM2)
            | ((with_reducible refine step_app _ (by with_unfolding_all rfl) (.tmp 33) (.tmp 36) _ (by with_unfolding_all rfl) Try.underlying35 int_info _ _ _ _ (by with_unfolding_all rfl) o3 _ _ _ _ (by with_unfolding_all rfl) r3 (by omega) ?_)
               intro C2 p2 q2 w2 hp1 hp2 hown2 hg2 hat2
               have r4 : IsL w2 (some ⟨wr.heap.size, 0, none⟩) 1 1 [x] := one_kept (w := ((wr.alloc (.cells #[.int .i64 x] 3)).alloc (.cells #[] 3)).drew) ((IsL.one wr x).alloc _) (fun d hd => by cases hd; simp [blk]) hg2
               obtain ⟨hM2, kL, hf2⟩ := app_facts ((((Mod.refl _ wr).alloc _).alloc _).drew) (blk_second wr) h hg2 hat2
               have o4 := hown2
               have hW2 := hM2)
            | ((with_reducible refine step_app _ (by with_unfolding_all rfl) (.tmp 37) (.tmp 39) _ (by with_unfolding_all rfl) Try.underlying35 int_info _ _ _ _ (by with_unfolding_all rfl) o4 _ _ _ _ (by with_unfolding_all rfl) r4 (by omega) ?_)
               intro C3 p3 q3 w3 hp3 hp4 hown3 hg3 hat3
               obtain ⟨hM3, kL3, hf3⟩ := app_facts hW2 hf2 h hg3 hat3
               have r5 := hL4 w3 _ kL3)
            | ((with_reducible refine step_app _ (by with_unfolding_all rfl) (.tmp 40) (.tmp 43) _ (by with_unfolding_all rfl) Try.underlying35 int_info _ _ _ _ (by with_unfolding_all rfl) hown3 _ _ _ _ (by with_unfolding_all rfl) r5 (by omega) ?_)
               intro C4 p4 q4 w4 hp5 hp6 hown4 hg4 hat4
               obtain ⟨hM4, kL4, hf4⟩ := app_facts hM3 hf3 h hg4 hat4))
          all_goals (
            go_wp2
            go_ret
            refine ⟨C4, p4, q4, rfl, ?_, hown4.ty, hm.trans hM4⟩
            rw [HS.out]
            simpa using hown4.isL)
    · have hkn : k = n := by omega
      subst hkn
      have hs := rins_new l x k (by rw [h.len]; omega) hlt (fun hh => by have := h.len; omega)
      have HS := Lib.hid hs
      obtain ⟨A4, n4, c4, hcut, hL4, hblk4⟩ := cut_low (P := Try.prog) 35 Try.underlying35 int_info A k c k (by omega)
      have hcut' : ∀ (W : World), (Instr.sliceAt 35 (.slice A k c) (some (.int .i64 (k : Int))) none none).run Try.prog W = .ok (.slice A4 n4 c4) W := hcut
      have hn4 : n4 + k ≤ k := by have h4 := (hL4 wr _ h).len; rw [List.length_drop, h.len] at h4; omega
      have hkc : k ≤ c := by omega
      clear hcut hs hlt
      have h2t := h.take (k := k) (by omega)
      go_wp2
      have hi2 : (0 : Int) ≤ (k : Int) := by omega
      have hi3 : (k : Int) ≤ (c : Int) := by omega
      have o1 : OwnL (wr.alloc (.cells #[] 3)).drew (some ⟨wr.heap.size, 0, none⟩) 0 0 [] := OwnL.empty wr
      have r1 : IsL (wr.alloc (.cells #[] 3)).drew A k c (l.take k) := h2t.alloc _
      have o2 : OwnL ((wr.alloc (.cells #[] 3)).alloc (.cells #[.int .i64 x] 3)).drew (some ⟨wr.heap.size, 0, none⟩) 0 0 [] := (OwnL.empty wr).alloc _
      have r2 : IsL ((wr.alloc (.cells #[] 3)).alloc (.cells #[.int .i64 x] 3)).drew A k c (l.take k) := (h2t.alloc _).alloc _
      have o3 : OwnL ((wr.alloc (.cells #[.int .i64 x] 3)).alloc (.cells #[] 3)).drew (some ⟨wr.heap.size + 1, 0, none⟩) 0 0 [] := own_second wr _
      have r3 : IsL ((wr.alloc (.cells #[.int .i64 x] 3)).alloc (.cells #[] 3)).drew A k c (l.take k) := (h2t.alloc _).alloc _
      go_region_law (first
        | ((with_reducible refine step_app _ (by with_unfolding_all rfl) (.tmp 33) (.tmp 36) _ (by with_unfolding_all rfl) Try.underlying35 int_info _ _ _ _ (by with_unfolding_all rfl) o1 _ _ _ _ (by with_unfolding_all rfl) r1 (by omega) ?_)
           intro C2 p2 q2 w2 hp1 hp2 hown2 hg2 hat2
           obtain ⟨hM2, kL, hf2⟩ := app_facts (((Mod.refl _ wr).alloc _).drew) (blk_size wr) h hg2 hat2
           have o4 : OwnL (w2.alloc (.cells #[.int .i64 x] 3)) C2 p2 q2 ([] ++ l.take k) := hown2.alloc _
           have r4 : IsL (w2.alloc (.cells #[.int .i64 x] 3)) (some ⟨w2.heap.size, 0, none⟩) 1 1 [x] := IsL.one w2 x
           have hW2 : Mod (fun _ => False) wr (w2.alloc (.cells #[.int .i64 x] 3)) := hM2.alloc _)
        | ((with_reducible refine step_app _ (by with_unfolding_all rfl) (.tmp 33) (.tmp 36) _ (by with_unfolding_all rfl) Try.underlying35 int_info _ _ _ _ (by with_unfolding_all rfl) o2 _ _ _ _ (by with_unfolding_all rfl) r2 (by omega) ?_)
           intro C2 p2 q2 w2 hp1 hp2 hown2 hg2 hat2
           have r4 : IsL w2 (some ⟨wr.heap.size + 1, 0, none⟩) 1 1 [x] := one_kept (w := ((wr.alloc (.cells #[] 3)).alloc (.cells #[.int .i64 x] 3)).drew) (one_second wr _ x) (fun d hd => by cases hd; simp [blk]) hg2
           obtain ⟨hM2, kL, hf2⟩ := app_facts ((((Mod.refl _ wr).alloc _).alloc _).drew) (blk_size wr) h hg2 hat2
           have o4 := hown2
           have hW2 := hM2)
        | ((with_reducible refine step_app _ (by with_unfolding_all rfl) (.tmp 33) (.tmp 36) _ (by with_unfolding_all rfl) Try.underlying35 int_info _ _ _ _ (by with_unfolding_all rfl) o3 _ _ _ _ (by with_unfolding_all rfl) r3 (by omega) ?_)
           intro C2 p2 q2 w2 hp1 hp2 hown2 hg2 hat2
           have r4 : IsL w2 (some ⟨wr.heap.size, 0, none⟩) 1 1 [x] := one_kept (w := ((wr.alloc (.cells #[.int .i64 x] 3)).alloc (.cells #[] 3)).drew) ((IsL.one wr x).alloc _) (fun d hd => by cases hd; simp [blk]) hg2
           obtain ⟨hM2, kL, hf2⟩ := app_facts ((((Mod.refl _ wr).alloc _).alloc _).drew) (blk_second wr) h hg2 hat2
           have o4 := hown2
           have hW2 := hM2)
        | ((with_reducible refine step_app _ (by with_unfolding_all rfl) (.tmp 37) (.tmp 39) _ (by with_unfolding_all rfl) Try.underlying35 int_info _ _ _ _ (by with_unfolding_all rfl) o4 _ _ _ _ (by with_unfolding_all rfl) r4 (by omega) ?_)
           intro C3 p3 q3 w3 hp3 hp4 hown3 hg3 hat3
           obtain ⟨hM3, kL3, hf3⟩ := app_facts hW2 hf2 h hg3 hat3
           have r5 := hL4 w3 _ kL3)
        | ((with_reducible refine step_app _ (by with_unfolding_all rfl) (.tmp 40) (.tmp 43) _ (by with_unfolding_all rfl) Try.underlying35 int_info _ _ _ _ (by with_unfolding_all rfl) hown3 _ _ _ _ (by with_unfolding_all rfl) r5 (by omega) ?_)
           intro C4 p4 q4 w4 hp5 hp6 hown4 hg4 hat4
           obtain ⟨hM4, kL4, hf4⟩ := app_facts hM3 hf3 h hg4 hat4))
      all_goals (
        go_wp2
        go_ret
        refine ⟨C4, p4, q4, rfl, ?_, hown4.ty, hm.trans hM4⟩
        rw [HS.out]
        simpa using hown4.isL)

end Go.Proofs.Ytjjbcfbljnekgaa
