/-
  The contracts of the reference's barrier.
-/
import Derived.Test.YtjjbcfbljnekgaaBTold
import Derived.Test.YtjjbcfbljnekgaaGen
import Derived.Test.YtjjbcfbljnekgaaOut
namespace Go.Proofs.Ytjjbcfbljnekgaa
open Go.RowKit

/-- Block x is a reference's barrier: a list of pairs behind a pointer. -/
def RB (w : World) (x : Nat) (ps : List (Int × Int)) : Prop := ∃ A n c, w.rowIs x 28 1 (fun _ => .slice A n c) ∧ RdG w 2 A n (pairsV ps) ∧ TyG w 31 A
theorem RB.keep {S : Nat → Prop} {w w' : World} {x : Nat} {ps : List (Int × Int)} (h : RB w x ps) (m : Mod S w w') (hx : ¬ S x) (hs : ∀ g, TyG w 31 (some ⟨g, 0, none⟩) → ¬ S g) : RB w' x ps := by
  obtain ⟨A, n, c, hr, hrd, hty⟩ := h
  have key : ∀ g, blk A = some g → ¬ S g := fun g hg => hs g (fun d hd => by cases hd; exact hty g hg)
  exact ⟨A, n, c, m.rowIs hr hx, hrd.keep m (fun g hg _ => key g hg), hty.keep m key⟩
/-- A row of another type is no array of pairs. -/
theorem RB.other {w : World} {b : Nat} {t : TypeId} {n : Nat} {f : Nat → Value} (hr : w.rowIs b t n f) (ht : t ≠ 31) : ∀ g, TyG w 31 (some ⟨g, 0, none⟩) → ¬ g = b := fun g hg => hg.ne hr ht g rfl
theorem RB.lt {w : World} {b : Nat} {ps : List (Int × Int)} (h : RB w b ps) : b < w.heap.size := by
  obtain ⟨A, n, c, hr, _⟩ := h
  exact hr.lt

theorem info31 : (Try.prog.info? 31).map (fun i => (i.zero, i.size, i.bytes)) = some (some (.agg #[.int .i64 0, .int .i64 0]), 2, 16) := pair_info
theorem pairsV_snoc (ps : List (Int × Int)) (x y : Int) : pairsV (ps ++ [(x, y)]) = pairsV ps ++ [.int .i64 x, .int .i64 y] := by simp [pairsV]

set_option maxHeartbeats 1000000 in
set_option maxRecDepth 100000 in
theorem rput15_left (b : Nat) (x y : Int) (ps : List (Int × Int)) (w : World) (h : RB w b ps) (hf : ps.length < 16) (h0 : ¬ x = 0) :
    Calls Try.prog 15 #[.pointer (some ⟨b, 0, none⟩), .int .i64 x, .int .i64 y] w fun e w' => e = .returned (.bool true) ∧ RB w' b (ps ++ [(x, y)]) ∧ Mod (fun k => k = b) w w' := by
  obtain ⟨A, n, c, hr, hrd, hty⟩ := h
  have hn : n = ps.length := by have := hrd.1; rw [pairsV_len] at this; omega
  have hn16 : n < 16 := by omega
  have hn16i : decide ((16 : Int) ≤ n) = false := by simp; omega
  have hc0 : w.cell? ⟨b, 0, none⟩ = some (.slice A n c) := hr.cell (by omega)
  have hf0 := hr.frozen 0
  have hbl := hr.lt
  have HN := Lib.hid hn
  clear hn hf
  go_enter Try.func15, Try.ntmps15
  go_wp2_with (at_builtin; first
    | (have _t := hown2
       refine wpList_appG _ (by rfl) (.tmp 25) (.tmp 29) 22 31 2 _ 16 (by rfl) Try.underlying22 info31 rfl (by omega) (by omega) _ _ _ _ (by rfl) (hown2.alloc _) _ 1 1 _ (by rfl) (RdG.lit w2 31 2 #[.int .i64 x, .int .i64 y] 1 rfl (pairsV_one [(x, y)])) (by omega) ?_
       intro A3 n3 c3 w3 hn3 hn3b hown3 hg3 hat3
       have m3 : Mod (fun _ => False) w w3 := (m2.alloc _).grown hg3 (fun k hk => .inr (hfr2 k hk))
       have hf3 : w3.frozen? ⟨b, 0, none⟩ = false := (m3.frozen hbl (fun h => h)).trans hf0
       have hc3 : w3.cell? ⟨b, 0, none⟩ = some (.slice A n c) := (m3.cell (p := ⟨b, 0, none⟩) hbl (fun h => h)).trans hc0
       have hbl3 : b < w3.heap.size := Nat.lt_of_lt_of_le hbl m3.size)
    | (refine wpList_appG _ (by rfl) (.tmp 20) (.tmp 24) 22 31 2 _ 16 (by rfl) Try.underlying22 info31 rfl (by omega) (by omega) _ _ _ _ (by rfl) (OwnG.empty w 31 2) A n c _ (by rfl) (hrd.alloc _) (by omega) ?_
       intro A2 n2 c2 w2 hn2 hn2b hown2 hg2 hat2
       have m2 : Mod (fun _ => False) w w2 := ((Mod.refl _ w).alloc _).grown hg2 (fun k hk => .inr (by simp [blk] at hk; omega))
       have hfr2 : ∀ d, blk A2 = some d → w.heap.size ≤ d := by
         intro d hd
         rcases hat2 with e | e
         · rw [e] at hd; simp [blk] at hd; omega
         · rw [e] at hd; simp at hd; omega))
  go_ret
  have mset : Mod (fun k => k = b) w3 (w3.setCell ⟨b, 0, none⟩ (.slice A3 n3 c3)) := Mod.setCell (Mod.refl (fun k => k = b) w3) (p := ⟨b, 0, none⟩) (.inl rfl) _
  have hr3 := m3.rowIs hr (fun h => h)
  have hne : ∀ g, blk A3 = some g → ¬ g = b := hown3.ty.ne hr3 (by decide)
  refine ⟨rfl, ⟨A3, n3, c3, (hr3.set 0 _).congr (fun i hi => by rw [if_pos (by omega)]), ?_, hown3.ty.keep mset hne⟩, (m3.mono (fun _ _ h => h.elim)).trans mset⟩
  have hrd3 : RdG w3 2 A3 n3 (pairsV (ps ++ [(x, y)])) := by
    have h4 := hown3
    rw [List.nil_append] at h4
    rw [pairsV_snoc]
    exact h4.rd (by rw [← pairsV_snoc]; exact pairsV_one _)
  exact hrd3.keep mset (fun g hg _ => hne g hg)

set_option maxHeartbeats 1000000 in
set_option maxRecDepth 100000 in
theorem rput15_right (b : Nat) (y : Int) (ps : List (Int × Int)) (w : World) (h : RB w b ps) (hf : ps.length < 16) (h0 : ¬ y = 0) :
    Calls Try.prog 15 #[.pointer (some ⟨b, 0, none⟩), .int .i64 0, .int .i64 y] w fun e w' => e = .returned (.bool true) ∧ RB w' b (ps ++ [(0, y)]) ∧ Mod (fun k => k = b) w w' := by
  obtain ⟨A, n, c, hr, hrd, hty⟩ := h
  have hn : n = ps.length := by have := hrd.1; rw [pairsV_len] at this; omega
  have hn16 : n < 16 := by omega
  have hn16i : decide ((16 : Int) ≤ n) = false := by simp; omega
  have hc0 : w.cell? ⟨b, 0, none⟩ = some (.slice A n c) := hr.cell (by omega)
  have hf0 := hr.frozen 0
  have hbl := hr.lt
  have HN := Lib.hid hn
  clear hn hf
  go_enter Try.func15, Try.ntmps15
  go_wp2_with (at_builtin; first
    | (have _t := hown2
       refine wpList_appG _ (by rfl) (.tmp 25) (.tmp 29) 22 31 2 _ 16 (by rfl) Try.underlying22 info31 rfl (by omega) (by omega) _ _ _ _ (by rfl) (hown2.alloc _) _ 1 1 _ (by rfl) (RdG.lit w2 31 2 #[.int .i64 0, .int .i64 y] 1 rfl (pairsV_one [(0, y)])) (by omega) ?_
       intro A3 n3 c3 w3 hn3 hn3b hown3 hg3 hat3
       have m3 : Mod (fun _ => False) w w3 := (m2.alloc _).grown hg3 (fun k hk => .inr (hfr2 k hk))
       have hf3 : w3.frozen? ⟨b, 0, none⟩ = false := (m3.frozen hbl (fun h => h)).trans hf0
       have hc3 : w3.cell? ⟨b, 0, none⟩ = some (.slice A n c) := (m3.cell (p := ⟨b, 0, none⟩) hbl (fun h => h)).trans hc0
       have hbl3 : b < w3.heap.size := Nat.lt_of_lt_of_le hbl m3.size)
    | (refine wpList_appG _ (by rfl) (.tmp 20) (.tmp 24) 22 31 2 _ 16 (by rfl) Try.underlying22 info31 rfl (by omega) (by omega) _ _ _ _ (by rfl) (OwnG.empty w 31 2) A n c _ (by rfl) (hrd.alloc _) (by omega) ?_
       intro A2 n2 c2 w2 hn2 hn2b hown2 hg2 hat2
       have m2 : Mod (fun _ => False) w w2 := ((Mod.refl _ w).alloc _).grown hg2 (fun k hk => .inr (by simp [blk] at hk; omega))
       have hfr2 : ∀ d, blk A2 = some d → w.heap.size ≤ d := by
         intro d hd
         rcases hat2 with e | e
         · rw [e] at hd; simp [blk] at hd; omega
         · rw [e] at hd; simp at hd; omega))
  go_ret
  have mset : Mod (fun k => k = b) w3 (w3.setCell ⟨b, 0, none⟩ (.slice A3 n3 c3)) := Mod.setCell (Mod.refl (fun k => k = b) w3) (p := ⟨b, 0, none⟩) (.inl rfl) _
  have hr3 := m3.rowIs hr (fun h => h)
  have hne : ∀ g, blk A3 = some g → ¬ g = b := hown3.ty.ne hr3 (by decide)
  refine ⟨rfl, ⟨A3, n3, c3, (hr3.set 0 _).congr (fun i hi => by rw [if_pos (by omega)]), ?_, hown3.ty.keep mset hne⟩, (m3.mono (fun _ _ h => h.elim)).trans mset⟩
  have hrd3 : RdG w3 2 A3 n3 (pairsV (ps ++ [(0, y)])) := by
    have h4 := hown3
    rw [List.nil_append] at h4
    rw [pairsV_snoc]
    exact h4.rd (by rw [← pairsV_snoc]; exact pairsV_one _)
  exact hrd3.keep mset (fun g hg _ => hne g hg)

theorem rput15_zero (b : Nat) (ps : List (Int × Int)) (w : World) (h : RB w b ps) (hf : ps.length < 16) :
    Calls Try.prog 15 #[.pointer (some ⟨b, 0, none⟩), .int .i64 0, .int .i64 0] w fun e w' => e = .returned (.bool true) ∧ w' = w := by
  obtain ⟨A, n, c, hr, hrd, hty⟩ := h
  have hn : n = ps.length := by have := hrd.1; rw [pairsV_len] at this; omega
  have hn16 : n < 16 := by omega
  have hc0 : w.cell? ⟨b, 0, none⟩ = some (.slice A n c) := hr.cell (by omega)
  clear hn hf
  go_enter Try.func15, Try.ntmps15
  go_wp2
  go_ret
  exact ⟨rfl, rfl⟩
theorem rput15_full (b : Nat) (x y : Int) (ps : List (Int × Int)) (w : World) (h : RB w b ps) (hf : ¬ ps.length < 16) :
    Calls Try.prog 15 #[.pointer (some ⟨b, 0, none⟩), .int .i64 x, .int .i64 y] w fun e w' => e = .returned (.bool false) ∧ w' = w := by
  obtain ⟨A, n, c, hr, hrd, hty⟩ := h
  have hn : n = ps.length := by have := hrd.1; rw [pairsV_len] at this; omega
  have hn16 : 16 ≤ n := by omega
  have hc0 : w.cell? ⟨b, 0, none⟩ = some (.slice A n c) := hr.cell (by omega)
  clear hn hf
  go_enter Try.func15, Try.ntmps15
  go_wp2
  go_ret
  exact ⟨rfl, rfl⟩
theorem rput15_any (b : Nat) (x y : Int) (ps : List (Int × Int)) (w : World) (h : RB w b ps) :
    Calls Try.prog 15 #[.pointer (some ⟨b, 0, none⟩), .int .i64 x, .int .i64 y] w fun e w' => e = .returned (.bool (decide (ps.length < 16))) ∧ RB w' b (bput ps x y) ∧ Mod (fun k => k = b) w w' := by
  unfold bput
  by_cases hf : ps.length < 16
  · rw [if_pos hf, decide_eq_true hf]
    by_cases hx : x = 0
    · by_cases hy : y = 0
      · subst hx; subst hy
        rw [if_pos ⟨rfl, rfl⟩]
        refine (rput15_zero b ps w h hf).mono ?_
        rintro e w' ⟨rfl, rfl⟩
        exact ⟨rfl, h, Mod.refl _ _⟩
      · subst hx
        rw [if_neg (fun h => hy h.2)]
        exact rput15_right b y ps w h hf hy
    · rw [if_neg (fun h => hx h.1)]
      exact rput15_left b x y ps w h hf hx
  · rw [if_neg hf, decide_eq_false hf]
    refine (rput15_full b x y ps w h hf).mono ?_
    rintro e w' ⟨rfl, rfl⟩
    exact ⟨rfl, h, Mod.refl _ _⟩

set_option maxHeartbeats 2000000 in
set_option maxRecDepth 100000 in
theorem rflush_any (b : Nat) (ps : List (Int × Int)) (w : World) (h : RB w b ps) (hl : ps.length ≤ 16) :
    Calls Try.prog 20 #[.pointer (some ⟨b, 0, none⟩)] w fun e w' => ∃ A n c, e = .returned (.slice A n c) ∧ IsL w' A n c (flushed ps) ∧ TyL w' A ∧ RB w' b [] ∧ Mod (fun k => k = b) w w' := by
  obtain ⟨A0, N, c0, hr, hrd, hty⟩ := h
  have hN : N = ps.length := by have := hrd.1; rw [pairsV_len] at this; omega
  rw [← hN] at hl
  have HN := Lib.hid hN
  clear hN
  go_enter Try.func20, Try.ntmps20
  go_wp2_with fail
  go_loopw [3, 4] (fun v i wr => ∃ (k : Nat) (B : Option Addr) (n d : Nat), k ≤ N ∧ i = .int .i64 k ∧ v = .slice B n d ∧ OwnL wr B n d (told1 (nums (ps.take k))) ∧ (∀ j, blk B = some j → w.heap.size ≤ j) ∧ Mod (fun _ => False) w wr) (fun _ i _ => N - (intOf i).toNat)
  case atStart => exact ⟨0, none, 0, 0, by omega, rfl, rfl, OwnL.nil _, (fun j hj => by cases hj), Mod.refl _ _⟩
  case round =>
    obtain ⟨k, B, n, d, hk, rfl, rfl, hown, hf, hm⟩ := hrel
    have hrw := hm.rowIs hr (fun h => h)
    have hc0 : wr.cell? ⟨b, 0, none⟩ = some (.slice A0 N c0) := hrw.cell (by omega)
    have hf0 := hrw.frozen 0
    have hn : n ≤ 40 := by
      rw [← hown.len]
      have h1 := told1_len (nums (ps.take k))
      rw [nums_len, List.length_take] at h1
      omega
    by_cases hkN : k < N
    · obtain ⟨g, o, rfl, hgl, hc⟩ := (hrd.keep0 hm).2.2 (by omega)
      have hget := pairsV_get ps k (by rw [← HN.out]; exact hkN)
      obtain ⟨x, hx⟩ : ∃ x, x = (ps.getD k (0, 0)).1 := ⟨_, rfl⟩
      obtain ⟨y, hy⟩ : ∃ y, y = (ps.getD k (0, 0)).2 := ⟨_, rfl⟩
      have ent := nums_take ps (k := k) (by rw [← HN.out]; exact hkN)
      rw [← hx, ← hy] at hget ent
      have hcx : wr.cell? ⟨g, o + k * 2, none⟩ = some (.int .i64 x) := by rw [hc _ (by omega), Nat.mul_comm]; exact hget.1
      have hcy : wr.cell? ⟨g, o + k * 2 + 1, none⟩ = some (.int .i64 y) := by rw [Nat.add_assoc, hc _ (by omega), Nat.mul_comm]; exact hget.2
      have ENT := Lib.hid ent
      clear hc hx hy ent hget
      go_wp2
      go_region
      go_wp2
      obtain ⟨L, hL⟩ : ∃ L, L = wr.heap.size := ⟨_, rfl⟩
      have hlit := IsL.lit wr [x, y] #[.int .i64 x, .int .i64 y] rfl 2 rfl (by omega)
      rw [← hL] at hlit
      rw [← hL]
      have hbL : ∀ j, blk B = some j → j ≠ L := fun j hj => by have := hown.lt j hj; omega
      have hLw : w.heap.size ≤ L := by have := hm.size; omega
      have hLL : L < (wr.alloc (.cells #[.int .i64 x, .int .i64 y] 3)).heap.size := by simp; omega
      have HL := Lib.hid hL
      clear hL
      go_loopw [3, 34] (fun v i wr2 => ∃ (q : Nat) (B2 : Option Addr) (n2 d2 : Nat), q ≤ 2 ∧ i = .int .i64 q ∧ v = .slice B2 n2 d2 ∧ OwnL wr2 B2 n2 d2 (told1 (nums (ps.take k) ++ [x, y].take q)) ∧ (∀ j, blk B2 = some j → w.heap.size ≤ j) ∧ (∀ j, blk B2 = some j → j ≠ L) ∧
        IsL wr2 (some ⟨L, 0, none⟩) 2 2 [x, y] ∧ L < wr2.heap.size ∧ Mod (fun _ => False) w wr2) (fun _ i _ => 2 - (intOf i).toNat)
      case atStart =>
        have mA : Mod (fun _ => False) wr (wr.alloc (.cells #[.int .i64 x, .int .i64 y] 3)).drew := ((Mod.refl _ wr).alloc _).drew
        refine ⟨0, B, n, d, by omega, rfl, rfl, ?_, hf, hbL, hlit, hLL, hm.trans mA⟩
        rw [List.take_zero, List.append_nil]
        exact hown.keep0 mA
      case round =>
        clear hown hf hbL hlit hLL hm hcx hcy hc0 hf0 hrw hgl
        obtain ⟨q, B2, n2, d2, hq, rfl, rfl, hown2, hf2, hbL2, hlit, hLL, hm⟩ := hrel
        have hn2 : n2 ≤ 40 := by
          rw [← hown2.len]
          have h1 := told1_len (nums (ps.take k) ++ [x, y].take q)
          rw [List.length_append, nums_len, List.length_take, List.length_take] at h1
          simp only [List.length_cons, List.length_nil] at h1
          omega
        by_cases hq2 : q < 2
        · obtain ⟨g', o', eg, hcq⟩ := hlit.at_ hq2
          injection eg with eg
          injection eg with eg1 eg2
          subst eg1
          subst eg2
          obtain ⟨v, e1, hv2, e3⟩ := drop_cons [x, y] (k := q) hq2
          rw [e3, Nat.zero_add] at hcq
          have hsn : told1 (nums (ps.take k) ++ [x, y].take (q + 1)) = add1 (told1 (nums (ps.take k) ++ [x, y].take q)) v := by rw [hv2, ← List.append_assoc, told1_snoc]
          have SN := Lib.hid hsn
          clear hv2 hsn e1 e3
          by_cases hv0 : v = 0
          · subst hv0
            go_wp2
            go_roundw
            case rel =>
              refine ⟨q + 1, B2, n2, d2, by omega, by simp, rfl, ?_, hf2, hbL2, hlit, hLL, hm⟩
              rw [SN.out]
              unfold add1
              rw [if_pos (.inl rfl)]
              exact hown2
            case measure => simp only [intOf, Int.toNat_natCast]; omega
          · have hb0 : (v == 0) = false := by simpa using hv0
            by_cases hmem : v ∈ told1 (nums (ps.take k) ++ [x, y].take q)
            · have hd : decide (v ∈ told1 (nums (ps.take k) ++ [x, y].take q)) = true := by simpa using hmem
              have HD := Lib.hid hd
              clear hd
              go_wp2_with fail
              refine (has_any B2 n2 d2 _ v _ hown2.isL (by omega)).mono ?_
              rintro e w3 ⟨rfl, rfl⟩
              rw [HD.out]
              go_wp2
              go_roundw
              case rel =>
                refine ⟨q + 1, B2, n2, d2, by omega, by simp, rfl, ?_, hf2, hbL2, hlit, hLL, hm⟩
                rw [SN.out]
                unfold add1
                rw [if_pos (.inr hmem)]
                exact hown2
              case measure => simp only [intOf, Int.toNat_natCast]; omega
            · have hd : decide (v ∈ told1 (nums (ps.take k) ++ [x, y].take q)) = false := by simpa using hmem
              have HD := Lib.hid hd
              clear hd
              go_wp2_with fail
              refine (has_any B2 n2 d2 _ v _ hown2.isL (by omega)).mono ?_
              rintro e w3 ⟨rfl, rfl⟩
              rw [HD.out]
              go_wp2_with (at_builtin; refine wpList_app _ (by rfl) (.tmp 46) (.tmp 48) _ (by rfl) Try.underlying35 int_info _ _ _ _ (by rfl) (hown2.alloc _) _ _ _ _ (by rfl) (IsL.one _ v) (by omega) ?_; intro B4 n4 d4 w4 hn4 hn4b hown4 hg4 hat4)
              go_roundw
              case rel =>
                have m4 := grown_mod hg4
                have m4F := hm.new m4 hf2
                have f4 : ∀ j, blk B4 = some j → w.heap.size ≤ j := fresh_app hf2 hm.size hat4
                have g4 : ∀ j, blk B4 = some j → j ≠ L := by
                  intro j hj
                  rcases hat4 with e | e
                  · exact hbL2 j (by rw [← e]; exact hj)
                  · rw [e] at hj
                    simp at hj
                    omega
                refine ⟨q + 1, B4, n4, d4, by omega, by simp, rfl, ?_, f4, g4, hlit.keep m4 (fun d hd hk => ?_), Nat.lt_of_lt_of_le hLL m4.size, m4F⟩
                · rw [SN.out]
                  unfold add1
                  rw [if_neg (by rintro (h | h); exact hv0 h; exact hmem h)]
                  exact hown4
                · cases hd
                  exact hbL2 _ hk rfl
              case measure => simp only [intOf, Int.toNat_natCast]; omega
        · have hq3 : q = 2 := by omega
          subst hq3
          go_wp2
          go_roundw
          case rel =>
            refine ⟨k + 1, B2, n2, d2, by omega, by simp, rfl, ?_, hf2, hm⟩
            rw [ENT.out, List.append_assoc]
            exact hown2
          case measure => simp only [intOf, Int.toNat_natCast]; omega
    · have htk : ps.take k = ps := List.take_of_length_le (by rw [← HN.out]; omega)
      rw [htk] at hown
      have hbl := hrw.lt
      clear htk
      go_wp2
      go_ret
      have mset : Mod (fun k => k = b) wr (wr.setCell ⟨b, 0, none⟩ (.slice none 0 0)) := Mod.setCell (Mod.refl (fun k => k = b) wr) (p := ⟨b, 0, none⟩) (.inl rfl) _
      have hne : ∀ g, blk B = some g → ¬ g = b := fun g hg e => hown.ne_row hrw (by decide) (by rw [← e]; exact hg)
      have hown2 := hown.keep mset hne
      exact ⟨B, n, d, rfl, hown2.isL, hown2.ty, ⟨none, 0, 0, (hrw.set 0 _).congr (fun i hi => by rw [if_pos (by omega)]), RdG.nil _ _, TyG.nil _ _⟩, (hm.mono (fun _ _ h => h.elim)).trans mset⟩

end Go.Proofs.Ytjjbcfbljnekgaa
