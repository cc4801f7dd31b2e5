/-
  treadmilllaw10.RingKeeps: the walk.
-/
import Derived.Test.YtgojfccaohngaaaRing3
namespace Go.Proofs.Ytgojfccaohngaaa
open Go.RowKit

/-- The slice 'seen' (block gs, k cells) holds how often each number stands in D. -/
def Seen (w : World) (gs k : Nat) (D : List Int) : Prop := w.rowIs gs 3 k (fun x => .int .i64 ((D.count (x : Int) : Nat) : Int))
theorem Seen.inc {w : World} {gs k y : Nat} {D : List Int} (h : Seen w gs k D) {c : Int} (hc : c = ((D.count (y : Int) : Nat) : Int) + 1) : Seen (w.setCell ⟨gs, y, none⟩ (.int .i64 c)) gs k (D ++ [(y : Int)]) := by
  subst hc
  refine (h.set y _).congr (fun i hi => ?_)
  by_cases e : i = y
  · subst e
    simp [List.count_append]
  · rw [if_neg e, List.count_append]
    have : List.count (i : Int) [(y : Int)] = 0 := by
      rw [List.count_eq_zero]; simp; omega
    rw [this, Nat.add_zero]
theorem Seen.keep {S : Nat → Prop} {w w' : World} {gs k : Nat} {D : List Int} (h : Seen w gs k D) (m : Mod S w w') (hs : ¬ S gs) : Seen w' gs k D := m.rowIs h hs

/-- All that were put, up to i, are told (D) or in the row; the row rises; who was last told by Get is below. -/
structure Keeps (i : Nat) (D row : List Int) (last : Int) : Prop where
  perm : (D ++ row).Perm (upto 0 i)
  rise : row.Pairwise (· < ·)
  low : ∀ x ∈ row, last < x
  top : -1 ≤ last ∧ last < i

theorem Keeps.mem {i : Nat} {D row : List Int} {last : Int} (h : Keeps i D row last) {x : Int} (hx : x ∈ D ∨ x ∈ row) : 0 ≤ x ∧ x < i := by
  have := h.perm.mem_iff.1 (List.mem_append.2 hx)
  clear h hx
  revert this
  have key : ∀ (a : Int) (n : Nat), x ∈ upto a n → a ≤ x ∧ x < a + n := by
    intro a n
    induction n generalizing a with
    | zero => intro h; simp [upto] at h
    | succ n ih =>
      intro h
      rw [upto, List.mem_cons] at h
      rcases h with rfl | h
      · omega
      · have := ih _ h; omega
  intro h
  have := key 0 i h
  omega
theorem Keeps.len {i : Nat} {D row : List Int} {last : Int} (h : Keeps i D row last) : D.length + row.length = i := by
  have := h.perm.length_eq
  rw [List.length_append, upto_len] at this
  exact this

theorem Keeps.put {i : Nat} {D row : List Int} {last : Int} (h : Keeps i D row last) : Keeps (i + 1) (D ++ (rbehind row i).2) (rbehind row i).1 last := by
  have e4 := upto_snoc 0 i
  rw [Int.zero_add] at e4
  unfold rbehind
  by_cases hl : row.length < 256
  · rw [if_pos hl]
    refine ⟨?_, ?_, ?_, ⟨h.top.1, by have := h.top.2; omega⟩⟩
    · rw [e4, List.append_nil, ← List.append_assoc]
      exact h.perm.append_right _
    · rw [List.pairwise_append]
      exact ⟨h.rise, by simp, fun a ha b hb => by have := h.mem (.inr ha); simp at hb; omega⟩
    · intro x hx
      rw [List.mem_append] at hx
      rcases hx with hx | hx
      · exact h.low x hx
      · have := h.top.2; simp at hx; omega
  · rw [if_neg hl]
    refine ⟨?_, ?_, ?_, ⟨h.top.1, by have := h.top.2; omega⟩⟩
    · rw [e4]
      refine List.Perm.trans ?_ (h.perm.append_right [(i : Int)])
      simp only [List.append_assoc]
      refine List.Perm.append_left _ ?_
      conv => rhs; rw [← List.take_append_drop 128 row, List.append_assoc]
      refine List.Perm.append_left _ ?_
      exact List.perm_append_comm
    · exact h.rise.sublist (List.drop_sublist _ _)
    · intro x hx
      exact h.low x (List.mem_of_mem_drop hx)
theorem Keeps.get {i : Nat} {D row : List Int} {last x : Int} (h : Keeps i D (x :: row) last) : Keeps i (D ++ [x]) row x := by
  have hx := h.mem (.inr List.mem_cons_self)
  refine ⟨by rw [List.append_assoc]; exact h.perm, (List.pairwise_cons.1 h.rise).2, (List.pairwise_cons.1 h.rise).1, by omega⟩
theorem Keeps.one {k : Nat} {D row : List Int} {last : Int} (h : Keeps k D row last) {x : Nat} (hx : x < k) : (D ++ row).count (x : Int) = 1 := by
  rw [h.perm.count_eq]
  have key : ∀ (a : Int) (n x : Nat), x < n → (upto a n).count (a + x) = 1 := by
    intro a n
    induction n generalizing a with
    | zero => intro x hx; omega
    | succ n ih =>
      intro x hx
      rw [upto, List.count_cons]
      by_cases h0 : x = 0
      · subst h0
        have : (upto (a + 1) n).count (a + ((0 : Nat) : Int)) = 0 := by
          rw [List.count_eq_zero]
          intro hm
          have key2 : ∀ (a : Int) (n : Nat) (y : Int), y ∈ upto a n → a ≤ y := by
            intro a n
            induction n generalizing a with
            | zero => intro y h; simp [upto] at h
            | succ n ih =>
              intro y h
              rw [upto, List.mem_cons] at h
              rcases h with rfl | h
              · omega
              · have := ih _ y h; omega
          have := key2 _ _ _ hm
          omega
        rw [this]
        simp
      · obtain ⟨y, rfl⟩ : ∃ y, x = y + 1 := ⟨x - 1, by omega⟩
        have e : a + ((y + 1 : Nat) : Int) = (a + 1) + (y : Int) := by omega
        rw [e, ih (a + 1) y (by omega), if_neg (by rw [beq_iff_eq]; omega)]
  have := key 0 k x hx
  rwa [Int.zero_add] at this

set_option maxHeartbeats 4000000 in
set_option maxRecDepth 100000 in
theorem keeps_any (n every : Int) (w : World) : Calls Try.prog 4 #[.int .i64 n, .int .i64 every] w fun e w' => e = .returned (.bool true) ∧ Mod (fun _ => False) w w' := by
  obtain ⟨k, hk, ek⟩ := umod n 700 (by omega)
  obtain ⟨e0, he0, ee⟩ := umod every 9 (by omega)
  have ek' : (IntKind.u64.wrap n).tmod 700 = (k : Int) := ek
  have ee' : (IntKind.u64.wrap every).tmod 9 = (e0 : Int) := ee
  clear ek ee
  have hmk := fun W => run_make_row' (P := Try.prog) 27 3 (.int .i64 0) 8 Try.underlying27 int_info rfl .i64 .i64 k (by omega) (by omega) W
  go_enter Try.func4, Try.ntmps4
  go_wp2_with fail
  refine (new_ring _).mono ?_
  rintro e w1 ⟨b, rfl, hb, hr1, m1⟩
  have hS : ∀ i, i = b → w.heap.size ≤ i := fun i hi => by subst hi; exact hb
  go_wp2_with fail
  clear ek' ee' hmk
  obtain ⟨gs, hgs⟩ : ∃ gs, gs = w1.heap.size := ⟨_, rfl⟩
  rw [← hgs]
  have hs2 : Seen (w1.alloc (.cells (madeCells #[.int .i64 0] k) 3)) gs k [] := by
    rw [hgs]
    exact (World.rowIs_made w1 (.int .i64 0) k 3).congr (fun i hi => by simp)
  have hr2 : Ring (w1.alloc (.cells (madeCells #[.int .i64 0] k) 3)) b [] none := hr1.keep ((Mod.refl (fun _ => False) w1).alloc _) (fun h => h)
  have hm2 : Mod (fun _ => False) w (w1.alloc (.cells (madeCells #[.int .i64 0] k) 3)) := m1.alloc _
  have hblt := hr1.lt
  have hgb : gs ≠ b := by omega
  have hgw : w.heap.size ≤ gs := by have := m1.size; omega
  have hSg : ∀ i, i = gs → w.heap.size ≤ i := fun i hi => by subst hi; exact hgw
  have HGB := Lib.hid hgb
  clear hgs hgb hr1 m1
  go_loopw [9, 10] (fun la i wr => ∃ (j : Nat) (D row : List Int) (last : Int), j ≤ k ∧ i = .int .i64 j ∧ la = .int .i64 last ∧ Ring wr b row none ∧ Seen wr gs k D ∧ Keeps j D row last ∧ Mod (fun _ => False) w wr) (fun _ i _ => k - (intOf i).toNat)
  case atStart => exact ⟨0, [], [], -1, by omega, rfl, rfl, hr2, hs2, ⟨by simp [upto], by simp, by simp, by omega⟩, hm2⟩
  case round =>
    obtain ⟨j, D, row, last, hj, rfl, rfl, hr, hs, hkp, hm⟩ := hrel
    have hrl := hr.len
    by_cases hja : j < k
    · clear hr2 hs2 hm2
      go_wp2_with fail
      refine (put_any b j false row none _ hr).mono ?_
      rintro e w3 ⟨A3, n3, c3, rfl, hr3, hl3, f3, m3⟩
      have hr3' : Ring w3 b (rbehind row j).1 none := hr3
      have hl3' : IsL w3 A3 n3 c3 (rbehind row j).2 := hl3
      have hkp3 := hkp.put
      have hs3 := hs.keep m3 HGB.out
      have hslt := hs3.lt
      have hm3 := hm.new m3 hS
      have hslt0 : gs < wr.heap.size := hs.lt
      have hA3 : ∀ d, A3 = some d → ¬ d.block = gs := fun d hd e => by have := f3 d hd; omega
      generalize (rbehind row j).1 = row3 at *
      generalize (rbehind row j).2 = out3 at *
      clear hr3 hl3 hkp hs hr hm m3
      have hn3 : n3 ≤ 2000 := by
        have h1 := hl3'.len
        have h2 := hkp3.len
        rw [List.length_append] at h2
        omega
      go_wp2
      obtain ⟨wa, rfl⟩ : ∃ wa : World, wa = w3 := ⟨_, rfl⟩
      go_loopw [12] (fun i wr => ∃ q : Nat, q ≤ n3 ∧ i = .int .i64 q ∧ Seen wr gs k (D ++ out3.take q) ∧ IsL wr A3 n3 c3 out3 ∧ Ring wr b row3 none ∧ Mod (fun _ => False) w wr) (fun i _ => n3 - (intOf i).toNat)
      case atStart => exact ⟨0, by omega, rfl, by simpa using hs3, hl3', hr3', hm3⟩
      case round =>
        obtain ⟨q, hq, rfl, hs4, hl4, hr4, hm4⟩ := hrel
        clear hs3 hl3' hr3' hm3
        by_cases hqn : q < n3
        · obtain ⟨g, o, rfl, hc4⟩ := hl4.at_ hqn
          obtain ⟨x, e1, e2, e3⟩ := drop_cons out3 (k := q) (by rw [hl4.len]; exact hqn)
          have hx := hkp3.mem (x := x) (.inl (List.mem_append_right _ (by rw [← e3, List.getD_eq_getElem?_getD, List.getElem?_eq_getElem (by rw [hl4.len]; exact hqn)]; exact List.getElem_mem _)))
          obtain ⟨y, rfl⟩ := Int.eq_ofNat_of_zero_le hx.1
          rw [e3] at hc4
          have hyk : y < k := by omega
          have hcy := hs4.cell (i := y) hyk
          have hfy := hs4.frozen y
          obtain ⟨c, hc⟩ : ∃ c, c = (D ++ out3.take q).count (y : Int) := ⟨_, rfl⟩
          rw [← hc] at hcy
          have hc2 : c ≤ 2000 := by
            have h1 : c ≤ (D ++ out3.take q).length := by rw [hc]; exact List.count_le_length
            have h2 := hkp3.len
            rw [List.length_append] at h1 h2
            rw [List.length_take] at h1
            omega
          have hs5 := hs4.inc (y := y) (c := (c : Int) + 1) (by rw [hc])
          rw [List.append_assoc, ← e2] at hs5
          have mset : Mod (· = gs) wr (wr.setCell ⟨gs, y, none⟩ (.int .i64 ((c : Int) + 1))) := Mod.setCell (Mod.refl (· = gs) wr) (p := ⟨gs, y, none⟩) (.inl rfl) _
          have hl5 := hl4.keep mset hA3
          have hr5 := hr4.keep mset (fun e => HGB.out e.symm)
          have hm5 := hm4.new mset hSg
          clear hc e1 e2 e3 hx
          go_wp2
          go_roundw
          case rel => exact ⟨q + 1, by omega, by go_num, hs5, hl5, hr5, hm5⟩
          case measure => simp [intOf]; omega
        · have htk : out3.take q = out3 := List.take_of_length_le (by rw [hl4.len]; omega)
          rw [htk] at hs4
          clear htk
          have hrl4 := hr4.len
          go_wp2_with fail
          refine (len_any b _ _ _ hr4).mono ?_
          rintro e w5 ⟨rfl, m5⟩
          have hlen5 : ((none : Option Int).toList ++ row3).length = row3.length := by simp
          rw [hlen5]
          have hr5 := hr4.keep m5 (fun h => h)
          have hs5 := hs4.keep m5 (fun h => h)
          have hm5 := hm4.trans m5
          clear hr4 hs4 hm4 m5 hlen5 hl4
          obtain ⟨r, hr0⟩ : ∃ r : Nat, (j : Int) % (1 + (e0 : Int)) = (r : Int) := ⟨((j : Int) % (1 + (e0 : Int))).toNat, by have := Int.emod_nonneg (j : Int) (b := 1 + (e0 : Int)) (by omega); omega⟩
          by_cases hrz : r = 0
          · subst hrz
            have hrz2 : (j : Int) % (1 + (e0 : Int)) = 0 := hr0
            clear hr0
            go_wp2_with fail
            refine (get_any b row3 none _ hr5).mono ?_
            rintro e w6 ⟨rfl, hr6, m6⟩
            have hs6 := hs5.keep m6 HGB.out
            have hm6 := hm5.new m6 hS
            cases row3 with
            | nil =>
              have hr6' : Ring w6 b [] none := hr6
              have e6 : rget ([] : List Int) none = ((0, false), ([], none)) := rfl
              rw [e6]
              clear hr6 hr5 hs5 hm5 m6 e6
              go_wp2
              go_roundw
              case rel => exact ⟨j + 1, D ++ out3, [], last, by omega, by go_num, rfl, hr6', hs6, hkp3, hm6⟩
              case measure => simp [intOf]; omega
            | cons x row6 =>
              have hr6' : Ring w6 b row6 none := hr6
              have e6 : rget (x :: row6) none = ((x, true), (row6, none)) := rfl
              rw [e6]
              have hlow := hkp3.low x List.mem_cons_self
              have hxm := hkp3.mem (x := x) (.inr List.mem_cons_self)
              have hkp6 := hkp3.get
              clear hr6 hr5 hs5 hm5 m6 e6
              obtain ⟨y, rfl⟩ := Int.eq_ofNat_of_zero_le hxm.1
              have hyk : y < k := by omega
              have hcy := hs6.cell (i := y) hyk
              have hfy := hs6.frozen y
              obtain ⟨c, hc⟩ : ∃ c, c = (D ++ out3).count (y : Int) := ⟨_, rfl⟩
              rw [← hc] at hcy
              have hc2 : c ≤ 2000 := by
                have h1 : c ≤ (D ++ out3).length := by rw [hc]; exact List.count_le_length
                have h2 := hkp3.len
                omega
              have hs7 := hs6.inc (y := y) (c := (c : Int) + 1) (by rw [hc])
              have mset : Mod (· = gs) w6 (w6.setCell ⟨gs, y, none⟩ (.int .i64 ((c : Int) + 1))) := Mod.setCell (Mod.refl (· = gs) w6) (p := ⟨gs, y, none⟩) (.inl rfl) _
              have hr7 := hr6'.keep mset (fun e => HGB.out e.symm)
              have hm7 := hm6.new mset hSg
              clear hc hxm
              go_wp2
              go_roundw
              case rel => exact ⟨j + 1, (D ++ out3) ++ [(y : Int)], row6, y, by omega, by go_num, rfl, hr7, hs7, hkp6, hm7⟩
              case measure => simp [intOf]; omega
          · have hrz2 : ((r : Int) == 0) = false := by rw [beq_eq_false_iff_ne]; omega
            go_wp2
            go_roundw
            case rel => exact ⟨j + 1, D ++ out3, row3, last, by omega, by go_num, rfl, hr5, hs5, hkp3, hm5⟩
            case measure => simp [intOf]; omega
    · have hja2 : j = k := by omega
      rw [hja2] at hkp
      have HJ := Lib.hid hja2
      clear hja2 hr2 hs2 hm2
      go_wp2_with fail
      refine (all_any b row none _ hr).mono ?_
      rintro e w3 ⟨A3, n3, c3, rfl, hl3, f3, m3⟩
      have hl3' : IsL w3 A3 n3 c3 row := hl3
      have hs3 := hs.keep m3 (fun h => h)
      have hm3 := hm.trans m3
      have hslt0 : gs < wr.heap.size := hs.lt
      have hA3 : ∀ d, A3 = some d → ¬ d.block = gs := fun d hd e => by have := f3 d hd; omega
      clear hl3 hs hr hm m3 f3 HJ hja hj
      go_wp2
      obtain ⟨wa, rfl⟩ : ∃ wa : World, wa = w3 := ⟨_, rfl⟩
      have hn3 : n3 ≤ 256 := by rw [← hl3'.len]; exact hrl
      go_loopw [16] (fun i wr => ∃ q : Nat, q ≤ n3 ∧ i = .int .i64 q ∧ Seen wr gs k (D ++ row.take q) ∧ IsL wr A3 n3 c3 row ∧ Mod (fun _ => False) w wr) (fun i _ => n3 - (intOf i).toNat)
      case atStart => exact ⟨0, by omega, rfl, by simpa using hs3, hl3', hm3⟩
      case round =>
        obtain ⟨q, hq, rfl, hs4, hl4, hm4⟩ := hrel
        clear hs3 hl3' hm3
        by_cases hqn : q < n3
        · have hqr : q < row.length := by rw [hl4.len]; exact hqn
          obtain ⟨x, e1, e2, e3⟩ := drop_cons row (k := q) hqr
          have hx := hkp.mem (x := x) (.inr (by rw [← e3, List.getD_eq_getElem?_getD, List.getElem?_eq_getElem hqr]; exact List.getElem_mem _))
          obtain ⟨y, rfl⟩ := Int.eq_ofNat_of_zero_le hx.1
          have hyk : y < k := by omega
          have hcy := hs4.cell (i := y) hyk
          have hfy := hs4.frozen y
          obtain ⟨c, hc⟩ : ∃ c, c = (D ++ row.take q).count (y : Int) := ⟨_, rfl⟩
          rw [← hc] at hcy
          have hc2 : c ≤ 2000 := by
            have h1 : c ≤ (D ++ row.take q).length := by rw [hc]; exact List.count_le_length
            have h2 := hkp.len
            rw [List.length_append, List.length_take] at h1
            omega
          have hs5 := hs4.inc (y := y) (c := (c : Int) + 1) (by rw [hc])
          rw [List.append_assoc, ← e2] at hs5
          have mset : ∀ kk, Mod (· = gs) wr ((wr.drewN kk).setCell ⟨gs, y, none⟩ (.int .i64 ((c : Int) + 1))) := fun kk => Mod.setCell ((Mod.refl (· = gs) wr).drewN kk) (p := ⟨gs, y, none⟩) (.inl rfl) _
          have hs5k : ∀ kk, Seen ((wr.drewN kk).setCell ⟨gs, y, none⟩ (.int .i64 ((c : Int) + 1))) gs k (D ++ row.take (q + 1)) := fun kk => hs5
          have hrise := hkp.rise
          have hd1 : decide ((y : Int) < 0) = false := by simp
          have hd2 : decide (k ≤ y) = false := by simp; omega
          obtain ⟨g, o, rfl, hc4⟩ := hl4.at_ hqn
          rw [e3] at hc4
          by_cases hq0 : q = 0
          · have hd3 : decide (0 < q) = false := by simp; omega
            clear hc e1 e2 e3 hx hs5 hrise hq0
            go_wp2
            go_quiet (fail)
            go_wp2
            go_roundw
            case rel => exact ⟨q + 1, by omega, by go_num, hs5k _, hl4.keep (mset _) hA3, hm4.new (mset _) hSg⟩
            case measure => simp [intOf]; omega
          · obtain ⟨g', o', eg, hc5⟩ := hl4.at_ (k := q - 1) (by omega)
            injection eg with eg
            injection eg with eg1 eg2
            subst eg1
            subst eg2
            obtain ⟨x0, _, _, e30⟩ := drop_cons row (k := q - 1) (by omega)
            rw [e30] at hc5
            have hx0 := hkp.mem (x := x0) (.inr (by rw [← e30, List.getD_eq_getElem?_getD, List.getElem?_eq_getElem (by omega)]; exact List.getElem_mem _))
            have hlt : x0 < (y : Int) := by
              rw [List.pairwise_iff_getElem] at hrise
              have := hrise (q - 1) q (by omega) hqr (by omega)
              rw [List.getD_eq_getElem?_getD, List.getElem?_eq_getElem (by omega)] at e3 e30
              rw [← e3, ← e30]
              exact this
            obtain ⟨y0, rfl⟩ := Int.eq_ofNat_of_zero_le hx0.1
            have hq1 : 1 ≤ q := by omega
            have hd3 : decide (0 < q) = true := by simp; omega
            have hd4 : decide (y ≤ y0) = false := by simp; omega
            clear hc e1 e2 e3 e30 hx hs5 hrise hx0 hq0
            go_wp2
            go_quiet (fail)
            go_wp2
            go_roundw
            case rel => exact ⟨q + 1, by omega, by go_num, hs5k _, hl4.keep (mset _) hA3, hm4.new (mset _) hSg⟩
            case measure => simp [intOf]; omega
        · have htk : row.take q = row := List.take_of_length_le (by rw [hl4.len]; omega)
          rw [htk] at hs4
          clear htk
          go_wp2
          obtain ⟨wb, rfl⟩ : ∃ wb : World, wb = wr := ⟨_, rfl⟩
          clear hl4
          -- each has been told just once
          go_loop [17] (fun i => ∃ q : Nat, q ≤ k ∧ i = .int .i64 q) (fun i => k - (intOf i).toNat)
          case atStart => exact ⟨0, by omega, rfl⟩
          case round =>
            obtain ⟨q, hq2, rfl⟩ := hrel
            by_cases hqk : q < k
            · have hcq := hs4.cell (i := q) hqk
              rw [hkp.one hqk] at hcq
              have hcq' : wb.cell? ⟨gs, q, none⟩ = some (.int .i64 1) := hcq
              clear hcq
              go_wp2
              go_round
              case rel => exact ⟨q + 1, by omega, by go_num⟩
              case measure => simp [intOf]; omega
            · go_wp2_with fail
              refine (told10 _).mono ?_
              rintro e w7 ⟨rfl, m7⟩
              go_wp2
              go_ret
              exact ⟨rfl, hm4.trans m7⟩

end Go.Proofs.Ytgojfccaohngaaa
