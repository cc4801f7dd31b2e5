/-
  The contract of sched.New.
-/
import Derived.Test.YtgojfccaohngaaaSch
import Derived.Deep.RegionHeld3
set_option linter.unusedSimpArgs false
namespace Go.Proofs.Ytgojfccaohngaaa
open Go.RowKit

theorem info31 : (Try.prog.info? 31).map (fun i => (i.zero, i.size, i.bytes)) = some (some (.pointer none), 1, 8) := by kernel_rfl

def ptrs (bs : Nat → Nat) (k : Nat) : List Value := (List.range k).map fun j => .pointer (some ⟨bs j, 0, none⟩)
theorem ptrs_snoc (bs : Nat → Nat) (k b : Nat) : ptrs bs k ++ [.pointer (some ⟨b, 0, none⟩)] = ptrs (upd bs k b) (k + 1) := by
  unfold ptrs
  rw [List.range_succ, List.map_append]
  congr 1
  · apply List.map_congr_left
    intro j hj
    rw [List.mem_range] at hj
    rw [upd_ne _ _ (by omega)]
  · simp [upd_same]
theorem ptrs_at (bs : Nat → Nat) (k i : Nat) (h : i < k) : (ptrs bs k)[i]? = some (.pointer (some ⟨bs i, 0, none⟩)) := by
  unfold ptrs
  rw [List.getElem?_map, List.getElem?_range h]
  rfl
theorem ptrs_one (bs : Nat → Nat) (k : Nat) : ∀ u ∈ ptrs bs k, u.oneCell' = true := by
  intro u hu
  unfold ptrs at hu
  obtain ⟨j, _, rfl⟩ := List.mem_map.1 hu
  rfl

/-- A scheduler that is being made: k rings so far. -/
structure Mk (W w : World) (s qb : Nat) (bs : Nat → Nat) (k : Nat) (A : Option Addr) (n c : Nat) : Prop where
  row : w.rowIs s 93 2 (fun i => if i = 0 then .slice A n c else .pointer (some ⟨qb, 0, none⟩))
  own : OwnG w 31 1 A n c (ptrs bs k)
  nk : n = k
  ring : ∀ i, i < k → Ring w (bs i) [] none ∧ W.heap.size ≤ bs i
  inj : ∀ i j, i < k → j < k → bs i = bs j → i = j
  queue : Queue w qb none []
  ls : W.heap.size ≤ s
  lq : W.heap.size ≤ qb
  la : ∀ d, blk A = some d → W.heap.size ≤ d
  mod : Mod (fun _ => False) W w

theorem Mk.next {W w w1 w2 : World} {s qb b k n c n2 c2 : Nat} {bs : Nat → Nat} {A A2 : Option Addr} (h : Mk W w s qb bs k A n c) (m1 : Mod (fun _ => False) w w1) (hb : w.heap.size ≤ b) (r : Ring w1 b [] none) (hlt : n2 = n + 1)
    (hown : OwnG w2 31 1 A2 n2 c2 (ptrs bs k ++ [.pointer (some ⟨b, 0, none⟩)])) (hg : (w1.alloc (.cells #[.pointer (some ⟨b, 0, none⟩)] 31)).grownBy w2 (blk A)) (hat : blk A2 = blk A ∨ blk A2 = some (w1.alloc (.cells #[.pointer (some ⟨b, 0, none⟩)] 31)).heap.size) :
    Mk W (w2.setCell ⟨s, 0, none⟩ (.slice A2 n2 c2)) s qb (upd bs k b) (k + 1) A2 n2 c2 := by
  have m2 : Mod (fun i => blk A = some i) w w2 := ((m1.mono (fun _ _ h => h.elim)).alloc _).grown hg (fun i hi => .inl hi)
  have m2' : Mod (fun i => blk A = some i) w1 w2 := ((Mod.refl _ w1).alloc _).grown hg (fun i hi => .inl hi)
  have tA := h.own.ty
  have nes : ¬ blk A = some s := fun e => (HasT.of_row h.row).ne (tA s e) (by decide) rfl
  have row2 := m2.rowIs h.row nes
  have ms : Mod (fun i => i = s) w2 (w2.setCell ⟨s, 0, none⟩ (.slice A2 n2 c2)) := Mod.setCell (Mod.refl (fun i => i = s) w2) (p := ⟨s, 0, none⟩) (.inl rfl) _
  have s1 := m1.size
  have s0 := h.mod.size
  have hqt := h.queue.hasT.1
  have r1 : Ring w2 b [] none := r.keep m2' (fun e => by have := h.own.lt b e; omega)
  refine {
    row := (row2.set 0 _).congr (fun i hi => by by_cases e : i = 0 <;> simp [e])
    own := by
      rw [← ptrs_snoc]
      exact hown.keep ms (fun g hg2 e => by subst e; exact (HasT.of_row row2).ne (hown.ty g hg2) (by decide) rfl)
    nk := by rw [hlt, h.nk]
    ring := fun i hi => ?_
    inj := fun i j hi hj e => ?_
    queue := (h.queue.keep m2 (fun e => hqt.ne (tA _ e) (by decide) rfl) (fun _ h => by cases h)).keep ms (fun e => (hqt.ne (HasT.of_row h.row) (by decide)) e) (fun _ h => by cases h)
    ls := h.ls, lq := h.lq
    la := fun d hd => ?_
    mod := (h.mod.new m2 (fun i hi => h.la i hi)).new ms (fun i hi => by rw [hi]; exact h.ls) }
  · by_cases e : i = k
    · subst e
      rw [upd_same]
      exact ⟨r1.keep ms (fun e => by have := (HasT.of_row h.row).lt; omega), by omega⟩
    · rw [upd_ne _ _ e]
      obtain ⟨r2, l2⟩ := h.ring i (by omega)
      exact ⟨(r2.keep m2 (fun e => r2.hasT.ne (tA _ e) (by decide) rfl)).keep ms (fun e => r2.hasT.ne (HasT.of_row h.row) (by decide) e), l2⟩
  · by_cases ei : i = k
    · by_cases ej : j = k
      · omega
      · subst ei
        rw [upd_same, upd_ne _ _ ej] at e
        have := (h.ring j (by omega)).1.lt
        omega
    · by_cases ej : j = k
      · subst ej
        rw [upd_same, upd_ne _ _ ei] at e
        have := (h.ring i (by omega)).1.lt
        omega
      · rw [upd_ne _ _ ei, upd_ne _ _ ej] at e
        exact h.inj i j (by omega) (by omega) e
  · rcases hat with e | e
    · exact h.la d (by rw [← e]; exact hd)
    · rw [e] at hd
      simp at hd
      omega
theorem Mk.done {W w : World} {s qb k n c : Nat} {bs : Nat → Nat} {A : Option Addr} (h : Mk W w s qb bs k A n c) (h1 : 1 ≤ k) (h2 : k ≤ 64) : ∃ a : SA, a.s = s ∧ a.ps = k ∧ SL W a w (fun _ => ([], none)) [] := by
  obtain rfl := h.nk
  have rd := h.own.rd (ptrs_one bs n)
  obtain ⟨g, o, rfl, hg, hc⟩ := rd.2.2 (by omega)
  have ho : o = 0 ∧ n ≤ c ∧ c ≤ maxLen := by
    rcases h.own.2 with ⟨hv, h0⟩ | ⟨g', cap, cur, hv, _, _, hnc, hcm, _⟩
    · omega
    · injection hv with e1 e2 e3
      injection e1 with e1
      injection e1 with _ e1
      subst e3
      exact ⟨e1, hnc, hcm⟩
  obtain ⟨rfl, hnc, hcm⟩ := ho
  refine ⟨⟨s, g, qb, c, n, bs⟩, rfl, rfl, none, ?_, ?_, h.mod⟩
  · exact {
      row := h.row
      arr := h.own.ty g rfl
      ptr := fun i (hi : i < n) => by
        have e1 := hc i (by omega)
        rw [ptrs_at bs n i hi, Nat.zero_add] at e1
        exact e1
      ring := fun i hi => (h.ring i hi).1
      inj := h.inj, queue := h.queue, one := h1, most := h2, cap := hnc, capm := hcm }
  · rintro k (e | e | (e | hk) | ⟨i, hi, e⟩)
    · rw [e]; exact h.ls
    · rw [e]; exact h.la g rfl
    · rw [e]; exact h.lq
    · cases hk
    · rw [e]; exact (h.ring i hi).2

theorem snew_no (ps : Int) (w : World) (h : ps < 1 ∨ 64 < ps) : Calls Try.prog 39 #[.int .i64 ps] w fun e w' => e = .returned (.tuple #[.pointer none, .int .i64 1]) ∧ w' = w := by
  by_cases h1 : ps < 1
  · have e1 : decide (ps < 1) = true := decide_eq_true h1
    clear h
    go_enter Try.func39, Try.ntmps39
    go_wp2
    go_ret2
    exact ⟨rfl, rfl⟩
  · have e1 : decide (ps < 1) = false := decide_eq_false h1
    have e2 : decide (64 < ps) = true := decide_eq_true (by omega)
    clear h
    go_enter Try.func39, Try.ntmps39
    go_wp2
    go_ret2
    exact ⟨rfl, rfl⟩

set_option maxHeartbeats 1000000 in
set_option maxRecDepth 100000 in
theorem snew_yes (ps : Nat) (w : World) (h1 : 1 ≤ ps) (h2 : ps ≤ 64) : Calls Try.prog 39 #[.int .i64 ps] w fun e w' => ∃ a : SA, e = .returned (.tuple #[.pointer (some ⟨a.s, 0, none⟩), .int .i64 0]) ∧ a.ps = ps ∧ SL w a w' (fun _ => ([], none)) [] := by
  have e1 : decide ((ps : Int) < 1) = false := decide_eq_false (by omega)
  have e2 : decide ((64 : Int) < (ps : Int)) = false := decide_eq_false (by omega)
  have e3 : decide (64 < ps) = false := decide_eq_false (by omega)
  go_enter Try.func39, Try.ntmps39
  go_wp2_with fail
  refine (new_queue w).mono ?_
  rintro e w1 ⟨qb, rfl, hb, hq1, m1⟩
  go_wp2_with fail
  have ma : Mod (fun _ => False) w1 (w1.alloc (.cells #[.slice none 0 0, .pointer (some ⟨qb, 0, none⟩)] 93)) := (Mod.refl _ w1).alloc _
  have hr1 : (w1.alloc (.cells #[.slice none 0 0, .pointer (some ⟨qb, 0, none⟩)] 93)).rowIs w1.heap.size 93 2 (fun i => if i = 0 then .slice none 0 0 else .pointer (some ⟨qb, 0, none⟩)) :=
    World.rowIs_alloc w1 #[.slice none 0 0, .pointer (some ⟨qb, 0, none⟩)] 93 _ (fun i hi => by
      have h3 : i = 0 ∨ i = 1 := by simp at hi; omega
      rcases h3 with rfl | rfl <;> rfl)
  have h0 : Mk w (w1.alloc (.cells #[.slice none 0 0, .pointer (some ⟨qb, 0, none⟩)] 93)) w1.heap.size qb (fun _ => 0) 0 none 0 0 := {
    row := hr1, own := OwnG.nil _ _ _, nk := rfl, ring := fun i hi => (by omega), inj := fun i j hi => (by omega), queue := hq1.keep ma (fun h => h) (fun _ _ h => h), ls := m1.size, lq := hb, la := fun d hd => (by cases hd), mod := m1.trans ma }
  obtain ⟨s, hs⟩ : ∃ s, s = w1.heap.size := ⟨_, rfl⟩
  rw [← hs] at h0 ⊢
  clear hs hr1 ma m1 hq1 hb
  go_loopw [15] (fun i wr => ∃ (k : Nat) (bs : Nat → Nat) (A : Option Addr) (n c : Nat), k ≤ ps ∧ i = .int .i64 k ∧ Mk w wr s qb bs k A n c) (fun i _ => ps - (intOf i).toNat)
  case atStart => exact ⟨0, _, _, _, _, by omega, rfl, h0⟩
  case round =>
    clear h0
    obtain ⟨k, bs, A, n, c, hk, rfl, h⟩ := hrel
    by_cases hk2 : k < ps
    · have d1 : decide ((k : Int) < (ps : Int)) = true := decide_eq_true (by omega)
      have d2 : decide (k < ps) = true := decide_eq_true hk2
      have hc0 : wr.cell? ⟨s, 0, none⟩ = some (.slice A n c) := h.row.cell (i := 0) (by omega)
      have hn : n = k := h.nk
      have hn64 : n ≤ 64 := by omega
      have HN := Lib.hid hn
      clear hn
      go_wp2_with fail
      refine wp_region_noPanic ?_
      refine wp_region_held_drew (S := fun _ => True) (by kernel_rfl) trivial (fun hHeld => ?_)
      (refine wpAnyH_take (i := 0) (v := ?_) rfl (by kernel_rfl) (by kernel_rfl) (by kernel_rfl) (fun _ _ _ h => h) (Or.inl ⟨by kernel_rfl, ?_⟩) (by assumption) ?_; rotate_left; focus (intro wq hSw; (try dsimp only at hSw); go_simp; try with_reducible rfl); try simp only [List.getElem_toArray, List.getElem_cons_succ, List.getElem_cons_zero, Act.put, List.setIfInBounds_toArray, List.set_cons_zero, List.set_cons_succ])
      (refine wpAnyH_take (i := 1) (v := ?_) rfl (by kernel_rfl) (by kernel_rfl) (by kernel_rfl) (fun _ _ _ h => h) (Or.inl ⟨by kernel_rfl, ?_⟩) (by assumption) ?_; rotate_left; focus (intro wq hSw; (try dsimp only at hSw); go_simp; try with_reducible rfl); try simp only [List.getElem_toArray, List.getElem_cons_succ, List.getElem_cons_zero, Act.put, List.setIfInBounds_toArray, List.set_cons_zero, List.set_cons_succ])
      (refine wpAnyH_take (i := 2) (v := ?_) rfl (by kernel_rfl) (by kernel_rfl) (by kernel_rfl) (fun _ _ _ h => h) (Or.inl ⟨by kernel_rfl, ?_⟩) (by assumption) ?_; rotate_left; focus (intro wq hSw; (try dsimp only at hSw); go_simp; try with_reducible rfl); try simp only [List.getElem_toArray, List.getElem_cons_succ, List.getElem_cons_zero, Act.put, List.setIfInBounds_toArray, List.set_cons_zero, List.set_cons_succ])
      (refine wpAnyH_take (i := 3) (v := ?_) rfl (by kernel_rfl) (by kernel_rfl) (by kernel_rfl) (fun _ _ _ h => h) (Or.inl ⟨by kernel_rfl, ?_⟩) (by assumption) ?_; rotate_left; focus (intro wq hSw; (try dsimp only at hSw); go_simp; try with_reducible rfl); try simp only [List.getElem_toArray, List.getElem_cons_succ, List.getElem_cons_zero, Act.put, List.setIfInBounds_toArray, List.set_cons_zero, List.set_cons_succ])
      refine wpAnyH_ready (rs := [4, 5]) (by kernel_rfl) (by simp) ?_
      refine AllReadyH.cons rfl (fun K hK => ?_) (AllReadyH.cons rfl (fun K hK => ?_) AllReadyH.nil)
      · go_simp
        refine hK.out _ _ trivial (fun hHeld => ?_)
        clear hK K
        try simp only [List.getElem_toArray, List.getElem_cons_succ, List.getElem_cons_zero, Act.put, List.setIfInBounds_toArray, List.set_cons_zero, List.set_cons_succ]
        refine wpAnyH_ready (rs := [5]) (by kernel_rfl) (by simp) ?_
        refine AllReadyH.cons rfl (fun K hK => ?_) AllReadyH.nil
        go_simp
        go_at_call 21
        refine (new_ring _).mono ?_
        rintro e w1 ⟨b, rfl, hb, hr, m1⟩
        have t0 : w1.cell? ⟨s, 0, none⟩ = some (.slice A n c) := (m1.cell (p := ⟨s, 0, none⟩) h.row.lt (fun h => h)).trans hc0
        have t0' : (w1.alloc (.cells #[.pointer (some ⟨b, 0, none⟩)] 31)).cell? ⟨s, 0, none⟩ = some (.slice A n c) := ((m1.alloc _).cell (p := ⟨s, 0, none⟩) h.row.lt (fun h => h)).trans hc0
        go_wp2_with fail
        refine hK.out _ _ trivial (fun hHeld => ?_)
        clear hK K
        try simp only [List.getElem_toArray, List.getElem_cons_succ, List.getElem_cons_zero, Act.put, List.setIfInBounds_toArray, List.set_cons_zero, List.set_cons_succ]
        refine wpAnyH_ready (rs := [6]) (by kernel_rfl) (by simp) ?_
        refine AllReadyH.cons rfl (fun K hK => ?_) AllReadyH.nil
        go_simp
        refine hK.out _ _ trivial (fun hHeld => ?_)
        clear hK K
        try simp only [List.getElem_toArray, List.getElem_cons_succ, List.getElem_cons_zero, Act.put, List.setIfInBounds_toArray, List.set_cons_zero, List.set_cons_succ]
        refine wpAnyH_ready (rs := [7]) (by kernel_rfl) (by simp) ?_
        refine AllReadyH.cons rfl (fun K hK => ?_) AllReadyH.nil
        have own1 : OwnG (w1.alloc (.cells #[.pointer (some ⟨b, 0, none⟩)] 31)) 31 1 A n c (ptrs bs k) := (h.own.keep ((Mod.refl (fun _ => False) wr).drew.trans m1) (fun _ _ h => h)).alloc _
        have rd1 : RdG (w1.alloc (.cells #[.pointer (some ⟨b, 0, none⟩)] 31)) 1 (some ⟨w1.heap.size, 0, none⟩) 1 [.pointer (some ⟨b, 0, none⟩)] := RdG.lit w1 31 1 #[.pointer (some ⟨b, 0, none⟩)] 1 rfl (by simp [Value.oneCell'])
        (with_reducible refine step_appG _ (by with_unfolding_all rfl) (.tmp 21) (.tmp 23) _ 31 1 (.pointer none) 8 (by with_unfolding_all rfl) Try.underlying91 info31 (by with_unfolding_all rfl) (by omega) (by omega) _ _ _ _ (by with_unfolding_all rfl) own1 _ _ _ _ (by with_unfolding_all rfl) rd1 (by omega) ?_)
        intro A2 n2 c2 w2 hn2 hn3 hown2 hg2 hat2
        have m2 : Mod (fun i => blk A = some i) w1 w2 := ((Mod.refl _ w1).alloc _).grown hg2 (fun i hi => .inl hi)
        have row2 := m2.rowIs (m1.rowIs h.row (fun h => h)) (fun e => (HasT.of_row h.row).ne (h.own.ty _ e) (by decide) rfl)
        have t2 := row2.cell (i := 0) (by omega)
        have f2 := row2.frozen 0
        have l2 := row2.lt
        refine hK.out _ _ trivial (fun hHeld => ?_)
        clear hK K
        try simp only [List.getElem_toArray, List.getElem_cons_succ, List.getElem_cons_zero, Act.put, List.setIfInBounds_toArray, List.set_cons_zero, List.set_cons_succ]
        (refine wpAnyH_take (i := 8) (v := ?_) rfl (by kernel_rfl) (by kernel_rfl) (by kernel_rfl) (fun _ _ _ h => h) (Or.inl ⟨by kernel_rfl, ?_⟩) (by assumption) ?_; rotate_left; focus (intro wq hSw; (try dsimp only at hSw); go_simp; try with_reducible rfl); try simp only [List.getElem_toArray, List.getElem_cons_succ, List.getElem_cons_zero, Act.put, List.setIfInBounds_toArray, List.set_cons_zero, List.set_cons_succ])
        (refine wpAnyH_take (i := 9) (v := ?_) rfl (by kernel_rfl) (by kernel_rfl) (by kernel_rfl) (fun _ _ _ h => h) (Or.inl ⟨by kernel_rfl, ?_⟩) (by assumption) ?_; rotate_left; focus (intro wq hSw; (try dsimp only at hSw); go_simp; try with_reducible rfl); try simp only [List.getElem_toArray, List.getElem_cons_succ, List.getElem_cons_zero, Act.put, List.setIfInBounds_toArray, List.set_cons_zero, List.set_cons_succ])
        refine wpAnyH_ready (rs := [10]) (by kernel_rfl) (by simp) ?_
        refine AllReadyH.cons rfl (fun K hK => ?_) AllReadyH.nil
        go_simp
        refine hK.out _ _ trivial (fun hHeld => ?_)
        clear hK K
        try simp only [List.getElem_toArray, List.getElem_cons_succ, List.getElem_cons_zero, Act.put, List.setIfInBounds_toArray, List.set_cons_zero, List.set_cons_succ]
        refine wpAnyH_done (by kernel_rfl) ?_ _
        refine NoPanic.normal ?_
        have hmk := h.next ((Mod.refl (fun _ => False) wr).drew.trans m1) hb hr (by omega) hown2 hg2 hat2
        clear hc0 h hr hown2 hg2 hat2 m1 t0 t0' t2 f2 l2
        go_wp2_with fail
        go_roundw
        case rel => exact ⟨k + 1, upd bs k b, A2, n2, c2, by omega, by go_num, hmk⟩
        case measure => simp [intOf]; omega
      · go_simp
        go_at_call 21
        refine (new_ring _).mono ?_
        rintro e w1 ⟨b, rfl, hb, hr, m1⟩
        have t0 : w1.cell? ⟨s, 0, none⟩ = some (.slice A n c) := (m1.cell (p := ⟨s, 0, none⟩) h.row.lt (fun h => h)).trans hc0
        have t0' : (w1.alloc (.cells #[.pointer (some ⟨b, 0, none⟩)] 31)).cell? ⟨s, 0, none⟩ = some (.slice A n c) := ((m1.alloc _).cell (p := ⟨s, 0, none⟩) h.row.lt (fun h => h)).trans hc0
        go_wp2_with fail
        refine hK.out _ _ trivial (fun hHeld => ?_)
        clear hK K
        try simp only [List.getElem_toArray, List.getElem_cons_succ, List.getElem_cons_zero, Act.put, List.setIfInBounds_toArray, List.set_cons_zero, List.set_cons_succ]
        refine wpAnyH_ready (rs := [4, 6]) (by kernel_rfl) (by simp) ?_
        refine AllReadyH.cons rfl (fun K hK => ?_) (AllReadyH.cons rfl (fun K hK => ?_) AllReadyH.nil)
        · go_simp
          refine hK.out _ _ trivial (fun hHeld => ?_)
          clear hK K
          try simp only [List.getElem_toArray, List.getElem_cons_succ, List.getElem_cons_zero, Act.put, List.setIfInBounds_toArray, List.set_cons_zero, List.set_cons_succ]
          refine wpAnyH_ready (rs := [6]) (by kernel_rfl) (by simp) ?_
          refine AllReadyH.cons rfl (fun K hK => ?_) AllReadyH.nil
          go_simp
          refine hK.out _ _ trivial (fun hHeld => ?_)
          clear hK K
          try simp only [List.getElem_toArray, List.getElem_cons_succ, List.getElem_cons_zero, Act.put, List.setIfInBounds_toArray, List.set_cons_zero, List.set_cons_succ]
          refine wpAnyH_ready (rs := [7]) (by kernel_rfl) (by simp) ?_
          refine AllReadyH.cons rfl (fun K hK => ?_) AllReadyH.nil
          have own1 : OwnG (w1.alloc (.cells #[.pointer (some ⟨b, 0, none⟩)] 31)) 31 1 A n c (ptrs bs k) := (h.own.keep ((Mod.refl (fun _ => False) wr).drew.trans m1) (fun _ _ h => h)).alloc _
          have rd1 : RdG (w1.alloc (.cells #[.pointer (some ⟨b, 0, none⟩)] 31)) 1 (some ⟨w1.heap.size, 0, none⟩) 1 [.pointer (some ⟨b, 0, none⟩)] := RdG.lit w1 31 1 #[.pointer (some ⟨b, 0, none⟩)] 1 rfl (by simp [Value.oneCell'])
          (with_reducible refine step_appG _ (by with_unfolding_all rfl) (.tmp 21) (.tmp 23) _ 31 1 (.pointer none) 8 (by with_unfolding_all rfl) Try.underlying91 info31 (by with_unfolding_all rfl) (by omega) (by omega) _ _ _ _ (by with_unfolding_all rfl) own1 _ _ _ _ (by with_unfolding_all rfl) rd1 (by omega) ?_)
          intro A2 n2 c2 w2 hn2 hn3 hown2 hg2 hat2
          have m2 : Mod (fun i => blk A = some i) w1 w2 := ((Mod.refl _ w1).alloc _).grown hg2 (fun i hi => .inl hi)
          have row2 := m2.rowIs (m1.rowIs h.row (fun h => h)) (fun e => (HasT.of_row h.row).ne (h.own.ty _ e) (by decide) rfl)
          have t2 := row2.cell (i := 0) (by omega)
          have f2 := row2.frozen 0
          have l2 := row2.lt
          refine hK.out _ _ trivial (fun hHeld => ?_)
          clear hK K
          try simp only [List.getElem_toArray, List.getElem_cons_succ, List.getElem_cons_zero, Act.put, List.setIfInBounds_toArray, List.set_cons_zero, List.set_cons_succ]
          (refine wpAnyH_take (i := 8) (v := ?_) rfl (by kernel_rfl) (by kernel_rfl) (by kernel_rfl) (fun _ _ _ h => h) (Or.inl ⟨by kernel_rfl, ?_⟩) (by assumption) ?_; rotate_left; focus (intro wq hSw; (try dsimp only at hSw); go_simp; try with_reducible rfl); try simp only [List.getElem_toArray, List.getElem_cons_succ, List.getElem_cons_zero, Act.put, List.setIfInBounds_toArray, List.set_cons_zero, List.set_cons_succ])
          (refine wpAnyH_take (i := 9) (v := ?_) rfl (by kernel_rfl) (by kernel_rfl) (by kernel_rfl) (fun _ _ _ h => h) (Or.inl ⟨by kernel_rfl, ?_⟩) (by assumption) ?_; rotate_left; focus (intro wq hSw; (try dsimp only at hSw); go_simp; try with_reducible rfl); try simp only [List.getElem_toArray, List.getElem_cons_succ, List.getElem_cons_zero, Act.put, List.setIfInBounds_toArray, List.set_cons_zero, List.set_cons_succ])
          refine wpAnyH_ready (rs := [10]) (by kernel_rfl) (by simp) ?_
          refine AllReadyH.cons rfl (fun K hK => ?_) AllReadyH.nil
          go_simp
          refine hK.out _ _ trivial (fun hHeld => ?_)
          clear hK K
          try simp only [List.getElem_toArray, List.getElem_cons_succ, List.getElem_cons_zero, Act.put, List.setIfInBounds_toArray, List.set_cons_zero, List.set_cons_succ]
          refine wpAnyH_done (by kernel_rfl) ?_ _
          refine NoPanic.normal ?_
          have hmk := h.next ((Mod.refl (fun _ => False) wr).drew.trans m1) hb hr (by omega) hown2 hg2 hat2
          clear hc0 h hr hown2 hg2 hat2 m1 t0 t0' t2 f2 l2
          go_wp2_with fail
          go_roundw
          case rel => exact ⟨k + 1, upd bs k b, A2, n2, c2, by omega, by go_num, hmk⟩
          case measure => simp [intOf]; omega
        · go_simp
          refine hK.out _ _ trivial (fun hHeld => ?_)
          clear hK K
          try simp only [List.getElem_toArray, List.getElem_cons_succ, List.getElem_cons_zero, Act.put, List.setIfInBounds_toArray, List.set_cons_zero, List.set_cons_succ]
          refine wpAnyH_ready (rs := [4]) (by kernel_rfl) (by simp) ?_
          refine AllReadyH.cons rfl (fun K hK => ?_) AllReadyH.nil
          go_simp
          refine hK.out _ _ trivial (fun hHeld => ?_)
          clear hK K
          try simp only [List.getElem_toArray, List.getElem_cons_succ, List.getElem_cons_zero, Act.put, List.setIfInBounds_toArray, List.set_cons_zero, List.set_cons_succ]
          refine wpAnyH_ready (rs := [7]) (by kernel_rfl) (by simp) ?_
          refine AllReadyH.cons rfl (fun K hK => ?_) AllReadyH.nil
          have own1 : OwnG (w1.alloc (.cells #[.pointer (some ⟨b, 0, none⟩)] 31)) 31 1 A n c (ptrs bs k) := (h.own.keep ((Mod.refl (fun _ => False) wr).drew.trans m1) (fun _ _ h => h)).alloc _
          have rd1 : RdG (w1.alloc (.cells #[.pointer (some ⟨b, 0, none⟩)] 31)) 1 (some ⟨w1.heap.size, 0, none⟩) 1 [.pointer (some ⟨b, 0, none⟩)] := RdG.lit w1 31 1 #[.pointer (some ⟨b, 0, none⟩)] 1 rfl (by simp [Value.oneCell'])
          (with_reducible refine step_appG _ (by with_unfolding_all rfl) (.tmp 21) (.tmp 23) _ 31 1 (.pointer none) 8 (by with_unfolding_all rfl) Try.underlying91 info31 (by with_unfolding_all rfl) (by omega) (by omega) _ _ _ _ (by with_unfolding_all rfl) own1 _ _ _ _ (by with_unfolding_all rfl) rd1 (by omega) ?_)
          intro A2 n2 c2 w2 hn2 hn3 hown2 hg2 hat2
          have m2 : Mod (fun i => blk A = some i) w1 w2 := ((Mod.refl _ w1).alloc _).grown hg2 (fun i hi => .inl hi)
          have row2 := m2.rowIs (m1.rowIs h.row (fun h => h)) (fun e => (HasT.of_row h.row).ne (h.own.ty _ e) (by decide) rfl)
          have t2 := row2.cell (i := 0) (by omega)
          have f2 := row2.frozen 0
          have l2 := row2.lt
          refine hK.out _ _ trivial (fun hHeld => ?_)
          clear hK K
          try simp only [List.getElem_toArray, List.getElem_cons_succ, List.getElem_cons_zero, Act.put, List.setIfInBounds_toArray, List.set_cons_zero, List.set_cons_succ]
          (refine wpAnyH_take (i := 8) (v := ?_) rfl (by kernel_rfl) (by kernel_rfl) (by kernel_rfl) (fun _ _ _ h => h) (Or.inl ⟨by kernel_rfl, ?_⟩) (by assumption) ?_; rotate_left; focus (intro wq hSw; (try dsimp only at hSw); go_simp; try with_reducible rfl); try simp only [List.getElem_toArray, List.getElem_cons_succ, List.getElem_cons_zero, Act.put, List.setIfInBounds_toArray, List.set_cons_zero, List.set_cons_succ])
          (refine wpAnyH_take (i := 9) (v := ?_) rfl (by kernel_rfl) (by kernel_rfl) (by kernel_rfl) (fun _ _ _ h => h) (Or.inl ⟨by kernel_rfl, ?_⟩) (by assumption) ?_; rotate_left; focus (intro wq hSw; (try dsimp only at hSw); go_simp; try with_reducible rfl); try simp only [List.getElem_toArray, List.getElem_cons_succ, List.getElem_cons_zero, Act.put, List.setIfInBounds_toArray, List.set_cons_zero, List.set_cons_succ])
          refine wpAnyH_ready (rs := [10]) (by kernel_rfl) (by simp) ?_
          refine AllReadyH.cons rfl (fun K hK => ?_) AllReadyH.nil
          go_simp
          refine hK.out _ _ trivial (fun hHeld => ?_)
          clear hK K
          try simp only [List.getElem_toArray, List.getElem_cons_succ, List.getElem_cons_zero, Act.put, List.setIfInBounds_toArray, List.set_cons_zero, List.set_cons_succ]
          refine wpAnyH_done (by kernel_rfl) ?_ _
          refine NoPanic.normal ?_
          have hmk := h.next ((Mod.refl (fun _ => False) wr).drew.trans m1) hb hr (by omega) hown2 hg2 hat2
          clear hc0 h hr hown2 hg2 hat2 m1 t0 t0' t2 f2 l2
          go_wp2_with fail
          go_roundw
          case rel => exact ⟨k + 1, upd bs k b, A2, n2, c2, by omega, by go_num, hmk⟩
          case measure => simp [intOf]; omega
    · have hkp : k = ps := by omega
      obtain ⟨a, ha1, ha2, ha3⟩ := h.done (by omega) (by omega)
      have d1 : decide ((k : Int) < (ps : Int)) = false := decide_eq_false (by omega)
      have d2 : decide (k < ps) = false := decide_eq_false hk2
      clear hkp
      go_wp2
      go_ret2
      exact ⟨a, by rw [ha1]; rfl, by omega, ha3⟩

end Go.Proofs.Ytgojfccaohngaaa
