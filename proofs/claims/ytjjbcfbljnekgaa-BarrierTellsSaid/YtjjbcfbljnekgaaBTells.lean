/-
  treadmilllaw19.BarrierTells: the walk.
-/
import Derived.Test.YtjjbcfbljnekgaaBTold
import Derived.Test.YtjjbcfbljnekgaaRPut
import Derived.Test.YtjjbcfbljnekgaaBArgs
namespace Go.Proofs.Ytjjbcfbljnekgaa
open Go.RowKit

def rl (l : List Int) : List Int := l.foldl rins []
theorem rl_snoc (l : List Int) (x : Int) : rl (l ++ [x]) = rins (rl l) x := by unfold rl; rw [List.foldl_append]; rfl
theorem rl_all (l : List Int) : (rl l).Pairwise (· < ·) ∧ (∀ z, z ∈ rl l ↔ z ∈ l) ∧ (rl l).length ≤ l.length := by
  have key : ∀ (l a : List Int), a.Pairwise (· < ·) → (l.foldl rins a).Pairwise (· < ·) ∧ (∀ z, z ∈ l.foldl rins a ↔ z ∈ a ∨ z ∈ l) ∧ (l.foldl rins a).length ≤ a.length + l.length := by
    intro l
    induction l with
    | nil => intro a ha; exact ⟨ha, by simp, by simp⟩
    | cons x l ih =>
      intro a ha
      obtain ⟨h1, h2, h3⟩ := ih (rins a x) (rins_rise a x ha)
      refine ⟨h1, fun z => ?_, ?_⟩
      · rw [List.foldl_cons, h2, rins_mem, List.mem_cons]
        constructor
        · rintro ((h | h) | h) <;> simp [h]
        · rintro (h | h | h) <;> simp [h]
      · have := rins_len a x
        simp only [List.foldl_cons, List.length_cons]
        omega
  obtain ⟨h1, h2, h3⟩ := key l [] List.Pairwise.nil
  exact ⟨h1, fun z => by rw [rl, h2]; simp, by simpa [rl] using h3⟩
theorem rise_ext (a b : List Int) (ha : a.Pairwise (· < ·)) (hb : b.Pairwise (· < ·)) (h : ∀ z, z ∈ a ↔ z ∈ b) : a = b := by
  induction a generalizing b with
  | nil =>
    cases b with
    | nil => rfl
    | cons y b => have := (h y).2 (by simp); simp at this
  | cons x a ih =>
    cases b with
    | nil => have := (h x).1 (by simp); simp at this
    | cons y b =>
      rw [List.pairwise_cons] at ha hb
      have h1 := (h x).1 (by simp)
      have h2 := (h y).2 (by simp)
      have exy : x = y := by
        rcases List.mem_cons.1 h1 with e | e
        · exact e
        · rcases List.mem_cons.1 h2 with e2 | e2
          · exact e2.symm
          · have := hb.1 x e; have := ha.1 y e2; omega
      subst exy
      congr 1
      refine ih b ha.2 hb.2 (fun z => ?_)
      constructor
      · intro hz
        have h3 := ha.1 z hz
        rcases List.mem_cons.1 ((h z).1 (List.mem_cons_of_mem _ hz)) with e | e
        · omega
        · exact e
      · intro hz
        have h3 := hb.1 z hz
        rcases List.mem_cons.1 ((h z).2 (List.mem_cons_of_mem _ hz)) with e | e
        · omega
        · exact e
theorem told1_all (l : List Int) : (told1 l).Nodup ∧ ∀ z, z ∈ told1 l ↔ z ∈ l ∧ z ≠ 0 := by
  have key : ∀ (l a : List Int), a.Nodup → (l.foldl add1 a).Nodup ∧ ∀ z, z ∈ l.foldl add1 a ↔ z ∈ a ∨ (z ∈ l ∧ z ≠ 0) := by
    intro l
    induction l with
    | nil => intro a ha; exact ⟨ha, by simp⟩
    | cons x l ih =>
      intro a ha
      have ha' : (add1 a x).Nodup ∧ ∀ z, z ∈ add1 a x ↔ z ∈ a ∨ (z = x ∧ z ≠ 0) := by
        unfold add1
        split
        · rename_i h
          refine ⟨ha, fun z => ⟨.inl, ?_⟩⟩
          rintro (h2 | ⟨rfl, h2⟩)
          · exact h2
          · rcases h with h | h
            · exact absurd h h2
            · exact h
        · rename_i h
          rw [not_or] at h
          refine ⟨List.nodup_append.2 ⟨ha, by simp, fun p hp q hq => ?_⟩, fun z => ?_⟩
          · simp at hq; subst hq; rintro rfl; exact h.2 hp
          · rw [List.mem_append, List.mem_singleton]
            constructor
            · rintro (h2 | rfl)
              · exact .inl h2
              · exact .inr ⟨rfl, h.1⟩
            · rintro (h2 | ⟨rfl, _⟩)
              · exact .inl h2
              · exact .inr rfl
      obtain ⟨h1, h2⟩ := ih (add1 a x) ha'.1
      refine ⟨h1, fun z => ?_⟩
      rw [List.foldl_cons, h2, ha'.2, List.mem_cons]
      constructor
      · rintro ((h | ⟨h, h'⟩) | ⟨h, h'⟩) <;> simp_all
      · rintro (h | ⟨h | h, h'⟩) <;> simp_all
  obtain ⟨h1, h2⟩ := key l [] List.nodup_nil
  exact ⟨h1, fun z => by rw [told1, h2]; simp⟩
theorem tells_eq (ps : List (Int × Int)) : rl (flushed ps) = (rl (nums ps)).erase 0 := by
  obtain ⟨a1, a2, _⟩ := rl_all (flushed ps)
  obtain ⟨b1, b2, _⟩ := rl_all (nums ps)
  have hn : (rl (nums ps)).Nodup := b1.imp (fun h e => by omega)
  refine rise_ext _ _ a1 (b1.sublist List.erase_sublist) (fun z => ?_)
  rw [a2, hn.mem_erase_iff, b2, flushed, (told1_all (nums ps)).2]
  constructor <;> (rintro ⟨h1, h2⟩; exact ⟨h2, h1⟩)
theorem rins_two (ps : List (Int × Int)) (x y : Int) : rl (nums (ps ++ [(x, y)])) = rins (rins (rl (nums ps)) x) y := by
  have e : nums (ps ++ [(x, y)]) = nums ps ++ [x] ++ [y] := by simp [nums]
  rw [e, rl_snoc, rl_snoc]
theorem bput_room (ps : List (Int × Int)) (x y : Int) (h : ps.length < 16) (h0 : ¬ (x = 0 ∧ y = 0)) : bput ps x y = ps ++ [(x, y)] := by unfold bput; rw [if_pos h, if_neg h0]
theorem bput_zero (ps : List (Int × Int)) : bput ps 0 0 = ps := by unfold bput; simp
theorem bput_no (ps : List (Int × Int)) (x y : Int) (h : ¬ ps.length < 16) : bput ps x y = ps := by unfold bput; rw [if_neg h]

theorem pair_new (w : World) (x y : Int) : (w.alloc (.cells #[.int .i64 x, .int .i64 y] 31)).cell? ⟨w.heap.size, 0, none⟩ = some (.int .i64 x) ∧ (w.alloc (.cells #[.int .i64 x, .int .i64 y] 31)).cell? ⟨w.heap.size, 1, none⟩ = some (.int .i64 y) := by
  have hh := heap_alloc_new w (.cells #[.int .i64 x, .int .i64 y] 31)
  exact ⟨cell_of_row _ _ 0 _ 31 (0, 0) hh, cell_of_row _ _ 1 _ 31 (0, 0) hh⟩

theorem tells_long (A : Option Addr) (n c : Nat) (w : World) (hn : ¬ n ≤ 40) : Calls Try.prog 4 #[.slice A n c] w fun e w' => e = .returned (.bool true) ∧ Mod (fun _ => False) w w' := by
  have hd : decide (40 < n) = true := by simp; omega
  go_enter Try.func4, Try.ntmps4
  go_wp2_with fail
  refine (told19 _).mono ?_
  rintro e w1 ⟨rfl, m1⟩
  go_wp2
  go_ret
  exact ⟨rfl, m1⟩

set_option maxHeartbeats 4000000 in
set_option maxRecDepth 100000 in
theorem tells_true (A : Option Addr) (n c : Nat) (ps : List (Int × Int)) (w : World) (hp : IsP w A n ps) : Calls Try.prog 4 #[.slice A n c] w fun e w' => e = .returned (.bool true) ∧ Mod (fun _ => False) w w' := by
  by_cases hn : n ≤ 40
  case neg => exact tells_long A n c w hn
  have hd : decide (40 < n) = false := by simp; omega
  go_enter Try.func4, Try.ntmps4
  go_wp2_with fail
  refine (bnew _).mono ?_
  rintro e w1 ⟨b, rfl, hb, hrb, m1⟩
  have hSb : ∀ i, i = b → w.heap.size ≤ i := fun i hi => by subst hi; exact hb
  have hbl := hrb.lt
  go_wp2_with fail
  go_loopw [4, 5, 6] (fun v q i wr => ∃ (k : Nat) (A' : Option Addr) (n' c' : Nat) (P : List (Int × Int)), k ≤ n ∧ i = .int .i64 k ∧ v = .slice A' n' c' ∧ q = .int .i64 P.length ∧ Barrier wr b P ∧ IsL wr A' n' c' (rl (nums P)) ∧ TyL wr A' ∧ Mod (fun _ => False) w wr) (fun _ _ i _ => n - (intOf i).toNat)
  case atStart => exact ⟨0, none, 0, 0, [], by omega, rfl, rfl, rfl, hrb, IsL.nil _, TyL.nil _, m1⟩
  case round =>
    obtain ⟨k, A', n', c', P, hk, rfl, rfl, rfl, hr, hl, ht, hm⟩ := hrel
    have hP := hr.len
    have hn' : n' ≤ 32 := by
      have h1 := (rl_all (nums P)).2.2
      rw [hl.len, nums_len] at h1
      omega
    by_cases hkn : k < n
    · obtain ⟨g, o, rfl, hgl, hc⟩ := (hp.keep hm (fun _ _ h => h)).2 (by omega)
      have hck := hc k hkn
      obtain ⟨x, hx⟩ : ∃ x, x = (ps.getD k (0, 0)).1 := ⟨_, rfl⟩
      obtain ⟨y, hy⟩ : ∃ y, y = (ps.getD k (0, 0)).2 := ⟨_, rfl⟩
      rw [← hx, ← hy] at hck
      obtain ⟨hcx0, hcy0⟩ := hck
      have hcx : wr.cell? ⟨g, o + k * 2, none⟩ = some (.int .i64 x) := by rw [Nat.mul_comm]; exact hcx0
      have hcy : wr.cell? ⟨g, o + k * 2 + 1, none⟩ = some (.int .i64 y) := by rw [Nat.mul_comm, Nat.add_assoc]; exact hcy0
      clear hc hx hy hcx0 hcy0
      obtain ⟨N, hN⟩ : ∃ N, N = P.length := ⟨_, rfl⟩
      rw [← hN] at hP
      rw [← hN]
      have HN := Lib.hid hN
      clear hN
      have mA : Mod (fun _ => False) wr (wr.alloc (.cells #[.int .i64 x, .int .i64 y] 31)) := (Mod.refl _ wr).alloc _
      have hrA := hr.keep mA (fun h => h)
      have hlA := hl.keep0 mA
      have htA := ht.keep mA (fun _ _ h => h)
      have hmA := hm.trans mA
      obtain ⟨cx, cy⟩ := pair_new wr x y
      have hne : wr.heap.size ≠ b := by have := hr.lt; omega
      have hszA : wr.heap.size < (wr.alloc (.cells #[.int .i64 x, .int .i64 y] 31)).heap.size := by simp
      go_wp2_with fail
      refine (bput_any b x y P _ hrA).mono ?_
      rintro e w2 ⟨rfl, hr2, m2⟩
      rw [← HN.out]
      have hm2 := hmA.new m2 hSb
      have cx2 : w2.cell? ⟨wr.heap.size, 0, none⟩ = some (.int .i64 x) := (m2.cell (p := ⟨wr.heap.size, 0, none⟩) hszA hne).trans cx
      have cy2 : w2.cell? ⟨wr.heap.size, 1, none⟩ = some (.int .i64 y) := (m2.cell (p := ⟨wr.heap.size, 1, none⟩) hszA hne).trans cy
      have htb : ∀ g, blk A' = some g → ¬ g = b := by
        obtain ⟨f, hrow, _⟩ := hrA
        exact htA.ne hrow (by decide)
      have hl2 := hlA.keep m2 (fun d hd e => htb d.block (by rw [hd]; rfl) e)
      have ht2 := htA.keep m2 htb
      clear hrA hlA htA hmA hr hl ht hm cx cy hcx hcy m2 mA
      by_cases hN16 : N < 16
      · rw [decide_eq_true hN16]
        have hd1 : decide ((N : Int) < 16) = true := by simp; omega
        have hd2 : decide ((16 : Int) ≤ N) = false := by simp; omega
        by_cases hx0 : x = 0
        · by_cases hy0 : y = 0
          · subst hx0
            subst hy0
            rw [bput_zero] at hr2
            go_wp2
            go_roundw
            case rel => exact ⟨k + 1, A', n', c', P, by omega, by go_num, rfl, by rw [HN.out], hr2, hl2, ht2, hm2⟩
            case measure => simp [intOf]; omega
          · have hxb : (x == 0) = true := by simpa using hx0
            clear hx0
            rw [bput_room _ _ _ (by rw [← HN.out]; exact hN16) (fun h => hy0 h.2)] at hr2
            have hyb : (y == 0) = false := by simpa using hy0
            go_wp2
            have hP1 : (P ++ [(x, y)]).length = N + 1 := by rw [List.length_append, ← HN.out]; rfl
            have hl0 : n' ≤ 32 := hn'
            go_region_held3 (fun W => W.cell? ⟨wr.heap.size, 0, none⟩ = some (.int .i64 x) ∧ W.cell? ⟨wr.heap.size, 1, none⟩ = some (.int .i64 y)) (first | (with_reducible exact ⟨cx4, cy4⟩) | (with_reducible exact ⟨cx3, cy3⟩) | (with_reducible exact ⟨cx2, cy2⟩) | go_keep)
              (first
                | (go_at_call 22
                   have _t := hl3
                   refine (rins_any A3 n3 c3 (rins (rl (nums P)) x) y _ (by first | (with_reducible exact hl3) | exact hl3.keep0 ((Mod.refl _ w3).drew)) (by first | (with_reducible exact ht3) | exact ht3.keep ((Mod.refl (fun _ => False) w3).drew) (fun _ _ h => h)) (by omega)).mono ?_
                   rintro e w4 ⟨A4, n4, c4, rfl, hl4, ht4, m4⟩
                   have m4' : Mod (fun _ => False) w3 w4 := by first | (with_reducible exact m4) | exact (((Mod.refl _ w3).drew).trans m4)
                   have hszA3 : wr.heap.size < w3.heap.size := World.block_lt_of_cell? w3 _ cx3
                   have cx4 : w4.cell? ⟨wr.heap.size, 0, none⟩ = some (.int .i64 x) := (m4'.cell (p := ⟨wr.heap.size, 0, none⟩) hszA3 (fun h => h)).trans cx3
                   have cy4 : w4.cell? ⟨wr.heap.size, 1, none⟩ = some (.int .i64 y) := (m4'.cell (p := ⟨wr.heap.size, 1, none⟩) hszA3 (fun h => h)).trans cy3)
                | (go_at_call 22
                   refine (rins_any A' n' c' (rl (nums P)) x _ (by first | (with_reducible exact hl2) | exact hl2.keep0 ((Mod.refl _ w2).drew)) (by first | (with_reducible exact ht2) | exact ht2.keep ((Mod.refl (fun _ => False) w2).drew) (fun _ _ h => h)) (by omega)).mono ?_
                   rintro e w3 ⟨A3, n3, c3, rfl, hl3, ht3, m3⟩
                   have m3' : Mod (fun _ => False) w2 w3 := by first | (with_reducible exact m3) | exact (((Mod.refl _ w2).drew).trans m3)
                   have hszA2 : wr.heap.size < w2.heap.size := World.block_lt_of_cell? w2 _ cx2
                   have cx3 : w3.cell? ⟨wr.heap.size, 0, none⟩ = some (.int .i64 x) := (m3'.cell (p := ⟨wr.heap.size, 0, none⟩) hszA2 (fun h => h)).trans cx2
                   have cy3 : w3.cell? ⟨wr.heap.size, 1, none⟩ = some (.int .i64 y) := (m3'.cell (p := ⟨wr.heap.size, 1, none⟩) hszA2 (fun h => h)).trans cy2
                   have hn3 : n3 ≤ 33 := by have h1 := rins_len (rl (nums P)) x; rw [hl3.len, hl2.len] at h1; omega))
            go_wp2
            go_roundw
            case rel => exact ⟨k + 1, A4, n4, c4, P ++ [(x, y)], by omega, by go_num, rfl, by rw [hP1]; rfl, (hr2.keep m3' (fun h => h)).keep m4' (fun h => h), by rw [rins_two]; exact hl4, ht4, (hm2.trans m3').trans m4'⟩
            case measure => simp [intOf]; omega
        · have hxb : (x == 0) = false := by simpa using hx0
          rw [bput_room _ _ _ (by rw [← HN.out]; exact hN16) (fun h => hx0 h.1)] at hr2
          go_wp2
          have hP1 : (P ++ [(x, y)]).length = N + 1 := by rw [List.length_append, ← HN.out]; rfl
          have hl0 : n' ≤ 32 := hn'
          go_region_held3 (fun W => W.cell? ⟨wr.heap.size, 0, none⟩ = some (.int .i64 x) ∧ W.cell? ⟨wr.heap.size, 1, none⟩ = some (.int .i64 y)) (first | (with_reducible exact ⟨cx4, cy4⟩) | (with_reducible exact ⟨cx3, cy3⟩) | (with_reducible exact ⟨cx2, cy2⟩) | go_keep)
            (first
              | (go_at_call 22
                 have _t := hl3
                 refine (rins_any A3 n3 c3 (rins (rl (nums P)) x) y _ (by first | (with_reducible exact hl3) | exact hl3.keep0 ((Mod.refl _ w3).drew)) (by first | (with_reducible exact ht3) | exact ht3.keep ((Mod.refl (fun _ => False) w3).drew) (fun _ _ h => h)) (by omega)).mono ?_
                 rintro e w4 ⟨A4, n4, c4, rfl, hl4, ht4, m4⟩
                 have m4' : Mod (fun _ => False) w3 w4 := by first | (with_reducible exact m4) | exact (((Mod.refl _ w3).drew).trans m4)
                 have hszA3 : wr.heap.size < w3.heap.size := World.block_lt_of_cell? w3 _ cx3
                 have cx4 : w4.cell? ⟨wr.heap.size, 0, none⟩ = some (.int .i64 x) := (m4'.cell (p := ⟨wr.heap.size, 0, none⟩) hszA3 (fun h => h)).trans cx3
                 have cy4 : w4.cell? ⟨wr.heap.size, 1, none⟩ = some (.int .i64 y) := (m4'.cell (p := ⟨wr.heap.size, 1, none⟩) hszA3 (fun h => h)).trans cy3)
              | (go_at_call 22
                 refine (rins_any A' n' c' (rl (nums P)) x _ (by first | (with_reducible exact hl2) | exact hl2.keep0 ((Mod.refl _ w2).drew)) (by first | (with_reducible exact ht2) | exact ht2.keep ((Mod.refl (fun _ => False) w2).drew) (fun _ _ h => h)) (by omega)).mono ?_
                 rintro e w3 ⟨A3, n3, c3, rfl, hl3, ht3, m3⟩
                 have m3' : Mod (fun _ => False) w2 w3 := by first | (with_reducible exact m3) | exact (((Mod.refl _ w2).drew).trans m3)
                 have hszA2 : wr.heap.size < w2.heap.size := World.block_lt_of_cell? w2 _ cx2
                 have cx3 : w3.cell? ⟨wr.heap.size, 0, none⟩ = some (.int .i64 x) := (m3'.cell (p := ⟨wr.heap.size, 0, none⟩) hszA2 (fun h => h)).trans cx2
                 have cy3 : w3.cell? ⟨wr.heap.size, 1, none⟩ = some (.int .i64 y) := (m3'.cell (p := ⟨wr.heap.size, 1, none⟩) hszA2 (fun h => h)).trans cy2
                 have hn3 : n3 ≤ 33 := by have h1 := rins_len (rl (nums P)) x; rw [hl3.len, hl2.len] at h1; omega))
          go_wp2
          go_roundw
          case rel => exact ⟨k + 1, A4, n4, c4, P ++ [(x, y)], by omega, by go_num, rfl, by rw [hP1]; rfl, (hr2.keep m3' (fun h => h)).keep m4' (fun h => h), by rw [rins_two]; exact hl4, ht4, (hm2.trans m3').trans m4'⟩
          case measure => simp [intOf]; omega
      · rw [decide_eq_false hN16]
        have hd1 : decide ((N : Int) < 16) = false := by simp; omega
        have hd2 : decide ((16 : Int) ≤ N) = true := by simp; omega
        rw [bput_no _ _ _ (by rw [← HN.out]; exact hN16)] at hr2
        go_wp2
        go_roundw
        case rel => exact ⟨k + 1, A', n', c', P, by omega, by go_num, rfl, by rw [HN.out], hr2, hl2, ht2, hm2⟩
        case measure => simp [intOf]; omega
    · clear hrb hk
      go_wp2_with fail
      refine (out_any A' n' c' _ 0 _ hl ht (by omega)).mono ?_
      rintro e w2 ⟨A2, n2, c2, rfl, hl2, ht2, _, m2⟩
      have hr2 := hr.keep m2 (fun h => h)
      have hm2 := hm.trans m2
      rw [← tells_eq] at hl2
      clear hl ht hr hm m2
      go_wp2_with fail
      refine (blen_any b P _ hr2).mono ?_
      rintro e w3 ⟨rfl, rfl⟩
      go_wp2_with fail
      refine (flush_any b P _ hr2).mono ?_
      rintro e w4 ⟨A4, n4, c4, rfl, hl4, _, hr4, m4⟩
      have htb : ∀ g, blk A2 = some g → ¬ g = b := by
        obtain ⟨f, hrow, _⟩ := hr2
        exact ht2.ne hrow (by decide)
      have hl24 := hl2.keep m4 (fun d hd e => htb d.block (by rw [hd]; rfl) e)
      have hm4 := hm2.new m4 hSb
      obtain ⟨F, hF⟩ : ∃ F, F = flushed P := ⟨_, rfl⟩
      have hnd : F.Nodup := by rw [hF]; exact (told1_all _).1
      have hn4 : n4 ≤ 32 := by
        have h1 := told1_len (nums P)
        rw [← flushed, hl4.len, nums_len] at h1
        omega
      have hn2 : n2 ≤ 32 := by
        have h1 := (rl_all (flushed P)).2.2
        rw [hl2.len, hl4.len] at h1
        omega
      rw [← hF] at hl4 hl24
      clear hr2 hl2 ht2 hm2 m4 htb hF
      go_wp2
      obtain ⟨wa, rfl⟩ : ∃ wa : World, wa = w4 := ⟨_, rfl⟩
      go_loopw [9, 10] (fun v i wr => ∃ (q : Nat) (A5 : Option Addr) (n5 c5 : Nat), q ≤ n4 ∧ i = .int .i64 q ∧ v = .slice A5 n5 c5 ∧ IsL wr A5 n5 c5 (rl (F.take q)) ∧ TyL wr A5 ∧ IsL wr A4 n4 c4 F ∧ IsL wr A2 n2 c2 (rl F) ∧ Barrier wr b [] ∧ Mod (fun _ => False) w wr) (fun _ i _ => n4 - (intOf i).toNat)
      case atStart => exact ⟨0, none, 0, 0, by omega, rfl, rfl, by simpa [rl] using IsL.nil wa, TyL.nil _, hl4, hl24, hr4, hm4⟩
      case round =>
        clear hl4 hl24 hr4 hm4
        obtain ⟨q, A5, n5, c5, hq, rfl, rfl, hl5, ht5, hl4, hl2, hr4, hm4⟩ := hrel
        have hn5 : n5 ≤ 32 := by
          have h1 := (rl_all (F.take q)).2.2
          rw [hl5.len, List.length_take, hl4.len] at h1
          omega
        by_cases hqn : q < n4
        · have hqF : q < F.length := by rw [hl4.len]; exact hqn
          obtain ⟨g, o, rfl, hc1⟩ := hl4.at_ hqn
          obtain ⟨x, e1, e2, e3⟩ := drop_cons F (k := q) hqF
          rw [e3] at hc1
          have hnot : decide (x ∈ rl (F.take q)) = false := by
            rw [decide_eq_false_iff_not, (rl_all _).2.1]
            intro hx
            have h1 : (F.take (q + 1)).Nodup := hnd.sublist (List.take_sublist _ _)
            rw [e2, List.nodup_append] at h1
            exact h1.2.2 x hx x (by simp) rfl
          have hsn : rl (F.take (q + 1)) = rins (rl (F.take q)) x := by rw [e2, rl_snoc]
          have HS := Lib.hid hsn
          have HD := Lib.hid hnot
          clear hsn hnot e1 e2 e3
          go_wp2_with fail
          refine (has_any _ n5 c5 _ x _ hl5 (by omega)).mono ?_
          rintro e w6 ⟨rfl, rfl⟩
          rw [HD.out]
          go_wp2_with fail
          refine (rins_any _ n5 c5 _ x _ hl5 ht5 (by omega)).mono ?_
          rintro e w7 ⟨A7, n7, c7, rfl, hl7, ht7, m7⟩
          rw [← HS.out] at hl7
          go_wp2
          go_roundw
          case rel => exact ⟨q + 1, A7, n7, c7, by omega, by go_num, rfl, hl7, ht7, hl4.keep0 m7, hl2.keep0 m7, hr4.keep m7 (fun h => h), hm4.trans m7⟩
          case measure => simp [intOf]; omega
        · have htk : F.take q = F := List.take_of_length_le (by rw [hl4.len]; omega)
          rw [htk] at hl5
          clear htk
          go_wp2_with fail
          refine (told19 _).mono ?_
          rintro e w8 ⟨rfl, m8⟩
          go_wp2_with fail
          refine (ints_any _ _ _ _ _ _ _ _ _ (hl5.keep0 m8) (hl2.keep0 m8) (by omega) (by omega)).mono ?_
          rintro e w9 ⟨rfl, k9, rfl⟩
          have m9 := (m8.drewN k9)
          have hr9 := hr4.keep m9 (fun h => h)
          rw [decide_eq_true rfl]
          go_wp2_with fail
          refine (blen_any b _ _ hr9).mono ?_
          rintro e w10 ⟨rfl, rfl⟩
          go_wp2_with fail
          refine (flush_any b _ _ hr9).mono ?_
          rintro e w11 ⟨A11, n11, c11, rfl, hl11, _, _, m11⟩
          have hn11 : n11 = 0 := hl11.len.symm
          subst hn11
          go_wp2
          go_ret
          exact ⟨rfl, (hm4.trans m9).new m11 hSb⟩

theorem tells_row (A : Option Addr) (n c : Nat) (ps : List (Int × Int)) (w : World) (_ : n ≤ maxLen) (hp : IsP w A n ps) : Calls Try.prog 4 #[.slice A n c] w fun e w' => e = .returned (.bool true) ∧ Mod (fun _ => False) w w' := tells_true A n c ps w hp

end Go.Proofs.Ytjjbcfbljnekgaa
