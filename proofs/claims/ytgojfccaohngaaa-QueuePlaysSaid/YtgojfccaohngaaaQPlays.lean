/-
  treadmilllaw11.QueuePlays: the walk.
-/
import Derived.Test.YtgojfccaohngaaaQRef
import Derived.Test.YtgojfccaohngaaaQTold
import Derived.Test.YtgojfccaohngaaaQueue2
import Derived.Test.YtgojfccaohngaaaOut
import Derived.Test.YtgojfccaohngaaaOpsQ
import Derived.Test.YtgojfccaohngaaaDuo
import Derived.Deep.RegionHeld3
import Derived.Deep.DeepCutAuto
import Derived.Deep.CutBlock
import Derived.Deep.LoopGhost
import Derived.IntWalk
set_option linter.unusedSimpArgs false
namespace Go.Proofs.Ytgojfccaohngaaa
open Go.RowKit

theorem mod_case (x : Int) (n : Nat) (hn : 0 < n) : ∃ (a : Int) (k : Nat), x.tmod (n : Int) = a ∧ -(n : Int) < a ∧ a < (n : Int) ∧ k < n ∧ (a + (n : Int)).tmod (n : Int) = (k : Int) ∧ (a + (n : Int)) % (n : Int) = (k : Int) := by
  have h1 := Int.tmod_lt_of_pos x (b := (n : Int)) (by omega)
  have h2 : -(n : Int) < x.tmod (n : Int) := by
    have h3 := Int.tmod_lt_of_pos (-x) (b := (n : Int)) (by omega)
    rw [Int.neg_tmod] at h3
    omega
  obtain ⟨a, ha⟩ : ∃ a, a = x.tmod (n : Int) := ⟨_, rfl⟩
  rw [← ha] at h1 h2
  have h4 := Int.emod_nonneg (a + (n : Int)) (b := (n : Int)) (by omega)
  have h5 := Int.emod_lt_of_pos (a + (n : Int)) (b := (n : Int)) (by omega)
  refine ⟨a, ((a + (n : Int)) % (n : Int)).toNat, ha.symm, h2, h1, by omega, ?_, by omega⟩
  rw [Int.tmod_eq_emod_of_nonneg (by omega)]
  omega

def QuP (b : Nat) (L : List Int) (w : World) (S : Nat → Prop) : Prop := ∃ o, Queue w b o L ∧ S = QS b o
theorem QuP.good (b : Nat) (L : List Int) : Good (QuP b L) :=
  ⟨fun w w' S T ⟨o, h, e⟩ mm hs => ⟨o, h.keep mm (hs b (by rw [e]; exact .inl rfl)) (fun k hk => hs k (by rw [e]; exact .inr hk)), e⟩, fun w S ⟨o, h, e⟩ i hi => by
    rw [e] at hi
    rcases hi with rfl | hi
    · exact h.lt.1
    · exact (h.lt.2 i hi).1⟩
theorem RqP.good (r : Nat) (L : List Int) : Good (RqP r L) := ⟨fun _ _ _ _ h mm hs => ArrR.keep h mm hs, fun _ _ h => ArrR.lt h⟩
section
variable {w w' : World} {S : Nat → Prop} {b : Nat} {L : List Int}
theorem qu_put (h : QuP b L w S) (A' : Option Addr) (n' c' : Nat) (l : List Int) (hl : IsL w A' n' c' l) (hb : L.length + n' ≤ 900000) :
    Calls Try.prog 17 #[.pointer (some ⟨b, 0, none⟩), .slice A' n' c'] w (Step w S (QuP b (L ++ l)) (.tuple #[])) := by
  obtain ⟨o, h, rfl⟩ := h
  refine (qput_any b o L A' n' c' l w h hl hb).mono ?_
  rintro e w' ⟨he, o', a1, a2, a3⟩
  refine ⟨he, _, ⟨o', a1, rfl⟩, ?_, a3⟩
  rintro i (rfl | hi)
  · exact .inl (.inl rfl)
  · rcases a2 with e2 | ⟨k, e2, hk⟩
    · exact .inl (.inr (by rw [← e2]; exact hi))
    · rw [e2] at hi; cases hi; exact .inr hk
theorem qu_del (h : QuP b L w S) (g : Int) (hb : L.length ≤ 900000) : Calls Try.prog 30 #[.pointer (some ⟨b, 0, none⟩), .int .i64 g] w (Step w S (QuP b (L.erase g)) (.bool (decide (g ∈ L)))) := by
  obtain ⟨o, h, rfl⟩ := h
  exact (qdel_any b o L g w h hb).mono fun _ _ ⟨he, a1, a2⟩ => ⟨he, _, ⟨o, a1, rfl⟩, fun _ h => .inl h, a2⟩
theorem qu_get (h : QuP b L w S) (ps most : Int) (hb : L.length ≤ 900000) (hps : ps < 9223372036854775808) (hmost : most < 9223372036854775808) :
    Calls Try.prog 19 #[.pointer (some ⟨b, 0, none⟩), .int .i64 ps, .int .i64 most] w fun e w' => ∃ A n c, e = .returned (.slice A n c) ∧ IsL w' A n c (L.take (qtake L.length ps most)) ∧ (∀ d, A = some d → w.heap.size ≤ d.block) ∧
      ∃ S', QuP b (L.drop (qtake L.length ps most)) w' S' ∧ (∀ i, S' i → S i ∨ w.heap.size ≤ i) ∧ Mod S w w' := by
  obtain ⟨o, h, rfl⟩ := h
  refine (qget_any b o L ps most w h hb hps hmost).mono ?_
  rintro e w' ⟨A, n, c, he, a1, ⟨o', a2, a3, a4⟩, a5⟩
  refine ⟨A, n, c, he, a1, fun d hd => (a4 d hd).1, _, ⟨o', a2, rfl⟩, ?_, a5.mono (fun i _ e => .inl e)⟩
  rintro i (rfl | hi)
  · exact .inl (.inl rfl)
  · exact .inr (a3 i hi)
end
section
variable {W w w' : World} {Pr Rf Rf' : World → (Nat → Prop) → Prop} {q : Nat} {t : TypeId} {m : Nat} {f : Nat → Value}
/-- The reference's structure is written in place. -/
theorem Duo.refW (gP : Good Pr) (h : Duo W w Pr Rf q t m f) (hc : ∀ T, Rf w T → ∃ T', Rf' w' T' ∧ (∀ i, T' i → T i ∨ w.heap.size ≤ i) ∧ Mod T w w') : Duo W w' Pr Rf' q t m f := by
  obtain ⟨S, T, h1, h2, h3, h4, h5, h6, h7⟩ := h
  obtain ⟨T', a1, a2, a3⟩ := hc T h2
  refine ⟨S, T', gP.keep _ _ _ _ h1 a3 (fun i hi hs => (h3 i hi).2.1 hs), a1, fun i hi => ⟨(h3 i hi).1, fun ht => ?_, (h3 i hi).2.2⟩, fun i hi => ?_, a3.rowIs h5 (fun hs => (h4 q hs).2 rfl), h6, h7.new a3 (fun i hi => (h4 i hi).1)⟩
  · rcases a2 i ht with h8 | h8
    · exact (h3 i hi).2.1 h8
    · have := gP.lt _ _ h1 i hi; omega
  · rcases a2 i hi with h8 | h8
    · exact h4 i h8
    · refine ⟨Nat.le_trans h7.size h8, fun e => ?_⟩
      have := h5.lt; omega
end
theorem ints_sameM (A A' : Option Addr) (n n' c c' : Nat) (l : List Int) (w : World) (h : IsL w A n c l) (h' : IsL w A' n' c' l) (hn : n ≤ 900000) :
    Calls Try.prog 27 #[.slice A n c, .slice A' n' c'] w fun e w' => e = .returned (.bool true) ∧ Mod (fun _ => False) w w' := by
  have hnn : n' = n := by rw [← h.len, ← h'.len]
  refine (ints_any A A' n n' c c' l l w h h' hn (by omega)).mono ?_
  rintro e w' ⟨rfl, k, rfl⟩
  exact ⟨by simp, (Mod.refl _ w).drewN k⟩
theorem cell_ne {w : World} {q r i j : Nat} {v u : Value} (h : w.cell? ⟨q, i, none⟩ = some v) (hne : q ≠ r) : (w.setCell ⟨r, j, none⟩ u).cell? ⟨q, i, none⟩ = some v := by
  rw [← h]
  exact World.cell?_setCell_far w _ _ _ (fun e => hne e.symm)
def opf (kd ps most g : Int) (v : Value) : Nat → Value := fun i => if i = 0 then .int .i64 kd else if i = 1 then .int .i64 ps else if i = 2 then .int .i64 most else if i = 3 then .int .i64 g else v
theorem opf_at (kd ps most g : Int) (v : Value) : ∀ i, i < (#[Value.int .i64 kd, .int .i64 ps, .int .i64 most, .int .i64 g, v] : Array Value).size → (#[Value.int .i64 kd, .int .i64 ps, .int .i64 most, .int .i64 g, v] : Array Value)[i]? = some (opf kd ps most g v i) := by
  intro i hi
  have h3 : i = 0 ∨ i = 1 ∨ i = 2 ∨ i = 3 ∨ i = 4 := by simp at hi; omega
  rcases h3 with rfl | rfl | rfl | rfl | rfl <;> rfl

set_option maxHeartbeats 16000000 in
set_option maxRecDepth 100000 in
theorem qplays_true (A : Option Addr) (n c : Nat) (l : List OpQ) (w : World) (_ : n ≤ maxLen) (hl : IsQ w A n l) :
    Calls Try.prog 6 #[.slice A n c] w fun e w' => e = .returned (.bool true) ∧ Mod (fun _ => False) w w' := by
  go_enter Try.func6, Try.ntmps6
  go_wp2_with fail
  refine (new_queue w).mono ?_
  rintro e w1 ⟨b, rfl, hb, hq1, m1⟩
  go_wp2_with fail
  have ma : Mod (fun _ => False) w1 (w1.alloc (.cells #[.slice none 0 0] 42)) := (Mod.refl _ w1).alloc _
  have hr1 : ArrR 1 42 (w1.alloc (.cells #[.slice none 0 0] 42)) (fun i => i = w1.heap.size) w1.heap.size (fun _ => []) := ArrR.new (by decide) w1 _ rfl (fun i hi => by
    obtain rfl : i = 0 := by omega
    rfl)
  have h0 : Duo0 w (w1.alloc (.cells #[.slice none 0 0] 42)) (QuP b []) (RqP w1.heap.size []) := by
    refine ⟨_, _, ⟨_, hq1.keep ma (fun h => h) (fun _ _ h => h), rfl⟩, hr1, fun i hi => ⟨?_, fun e => ?_⟩, fun i hi => by rw [hi]; exact m1.size, m1.trans ma⟩
    · rcases hi with rfl | hi
      · exact hb
      · cases hi
    · rcases hi with rfl | hi
      · have := hq1.lt.1; omega
      · cases hi
  obtain ⟨r, hr⟩ : ∃ r, r = w1.heap.size := ⟨_, rfl⟩
  rw [← hr] at h0 ⊢
  clear hr hr1 hq1 m1 ma hb
  go_loopw [5] (fun i wr => ∃ (m : Nat) (L : List Int), m ≤ n ∧ m ≤ 60 ∧ i = .int .i64 m ∧ Duo0 w wr (QuP b L) (RqP r L) ∧ L.length ≤ m * 40) (fun i _ => n - (intOf i).toNat)
  case atStart => exact ⟨0, _, by omega, by omega, rfl, h0, by simp⟩
  case round =>
    clear h0
    obtain ⟨m, L, hm, hm6, rfl, h, hlen⟩ := hrel
    by_cases hmn : m < n
    · by_cases hm60 : m < 60
      · obtain ⟨g, o, rfl, hg, hcw⟩ := hl.2 (by omega)
        obtain ⟨b0, b1, b2, b3, b4, hbd, hnm, hrd⟩ := hcw m hmn
        generalize l.getD m OpQ.zero = op at b0 b1 b2 b3 b4 hbd hnm hrd
        obtain ⟨kd, ps, most, gg, D, nD, cD, lD⟩ := op
        have hc0 := (h.mod.cell (p := ⟨g, o + m * 5, none⟩) hg (fun h => h)).trans b0
        have hc1 := (h.mod.cell (p := ⟨g, o + m * 5 + 1, none⟩) hg (fun h => h)).trans b1
        have hc2 := (h.mod.cell (p := ⟨g, o + m * 5 + 2, none⟩) hg (fun h => h)).trans b2
        have hc3 := (h.mod.cell (p := ⟨g, o + m * 5 + 3, none⟩) hg (fun h => h)).trans b3
        have hc4 := (h.mod.cell (p := ⟨g, o + m * 5 + 4, none⟩) hg (fun h => h)).trans b4
        clear b0 b1 b2 b3 b4 hcw
        have hc0 : wr.cell? ⟨g, o + m * 5, none⟩ = some (.int .i64 kd) := hc0
        have hc1 : wr.cell? ⟨g, o + m * 5 + 1, none⟩ = some (.int .i64 ps) := hc1
        have hc2 : wr.cell? ⟨g, o + m * 5 + 2, none⟩ = some (.int .i64 most) := hc2
        have hc3 : wr.cell? ⟨g, o + m * 5 + 3, none⟩ = some (.int .i64 gg) := hc3
        have hc4 : wr.cell? ⟨g, o + m * 5 + 4, none⟩ = some (.slice D nD cD) := hc4
        have hps : ps < 9223372036854775808 := hbd.1
        have hmost : most < 9223372036854775808 := hbd.2
        have hnm : nD ≤ maxLen := hnm
        have hrd : RdL w D nD cD lD := hrd
        have hd1 : decide (m < n) = true := decide_eq_true hmn
        have hd2 : decide ((m : Int) < 60) = true := decide_eq_true (by omega)
        have hd3 : decide (m < 60) = true := decide_eq_true hm60
        have hi0 : (0 : Int) ≤ (m : Int) := by omega
        have hi1 : (m : Int) < (n : Int) := by omega
        have hq := h.alloc (QuP.good _ _) (RqP.good _ _) #[.int .i64 kd, .int .i64 ps, .int .i64 most, .int .i64 gg, .slice D nD cD] 44 (opf kd ps most gg (.slice D nD cD)) (opf_at kd ps most gg _)
        clear hbd
        by_cases hn40 : nD ≤ 40
        · have hd4 : decide ((40 : Int) < (nD : Int)) = false := decide_eq_false (by omega)
          have hd5 : decide (40 < nD) = false := decide_eq_false (by omega)
          obtain ⟨x, k, hx, hx1, hx2, hk, hx3, hx4⟩ := mod_case kd 5 (by omega)
          have hx' : kd.tmod 5 = x := hx
          have hx3' : (x + 5).tmod 5 = (k : Int) := hx3
          have hx4' : (x + 5) % 5 = (k : Int) := hx4
          have hx1' : -5 < x := hx1
          have hx2' : x < 5 := hx2
          clear hx hx3 hx4 hx1 hx2 h
          go_upto_block 2 with (fail)
          generalize hwq : wr.alloc (.cells #[.int .i64 kd, .int .i64 ps, .int .i64 most, .int .i64 gg, .slice D nD cD] 44) = wq at hq ⊢
          generalize hqq : wr.heap.size = q at hq ⊢
          clear hwq hqq
          have hc1 : wq.cell? ⟨q, 1, none⟩ = some (.int .i64 ps) := hq.row.cell (i := 1) (by simp)
          have hc2 : wq.cell? ⟨q, 2, none⟩ = some (.int .i64 most) := hq.row.cell (i := 2) (by simp)
          have hc3 : wq.cell? ⟨q, 3, none⟩ = some (.int .i64 gg) := hq.row.cell (i := 3) (by simp)
          have hc4 : wq.cell? ⟨q, 4, none⟩ = some (.slice D nD cD) := hq.row.cell (i := 4) (by simp)
          have hL9 : L.length ≤ 2400 := by omega
          clear hx' hx3' hx4' hx1' hx2' hc0
          go_cut [7] (fun _ wx => ∃ L2, Duo w wx (QuP b L2) (RqP r L2) q 44 5 (opf kd ps most gg (.slice D nD cD)) ∧ L2.length ≤ (m + 1) * 40)
          case first =>
            have hks : k = 0 ∨ k = 1 ∨ k = 2 ∨ k = 3 ∨ k = 4 := by omega
            rcases hks with rfl | rfl | rfl | rfl | rfl
            · have tok1 : True := trivial
              have hc4q : (wq.alloc (.cells #[] 3)).cell? ⟨q, 4, none⟩ = some (.slice D nD cD) := (((Mod.refl (fun _ => False) wq).alloc _).cell (p := ⟨q, 4, none⟩) hq.row.lt (fun h => h)).trans hc4
              go_wp2_with (at_builtin; have _t := tok1; refine wpList_appR _ rfl (.tmp 63) (.tmp 65) _ rfl Try.underlying27 int_info _ 0 0 [] rfl (OwnL.empty wq) D nD cD lD rfl ((hrd.keep0 hq.mod).alloc _) (by omega) ?_; intro B2 n2 k2 w2 hn1 hn2 hown2 hg2 hat2; clear _t tok1)
              obtain rfl : n2 = nD := by omega
              have M2 : Mod (fun _ => False) wq w2 := ((Mod.refl _ wq).alloc _).grown hg2 (fun k hk => .inr (blk_size wq k hk))
              have hfr : ∀ d, blk B2 = some d → wq.heap.size ≤ d := fresh_app (blk_size wq) (Nat.le_refl _) hat2
              obtain ⟨S, T, p1, p2, p3, p4, p5, p6, p7⟩ := hq
              refine (qu_put ((QuP.good b L).keep _ _ _ _ p1 M2 (fun _ _ h => h)) B2 n2 k2 ([] ++ lD) hown2.isL (by omega)).mono ?_
              rintro e w3 ⟨rfl, S', d1, d2, d3⟩
              have hBS : ∀ g, blk B2 = some g → ¬ S g ∧ ¬ T g ∧ g ≠ q := fun g hg => ⟨fun hs => by have h1 := (QuP.good b L).lt _ _ p1 g hs; have := hfr g hg; omega, fun hs => by have h1 := (RqP.good r L).lt _ _ p2 g hs; have := hfr g hg; omega, fun e => by have h1 := p5.lt; have := hfr g hg; omega⟩
              have hown3 := hown2.keep d3 (fun g hg hs => (hBS g hg).1 hs)
              have hB2lt := hown2.lt
              have e2 := (RqP.good r L).keep _ _ _ _ ((RqP.good r L).keep _ _ _ _ p2 M2 (fun _ _ h => h)) d3 (fun i hi hs => (p3 i hs).2.1 hi)
              have e5 := d3.rowIs (M2.rowIs p5 (fun h => h)) (fun hs => (p3 q hs).2.2 rfl)
              have M3 : Mod (fun _ => False) w w3 := (p7.trans M2).new d3 (fun i hi => (p3 i hi).1)
              have e3 : ∀ i, S' i → w.heap.size ≤ i ∧ ¬ T i ∧ i ≠ q ∧ blk B2 ≠ some i := by
                intro i hi
                rcases d2 i hi with h7 | h7
                · exact ⟨(p3 i h7).1, (p3 i h7).2.1, (p3 i h7).2.2, fun e => (hBS i e).1 h7⟩
                · have s1 := M2.size
                  have s2 := p7.size
                  refine ⟨by omega, fun ht => ?_, fun e => ?_, fun e => ?_⟩
                  · have h1 := (RqP.good r L).lt _ _ p2 i ht; omega
                  · have h1 := p5.lt; omega
                  · have h1 := hB2lt i e; omega
              have hB2w : ∀ g, blk B2 = some g → w.heap.size ≤ g := fun g hg => Nat.le_trans p7.size (hfr g hg)
              clear p1 p2 p3 p5 hown2 M2 hg2 hat2 hfr d2 d3 hc1 hc2 hc3 hc4 hB2lt p7 hc4q
              go_wp2_with fail
              go_loopw [8] (fun i wr => ∃ (k : Nat) (l' : List Int), k ≤ n2 ∧ i = .int .i64 k ∧ OwnL wr B2 n2 k2 l' ∧ QuP b (L ++ ([] ++ lD)) wr S' ∧ RqP r L wr T ∧ wr.rowIs q 44 5 (opf kd ps most gg (.slice D n2 cD)) ∧ Mod (fun _ => False) w wr) (fun i _ => n2 - (intOf i).toNat)
              case atStart => exact ⟨0, _, by omega, rfl, hown3, d1, e2, e5, M3⟩
              case round =>
                clear hown3 d1 e2 e5 M3
                obtain ⟨k, l', hk, rfl, hown, hQ, hR, hrow, hM⟩ := hrel
                by_cases hkn : k < n2
                · have hcap := hown.isL.cap
                  have hle := hown.isL.le
                  have hll := hown.len
                  obtain ⟨gB, fB, rfl, hrB, hfB⟩ := row_of_own hown (by omega)
                  have hcB := hrB.cell (i := k) (by omega)
                  have hzB := hrB.frozen k
                  have hlB := hrB.lt
                  have hk0 : (0 : Int) ≤ (k : Int) := by omega
                  have hk1 : (k : Int) < (n2 : Int) := by omega
                  have mB : Mod (fun i => i = gB) wr (wr.setCell ⟨gB, k, none⟩ (.int .i64 (-7))) := Mod.setCell (Mod.refl (fun i => i = gB) wr) (p := ⟨gB, k, none⟩) (.inl rfl) _
                  have f1 := own_of_row (hrB.set k (.int .i64 (-7))) (l := l'.set k (-7)) (n := n2) (by rw [List.length_set]; exact hll) (by omega) hcap (fun i hi => by
                    rw [List.getD_eq_getElem?_getD, List.getElem?_set]
                    by_cases e : k = i
                    · subst e; simp [hll, hkn]
                    · rw [if_neg e, if_neg (fun h => e h.symm), hfB i hi, List.getD_eq_getElem?_getD])
                  have f2 := (QuP.good b (L ++ ([] ++ lD))).keep _ _ _ _ hQ mB (fun i hi e => (e3 i hi).2.2.2 (by rw [e]; rfl))
                  have f3 := (RqP.good r L).keep _ _ _ _ hR mB (fun i hi e => (hBS gB rfl).2.1 (by rw [← e]; exact hi))
                  have f4 := mB.rowIs hrow (fun e => (hBS gB rfl).2.2 e.symm)
                  have f5 : Mod (fun _ => False) w (wr.setCell ⟨gB, k, none⟩ (.int .i64 (-7))) := hM.new mB (fun i hi => by rw [hi]; exact hB2w gB rfl)
                  clear hown hQ hR hrow hM hrB hfB
                  go_wp2
                  go_roundw
                  case rel => exact ⟨k + 1, _, by omega, by go_num, f1, f2, f3, f4, f5⟩
                  case measure => simp [intOf]; omega
                · have hD : Duo w wr (QuP b (L ++ ([] ++ lD))) (RqP r L) q 44 5 (opf kd ps most gg (.slice D n2 cD)) :=
                    ⟨S', T, hQ, hR, fun i hi => ⟨(e3 i hi).1, (e3 i hi).2.1, (e3 i hi).2.2.1⟩, p4, hrow, p6, hM⟩
                  obtain ⟨B, nB, cB, hc, hLk, hfz, hty, hSB⟩ := ArrR.cell (k := 0) hR (by omega)
                  have hblt := ArrR.lt hR r (ArrR.inS hR)
                  have hlB : nB ≤ 2400 := by rw [← hLk.len]; exact hL9
                  have hrdw := hrd.keep0 hM
                  have hc4 : wr.cell? ⟨q, 4, none⟩ = some (.slice D n2 cD) := hrow.cell (i := 4) (by simp)
                  have hqlt := hrow.lt
                  have hcE : (wr.alloc (.cells #[] 3)).cell? ⟨r, 0, none⟩ = some (.slice B nB cB) := (((Mod.refl (fun _ => False) wr).alloc _).cell (p := ⟨r, 0, none⟩) hblt (fun h => h)).trans hc
                  have hc4E : (wr.alloc (.cells #[] 3)).cell? ⟨q, 4, none⟩ = some (.slice D n2 cD) := (((Mod.refl (fun _ => False) wr).alloc _).cell (p := ⟨q, 4, none⟩) hqlt (fun h => h)).trans hc4
                  have hqr : q ≠ r := fun e => (p4 r (ArrR.inS hR)).2 e.symm
                  clear hown hQ
                  go_wp2_with fail
                  refine wp_region_noPanic ?_
                  refine wp_region_held_drew (S := fun W => W.cell? ⟨q, 4, none⟩ = some (.slice D n2 cD)) (by kernel_rfl) hc4 (fun hHeld => ?_)
                  (refine wpAnyH_take (i := 0) (v := ?_) rfl (by kernel_rfl) (by kernel_rfl) (by kernel_rfl) (fun _ _ _ h => h) (Or.inl ⟨by kernel_rfl, ?_⟩) (by assumption) ?_; rotate_left; focus (intro wq hSw; (try dsimp only at hSw); go_simp; try with_reducible rfl); try simp only [List.getElem_toArray, List.getElem_cons_succ, List.getElem_cons_zero, Act.put, List.setIfInBounds_toArray, List.set_cons_zero, List.set_cons_succ])
                  (refine wpAnyH_take (i := 2) (v := ?_) rfl (by kernel_rfl) (by kernel_rfl) (by kernel_rfl) (fun _ _ _ h => h) (Or.inl ⟨by kernel_rfl, ?_⟩) (by assumption) ?_; rotate_left; focus (intro wq hSw; (try dsimp only at hSw); go_simp; try with_reducible rfl); try simp only [List.getElem_toArray, List.getElem_cons_succ, List.getElem_cons_zero, Act.put, List.setIfInBounds_toArray, List.set_cons_zero, List.set_cons_succ])
                  (refine wpAnyH_take (i := 3) (v := ?_) rfl (by kernel_rfl) (by kernel_rfl) (by kernel_rfl) (fun _ _ _ h => h) (Or.inl ⟨by kernel_rfl, ?_⟩) (by assumption) ?_; rotate_left; focus (intro wq hSw; (try dsimp only at hSw); go_simp; try with_reducible rfl); try simp only [List.getElem_toArray, List.getElem_cons_succ, List.getElem_cons_zero, Act.put, List.setIfInBounds_toArray, List.set_cons_zero, List.set_cons_succ])
                  (refine wpAnyH_take (i := 4) (v := ?_) rfl (by kernel_rfl) (by kernel_rfl) (by kernel_rfl) (fun _ _ _ h => h) (Or.inl ⟨by kernel_rfl, ?_⟩) (by assumption) ?_; rotate_left; focus (intro wq hSw; (try dsimp only at hSw); go_simp; try with_reducible rfl); try simp only [List.getElem_toArray, List.getElem_cons_succ, List.getElem_cons_zero, Act.put, List.setIfInBounds_toArray, List.set_cons_zero, List.set_cons_succ])
                  (refine wpAnyH_take (i := 7) (v := ?_) rfl (by kernel_rfl) (by kernel_rfl) (by kernel_rfl) (fun _ _ _ h => h) (Or.inl ⟨by kernel_rfl, ?_⟩) (by assumption) ?_; rotate_left; focus (intro wq hSw; (try dsimp only at hSw); go_simp; try with_reducible rfl); try simp only [List.getElem_toArray, List.getElem_cons_succ, List.getElem_cons_zero, Act.put, List.setIfInBounds_toArray, List.set_cons_zero, List.set_cons_succ])
                  (refine wpAnyH_take (i := 8) (v := ?_) rfl (by kernel_rfl) (by kernel_rfl) (by kernel_rfl) (fun _ _ _ h => h) (Or.inl ⟨by kernel_rfl, ?_⟩) (by assumption) ?_; rotate_left; focus (intro wq hSw; (try dsimp only at hSw); go_simp; try with_reducible rfl); try simp only [List.getElem_toArray, List.getElem_cons_succ, List.getElem_cons_zero, Act.put, List.setIfInBounds_toArray, List.set_cons_zero, List.set_cons_succ])
                  refine wpAnyH_ready (rs := [1, 5]) (by kernel_rfl) (by simp) ?_
                  refine AllReadyH.cons rfl (fun K hK => ?_) (AllReadyH.cons rfl (fun K hK => ?_) AllReadyH.nil)
                  · go_simp
                    refine hK.out _ _ hc4E (fun hHeld => ?_)
                    clear hK K
                    try simp only [List.getElem_toArray, List.getElem_cons_succ, List.getElem_cons_zero, Act.put, List.setIfInBounds_toArray, List.set_cons_zero, List.set_cons_succ]
                    refine wpAnyH_ready (rs := [5]) (by kernel_rfl) (by simp) ?_
                    refine AllReadyH.cons rfl (fun K hK => ?_) AllReadyH.nil
                    go_simp
                    refine hK.out _ _ hc4E (fun hHeld => ?_)
                    clear hK K
                    try simp only [List.getElem_toArray, List.getElem_cons_succ, List.getElem_cons_zero, Act.put, List.setIfInBounds_toArray, List.set_cons_zero, List.set_cons_succ]
                    refine wpAnyH_ready (rs := [6]) (by kernel_rfl) (by simp) ?_
                    refine AllReadyH.cons rfl (fun K hK => ?_) AllReadyH.nil
                    have o1 : OwnL (wr.alloc (.cells #[] 3)).drew (some ⟨wr.heap.size, 0, none⟩) 0 0 [] := OwnL.empty wr
                    have r1 : IsL (wr.alloc (.cells #[] 3)).drew B nB cB L := hLk.alloc _
                    (with_reducible refine step_app _ (by with_unfolding_all rfl) (.tmp 80) (.tmp 84) _ (by with_unfolding_all rfl) Try.underlying27 int_info _ _ _ _ (by with_unfolding_all rfl) o1 _ _ _ _ (by with_unfolding_all rfl) r1 (by omega) ?_)
                    intro C2 x2 y2 v2 hp1 hp2 own2 hg2 hat2
                    have N2 : Mod (fun _ => False) wr v2 := (((Mod.refl _ wr).alloc _).drew).grown hg2 (fun k hk => .inr (blk_size wr k hk))
                    have fr2 : ∀ d, blk C2 = some d → wr.heap.size ≤ d := fresh_app (blk_size wr) (Nat.le_refl _) hat2
                    have u2 : v2.cell? ⟨q, 4, none⟩ = some (.slice D n2 cD) := (N2.cell (p := ⟨q, 4, none⟩) hqlt (fun h => h)).trans hc4
                    have rd2 := hrdw.keep0 N2
                    refine hK.out _ _ u2 (fun hHeld => ?_)
                    clear hK K
                    try simp only [List.getElem_toArray, List.getElem_cons_succ, List.getElem_cons_zero, Act.put, List.setIfInBounds_toArray, List.set_cons_zero, List.set_cons_succ]
                    refine wpAnyH_ready (rs := [9]) (by kernel_rfl) (by simp) ?_
                    refine AllReadyH.cons rfl (fun K hK => ?_) AllReadyH.nil
                    (with_reducible refine step_appR _ (by with_unfolding_all rfl) (.tmp 85) (.tmp 87) _ (by with_unfolding_all rfl) Try.underlying27 int_info _ _ _ _ (by with_unfolding_all rfl) own2 _ _ _ _ (by with_unfolding_all rfl) rd2 (by omega) ?_)
                    intro C3 x3 y3 v3 hp3 hp4 own3 hg3 hat3
                    have N3 : Mod (fun _ => False) wr v3 := N2.grown hg3 (fun k hk => .inr (fr2 k hk))
                    have fr3 : ∀ d, blk C3 = some d → wr.heap.size ≤ d := fun d hd => by
                      rcases hat3 with e | e
                      · exact fr2 d (by rw [← e]; exact hd)
                      · rw [e] at hd; cases hd; exact N2.size
                    have u3 : v3.cell? ⟨q, 4, none⟩ = some (.slice D n2 cD) := (N3.cell (p := ⟨q, 4, none⟩) hqlt (fun h => h)).trans hc4
                    have tc := (N3.cell (p := ⟨r, 0, none⟩) hblt (fun h => h)).trans hc
                    have tf := (N3.frozen (p := ⟨r, 0, none⟩) hblt (fun h => h)).trans hfz
                    have tb := Nat.lt_of_lt_of_le hblt N3.size
                    refine hK.out _ _ u3 (fun hHeld => ?_)
                    clear hK K
                    try simp only [List.getElem_toArray, List.getElem_cons_succ, List.getElem_cons_zero, Act.put, List.setIfInBounds_toArray, List.set_cons_zero, List.set_cons_succ]
                    (refine wpAnyH_take (i := 10) (v := ?_) rfl (by kernel_rfl) (by kernel_rfl) (by kernel_rfl) (fun _ _ _ h => h) (Or.inl ⟨by kernel_rfl, ?_⟩) (by assumption) ?_; rotate_left; focus (intro wq hSw; (try dsimp only at hSw); go_simp; try with_reducible rfl); try simp only [List.getElem_toArray, List.getElem_cons_succ, List.getElem_cons_zero, Act.put, List.setIfInBounds_toArray, List.set_cons_zero, List.set_cons_succ])
                    (refine wpAnyH_take (i := 11) (v := ?_) rfl (by kernel_rfl) (by kernel_rfl) (by kernel_rfl) (fun _ _ _ h => h) (Or.inl ⟨by kernel_rfl, ?_⟩) (by assumption) ?_; rotate_left; focus (intro wq hSw; (try dsimp only at hSw); go_simp; try with_reducible rfl); try simp only [List.getElem_toArray, List.getElem_cons_succ, List.getElem_cons_zero, Act.put, List.setIfInBounds_toArray, List.set_cons_zero, List.set_cons_succ])
                    refine wpAnyH_ready (rs := [12]) (by kernel_rfl) (by simp) ?_
                    refine AllReadyH.cons rfl (fun K hK => ?_) AllReadyH.nil
                    go_simp
                    refine hK.out _ _ (cell_ne u3 hqr) (fun hHeld => ?_)
                    clear hK K
                    try simp only [List.getElem_toArray, List.getElem_cons_succ, List.getElem_cons_zero, Act.put, List.setIfInBounds_toArray, List.set_cons_zero, List.set_cons_succ]
                    refine wpAnyH_done (by kernel_rfl) ?_ _
                    refine NoPanic.normal ?_
                    have h4 : Duo w (v3.setCell ⟨r, 0, none⟩ (.slice C3 x3 y3)) (QuP b (L ++ ([] ++ lD))) (RqP r ([] ++ L ++ lD)) q 44 5 (opf kd ps most gg (.slice D n2 cD)) := hD.refW (QuP.good _ _) (fun T2 hT2 => by
                      obtain ⟨T', a1, a2, a3⟩ := ArrR.set (k := 0) hT2 (by omega) N3 own3.isL own3.ty (fun d hd => .inr (fr3 d hd))
                      exact ⟨T', a1.congr (rq_upd _ _), a2, a3⟩)
                    have hlen2 : (L ++ lD).length ≤ (m + 1) * 40 := by have := hrd.1; rw [List.length_append]; omega
                    have h4' : Duo w (v3.setCell ⟨r, 0, none⟩ (.slice C3 x3 y3)) (QuP b (L ++ lD)) (RqP r (L ++ lD)) q 44 5 (opf kd ps most gg (.slice D n2 cD)) := h4
                    generalize L ++ lD = L2 at h4' hlen2
                    clear hD h4 hc hLk hc4 hcE hc4E hrow hR hM hrdw
                    go_wp2_with fail
                    go_meet
                    case rel => exact ⟨_, h4', hlen2⟩
                  · go_simp
                    refine hK.out _ _ hc4 (fun hHeld => ?_)
                    clear hK K
                    try simp only [List.getElem_toArray, List.getElem_cons_succ, List.getElem_cons_zero, Act.put, List.setIfInBounds_toArray, List.set_cons_zero, List.set_cons_succ]
                    refine wpAnyH_ready (rs := [1]) (by kernel_rfl) (by simp) ?_
                    refine AllReadyH.cons rfl (fun K hK => ?_) AllReadyH.nil
                    go_simp
                    refine hK.out _ _ hc4E (fun hHeld => ?_)
                    clear hK K
                    try simp only [List.getElem_toArray, List.getElem_cons_succ, List.getElem_cons_zero, Act.put, List.setIfInBounds_toArray, List.set_cons_zero, List.set_cons_succ]
                    refine wpAnyH_ready (rs := [6]) (by kernel_rfl) (by simp) ?_
                    refine AllReadyH.cons rfl (fun K hK => ?_) AllReadyH.nil
                    have o1 : OwnL (wr.alloc (.cells #[] 3)).drew (some ⟨wr.heap.size, 0, none⟩) 0 0 [] := OwnL.empty wr
                    have r1 : IsL (wr.alloc (.cells #[] 3)).drew B nB cB L := hLk.alloc _
                    (with_reducible refine step_app _ (by with_unfolding_all rfl) (.tmp 80) (.tmp 84) _ (by with_unfolding_all rfl) Try.underlying27 int_info _ _ _ _ (by with_unfolding_all rfl) o1 _ _ _ _ (by with_unfolding_all rfl) r1 (by omega) ?_)
                    intro C2 x2 y2 v2 hp1 hp2 own2 hg2 hat2
                    have N2 : Mod (fun _ => False) wr v2 := (((Mod.refl _ wr).alloc _).drew).grown hg2 (fun k hk => .inr (blk_size wr k hk))
                    have fr2 : ∀ d, blk C2 = some d → wr.heap.size ≤ d := fresh_app (blk_size wr) (Nat.le_refl _) hat2
                    have u2 : v2.cell? ⟨q, 4, none⟩ = some (.slice D n2 cD) := (N2.cell (p := ⟨q, 4, none⟩) hqlt (fun h => h)).trans hc4
                    have rd2 := hrdw.keep0 N2
                    refine hK.out _ _ u2 (fun hHeld => ?_)
                    clear hK K
                    try simp only [List.getElem_toArray, List.getElem_cons_succ, List.getElem_cons_zero, Act.put, List.setIfInBounds_toArray, List.set_cons_zero, List.set_cons_succ]
                    refine wpAnyH_ready (rs := [9]) (by kernel_rfl) (by simp) ?_
                    refine AllReadyH.cons rfl (fun K hK => ?_) AllReadyH.nil
                    (with_reducible refine step_appR _ (by with_unfolding_all rfl) (.tmp 85) (.tmp 87) _ (by with_unfolding_all rfl) Try.underlying27 int_info _ _ _ _ (by with_unfolding_all rfl) own2 _ _ _ _ (by with_unfolding_all rfl) rd2 (by omega) ?_)
                    intro C3 x3 y3 v3 hp3 hp4 own3 hg3 hat3
                    have N3 : Mod (fun _ => False) wr v3 := N2.grown hg3 (fun k hk => .inr (fr2 k hk))
                    have fr3 : ∀ d, blk C3 = some d → wr.heap.size ≤ d := fun d hd => by
                      rcases hat3 with e | e
                      · exact fr2 d (by rw [← e]; exact hd)
                      · rw [e] at hd; cases hd; exact N2.size
                    have u3 : v3.cell? ⟨q, 4, none⟩ = some (.slice D n2 cD) := (N3.cell (p := ⟨q, 4, none⟩) hqlt (fun h => h)).trans hc4
                    have tc := (N3.cell (p := ⟨r, 0, none⟩) hblt (fun h => h)).trans hc
                    have tf := (N3.frozen (p := ⟨r, 0, none⟩) hblt (fun h => h)).trans hfz
                    have tb := Nat.lt_of_lt_of_le hblt N3.size
                    refine hK.out _ _ u3 (fun hHeld => ?_)
                    clear hK K
                    try simp only [List.getElem_toArray, List.getElem_cons_succ, List.getElem_cons_zero, Act.put, List.setIfInBounds_toArray, List.set_cons_zero, List.set_cons_succ]
                    (refine wpAnyH_take (i := 10) (v := ?_) rfl (by kernel_rfl) (by kernel_rfl) (by kernel_rfl) (fun _ _ _ h => h) (Or.inl ⟨by kernel_rfl, ?_⟩) (by assumption) ?_; rotate_left; focus (intro wq hSw; (try dsimp only at hSw); go_simp; try with_reducible rfl); try simp only [List.getElem_toArray, List.getElem_cons_succ, List.getElem_cons_zero, Act.put, List.setIfInBounds_toArray, List.set_cons_zero, List.set_cons_succ])
                    (refine wpAnyH_take (i := 11) (v := ?_) rfl (by kernel_rfl) (by kernel_rfl) (by kernel_rfl) (fun _ _ _ h => h) (Or.inl ⟨by kernel_rfl, ?_⟩) (by assumption) ?_; rotate_left; focus (intro wq hSw; (try dsimp only at hSw); go_simp; try with_reducible rfl); try simp only [List.getElem_toArray, List.getElem_cons_succ, List.getElem_cons_zero, Act.put, List.setIfInBounds_toArray, List.set_cons_zero, List.set_cons_succ])
                    refine wpAnyH_ready (rs := [12]) (by kernel_rfl) (by simp) ?_
                    refine AllReadyH.cons rfl (fun K hK => ?_) AllReadyH.nil
                    go_simp
                    refine hK.out _ _ (cell_ne u3 hqr) (fun hHeld => ?_)
                    clear hK K
                    try simp only [List.getElem_toArray, List.getElem_cons_succ, List.getElem_cons_zero, Act.put, List.setIfInBounds_toArray, List.set_cons_zero, List.set_cons_succ]
                    refine wpAnyH_done (by kernel_rfl) ?_ _
                    refine NoPanic.normal ?_
                    have h4 : Duo w (v3.setCell ⟨r, 0, none⟩ (.slice C3 x3 y3)) (QuP b (L ++ ([] ++ lD))) (RqP r ([] ++ L ++ lD)) q 44 5 (opf kd ps most gg (.slice D n2 cD)) := hD.refW (QuP.good _ _) (fun T2 hT2 => by
                      obtain ⟨T', a1, a2, a3⟩ := ArrR.set (k := 0) hT2 (by omega) N3 own3.isL own3.ty (fun d hd => .inr (fr3 d hd))
                      exact ⟨T', a1.congr (rq_upd _ _), a2, a3⟩)
                    have hlen2 : (L ++ lD).length ≤ (m + 1) * 40 := by have := hrd.1; rw [List.length_append]; omega
                    have h4' : Duo w (v3.setCell ⟨r, 0, none⟩ (.slice C3 x3 y3)) (QuP b (L ++ lD)) (RqP r (L ++ lD)) q 44 5 (opf kd ps most gg (.slice D n2 cD)) := h4
                    generalize L ++ lD = L2 at h4' hlen2
                    clear hD h4 hc hLk hc4 hcE hc4E hrow hR hM hrdw
                    go_wp2_with fail
                    go_meet
                    case rel => exact ⟨_, h4', hlen2⟩
            · have tok1 : True := trivial
              have hc4q : (wq.alloc (.cells #[] 3)).cell? ⟨q, 4, none⟩ = some (.slice D nD cD) := (((Mod.refl (fun _ => False) wq).alloc _).cell (p := ⟨q, 4, none⟩) hq.row.lt (fun h => h)).trans hc4
              go_wp2_with (at_builtin; have _t := tok1; refine wpList_appR _ rfl (.tmp 63) (.tmp 65) _ rfl Try.underlying27 int_info _ 0 0 [] rfl (OwnL.empty wq) D nD cD lD rfl ((hrd.keep0 hq.mod).alloc _) (by omega) ?_; intro B2 n2 k2 w2 hn1 hn2 hown2 hg2 hat2; clear _t tok1)
              obtain rfl : n2 = nD := by omega
              have M2 : Mod (fun _ => False) wq w2 := ((Mod.refl _ wq).alloc _).grown hg2 (fun k hk => .inr (blk_size wq k hk))
              have hfr : ∀ d, blk B2 = some d → wq.heap.size ≤ d := fresh_app (blk_size wq) (Nat.le_refl _) hat2
              obtain ⟨S, T, p1, p2, p3, p4, p5, p6, p7⟩ := hq
              refine (qu_put ((QuP.good b L).keep _ _ _ _ p1 M2 (fun _ _ h => h)) B2 n2 k2 ([] ++ lD) hown2.isL (by omega)).mono ?_
              rintro e w3 ⟨rfl, S', d1, d2, d3⟩
              have hBS : ∀ g, blk B2 = some g → ¬ S g ∧ ¬ T g ∧ g ≠ q := fun g hg => ⟨fun hs => by have h1 := (QuP.good b L).lt _ _ p1 g hs; have := hfr g hg; omega, fun hs => by have h1 := (RqP.good r L).lt _ _ p2 g hs; have := hfr g hg; omega, fun e => by have h1 := p5.lt; have := hfr g hg; omega⟩
              have hown3 := hown2.keep d3 (fun g hg hs => (hBS g hg).1 hs)
              have hB2lt := hown2.lt
              have e2 := (RqP.good r L).keep _ _ _ _ ((RqP.good r L).keep _ _ _ _ p2 M2 (fun _ _ h => h)) d3 (fun i hi hs => (p3 i hs).2.1 hi)
              have e5 := d3.rowIs (M2.rowIs p5 (fun h => h)) (fun hs => (p3 q hs).2.2 rfl)
              have M3 : Mod (fun _ => False) w w3 := (p7.trans M2).new d3 (fun i hi => (p3 i hi).1)
              have e3 : ∀ i, S' i → w.heap.size ≤ i ∧ ¬ T i ∧ i ≠ q ∧ blk B2 ≠ some i := by
                intro i hi
                rcases d2 i hi with h7 | h7
                · exact ⟨(p3 i h7).1, (p3 i h7).2.1, (p3 i h7).2.2, fun e => (hBS i e).1 h7⟩
                · have s1 := M2.size
                  have s2 := p7.size
                  refine ⟨by omega, fun ht => ?_, fun e => ?_, fun e => ?_⟩
                  · have h1 := (RqP.good r L).lt _ _ p2 i ht; omega
                  · have h1 := p5.lt; omega
                  · have h1 := hB2lt i e; omega
              have hB2w : ∀ g, blk B2 = some g → w.heap.size ≤ g := fun g hg => Nat.le_trans p7.size (hfr g hg)
              clear p1 p2 p3 p5 hown2 M2 hg2 hat2 hfr d2 d3 hc1 hc2 hc3 hc4 hB2lt p7 hc4q
              go_wp2_with fail
              go_loopw [8] (fun i wr => ∃ (k : Nat) (l' : List Int), k ≤ n2 ∧ i = .int .i64 k ∧ OwnL wr B2 n2 k2 l' ∧ QuP b (L ++ ([] ++ lD)) wr S' ∧ RqP r L wr T ∧ wr.rowIs q 44 5 (opf kd ps most gg (.slice D n2 cD)) ∧ Mod (fun _ => False) w wr) (fun i _ => n2 - (intOf i).toNat)
              case atStart => exact ⟨0, _, by omega, rfl, hown3, d1, e2, e5, M3⟩
              case round =>
                clear hown3 d1 e2 e5 M3
                obtain ⟨k, l', hk, rfl, hown, hQ, hR, hrow, hM⟩ := hrel
                by_cases hkn : k < n2
                · have hcap := hown.isL.cap
                  have hle := hown.isL.le
                  have hll := hown.len
                  obtain ⟨gB, fB, rfl, hrB, hfB⟩ := row_of_own hown (by omega)
                  have hcB := hrB.cell (i := k) (by omega)
                  have hzB := hrB.frozen k
                  have hlB := hrB.lt
                  have hk0 : (0 : Int) ≤ (k : Int) := by omega
                  have hk1 : (k : Int) < (n2 : Int) := by omega
                  have mB : Mod (fun i => i = gB) wr (wr.setCell ⟨gB, k, none⟩ (.int .i64 (-7))) := Mod.setCell (Mod.refl (fun i => i = gB) wr) (p := ⟨gB, k, none⟩) (.inl rfl) _
                  have f1 := own_of_row (hrB.set k (.int .i64 (-7))) (l := l'.set k (-7)) (n := n2) (by rw [List.length_set]; exact hll) (by omega) hcap (fun i hi => by
                    rw [List.getD_eq_getElem?_getD, List.getElem?_set]
                    by_cases e : k = i
                    · subst e; simp [hll, hkn]
                    · rw [if_neg e, if_neg (fun h => e h.symm), hfB i hi, List.getD_eq_getElem?_getD])
                  have f2 := (QuP.good b (L ++ ([] ++ lD))).keep _ _ _ _ hQ mB (fun i hi e => (e3 i hi).2.2.2 (by rw [e]; rfl))
                  have f3 := (RqP.good r L).keep _ _ _ _ hR mB (fun i hi e => (hBS gB rfl).2.1 (by rw [← e]; exact hi))
                  have f4 := mB.rowIs hrow (fun e => (hBS gB rfl).2.2 e.symm)
                  have f5 : Mod (fun _ => False) w (wr.setCell ⟨gB, k, none⟩ (.int .i64 (-7))) := hM.new mB (fun i hi => by rw [hi]; exact hB2w gB rfl)
                  clear hown hQ hR hrow hM hrB hfB
                  go_wp2
                  go_roundw
                  case rel => exact ⟨k + 1, _, by omega, by go_num, f1, f2, f3, f4, f5⟩
                  case measure => simp [intOf]; omega
                · have hD : Duo w wr (QuP b (L ++ ([] ++ lD))) (RqP r L) q 44 5 (opf kd ps most gg (.slice D n2 cD)) :=
                    ⟨S', T, hQ, hR, fun i hi => ⟨(e3 i hi).1, (e3 i hi).2.1, (e3 i hi).2.2.1⟩, p4, hrow, p6, hM⟩
                  obtain ⟨B, nB, cB, hc, hLk, hfz, hty, hSB⟩ := ArrR.cell (k := 0) hR (by omega)
                  have hblt := ArrR.lt hR r (ArrR.inS hR)
                  have hlB : nB ≤ 2400 := by rw [← hLk.len]; exact hL9
                  have hrdw := hrd.keep0 hM
                  have hc4 : wr.cell? ⟨q, 4, none⟩ = some (.slice D n2 cD) := hrow.cell (i := 4) (by simp)
                  have hqlt := hrow.lt
                  have hcE : (wr.alloc (.cells #[] 3)).cell? ⟨r, 0, none⟩ = some (.slice B nB cB) := (((Mod.refl (fun _ => False) wr).alloc _).cell (p := ⟨r, 0, none⟩) hblt (fun h => h)).trans hc
                  have hc4E : (wr.alloc (.cells #[] 3)).cell? ⟨q, 4, none⟩ = some (.slice D n2 cD) := (((Mod.refl (fun _ => False) wr).alloc _).cell (p := ⟨q, 4, none⟩) hqlt (fun h => h)).trans hc4
                  have hqr : q ≠ r := fun e => (p4 r (ArrR.inS hR)).2 e.symm
                  clear hown hQ
                  go_wp2_with fail
                  refine wp_region_noPanic ?_
                  refine wp_region_held_drew (S := fun W => W.cell? ⟨q, 4, none⟩ = some (.slice D n2 cD)) (by kernel_rfl) hc4 (fun hHeld => ?_)
                  (refine wpAnyH_take (i := 0) (v := ?_) rfl (by kernel_rfl) (by kernel_rfl) (by kernel_rfl) (fun _ _ _ h => h) (Or.inl ⟨by kernel_rfl, ?_⟩) (by assumption) ?_; rotate_left; focus (intro wq hSw; (try dsimp only at hSw); go_simp; try with_reducible rfl); try simp only [List.getElem_toArray, List.getElem_cons_succ, List.getElem_cons_zero, Act.put, List.setIfInBounds_toArray, List.set_cons_zero, List.set_cons_succ])
                  (refine wpAnyH_take (i := 2) (v := ?_) rfl (by kernel_rfl) (by kernel_rfl) (by kernel_rfl) (fun _ _ _ h => h) (Or.inl ⟨by kernel_rfl, ?_⟩) (by assumption) ?_; rotate_left; focus (intro wq hSw; (try dsimp only at hSw); go_simp; try with_reducible rfl); try simp only [List.getElem_toArray, List.getElem_cons_succ, List.getElem_cons_zero, Act.put, List.setIfInBounds_toArray, List.set_cons_zero, List.set_cons_succ])
                  (refine wpAnyH_take (i := 3) (v := ?_) rfl (by kernel_rfl) (by kernel_rfl) (by kernel_rfl) (fun _ _ _ h => h) (Or.inl ⟨by kernel_rfl, ?_⟩) (by assumption) ?_; rotate_left; focus (intro wq hSw; (try dsimp only at hSw); go_simp; try with_reducible rfl); try simp only [List.getElem_toArray, List.getElem_cons_succ, List.getElem_cons_zero, Act.put, List.setIfInBounds_toArray, List.set_cons_zero, List.set_cons_succ])
                  (refine wpAnyH_take (i := 4) (v := ?_) rfl (by kernel_rfl) (by kernel_rfl) (by kernel_rfl) (fun _ _ _ h => h) (Or.inl ⟨by kernel_rfl, ?_⟩) (by assumption) ?_; rotate_left; focus (intro wq hSw; (try dsimp only at hSw); go_simp; try with_reducible rfl); try simp only [List.getElem_toArray, List.getElem_cons_succ, List.getElem_cons_zero, Act.put, List.setIfInBounds_toArray, List.set_cons_zero, List.set_cons_succ])
                  (refine wpAnyH_take (i := 7) (v := ?_) rfl (by kernel_rfl) (by kernel_rfl) (by kernel_rfl) (fun _ _ _ h => h) (Or.inl ⟨by kernel_rfl, ?_⟩) (by assumption) ?_; rotate_left; focus (intro wq hSw; (try dsimp only at hSw); go_simp; try with_reducible rfl); try simp only [List.getElem_toArray, List.getElem_cons_succ, List.getElem_cons_zero, Act.put, List.setIfInBounds_toArray, List.set_cons_zero, List.set_cons_succ])
                  (refine wpAnyH_take (i := 8) (v := ?_) rfl (by kernel_rfl) (by kernel_rfl) (by kernel_rfl) (fun _ _ _ h => h) (Or.inl ⟨by kernel_rfl, ?_⟩) (by assumption) ?_; rotate_left; focus (intro wq hSw; (try dsimp only at hSw); go_simp; try with_reducible rfl); try simp only [List.getElem_toArray, List.getElem_cons_succ, List.getElem_cons_zero, Act.put, List.setIfInBounds_toArray, List.set_cons_zero, List.set_cons_succ])
                  refine wpAnyH_ready (rs := [1, 5]) (by kernel_rfl) (by simp) ?_
                  refine AllReadyH.cons rfl (fun K hK => ?_) (AllReadyH.cons rfl (fun K hK => ?_) AllReadyH.nil)
                  · go_simp
                    refine hK.out _ _ hc4E (fun hHeld => ?_)
                    clear hK K
                    try simp only [List.getElem_toArray, List.getElem_cons_succ, List.getElem_cons_zero, Act.put, List.setIfInBounds_toArray, List.set_cons_zero, List.set_cons_succ]
                    refine wpAnyH_ready (rs := [5]) (by kernel_rfl) (by simp) ?_
                    refine AllReadyH.cons rfl (fun K hK => ?_) AllReadyH.nil
                    go_simp
                    refine hK.out _ _ hc4E (fun hHeld => ?_)
                    clear hK K
                    try simp only [List.getElem_toArray, List.getElem_cons_succ, List.getElem_cons_zero, Act.put, List.setIfInBounds_toArray, List.set_cons_zero, List.set_cons_succ]
                    refine wpAnyH_ready (rs := [6]) (by kernel_rfl) (by simp) ?_
                    refine AllReadyH.cons rfl (fun K hK => ?_) AllReadyH.nil
                    have o1 : OwnL (wr.alloc (.cells #[] 3)).drew (some ⟨wr.heap.size, 0, none⟩) 0 0 [] := OwnL.empty wr
                    have r1 : IsL (wr.alloc (.cells #[] 3)).drew B nB cB L := hLk.alloc _
                    (with_reducible refine step_app _ (by with_unfolding_all rfl) (.tmp 80) (.tmp 84) _ (by with_unfolding_all rfl) Try.underlying27 int_info _ _ _ _ (by with_unfolding_all rfl) o1 _ _ _ _ (by with_unfolding_all rfl) r1 (by omega) ?_)
                    intro C2 x2 y2 v2 hp1 hp2 own2 hg2 hat2
                    have N2 : Mod (fun _ => False) wr v2 := (((Mod.refl _ wr).alloc _).drew).grown hg2 (fun k hk => .inr (blk_size wr k hk))
                    have fr2 : ∀ d, blk C2 = some d → wr.heap.size ≤ d := fresh_app (blk_size wr) (Nat.le_refl _) hat2
                    have u2 : v2.cell? ⟨q, 4, none⟩ = some (.slice D n2 cD) := (N2.cell (p := ⟨q, 4, none⟩) hqlt (fun h => h)).trans hc4
                    have rd2 := hrdw.keep0 N2
                    refine hK.out _ _ u2 (fun hHeld => ?_)
                    clear hK K
                    try simp only [List.getElem_toArray, List.getElem_cons_succ, List.getElem_cons_zero, Act.put, List.setIfInBounds_toArray, List.set_cons_zero, List.set_cons_succ]
                    refine wpAnyH_ready (rs := [9]) (by kernel_rfl) (by simp) ?_
                    refine AllReadyH.cons rfl (fun K hK => ?_) AllReadyH.nil
                    (with_reducible refine step_appR _ (by with_unfolding_all rfl) (.tmp 85) (.tmp 87) _ (by with_unfolding_all rfl) Try.underlying27 int_info _ _ _ _ (by with_unfolding_all rfl) own2 _ _ _ _ (by with_unfolding_all rfl) rd2 (by omega) ?_)
                    intro C3 x3 y3 v3 hp3 hp4 own3 hg3 hat3
                    have N3 : Mod (fun _ => False) wr v3 := N2.grown hg3 (fun k hk => .inr (fr2 k hk))
                    have fr3 : ∀ d, blk C3 = some d → wr.heap.size ≤ d := fun d hd => by
                      rcases hat3 with e | e
                      · exact fr2 d (by rw [← e]; exact hd)
                      · rw [e] at hd; cases hd; exact N2.size
                    have u3 : v3.cell? ⟨q, 4, none⟩ = some (.slice D n2 cD) := (N3.cell (p := ⟨q, 4, none⟩) hqlt (fun h => h)).trans hc4
                    have tc := (N3.cell (p := ⟨r, 0, none⟩) hblt (fun h => h)).trans hc
                    have tf := (N3.frozen (p := ⟨r, 0, none⟩) hblt (fun h => h)).trans hfz
                    have tb := Nat.lt_of_lt_of_le hblt N3.size
                    refine hK.out _ _ u3 (fun hHeld => ?_)
                    clear hK K
                    try simp only [List.getElem_toArray, List.getElem_cons_succ, List.getElem_cons_zero, Act.put, List.setIfInBounds_toArray, List.set_cons_zero, List.set_cons_succ]
                    (refine wpAnyH_take (i := 10) (v := ?_) rfl (by kernel_rfl) (by kernel_rfl) (by kernel_rfl) (fun _ _ _ h => h) (Or.inl ⟨by kernel_rfl, ?_⟩) (by assumption) ?_; rotate_left; focus (intro wq hSw; (try dsimp only at hSw); go_simp; try with_reducible rfl); try simp only [List.getElem_toArray, List.getElem_cons_succ, List.getElem_cons_zero, Act.put, List.setIfInBounds_toArray, List.set_cons_zero, List.set_cons_succ])
                    (refine wpAnyH_take (i := 11) (v := ?_) rfl (by kernel_rfl) (by kernel_rfl) (by kernel_rfl) (fun _ _ _ h => h) (Or.inl ⟨by kernel_rfl, ?_⟩) (by assumption) ?_; rotate_left; focus (intro wq hSw; (try dsimp only at hSw); go_simp; try with_reducible rfl); try simp only [List.getElem_toArray, List.getElem_cons_succ, List.getElem_cons_zero, Act.put, List.setIfInBounds_toArray, List.set_cons_zero, List.set_cons_succ])
                    refine wpAnyH_ready (rs := [12]) (by kernel_rfl) (by simp) ?_
                    refine AllReadyH.cons rfl (fun K hK => ?_) AllReadyH.nil
                    go_simp
                    refine hK.out _ _ (cell_ne u3 hqr) (fun hHeld => ?_)
                    clear hK K
                    try simp only [List.getElem_toArray, List.getElem_cons_succ, List.getElem_cons_zero, Act.put, List.setIfInBounds_toArray, List.set_cons_zero, List.set_cons_succ]
                    refine wpAnyH_done (by kernel_rfl) ?_ _
                    refine NoPanic.normal ?_
                    have h4 : Duo w (v3.setCell ⟨r, 0, none⟩ (.slice C3 x3 y3)) (QuP b (L ++ ([] ++ lD))) (RqP r ([] ++ L ++ lD)) q 44 5 (opf kd ps most gg (.slice D n2 cD)) := hD.refW (QuP.good _ _) (fun T2 hT2 => by
                      obtain ⟨T', a1, a2, a3⟩ := ArrR.set (k := 0) hT2 (by omega) N3 own3.isL own3.ty (fun d hd => .inr (fr3 d hd))
                      exact ⟨T', a1.congr (rq_upd _ _), a2, a3⟩)
                    have hlen2 : (L ++ lD).length ≤ (m + 1) * 40 := by have := hrd.1; rw [List.length_append]; omega
                    have h4' : Duo w (v3.setCell ⟨r, 0, none⟩ (.slice C3 x3 y3)) (QuP b (L ++ lD)) (RqP r (L ++ lD)) q 44 5 (opf kd ps most gg (.slice D n2 cD)) := h4
                    generalize L ++ lD = L2 at h4' hlen2
                    clear hD h4 hc hLk hc4 hcE hc4E hrow hR hM hrdw
                    go_wp2_with fail
                    go_meet
                    case rel => exact ⟨_, h4', hlen2⟩
                  · go_simp
                    refine hK.out _ _ hc4 (fun hHeld => ?_)
                    clear hK K
                    try simp only [List.getElem_toArray, List.getElem_cons_succ, List.getElem_cons_zero, Act.put, List.setIfInBounds_toArray, List.set_cons_zero, List.set_cons_succ]
                    refine wpAnyH_ready (rs := [1]) (by kernel_rfl) (by simp) ?_
                    refine AllReadyH.cons rfl (fun K hK => ?_) AllReadyH.nil
                    go_simp
                    refine hK.out _ _ hc4E (fun hHeld => ?_)
                    clear hK K
                    try simp only [List.getElem_toArray, List.getElem_cons_succ, List.getElem_cons_zero, Act.put, List.setIfInBounds_toArray, List.set_cons_zero, List.set_cons_succ]
                    refine wpAnyH_ready (rs := [6]) (by kernel_rfl) (by simp) ?_
                    refine AllReadyH.cons rfl (fun K hK => ?_) AllReadyH.nil
                    have o1 : OwnL (wr.alloc (.cells #[] 3)).drew (some ⟨wr.heap.size, 0, none⟩) 0 0 [] := OwnL.empty wr
                    have r1 : IsL (wr.alloc (.cells #[] 3)).drew B nB cB L := hLk.alloc _
                    (with_reducible refine step_app _ (by with_unfolding_all rfl) (.tmp 80) (.tmp 84) _ (by with_unfolding_all rfl) Try.underlying27 int_info _ _ _ _ (by with_unfolding_all rfl) o1 _ _ _ _ (by with_unfolding_all rfl) r1 (by omega) ?_)
                    intro C2 x2 y2 v2 hp1 hp2 own2 hg2 hat2
                    have N2 : Mod (fun _ => False) wr v2 := (((Mod.refl _ wr).alloc _).drew).grown hg2 (fun k hk => .inr (blk_size wr k hk))
                    have fr2 : ∀ d, blk C2 = some d → wr.heap.size ≤ d := fresh_app (blk_size wr) (Nat.le_refl _) hat2
                    have u2 : v2.cell? ⟨q, 4, none⟩ = some (.slice D n2 cD) := (N2.cell (p := ⟨q, 4, none⟩) hqlt (fun h => h)).trans hc4
                    have rd2 := hrdw.keep0 N2
                    refine hK.out _ _ u2 (fun hHeld => ?_)
                    clear hK K
                    try simp only [List.getElem_toArray, List.getElem_cons_succ, List.getElem_cons_zero, Act.put, List.setIfInBounds_toArray, List.set_cons_zero, List.set_cons_succ]
                    refine wpAnyH_ready (rs := [9]) (by kernel_rfl) (by simp) ?_
                    refine AllReadyH.cons rfl (fun K hK => ?_) AllReadyH.nil
                    (with_reducible refine step_appR _ (by with_unfolding_all rfl) (.tmp 85) (.tmp 87) _ (by with_unfolding_all rfl) Try.underlying27 int_info _ _ _ _ (by with_unfolding_all rfl) own2 _ _ _ _ (by with_unfolding_all rfl) rd2 (by omega) ?_)
                    intro C3 x3 y3 v3 hp3 hp4 own3 hg3 hat3
                    have N3 : Mod (fun _ => False) wr v3 := N2.grown hg3 (fun k hk => .inr (fr2 k hk))
                    have fr3 : ∀ d, blk C3 = some d → wr.heap.size ≤ d := fun d hd => by
                      rcases hat3 with e | e
                      · exact fr2 d (by rw [← e]; exact hd)
                      · rw [e] at hd; cases hd; exact N2.size
                    have u3 : v3.cell? ⟨q, 4, none⟩ = some (.slice D n2 cD) := (N3.cell (p := ⟨q, 4, none⟩) hqlt (fun h => h)).trans hc4
                    have tc := (N3.cell (p := ⟨r, 0, none⟩) hblt (fun h => h)).trans hc
                    have tf := (N3.frozen (p := ⟨r, 0, none⟩) hblt (fun h => h)).trans hfz
                    have tb := Nat.lt_of_lt_of_le hblt N3.size
                    refine hK.out _ _ u3 (fun hHeld => ?_)
                    clear hK K
                    try simp only [List.getElem_toArray, List.getElem_cons_succ, List.getElem_cons_zero, Act.put, List.setIfInBounds_toArray, List.set_cons_zero, List.set_cons_succ]
                    (refine wpAnyH_take (i := 10) (v := ?_) rfl (by kernel_rfl) (by kernel_rfl) (by kernel_rfl) (fun _ _ _ h => h) (Or.inl ⟨by kernel_rfl, ?_⟩) (by assumption) ?_; rotate_left; focus (intro wq hSw; (try dsimp only at hSw); go_simp; try with_reducible rfl); try simp only [List.getElem_toArray, List.getElem_cons_succ, List.getElem_cons_zero, Act.put, List.setIfInBounds_toArray, List.set_cons_zero, List.set_cons_succ])
                    (refine wpAnyH_take (i := 11) (v := ?_) rfl (by kernel_rfl) (by kernel_rfl) (by kernel_rfl) (fun _ _ _ h => h) (Or.inl ⟨by kernel_rfl, ?_⟩) (by assumption) ?_; rotate_left; focus (intro wq hSw; (try dsimp only at hSw); go_simp; try with_reducible rfl); try simp only [List.getElem_toArray, List.getElem_cons_succ, List.getElem_cons_zero, Act.put, List.setIfInBounds_toArray, List.set_cons_zero, List.set_cons_succ])
                    refine wpAnyH_ready (rs := [12]) (by kernel_rfl) (by simp) ?_
                    refine AllReadyH.cons rfl (fun K hK => ?_) AllReadyH.nil
                    go_simp
                    refine hK.out _ _ (cell_ne u3 hqr) (fun hHeld => ?_)
                    clear hK K
                    try simp only [List.getElem_toArray, List.getElem_cons_succ, List.getElem_cons_zero, Act.put, List.setIfInBounds_toArray, List.set_cons_zero, List.set_cons_succ]
                    refine wpAnyH_done (by kernel_rfl) ?_ _
                    refine NoPanic.normal ?_
                    have h4 : Duo w (v3.setCell ⟨r, 0, none⟩ (.slice C3 x3 y3)) (QuP b (L ++ ([] ++ lD))) (RqP r ([] ++ L ++ lD)) q 44 5 (opf kd ps most gg (.slice D n2 cD)) := hD.refW (QuP.good _ _) (fun T2 hT2 => by
                      obtain ⟨T', a1, a2, a3⟩ := ArrR.set (k := 0) hT2 (by omega) N3 own3.isL own3.ty (fun d hd => .inr (fr3 d hd))
                      exact ⟨T', a1.congr (rq_upd _ _), a2, a3⟩)
                    have hlen2 : (L ++ lD).length ≤ (m + 1) * 40 := by have := hrd.1; rw [List.length_append]; omega
                    have h4' : Duo w (v3.setCell ⟨r, 0, none⟩ (.slice C3 x3 y3)) (QuP b (L ++ lD)) (RqP r (L ++ lD)) q 44 5 (opf kd ps most gg (.slice D n2 cD)) := h4
                    generalize L ++ lD = L2 at h4' hlen2
                    clear hD h4 hc hLk hc4 hcE hc4E hrow hR hM hrdw
                    go_wp2_with fail
                    go_meet
                    case rel => exact ⟨_, h4', hlen2⟩
            · go_wp2_with fail
              obtain ⟨S, T, p1, p2, p3, p4, p5, p6, p7⟩ := hq
              go_region_held3 (fun W => W.cell? ⟨q, 1, none⟩ = some (.int .i64 ps) ∧ W.cell? ⟨q, 2, none⟩ = some (.int .i64 most)) (first | (with_reducible exact ⟨u1, u2⟩) | (with_reducible exact ⟨s1, s2⟩) | (with_reducible exact ⟨t1, t2⟩) | (with_reducible exact ⟨hc1, hc2⟩) | go_keep)
                (first
                  | (go_at_call 27
                     have _t := hB4
                     refine (ints_sameM A3 B4 n3 n4 k3 k4 _ _ hA4 hB4 hn3).mono ?_
                     rintro e w5 ⟨rfl, m5⟩
                     have u1 : w5.cell? ⟨q, 1, none⟩ = some (.int .i64 ps) := (m5.cell (p := ⟨q, 1, none⟩) r4.lt (fun h => h)).trans s1
                     have u2 : w5.cell? ⟨q, 2, none⟩ = some (.int .i64 most) := (m5.cell (p := ⟨q, 2, none⟩) r4.lt (fun h => h)).trans s2)
                  | (go_at_call 28
                     have _t := hA3
                     refine (rqget p2b ps most (by omega) hps hmost).mono ?_
                     rintro e w4 ⟨B4, n4, k4, rfl, hB4, T', d1, d2, d3⟩
                     have hA4 := hA3.keep d3 (fun d hd ht => by have h1 := hA3f d hd; have h2 := (RqP.good r L).lt _ _ p2 _ ht; have h3 : wq.heap.size ≤ d.block := h1; omega)
                     have r4 := d3.rowIs r3 (fun hs => (p4 q hs).2 rfl)
                     have s1 : w4.cell? ⟨q, 1, none⟩ = some (.int .i64 ps) := r4.cell (i := 1) (by simp)
                     have s2 : w4.cell? ⟨q, 2, none⟩ = some (.int .i64 most) := r4.cell (i := 2) (by simp))
                  | (go_at_call 19
                     refine (qu_get ((QuP.good b L).keep _ _ _ _ p1 ((Mod.refl (fun _ => False) wq).drew) (fun _ _ h => h)) ps most (by omega) hps hmost).mono ?_
                     rintro e w3 ⟨A3, n3, k3, rfl, hA3, hA3f, S', c1, c2, c3⟩
                     have c3' : Mod S wq w3 := (((Mod.refl (fun _ => False) wq).drew).mono (fun _ _ h => h.elim)).trans c3
                     have hn3 : n3 ≤ 900000 := by rw [← hA3.len, List.length_take]; omega
                     have p2b := (RqP.good r L).keep _ _ _ _ p2 c3' (fun i hi hs => (p3 i hs).2.1 hi)
                     have r3 := c3'.rowIs p5 (fun hs => (p3 q hs).2.2 rfl)
                     have t1 : w3.cell? ⟨q, 1, none⟩ = some (.int .i64 ps) := r3.cell (i := 1) (by simp)
                     have t2 : w3.cell? ⟨q, 2, none⟩ = some (.int .i64 most) := r3.cell (i := 2) (by simp)))
              all_goals (
                have hD : Duo w w4 (QuP b (L.drop (qtake L.length ps most))) (RqP r (L.drop (qtake L.length ps most))) q 44 5 (opf kd ps most gg (.slice D nD cD)) := by
                  have e1 : Mod (fun _ => False) w w3 := p7.new c3' (fun i hi => (p3 i hi).1)
                  refine ⟨S', T', (QuP.good b _).keep _ _ _ _ c1 d3 (fun i hi ht => ?_), d1, fun i hi => ⟨?_, fun ht => ?_, fun e => ?_⟩, fun i hi => ⟨?_, fun e => ?_⟩, r4, p6, e1.new d3 (fun i hi => (p4 i hi).1)⟩
                  · rcases c2 i hi with h7 | h7
                    · exact (p3 i h7).2.1 ht
                    · have h2 := (RqP.good r L).lt _ _ p2 i ht; have h3 : wq.heap.size ≤ i := h7; omega
                  · rcases c2 i hi with h7 | h7
                    · exact (p3 i h7).1
                    · have h3 : wq.heap.size ≤ i := h7; have := p7.size; omega
                  · rcases d2 i ht with h8 | h8
                    · rcases c2 i hi with h7 | h7
                      · exact (p3 i h7).2.1 h8
                      · have h2 := (RqP.good r L).lt _ _ p2 i h8; have h3 : wq.heap.size ≤ i := h7; omega
                    · have h2 := (QuP.good b _).lt _ _ c1 i hi; omega
                  · subst e
                    rcases c2 i hi with h7 | h7
                    · exact (p3 i h7).2.2 rfl
                    · have h3 : wq.heap.size ≤ i := h7; have := p5.lt; omega
                  · rcases d2 i hi with h8 | h8
                    · exact (p4 i h8).1
                    · have := e1.size; omega
                  · subst e
                    rcases d2 i hi with h8 | h8
                    · exact (p4 i h8).2 rfl
                    · have := r3.lt; omega
                have h4 := hD.keep0 (QuP.good _ _) (RqP.good _ _) m5
                have hlen2 : (L.drop (qtake L.length ps most)).length ≤ (m + 1) * 40 := by rw [List.length_drop]; omega
                generalize L.drop (qtake L.length ps most) = L2 at h4 hlen2
                clear hD t1 t2 s1 s2 u1 u2 hA3 hA4 hB4 p1 p2 p5 p2b c1 c3 c3' d1 d3 r3 r4 hc1 hc2 hc3 hc4
                go_wp2_with fail
                go_meet
                case rel => exact ⟨_, h4, hlen2⟩)
            · go_wp2_with fail
              obtain ⟨S, T, p1, p2, p3, p4, p5, p6, p7⟩ := hq
              go_region_held3 (fun W => W.cell? ⟨q, 1, none⟩ = some (.int .i64 ps) ∧ W.cell? ⟨q, 2, none⟩ = some (.int .i64 most)) (first | (with_reducible exact ⟨u1, u2⟩) | (with_reducible exact ⟨s1, s2⟩) | (with_reducible exact ⟨t1, t2⟩) | (with_reducible exact ⟨hc1, hc2⟩) | go_keep)
                (first
                  | (go_at_call 27
                     have _t := hB4
                     refine (ints_sameM A3 B4 n3 n4 k3 k4 _ _ hA4 hB4 hn3).mono ?_
                     rintro e w5 ⟨rfl, m5⟩
                     have u1 : w5.cell? ⟨q, 1, none⟩ = some (.int .i64 ps) := (m5.cell (p := ⟨q, 1, none⟩) r4.lt (fun h => h)).trans s1
                     have u2 : w5.cell? ⟨q, 2, none⟩ = some (.int .i64 most) := (m5.cell (p := ⟨q, 2, none⟩) r4.lt (fun h => h)).trans s2)
                  | (go_at_call 28
                     have _t := hA3
                     refine (rqget p2b ps most (by omega) hps hmost).mono ?_
                     rintro e w4 ⟨B4, n4, k4, rfl, hB4, T', d1, d2, d3⟩
                     have hA4 := hA3.keep d3 (fun d hd ht => by have h1 := hA3f d hd; have h2 := (RqP.good r L).lt _ _ p2 _ ht; have h3 : wq.heap.size ≤ d.block := h1; omega)
                     have r4 := d3.rowIs r3 (fun hs => (p4 q hs).2 rfl)
                     have s1 : w4.cell? ⟨q, 1, none⟩ = some (.int .i64 ps) := r4.cell (i := 1) (by simp)
                     have s2 : w4.cell? ⟨q, 2, none⟩ = some (.int .i64 most) := r4.cell (i := 2) (by simp))
                  | (go_at_call 19
                     refine (qu_get ((QuP.good b L).keep _ _ _ _ p1 ((Mod.refl (fun _ => False) wq).drew) (fun _ _ h => h)) ps most (by omega) hps hmost).mono ?_
                     rintro e w3 ⟨A3, n3, k3, rfl, hA3, hA3f, S', c1, c2, c3⟩
                     have c3' : Mod S wq w3 := (((Mod.refl (fun _ => False) wq).drew).mono (fun _ _ h => h.elim)).trans c3
                     have hn3 : n3 ≤ 900000 := by rw [← hA3.len, List.length_take]; omega
                     have p2b := (RqP.good r L).keep _ _ _ _ p2 c3' (fun i hi hs => (p3 i hs).2.1 hi)
                     have r3 := c3'.rowIs p5 (fun hs => (p3 q hs).2.2 rfl)
                     have t1 : w3.cell? ⟨q, 1, none⟩ = some (.int .i64 ps) := r3.cell (i := 1) (by simp)
                     have t2 : w3.cell? ⟨q, 2, none⟩ = some (.int .i64 most) := r3.cell (i := 2) (by simp)))
              all_goals (
                have hD : Duo w w4 (QuP b (L.drop (qtake L.length ps most))) (RqP r (L.drop (qtake L.length ps most))) q 44 5 (opf kd ps most gg (.slice D nD cD)) := by
                  have e1 : Mod (fun _ => False) w w3 := p7.new c3' (fun i hi => (p3 i hi).1)
                  refine ⟨S', T', (QuP.good b _).keep _ _ _ _ c1 d3 (fun i hi ht => ?_), d1, fun i hi => ⟨?_, fun ht => ?_, fun e => ?_⟩, fun i hi => ⟨?_, fun e => ?_⟩, r4, p6, e1.new d3 (fun i hi => (p4 i hi).1)⟩
                  · rcases c2 i hi with h7 | h7
                    · exact (p3 i h7).2.1 ht
                    · have h2 := (RqP.good r L).lt _ _ p2 i ht; have h3 : wq.heap.size ≤ i := h7; omega
                  · rcases c2 i hi with h7 | h7
                    · exact (p3 i h7).1
                    · have h3 : wq.heap.size ≤ i := h7; have := p7.size; omega
                  · rcases d2 i ht with h8 | h8
                    · rcases c2 i hi with h7 | h7
                      · exact (p3 i h7).2.1 h8
                      · have h2 := (RqP.good r L).lt _ _ p2 i h8; have h3 : wq.heap.size ≤ i := h7; omega
                    · have h2 := (QuP.good b _).lt _ _ c1 i hi; omega
                  · subst e
                    rcases c2 i hi with h7 | h7
                    · exact (p3 i h7).2.2 rfl
                    · have h3 : wq.heap.size ≤ i := h7; have := p5.lt; omega
                  · rcases d2 i hi with h8 | h8
                    · exact (p4 i h8).1
                    · have := e1.size; omega
                  · subst e
                    rcases d2 i hi with h8 | h8
                    · exact (p4 i h8).2 rfl
                    · have := r3.lt; omega
                have h4 := hD.keep0 (QuP.good _ _) (RqP.good _ _) m5
                have hlen2 : (L.drop (qtake L.length ps most)).length ≤ (m + 1) * 40 := by rw [List.length_drop]; omega
                generalize L.drop (qtake L.length ps most) = L2 at h4 hlen2
                clear hD t1 t2 s1 s2 u1 u2 hA3 hA4 hB4 p1 p2 p5 p2b c1 c3 c3' d1 d3 r3 r4 hc1 hc2 hc3 hc4
                go_wp2_with fail
                go_meet
                case rel => exact ⟨_, h4, hlen2⟩)
            · go_wp2_with fail
              obtain ⟨T0, hT⟩ := hq.ref
              obtain ⟨B, nB, cB, c0, hB, hfzB, htyB, _⟩ := ArrR.cell (k := 0) hT (by omega)
              have x0 := ArrR.lt hT r (ArrR.inS hT)
              have hnB : nB ≤ 900000 := by rw [← hB.len]; omega
              go_region_held3 (fun W => W.cell? ⟨r, 0, none⟩ = some (.slice B nB cB) ∧ W.cell? ⟨q, 3, none⟩ = some (.int .i64 gg)) (first | (with_reducible exact ⟨t0, t3⟩) | (with_reducible exact ⟨c0, hc3⟩) | go_keep)
                ((first | (go_at_call 29
                           refine (out_any B nB cB L gg _ (hB.keep0 ((Mod.refl (fun _ => False) wq).drew)) (htyB.keep ((Mod.refl (fun _ => False) wq).drew) (fun _ _ h => h)) hnB).mono ?_
                           rintro e w3 ⟨A3, n3, k3, rfl, hA3, htA3, hA3f, m3⟩
                           have m3' : Mod (fun _ => False) wq w3 := ((Mod.refl (fun _ => False) wq).drew).trans m3
                           have t0 : w3.cell? ⟨r, 0, none⟩ = some (.slice B nB cB) := (m3'.cell (p := ⟨r, 0, none⟩) x0 (fun h => h)).trans c0
                           have t3 : w3.cell? ⟨q, 3, none⟩ = some (.int .i64 gg) := (m3'.cell (p := ⟨q, 3, none⟩) hq.row.lt (fun h => h)).trans hc3)))
              all_goals (
                have hD : Duo w (w3.setCell ⟨r, 0, none⟩ (.slice A3 n3 k3)) (QuP b L) (RqP r (L.erase gg)) q 44 5 (opf kd ps most gg (.slice D nD cD)) := hq.refW (QuP.good _ _) (fun T hT2 => by
                  obtain ⟨B', n', c', c0', _, _, _, hSA'⟩ := ArrR.cell (k := 0) hT2 (by omega)
                  rw [c0] at c0'
                  obtain rfl : B = B' := by injection c0' with c0'; injection c0'
                  obtain ⟨T', a1, a2, a3⟩ := ArrR.set (k := 0) hT2 (by omega) m3' hA3 htA3 (fun d hd => by
                    rcases hA3f with e | e
                    · exact .inl (hSA' d (by rw [← e]; exact hd))
                    · cases A3 with
                      | none => cases hd
                      | some ad => exact .inr (by have h1 := e ad rfl; simp [blk] at hd; have h2 : wq.heap.size ≤ ad.block := h1; omega))
                  exact ⟨T', a1.congr (rq_upd _ _), a2, a3⟩)
                have tf : w3.frozen? ⟨r, 0, none⟩ = false := (m3'.frozen (p := ⟨r, 0, none⟩) x0 (fun h => h)).trans hfzB
                have tb : r < w3.heap.size := Nat.lt_of_lt_of_le x0 m3'.size
                have t3' : (w3.setCell ⟨r, 0, none⟩ (.slice A3 n3 k3)).cell? ⟨q, 3, none⟩ = some (.int .i64 gg) := hD.row.cell (i := 3) (by simp)
                go_wp2_with fail
                refine (hD.prog (RqP.good _ _) (fun S hS => qu_del hS gg (by omega))).mono ?_
                rintro e w4 ⟨rfl, h4⟩
                have hlen2 : (L.erase gg).length ≤ (m + 1) * 40 := by have := (List.erase_sublist (a := gg) (l := L)).length_le; omega
                generalize L.erase gg = L2 at h4 hlen2
                generalize decide (gg ∈ L) = V
                clear hD t0 t3 t3' tf c0 hB hA3 hc1 hc2 hc3 hc4 hq hT m3 m3'
                cases V <;> (
                  go_wp2_with fail
                  go_meet
                  case rel => exact ⟨_, h4, hlen2⟩))
          case rest =>
            obtain ⟨L2, h4, hlen2⟩ := hcut
            have hb2 : L2.length ≤ 900000 := by omega
            clear hq hc1 hc2 hc3 hc4 hlen
            go_wp2_with fail
            obtain ⟨S0, o2, hQ, _⟩ := h4.own
            obtain ⟨T0, hT⟩ := h4.ref
            obtain ⟨B, nB, cB, c0, hB, _, _, _⟩ := ArrR.cell (k := 0) hT (by omega)
            have x0 := ArrR.lt hT r (ArrR.inS hT)
            have hnB : L2.length = nB := hB.len
            have hqx := qlen_any b o2 L2 wc.drew hQ
            rw [hnB] at hqx
            go_region_held3 (fun W => W.cell? ⟨r, 0, none⟩ = some (.slice B nB cB)) (first | (with_reducible exact c3) | (with_reducible exact c2) | (with_reducible exact c0) | go_keep)
              (first
                | (go_at_call 27
                   have _t := hA2
                   refine (ints_sameM A2 B n2 nB k2 cB L2 _ hA2 hB2 hn2).mono ?_
                   rintro e v3 ⟨rfl, n3⟩
                   have c3 : v3.cell? ⟨r, 0, none⟩ = some (.slice B nB cB) := (n3.cell (p := ⟨r, 0, none⟩) x2 (fun h => h)).trans c2)
                | (go_at_call 31
                   refine (qall_any b o2 L2 wc.drew hQ hb2).mono ?_
                   rintro e v2 ⟨A2, n2, k2, rfl, hA2, _, n2m⟩
                   have c2 : v2.cell? ⟨r, 0, none⟩ = some (.slice B nB cB) := (n2m.cell (p := ⟨r, 0, none⟩) x0 (fun h => h)).trans c0
                   have x2 : r < v2.heap.size := Nat.lt_of_lt_of_le x0 n2m.size
                   have hB2 : IsL v2 B nB cB L2 := hB.keep0 (((Mod.refl (fun _ => False) wc).drew).trans n2m)
                   have hn2 : n2 ≤ 900000 := by rw [← hA2.len]; exact hb2)
                | (go_at_call 18
                   refine hqx.mono ?_
                   rintro e v1 ⟨rfl, hv1⟩
                   obtain rfl := hv1.symm))
            all_goals (
              have h9 := (h4.keep0 (QuP.good _ _) (RqP.good _ _) ((((Mod.refl (fun _ => False) wc).drew).trans n2m).trans n3)).drop
              clear hqx c0 c2 c3 hA2 hB2 h4 hQ hT hB
              go_wp2
              go_roundw
              case rel => first | exact ⟨m + 1, _, by omega, by omega, by go_num, h9, hlen2⟩ | ((repeat apply Exists.intro); exact ⟨⟨m + 1, _, by omega, by omega, by go_num, h9, hlen2⟩, rfl⟩)
              case measure => simp [intOf]; omega)
        · have hd4 : decide ((40 : Int) < (nD : Int)) = true := decide_eq_true (by omega)
          have hd5 : decide (40 < nD) = true := decide_eq_true (by omega)
          clear hrd
          go_wp2_with fail
          refine (told11 _).mono ?_
          rintro e w2 ⟨rfl, m2⟩
          go_wp2
          go_ret
          exact ⟨rfl, hq.mod.trans m2⟩
      · obtain rfl : m = 60 := by omega
        have hd1 : decide (60 < n) = true := decide_eq_true hmn
        rw [show ((60 : Nat) : Int) = 60 from rfl]
        go_wp2_with fail
        refine (told11 _).mono ?_
        rintro e w2 ⟨rfl, m2⟩
        go_wp2
        go_ret
        exact ⟨rfl, h.mod.trans m2⟩
    · obtain rfl : m = n := by omega
      have hd1 : decide (m < m) = false := decide_eq_false (by omega)
      go_wp2_with fail
      refine (told11 _).mono ?_
      rintro e w2 ⟨rfl, m2⟩
      go_wp2
      go_ret
      exact ⟨rfl, h.mod.trans m2⟩

end Go.Proofs.Ytgojfccaohngaaa
