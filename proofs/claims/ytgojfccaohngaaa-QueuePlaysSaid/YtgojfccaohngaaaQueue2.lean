/-
  The contracts of package queue, second part: Del.
-/
import Derived.Test.YtgojfccaohngaaaQueue
import Derived.Lib.LazyBuf
namespace Go.Proofs.Ytgojfccaohngaaa
open Go.RowKit

theorem own_of_row {w : World} {g n c : Nat} {l : List Int} {f : Nat → Value} (hr : w.rowIs g 3 c f) (hl : l.length = n) (hnc : n ≤ c) (hcm : c ≤ maxLen) (hf : ∀ i, i < n → f i = .int .i64 (l.getD i 0)) :
    OwnL w (some ⟨g, 0, none⟩) n c l := by
  obtain ⟨cur, hh, hs, hc⟩ := hr
  refine ⟨by simpa using hl, .inr ⟨g, c, cur, rfl, Nat.zero_le _, hh, hnc, hcm, by simpa using hs, ?_⟩⟩
  apply List.ext_getElem?
  intro i
  rw [List.getElem?_take, List.getElem?_map]
  by_cases hi : i < n
  · rw [if_pos (by omega), Array.getElem?_toList, hc i (by omega), hf i hi, List.getD_eq_getElem?_getD, List.getElem?_eq_getElem (by omega)]
    rfl
  · rw [if_neg (by omega), List.getElem?_eq_none (by omega)]
    rfl
theorem row_of_own {w : World} {A : Option Addr} {n c : Nat} {l : List Int} (h : OwnL w A n c l) (hn : 0 < n) : ∃ g f, A = some ⟨g, 0, none⟩ ∧ w.rowIs g 3 c f ∧ ∀ i, i < n → f i = .int .i64 (l.getD i 0) := by
  have hl := h.len
  rcases h.2 with ⟨_, h0⟩ | ⟨g, cap, cur, hv, _, hh, hnc, hcm, hs, ht⟩
  · omega
  · injection hv with h1 h2 h3
    subst h1; subst h3
    refine ⟨g, fun i => cur[i]?.getD default, rfl, ⟨cur, hh, by simpa using hs, fun i hi => ?_⟩, fun i hi => ?_⟩
    · show cur[i]? = some (cur[i]?.getD default)
      rw [Array.getElem?_eq_getElem (by omega)]; rfl
    · have e : (cur.toList.take (n * 1))[i]? = (l.map (Value.int .i64))[i]? := by rw [ht]
      rw [List.getElem?_take, if_pos (by omega), List.getElem?_map, Array.getElem?_toList, List.getElem?_eq_getElem (by omega)] at e
      show cur[i]?.getD default = _
      rw [e, List.getD_eq_getElem?_getD, List.getElem?_eq_getElem (by omega)]
      rfl
theorem setCells_mod (g : Nat) : ∀ (vs : List Value) (o : Nat) (w : World), Mod (fun k => k = g) w (w.setCells g o vs)
  | [], _, w => Mod.refl _ w
  | v :: r, o, w => (set_mod' w g o v).trans (setCells_mod g r (o + 1) _)
where set_mod' (w : World) (b k : Nat) (v : Value) : Mod (· = b) w (w.setCell ⟨b, k, none⟩ v) := Mod.setCell (Mod.refl (· = b) w) (p := ⟨b, k, none⟩) (.inl rfl) _

theorem delete_any (A : Option Addr) (n c : Nat) (l : List Int) (i : Nat) (w : World) (h : OwnL w A n c l) (hi : i < n) :
    Calls Try.prog 62 #[.slice A n c, .int .i64 i, .int .i64 (i + 1 : Nat)] w fun e w' => e = .returned (.slice A (n - 1) c) ∧ OwnL w' A (n - 1) c (l.eraseIdx i) ∧ Mod (fun k => blk A = some k) w w' := by
  obtain ⟨g, f, rfl, hr, hf⟩ := row_of_own h (by omega)
  have hl := h.len
  have hc := h.isL.le
  have hm := h.isL.cap
  have hz : l.take n = l := List.take_of_length_le (by omega)
  refine (Try.slices_Delete_int_cells g 0 n c i (i + 1) l w (by omega) hc (by simp only [maxLen] at hm; omega) (by omega) (by omega) (fun j hj => by rw [Nat.zero_add, hr.cell (by omega), hf j (by omega)]) (fun j hj => hr.frozen _)).mono ?_
  rintro e w' ⟨rfl, q, rfl⟩
  have e1 : i + 1 - i = 1 := by omega
  rw [e1, hz]
  refine ⟨rfl, ?_, ?_⟩
  · have hr2 := rowIs_setCells ((l.take i ++ l.drop (i + 1) ++ List.replicate 1 0).map (Value.int .i64)) 0 (w.drewN q) f hr
    refine own_of_row hr2 (by rw [List.length_eraseIdx, if_pos (by omega)]; omega) (by omega) hm (fun j hj => ?_)
    have hlen : ((l.take i ++ l.drop (i + 1) ++ List.replicate 1 0).map (Value.int .i64)).length = n := by simp; omega
    rw [if_pos ⟨Nat.zero_le _, by omega⟩, Nat.sub_zero, List.getElem?_map, List.append_assoc, ← List.append_assoc, ← List.eraseIdx_eq_take_drop_succ, List.getElem?_append_left (by rw [List.length_eraseIdx, if_pos (by omega)]; omega),
      List.getD_eq_getElem?_getD, List.getElem?_eq_getElem (by rw [List.length_eraseIdx, if_pos (by omega)]; omega)]
    rfl
  · exact (((Mod.refl (fun k => k = g) w).drewN q).trans (setCells_mod g _ 0 _)).mono (fun k _ e => by subst e; rfl)

set_option maxHeartbeats 400000 in
theorem qdel_any (b : Nat) (o : Option Nat) (L : List Int) (g : Int) (w : World) (h : Queue w b o L) (hb : L.length ≤ 900000) :
    Calls Try.prog 30 #[.pointer (some ⟨b, 0, none⟩), .int .i64 g] w fun e w' => e = .returned (.bool (decide (g ∈ L))) ∧ Queue w' b o (L.erase g) ∧ Mod (QS b o) w w' := by
  have hlt := h.lt
  obtain ⟨A, n, c, hr, hown, rfl⟩ := h
  have hc : w.cell? ⟨b, 0, none⟩ = some (.slice A n c) := hr.cell (by omega)
  have hf := hr.frozen 0
  have hn := hown.len
  rw [hn] at hb
  go_enter Try.func30, Try.ntmps30
  go_wp2_with fail
  refine (index_any A n c L g _ hown.isL hb).mono ?_
  rintro e w1 ⟨r, rfl, hi, rfl⟩
  rcases hi with ⟨rfl, hm⟩ | ⟨k, hk, rfl, hny, e⟩
  · have HM := Lib.hid hm
    clear hm
    go_wp2
    rw [decide_eq_false HM.out]
    go_ret
    exact ⟨rfl, ⟨A, n, c, hr, by rw [List.erase_of_not_mem HM.out]; exact hown, rfl⟩, Mod.refl _ _⟩
  · have hm := mem_first L hk e
    have he := erase_first L hny hk e
    have HM := Lib.hid hm
    have HE := Lib.hid he
    clear hm he e hny
    go_wp2_with fail
    refine (delete_any A n c L k _ hown (by omega)).mono ?_
    rintro e w2 ⟨rfl, hown2, m2⟩
    have hr2 : w2.rowIs b 82 1 (fun _ => .slice A n c) := m2.rowIs hr (fun e => (hlt.2 b e).2 rfl)
    have hc2 := hr2.cell (i := 0) (by omega)
    have hf2 := hr2.frozen 0
    go_wp2
    rw [decide_eq_true HM.out, HE.out]
    go_ret
    have hr3 := row1_set hr2 (.slice A (n - 1) c)
    have hlt2 := hown2.ne_row hr2 (by decide)
    have m3 : Mod (fun k => k = b) w2 (w2.setCell ⟨b, 0, none⟩ (.slice A (n - 1) c)) := Mod.setCell (Mod.refl (· = b) w2) (p := ⟨b, 0, none⟩) (.inl rfl) _
    exact ⟨rfl, ⟨A, n - 1, c, hr3, hown2.keep m3 (fun k hk e => hlt2 (by rw [← e]; exact hk)), rfl⟩, (m2.mono (fun i _ e => .inr e)).trans' m3 (fun i _ e => .inl e)⟩

theorem qdel_nil (g : Int) (w : World) : Calls Try.prog 30 #[.pointer none, .int .i64 g] w fun e w' => e = .returned (.bool false) ∧ w' = w := by
  go_enter Try.func30, Try.ntmps30
  go_wp2
  go_ret
  exact ⟨rfl, rfl⟩
theorem qget_nil (ps most : Int) (w : World) : Calls Try.prog 19 #[.pointer none, .int .i64 ps, .int .i64 most] w fun e w' => e = .returned (.slice none 0 0) ∧ w' = w := by
  go_enter Try.func19, Try.ntmps19
  go_wp2
  go_ret
  exact ⟨rfl, rfl⟩

end Go.Proofs.Ytgojfccaohngaaa
