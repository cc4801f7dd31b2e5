/-
  The contract of the reference's NewSched.
-/
import Derived.Test.YtgojfccaohngaaaRSchA
set_option linter.unusedSimpArgs false
namespace Go.Proofs.Ytgojfccaohngaaa
open Go.RowKit

/-- A reference's scheduler that is being made: k rings so far. -/
structure MkR (W w : World) (s : Nat) (bs : Nat → Nat) (k : Nat) (A : Option Addr) (n c : Nat) : Prop where
  row : w.rowIs s 79 2 (fun i => if i = 0 then .slice A n c else .slice none 0 0)
  own : OwnG w 53 1 A n c (ptrs bs k)
  nk : n = k
  ring : ∀ i, i < k → (∀ D, RRingD D w (bs i) [] none) ∧ W.heap.size ≤ bs i
  inj : ∀ i j, i < k → j < k → bs i = bs j → i = j
  ls : W.heap.size ≤ s
  la : ∀ d, blk A = some d → W.heap.size ≤ d
  mod : Mod (fun _ => False) W w

theorem RRingD.keep53 {D S : Nat → Prop} {w w' : World} {b : Nat} {row : List Int} {nxt : Option Int} (h : RRingD D w b row nxt) (m : Mod S w w') (hS : ∀ g, S g → HasT w g 53 ∨ HasT w g 79) : RRingD D w' b row nxt := by
  refine h.keep m (fun hb => ?_) (fun g hg => .inr (fun h3 => ?_))
  · rcases hS b hb with e | e
    · exact h.hasT.ne e (by decide) rfl
    · exact h.hasT.ne e (by decide) rfl
  · have h3 : HasT w g 3 := h3
    rcases hS g hg with e | e
    · exact h3.ne e (by decide) rfl
    · exact h3.ne e (by decide) rfl
theorem MkR.next {W w w2 : World} {s k n c n2 c2 : Nat} {bs : Nat → Nat} {A A2 : Option Addr} (h : MkR W w s bs k A n c) (hlt : n2 = n + 1)
    (hown : OwnG w2 53 1 A2 n2 c2 (ptrs bs k ++ [.pointer (some ⟨w.heap.size, 0, none⟩)]))
    (hg : ((w.alloc (.cells #[.slice none 0 0, .slice none 0 0] 55)).alloc (.cells #[.pointer (some ⟨w.heap.size, 0, none⟩)] 53)).grownBy w2 (blk A))
    (hat : blk A2 = blk A ∨ blk A2 = some ((w.alloc (.cells #[.slice none 0 0, .slice none 0 0] 55)).alloc (.cells #[.pointer (some ⟨w.heap.size, 0, none⟩)] 53)).heap.size) :
    MkR W (w2.setCell ⟨s, 0, none⟩ (.slice A2 n2 c2)) s (upd bs k w.heap.size) (k + 1) A2 n2 c2 := by
  have m0 : Mod (fun _ => False) w (w.alloc (.cells #[.slice none 0 0, .slice none 0 0] 55)) := (Mod.refl _ w).alloc _
  have m2 : Mod (fun i => blk A = some i) w w2 := (((Mod.refl _ w).alloc _).alloc _).grown hg (fun i hi => .inl hi)
  have m2' : Mod (fun i => blk A = some i) (w.alloc (.cells #[.slice none 0 0, .slice none 0 0] 55)) w2 := ((Mod.refl _ _).alloc _).grown hg (fun i hi => .inl hi)
  have tA : ∀ g, blk A = some g → HasT w g 53 := fun g hg => h.own.ty g hg
  have hs := HasT.of_row h.row
  have nes : ¬ blk A = some s := fun e => hs.ne (tA s e) (by decide) rfl
  have row2 := m2.rowIs h.row nes
  have hs2 := HasT.of_row row2
  have ms := set_mod w2 s 0 (.slice A2 n2 c2)
  have s0 := h.mod.size
  refine {
    row := (row2.set 0 _).congr (fun i hi => by by_cases e : i = 0 <;> simp [e])
    own := by
      rw [← ptrs_snoc]
      exact hown.keep ms (fun g hg2 e => by subst e; exact hs2.ne (hown.ty g hg2) (by decide) rfl)
    nk := by rw [hlt, h.nk]
    ring := fun i hi => ?_
    inj := fun i j hi hj e => ?_
    ls := h.ls
    la := fun d hd => ?_
    mod := (h.mod.new m2 (fun i hi => h.la i hi)).new ms (fun i hi => by rw [hi]; exact h.ls) }
  · by_cases e : i = k
    · subst e
      rw [upd_same]
      refine ⟨fun D => ?_, s0⟩
      have r1 := (RRingD.alloc D w).keep53 m2' (fun g hg => .inl ((tA g hg).keep m0 (fun h => h)))
      exact r1.keep53 ms (fun g hg => .inr (by rw [hg]; exact hs2))
    · rw [upd_ne _ _ e]
      obtain ⟨r2, l2⟩ := h.ring i (by omega)
      exact ⟨fun D => ((r2 D).keep53 m2 (fun g hg => .inl (tA g hg))).keep53 ms (fun g hg => .inr (by rw [hg]; exact hs2)), l2⟩
  · by_cases ei : i = k
    · by_cases ej : j = k
      · omega
      · subst ei
        rw [upd_same, upd_ne _ _ ej] at e
        have := ((h.ring j (by omega)).1 (fun _ => False)).hasT.lt
        omega
    · by_cases ej : j = k
      · subst ej
        rw [upd_same, upd_ne _ _ ei] at e
        have := ((h.ring i (by omega)).1 (fun _ => False)).hasT.lt
        omega
      · rw [upd_ne _ _ ei, upd_ne _ _ ej] at e
        exact h.inj i j (by omega) (by omega) e
  · rcases hat with e | e
    · exact h.la d (by rw [← e]; exact hd)
    · rw [e] at hd
      simp at hd
      omega
theorem MkR.done {W w : World} {s k n c : Nat} {bs : Nat → Nat} {A : Option Addr} (h : MkR W w s bs k A n c) (h1 : 1 ≤ k) (h2 : k ≤ 64) : ∃ x : RA, x.s = s ∧ x.ps = k ∧ ∀ D, RSch x W.heap.size D w E0 [] := by
  obtain rfl := h.nk
  rcases h.own.2 with ⟨hv, h0⟩ | ⟨g', cap, cur, hv, _, hh, hnc, hcm, hsz, ht⟩
  · omega
  · injection hv with e1 e2 e3
    subst e1; subst e3
    refine ⟨⟨s, g', c, n⟩, rfl, rfl, fun D => ⟨bs, fun i => cur[i]?.getD default, none, 0, 0, ?_⟩⟩
    exact {
      row := h.row
      arr := ⟨cur, hh, by simpa using hsz, fun i hi => by
        show cur[i]? = some (cur[i]?.getD default)
        have hi2 : i < cur.size := by simp at hsz; have h9 : i < c := hi; omega
        rw [Array.getElem?_eq_getElem hi2]; rfl⟩
      ptr := fun i (hi : i < n) => by
        have e9 : (cur.toList.take (n * 1))[i]? = (ptrs bs n)[i]? := by rw [ht]
        rw [List.getElem?_take, if_pos (by omega), Array.getElem?_toList, ptrs_at bs n i hi] at e9
        show cur[i]?.getD default = _
        rw [e9]; rfl
      ring := fun i hi => (h.ring i hi).1 D
      inj := h.inj, q := IsL.nil _, ty := TyD.nil D _, one := h1, most := h2, cap := hnc, capm := hcm, ls := h.ls, lg := h.la g' rfl, lb := fun i hi => (h.ring i hi).2 }

set_option maxHeartbeats 1000000 in
set_option maxRecDepth 100000 in
theorem rs_new (ps : Nat) (w : World) (h1 : 1 ≤ ps) (h2 : ps ≤ 64) : Calls Try.prog 50 #[.int .i64 ps] w fun e w' => ∃ x : RA, e = .returned (.pointer (some ⟨x.s, 0, none⟩)) ∧ x.ps = ps ∧ (∀ D, RSch x w.heap.size D w' E0 []) ∧ Mod (fun _ => False) w w' := by
  go_enter Try.func50, Try.ntmps50
  go_wp2_with fail
  have hr1 : (w.alloc (.cells #[.slice none 0 0, .slice none 0 0] 79)).rowIs w.heap.size 79 2 (fun i => if i = 0 then .slice none 0 0 else .slice none 0 0) :=
    World.rowIs_alloc w #[.slice none 0 0, .slice none 0 0] 79 _ (fun i hi => by
      have h3 : i = 0 ∨ i = 1 := by simp at hi; omega
      rcases h3 with rfl | rfl <;> rfl)
  have h0 : MkR w (w.alloc (.cells #[.slice none 0 0, .slice none 0 0] 79)) w.heap.size (fun _ => 0) 0 none 0 0 := {
    row := hr1, own := OwnG.nil _ _ _, nk := rfl, ring := fun i hi => (by omega), inj := fun i j hi => (by omega), ls := Nat.le_refl _, la := fun d hd => (by cases hd), mod := (Mod.refl _ w).alloc _ }
  obtain ⟨s, hs⟩ : ∃ s, s = w.heap.size := ⟨_, rfl⟩
  rw [← hs] at h0 ⊢
  clear hs hr1
  go_loopw [4] (fun i wr => ∃ (k : Nat) (bs : Nat → Nat) (A : Option Addr) (n c : Nat), k ≤ ps ∧ i = .int .i64 k ∧ MkR w wr s bs k A n c) (fun i _ => ps - (intOf i).toNat)
  case atStart => exact ⟨0, _, _, _, _, by omega, rfl, h0⟩
  case round =>
    clear h0
    obtain ⟨k, bs, A, n, c, hk, rfl, h⟩ := hrel
    by_cases hk2 : k < ps
    · have d1 : decide ((k : Int) < (ps : Int)) = true := decide_eq_true (by omega)
      have d2 : decide (k < ps) = true := decide_eq_true hk2
      have hc0 : wr.cell? ⟨s, 0, none⟩ = some (.slice A n c) := h.row.cell (i := 0) (by omega)
      have hn : n = k := h.nk
      have hn64 : n ≤ 64 := by omega
      have HN := Lib.hid hn
      have hsl := h.row.lt
      clear hn
      have own1 : OwnG ((wr.alloc (.cells #[.slice none 0 0, .slice none 0 0] 55)).alloc (.cells #[.pointer (some ⟨wr.heap.size, 0, none⟩)] 53)) 53 1 A n c (ptrs bs k) := (h.own.alloc _).alloc _
      have rd1 : RdG ((wr.alloc (.cells #[.slice none 0 0, .slice none 0 0] 55)).alloc (.cells #[.pointer (some ⟨wr.heap.size, 0, none⟩)] 53)) 1 (some ⟨wr.heap.size + 1, 0, none⟩) 1 [.pointer (some ⟨wr.heap.size, 0, none⟩)] := by
        have := RdG.lit (wr.alloc (.cells #[.slice none 0 0, .slice none 0 0] 55)) 53 1 #[.pointer (some ⟨wr.heap.size, 0, none⟩)] 1 rfl (by simp [Value.oneCell'])
        simpa using this
      go_wp2_with (at_builtin; refine wpList_appG _ rfl (.tmp 16) (.tmp 19) _ 53 1 (.pointer none) 8 rfl Try.underlying77 info53 rfl (by omega) (by omega) A n c _ rfl own1 _ 1 1 _ rfl rd1 (by omega) ?_; intro A2 n2 c2 w2 hn2 hn3 hown2 hg2 hat2; have m2 : Mod (fun i => blk A = some i) wr w2 := (((Mod.refl _ wr).alloc _).alloc _).grown hg2 (fun i hi => .inl hi); have row2 := m2.rowIs h.row (fun e => (HasT.of_row h.row).ne (h.own.ty _ e) (by decide) rfl); have t2 := row2.cell (i := 0) (by omega); have f2 := row2.frozen 0; have l2 := row2.lt)
      have hmk := h.next (by omega) hown2 hg2 hat2
      clear hc0 h hown2 hg2 hat2 m2 row2 t2 f2 l2 own1 rd1
      go_roundw
      case rel => exact ⟨k + 1, upd bs k wr.heap.size, A2, n2, c2, by omega, by go_num, hmk⟩
      case measure => simp [intOf]; omega
    · have hkp : k = ps := by omega
      obtain ⟨x, hx1, hx2, hx3⟩ := h.done (by omega) (by omega)
      have d1 : decide ((k : Int) < (ps : Int)) = false := decide_eq_false (by omega)
      have d2 : decide (k < ps) = false := decide_eq_false hk2
      have hm := h.mod
      clear hkp
      go_wp2
      go_ret
      exact ⟨x, by rw [hx1]; rfl, by omega, hx3, hm⟩

end Go.Proofs.Ytgojfccaohngaaa
