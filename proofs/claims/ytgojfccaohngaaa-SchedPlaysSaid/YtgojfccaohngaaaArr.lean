/-
  Blocks that hold lists: rows of slices of int, their arrays one's own (ArrO) or only read (ArrR), all of it in blocks of S.
-/
import Derived.Test.YtgojfccaohngaaaOut
namespace Go.Proofs.Ytgojfccaohngaaa
open Go.RowKit

/-- f, but v at k. -/
def upd {α : Type} (f : Nat → α) (k : Nat) (v : α) : Nat → α := fun i => if i = k then v else f i
theorem upd_same {α : Type} (f : Nat → α) (k : Nat) (v : α) : upd f k v k = v := by simp [upd]
theorem upd_ne {α : Type} (f : Nat → α) {k i : Nat} (v : α) (h : i ≠ k) : upd f k v i = f i := by simp [upd, h]

/-- Block b holds m lists, each in an array of its own. -/
def ArrO (m : Nat) (t : TypeId) (w : World) (S : Nat → Prop) (b : Nat) (L : Nat → List Int) : Prop :=
  t ≠ 3 ∧ ∃ (A : Nat → Option Addr) (n c : Nat → Nat), w.rowIs b t m (fun i => .slice (A i) (n i) (c i)) ∧ S b ∧ (∀ i, i < m → OwnL w (A i) (n i) (c i) (L i) ∧ ∀ g, blk (A i) = some g → S g) ∧
    (∀ i j, i < m → j < m → i ≠ j → ∀ g, blk (A i) = some g → blk (A j) ≠ some g) ∧ ∀ k, S k → k < w.heap.size

section
variable {m : Nat} {t : TypeId} {w w' w2 : World} {S T : Nat → Prop} {b k : Nat} {L : Nat → List Int} {A A2 : Option Addr} {n c n2 c2 : Nat} {l2 : List Int}
theorem ArrO.lt (h : ArrO m t w S b L) : ∀ k, S k → k < w.heap.size := by
  obtain ⟨_, A, n, c, hr, hb, hown, hd, hl⟩ := h
  exact hl
theorem ArrO.inS (h : ArrO m t w S b L) : S b := by
  obtain ⟨_, A, n, c, hr, hb, hown, hd, hl⟩ := h
  exact hb
theorem ArrO.keep (h : ArrO m t w S b L) (mm : Mod T w w') (hs : ∀ k, S k → ¬ T k) : ArrO m t w' S b L := by
  obtain ⟨ht, A, n, c, hr, hb, hown, hd, hl⟩ := h
  exact ⟨ht, A, n, c, mm.rowIs hr (hs b hb), hb, fun i hi => ⟨(hown i hi).1.keep mm (fun g hg => hs g ((hown i hi).2 g hg)), (hown i hi).2⟩, hd, fun k hk => Nat.lt_of_lt_of_le (hl k hk) mm.size⟩
theorem ArrO.keep0 (h : ArrO m t w S b L) (mm : Mod (fun _ => False) w w') : ArrO m t w' S b L := h.keep mm (fun _ _ h => h)
theorem ArrO.cell (h : ArrO m t w S b L) (hk : k < m) : ∃ A n c, w.cell? ⟨b, k, none⟩ = some (.slice A n c) ∧ OwnL w A n c (L k) ∧ w.frozen? ⟨b, k, none⟩ = false ∧ ∀ g, blk A = some g → S g ∧ g ≠ b := by
  obtain ⟨ht, A, n, c, hr, hb, hown, hd, hl⟩ := h
  exact ⟨A k, n k, c k, hr.cell hk, (hown k hk).1, hr.frozen k, fun g hg => ⟨(hown k hk).2 g hg, fun e => (hown k hk).1.ne_row hr ht (by rw [hg, e])⟩⟩
theorem ArrO.put (h : ArrO m t w S b L) (hk : k < m) (hc : w.cell? ⟨b, k, none⟩ = some (.slice A n c)) (mm : Mod (fun i => blk A = some i) w w2) (hown2 : OwnL w2 A2 n2 c2 l2)
    (hat : blk A2 = blk A ∨ ∀ i, blk A2 = some i → w.heap.size ≤ i) :
    ∃ S', ArrO m t (w2.setCell ⟨b, k, none⟩ (.slice A2 n2 c2)) S' b (upd L k l2) ∧ (∀ i, S' i → S i ∨ w.heap.size ≤ i) ∧ Mod (fun i => i = b ∨ blk A = some i) w (w2.setCell ⟨b, k, none⟩ (.slice A2 n2 c2)) := by
  obtain ⟨ht, B, n', c', hr, hb, hown, hd, hl⟩ := h
  have hck := hr.cell hk
  rw [hc] at hck
  have eA : A = B k := by simpa using (congrArg (fun v => match v with | some (Value.slice A _ _) => A | _ => none) hck)
  subst eA
  have hne : ∀ i, i < m → blk (B i) ≠ some b := fun i hi => (hown i hi).1.ne_row hr ht
  have hr2 := mm.rowIs hr (hne k hk)
  have ms : Mod (fun i => i = b) w2 (w2.setCell ⟨b, k, none⟩ (.slice A2 n2 c2)) := Mod.setCell (Mod.refl (fun i => i = b) w2) (p := ⟨b, k, none⟩) (.inl rfl) _
  have hne2 : blk A2 ≠ some b := hown2.ne_row hr2 ht
  have hdis : ∀ j, j < m → j ≠ k → ∀ g, blk A2 = some g → blk (B j) ≠ some g := by
    intro j hj hjk g hg e
    rcases hat with h1 | h1
    · exact hd k j hk hj (fun e => hjk e.symm) g (by rw [← h1]; exact hg) e
    · have h2 := h1 g hg
      have h3 := (hown j hj).1.lt g e
      omega
  refine ⟨fun i => S i ∨ blk A2 = some i, ⟨ht, upd B k A2, upd n' k n2, upd c' k c2, (hr2.set k _).congr (fun i hi => ?_), .inl hb, fun i hi => ?_, fun i j hi hj hij g hg => ?_, fun i hi => ?_⟩, fun i hi => ?_,
    (mm.mono (fun i _ e => .inr e)).trans' ms (fun i _ e => .inl e)⟩
  · by_cases e : i = k
    · subst e; simp [upd]
    · simp [upd, e]
  · by_cases e : i = k
    · subst e
      rw [upd_same, upd_same, upd_same, upd_same]
      exact ⟨hown2.keep ms (fun g hg e => hne2 (by rw [← e]; exact hg)), fun g hg => .inr hg⟩
    · rw [upd_ne _ _ e, upd_ne _ _ e, upd_ne _ _ e, upd_ne _ _ e]
      refine ⟨((hown i hi).1.keep mm (fun g hg e2 => ?_)).keep ms (fun g hg e2 => ?_), fun g hg => .inl ((hown i hi).2 g hg)⟩
      · exact hd i k hi hk e g hg e2
      · exact hne i hi (by rw [← e2]; exact hg)
  · by_cases e : i = k
    · subst e
      rw [upd_same] at hg
      rw [upd_ne _ _ (fun e => hij e.symm)]
      exact hdis j hj (fun e => hij e.symm) g hg
    · rw [upd_ne _ _ e] at hg
      by_cases e2 : j = k
      · subst e2
        rw [upd_same]
        intro h2
        exact hdis i hi e g h2 hg
      · rw [upd_ne _ _ e2]
        exact hd i j hi hj hij g hg
  · have h1 : w2.heap.size ≤ (w2.setCell ⟨b, k, none⟩ (.slice A2 n2 c2)).heap.size := ms.size
    rcases hi with hi | hi
    · have := hl i hi
      have := mm.size
      omega
    · have := hown2.lt i hi
      omega
  · rcases hi with hi | hi
    · exact .inl hi
    · rcases hat with h1 | h1
      · exact .inl ((hown k hk).2 i (by rw [← h1]; exact hi))
      · exact .inr (h1 i hi)
theorem ArrO.congr {L' : Nat → List Int} (h : ArrO m t w S b L) (e : ∀ i, i < m → L i = L' i) : ArrO m t w S b L' := by
  obtain ⟨ht, A, n, c, hr, hb, hown, hd, hl⟩ := h
  exact ⟨ht, A, n, c, hr, hb, fun i hi => by rw [← e i hi]; exact hown i hi, hd, hl⟩
theorem ArrO.new (ht : t ≠ 3) (w : World) (cs : Array Value) (hm : cs.size = m) (hcs : ∀ i, i < m → cs[i]? = some (.slice none 0 0)) : ArrO m t (w.alloc (.cells cs t)) (fun i => i = w.heap.size) w.heap.size (fun _ => []) := by
  subst hm
  exact ⟨ht, fun _ => none, fun _ => 0, fun _ => 0, World.rowIs_alloc w _ t (fun _ => .slice none 0 0) hcs, rfl, fun i hi => ⟨OwnL.nil _, (fun g hg => by cases hg)⟩, (fun i j _ _ _ g hg => by cases hg), (fun k (hk : k = w.heap.size) => by rw [hk]; simp)⟩
end

/-- Block b holds m lists, in arrays that nobody writes. -/
def ArrR (m : Nat) (t : TypeId) (w : World) (S : Nat → Prop) (b : Nat) (L : Nat → List Int) : Prop :=
  t ≠ 3 ∧ ∃ (A : Nat → Option Addr) (n c : Nat → Nat), w.rowIs b t m (fun i => .slice (A i) (n i) (c i)) ∧ S b ∧ (∀ i, i < m → IsL w (A i) (n i) (c i) (L i) ∧ TyL w (A i) ∧ ∀ g, blk (A i) = some g → S g) ∧ ∀ k, S k → k < w.heap.size

section
variable {m : Nat} {t : TypeId} {w w' w2 : World} {S T : Nat → Prop} {b k : Nat} {L : Nat → List Int} {A A2 : Option Addr} {n c n2 c2 : Nat} {l2 : List Int}
theorem ArrR.lt (h : ArrR m t w S b L) : ∀ k, S k → k < w.heap.size := by
  obtain ⟨_, A, n, c, hr, hb, hown, hl⟩ := h
  exact hl
theorem ArrR.inS (h : ArrR m t w S b L) : S b := by
  obtain ⟨_, A, n, c, hr, hb, hown, hl⟩ := h
  exact hb
theorem ArrR.keep (h : ArrR m t w S b L) (mm : Mod T w w') (hs : ∀ k, S k → ¬ T k) : ArrR m t w' S b L := by
  obtain ⟨ht, A, n, c, hr, hb, hown, hl⟩ := h
  refine ⟨ht, A, n, c, mm.rowIs hr (hs b hb), hb, fun i hi => ?_, fun k hk => Nat.lt_of_lt_of_le (hl k hk) mm.size⟩
  obtain ⟨h1, h2, h3⟩ := hown i hi
  exact ⟨h1.keep mm (fun d hd => hs d.block (h3 _ (by rw [hd]; rfl))), h2.keep mm (fun g hg => hs g (h3 g hg)), h3⟩
theorem ArrR.keep0 (h : ArrR m t w S b L) (mm : Mod (fun _ => False) w w') : ArrR m t w' S b L := h.keep mm (fun _ _ h => h)
theorem ArrR.cell (h : ArrR m t w S b L) (hk : k < m) : ∃ A n c, w.cell? ⟨b, k, none⟩ = some (.slice A n c) ∧ IsL w A n c (L k) ∧ w.frozen? ⟨b, k, none⟩ = false ∧ TyL w A ∧ ∀ g, blk A = some g → S g := by
  obtain ⟨ht, A, n, c, hr, hb, hown, hl⟩ := h
  obtain ⟨h1, h2, h3⟩ := hown k hk
  exact ⟨A k, n k, c k, hr.cell hk, h1, hr.frozen k, h2, h3⟩
theorem ArrR.set (h : ArrR m t w S b L) (hk : k < m) (mm : Mod (fun _ => False) w w2) (h2 : IsL w2 A2 n2 c2 l2) (t2 : TyL w2 A2) (hat : ∀ g, blk A2 = some g → S g ∨ w.heap.size ≤ g) :
    ∃ S', ArrR m t (w2.setCell ⟨b, k, none⟩ (.slice A2 n2 c2)) S' b (upd L k l2) ∧ (∀ i, S' i → S i ∨ w.heap.size ≤ i) ∧ Mod S w (w2.setCell ⟨b, k, none⟩ (.slice A2 n2 c2)) := by
  have hR := h.keep0 mm
  obtain ⟨ht, B, n', c', hr, hb, hown, hl⟩ := hR
  have ms : Mod (fun i => i = b) w2 (w2.setCell ⟨b, k, none⟩ (.slice A2 n2 c2)) := Mod.setCell (Mod.refl (fun i => i = b) w2) (p := ⟨b, k, none⟩) (.inl rfl) _
  have hne2 := t2.ne hr ht
  refine ⟨fun i => S i ∨ blk A2 = some i, ⟨ht, upd B k A2, upd n' k n2, upd c' k c2, (hr.set k _).congr (fun i hi => ?_), .inl hb, fun i hi => ?_, fun i hi => ?_⟩, fun i hi => ?_,
    (mm.mono (fun i _ e => e.elim)).trans' ms (fun i _ e => by rw [e]; exact hb)⟩
  · by_cases e : i = k
    · subst e; simp [upd]
    · simp [upd, e]
  · by_cases e : i = k
    · subst e
      rw [upd_same, upd_same, upd_same, upd_same]
      exact ⟨h2.keep ms (fun d hd => hne2 d.block (by rw [hd]; rfl)), t2.keep ms hne2, fun g hg => .inr hg⟩
    · rw [upd_ne _ _ e, upd_ne _ _ e, upd_ne _ _ e, upd_ne _ _ e]
      obtain ⟨h3, h4, h5⟩ := hown i hi
      have hne := h4.ne hr ht
      exact ⟨h3.keep ms (fun d hd => hne d.block (by rw [hd]; rfl)), h4.keep ms hne, fun g hg => .inl (h5 g hg)⟩
  · have h1 : w2.heap.size ≤ (w2.setCell ⟨b, k, none⟩ (.slice A2 n2 c2)).heap.size := ms.size
    rcases hi with hi | hi
    · have := hl i hi
      omega
    · have := t2.lt i hi
      omega
  · rcases hi with hi | hi
    · exact .inl hi
    · exact hat i hi
theorem ArrR.congr {L' : Nat → List Int} (h : ArrR m t w S b L) (e : ∀ i, i < m → L i = L' i) : ArrR m t w S b L' := by
  obtain ⟨ht, A, n, c, hr, hb, hown, hl⟩ := h
  exact ⟨ht, A, n, c, hr, hb, fun i hi => by rw [← e i hi]; exact hown i hi, hl⟩
theorem ArrR.new (ht : t ≠ 3) (w : World) (cs : Array Value) (hm : cs.size = m) (hcs : ∀ i, i < m → cs[i]? = some (.slice none 0 0)) : ArrR m t (w.alloc (.cells cs t)) (fun i => i = w.heap.size) w.heap.size (fun _ => []) := by
  subst hm
  exact ⟨ht, fun _ => none, fun _ => 0, fun _ => 0, World.rowIs_alloc w _ t (fun _ => .slice none 0 0) hcs, rfl, fun i hi => ⟨IsL.nil _, TyL.nil _, (fun g hg => by cases hg)⟩, (fun k (hk : k = w.heap.size) => by rw [hk]; simp)⟩
end

end Go.Proofs.Ytgojfccaohngaaa
