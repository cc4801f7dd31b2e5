/-
  Package central in memory; its plain laws; the small contracts (New, has, side, last).
-/
import Derived.Test.YtjjbcfbljnekgaaArr
import Derived.Test.YtjjbcfbljnekgaaConcat
import Derived.Deep.RegionHeld3
import Derived.IntWalk
import Derived.Outline
namespace Go.Proofs.Ytjjbcfbljnekgaa
open Go.RowKit

def Cent (w : World) (S : Nat → Prop) (z b : Nat) (L : Nat → List Int) : Prop :=
  ArrO 64 97 w S b L ∧ S z ∧ w.rowIs z 94 1 (fun _ => .slice (some ⟨b, 0, none⟩) 16 16)

section
variable {w w' w2 : World} {S T : Nat → Prop} {z b k : Nat} {L L' : Nat → List Int} {A A2 : Option Addr} {n c n2 c2 : Nat} {l2 : List Int}
theorem Cent.lt (h : Cent w S z b L) : ∀ k, S k → k < w.heap.size := h.1.lt
theorem Cent.keep (h : Cent w S z b L) (mm : Mod T w w') (hs : ∀ k, S k → ¬ T k) : Cent w' S z b L := ⟨h.1.keep mm hs, h.2.1, mm.rowIs h.2.2 (hs z h.2.1)⟩
theorem Cent.keep0 (h : Cent w S z b L) (mm : Mod (fun _ => False) w w') : Cent w' S z b L := h.keep mm (fun _ _ h => h)
theorem Cent.congr (h : Cent w S z b L) (e : ∀ i, i < 64 → L i = L' i) : Cent w S z b L' := ⟨h.1.congr e, h.2.1, h.2.2⟩
theorem Cent.top (h : Cent w S z b L) : w.cell? ⟨z, 0, none⟩ = some (.slice (some ⟨b, 0, none⟩) 16 16) := h.2.2.cell (by omega)
theorem Cent.zlt (h : Cent w S z b L) : z < w.heap.size := h.2.2.lt
theorem Cent.blt (h : Cent w S z b L) : b < w.heap.size := h.1.lt b h.1.inS
theorem Cent.cell (h : Cent w S z b L) (hk : k < 64) : ∃ A n c, w.cell? ⟨b, k, none⟩ = some (.slice A n c) ∧ OwnL w A n c (L k) ∧ w.frozen? ⟨b, k, none⟩ = false ∧ ∀ g, blk A = some g → S g ∧ g ≠ b ∧ g ≠ z := by
  obtain ⟨A, n, c, hc, hown, hf, hg⟩ := h.1.cell hk
  exact ⟨A, n, c, hc, hown, hf, fun g h1 => ⟨(hg g h1).1, (hg g h1).2, fun e => hown.ne_row h.2.2 (by decide) (by rw [h1, e])⟩⟩
theorem Cent.ne (h : Cent w S z b L) : z ≠ b := by
  rintro rfl
  obtain ⟨_, A, n, c, hr, _⟩ := h.1
  obtain ⟨c1, h1, _⟩ := hr
  obtain ⟨c2, h2, _⟩ := h.2.2
  rw [h1] at h2
  injection h2 with h2
  injection h2 with _ h2
  exact absurd h2 (by decide)
theorem Cent.put (h : Cent w S z b L) (hk : k < 64) (hc : w.cell? ⟨b, k, none⟩ = some (.slice A n c)) (mm : Mod (fun i => blk A = some i) w w2) (hown2 : OwnL w2 A2 n2 c2 l2)
    (hat : blk A2 = blk A ∨ ∀ i, blk A2 = some i → w.heap.size ≤ i) :
    ∃ S', Cent (w2.setCell ⟨b, k, none⟩ (.slice A2 n2 c2)) S' z b (upd L k l2) ∧ (∀ i, S' i → S i ∨ w.heap.size ≤ i) ∧ Mod S w (w2.setCell ⟨b, k, none⟩ (.slice A2 n2 c2)) := by
  obtain ⟨A', n', c', hc', _, _, hg⟩ := h.cell hk
  rw [hc] at hc'
  obtain rfl : A = A' := by injection hc' with hc'; injection hc'
  obtain ⟨S', h1, h2, h3⟩ := h.1.put hk hc mm hown2 hat
  refine ⟨fun i => S' i ∨ i = z, ⟨?_, .inr rfl, h3.rowIs h.2.2 (fun e => ?_)⟩, fun i hi => ?_, h3.mono (fun i _ e => ?_)⟩
  · obtain ⟨ht, B, n', c', hr, hb, hown, hd, hl⟩ := h1
    refine ⟨ht, B, n', c', hr, .inl hb, fun i hi => ⟨(hown i hi).1, fun g hg => .inl ((hown i hi).2 g hg)⟩, hd, fun i hi => ?_⟩
    rcases hi with hi | hi
    · exact hl i hi
    · rw [hi]
      exact Nat.lt_of_lt_of_le h.zlt h3.size
  · rcases e with e | e
    · exact h.ne e
    · exact (hg z e).2.2 rfl
  · rcases hi with hi | hi
    · exact h2 i hi
    · rw [hi]; exact .inl h.2.1
  · rcases e with e | e
    · rw [e]; exact h.1.inS
    · exact (hg i e).1
end

/-- The first j from i on (below i + f) for which id stands in L j. -/
def cfind (L : Nat → List Int) (id : Int) : Nat → Nat → Option Nat
  | 0, _ => none
  | f + 1, i => if id ∈ L i then some i else cfind L id f (i + 1)
theorem cfind_none {L : Nat → List Int} {id : Int} {f i : Nat} (h : ∀ j, i ≤ j → j < i + f → id ∉ L j) : cfind L id f i = none := by
  induction f generalizing i with
  | zero => rfl
  | succ f ih =>
    rw [cfind, if_neg (h i (by omega) (by omega))]
    exact ih (fun j h1 h2 => h j (by omega) (by omega))
theorem cfind_some {L : Nat → List Int} {id : Int} {f i j : Nat} (hj : j < i + f) (hij : i ≤ j) (hm : id ∈ L j) (h : ∀ m, i ≤ m → m < j → id ∉ L m) : cfind L id f i = some j := by
  induction f generalizing i with
  | zero => omega
  | succ f ih =>
    by_cases e : i = j
    · subst e; rw [cfind, if_pos hm]
    · rw [cfind, if_neg (h i (by omega) (by omega))]
      exact ih (by omega) (by omega) (fun m h1 h2 => h m (by omega) (by omega))
def cdelB (L : Nat → List Int) (id : Int) : Bool := (cfind L id 64 0).isSome
def cdelL (L : Nat → List Int) (id : Int) : Nat → List Int := match cfind L id 64 0 with | some j => upd L j ((L j).erase id) | none => L
theorem cdel_no {L : Nat → List Int} {id : Int} (h : ∀ j, j < 64 → id ∉ L j) : cdelB L id = false ∧ cdelL L id = L := by
  have e : cfind L id 64 0 = none := cfind_none (fun j _ hj => h j (by omega))
  exact ⟨by rw [cdelB, e]; rfl, by rw [cdelL, e]⟩
theorem cdel_yes {L : Nat → List Int} {id : Int} {j : Nat} (hj : j < 64) (hm : id ∈ L j) (h : ∀ m, m < j → id ∉ L m) : cdelB L id = true ∧ cdelL L id = upd L j ((L j).erase id) := by
  have e : cfind L id 64 0 = some j := cfind_some (by omega) (by omega) hm (fun m _ hm => h m hm)
  exact ⟨by rw [cdelB, e]; rfl, by rw [cdelL, e]⟩

theorem table_any (w : World) : Calls Try.prog 65 #[] w fun e w' => ∃ v, e = .returned v ∧ Mod (fun _ => False) w w' := by
  go_enter Try.func65, Try.ntmps65
  go_wp2
  exact bodyPost_ret (v := .agg #[.int .i64 1, .int .i64 2, .int .i64 3, .int .i64 4, .int .i64 6, .int .i64 8, .int .i64 12, .int .i64 16, .int .i64 24, .int .i64 32, .int .i64 48, .int .i64 64, .int .i64 96, .int .i64 128, .int .i64 192, .int .i64 256]) (by simp [results, Try.results65, go_sem]) rfl ⟨_, rfl, (Mod.refl _ w).alloc _⟩
theorem count16 (w : World) : Calls Try.prog 59 #[] w fun e w' => e = .returned (.int .i64 16) ∧ Mod (fun _ => False) w w' := by
  go_enter Try.func59, Try.ntmps59
  go_wp2_with fail
  refine (table_any _).mono ?_
  rintro e w1 ⟨v, rfl, m1⟩
  go_wp2
  go_ret
  exact ⟨rfl, m1⟩

theorem side_any (f : Bool) (w : World) : Calls Try.prog 61 #[.bool f] w fun e w' => e = .returned (.int .i64 (if f then 1 else 0)) ∧ w' = w := by
  cases f
  · go_enter Try.func61, Try.ntmps61
    go_wp2
    go_ret
    exact ⟨rfl, rfl⟩
  · go_enter Try.func61, Try.ntmps61
    go_wp2
    go_ret
    exact ⟨rfl, rfl⟩

theorem chas_nil (k : Int) (w : World) : Calls Try.prog 60 #[.pointer none, .int .i64 k] w fun e w' => e = .returned (.bool false) ∧ w' = w := by
  go_enter Try.func60, Try.ntmps60
  go_wp2
  go_ret
  exact ⟨rfl, rfl⟩
theorem chas_no {w : World} {S : Nat → Prop} {z b : Nat} {L : Nat → List Int} (k : Int) (h : Cent w S z b L) (hk : ¬ (0 ≤ k ∧ k < 16)) : Calls Try.prog 60 #[.pointer (some ⟨z, 0, none⟩), .int .i64 k] w fun e w' => e = .returned (.bool false) ∧ w' = w := by
  have ht := h.top
  by_cases h0 : 0 ≤ k
  · have hd0 : decide (0 ≤ k) = true := decide_eq_true h0
    have hd1 : decide (k < 16) = false := decide_eq_false (by omega)
    clear h0 hk
    go_enter Try.func60, Try.ntmps60
    go_wp2
    go_ret
    exact ⟨rfl, rfl⟩
  · have hd0 : decide (0 ≤ k) = false := decide_eq_false h0
    clear h0 hk
    go_enter Try.func60, Try.ntmps60
    go_wp2
    go_ret
    exact ⟨rfl, rfl⟩
theorem chas_yes {w : World} {S : Nat → Prop} {z b : Nat} {L : Nat → List Int} (k : Nat) (h : Cent w S z b L) (hk : k < 16) : Calls Try.prog 60 #[.pointer (some ⟨z, 0, none⟩), .int .i64 (k : Int)] w fun e w' => e = .returned (.bool true) ∧ w' = w := by
  have ht := h.top
  have hd0 : decide ((0 : Int) ≤ (k : Int)) = true := decide_eq_true (by omega)
  have hd1 : decide ((k : Int) < 16) = true := decide_eq_true (by omega)
  have hd2 : decide (k < 16) = true := decide_eq_true (by omega)
  go_enter Try.func60, Try.ntmps60
  go_wp2
  go_ret
  exact ⟨rfl, rfl⟩

theorem clast_none {w : World} {S : Nat → Prop} {z b : Nat} {L : Nat → List Int} (j : Nat) (h : Cent w S z b L) (hj : j < 64) (hL : L j = []) : Calls Try.prog 62 #[.pointer (some ⟨b, j, none⟩)] w fun e w' => e = .returned (.tuple #[.int .i64 0, .bool false]) ∧ w' = w := by
  obtain ⟨A, n, c, hc, hown, hf, _⟩ := h.cell hj
  have hn : n = 0 := by rw [← hown.len, hL]; rfl
  subst hn
  go_enter Try.func62, Try.ntmps62
  go_wp2
  go_ret2
  exact ⟨rfl, rfl⟩
theorem clast_some {w : World} {S : Nat → Prop} {z b : Nat} {L : Nat → List Int} (j : Nat) (h : Cent w S z b L) (hj : j < 64) (l : List Int) (x : Int) (hL : L j = l ++ [x]) (hl : l.length ≤ 800000) : Calls Try.prog 62 #[.pointer (some ⟨b, j, none⟩)] w fun e w' => e = .returned (.tuple #[.int .i64 x, .bool true]) ∧
    ∃ S', Cent w' S' z b (upd L j l) ∧ (∀ i, S' i → S i ∨ w.heap.size ≤ i) ∧ Mod S w w' := by
  obtain ⟨A, n, c, hc, hown, hf, _⟩ := h.cell hj
  obtain ⟨m, rfl⟩ : ∃ m, n = m + 1 := ⟨l.length, by rw [← hown.len, hL]; simp⟩
  have hlm : l.length = m := by have := hown.len; rw [hL] at this; simpa using this
  obtain ⟨g, o, rfl, hcell⟩ := hown.isL.at_ (k := m) (by omega)
  rw [hL, List.getD_eq_getElem?_getD, List.getElem?_append_right (by omega), hlm, Nat.sub_self] at hcell
  have hcell' : w.cell? ⟨g, o + m, none⟩ = some (.int .i64 x) := hcell
  have hown2 : OwnL w (some ⟨g, o, none⟩) m c l := by have := hown.cut (k := m) (by omega); rw [hL, ← hlm, List.take_left, hlm] at this; exact this
  have hcm : m + 1 ≤ c := hown.isL.le
  have hcc : c ≤ maxLen := hown.isL.cap
  have hcut := cut_high (P := Try.prog) 35 Try.underlying35 int_info (some ⟨g, o, none⟩) (m + 1) c m (by omega)
  rw [hlm] at hl
  obtain ⟨S', hS1, hS2, hS3⟩ := h.put hj hc (Mod.refl _ w) hown2 (.inl rfl)
  have hn1 : decide ((m : Int) + 1 = 0) = false := by simp; omega
  have hn2 : ((m : Int) + 1 == 0) = false := by rw [beq_eq_false_iff_ne]; omega
  clear hcell hcc hlm hL hown hown2
  go_enter Try.func62, Try.ntmps62
  go_wp2
  go_ret2
  exact ⟨rfl, S', hS1, hS2, hS3⟩

theorem zero_rows (i : Nat) (hi : i < 64) : (Array.replicate 64 (Value.slice none 0 0))[i]? = some (.slice none 0 0) := by
  rw [Array.getElem?_replicate, if_pos hi]

set_option maxRecDepth 100000 in
theorem cnew (w : World) : Calls Try.prog 36 #[] w fun e w' => ∃ z b S, e = .returned (.pointer (some ⟨z, 0, none⟩)) ∧ Cent w' S z b (fun _ => []) ∧ (∀ i, S i → w.heap.size ≤ i) ∧ Mod (fun _ => False) w w' := by
  have hmk : ∀ W, (Instr.makeSlice 92 (.int .i64 16) (.int .i64 16)).run Try.prog W = .ok (.slice (some ⟨W.heap.size, 0, none⟩) 16 16) (W.alloc (.cells (Array.replicate 64 (Value.slice none 0 0)) 97)) := fun _ => by kernel_rfl
  go_enter Try.func36, Try.ntmps36
  go_wp2_with fail
  refine (count16 _).mono ?_
  rintro e w1 ⟨rfl, m1⟩
  go_wp2
  go_ret
  have a1 : ArrO 64 97 (w1.alloc (.cells (Array.replicate 64 (Value.slice none 0 0)) 97)) (fun i => i = w1.heap.size) w1.heap.size (fun _ => []) := ArrO.new (by decide) w1 _ (by simp) zero_rows
  have hs := m1.size
  refine ⟨w1.heap.size + 1, w1.heap.size, fun i => i = w1.heap.size ∨ i = w1.heap.size + 1, rfl, ⟨?_, .inr rfl, ?_⟩, ?_, (m1.alloc _).alloc _⟩
  · obtain ⟨ht, B, n', c', hr, hb, hown, hd, hl⟩ := a1.keep0 ((Mod.refl _ _).alloc (.cells #[.slice (some ⟨w1.heap.size, 0, none⟩) 16 16] 94))
    refine ⟨ht, B, n', c', hr, .inl hb, fun i hi => ⟨(hown i hi).1, fun g hg => .inl ((hown i hi).2 g hg)⟩, hd, fun i hi => ?_⟩
    rcases hi with hi | hi
    · exact hl i hi
    · rw [hi]; simp
  · have := World.rowIs_alloc (w1.alloc (.cells (Array.replicate 64 (Value.slice none 0 0)) 97)) #[.slice (some ⟨w1.heap.size, 0, none⟩) 16 16] 94 (fun _ => .slice (some ⟨w1.heap.size, 0, none⟩) 16 16) (fun i hi => by
      obtain rfl : i = 0 := by simp at hi; omega
      rfl)
    simpa using this
  · rintro i (hi | hi) <;> omega

end Go.Proofs.Ytjjbcfbljnekgaa
