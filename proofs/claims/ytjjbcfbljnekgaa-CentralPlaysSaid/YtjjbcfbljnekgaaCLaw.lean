/-
  The contracts of package central as the laws use them: the central is the call's own, all older memory stays.
-/
import Derived.Test.YtjjbcfbljnekgaaCTold
namespace Go.Proofs.Ytjjbcfbljnekgaa
open Go.RowKit

def CF (W w : World) (z b : Nat) (L : Nat → List Int) : Prop := ∃ S, Cent w S z b L ∧ (∀ i, S i → W.heap.size ≤ i) ∧ Mod (fun _ => False) W w
section
variable {W w w' : World} {z b : Nat} {L L' : Nat → List Int}
theorem CF.mod (h : CF W w z b L) : Mod (fun _ => False) W w := h.choose_spec.2.2
theorem CF.keep0 (h : CF W w z b L) (m : Mod (fun _ => False) w w') : CF W w' z b L := by
  obtain ⟨S, h1, h2, h3⟩ := h
  exact ⟨S, h1.keep0 m, h2, h3.trans m⟩
theorem CF.of {S S' : Nat → Prop} (hS : ∀ i, S i → W.heap.size ≤ i) (mm : Mod (fun _ => False) W w) (h1 : Cent w' S' z b L') (h2 : ∀ i, S' i → S i ∨ w.heap.size ≤ i) (h3 : Mod S w w') : CF W w' z b L' :=
  ⟨S', h1, fun i hi => by
    have := mm.size
    rcases h2 i hi with h | h
    · exact hS i h
    · omega, mm.new h3 hS⟩
theorem CF.congr (h : CF W w z b L) (e : ∀ i, i < 64 → L i = L' i) : CF W w z b L' := by
  obtain ⟨S, h1, h2, h3⟩ := h
  exact ⟨S, h1.congr e, h2, h3⟩
def Small (L : Nat → List Int) : Prop := ∀ i, i < 64 → (L i).length ≤ 400000
theorem Small.upd {k : Nat} {l : List Int} (h : Small L) (hl : l.length ≤ 400000) : Small (upd L k l) := fun i hi => upd_len hl (h i hi)

theorem cf_new (W : World) : Calls Try.prog 36 #[] W fun e w' => ∃ z b, e = .returned (.pointer (some ⟨z, 0, none⟩)) ∧ CF W w' z b (fun _ => []) :=
  (cnew W).mono fun _ _ ⟨z, b, S, he, h1, h2, h3⟩ => ⟨z, b, he, S, h1, h2, h3⟩
theorem cf_put (h : CF W w z b L) (k : Nat) (f : Bool) (id : Int) (hk : k < 16) (hl : Small L) :
    Calls Try.prog 37 #[.pointer (some ⟨z, 0, none⟩), .int .i64 k, .int .i64 id, .bool f] w fun e w' => e = .returned (.tuple #[]) ∧ CF W w' z b (cputL L k f id) := by
  obtain ⟨S, h1, h2, h3⟩ := h
  exact (cput_yes k id f h1 hk hl).mono fun _ _ ⟨he, S', a1, a2, a3⟩ => ⟨he, CF.of h2 h3 a1 a2 a3⟩
theorem cf_putnew (h : CF W w z b L) (k : Nat) (f : Bool) (id : Int) (hk : k < 16) (hl : Small L) (hn : ∀ j, j < 64 → id ∉ L j) :
    Calls Try.prog 37 #[.pointer (some ⟨z, 0, none⟩), .int .i64 k, .int .i64 id, .bool f] w fun e w' => e = .returned (.tuple #[]) ∧ CF W w' z b (upd L (k * 4 + slot f) (L (k * 4 + slot f) ++ [id])) := by
  have := cf_put h k f id hk hl
  rw [cput_new hn] at this
  exact this
theorem cf_begin (h : CF W w z b L) (hl : Small L) : Calls Try.prog 38 #[.pointer (some ⟨z, 0, none⟩)] w fun e w' => e = .returned (.tuple #[]) ∧ CF W w' z b (cbegL L) := by
  obtain ⟨S, h1, h2, h3⟩ := h
  exact (cbegin_any h1 hl).mono fun _ _ ⟨he, S', a1, a2, a3⟩ => ⟨he, CF.of h2 h3 a1 a2 a3⟩
theorem cf_del (h : CF W w z b L) (id : Int) (hl : Small L) : Calls Try.prog 39 #[.pointer (some ⟨z, 0, none⟩), .int .i64 id] w fun e w' => e = .returned (.bool (cdelB L id)) ∧ CF W w' z b (cdelL L id) := by
  obtain ⟨S, h1, h2, h3⟩ := h
  exact (cdel_any id h1 hl).mono fun _ _ ⟨he, S', a1, a2, a3⟩ => ⟨he, CF.of h2 h3 a1 a2 a3⟩
theorem cf_delno (h : CF W w z b L) (id : Int) (hl : Small L) (hn : ∀ j, j < 64 → id ∉ L j) : Calls Try.prog 39 #[.pointer (some ⟨z, 0, none⟩), .int .i64 id] w fun e w' => e = .returned (.bool false) ∧ CF W w' z b L := by
  have := cf_del h id hl
  rw [(cdel_no hn).1, (cdel_no hn).2] at this
  exact this
theorem cf_delyes (h : CF W w z b L) (id : Int) (hl : Small L) (j : Nat) (hj : j < 64) (hm : id ∈ L j) (hn : ∀ m, m < j → id ∉ L m) :
    Calls Try.prog 39 #[.pointer (some ⟨z, 0, none⟩), .int .i64 id] w fun e w' => e = .returned (.bool true) ∧ CF W w' z b (upd L j ((L j).erase id)) := by
  have := cf_del h id hl
  rw [(cdel_yes hj hm hn).1, (cdel_yes hj hm hn).2] at this
  exact this
theorem cf_un (h : CF W w z b L) (hl : Small L) (n : Nat) (hn : cun L 16 = n) : Calls Try.prog 40 #[.pointer (some ⟨z, 0, none⟩)] w fun e w' => e = .returned (.int .i64 (n : Int)) ∧ CF W w' z b L := by
  have h0 := h
  obtain ⟨S, h1, h2, h3⟩ := h
  subst hn
  exact (cun_any h1 hl).mono fun _ _ ⟨he, m⟩ => ⟨he, h0.keep0 m⟩
theorem cf_take (h : CF W w z b L) (k : Nat) (hk : k < 16) (hl : Small L) : Calls Try.prog 41 #[.pointer (some ⟨z, 0, none⟩), .int .i64 k] w fun e w' => e = .returned (tup3 (ctakeV L k)) ∧ CF W w' z b (ctakeL L k) := by
  obtain ⟨S, h1, h2, h3⟩ := h
  exact (ctake_any k h1 hk hl).mono fun _ _ ⟨he, S', a1, a2, a3⟩ => ⟨he, CF.of h2 h3 a1 a2 a3⟩
theorem cf_take0 (h : CF W w z b L) (k : Nat) (hk : k < 16) (hl : Small L) (r : List Int) (x : Int) (hx : L (k * 4) = r ++ [x]) :
    Calls Try.prog 41 #[.pointer (some ⟨z, 0, none⟩), .int .i64 k] w fun e w' => e = .returned (.tuple #[.int .i64 x, .bool false, .bool true]) ∧ CF W w' z b (upd L (k * 4) r) := by
  have h2 := cf_take h k hk hl
  have e1 : ctakeV L k = (x, false, true) := by simp [ctakeV, hx]
  have e2 : ctakeL L k = upd L (k * 4) r := by simp [ctakeL, hx]
  rw [e1, e2] at h2
  exact h2
theorem cf_take2 (h : CF W w z b L) (k : Nat) (hk : k < 16) (hl : Small L) (r : List Int) (x : Int) (h0 : L (k * 4) = []) (hx : L (k * 4 + 2) = r ++ [x]) :
    Calls Try.prog 41 #[.pointer (some ⟨z, 0, none⟩), .int .i64 k] w fun e w' => e = .returned (.tuple #[.int .i64 x, .bool true, .bool true]) ∧ CF W w' z b (upd L (k * 4 + 2) r) := by
  have h2 := cf_take h k hk hl
  have e1 : ctakeV L k = (x, true, true) := by simp [ctakeV, h0, hx]
  have e2 : ctakeL L k = upd L (k * 4 + 2) r := by simp [ctakeL, h0, hx]
  rw [e1, e2] at h2
  exact h2
theorem cf_takeno (h : CF W w z b L) (k : Nat) (hk : k < 16) (hl : Small L) (h0 : L (k * 4) = []) (hx : L (k * 4 + 2) = []) :
    Calls Try.prog 41 #[.pointer (some ⟨z, 0, none⟩), .int .i64 k] w fun e w' => e = .returned (.tuple #[.int .i64 0, .bool false, .bool false]) ∧ CF W w' z b L := by
  have h2 := cf_take h k hk hl
  have e1 : ctakeV L k = (0, false, false) := by simp [ctakeV, h0, hx]
  have e2 : ctakeL L k = L := by simp [ctakeL, h0, hx]
  rw [e1, e2] at h2
  exact h2
theorem cf_full (h : CF W w z b L) (k : Nat) (hk : k < 16) (hl : Small L) : Calls Try.prog 43 #[.pointer (some ⟨z, 0, none⟩), .int .i64 k] w fun e w' => e = .returned (tup2 (clastV L (k * 4 + 3))) ∧ CF W w' z b (clastL L (k * 4 + 3)) := by
  obtain ⟨S, h1, h2, h3⟩ := h
  exact (cfull_any k h1 hk hl).mono fun _ _ ⟨he, S', a1, a2, a3⟩ => ⟨he, CF.of h2 h3 a1 a2 a3⟩
theorem cf_fullyes (h : CF W w z b L) (k : Nat) (hk : k < 16) (hl : Small L) (r : List Int) (x : Int) (hx : L (k * 4 + 3) = r ++ [x]) :
    Calls Try.prog 43 #[.pointer (some ⟨z, 0, none⟩), .int .i64 k] w fun e w' => e = .returned (.tuple #[.int .i64 x, .bool true]) ∧ CF W w' z b (upd L (k * 4 + 3) r) := by
  have h2 := cf_full h k hk hl
  have e1 : clastV L (k * 4 + 3) = (x, true) := by simp [clastV, hx]
  have e2 : clastL L (k * 4 + 3) = upd L (k * 4 + 3) r := by simp [clastL, hx]
  rw [e1, e2] at h2
  exact h2
theorem cf_fullno (h : CF W w z b L) (k : Nat) (hk : k < 16) (hl : Small L) (hx : L (k * 4 + 3) = []) :
    Calls Try.prog 43 #[.pointer (some ⟨z, 0, none⟩), .int .i64 k] w fun e w' => e = .returned (.tuple #[.int .i64 0, .bool false]) ∧ CF W w' z b L := by
  have h2 := cf_full h k hk hl
  have e1 : clastV L (k * 4 + 3) = (0, false) := by simp [clastV, hx]
  have e2 : clastL L (k * 4 + 3) = L := by simp [clastL, hx]
  rw [e1, e2] at h2
  exact h2
theorem cf_any (h : CF W w z b L) (hl : Small L) : Calls Try.prog 48 #[.pointer (some ⟨z, 0, none⟩)] w fun e w' => e = .returned (tupA (canyV L 32 0)) ∧ CF W w' z b (canyL L 32 0) := by
  obtain ⟨S, h1, h2, h3⟩ := h
  exact (cany_any h1 hl).mono fun _ _ ⟨he, S', a1, a2, a3⟩ => ⟨he, CF.of h2 h3 a1 a2 a3⟩
theorem cf_told (h : CF W w z b L) : Calls Try.prog 42 #[] w fun e w' => e = .returned (.bool true) ∧ CF W w' z b L :=
  (told8 w).mono fun _ _ ⟨he, m⟩ => ⟨he, h.keep0 m⟩
theorem cf_takenil (h : CF W w z b L) (k : Int) : Calls Try.prog 41 #[.pointer none, .int .i64 k] w fun e w' => e = .returned (.tuple #[.int .i64 0, .bool false, .bool false]) ∧ CF W w' z b L :=
  (ctake_nil k w).mono fun _ _ ⟨he, e⟩ => ⟨he, e ▸ h⟩
theorem cf_unnil (h : CF W w z b L) : Calls Try.prog 40 #[.pointer none] w fun e w' => e = .returned (.int .i64 0) ∧ CF W w' z b L :=
  (cun_nil w).mono fun _ _ ⟨he, e⟩ => ⟨he, e ▸ h⟩
theorem cf_delnil (h : CF W w z b L) (id : Int) : Calls Try.prog 39 #[.pointer none, .int .i64 id] w fun e w' => e = .returned (.bool false) ∧ CF W w' z b L :=
  (cdel_nil id w).mono fun _ _ ⟨he, e⟩ => ⟨he, e ▸ h⟩
end

end Go.Proofs.Ytjjbcfbljnekgaa
