/-
  The contracts of package ring: what each method of a ring does, said of the ring's row and of who is next.
-/
import Derived.Test.YtgojfccaohngaaaProg
import Derived.Test.YtgojfccaohngaaaBase
namespace Go.Proofs.Ytgojfccaohngaaa
open Go.RowKit

theorem int_info : (Try.prog.info? 3).map (fun i => (i.zero, i.size, i.bytes)) = some (some (.int .i64 0), 1, 8) := by kernel_rfl

def rcell (l : Nat → Int) (f n : Nat) (nx : Int) (hs : Bool) : Nat → Value := fun i =>
  if i < 256 then .int .i64 (l i) else if i = 256 then .int .i64 f else if i = 257 then .int .i64 n else if i = 258 then .int .i64 nx else .bool hs

/-- Block b is a ring: its row from the first on, who is next. -/
def Ring (w : World) (b : Nat) (row : List Int) (nxt : Option Int) : Prop :=
  ∃ (l : Nat → Int) (f : Nat) (nx : Int), w.rowIs b 86 260 (rcell l f row.length nx nxt.isSome) ∧ f < 256 ∧ row.length ≤ 256 ∧
    (∀ i, i < row.length → l ((f + i) % 256) = row.getD i 0) ∧ (∀ g, nxt = some g → nx = g)

theorem Ring.keep {S : Nat → Prop} {w w' : World} {b : Nat} {row : List Int} {nxt : Option Int} (h : Ring w b row nxt) (m : Mod S w w') (hs : ¬ S b) : Ring w' b row nxt := by
  obtain ⟨l, f, nx, hr, rest⟩ := h
  exact ⟨l, f, nx, m.rowIs hr hs, rest⟩
theorem Ring.lt {w : World} {b : Nat} {row : List Int} {nxt : Option Int} (h : Ring w b row nxt) : b < w.heap.size := by
  obtain ⟨l, f, nx, hr, rest⟩ := h
  exact hr.lt
theorem Ring.len {w : World} {b : Nat} {row : List Int} {nxt : Option Int} (h : Ring w b row nxt) : row.length ≤ 256 := by
  obtain ⟨l, f, nx, hr, rest⟩ := h
  exact rest.2.1

section
variable {w : World} {b f n : Nat} {l : Nat → Int} {nx : Int} {hs : Bool}
theorem rc_from (h : w.rowIs b 86 260 (rcell l f n nx hs)) (f' : Nat) {v : Int} (hv : v = f') : (w.setCell ⟨b, 256, none⟩ (.int .i64 v)).rowIs b 86 260 (rcell l f' n nx hs) := by
  subst hv
  refine (h.set 256 _).congr (fun i hi => ?_)
  unfold rcell
  by_cases h1 : i = 256 <;> simp [h1]
theorem rc_n (h : w.rowIs b 86 260 (rcell l f n nx hs)) (n' : Nat) {v : Int} (hv : v = n') : (w.setCell ⟨b, 257, none⟩ (.int .i64 v)).rowIs b 86 260 (rcell l f n' nx hs) := by
  subst hv
  refine (h.set 257 _).congr (fun i hi => ?_)
  unfold rcell
  by_cases h1 : i = 257 <;> simp [h1]
theorem rc_next (h : w.rowIs b 86 260 (rcell l f n nx hs)) (g : Int) : (w.setCell ⟨b, 258, none⟩ (.int .i64 g)).rowIs b 86 260 (rcell l f n g hs) := by
  refine (h.set 258 _).congr (fun i hi => ?_)
  unfold rcell
  by_cases h1 : i = 258 <;> simp [h1]
theorem rc_has (h : w.rowIs b 86 260 (rcell l f n nx hs)) (t : Bool) : (w.setCell ⟨b, 259, none⟩ (.bool t)).rowIs b 86 260 (rcell l f n nx t) := by
  refine (h.set 259 _).congr (fun i hi => ?_)
  unfold rcell
  by_cases h1 : i = 259
  · simp [h1]
  · rw [if_neg h1]
    by_cases h2 : i < 256
    · simp [h2]
    · by_cases h3 : i = 256
      · simp [h3]
      · by_cases h4 : i = 257
        · simp [h4]
        · have : i = 258 := by omega
          simp [this]
theorem rc_at (h : w.rowIs b 86 260 (rcell l f n nx hs)) {k : Nat} (hk : k < 256) (g : Int) : (w.setCell ⟨b, k, none⟩ (.int .i64 g)).rowIs b 86 260 (rcell (fun j => if j = k then g else l j) f n nx hs) := by
  refine (h.set k _).congr (fun i hi => ?_)
  unfold rcell
  by_cases h1 : i = k
  · subst h1; simp [hk]
  · simp [h1]
end

theorem rowIs_drewN {w : World} {b : Nat} {t : TypeId} {n : Nat} {f : Nat → Value} (h : w.rowIs b t n f) (k : Nat) : (w.drewN k).rowIs b t n f := h

set_option maxHeartbeats 400000 in
theorem at_any (b f : Nat) (i : Int) (w : World) (hf : f < 256) (h0 : 0 ≤ i) (hi : i < 100000) (hc : w.cell? ⟨b, 256, none⟩ = some (.int .i64 f)) :
    Calls Try.prog 60 #[.pointer (some ⟨b, 0, none⟩), .int .i64 i] w fun e w' => e = .returned (.pointer (some ⟨b, (f + i.toNat) % 256, none⟩)) ∧ ∃ k, w' = w.drewN k := by
  obtain ⟨n, rfl⟩ := Int.eq_ofNat_of_zero_le h0
  rw [Int.toNat_natCast]
  go_enter Try.func60, Try.ntmps60
  go_wp2
  go_quiet (fail)
  go_wp2
  go_ret
  exact ⟨rfl, _, rfl⟩

set_option maxHeartbeats 400000 in
theorem first_any (b : Nat) (x : Int) (row : List Int) (nxt : Option Int) (w : World) (h : Ring w b (x :: row) nxt) :
    Calls Try.prog 59 #[.pointer (some ⟨b, 0, none⟩)] w fun e w' => e = .returned (.int .i64 x) ∧ Ring w' b row nxt ∧ Mod (· = b) w w' := by
  obtain ⟨l, f, nx, hr, hf, hn, hl, hx⟩ := h
  have hn' : row.length ≤ 255 := by simpa using hn
  have h256 : w.cell? ⟨b, 256, none⟩ = some (.int .i64 f) := hr.cell (by omega)
  have h257 : w.cell? ⟨b, 257, none⟩ = some (.int .i64 ((row.length : Int) + 1)) := by
    have := hr.cell (i := 257) (by omega)
    simpa [rcell] using this
  have hf256 : w.frozen? ⟨b, 256, none⟩ = false := hr.frozen _
  have hf257 : w.frozen? ⟨b, 257, none⟩ = false := hr.frozen _
  have hcx : w.cell? ⟨b, f % 256, none⟩ = some (.int .i64 x) := by
    have h1 := hr.cell (i := f % 256) (by omega)
    have h2 := hl 0 (by simp)
    simp at h2
    rw [h1]
    unfold rcell
    rw [if_pos (by omega), h2]
  go_enter Try.func59, Try.ntmps59
  go_wp2_with (go_at_call 60; refine (at_any b f _ _ hf (by omega) (by omega) h256).mono ?_; rintro e w' ⟨rfl, k, rfl⟩)
  go_region
  go_wp2
  go_ret
  refine ⟨rfl, ?_, Mod.setCell (Mod.setCell ((Mod.refl (· = b) w).drewN _) (p := ⟨b, 256, none⟩) (.inl rfl) _) (p := ⟨b, 257, none⟩) (.inl rfl) _⟩
  refine ⟨l, (f + 1) % 256, nx, rc_n (rc_from (rowIs_drewN hr _) _ (by omega)) _ rfl, by omega, by omega, fun i hi => ?_, hx⟩
  have h2 := hl (i + 1) (by simp; omega)
  rw [show ((f + 1) % 256 + i) % 256 = (f + (i + 1)) % 256 by omega, h2]
  rfl


set_option maxRecDepth 100000 in
/-- Behind the row, with room. -/
theorem behind_room (b : Nat) (g : Int) (row : List Int) (nxt : Option Int) (w : World) (h : Ring w b row nxt) (hlt : row.length < 256) :
    Calls Try.prog 58 #[.pointer (some ⟨b, 0, none⟩), .int .i64 g] w fun e w' => e = .returned (.slice none 0 0) ∧ Ring w' b (row ++ [g]) nxt ∧ Mod (· = b) w w' := by
  obtain ⟨l, f, nx, hr, hf, hn, hl, hx⟩ := h
  have h256 : w.cell? ⟨b, 256, none⟩ = some (.int .i64 f) := hr.cell (by omega)
  have h257 : w.cell? ⟨b, 257, none⟩ = some (.int .i64 (row.length : Int)) := hr.cell (by omega)
  have hf257 : w.frozen? ⟨b, 257, none⟩ = false := hr.frozen _
  have hcx : w.cell? ⟨b, (f + row.length) % 256, none⟩ = some (.int .i64 (l ((f + row.length) % 256))) := by
    have h1 := hr.cell (i := (f + row.length) % 256) (by omega)
    rw [h1]
    unfold rcell
    rw [if_pos (by omega)]
  have hfx : w.frozen? ⟨b, (f + row.length) % 256, none⟩ = false := hr.frozen _
  go_enter Try.func58, Try.ntmps58
  go_wp2_with (go_at_call 60; refine (at_any b f _ _ hf (by omega) (by omega) h256).mono ?_; rintro e w' ⟨rfl, k, rfl⟩)
  go_ret
  refine ⟨rfl, ?_, Mod.setCell (Mod.setCell ((Mod.refl (· = b) w).drewN _) (p := ⟨b, (f + row.length) % 256, none⟩) (.inl rfl) _) (p := ⟨b, 257, none⟩) (.inl rfl) _⟩
  refine ⟨_, f, nx, rc_n (rc_at (rowIs_drewN hr _) (Nat.mod_lt _ (by omega)) _) _ (by simp), hf, by simp; omega, fun i hi => ?_, hx⟩
  rw [List.length_append] at hi
  simp only [List.length_cons, List.length_nil] at hi
  rw [List.getD_eq_getElem?_getD]
  by_cases hi2 : i = row.length
  · subst hi2; simp
  · have hlt2 : i < row.length := by omega
    rw [List.getElem?_append_left hlt2, ← List.getD_eq_getElem?_getD, ← hl i hlt2]
    rw [if_neg (by omega)]

set_option maxHeartbeats 400000 in
set_option maxRecDepth 100000 in
/-- Behind the row, without room. -/
theorem behind_full (b : Nat) (g : Int) (row : List Int) (nxt : Option Int) (w : World) (h : Ring w b row nxt) (hlt : row.length = 256) :
    Calls Try.prog 58 #[.pointer (some ⟨b, 0, none⟩), .int .i64 g] w fun e w' => ∃ A n c, e = .returned (.slice A n c) ∧ Ring w' b (row.drop 128) nxt ∧ IsL w' A n c (row.take 128 ++ [g]) ∧
      (∀ d, A = some d → w.heap.size ≤ d.block) ∧ Mod (· = b) w w' := by
  obtain ⟨l, f, nx, hr, hf, hn, hl, hx⟩ := id h
  have h257 : w.cell? ⟨b, 257, none⟩ = some (.int .i64 256) := by
    have := hr.cell (i := 257) (by omega)
    simpa [rcell, hlt] using this
  clear hl hn hf hx
  have Hlt : Hid (row.length = 256) := hlt
  clear hlt hr
  go_enter Try.func58, Try.ntmps58
  go_wp2
  go_loopw [5, 26] (fun v i wr => ∃ (k : Nat) (A : Option Addr) (n c : Nat), k ≤ 128 ∧ i = .int .i64 k ∧ v = .slice A n c ∧ OwnL wr A n c (row.take k) ∧ Ring wr b (row.drop k) nxt ∧
      (∀ d, blk A = some d → w.heap.size ≤ d) ∧ Mod (· = b) w wr) (fun _ i _ => 128 - (intOf i).toNat)
  case atStart => exact ⟨0, none, 0, 0, by omega, rfl, rfl, OwnL.nil _, h, (fun d hd => by cases hd), Mod.refl _ _⟩
  case round =>
    obtain ⟨k, A, n, c, hk, rfl, rfl, hown, hring, hfr, hmod⟩ := hrel
    have hblt := hring.lt
    by_cases hk2 : k < 128
    · have hlen : n ≤ 128 := by have := hown.len; rw [List.length_take] at this; omega
      obtain ⟨x, e1, e2, _⟩ := drop_cons row (k := k) (by have := Hlt.out; omega)
      have hr2 : Ring wr b (x :: row.drop (k + 1)) nxt := by rw [← e1]; exact hring
      have hne : ∀ d, blk A = some d → ¬ d = b := by
        intro d hd e
        subst e
        exact (by obtain ⟨_, _, _, hrow, _⟩ := hring; exact hown.ne_row hrow (by decide) hd)
      have E2 := Lib.hid e2
      clear e1 e2 hring
      go_wp2_with (first
        | (go_at_call 59; refine (first_any b _ _ _ _ hr2).mono ?_; rintro e w1 ⟨rfl, hring1, hmod1⟩)
        | (at_builtin; refine wpList_app _ rfl (.tmp 28) (.tmp 31) _ rfl Try.underlying27 int_info A n c _ rfl ((hown.keep hmod1 hne).alloc _) _ 1 1 [x] rfl (IsL.one w1 _) (by omega) ?_; intro A2 n2 c2 w2 hn1 hn2 hown2 hg2 hat2))
      have m1 : Mod (fun i => blk A = some i) w1 w2 := ((Mod.refl (fun i => blk A = some i) w1).alloc _).grown hg2 (fun k hk => .inl hk)
      have m2 : Mod (· = b) w w2 := ((hmod.trans hmod1).alloc _).grown hg2 (fun k hk => .inr (hfr k hk))
      have hfr2 : ∀ d, blk A2 = some d → w.heap.size ≤ d := by
        intro d hd
        have s1 := hmod.size
        have s2 := hmod1.size
        rcases hat2 with e | e
        · exact hfr d (by rw [← e]; exact hd)
        · rw [e] at hd; simp at hd; omega
      have hring2 := hring1.keep m1 (fun e => hne _ e rfl)
      go_roundw
      case rel => exact ⟨k + 1, A2, n2, c2, by omega, by go_num, rfl, by rw [E2.out]; exact hown2, hring2, hfr2, m2⟩
      case measure => simp [intOf]; omega
    · have hlen : n ≤ 128 := by have := hown.len; rw [List.length_take] at this; omega
      have Hk : Hid (k = 128) := by unfold Hid; omega
      go_wp2_with (at_builtin; refine wpList_app _ rfl (.tmp 34) (.tmp 36) _ rfl Try.underlying27 int_info A n c _ rfl (hown.alloc _) _ 1 1 [g] rfl (IsL.one wr _) (by omega) ?_; intro A2 n2 c2 w2 hn1 hn2 hown2 hg2 hat2)
      have hk3 := Hk.out
      have hne : ¬ blk A = some b := by
        intro hd
        obtain ⟨_, _, _, hrow, _⟩ := hring
        exact hown.ne_row hrow (by decide) hd
      have m1 : Mod (fun i => blk A = some i) wr w2 := ((Mod.refl (fun i => blk A = some i) wr).alloc _).grown hg2 (fun k hk => .inl hk)
      have m2 : Mod (· = b) w w2 := (hmod.alloc _).grown hg2 (fun k hk => .inr (hfr k hk))
      have hfr2 : ∀ d, A2 = some d → w.heap.size ≤ d.block := by
        intro d hd
        have s1 := hmod.size
        rcases hat2 with e | e
        · exact hfr d.block (by rw [← e, hd]; rfl)
        · rw [hd] at e; simp [blk] at e; omega
      have hring2 := hring.keep m1 hne
      subst hk3
      go_ret
      exact ⟨A2, n2, c2, rfl, hring2, hown2.isL, hfr2, m2⟩


/-- What putting g behind the row leaves, and what it tells. -/
def rbehind (row : List Int) (g : Int) : List Int × List Int := if row.length < 256 then (row ++ [g], []) else (row.drop 128, row.take 128 ++ [g])
def rput (row : List Int) (nxt : Option Int) (g : Int) (next : Bool) : (List Int × List Int) × Option Int :=
  match next, nxt with
  | false, _ => (rbehind row g, nxt)
  | true, none => ((row, []), some g)
  | true, some h => (rbehind row h, some g)

theorem behind_any (b : Nat) (g : Int) (row : List Int) (nxt : Option Int) (w : World) (h : Ring w b row nxt) :
    Calls Try.prog 58 #[.pointer (some ⟨b, 0, none⟩), .int .i64 g] w fun e w' => ∃ A n c, e = .returned (.slice A n c) ∧ Ring w' b (rbehind row g).1 nxt ∧ IsL w' A n c (rbehind row g).2 ∧
      (∀ d, A = some d → w.heap.size ≤ d.block) ∧ Mod (· = b) w w' := by
  by_cases hlt : row.length < 256
  · refine (behind_room b g row nxt w h hlt).mono ?_
    rintro e w' ⟨rfl, hr, hm⟩
    unfold rbehind
    rw [if_pos hlt]
    exact ⟨none, 0, 0, rfl, hr, IsL.nil _, (fun d hd => by cases hd), hm⟩
  · refine (behind_full b g row nxt w h (by have := h.len; omega)).mono ?_
    unfold rbehind
    rw [if_neg hlt]
    exact fun _ _ h => h

theorem Ring.cells {w : World} {b : Nat} {row : List Int} {nxt : Option Int} (h : Ring w b row nxt) :
    w.cell? ⟨b, 257, none⟩ = some (.int .i64 row.length) ∧ w.cell? ⟨b, 259, none⟩ = some (.bool nxt.isSome) ∧ (∃ nx, w.cell? ⟨b, 258, none⟩ = some (.int .i64 nx) ∧ ∀ g, nxt = some g → nx = g) ∧
      ∀ i, w.frozen? ⟨b, i, none⟩ = false := by
  obtain ⟨l, f, nx, hr, hf, hn, hl, hx⟩ := h
  exact ⟨hr.cell (by omega), hr.cell (by omega), ⟨nx, hr.cell (by omega), hx⟩, fun i => hr.frozen i⟩
theorem Ring.setNext {w : World} {b : Nat} {row : List Int} {nxt : Option Int} (h : Ring w b row nxt) (k : Nat) (g : Int) :
    Ring (((w.drewN k).setCell ⟨b, 258, none⟩ (.int .i64 g)).setCell ⟨b, 259, none⟩ (.bool true)) b row (some g) := by
  obtain ⟨l, f, nx, hr, hf, hn, hl, hx⟩ := h
  exact ⟨l, f, g, rc_has (rc_next (rowIs_drewN hr k) g) true, hf, hn, hl, fun _ h => by injection h⟩
theorem Ring.noNext {w : World} {b : Nat} {row : List Int} {nxt : Option Int} (h : Ring w b row nxt) : Ring (w.setCell ⟨b, 259, none⟩ (.bool false)) b row none := by
  obtain ⟨l, f, nx, hr, hf, hn, hl, hx⟩ := h
  exact ⟨l, f, nx, rc_has hr false, hf, hn, hl, fun _ h => by cases h⟩

theorem mod_next (w : World) (b k : Nat) (g : Int) : Mod (· = b) w (((w.drewN k).setCell ⟨b, 258, none⟩ (.int .i64 g)).setCell ⟨b, 259, none⟩ (.bool true)) :=
  Mod.setCell (Mod.setCell ((Mod.refl (· = b) w).drewN _) (p := ⟨b, 258, none⟩) (.inl rfl) _) (p := ⟨b, 259, none⟩) (.inl rfl) _

theorem put_nil (g : Int) (next : Bool) (w : World) : Calls Try.prog 22 #[.pointer none, .int .i64 g, .bool next] w fun e w' => e = .returned (.slice none 0 0) ∧ w' = w := by
  go_enter Try.func22, Try.ntmps22
  go_wp2
  go_ret
  exact ⟨rfl, rfl⟩

set_option maxHeartbeats 400000 in
set_option maxRecDepth 100000 in
theorem put_any (b : Nat) (g : Int) (next : Bool) (row : List Int) (nxt : Option Int) (w : World) (h : Ring w b row nxt) :
    Calls Try.prog 22 #[.pointer (some ⟨b, 0, none⟩), .int .i64 g, .bool next] w fun e w' => ∃ A n c, e = .returned (.slice A n c) ∧ Ring w' b (rput row nxt g next).1.1 (rput row nxt g next).2 ∧
      IsL w' A n c (rput row nxt g next).1.2 ∧ (∀ d, A = some d → w.heap.size ≤ d.block) ∧ Mod (· = b) w w' := by
  cases next with
  | false =>
    go_enter Try.func22, Try.ntmps22
    go_wp2_with (go_at_call 58; refine (behind_any b g row nxt _ h).mono ?_; rintro e w' ⟨A, n, c, rfl, h1, h2, h3, h4⟩)
    go_ret
    exact ⟨A, n, c, rfl, h1, h2, h3, h4⟩
  | true =>
    obtain ⟨h257, h259, ⟨nx, h258, hnx⟩, hfz⟩ := h.cells
    have f258 := hfz 258
    have f259 := hfz 259
    clear hfz
    cases nxt with
    | none =>
      have h259' : w.cell? ⟨b, 259, none⟩ = some (.bool false) := h259
      clear h259 hnx
      go_enter Try.func22, Try.ntmps22
      go_wp2
      go_quiet (fail)
      go_wp2
      go_ret
      exact ⟨none, 0, 0, rfl, h.setNext _ g, IsL.nil _, (fun d hd => by cases hd), mod_next w b _ g⟩
    | some y =>
      obtain rfl := hnx y rfl
      have h259' : w.cell? ⟨b, 259, none⟩ = some (.bool true) := h259
      clear h259 hnx
      go_enter Try.func22, Try.ntmps22
      go_wp2
      go_quiet (fail)
      go_wp2_with (go_at_call 58; refine (behind_any b _ row (some g) _ (h.setNext _ g)).mono ?_; rintro e w' ⟨A, n, c, rfl, h1, h2, h3, h4⟩)
      go_ret
      exact ⟨A, n, c, rfl, h1, h2, (fun d hd => by have := h3 d hd; simpa using this), (mod_next w b _ g).trans h4⟩

theorem zero_ring : Try.zeroCells86 = ((List.range 260).map (rcell (fun _ => 0) 0 0 0 false)).toArray := by kernel_rfl
theorem ring_alloc (w : World) : Ring (w.alloc (.cells Try.zeroCells86 86)) w.heap.size [] none := by
  refine ⟨fun _ => 0, 0, 0, ?_, by omega, by simp, (fun i hi => by simp at hi), fun _ h => by cases h⟩
  have hs : Try.zeroCells86.size = 260 := by rw [zero_ring]; simp
  have h := World.rowIs_alloc w Try.zeroCells86 86 (rcell (fun _ => 0) 0 0 0 false) (fun i hi => by
    rw [hs] at hi
    rw [zero_ring]
    simp [hi])
  rw [hs] at h
  exact h

theorem new_ring (w : World) : Calls Try.prog 21 #[] w fun e w' => ∃ b, e = .returned (.pointer (some ⟨b, 0, none⟩)) ∧ w.heap.size ≤ b ∧ Ring w' b [] none ∧ Mod (fun _ => False) w w' := by
  go_enter Try.func21, Try.ntmps21
  go_wp2
  go_ret
  exact ⟨w.heap.size, rfl, Nat.le_refl _, ring_alloc w, (Mod.refl _ _).alloc _⟩

theorem get_nil (w : World) : Calls Try.prog 24 #[.pointer none] w fun e w' => e = .returned (.tuple #[.int .i64 0, .bool false]) ∧ w' = w := by
  go_enter Try.func24, Try.ntmps24
  go_wp2
  go_ret2
  exact ⟨rfl, rfl⟩

/-- What Get gives, and what it leaves. -/
def rget (row : List Int) (nxt : Option Int) : (Int × Bool) × (List Int × Option Int) :=
  match nxt, row with
  | some g, _ => ((g, true), (row, none))
  | none, [] => ((0, false), ([], none))
  | none, x :: r => ((x, true), (r, none))

set_option maxHeartbeats 400000 in
set_option maxRecDepth 100000 in
theorem get_any (b : Nat) (row : List Int) (nxt : Option Int) (w : World) (h : Ring w b row nxt) :
    Calls Try.prog 24 #[.pointer (some ⟨b, 0, none⟩)] w fun e w' => e = .returned (.tuple #[.int .i64 (rget row nxt).1.1, .bool (rget row nxt).1.2]) ∧
      Ring w' b (rget row nxt).2.1 (rget row nxt).2.2 ∧ Mod (· = b) w w' := by
  obtain ⟨h257, h259, ⟨nx, h258, hnx⟩, hfz⟩ := h.cells
  have f259 := hfz 259
  clear hfz
  cases nxt with
  | some y =>
    obtain rfl := hnx y rfl
    have h259' : w.cell? ⟨b, 259, none⟩ = some (.bool true) := h259
    clear h259 hnx
    go_enter Try.func24, Try.ntmps24
    go_wp2
    go_ret2
    exact ⟨rfl, h.noNext, Mod.setCell (Mod.refl (· = b) w) (p := ⟨b, 259, none⟩) (.inl rfl) _⟩
  | none =>
    have h259' : w.cell? ⟨b, 259, none⟩ = some (.bool false) := h259
    clear h259 hnx
    cases row with
    | nil =>
      have h257' : w.cell? ⟨b, 257, none⟩ = some (.int .i64 0) := h257
      clear h257
      go_enter Try.func24, Try.ntmps24
      go_wp2
      go_ret2
      exact ⟨rfl, h, Mod.refl _ _⟩
    | cons x r =>
      have h257' : w.cell? ⟨b, 257, none⟩ = some (.int .i64 ((r.length : Int) + 1)) := h257
      have hn := h.len
      simp only [List.length_cons] at hn
      have ht : ((r.length : Int) + 1 == 0) = false := by rw [beq_eq_false_iff_ne]; omega
      clear h257
      go_enter Try.func24, Try.ntmps24
      go_wp2_with (go_at_call 59; refine (first_any b x r none _ h).mono ?_; rintro e w' ⟨rfl, h1, h2⟩)
      go_ret2
      exact ⟨rfl, h1, h2⟩


theorem all_nil (w : World) : Calls Try.prog 25 #[.pointer none] w fun e w' => e = .returned (.slice none 0 0) ∧ w' = w := by
  go_enter Try.func25, Try.ntmps25
  go_wp2
  go_ret
  exact ⟨rfl, rfl⟩

theorem len_nil (w : World) : Calls Try.prog 23 #[.pointer none] w fun e w' => e = .returned (.int .i64 0) ∧ w' = w := by
  go_enter Try.func23, Try.ntmps23
  go_wp2_with (go_at_call 25; refine (all_nil _).mono ?_; rintro e w' ⟨rfl, rfl⟩)
  go_ret
  exact ⟨rfl, rfl⟩

theorem Ring.at_ {w : World} {b : Nat} {row : List Int} {nxt : Option Int} (h : Ring w b row nxt) :
    ∃ f : Nat, f < 256 ∧ w.cell? ⟨b, 256, none⟩ = some (.int .i64 f) ∧ ∀ i, i < row.length → w.cell? ⟨b, (f + i) % 256, none⟩ = some (.int .i64 (row.getD i 0)) := by
  obtain ⟨l, f, nx, hr, hf, hn, hl, hx⟩ := h
  refine ⟨f, hf, hr.cell (by omega), fun i hi => ?_⟩
  rw [hr.cell (i := (f + i) % 256) (by omega), ← hl i hi]
  unfold rcell
  rw [if_pos (by omega)]

set_option maxHeartbeats 400000 in
set_option maxRecDepth 100000 in
theorem all_any (b : Nat) (row : List Int) (nxt : Option Int) (w : World) (h : Ring w b row nxt) :
    Calls Try.prog 25 #[.pointer (some ⟨b, 0, none⟩)] w fun e w' => ∃ A n c, e = .returned (.slice A n c) ∧ IsL w' A n c (nxt.toList ++ row) ∧ (∀ d, A = some d → w.heap.size ≤ d.block) ∧ Mod (fun _ => False) w w' := by
  have hn := h.len
  obtain ⟨h257, h259, ⟨nx, h258, hnx⟩, hfz⟩ := h.cells
  clear hfz
  have HN := Lib.hid hnx
  clear hnx
  cases nxt with
  | some y =>
    obtain rfl := HN.out y rfl
    have h259' : w.cell? ⟨b, 259, none⟩ = some (.bool true) := h259
    clear h259 HN
    go_enter Try.func25, Try.ntmps25
    go_wp2_with (at_builtin; refine wpList_app _ rfl (.tmp 11) (.tmp 16) _ rfl Try.underlying27 int_info none 0 0 [] rfl (OwnL.nil _) _ 1 1 [nx] rfl (IsL.one w _) (by omega) ?_; intro A1 n1 c1 w1 hn1 hn2 hown1 hg1 hat1; have hm1 : Mod (fun _ => False) w w1 := ((Mod.refl _ w).alloc _).grown hg1 (fun _ h => by cases h); have c1 := (h.keep hm1 (fun h => h)).cells.1)
    go_loopw [3, 22] (fun v i wr => ∃ (k : Nat) (A : Option Addr) (n c : Nat), k ≤ row.length ∧ i = .int .i64 k ∧ v = .slice A n c ∧ OwnL wr A n c ([nx] ++ row.take k) ∧
      (∀ d, blk A = some d → w.heap.size ≤ d) ∧ Mod (fun _ => False) w wr) (fun _ i _ => row.length - (intOf i).toNat)
    case atStart => 
      refine ⟨0, A1, n1, _, by omega, rfl, rfl, by simpa using hown1, fun d hd => ?_, hm1⟩
      rcases hat1 with e | e
      · rw [e] at hd; cases hd
      · rw [e] at hd; simp at hd; omega
    case round =>
      obtain ⟨k, A, n, c, hk, rfl, rfl, hown, hfr, hmod⟩ := hrel
      have hring := h.keep hmod (fun h => h)
      by_cases hk2 : k < row.length
      · have hlen : n ≤ 300 := by have := hown.len; rw [List.length_append, List.length_take] at this; simp at this; omega
        obtain ⟨f, hf, h256, hcs⟩ := hring.at_
        obtain ⟨x, _, e2, e3⟩ := drop_cons row hk2
        have hcx := hcs k hk2
        rw [e3] at hcx
        have E2 := Lib.hid e2
        clear e2 e3 hcs
        go_wp2_with (first
          | (go_at_call 60; refine (at_any b f _ _ hf (by omega) (by omega) h256).mono ?_; rintro e w2 ⟨rfl, kk, rfl⟩)
          | (at_builtin; refine wpList_app _ rfl (.tmp 25) (.tmp 31) _ rfl Try.underlying27 int_info A n c _ rfl ((hown.keep0 ((Mod.refl _ _).drewN kk)).alloc _) _ 1 1 [x] rfl (IsL.one (wr.drewN kk) _) (by omega) ?_; intro A2 n2 c2 w2 hn3 hn4 hown2 hg2 hat2))
        have m2 : Mod (fun _ => False) w w2 := ((hmod.drewN kk).alloc _).grown hg2 (fun k hk => .inr (hfr k hk))
        have hfr2 : ∀ d, blk A2 = some d → w.heap.size ≤ d := by
          intro d hd
          have s1 := hmod.size
          rcases hat2 with e | e
          · exact hfr d (by rw [← e]; exact hd)
          · rw [e] at hd; simp at hd; omega
        go_roundw
        case rel => exact ⟨k + 1, A2, n2, c2, by omega, by go_num, rfl, by rw [E2.out, ← List.append_assoc]; exact hown2, hfr2, m2⟩
        case measure => simp [intOf]; omega
      · have Hk : Hid (k = row.length) := by unfold Hid; omega
        go_wp2
        have hk3 := Hk.out
        subst hk3
        rw [List.take_length] at hown
        go_ret
        exact ⟨A, n, c, rfl, hown.isL, (fun d hd => hfr d.block (by rw [hd]; rfl)), hmod⟩
  | none =>
    have h259' : w.cell? ⟨b, 259, none⟩ = some (.bool false) := h259
    clear h259 HN
    go_enter Try.func25, Try.ntmps25
    go_wp2
    go_loopw [3, 22] (fun v i wr => ∃ (k : Nat) (A : Option Addr) (n c : Nat), k ≤ row.length ∧ i = .int .i64 k ∧ v = .slice A n c ∧ OwnL wr A n c ([] ++ row.take k) ∧
      (∀ d, blk A = some d → w.heap.size ≤ d) ∧ Mod (fun _ => False) w wr) (fun _ i _ => row.length - (intOf i).toNat)
    case atStart => exact ⟨0, none, 0, 0, by omega, rfl, rfl, OwnL.nil _, (fun d hd => by cases hd), Mod.refl _ _⟩
    case round =>
      obtain ⟨k, A, n, c, hk, rfl, rfl, hown, hfr, hmod⟩ := hrel
      have hring := h.keep hmod (fun h => h)
      by_cases hk2 : k < row.length
      · have hlen : n ≤ 300 := by have := hown.len; rw [List.length_append, List.length_take] at this; simp at this; omega
        obtain ⟨f, hf, h256, hcs⟩ := hring.at_
        obtain ⟨x, _, e2, e3⟩ := drop_cons row hk2
        have hcx := hcs k hk2
        rw [e3] at hcx
        have E2 := Lib.hid e2
        clear e2 e3 hcs
        go_wp2_with (first
          | (go_at_call 60; refine (at_any b f _ _ hf (by omega) (by omega) h256).mono ?_; rintro e w2 ⟨rfl, kk, rfl⟩)
          | (at_builtin; refine wpList_app _ rfl (.tmp 25) (.tmp 31) _ rfl Try.underlying27 int_info A n c _ rfl ((hown.keep0 ((Mod.refl _ _).drewN kk)).alloc _) _ 1 1 [x] rfl (IsL.one (wr.drewN kk) _) (by omega) ?_; intro A2 n2 c2 w2 hn3 hn4 hown2 hg2 hat2))
        have m2 : Mod (fun _ => False) w w2 := ((hmod.drewN kk).alloc _).grown hg2 (fun k hk => .inr (hfr k hk))
        have hfr2 : ∀ d, blk A2 = some d → w.heap.size ≤ d := by
          intro d hd
          have s1 := hmod.size
          rcases hat2 with e | e
          · exact hfr d (by rw [← e]; exact hd)
          · rw [e] at hd; simp at hd; omega
        go_roundw
        case rel => exact ⟨k + 1, A2, n2, c2, by omega, by go_num, rfl, by rw [E2.out, ← List.append_assoc]; exact hown2, hfr2, m2⟩
        case measure => simp [intOf]; omega
      · have Hk : Hid (k = row.length) := by unfold Hid; omega
        go_wp2
        have hk3 := Hk.out
        subst hk3
        rw [List.take_length] at hown
        go_ret
        exact ⟨A, n, c, rfl, hown.isL, (fun d hd => hfr d.block (by rw [hd]; rfl)), hmod⟩

theorem len_any (b : Nat) (row : List Int) (nxt : Option Int) (w : World) (h : Ring w b row nxt) :
    Calls Try.prog 23 #[.pointer (some ⟨b, 0, none⟩)] w fun e w' => e = .returned (.int .i64 ((nxt.toList ++ row).length : Nat)) ∧ Mod (fun _ => False) w w' := by
  go_enter Try.func23, Try.ntmps23
  go_wp2_with (go_at_call 25; refine (all_any b row nxt _ h).mono ?_; rintro e w1 ⟨A, n, c, rfl, h1, h2, h3⟩)
  go_ret
  refine ⟨?_, h3⟩
  rw [h1.len]
  rfl

end Go.Proofs.Ytgojfccaohngaaa
