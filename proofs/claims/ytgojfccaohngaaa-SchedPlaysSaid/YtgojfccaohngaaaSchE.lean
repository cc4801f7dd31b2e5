/-
  The contract of sched.Pick, way by way.
-/
import Derived.Test.YtgojfccaohngaaaSchD
set_option linter.unusedSimpArgs false
namespace Go.Proofs.Ytgojfccaohngaaa
open Go.RowKit

/-- The variables that Pick's functions share. -/
structure Boxes (a : SA) (w wb : World) (p : Nat) (tick v : Int) (sb pb tb vb : Nat) : Prop where
  mod : Mod (fun _ => False) w wb
  cs : wb.cell? ⟨sb, 0, none⟩ = some (.pointer (some ⟨a.s, 0, none⟩))
  cp : wb.cell? ⟨pb, 0, none⟩ = some (.int .i64 p)
  ct : wb.cell? ⟨tb, 0, none⟩ = some (.int .i64 tick)
  cv : wb.cell? ⟨vb, 0, none⟩ = some (.int .i64 v)
  ls : w.heap.size ≤ sb ∧ sb < wb.heap.size
  lp : w.heap.size ≤ pb ∧ pb < wb.heap.size
  lt : w.heap.size ≤ tb ∧ tb < wb.heap.size
  lv : w.heap.size ≤ vb ∧ vb < wb.heap.size
theorem boxes_alloc (a : SA) (w : World) (p : Nat) (tick v : Int) :
    Boxes a w ((((w.alloc (.cells #[.pointer (some ⟨a.s, 0, none⟩)] 61)).alloc (.cells #[.int .i64 p] 3)).alloc (.cells #[.int .i64 tick] 3)).alloc (.cells #[.int .i64 v] 3)) p tick v w.heap.size (w.heap.size + 1) (w.heap.size + 1 + 1) (w.heap.size + 1 + 1 + 1) := by
  constructor
  · exact ((((Mod.refl _ w).alloc _).alloc _).alloc _).alloc _
  · go_simp
  · go_simp
  · go_simp
  · go_simp
  · simp <;> omega
  · simp <;> omega
  · simp <;> omega
  · simp <;> omega

def F66 (tb sb : Nat) : Value := .func (Fn.func 66) #[] #[.pointer (some ⟨tb, 0, none⟩), .pointer (some ⟨sb, 0, none⟩)]
def F24 (a : SA) (p : Nat) : Value := .func (Fn.func 24) #[.pointer (some ⟨a.bs p, 0, none⟩)] #[]
def F67 (sb rb : Nat) : Value := .func (Fn.func 67) #[] #[.pointer (some ⟨sb, 0, none⟩), .pointer (some ⟨rb, 0, none⟩)]
def F68 (sb vb pb rb : Nat) : Value := .func (Fn.func 68) #[] #[.pointer (some ⟨sb, 0, none⟩), .pointer (some ⟨vb, 0, none⟩), .pointer (some ⟨pb, 0, none⟩), .pointer (some ⟨rb, 0, none⟩)]

/-- The variables and the row of functions, all in blocks from lo on, below hi. -/
structure Funs (a : SA) (lo hi : Nat) (w : World) (p : Nat) (tick v : Int) (sb pb tb vb rb fb : Nat) : Prop where
  cs : w.cell? ⟨sb, 0, none⟩ = some (.pointer (some ⟨a.s, 0, none⟩))
  cp : w.cell? ⟨pb, 0, none⟩ = some (.int .i64 p)
  ct : w.cell? ⟨tb, 0, none⟩ = some (.int .i64 tick)
  cv : w.cell? ⟨vb, 0, none⟩ = some (.int .i64 v)
  cr : w.cell? ⟨rb, 0, none⟩ = some (.pointer (some ⟨a.bs p, 0, none⟩))
  f0 : w.cell? ⟨fb, 0, none⟩ = some (F66 tb sb)
  f1 : w.cell? ⟨fb, 1, none⟩ = some (F24 a p)
  f2 : w.cell? ⟨fb, 2, none⟩ = some (F67 sb rb)
  f3 : w.cell? ⟨fb, 3, none⟩ = some (F68 sb vb pb rb)
  ls : lo ≤ sb ∧ sb < hi
  lp : lo ≤ pb ∧ pb < hi
  lt : lo ≤ tb ∧ tb < hi
  lv : lo ≤ vb ∧ vb < hi
  lr : lo ≤ rb ∧ rb < hi
  lf : lo ≤ fb ∧ fb < hi
  sz : hi ≤ w.heap.size
/-- The scheduler lies beside the variables. -/
def Off (a : SA) (o : Option Nat) (lo hi : Nat) : Prop := ∀ k, SS a o k → k < lo ∨ hi ≤ k
theorem Off.to {a : SA} {o o' : Option Nat} {lo hi X : Nat} (h : Off a o lo hi) (hn : ∀ k, o' = some k → o = some k ∨ X ≤ k) (hX : hi ≤ X) : Off a o' lo hi := by
  rintro k (e | e | (e | e) | e)
  · exact h k (.inl e)
  · exact h k (.inr (.inl e))
  · exact h k (.inr (.inr (.inl (.inl e))))
  · rcases hn k e with e2 | e2
    · exact h k (.inr (.inr (.inl (.inr e2))))
    · exact .inr (by omega)
  · exact h k (.inr (.inr (.inr e)))
theorem Off.not {a : SA} {o : Option Nat} {lo hi b : Nat} (h : Off a o lo hi) (hb : lo ≤ b ∧ b < hi) : ¬ SS a o b := fun hS => by
  rcases h b hS with e | e <;> omega
theorem Funs.keep {a : SA} {lo hi : Nat} {w w' : World} {p : Nat} {tick v : Int} {sb pb tb vb rb fb : Nat} {T : Nat → Prop} (h : Funs a lo hi w p tick v sb pb tb vb rb fb) (m : Mod T w w') (hT : ∀ k, T k → k < lo ∨ hi ≤ k) :
    Funs a lo hi w' p tick v sb pb tb vb rb fb := by
  have hz := h.sz
  have c : ∀ b i, lo ≤ b ∧ b < hi → w'.cell? ⟨b, i, none⟩ = w.cell? ⟨b, i, none⟩ := fun b i hb => m.cell (p := ⟨b, i, none⟩) (Nat.lt_of_lt_of_le hb.2 hz) (fun hS => by rcases hT b hS with e | e <;> omega)
  exact ⟨(c _ _ h.ls).trans h.cs, (c _ _ h.lp).trans h.cp, (c _ _ h.lt).trans h.ct, (c _ _ h.lv).trans h.cv, (c _ _ h.lr).trans h.cr, (c _ _ h.lf).trans h.f0, (c _ _ h.lf).trans h.f1, (c _ _ h.lf).trans h.f2, (c _ _ h.lf).trans h.f3,
    h.ls, h.lp, h.lt, h.lv, h.lr, h.lf, Nat.le_trans hz m.size⟩
theorem funs_alloc {a : SA} {w wb : World} {p : Nat} {tick v : Int} {sb pb tb vb : Nat} (h : Boxes a w wb p tick v sb pb tb vb) :
    Funs a w.heap.size (wb.heap.size + 1 + 1) ((wb.alloc (.cells #[.pointer (some ⟨a.bs p, 0, none⟩)] 31)).alloc (.cells #[F66 tb sb, F24 a p, F67 sb wb.heap.size, F68 sb vb pb wb.heap.size] 35)).drew p tick v sb pb tb vb wb.heap.size (wb.heap.size + 1) := by
  have hm : Mod (fun _ => False) wb ((wb.alloc (.cells #[.pointer (some ⟨a.bs p, 0, none⟩)] 31)).alloc (.cells #[F66 tb sb, F24 a p, F67 sb wb.heap.size, F68 sb vb pb wb.heap.size] 35)).drew := (((Mod.refl _ wb).alloc _).alloc _).drew
  have c : ∀ b i, w.heap.size ≤ b ∧ b < wb.heap.size → ((wb.alloc (.cells #[.pointer (some ⟨a.bs p, 0, none⟩)] 31)).alloc (.cells #[F66 tb sb, F24 a p, F67 sb wb.heap.size, F68 sb vb pb wb.heap.size] 35)).drew.cell? ⟨b, i, none⟩ = wb.cell? ⟨b, i, none⟩ := fun b i hb => hm.cell (p := ⟨b, i, none⟩) hb.2 (fun h => h)
  have hs := h.mod.size
  have hn : (wb.alloc (.cells #[.pointer (some ⟨a.bs p, 0, none⟩)] 31)).heap.size = wb.heap.size + 1 := by simp
  have hr := World.rowIs_alloc (wb.alloc (.cells #[.pointer (some ⟨a.bs p, 0, none⟩)] 31)) #[F66 tb sb, F24 a p, F67 sb wb.heap.size, F68 sb vb pb wb.heap.size] 35 (fun i => if i = 0 then F66 tb sb else if i = 1 then F24 a p else if i = 2 then F67 sb wb.heap.size else F68 sb vb pb wb.heap.size) (fun i hi => by
    have h3 : i = 0 ∨ i = 1 ∨ i = 2 ∨ i = 3 := by simp at hi; omega
    rcases h3 with rfl | rfl | rfl | rfl <;> rfl)
  rw [hn] at hr
  have hr1 := World.rowIs_alloc wb #[.pointer (some ⟨a.bs p, 0, none⟩)] 31 (fun _ => .pointer (some ⟨a.bs p, 0, none⟩)) (fun i hi => by
    obtain rfl : i = 0 := by simpa using hi
    rfl)
  have hr2 := (((Mod.refl (fun _ => False) (wb.alloc (.cells #[.pointer (some ⟨a.bs p, 0, none⟩)] 31))).alloc (.cells #[F66 tb sb, F24 a p, F67 sb wb.heap.size, F68 sb vb pb wb.heap.size] 35)).drew).rowIs hr1 (fun h => h)
  exact {
    cs := (c _ _ h.ls).trans h.cs, cp := (c _ _ h.lp).trans h.cp, ct := (c _ _ h.lt).trans h.ct, cv := (c _ _ h.lv).trans h.cv, cr := hr2.cell (i := 0) (by simp)
    f0 := hr.cell (i := 0) (by simp), f1 := hr.cell (i := 1) (by simp), f2 := hr.cell (i := 2) (by simp), f3 := hr.cell (i := 3) (by simp)
    ls := by have := h.ls; omega
    lp := by have := h.lp; omega
    lt := by have := h.lt; omega
    lv := by have := h.lv; omega
    lr := by omega
    lf := by omega
    sz := by simp }

section
variable {a : SA} {w : World} {o : Option Nat} {R : Nat → RM} {Q : List Int}
theorem rget_zero (E : RM) (h : (rget E.1 E.2).1.2 = false) : (rget E.1 E.2).1.1 = 0 := by
  obtain ⟨r, n⟩ := E
  cases n with
  | some g => simp [rget] at h
  | none =>
    cases r with
    | nil => rfl
    | cons x l => simp [rget] at h
theorem Off.start (h : Sch a w o R Q) (hi : Nat) : Off a o w.heap.size hi := fun k hk => .inl (h.lt k hk)

theorem pick_nil (p tick v : Int) (w : World) : Calls Try.prog 43 #[.pointer none, .int .i64 p, .int .i64 tick, .int .i64 v] w fun e w' => e = .returned (.tuple #[.int .i64 0, .bool false]) ∧ Mod (fun _ => False) w w' := by
  have hB : Mod (fun _ => False) w ((((w.alloc (.cells #[.pointer none] 61)).alloc (.cells #[.int .i64 p] 3)).alloc (.cells #[.int .i64 tick] 3)).alloc (.cells #[.int .i64 v] 3)) := ((((Mod.refl _ w).alloc _).alloc _).alloc _).alloc _
  go_enter Try.func43, Try.ntmps43
  go_wp2_with fail
  refine (has_nil p _).mono ?_
  rintro e w1 ⟨rfl, hw⟩
  obtain rfl := hw.symm
  clear hw
  go_wp2
  go_ret2
  exact ⟨rfl, hB⟩
theorem pick_bad (h : Sch a w o R Q) (p tick v : Int) (hp : p < 0 ∨ (a.ps : Int) ≤ p) : Calls Try.prog 43 #[.pointer (some ⟨a.s, 0, none⟩), .int .i64 p, .int .i64 tick, .int .i64 v] w fun e w' => e = .returned (.tuple #[.int .i64 0, .bool false]) ∧ To a o w w' R Q := by
  have hB : Mod (fun _ => False) w ((((w.alloc (.cells #[.pointer (some ⟨a.s, 0, none⟩)] 61)).alloc (.cells #[.int .i64 p] 3)).alloc (.cells #[.int .i64 tick] 3)).alloc (.cells #[.int .i64 v] 3)) := ((((Mod.refl _ w).alloc _).alloc _).alloc _).alloc _
  have HP := Lib.hid hp
  clear hp
  go_enter Try.func43, Try.ntmps43
  go_wp2_with fail
  refine (has_no (h.keep0 hB) p HP.out).mono ?_
  rintro e w1 ⟨rfl, hw⟩
  obtain rfl := hw.symm
  clear hw
  go_wp2
  go_ret2
  exact ⟨rfl, (To.refl h).keep0 hB⟩
theorem To.after {w1 w2 : World} {R2 : Nat → RM} {Q2 : List Int} (h : To a o w1 w2 R2 Q2) (m : Mod (SS a o) w w1) : To a o w w2 R2 Q2 := To.trans1 (fun _ h => .inl h) m h

set_option maxHeartbeats 1600000 in
set_option maxRecDepth 100000 in
theorem pick_fair (x : Int) (L : List Int) (h : Sch a w o R (x :: L)) (p : Nat) (hp : p < a.ps) (tick v : Int) (hf : Fair tick (x :: L)) (hb : L.length ≤ 700000) :
    Calls Try.prog 43 #[.pointer (some ⟨a.s, 0, none⟩), .int .i64 p, .int .i64 tick, .int .i64 v] w fun e w' => e = .returned (.tuple #[.int .i64 x, .bool true]) ∧ To a o w w' R L := by
  have H0 := Lib.hid hf
  clear hf
  have hpm := h.most
  have hcap := h.cap
  have hi0 : (0 : Int) ≤ (p : Int) := by omega
  have hi1 : (p : Int) < (a.ps : Int) := by omega
  have HB := boxes_alloc a w p tick v
  go_enter Try.func43, Try.ntmps43
  go_wp2_with fail
  refine (has_yes (h.keep0 HB.mod) p hp).mono ?_
  rintro e w1 ⟨rfl, hw⟩
  obtain rfl := hw.symm
  clear hw
  go_wp2_with fail
  generalize ((((w.alloc (.cells #[.pointer (some ⟨a.s, 0, none⟩)] 61)).alloc (.cells #[.int .i64 p] 3)).alloc (.cells #[.int .i64 tick] 3)).alloc (.cells #[.int .i64 v] 3)) = wb at HB ⊢
  generalize w.heap.size + 1 + 1 + 1 = vb at HB ⊢
  generalize w.heap.size + 1 + 1 = tb at HB ⊢
  generalize w.heap.size + 1 = pb at HB ⊢
  obtain ⟨sb, hsb⟩ : ∃ sb, sb = w.heap.size := ⟨_, rfl⟩
  rw [← hsb] at HB ⊢
  clear hsb
  have hS := h.keep0 HB.mod
  have hc0 := hS.c0
  have hcp := hS.ptr p hp
  have b1 := HB.cs
  have b2 := HB.cp
  have n1 := World.new_ne wb _ b1
  have n2 := World.new_ne wb _ b2
  have n3 := World.new_ne wb _ hc0
  have n4 := World.new_ne wb _ hcp
  go_region_held3 (fun W => W.cell? ⟨sb, 0, none⟩ = some (.pointer (some ⟨a.s, 0, none⟩)) ∧ W.cell? ⟨pb, 0, none⟩ = some (.int .i64 p) ∧ W.cell? ⟨a.s, 0, none⟩ = some (.slice (some ⟨a.g, 0, none⟩) a.ps a.c) ∧ W.cell? ⟨a.g, p, none⟩ = some (.pointer (some ⟨a.bs p, 0, none⟩))) (go_keep) (fail)
  have HF := funs_alloc HB
  have hM : Mod (fun _ => False) w ((wb.alloc (.cells #[.pointer (some ⟨a.bs p, 0, none⟩)] 31)).alloc (.cells #[F66 tb sb, F24 a p, F67 sb wb.heap.size, F68 sb vb pb wb.heap.size] 35)).drew := ((HB.mod.alloc _).alloc _).drew
  unfold F66 F24 F67 F68 at HF hM
  clear b1 b2 n1 n2 n3 n4 hc0 hcp hS HB
  go_wp2_with fail
  generalize ((wb.alloc (.cells #[.pointer (some ⟨a.bs p, 0, none⟩)] 31)).alloc (.cells #[.func (Fn.func 66) #[] #[.pointer (some ⟨tb, 0, none⟩), .pointer (some ⟨sb, 0, none⟩)], .func (Fn.func 24) #[.pointer (some ⟨a.bs p, 0, none⟩)] #[],
    .func (Fn.func 67) #[] #[.pointer (some ⟨sb, 0, none⟩), .pointer (some ⟨wb.heap.size, 0, none⟩)],
    .func (Fn.func 68) #[] #[.pointer (some ⟨sb, 0, none⟩), .pointer (some ⟨vb, 0, none⟩), .pointer (some ⟨pb, 0, none⟩), .pointer (some ⟨wb.heap.size, 0, none⟩)]] 35)).drew = wc at HF hM ⊢
  generalize wb.heap.size + 1 = fb at HF ⊢
  generalize wb.heap.size = rb at HF ⊢
  generalize fb + 1 = hi at HF
  have hS := h.keep0 hM
  have hO := Off.start h hi
  have cf := HF.f0
  unfold F66 at cf
  refine wp_loop_rounds 5 ?_
  rw [rounds_succ]
  go_wp2_with fail
  refine (fair_yes x L hS tb sb tick HF.ct HF.cs H0.out.1 H0.out.2.1 hb).mono ?_
  rintro e w2 ⟨rfl, hT⟩
  have hT := hT.ahead hM
  clear cf HF hS
  go_wp2_with fail
  go_ret2
  exact ⟨rfl, hT⟩

set_option maxHeartbeats 1600000 in
set_option maxRecDepth 100000 in
theorem pick_get (h : Sch a w o R Q) (p : Nat) (hp : p < a.ps) (tick v : Int) (hf : ¬ Fair tick Q) (x : Int) (T : List Int) (hx : all2 (R p) = x :: T) :
    Calls Try.prog 43 #[.pointer (some ⟨a.s, 0, none⟩), .int .i64 p, .int .i64 tick, .int .i64 v] w fun e w' => e = .returned (.tuple #[.int .i64 x, .bool true]) ∧ To a o w w' (getR R p) Q := by
  have H0 := Lib.hid hf
  have hg : ∀ W, Sch a W o R Q → Calls Try.prog 24 #[.pointer (some ⟨a.bs p, 0, none⟩)] W fun e w' => e = .returned (.tuple #[.int .i64 x, .bool true]) ∧ To a o W w' (getR R p) Q := by
    intro W hW
    refine (get_any (a.bs p) _ _ W (hW.ring p hp)).mono ?_
    rintro e w2 ⟨he, r2, m2⟩
    obtain ⟨row', nxt', e1, e2⟩ := rget_cons (R p).1 (R p).2 x T hx
    rw [e1] at he
    exact ⟨he, (To.refl hW).getTo hp r2 m2⟩
  have HG := Lib.hid hg
  clear hf hg hx
  have hpm := h.most
  have hcap := h.cap
  have hi0 : (0 : Int) ≤ (p : Int) := by omega
  have hi1 : (p : Int) < (a.ps : Int) := by omega
  have HB := boxes_alloc a w p tick v
  go_enter Try.func43, Try.ntmps43
  go_wp2_with fail
  refine (has_yes (h.keep0 HB.mod) p hp).mono ?_
  rintro e w1 ⟨rfl, hw⟩
  obtain rfl := hw.symm
  clear hw
  go_wp2_with fail
  generalize ((((w.alloc (.cells #[.pointer (some ⟨a.s, 0, none⟩)] 61)).alloc (.cells #[.int .i64 p] 3)).alloc (.cells #[.int .i64 tick] 3)).alloc (.cells #[.int .i64 v] 3)) = wb at HB ⊢
  generalize w.heap.size + 1 + 1 + 1 = vb at HB ⊢
  generalize w.heap.size + 1 + 1 = tb at HB ⊢
  generalize w.heap.size + 1 = pb at HB ⊢
  obtain ⟨sb, hsb⟩ : ∃ sb, sb = w.heap.size := ⟨_, rfl⟩
  rw [← hsb] at HB ⊢
  clear hsb
  have hS := h.keep0 HB.mod
  have hc0 := hS.c0
  have hcp := hS.ptr p hp
  have b1 := HB.cs
  have b2 := HB.cp
  have n1 := World.new_ne wb _ b1
  have n2 := World.new_ne wb _ b2
  have n3 := World.new_ne wb _ hc0
  have n4 := World.new_ne wb _ hcp
  go_region_held3 (fun W => W.cell? ⟨sb, 0, none⟩ = some (.pointer (some ⟨a.s, 0, none⟩)) ∧ W.cell? ⟨pb, 0, none⟩ = some (.int .i64 p) ∧ W.cell? ⟨a.s, 0, none⟩ = some (.slice (some ⟨a.g, 0, none⟩) a.ps a.c) ∧ W.cell? ⟨a.g, p, none⟩ = some (.pointer (some ⟨a.bs p, 0, none⟩))) (go_keep) (fail)
  have HF := funs_alloc HB
  have hM : Mod (fun _ => False) w ((wb.alloc (.cells #[.pointer (some ⟨a.bs p, 0, none⟩)] 31)).alloc (.cells #[F66 tb sb, F24 a p, F67 sb wb.heap.size, F68 sb vb pb wb.heap.size] 35)).drew := ((HB.mod.alloc _).alloc _).drew
  unfold F66 F24 F67 F68 at HF hM
  clear b1 b2 n1 n2 n3 n4 hc0 hcp hS HB
  go_wp2_with fail
  generalize ((wb.alloc (.cells #[.pointer (some ⟨a.bs p, 0, none⟩)] 31)).alloc (.cells #[.func (Fn.func 66) #[] #[.pointer (some ⟨tb, 0, none⟩), .pointer (some ⟨sb, 0, none⟩)], .func (Fn.func 24) #[.pointer (some ⟨a.bs p, 0, none⟩)] #[],
    .func (Fn.func 67) #[] #[.pointer (some ⟨sb, 0, none⟩), .pointer (some ⟨wb.heap.size, 0, none⟩)],
    .func (Fn.func 68) #[] #[.pointer (some ⟨sb, 0, none⟩), .pointer (some ⟨vb, 0, none⟩), .pointer (some ⟨pb, 0, none⟩), .pointer (some ⟨wb.heap.size, 0, none⟩)]] 35)).drew = wc at HF hM ⊢
  generalize wb.heap.size + 1 = fb at HF ⊢
  generalize wb.heap.size = rb at HF ⊢
  generalize fb + 1 = hi at HF
  have hS := h.keep0 hM
  have hO := Off.start h hi
  have cf := HF.f0
  unfold F66 at cf
  refine wp_loop_rounds 5 ?_
  rw [rounds_succ]
  go_wp2_with fail
  refine (fair_no hS tb sb tick HF.ct HF.cs H0.out).mono ?_
  rintro e w2 ⟨rfl, hw⟩
  obtain rfl := hw.symm
  clear hw cf
  have cf := HF.f1
  unfold F24 at cf
  go_wp2_with fail
  rw [rounds_succ]
  go_wp2_with fail
  refine (HG.out _ hS).mono ?_
  rintro e w3 ⟨rfl, hT⟩
  have hT := hT.ahead hM
  clear cf HF hS
  go_wp2_with fail
  go_ret2
  exact ⟨rfl, hT⟩

set_option maxHeartbeats 1600000 in
set_option maxRecDepth 100000 in
theorem pick_part (x : Int) (L : List Int) (h : Sch a w o R (x :: L)) (p : Nat) (hp : p < a.ps) (tick v : Int) (hf : ¬ Fair tick (x :: L)) (hR : R p = ([], none)) (hb : L.length ≤ 700000) :
    Calls Try.prog 43 #[.pointer (some ⟨a.s, 0, none⟩), .int .i64 p, .int .i64 tick, .int .i64 v] w fun e w' => e = .returned (.tuple #[.int .i64 x, .bool true]) ∧ To a o w w' (upd R p (((x :: L).take (qtake (x :: L).length a.ps 64)).tail, none)) ((x :: L).drop (qtake (x :: L).length a.ps 64)) := by
  have H0 := Lib.hid hf
  have HR := Lib.hid hR
  clear hf hR
  have hpm := h.most
  have hcap := h.cap
  have hi0 : (0 : Int) ≤ (p : Int) := by omega
  have hi1 : (p : Int) < (a.ps : Int) := by omega
  have HB := boxes_alloc a w p tick v
  go_enter Try.func43, Try.ntmps43
  go_wp2_with fail
  refine (has_yes (h.keep0 HB.mod) p hp).mono ?_
  rintro e w1 ⟨rfl, hw⟩
  obtain rfl := hw.symm
  clear hw
  go_wp2_with fail
  generalize ((((w.alloc (.cells #[.pointer (some ⟨a.s, 0, none⟩)] 61)).alloc (.cells #[.int .i64 p] 3)).alloc (.cells #[.int .i64 tick] 3)).alloc (.cells #[.int .i64 v] 3)) = wb at HB ⊢
  generalize w.heap.size + 1 + 1 + 1 = vb at HB ⊢
  generalize w.heap.size + 1 + 1 = tb at HB ⊢
  generalize w.heap.size + 1 = pb at HB ⊢
  obtain ⟨sb, hsb⟩ : ∃ sb, sb = w.heap.size := ⟨_, rfl⟩
  rw [← hsb] at HB ⊢
  clear hsb
  have hS := h.keep0 HB.mod
  have hc0 := hS.c0
  have hcp := hS.ptr p hp
  have b1 := HB.cs
  have b2 := HB.cp
  have n1 := World.new_ne wb _ b1
  have n2 := World.new_ne wb _ b2
  have n3 := World.new_ne wb _ hc0
  have n4 := World.new_ne wb _ hcp
  go_region_held3 (fun W => W.cell? ⟨sb, 0, none⟩ = some (.pointer (some ⟨a.s, 0, none⟩)) ∧ W.cell? ⟨pb, 0, none⟩ = some (.int .i64 p) ∧ W.cell? ⟨a.s, 0, none⟩ = some (.slice (some ⟨a.g, 0, none⟩) a.ps a.c) ∧ W.cell? ⟨a.g, p, none⟩ = some (.pointer (some ⟨a.bs p, 0, none⟩))) (go_keep) (fail)
  have HF := funs_alloc HB
  have hM : Mod (fun _ => False) w ((wb.alloc (.cells #[.pointer (some ⟨a.bs p, 0, none⟩)] 31)).alloc (.cells #[F66 tb sb, F24 a p, F67 sb wb.heap.size, F68 sb vb pb wb.heap.size] 35)).drew := ((HB.mod.alloc _).alloc _).drew
  unfold F66 F24 F67 F68 at HF hM
  clear b1 b2 n1 n2 n3 n4 hc0 hcp hS HB
  go_wp2_with fail
  generalize ((wb.alloc (.cells #[.pointer (some ⟨a.bs p, 0, none⟩)] 31)).alloc (.cells #[.func (Fn.func 66) #[] #[.pointer (some ⟨tb, 0, none⟩), .pointer (some ⟨sb, 0, none⟩)], .func (Fn.func 24) #[.pointer (some ⟨a.bs p, 0, none⟩)] #[],
    .func (Fn.func 67) #[] #[.pointer (some ⟨sb, 0, none⟩), .pointer (some ⟨wb.heap.size, 0, none⟩)],
    .func (Fn.func 68) #[] #[.pointer (some ⟨sb, 0, none⟩), .pointer (some ⟨vb, 0, none⟩), .pointer (some ⟨pb, 0, none⟩), .pointer (some ⟨wb.heap.size, 0, none⟩)]] 35)).drew = wc at HF hM ⊢
  generalize wb.heap.size + 1 = fb at HF ⊢
  generalize wb.heap.size = rb at HF ⊢
  generalize fb + 1 = hi at HF
  have hS := h.keep0 hM
  have hO := Off.start h hi
  have cf := HF.f0
  unfold F66 at cf
  refine wp_loop_rounds 5 ?_
  rw [rounds_succ]
  go_wp2_with fail
  refine (fair_no hS tb sb tick HF.ct HF.cs H0.out).mono ?_
  rintro e w2 ⟨rfl, hw⟩
  obtain rfl := hw.symm
  clear hw cf
  have cf := HF.f1
  unfold F24 at cf
  go_wp2_with fail
  rw [rounds_succ]
  go_wp2_with fail
  refine (get_any (a.bs p) _ _ _ (HR.out ▸ hS.ring p hp)).mono ?_
  rintro e w3 ⟨rfl, hr3, m3⟩
  have hS := (hS.onRing hp (E := ([], none)) hr3 m3).congr (R' := R) (fun i _ => by
    by_cases e : i = p
    · rw [e, upd_same, HR.out]
    · rw [upd_ne _ _ e])
  have hM3 : Mod (SS a o) w w3 := (hM.mono (fun _ _ h => h.elim)).trans (m3.mono (fun i _ e => .inr (.inr (.inr ⟨p, hp, e⟩))))
  have HF := HF.keep (m3.mono (T := SS a o) (fun i _ e => .inr (.inr (.inr ⟨p, hp, e⟩)))) hO
  clear cf hr3 m3
  have cf := HF.f2
  unfold F67 at cf
  go_wp2_with fail
  rw [rounds_succ]
  go_wp2_with fail
  refine (part_yes x L hS p hp HR.out sb rb HF.cs HF.cr hb (hO.not HF.ls) (Nat.lt_of_lt_of_le HF.ls.2 HF.sz) (hO.not HF.lr) (Nat.lt_of_lt_of_le HF.lr.2 HF.sz)).mono ?_
  rintro e w4 ⟨rfl, hT⟩
  have hT := hT.after hM3
  clear cf HF hS
  go_wp2_with fail
  go_ret2
  exact ⟨rfl, hT⟩

set_option maxHeartbeats 1600000 in
set_option maxRecDepth 100000 in
theorem pick_steal (h : Sch a w o R []) (p : Nat) (hp : p < a.ps) (tick : Int) (v : Nat) (hv : v < a.ps) (hne : v ≠ p) (hR : R p = ([], none)) :
    Calls Try.prog 43 #[.pointer (some ⟨a.s, 0, none⟩), .int .i64 p, .int .i64 tick, .int .i64 v] w fun e w' => e = .returned (.tuple #[.int .i64 (rget (stA (R p) (R v)).1 (stA (R p) (R v)).2).1.1, .bool (rget (stA (R p) (R v)).1 (stA (R p) (R v)).2).1.2]) ∧ To a o w w' (getR (stealR R p v) p) [] := by
  have H0 := Lib.hid (fun hf : Fair tick [] => hf.2.2 rfl)
  have HR := Lib.hid hR
  have HN := Lib.hid hne
  clear hR hne
  have hst : ∀ (W : World) (o4 : Option Nat) (sb vb pb rb lo hi : Nat) (tb fb : Nat), Sch a W o4 R [] → Funs a lo hi W p tick v sb pb tb vb rb fb → Off a o4 lo hi → Calls Try.prog 68 #[.pointer (some ⟨sb, 0, none⟩), .pointer (some ⟨vb, 0, none⟩), .pointer (some ⟨pb, 0, none⟩), .pointer (some ⟨rb, 0, none⟩)] W fun e w' =>
      e = .returned (.tuple #[.int .i64 (rget (stA (R p) (R v)).1 (stA (R p) (R v)).2).1.1, .bool (rget (stA (R p) (R v)).1 (stA (R p) (R v)).2).1.2]) ∧ To a o4 W w' (getR (stealR R p v) p) [] := fun W o4 sb vb pb rb lo hi tb fb hS HF hO => steal_yes hS p hp v hv HN.out sb vb pb rb HF.cs HF.cv HF.cp HF.cr (hO.not HF.ls) (Nat.lt_of_lt_of_le HF.ls.2 HF.sz) (hO.not HF.lv) (Nat.lt_of_lt_of_le HF.lv.2 HF.sz) (hO.not HF.lr) (Nat.lt_of_lt_of_le HF.lr.2 HF.sz)
  have hz := rget_zero (stA (R p) (R v))
  generalize (rget (stA (R p) (R v)).1 (stA (R p) (R v)).2).1.1 = v1 at hst hz ⊢
  generalize (rget (stA (R p) (R v)).1 (stA (R p) (R v)).2).1.2 = v2 at hst hz ⊢
  have HS := Lib.hid hst
  have HZ := Lib.hid hz
  clear hst hz
  have hpm := h.most
  have hcap := h.cap
  have hi0 : (0 : Int) ≤ (p : Int) := by omega
  have hi1 : (p : Int) < (a.ps : Int) := by omega
  have HB := boxes_alloc a w p tick v
  go_enter Try.func43, Try.ntmps43
  go_wp2_with fail
  refine (has_yes (h.keep0 HB.mod) p hp).mono ?_
  rintro e w1 ⟨rfl, hw⟩
  obtain rfl := hw.symm
  clear hw
  go_wp2_with fail
  generalize ((((w.alloc (.cells #[.pointer (some ⟨a.s, 0, none⟩)] 61)).alloc (.cells #[.int .i64 p] 3)).alloc (.cells #[.int .i64 tick] 3)).alloc (.cells #[.int .i64 v] 3)) = wb at HB ⊢
  generalize w.heap.size + 1 + 1 + 1 = vb at HB ⊢
  generalize w.heap.size + 1 + 1 = tb at HB ⊢
  generalize w.heap.size + 1 = pb at HB ⊢
  obtain ⟨sb, hsb⟩ : ∃ sb, sb = w.heap.size := ⟨_, rfl⟩
  rw [← hsb] at HB ⊢
  clear hsb
  have hS := h.keep0 HB.mod
  have hc0 := hS.c0
  have hcp := hS.ptr p hp
  have b1 := HB.cs
  have b2 := HB.cp
  have n1 := World.new_ne wb _ b1
  have n2 := World.new_ne wb _ b2
  have n3 := World.new_ne wb _ hc0
  have n4 := World.new_ne wb _ hcp
  go_region_held3 (fun W => W.cell? ⟨sb, 0, none⟩ = some (.pointer (some ⟨a.s, 0, none⟩)) ∧ W.cell? ⟨pb, 0, none⟩ = some (.int .i64 p) ∧ W.cell? ⟨a.s, 0, none⟩ = some (.slice (some ⟨a.g, 0, none⟩) a.ps a.c) ∧ W.cell? ⟨a.g, p, none⟩ = some (.pointer (some ⟨a.bs p, 0, none⟩))) (go_keep) (fail)
  have HF := funs_alloc HB
  have hM : Mod (fun _ => False) w ((wb.alloc (.cells #[.pointer (some ⟨a.bs p, 0, none⟩)] 31)).alloc (.cells #[F66 tb sb, F24 a p, F67 sb wb.heap.size, F68 sb vb pb wb.heap.size] 35)).drew := ((HB.mod.alloc _).alloc _).drew
  unfold F66 F24 F67 F68 at HF hM
  clear b1 b2 n1 n2 n3 n4 hc0 hcp hS HB
  go_wp2_with fail
  generalize ((wb.alloc (.cells #[.pointer (some ⟨a.bs p, 0, none⟩)] 31)).alloc (.cells #[.func (Fn.func 66) #[] #[.pointer (some ⟨tb, 0, none⟩), .pointer (some ⟨sb, 0, none⟩)], .func (Fn.func 24) #[.pointer (some ⟨a.bs p, 0, none⟩)] #[],
    .func (Fn.func 67) #[] #[.pointer (some ⟨sb, 0, none⟩), .pointer (some ⟨wb.heap.size, 0, none⟩)],
    .func (Fn.func 68) #[] #[.pointer (some ⟨sb, 0, none⟩), .pointer (some ⟨vb, 0, none⟩), .pointer (some ⟨pb, 0, none⟩), .pointer (some ⟨wb.heap.size, 0, none⟩)]] 35)).drew = wc at HF hM ⊢
  generalize wb.heap.size + 1 = fb at HF ⊢
  generalize wb.heap.size = rb at HF ⊢
  generalize fb + 1 = hi at HF
  have hS := h.keep0 hM
  have hO := Off.start h hi
  have cf := HF.f0
  unfold F66 at cf
  refine wp_loop_rounds 5 ?_
  rw [rounds_succ]
  go_wp2_with fail
  refine (fair_no hS tb sb tick HF.ct HF.cs H0.out).mono ?_
  rintro e w2 ⟨rfl, hw⟩
  obtain rfl := hw.symm
  clear hw cf
  have cf := HF.f1
  unfold F24 at cf
  go_wp2_with fail
  rw [rounds_succ]
  go_wp2_with fail
  refine (get_any (a.bs p) _ _ _ (HR.out ▸ hS.ring p hp)).mono ?_
  rintro e w3 ⟨rfl, hr3, m3⟩
  have hS := (hS.onRing hp (E := ([], none)) hr3 m3).congr (R' := R) (fun i _ => by
    by_cases e : i = p
    · rw [e, upd_same, HR.out]
    · rw [upd_ne _ _ e])
  have hM3 : Mod (SS a o) w w3 := (hM.mono (fun _ _ h => h.elim)).trans (m3.mono (fun i _ e => .inr (.inr (.inr ⟨p, hp, e⟩))))
  have HF := HF.keep (m3.mono (T := SS a o) (fun i _ e => .inr (.inr (.inr ⟨p, hp, e⟩)))) hO
  clear cf hr3 m3
  have cf := HF.f2
  unfold F67 at cf
  go_wp2_with fail
  rw [rounds_succ]
  go_wp2_with fail
  refine (part_no hS sb rb HF.cs (hO.not HF.ls) (Nat.lt_of_lt_of_le HF.ls.2 HF.sz)).mono ?_
  rintro e w4 ⟨rfl, o4, hS4, ho4, m4⟩
  have hO4 := hO.to ho4 HF.sz
  have ho5 : ∀ k, o4 = some k → o = some k ∨ w.heap.size ≤ k := fun k hk => (ho4 k hk).imp_right (fun e => by have := hM3.size; omega)
  have hM4 := hM3.trans m4
  have HF := HF.keep m4 hO
  clear cf ho4 m4
  have cf := HF.f3
  unfold F68 at cf
  go_wp2_with fail
  rw [rounds_succ]
  go_wp2_with fail
  refine (HS.out _ o4 sb vb pb rb _ _ tb fb hS4 HF hO4).mono ?_
  rintro e w5 ⟨rfl, hT⟩
  have hT := To.trans1 ho5 hM4 hT
  clear cf HF hS hS4
  cases v2 with
  | true =>
    go_wp2_with fail
    go_ret2
    exact ⟨rfl, hT⟩
  | false =>
    obtain rfl := HZ.out rfl
    go_wp2_with fail
    rw [rounds_succ]
    go_wp2_with fail
    go_ret2
    exact ⟨rfl, hT⟩

set_option maxHeartbeats 1600000 in
set_option maxRecDepth 100000 in
theorem pick_none (h : Sch a w o R []) (p : Nat) (hp : p < a.ps) (tick v : Int) (hv : v < 0 ∨ (a.ps : Int) ≤ v ∨ v = p) (hR : R p = ([], none)) :
    Calls Try.prog 43 #[.pointer (some ⟨a.s, 0, none⟩), .int .i64 p, .int .i64 tick, .int .i64 v] w fun e w' => e = .returned (.tuple #[.int .i64 0, .bool false]) ∧ To a o w w' R [] := by
  have H0 := Lib.hid (fun hf : Fair tick [] => hf.2.2 rfl)
  have HR := Lib.hid hR
  have HV := Lib.hid hv
  clear hR hv
  have hpm := h.most
  have hcap := h.cap
  have hi0 : (0 : Int) ≤ (p : Int) := by omega
  have hi1 : (p : Int) < (a.ps : Int) := by omega
  have HB := boxes_alloc a w p tick v
  go_enter Try.func43, Try.ntmps43
  go_wp2_with fail
  refine (has_yes (h.keep0 HB.mod) p hp).mono ?_
  rintro e w1 ⟨rfl, hw⟩
  obtain rfl := hw.symm
  clear hw
  go_wp2_with fail
  generalize ((((w.alloc (.cells #[.pointer (some ⟨a.s, 0, none⟩)] 61)).alloc (.cells #[.int .i64 p] 3)).alloc (.cells #[.int .i64 tick] 3)).alloc (.cells #[.int .i64 v] 3)) = wb at HB ⊢
  generalize w.heap.size + 1 + 1 + 1 = vb at HB ⊢
  generalize w.heap.size + 1 + 1 = tb at HB ⊢
  generalize w.heap.size + 1 = pb at HB ⊢
  obtain ⟨sb, hsb⟩ : ∃ sb, sb = w.heap.size := ⟨_, rfl⟩
  rw [← hsb] at HB ⊢
  clear hsb
  have hS := h.keep0 HB.mod
  have hc0 := hS.c0
  have hcp := hS.ptr p hp
  have b1 := HB.cs
  have b2 := HB.cp
  have n1 := World.new_ne wb _ b1
  have n2 := World.new_ne wb _ b2
  have n3 := World.new_ne wb _ hc0
  have n4 := World.new_ne wb _ hcp
  go_region_held3 (fun W => W.cell? ⟨sb, 0, none⟩ = some (.pointer (some ⟨a.s, 0, none⟩)) ∧ W.cell? ⟨pb, 0, none⟩ = some (.int .i64 p) ∧ W.cell? ⟨a.s, 0, none⟩ = some (.slice (some ⟨a.g, 0, none⟩) a.ps a.c) ∧ W.cell? ⟨a.g, p, none⟩ = some (.pointer (some ⟨a.bs p, 0, none⟩))) (go_keep) (fail)
  have HF := funs_alloc HB
  have hM : Mod (fun _ => False) w ((wb.alloc (.cells #[.pointer (some ⟨a.bs p, 0, none⟩)] 31)).alloc (.cells #[F66 tb sb, F24 a p, F67 sb wb.heap.size, F68 sb vb pb wb.heap.size] 35)).drew := ((HB.mod.alloc _).alloc _).drew
  unfold F66 F24 F67 F68 at HF hM
  clear b1 b2 n1 n2 n3 n4 hc0 hcp hS HB
  go_wp2_with fail
  generalize ((wb.alloc (.cells #[.pointer (some ⟨a.bs p, 0, none⟩)] 31)).alloc (.cells #[.func (Fn.func 66) #[] #[.pointer (some ⟨tb, 0, none⟩), .pointer (some ⟨sb, 0, none⟩)], .func (Fn.func 24) #[.pointer (some ⟨a.bs p, 0, none⟩)] #[],
    .func (Fn.func 67) #[] #[.pointer (some ⟨sb, 0, none⟩), .pointer (some ⟨wb.heap.size, 0, none⟩)],
    .func (Fn.func 68) #[] #[.pointer (some ⟨sb, 0, none⟩), .pointer (some ⟨vb, 0, none⟩), .pointer (some ⟨pb, 0, none⟩), .pointer (some ⟨wb.heap.size, 0, none⟩)]] 35)).drew = wc at HF hM ⊢
  generalize wb.heap.size + 1 = fb at HF ⊢
  generalize wb.heap.size = rb at HF ⊢
  generalize fb + 1 = hi at HF
  have hS := h.keep0 hM
  have hO := Off.start h hi
  have cf := HF.f0
  unfold F66 at cf
  refine wp_loop_rounds 5 ?_
  rw [rounds_succ]
  go_wp2_with fail
  refine (fair_no hS tb sb tick HF.ct HF.cs H0.out).mono ?_
  rintro e w2 ⟨rfl, hw⟩
  obtain rfl := hw.symm
  clear hw cf
  have cf := HF.f1
  unfold F24 at cf
  go_wp2_with fail
  rw [rounds_succ]
  go_wp2_with fail
  refine (get_any (a.bs p) _ _ _ (HR.out ▸ hS.ring p hp)).mono ?_
  rintro e w3 ⟨rfl, hr3, m3⟩
  have hS := (hS.onRing hp (E := ([], none)) hr3 m3).congr (R' := R) (fun i _ => by
    by_cases e : i = p
    · rw [e, upd_same, HR.out]
    · rw [upd_ne _ _ e])
  have hM3 : Mod (SS a o) w w3 := (hM.mono (fun _ _ h => h.elim)).trans (m3.mono (fun i _ e => .inr (.inr (.inr ⟨p, hp, e⟩))))
  have HF := HF.keep (m3.mono (T := SS a o) (fun i _ e => .inr (.inr (.inr ⟨p, hp, e⟩)))) hO
  clear cf hr3 m3
  have cf := HF.f2
  unfold F67 at cf
  go_wp2_with fail
  rw [rounds_succ]
  go_wp2_with fail
  refine (part_no hS sb rb HF.cs (hO.not HF.ls) (Nat.lt_of_lt_of_le HF.ls.2 HF.sz)).mono ?_
  rintro e w4 ⟨rfl, o4, hS4, ho4, m4⟩
  have hO4 := hO.to ho4 HF.sz
  have ho5 : ∀ k, o4 = some k → o = some k ∨ w.heap.size ≤ k := fun k hk => (ho4 k hk).imp_right (fun e => by have := hM3.size; omega)
  have hM4 := hM3.trans m4
  have HF := HF.keep m4 hO
  clear cf ho4 m4
  have cf := HF.f3
  unfold F68 at cf
  go_wp2_with fail
  rw [rounds_succ]
  go_wp2_with fail
  refine (steal_no hS4 p hp v HV.out sb vb pb rb HF.cs HF.cv HF.cp HF.cr).mono ?_
  rintro e w5 ⟨he, hT⟩
  rw [HR.out] at he
  have he' : e = .returned (.tuple #[.int .i64 0, .bool false]) := he
  subst he'
  have hT2 := To.trans1 ho5 hM4 hT
  have hT3 : To a o w w5 R [] := by
    obtain ⟨o6, q1, q2, q3⟩ := hT2
    refine ⟨o6, q1.congr (fun i _ => ?_), q2, q3⟩
    unfold getR
    by_cases e : i = p
    · rw [e, upd_same, HR.out]; rfl
    · rw [upd_ne _ _ e]
  clear cf HF hS hS4 hT hT2 he
  go_wp2_with fail
  rw [rounds_succ]
  go_wp2_with fail
  go_ret2
  exact ⟨rfl, hT3⟩

end

end Go.Proofs.Ytgojfccaohngaaa
