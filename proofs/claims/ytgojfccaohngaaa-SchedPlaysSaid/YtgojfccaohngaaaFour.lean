/-
  Two rings of the program and two of the reference beside one another.
-/
import Derived.Test.YtgojfccaohngaaaRRing3
namespace Go.Proofs.Ytgojfccaohngaaa
open Go.RowKit

abbrev RM := List Int × Option Int
def put2 (A : RM) (g : Int) (next : Bool) : RM := ((rput A.1 A.2 g next).1.1, (rput A.1 A.2 g next).2)
def over2 (A : RM) (g : Int) (next : Bool) : List Int := (rput A.1 A.2 g next).1.2
def get2 (A : RM) : RM := ((rget A.1 A.2).2.1, (rget A.1 A.2).2.2)
def del2 (A : RM) (g : Int) : RM := ((rdel A.1 A.2 g).2.1, (rdel A.1 A.2 g).2.2)
def stA (A B : RM) : RM := ((rsteal A.1 B.1 B.2).2.1, A.2)
def stB (A B : RM) : RM := ((rsteal A.1 B.1 B.2).2.2.1, (rsteal A.1 B.1 B.2).2.2.2)
def len2 (A : RM) : Nat := (A.2.toList ++ A.1).length
def all2 (A : RM) : List Int := A.2.toList ++ A.1

theorem over2_len (A : RM) (g : Int) (next : Bool) : (over2 A g next).length ≤ 129 := by
  unfold over2 rput rbehind
  cases next with
  | false =>
    by_cases h : A.1.length < 256
    · simp [h]
    · simp only [if_neg h]; simp; omega
  | true =>
    cases A.2 with
    | none => simp
    | some y =>
      by_cases h : A.1.length < 256
      · simp [h]
      · simp only [if_neg h]; simp; omega
theorem len2_le (A : RM) (h : A.1.length ≤ 256) : len2 A ≤ 257 := by
  unfold len2
  cases A.2 <;> simp <;> omega

theorem rows_ne {w : World} {q b : Nat} {t t' : TypeId} {n n' : Nat} {f f' : Nat → Value} (h : w.rowIs q t n f) (h' : w.rowIs b t' n' f') (ht : t ≠ t') : q ≠ b := by
  rintro rfl
  obtain ⟨c, hc, _⟩ := h
  obtain ⟨d, hd, _⟩ := h'
  rw [hc] at hd
  injection hd with hd
  injection hd with _ hd
  exact ht hd
theorem Ring.ne {w : World} {b : Nat} {row : List Int} {nxt : Option Int} (h : Ring w b row nxt) {q : Nat} {t : TypeId} {n : Nat} {f : Nat → Value} (hr : w.rowIs q t n f) (ht : t ≠ 86) : q ≠ b := by
  obtain ⟨_, _, _, h1, _⟩ := h
  exact rows_ne hr h1 ht
theorem RRing.ne {w : World} {b : Nat} {row : List Int} {nxt : Option Int} (h : RRing w b row nxt) {q : Nat} {t : TypeId} {n : Nat} {f : Nat → Value} (hr : w.rowIs q t n f) (ht : t ≠ 55) : q ≠ b := by
  obtain ⟨_, _, _, _, _, _, h1, _⟩ := h
  exact rows_ne hr h1 ht
theorem Ring.neR {w : World} {b x : Nat} {row row' : List Int} {nxt nxt' : Option Int} (h : Ring w b row nxt) (h' : RRing w x row' nxt') : b ≠ x := by
  obtain ⟨_, _, _, h1, _⟩ := h
  exact h'.ne h1 (by decide)

/-- Rings a, b and the reference's x, y, all of them new behind W, and the op's own variable q. -/
structure Four (W w : World) (a b x y : Nat) (A B C D : RM) : Prop where
  ra : Ring w a A.1 A.2
  rb : Ring w b B.1 B.2
  rx : RRing w x C.1 C.2
  ry : RRing w y D.1 D.2
  ab : a ≠ b
  xy : x ≠ y
  la : W.heap.size ≤ a
  lb : W.heap.size ≤ b
  lx : W.heap.size ≤ x
  ly : W.heap.size ≤ y
  mod : Mod (fun _ => False) W w

section
variable {W w w' : World} {a b x y : Nat} {A B C D E F : RM}
theorem Four.keep0 (h : Four W w a b x y A B C D) (m : Mod (fun _ => False) w w') : Four W w' a b x y A B C D :=
  ⟨h.ra.keep m (fun h => h), h.rb.keep m (fun h => h), h.rx.keep m (fun h => h) (NoInts.zero _), h.ry.keep m (fun h => h) (NoInts.zero _), h.ab, h.xy, h.la, h.lb, h.lx, h.ly, h.mod.trans m⟩
theorem Four.swap (h : Four W w a b x y A B C D) : Four W w b a y x B A D C :=
  ⟨h.rb, h.ra, h.ry, h.rx, h.ab.symm, h.xy.symm, h.lb, h.la, h.ly, h.lx, h.mod⟩
theorem Four.onA (h : Four W w a b x y A B C D) (r : Ring w' a E.1 E.2) (m : Mod (· = a) w w') : Four W w' a b x y E B C D :=
  ⟨r, h.rb.keep m (fun e => h.ab e.symm), h.rx.keep m (fun e => h.ra.neR h.rx e.symm) h.ra.noInts, h.ry.keep m (fun e => h.ra.neR h.ry e.symm) h.ra.noInts, h.ab, h.xy, h.la, h.lb, h.lx, h.ly,
    h.mod.new m (fun i hi => by subst hi; exact h.la)⟩
theorem Four.onX (h : Four W w a b x y A B C D) (r : RRing w' x E.1 E.2) (m : Mod (· = x) w w') : Four W w' a b x y A B E D :=
  ⟨h.ra.keep m (fun e => h.ra.neR h.rx e), h.rb.keep m (fun e => h.rb.neR h.rx e), r, h.ry.keep m (fun e => h.xy e.symm) h.rx.noInts, h.ab, h.xy, h.la, h.lb, h.lx, h.ly,
    h.mod.new m (fun i hi => by subst hi; exact h.lx)⟩
theorem Four.onAB (h : Four W w a b x y A B C D) (r : Ring w' a E.1 E.2) (s : Ring w' b F.1 F.2) (m : Mod (fun i => i = a ∨ i = b) w w') : Four W w' a b x y E F C D :=
  ⟨r, s, h.rx.keep m (fun e => by rcases e with e | e; exact h.ra.neR h.rx e.symm; exact h.rb.neR h.rx e.symm) (h.ra.noInts.or h.rb.noInts),
    h.ry.keep m (fun e => by rcases e with e | e; exact h.ra.neR h.ry e.symm; exact h.rb.neR h.ry e.symm) (h.ra.noInts.or h.rb.noInts), h.ab, h.xy, h.la, h.lb, h.lx, h.ly,
    h.mod.new m (fun i hi => by rcases hi with rfl | rfl; exact h.la; exact h.lb)⟩
theorem Four.onXY (h : Four W w a b x y A B C D) (r : RRing w' x E.1 E.2) (s : RRing w' y F.1 F.2) (m : Mod (fun i => i = x ∨ i = y) w w') : Four W w' a b x y A B E F :=
  ⟨h.ra.keep m (fun e => by rcases e with e | e; exact h.ra.neR h.rx e; exact h.ra.neR h.ry e), h.rb.keep m (fun e => by rcases e with e | e; exact h.rb.neR h.rx e; exact h.rb.neR h.ry e), r, s,
    h.ab, h.xy, h.la, h.lb, h.lx, h.ly, h.mod.new m (fun i hi => by rcases hi with rfl | rfl; exact h.lx; exact h.ly)⟩

theorem Four.put (h : Four W w a b x y A B C D) (g : Int) (next : Bool) :
    Calls Try.prog 22 #[.pointer (some ⟨a, 0, none⟩), .int .i64 g, .bool next] w fun e w' => ∃ R n c, e = .returned (.slice R n c) ∧ IsL w' R n c (over2 A g next) ∧ (∀ d, R = some d → w.heap.size ≤ d.block) ∧
      Four W w' a b x y (put2 A g next) B C D ∧ Mod (· = a) w w' :=
  (put_any a g next A.1 A.2 w h.ra).mono fun _ _ ⟨R, n, c, he, h1, h2, h3, h4⟩ => ⟨R, n, c, he, h2, h3, h.onA h1 h4, h4⟩
theorem Four.rput (h : Four W w a b x y A B C D) (hl : C.1.length ≤ 256) (g : Int) (next : Bool) :
    Calls Try.prog 34 #[.pointer (some ⟨x, 0, none⟩), .int .i64 g, .bool next] w fun e w' => ∃ R n c, e = .returned (.slice R n c) ∧ IsL w' R n c (over2 C g next) ∧ (∀ d, R = some d → w.heap.size ≤ d.block) ∧
      Four W w' a b x y A B (put2 C g next) D ∧ Mod (· = x) w w' :=
  (rrput_any x g next C.1 C.2 w h.rx hl).mono fun _ _ ⟨R, n, c, he, h1, h2, h3, h4⟩ => ⟨R, n, c, he, h2, h3, h.onX h1 h4, h4⟩
theorem Four.get (h : Four W w a b x y A B C D) :
    Calls Try.prog 24 #[.pointer (some ⟨a, 0, none⟩)] w fun e w' => e = .returned (.tuple #[.int .i64 (rget A.1 A.2).1.1, .bool (rget A.1 A.2).1.2]) ∧ Four W w' a b x y (get2 A) B C D ∧ Mod (· = a) w w' :=
  (get_any a A.1 A.2 w h.ra).mono fun _ _ ⟨he, h1, h4⟩ => ⟨he, h.onA h1 h4, h4⟩
theorem Four.rget (h : Four W w a b x y A B C D) :
    Calls Try.prog 35 #[.pointer (some ⟨x, 0, none⟩)] w fun e w' => e = .returned (.tuple #[.int .i64 (rget C.1 C.2).1.1, .bool (rget C.1 C.2).1.2]) ∧ Four W w' a b x y A B (get2 C) D ∧ Mod (· = x) w w' :=
  (rrget_any x C.1 C.2 w h.rx).mono fun _ _ ⟨he, h1, h4⟩ => ⟨he, h.onX h1 h4, h4⟩
theorem Four.del (h : Four W w a b x y A B C D) (g : Int) :
    Calls Try.prog 33 #[.pointer (some ⟨a, 0, none⟩), .int .i64 g] w fun e w' => e = .returned (.bool (rdel A.1 A.2 g).1) ∧ Four W w' a b x y (del2 A g) B C D ∧ Mod (· = a) w w' :=
  (del_any a A.1 A.2 g w h.ra).mono fun _ _ ⟨he, h1, h4⟩ => ⟨he, h.onA h1 h4, h4⟩
theorem Four.rdel (h : Four W w a b x y A B C D) (hl : C.1.length ≤ 256) (g : Int) :
    Calls Try.prog 37 #[.pointer (some ⟨x, 0, none⟩), .int .i64 g] w fun e w' => e = .returned (.bool (rdel C.1 C.2 g).1) ∧ Four W w' a b x y A B (del2 C g) D ∧ Mod (· = x) w w' :=
  (rrdel_any x C.1 C.2 g w h.rx (by omega)).mono fun _ _ ⟨he, h1, h4⟩ => ⟨he, h.onX h1 h4, h4⟩
theorem Four.steal (h : Four W w a b x y A B C D) :
    Calls Try.prog 32 #[.pointer (some ⟨a, 0, none⟩), .pointer (some ⟨b, 0, none⟩)] w fun e w' => e = .returned (.int .i64 ((rsteal A.1 B.1 B.2).1 : Nat)) ∧ Four W w' a b x y (stA A B) (stB A B) C D ∧ Mod (fun i => i = a ∨ i = b) w w' :=
  (steal_any a b A.1 B.1 A.2 B.2 w h.ra h.rb h.ab).mono fun _ _ ⟨he, h1, h2, h4⟩ => ⟨he, h.onAB h1 h2 h4, h4⟩
theorem Four.rsteal (h : Four W w a b x y A B C D) (hl : C.1.length ≤ 256) (hl2 : D.1.length ≤ 256) :
    Calls Try.prog 36 #[.pointer (some ⟨x, 0, none⟩), .pointer (some ⟨y, 0, none⟩)] w fun e w' => e = .returned (.int .i64 ((rsteal C.1 D.1 D.2).1 : Nat)) ∧ Four W w' a b x y A B (stA C D) (stB C D) ∧ Mod (fun i => i = x ∨ i = y) w w' :=
  (rrsteal_any x y C.1 D.1 C.2 D.2 w h.rx h.ry h.xy hl hl2).mono fun _ _ ⟨he, h1, h2, h4⟩ => ⟨he, h.onXY h1 h2 h4, h4⟩
theorem Four.len (h : Four W w a b x y A B C D) :
    Calls Try.prog 23 #[.pointer (some ⟨a, 0, none⟩)] w fun e w' => e = .returned (.int .i64 (len2 A : Nat)) ∧ Four W w' a b x y A B C D ∧ Mod (fun _ => False) w w' :=
  (len_any a A.1 A.2 w h.ra).mono fun _ _ ⟨he, h4⟩ => ⟨he, h.keep0 h4, h4⟩
theorem Four.all (h : Four W w a b x y A B C D) :
    Calls Try.prog 25 #[.pointer (some ⟨a, 0, none⟩)] w fun e w' => ∃ R c, e = .returned (.slice R (len2 A) c) ∧ IsL w' R (len2 A) c (all2 A) ∧ Four W w' a b x y A B C D ∧ Mod (fun _ => False) w w' :=
  (all_any a A.1 A.2 w h.ra).mono fun _ _ ⟨R, n, c, he, h1, _, h4⟩ => by
    have e := h1.len
    have e2 : len2 A = n := e
    subst e2
    exact ⟨R, c, he, h1, h.keep0 h4, h4⟩
theorem Four.rall (h : Four W w a b x y A B C D) (hl : C.1.length ≤ 256) :
    Calls Try.prog 38 #[.pointer (some ⟨x, 0, none⟩)] w fun e w' => ∃ R c, e = .returned (.slice R (len2 C) c) ∧ IsL w' R (len2 C) c (all2 C) ∧ Four W w' a b x y A B C D ∧ Mod (fun _ => False) w w' :=
  (rall_any x C.1 C.2 w h.rx (by omega)).mono fun _ _ ⟨R, n, c, he, h1, _, h4⟩ => by
    have e := h1.len
    have e2 : len2 C = n := e
    subst e2
    exact ⟨R, c, he, h1, h.keep0 h4, h4⟩
end

theorem rring_alloc (w : World) : RRing (w.alloc (.cells #[.slice none 0 0, .slice none 0 0] 55)) w.heap.size [] none := by
  refine ⟨none, 0, 0, none, 0, 0, ?_, IsL.nil _, IsL.nil _, TyL.nil _, TyL.nil _⟩
  exact World.rowIs_alloc w _ 55 _ (fun i hi => by
    have h3 : i = 0 ∨ i = 1 := by simp at hi; omega
    rcases h3 with rfl | rfl <;> rfl)

end Go.Proofs.Ytgojfccaohngaaa
