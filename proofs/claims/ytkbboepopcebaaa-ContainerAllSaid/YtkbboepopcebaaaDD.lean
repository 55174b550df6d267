/- ContainerAll: what a call hands back, in boxes. -/
import Derived.Test.YtkbboepopcebaaaCY
import Derived.Test.YtkbboepopcebaaaBO
import Derived.Deep.DrawnRows
namespace Go.Proofs.Ytkbboepopcebaaa
open Go.RowKit

/-- What either Parse hands back, in numbers. -/
def RdC (d : Cont) (s x y : Int) (w : World) (e : Ending) (w' : World) : Prop := Below w.heap.size w w' ∧ ∃ A0 n0 c0 A1 n1 c1 A2 n2 c2 A3 n3 c3,
  e = .returned (.tuple #[.agg #[.slice A0 n0 c0, .slice A1 n1 c1, .slice A2 n2 c2, .slice A3 n3 c3, .int .i64 s], .agg #[.int .i64 x, .slice none 0 0, .int .i64 0, .int .i64 y]]) ∧
  PContV w' w.heap.size (.agg #[.slice A0 n0 c0, .slice A1 n1 c1, .slice A2 n2 c2, .slice A3 n3 c3, .int .i64 s]) d
theorem rdc_of {b : List Int} {o : Bool} {d : Cont} {s x y : Int} (hd : d = contOf (parse b o)) (hs : s = (contOf (parse b o)).size) (hx : x = (rejOf (parse b o)).1) (hy : y = (rejOf (parse b o)).2) {w w' : World} {e : Ending} (h : RdV b o w e w') : RdC d s x y w e w' := by
  subst hd hs hx hy
  exact h
/-- What either Lay hands back, in numbers. -/
def LyC (d : Cont) (s er : Int) (w : World) (e : Ending) (w' : World) : Prop := Below w.heap.size w w' ∧ ∃ A0 n0 c0 A1 n1 c1 A2 n2 c2 A3 n3 c3,
  e = .returned (.tuple #[.agg #[.slice A0 n0 c0, .slice A1 n1 c1, .slice A2 n2 c2, .slice A3 n3 c3, .int .i64 s], .int .i64 er]) ∧
  PContV w' w.heap.size (.agg #[.slice A0 n0 c0, .slice A1 n1 c1, .slice A2 n2 c2, .slice A3 n3 c3, .int .i64 s]) d
theorem lyc_of {c : Cont} {bh : List Int} {d : Cont} {s er : Int} (hd : d = (lay c bh).2) (hs : s = (lay c bh).2.size) (he : er = (lay c bh).1) {w w' : World} {e : Ending} (h : LayPost c bh w e w') : LyC d s er w e w' := by
  subst hd hs he
  exact h
theorem parsed {b : List Int} {o : Bool} (hx : (rejOf (parse b o)).1 = 0) (hg : ∀ e, parse b o = .error e → e.1 ≠ 0) : parse b o = .ok (contOf (parse b o)) := by
  cases hp : parse b o with
  | ok c => rfl
  | error e => exact absurd (by rw [hp] at hx; exact hx) (hg e hp)
theorem rd_fits {b : List Int} (hy : Byt b) (o : Bool) (hb : b.length ≤ 2097152) : Fits (contOf (parse b o)) := by
  cases hp : parse b o with
  | ok c => exact (cinv_parse hy hb hp).fits
  | error e => simp [contOf, contE, Fits, wt]
theorem alloc_keep {w : World} {a : Addr} {v : Value} (h : w.cell? a = some v) : ∀ o, (w.alloc o).cell? a = some v := fun o => cell_keep (below_alloc _ _) h
/-- A refusal's box, as a block. -/
def HBr (w : World) (Y : Nat) (x y : Int) : Prop := w.heap[Y]? = some (.cells #[.int .i64 x, .slice none 0 0, .int .i64 0, .int .i64 y] 43 (0, 0))
abbrev setY (W : World) (Y : Nat) (v0 v1 v2 v3 : Value) : World := (((W.setCell ⟨Y, 0, none⟩ v0).setCell ⟨Y, 1, none⟩ v1).setCell ⟨Y, 2, none⟩ v2).setCell ⟨Y, 3, none⟩ v3
theorem grown_setY (W : World) (Y : Nat) (v0 v1 v2 v3 : Value) : W.grownBy (setY W Y v0 v1 v2 v3) (some Y) :=
  grown_trans (grown_trans (grown_trans (grown_setCell _ _ _ _) (grown_setCell _ _ _ _)) (grown_setCell _ _ _ _)) (grown_setCell _ _ _ _)
theorem HBr.set {w : World} {Y : Nat} {a b : Int} (h : HBr w Y a b) (x y : Int) : HBr (setY w Y (.int .i64 x) (.slice none 0 0) (.int .i64 0) (.int .i64 y)) Y x y := by
  have h0 := heap_setCell_same w Y 0 _ 43 (.int .i64 x) h
  have h1 := heap_setCell_same _ Y 1 _ 43 (.slice none 0 0) h0
  have h2 := heap_setCell_same _ Y 2 _ 43 (.int .i64 0) h1
  have h3 := heap_setCell_same _ Y 3 _ 43 (.int .i64 y) h2
  exact h3
theorem HBr.lt {w : World} {Y : Nat} {x y : Int} (h : HBr w Y x y) : Y < w.heap.size := (Array.getElem?_eq_some_iff.1 h).1
theorem HBr.below {w w1 : World} {Y : Nat} {x y : Int} (h : HBr w Y x y) (hb : Below w.heap.size w w1) : HBr w1 Y x y := (hb.block Y h.lt).trans h
theorem HBr.cells {w : World} {Y : Nat} {x y : Int} (h : HBr w Y x y) : w.cell? ⟨Y, 0, none⟩ = some (.int .i64 x) ∧ w.cell? ⟨Y, 1, none⟩ = some (.slice none 0 0) ∧ w.cell? ⟨Y, 2, none⟩ = some (.int .i64 0) ∧ w.cell? ⟨Y, 3, none⟩ = some (.int .i64 y) :=
  ⟨by rw [cell_of_row w Y 0 _ 43 (0, 0) h]; rfl, by rw [cell_of_row w Y 1 _ 43 (0, 0) h]; rfl, by rw [cell_of_row w Y 2 _ 43 (0, 0) h]; rfl, by rw [cell_of_row w Y 3 _ 43 (0, 0) h]; rfl⟩
theorem HBr.free {w : World} {Y : Nat} {x y : Int} (h : HBr w Y x y) (j : Nat) : w.frozen? ⟨Y, j, none⟩ = false := frozen_of_row w Y j _ 43 h
theorem HBr.freeA {w : World} {Y : Nat} {x y : Int} (h : HBr w Y x y) : ∀ (o : Obj) (j : Nat), (w.alloc o).frozen? ⟨Y, j, none⟩ = false := fun _ j => (h.below (below_alloc _ _)).free j
theorem HBx.freeA {w : World} {X : Nat} {v0 v1 v2 v3 v4 : Value} (h : HBx w X v0 v1 v2 v3 v4) : ∀ (o : Obj) (j : Nat), (w.alloc o).frozen? ⟨X, j, none⟩ = false := fun _ j => (h.below (below_alloc _ _)).kx.free j
theorem HBox_ne {w : World} {X Y : Nat} {v0 v1 v2 v3 v4 : Value} {x y : Int} (h : HBx w X v0 v1 v2 v3 v4) (k : HBr w Y x y) : ¬ X = Y := fun e => by
  subst e
  unfold HBx at h
  unfold HBr at k
  rw [h] at k
  simp only [Option.some.injEq, Obj.cells.injEq] at k
  exact absurd k.2.1 (by decide)
theorem asz (w : World) (o : Obj) : (w.alloc o).heap.size = w.heap.size + 1 := by simp
theorem hbr_new (w : World) (x y : Int) : HBr (w.alloc (.cells #[.int .i64 x, .slice none 0 0, .int .i64 0, .int .i64 y] 43)) w.heap.size x y := heap_alloc_new w _
/-- Between the two worlds no block has turned that a container is made of. -/
structure GT (w w1 : World) : Prop where
  ex : ∃ r : Option Nat, w.grownBy w1 r ∧ ∀ X, r = some X → ∃ cs t, w.heap[X]? = some (.cells cs t (0, 0)) ∧ t ≠ 69 ∧ t ≠ 22 ∧ t ≠ 5
theorem own_gt {w w1 : World} {B : Nat} {t : TypeId} {k n : Nat} {v : Value} {l : List Value} (ho : w.ownsRow B t k v n l) (ht : t = 69 ∨ t = 22 ∨ t = 5) (g : GT w w1) : w1.ownsRow B t k v n l := by
  obtain ⟨r, hg, hr⟩ := g.ex
  refine own_other ho hg ?_
  rcases ho.2 with ⟨rfl, _⟩ | ⟨b, cap, cur, rfl, _, hh, _⟩
  · exact .inl rfl
  · refine .inr fun e => ?_
    obtain ⟨cs, t', hc, n1, n2, n3⟩ := hr b (by simpa [Value.ownBlock] using e.symm)
    rw [hh] at hc
    simp only [Option.some.injEq, Obj.cells.injEq] at hc
    rcases ht with rfl | rfl | rfl
    · exact n1 hc.2.1.symm
    · exact n2 hc.2.1.symm
    · exact n3 hc.2.1.symm
theorem PartsO.gt {w w1 : World} {B : Nat} {v : Value} {ll : List (List Int)} (h : PartsO w B v ll) (g : GT w w1) : PartsO w1 B v ll := by
  obtain ⟨vs, h1⟩ := h
  exact ⟨vs, h1.len, own_gt h1.own (.inr (.inl rfl)) g, fun j hj => own_gt (h1.each j hj) (.inr (.inr rfl)) g, h1.apart⟩
theorem PContV.gt {w w1 : World} {B : Nat} {v : Value} {c : Cont} (h : PContV w B v c) (g : GT w w1) : PContV w1 B v c := by
  obtain ⟨T, C, S, D, e, hT, hC, hS, hD⟩ := h.form
  exact ⟨T, C, S, D, e, own_gt hT (.inl rfl) g, hC.gt g, hS.gt g, own_gt hD (.inr (.inr rfl)) g⟩
/-- A stretch of a walk that fills two boxes. -/
structure ST (w5 W : World) (bx : Option (Nat × U5)) (br : Option (Nat × Int × Int)) (q : Option (U5 × Cont)) : Prop where
  below : Below w5.heap.size w5 W
  x : ∀ X u, bx = some (X, u) → HBx W X u.t u.c u.s u.d (.int .i64 u.z) ∧ w5.heap.size ≤ X
  y : ∀ Y a b, br = some (Y, a, b) → HBr W Y a b ∧ w5.heap.size ≤ Y
  q : ∀ v d, q = some (v, d) → PContV W w5.heap.size v.agg d
theorem ST.refl (w : World) : ST w w none none none := ⟨Below.refl _ _, (fun _ _ e => by cases e), (fun _ _ _ e => by cases e), (fun _ _ e => by cases e)⟩
theorem ST.step {w5 W W' : World} {bx : Option (Nat × U5)} {br : Option (Nat × Int × Int)} {q : Option (U5 × Cont)} (h : ST w5 W bx br q) (hb : Below W.heap.size W W') : ST w5 W' bx br q :=
  ⟨below_step h.below hb, fun X u e => ⟨(h.x X u e).1.below hb, (h.x X u e).2⟩, fun Y a b e => ⟨(h.y Y a b e).1.below hb, (h.y Y a b e).2⟩, fun v d e => (h.q v d e).belowK hb⟩
theorem ST.drew {w5 W : World} {bx : Option (Nat × U5)} {br : Option (Nat × Int × Int)} {q : Option (U5 × Cont)} (h : ST w5 W bx br q) : ST w5 W.drew bx br q := h.step (Below.refl _ _).drew
theorem ST.got {w5 W W' : World} {bx : Option (Nat × U5)} {br : Option (Nat × Int × Int)} {u : U5} {d : Cont} (h : ST w5 W bx br none) (hb : Below W.heap.size W W') (hp : PContV W' W.heap.size u.agg d) : ST w5 W' bx br (some (u, d)) :=
  ⟨below_step h.below hb, fun X u e => ⟨(h.x X u e).1.below hb, (h.x X u e).2⟩, fun Y a b e => ⟨(h.y Y a b e).1.below hb, (h.y Y a b e).2⟩, fun v d e => by cases e; exact hp.baseK h.below.size⟩
theorem ST.newX {w5 W : World} {br : Option (Nat × Int × Int)} {q : Option (U5 × Cont)} {X : Nat} {t c s d : Value} {z : Int} (h : ST w5 W none br q) (hX : X = W.heap.size) : ST w5 (W.alloc (.cells #[t, c, s, d, .int .i64 z] 28)) (some (X, ⟨t, c, s, d, z⟩)) br q := by
  have hb := below_alloc W (.cells #[t, c, s, d, .int .i64 z] 28)
  have hs := h.step hb
  refine ⟨hs.below, fun X' u e => ?_, hs.y, hs.q⟩
  cases e
  subst hX
  exact ⟨hbx_new _ _ _ _ _ _, h.below.size⟩
theorem ST.newY {w5 W : World} {bx : Option (Nat × U5)} {q : Option (U5 × Cont)} {Y : Nat} {x y : Int} (h : ST w5 W bx none q) (hY : Y = W.heap.size) : ST w5 (W.alloc (.cells #[.int .i64 x, .slice none 0 0, .int .i64 0, .int .i64 y] 43)) bx (some (Y, x, y)) q := by
  have hb := below_alloc W (.cells #[.int .i64 x, .slice none 0 0, .int .i64 0, .int .i64 y] 43)
  have hs := h.step hb
  refine ⟨hs.below, hs.x, fun Y' a b e => ?_, hs.q⟩
  cases e
  subst hY
  exact ⟨hbr_new _ _ _, h.below.size⟩
theorem ST.newX1 {w5 W : World} {br : Option (Nat × Int × Int)} {q : Option (U5 × Cont)} {t c s d : Value} {z : Int} (h : ST w5 W none br q) : ST w5 (W.alloc (.cells #[t, c, s, d, .int .i64 z] 28)) (some (W.heap.size, ⟨t, c, s, d, z⟩)) br q := h.newX rfl
theorem ST.newY1 {w5 W : World} {bx : Option (Nat × U5)} {q : Option (U5 × Cont)} {x y : Int} (h : ST w5 W bx none q) : ST w5 (W.alloc (.cells #[.int .i64 x, .slice none 0 0, .int .i64 0, .int .i64 y] 43)) bx (some (W.heap.size, x, y)) q := h.newY rfl
theorem ST.setX {w5 W : World} {br : Option (Nat × Int × Int)} {q : Option (U5 × Cont)} {X : Nat} {u0 : U5} {t c s d : Value} {z : Int} (h : ST w5 W (some (X, u0)) br q) : ST w5 (setX W X t c s d (.int .i64 z)) (some (X, ⟨t, c, s, d, z⟩)) br q := by
  have hg := grown_setX W X t c s d (.int .i64 z)
  obtain ⟨h1, h2⟩ := h.x _ _ rfl
  have g : GT W (Go.Proofs.Ytkbboepopcebaaa.setX W X t c s d (.int .i64 z)) := ⟨_, hg, fun X e => by cases e; exact ⟨_, 28, h1, by decide, by decide, by decide⟩⟩
  refine ⟨h.below.grown hg h.below.size (by rintro k ⟨⟩; exact h2), fun X' u e => ?_, fun Y a b e => ?_, fun v d e => (h.q v d e).gt g⟩
  · cases e
    exact ⟨h1.set _ _ _ _ _, h2⟩
  · obtain ⟨k1, k2⟩ := h.y Y a b e
    refine ⟨(hg.block Y k1.lt (fun e2 => ?_)).trans k1, k2⟩
    cases e2
    unfold HBx at h1
    unfold HBr at k1
    rw [h1] at k1
    simp only [Option.some.injEq, Obj.cells.injEq] at k1
    exact absurd k1.2.1 (by decide)
theorem ST.setY {w5 W : World} {bx : Option (Nat × U5)} {q : Option (U5 × Cont)} {Y : Nat} {a0 b0 x y : Int} (h : ST w5 W bx (some (Y, a0, b0)) q) : ST w5 (setY W Y (.int .i64 x) (.slice none 0 0) (.int .i64 0) (.int .i64 y)) bx (some (Y, x, y)) q := by
  have hg := grown_setY W Y (.int .i64 x) (.slice none 0 0) (.int .i64 0) (.int .i64 y)
  obtain ⟨h1, h2⟩ := h.y _ _ _ rfl
  have g : GT W (Go.Proofs.Ytkbboepopcebaaa.setY W Y (.int .i64 x) (.slice none 0 0) (.int .i64 0) (.int .i64 y)) := ⟨_, hg, fun X e => by cases e; exact ⟨_, 43, h1, by decide, by decide, by decide⟩⟩
  refine ⟨h.below.grown hg h.below.size (by rintro k ⟨⟩; exact h2), fun X u e => ?_, fun Y' a b e => ?_, fun v d e => (h.q v d e).gt g⟩
  · obtain ⟨k1, k2⟩ := h.x X u e
    refine ⟨(hg.block X k1.lt (fun e2 => ?_)).trans k1, k2⟩
    cases e2
    unfold HBx at k1
    unfold HBr at h1
    rw [h1] at k1
    simp only [Option.some.injEq, Obj.cells.injEq] at k1
    exact absurd k1.2.1 (by decide)
  · cases e
    exact ⟨h1.set _ _, h2⟩
theorem ST.p00 {w5 wp : World} {u : U5} {d : Cont} (hb : Below w5.heap.size w5 wp) (hp : PContV wp w5.heap.size u.agg d) : ST w5 wp none none (some (u, d)) :=
  ⟨hb, (fun _ _ e => by cases e), (fun _ _ _ e => by cases e), (fun _ _ e => by cases e; exact hp)⟩
theorem ST.pX {w5 wp : World} {u : U5} {d : Cont} {X : Nat} {t c s e : Value} {z : Int} (hb : Below w5.heap.size w5 wp) (hp : PContV wp w5.heap.size u.agg d) (hx : HBx wp X t c s e (.int .i64 z)) (hX : w5.heap.size ≤ X) : ST w5 wp (some (X, ⟨t, c, s, e, z⟩)) none (some (u, d)) :=
  ⟨hb, (fun _ _ e => by cases e; exact ⟨hx, hX⟩), (fun _ _ _ e => by cases e), (fun _ _ e => by cases e; exact hp)⟩
theorem ST.pY {w5 wp : World} {u : U5} {d : Cont} {Y : Nat} {a b : Int} (hb : Below w5.heap.size w5 wp) (hp : PContV wp w5.heap.size u.agg d) (hy : HBr wp Y a b) (hY : w5.heap.size ≤ Y) : ST w5 wp none (some (Y, a, b)) (some (u, d)) :=
  ⟨hb, (fun _ _ e => by cases e), (fun _ _ _ e => by cases e; exact ⟨hy, hY⟩), (fun _ _ e => by cases e; exact hp)⟩
theorem ST.pXY {w5 wp : World} {u : U5} {d : Cont} {X Y : Nat} {t c s e : Value} {z a b : Int} (hb : Below w5.heap.size w5 wp) (hp : PContV wp w5.heap.size u.agg d) (hx : HBx wp X t c s e (.int .i64 z)) (hX : w5.heap.size ≤ X) (hy : HBr wp Y a b) (hY : w5.heap.size ≤ Y) : ST w5 wp (some (X, ⟨t, c, s, e, z⟩)) (some (Y, a, b)) (some (u, d)) :=
  ⟨hb, (fun _ _ e => by cases e; exact ⟨hx, hX⟩), (fun _ _ _ e => by cases e; exact ⟨hy, hY⟩), (fun _ _ e => by cases e; exact hp)⟩
/-- Behind a call that made a container twice: the two boxes, the kept state. -/
structure TS (w y wz : World) (X3 X4 : Nat) (u3 u4 : U5) (C : Cont) (vk vw : Value) (us ws : List U5) (kl : List Cont) (XA XB : Nat) (a3 a4 : U5) (d : Cont) : Prop where
  inv : AInv w y wz X3 X4 u3 u4 C vk vw us ws kl
  ba : HBx wz XA a3.t a3.c a3.s a3.d (.int .i64 a3.z)
  bb : HBx wz XB a4.t a4.c a4.s a4.d (.int .i64 a4.z)
  pa : PContV wz w.heap.size a3.agg d
  pb : PContV wz w.heap.size a4.agg d
  ci : CInv d
  gA : y.heap.size ≤ XA
  gB : y.heap.size ≤ XB
  kA : ∀ X, vk.ownBlock = some X → X < XA ∧ X < XB
  wA : ∀ X, vw.ownBlock = some X → X < XA ∧ X < XB
theorem TS.mono {w y wz W : World} {X3 X4 : Nat} {u3 u4 : U5} {C : Cont} {vk vw : Value} {us ws : List U5} {kl : List Cont} {XA XB : Nat} {a3 a4 : U5} {d : Cont} (h : TS w y wz X3 X4 u3 u4 C vk vw us ws kl XA XB a3 a4 d) (hb : Below wz.heap.size wz W) : TS w y W X3 X4 u3 u4 C vk vw us ws kl XA XB a3 a4 d :=
  ⟨h.inv.mono hb, h.ba.below hb, h.bb.below hb, h.pa.belowK hb, h.pb.belowK hb, h.ci, h.gA, h.gB, h.kA, h.wA⟩
theorem TS.swap {w y wz : World} {X3 X4 : Nat} {u3 u4 : U5} {C : Cont} {vk vw : Value} {us ws : List U5} {kl : List Cont} {XA XB : Nat} {a3 a4 : U5} {d : Cont} (h : TS w y wz X3 X4 u3 u4 C vk vw us ws kl XA XB a3 a4 d) : TS w y wz X4 X3 u4 u3 C vw vk ws us kl XB XA a4 a3 d :=
  ⟨h.inv.swap, h.bb, h.ba, h.pb, h.pa, h.ci, h.gB, h.gA, fun X e => (h.wA X e).symm, fun X e => (h.kA X e).symm⟩
/-- One of the two stores has gone by: the boxes are as they were. -/
theorem TS.half {w y wz : World} {X3 X4 : Nat} {u3 u4 : U5} {C : Cont} {vk vw : Value} {us ws : List U5} {kl : List Cont} {XA XB : Nat} {a3 a4 : U5} {d : Cont} (q : Two34 w y X3 X4) (h : TS w y wz X3 X4 u3 u4 C vk vw us ws kl XA XB a3 a4 d) (t c s e : Value) (z : Int) : HBx (setX wz X3 t c s e (.int .i64 z)) XA a3.t a3.c a3.s a3.d (.int .i64 a3.z) ∧ HBx (setX wz X3 t c s e (.int .i64 z)) XB a4.t a4.c a4.s a4.d (.int .i64 a4.z) ∧ HBx (setX wz X3 t c s e (.int .i64 z)) X4 u4.t u4.c u4.s u4.d (.int .i64 u4.z) := by
  have hg := grown_setX wz X3 t c s e (.int .i64 z)
  have := q.l3
  have := h.gA
  have := h.gB
  exact ⟨(hg.block XA h.ba.lt (by simp; omega)).trans h.ba, (hg.block XB h.bb.lt (by simp; omega)).trans h.bb, (hg.block X4 h.inv.b4.lt (by simpa using q.ne.symm)).trans h.inv.b4⟩
theorem TS.put {w y W : World} {X3 X4 : Nat} {u3 u4 a3 a4 : U5} {C d : Cont} {vk vw : Value} {us ws : List U5} {kl : List Cont} {XA XB : Nat} (q : Two34 w y X3 X4) (h : TS w y W X3 X4 u3 u4 C vk vw us ws kl XA XB a3 a4 d) :
    TS w y (setX (setX W X3 a3.t a3.c a3.s a3.d (.int .i64 a3.z)) X4 a4.t a4.c a4.s a4.d (.int .i64 a4.z)) X3 X4 a3 a4 d vk vw us ws kl XA XB a3 a4 d := by
  have hi := h.inv.put q h.pa h.pb h.ci
  obtain ⟨b1, b2, b4⟩ := h.half q a3.t a3.c a3.s a3.d a3.z
  have hg1 := grown_setX W X3 a3.t a3.c a3.s a3.d (.int .i64 a3.z)
  have g1 := G28.box h.inv.b3 hg1
  have q3 := h.pa.g28 g1
  have q4 := h.pb.g28 g1
  obtain ⟨W', hW⟩ : ∃ W', W' = setX W X3 a3.t a3.c a3.s a3.d (.int .i64 a3.z) := ⟨_, rfl⟩
  rw [← hW] at b1 b2 b4 q3 q4 hi ⊢
  clear hW hg1 g1
  have hg := grown_setX W' X4 a4.t a4.c a4.s a4.d (.int .i64 a4.z)
  have g := G28.box b4 hg
  have := q.l4
  have := h.gA
  have := h.gB
  exact ⟨hi, (hg.block XA b1.lt (by simp; omega)).trans b1, (hg.block XB b2.lt (by simp; omega)).trans b2, q3.g28 g, q4.g28 g, h.ci, h.gA, h.gB, h.kA, h.wA⟩
theorem TS.putR {w y W : World} {X3 X4 : Nat} {u3 u4 a3 a4 : U5} {C d : Cont} {vk vw : Value} {us ws : List U5} {kl : List Cont} {XA XB : Nat} (q : Two34 w y X3 X4) (h : TS w y W X3 X4 u3 u4 C vk vw us ws kl XA XB a3 a4 d) :
    TS w y (setX (setX W X4 a4.t a4.c a4.s a4.d (.int .i64 a4.z)) X3 a3.t a3.c a3.s a3.d (.int .i64 a3.z)) X3 X4 a3 a4 d vk vw us ws kl XA XB a3 a4 d := (h.swap.put q.swap).swap
/-- What stands at a step between the two appends. -/
structure K1 (w y wz w2 : World) (X3 X4 : Nat) (vk vk' : Value) (us : List U5) (a3 : U5) (XA XB : Nat) (a3' a4 : U5) : Prop where
  ex : ∃ W1, Below wz.heap.size wz W1 ∧ W1.grownBy w2 vk.ownBlock ∧ (vk'.ownBlock = vk.ownBlock ∨ vk'.ownBlock = some W1.heap.size)
  ok : w2.ownsRow y.heap.size 28 5 vk' (us.length + 1) (cellsU us ++ a3.cells)
end Go.Proofs.Ytkbboepopcebaaa
namespace Go.Proofs.Ytkbboepopcebaaa
open Go.RowKit

def regC (id : Nat) : Code → Option Code
  | .region i ops d => if i = id then some (.region i ops d) else none
  | .seq a b => match regC id a with | some c => some c | none => regC id b
  | .cond _ a b => match regC id a with | some c => some c | none => regC id b
  | .block _ b => regC id b
  | .loop b => regC id b
  | .scope b => regC id b
  | _ => none
/-- A region of ContainerAll. -/
noncomputable def reg11 (k : Nat) : Code := (regC k (Try.f11.body.getD .skip)).getD .skip
set_option maxRecDepth 100000 in
set_option maxHeartbeats 40000000 in
theorem r15 (w5 : World) (X9 m cB : Nat) (AB : Option Addr) (b : List Int) (op : Bool) (d : Cont) (sd x yy : Int) (ha1 : w5.cell? ⟨X9, 1, none⟩ = some (.slice AB m cB)) (ha2 : w5.cell? ⟨X9, 2, none⟩ = some (.bool op))
    (hpr : ∀ W A c, NumsV W .u8 (.slice A m c) b → Calls Try.prog 29 #[.slice A m c, .bool op] W (RdC d sd x yy W)) (how : ∀ W, Below w5.heap.size w5 W → Calls Try.prog 30 #[.slice AB m cB] W (OwnPost b m W))
    {u0 u1 u2 u3 u4 u5 u6 u7 u8 u10 u11 u12 u13 u14 u15 u16 u17 u18 u19 u20 u21 u22 u23 u24 u25 u26 u27 u28 u29 u30 u31 u32 u33 u34 u35 u36 u37 u38 u39 u40 u41 u42 u43 u44 u45 u46 u47 u48 u49 u50 u51 u52 u53 u54 u55 u56 u57 u58 u59 u60 u61 u62 u63 u64 u65 u66 u67 u68 u69 u70 u71 u72 u73 u74 u75 u76 u77 u78 u79 u80 u81 u82 u83 u84 u85 u86 u87 u88 u89 u90 u91 u92 u93 u94 u95 u96 u97 u98 u99 u100 u101 u102 u103 u104 u105 u106 u107 u108 u109 u110 u111 u112 u113 u114 u115 u116 u117 u118 u119 u120 u121 u122 u123 u124 u125 u126 u127 u128 u129 u130 u131 u132 u133 u134 u135 u136 u137 u138 u139 u140 u141 u142 u143 u144 u145 u146 u147 u148 u149 u150 u151 u152 u153 u154 u155 u156 u157 u158 u159 u160 u161 u162 u163 u164 u165 u166 u167 u168 u169 u170 u171 u172 u173 u174 u175 u176 u177 u178 u179 u180 u181 u182 u183 u184 u185 u186 u187 u188 u189 u190 u191 u192 u193 u194 u195 u196 u197 u198 u199 u200 u201 u202 u203 u204 u205 u206 u207 u208 : Value} (Q : Exit → Act → World → Prop)
    (hQ : ∀ X Y A0 n0 c0 A1 n1 c1 A2 n2 c2 A3 n3 c3 wx v53 v54 v55 v56 v57 v58 v59 v60 v61, ST w5 wx (some (X, ⟨.slice A0 n0 c0, .slice A1 n1 c1, .slice A2 n2 c2, .slice A3 n3 c3, sd⟩)) (some (Y, x, yy)) (some (⟨.slice A0 n0 c0, .slice A1 n1 c1, .slice A2 n2 c2, .slice A3 n3 c3, sd⟩, d)) →
      Q .normal ⟨#[u0, u1, u2, u3, u4, u5, u6, u7, u8, .pointer (some ⟨X9, 0, none⟩), .pointer (some ⟨X, 0, none⟩), .pointer (some ⟨Y, 0, none⟩), u12, u13, u14, u15, u16, u17, u18, u19, u20, u21, u22, u23, u24, u25, u26, u27, u28, u29, u30, u31, u32, u33, u34, u35, u36, u37, u38, u39, u40, u41, u42, u43, u44, u45, u46, u47, u48, u49, u50, u51, u52, v53, v54, v55, v56, v57, v58, v59, v60, v61, u62, u63, u64, u65, u66, u67, u68, u69, u70, u71, u72, u73, u74, u75, u76, u77, u78, u79, u80, u81, u82, u83, u84, u85, u86, u87, u88, u89, u90, u91, u92, u93, u94, u95, u96, u97, u98, u99, u100, u101, u102, u103, u104, u105, u106, u107, u108, u109, u110, u111, u112, u113, u114, u115, u116, u117, u118, u119, u120, u121, u122, u123, u124, u125, u126, u127, u128, u129, u130, u131, u132, u133, u134, u135, u136, u137, u138, u139, u140, u141, u142, u143, u144, u145, u146, u147, u148, u149, u150, u151, u152, u153, u154, u155, u156, u157, u158, u159, u160, u161, u162, u163, u164, u165, u166, u167, u168, u169, u170, u171, u172, u173, u174, u175, u176, u177, u178, u179, u180, u181, u182, u183, u184, u185, u186, u187, u188, u189, u190, u191, u192, u193, u194, u195, u196, u197, u198, u199, u200, u201, u202, u203, u204, u205, u206, u207, u208], []⟩ wx) :
    Code.wp Try.prog (reg11 15) Q ⟨#[u0, u1, u2, u3, u4, u5, u6, u7, u8, .pointer (some ⟨X9, 0, none⟩), u10, u11, u12, u13, u14, u15, u16, u17, u18, u19, u20, u21, u22, u23, u24, u25, u26, u27, u28, u29, u30, u31, u32, u33, u34, u35, u36, u37, u38, u39, u40, u41, u42, u43, u44, u45, u46, u47, u48, u49, u50, u51, u52, u53, u54, u55, u56, u57, u58, u59, u60, u61, u62, u63, u64, u65, u66, u67, u68, u69, u70, u71, u72, u73, u74, u75, u76, u77, u78, u79, u80, u81, u82, u83, u84, u85, u86, u87, u88, u89, u90, u91, u92, u93, u94, u95, u96, u97, u98, u99, u100, u101, u102, u103, u104, u105, u106, u107, u108, u109, u110, u111, u112, u113, u114, u115, u116, u117, u118, u119, u120, u121, u122, u123, u124, u125, u126, u127, u128, u129, u130, u131, u132, u133, u134, u135, u136, u137, u138, u139, u140, u141, u142, u143, u144, u145, u146, u147, u148, u149, u150, u151, u152, u153, u154, u155, u156, u157, u158, u159, u160, u161, u162, u163, u164, u165, u166, u167, u168, u169, u170, u171, u172, u173, u174, u175, u176, u177, u178, u179, u180, u181, u182, u183, u184, u185, u186, u187, u188, u189, u190, u191, u192, u193, u194, u195, u196, u197, u198, u199, u200, u201, u202, u203, u204, u205, u206, u207, u208], []⟩ w5 := by
  have HQ := Lib.hid hQ
  have HPR := Lib.hid hpr
  have HOW := Lib.hid how
  have hx9 : X9 < w5.heap.size := World.block_lt_of_cell? _ _ ha1
  have H9 := Lib.hid hx9
  have hn5 : ¬ w5.heap.size = X9 := by omega
  have hn5a : ¬ w5.heap.size + 1 = X9 := by omega
  have hn5b : ¬ X9 = w5.heap.size := by omega
  have hn5c : ¬ X9 = w5.heap.size + 1 := by omega
  have hc9 : ∀ w', Below w5.heap.size w5 w' → w'.cell? ⟨X9, 1, none⟩ = some (.slice AB m cB) ∧ w'.cell? ⟨X9, 2, none⟩ = some (.bool op) := fun W hW => ⟨cell_keep hW ha1, cell_keep hW ha2⟩
  have HC9 := Lib.hid hc9
  clear hQ hpr how hx9 hc9
  conv => arg 2; whnf
  go_region_held3 (fun w' => w'.cell? ⟨X9, 1, none⟩ = some (.slice AB m cB) ∧ w'.cell? ⟨X9, 2, none⟩ = some (.bool op))
    (go_keep)
    ((first
      | (go_at_call 30; (with_reducible refine (HOW.out _ (by with_reducible first | exact (Below.refl _ _).drew | exact (below_step (Below.refl _ _) (below_alloc _ _)).drew | exact (below_step (below_step (Below.refl _ _) (below_alloc _ _)) (below_alloc _ _)).drew)).mono ?_); rintro e wo ⟨Ao, co, rfl, hno, hb⟩; have HBo : Hid (Below w5.heap.size w5 wo) := Lib.hid (below_step (by with_reducible first | exact (Below.refl _ _).drew | exact (below_step (Below.refl _ _) (below_alloc _ _)).drew | exact (below_step (below_step (Below.refl _ _) (below_alloc _ _)) (below_alloc _ _)).drew) hb); (first | (with_reducible have hxx := (hbx_new _ (.slice none 0 0) (.slice none 0 0) (.slice none 0 0) (.slice none 0 0) (.int .i64 0)).below (below_step (Below.refl _ _).drew hb); (try simp only [asz, drew_size] at hxx); have HXo := Lib.hid hxx; clear hxx) | (with_reducible have hxx := (hbx_new _ (.slice none 0 0) (.slice none 0 0) (.slice none 0 0) (.slice none 0 0) (.int .i64 0)).below (below_step (below_step (Below.refl _ _) (below_alloc _ _)).drew hb); (try simp only [asz, drew_size] at hxx); have HXo := Lib.hid hxx; clear hxx) | skip); (first | (with_reducible have hxx := (hbr_new _ 0 0).below (below_step (Below.refl _ _).drew hb); (try simp only [asz, drew_size] at hxx); have HYo := Lib.hid hxx; clear hxx) | (with_reducible have hxx := (hbr_new _ 0 0).below (below_step (below_step (Below.refl _ _) (below_alloc _ _)).drew hb); (try simp only [asz, drew_size] at hxx); have HYo := Lib.hid hxx; clear hxx) | skip); have HNo := Lib.hid hno; have hso := HBo.out.size; have h9o := H9.out; have hqo : ¬ wo.heap.size = X9 := (by omega); have hqoa : ¬ wo.heap.size + 1 = X9 := (by omega); have hqob : ¬ X9 = wo.heap.size := (by omega); have hqoc : ¬ X9 = wo.heap.size + 1 := (by omega); obtain ⟨hco1, hco2⟩ := HC9.out _ HBo.out; clear hso h9o; clear hb hno)
      | (go_at_call 29; (with_reducible refine (HPR.out _ _ _ (HNo.out.mono (by with_reducible first | exact (Below.refl _ _) | exact (below_step (Below.refl _ _) (below_alloc _ _)) | exact (below_step (below_step (Below.refl _ _) (below_alloc _ _)) (below_alloc _ _))))).mono ?_); rintro e wp ⟨hb, A0, n0, c0, A1, n1, c1, A2, n2, c2, A3, n3, c3, rfl, hp⟩; have HBp : Hid (Below w5.heap.size w5 wp) := Lib.hid (below_step (by with_reducible first | exact below_step HBo.out (Below.refl _ _) | exact below_step HBo.out (below_step (Below.refl _ _) (below_alloc _ _)) | exact below_step HBo.out (below_step (below_step (Below.refl _ _) (below_alloc _ _)) (below_alloc _ _))) hb); (first | (with_reducible have hxx := HXo.out.below (below_step (Below.refl _ _) hb); (try simp only [asz, drew_size] at hxx); have HXp := Lib.hid hxx; clear hxx) | (with_reducible have hxx := HXo.out.below (below_step (below_step (Below.refl _ _) (below_alloc _ _)) hb); (try simp only [asz, drew_size] at hxx); have HXp := Lib.hid hxx; clear hxx) | (with_reducible have hxx := (hbx_new _ (.slice none 0 0) (.slice none 0 0) (.slice none 0 0) (.slice none 0 0) (.int .i64 0)).below (below_step (Below.refl _ _) hb); (try simp only [asz, drew_size] at hxx); have HXp := Lib.hid hxx; clear hxx) | (with_reducible have hxx := (hbx_new _ (.slice none 0 0) (.slice none 0 0) (.slice none 0 0) (.slice none 0 0) (.int .i64 0)).below (below_step (below_step (Below.refl _ _) (below_alloc _ _)) hb); (try simp only [asz, drew_size] at hxx); have HXp := Lib.hid hxx; clear hxx) | skip); (first | (with_reducible have hxx := HYo.out.below (below_step (Below.refl _ _) hb); (try simp only [asz, drew_size] at hxx); have HYp := Lib.hid hxx; clear hxx) | (with_reducible have hxx := HYo.out.below (below_step (below_step (Below.refl _ _) (below_alloc _ _)) hb); (try simp only [asz, drew_size] at hxx); have HYp := Lib.hid hxx; clear hxx) | (with_reducible have hxx := (hbr_new _ 0 0).below (below_step (Below.refl _ _) hb); (try simp only [asz, drew_size] at hxx); have HYp := Lib.hid hxx; clear hxx) | (with_reducible have hxx := (hbr_new _ 0 0).below (below_step (below_step (Below.refl _ _) (below_alloc _ _)) hb); (try simp only [asz, drew_size] at hxx); have HYp := Lib.hid hxx; clear hxx) | skip); (first | (have hst := ST.pXY (u := ⟨.slice A0 n0 c0, .slice A1 n1 c1, .slice A2 n2 c2, .slice A3 n3 c3, sd⟩) HBp.out (PContV.baseK hp (by have a1 := HBo.out.size; first | exact Nat.le_refl _ | omega | (simp only [drew_size]; omega) | (simp; omega) | (simp [drew_size]; omega) | (simp [drew_size]))) HXp.out (by have a1 := HBo.out.size; first | exact Nat.le_refl _ | omega | (simp only [drew_size]; omega) | (simp; omega) | (simp [drew_size]; omega) | (simp [drew_size])) HYp.out (by have a1 := HBo.out.size; first | exact Nat.le_refl _ | omega | (simp only [drew_size]; omega) | (simp; omega) | (simp [drew_size]; omega) | (simp [drew_size]))) | (have hst := ST.pX (u := ⟨.slice A0 n0 c0, .slice A1 n1 c1, .slice A2 n2 c2, .slice A3 n3 c3, sd⟩) HBp.out (PContV.baseK hp (by have a1 := HBo.out.size; first | exact Nat.le_refl _ | omega | (simp only [drew_size]; omega) | (simp; omega) | (simp [drew_size]; omega) | (simp [drew_size]))) HXp.out (by have a1 := HBo.out.size; first | exact Nat.le_refl _ | omega | (simp only [drew_size]; omega) | (simp; omega) | (simp [drew_size]; omega) | (simp [drew_size]))) | (have hst := ST.pY (u := ⟨.slice A0 n0 c0, .slice A1 n1 c1, .slice A2 n2 c2, .slice A3 n3 c3, sd⟩) HBp.out (PContV.baseK hp (by have a1 := HBo.out.size; first | exact Nat.le_refl _ | omega | (simp only [drew_size]; omega) | (simp; omega) | (simp [drew_size]; omega) | (simp [drew_size]))) HYp.out (by have a1 := HBo.out.size; first | exact Nat.le_refl _ | omega | (simp only [drew_size]; omega) | (simp; omega) | (simp [drew_size]; omega) | (simp [drew_size]))) | (have hst := ST.p00 (u := ⟨.slice A0 n0 c0, .slice A1 n1 c1, .slice A2 n2 c2, .slice A3 n3 c3, sd⟩) HBp.out (PContV.baseK hp (by have a1 := HBo.out.size; first | exact Nat.le_refl _ | omega | (simp only [drew_size]; omega) | (simp; omega) | (simp [drew_size]; omega) | (simp [drew_size]))))); have HST := Lib.hid hst; clear hst; (first | (have nxy := HBox_ne HXp.out HYp.out; have nyx := Ne.symm nxy) | skip); (first | (obtain ⟨x0, x1, x2, x3, x4, fx⟩ := HXp.out.kx) | skip); (first | (obtain ⟨y0, y1, y2, y3⟩ := HYp.out.cells; have fy := HYp.out.free; have fya := HYp.out.freeA; have nyp := Nat.ne_of_gt HYp.out.lt; have nyq := Nat.ne_of_lt HYp.out.lt; have ya0 := alloc_keep y0; have ya1 := alloc_keep y1; have ya2 := alloc_keep y2; have ya3 := alloc_keep y3) | skip); (first | (have fxa := HXp.out.freeA; have nxp := Nat.ne_of_gt HXp.out.lt; have nxq := Nat.ne_of_lt HXp.out.lt; have xa0 := alloc_keep x0; have xa1 := alloc_keep x1; have xa2 := alloc_keep x2; have xa3 := alloc_keep x3; have xa4 := alloc_keep x4) | skip); have hsp := HBp.out.size; have h9p := H9.out; have hqp : ¬ wp.heap.size = X9 := (by omega); have hqpa : ¬ wp.heap.size + 1 = X9 := (by omega); have hqpb : ¬ X9 = wp.heap.size := (by omega); have hqpc : ¬ X9 = wp.heap.size + 1 := (by omega); obtain ⟨hcp1, hcp2⟩ := HC9.out _ HBp.out; clear hsp h9p; clear hb hp)))
  all_goals (refine HQ.out _ _ A0 n0 c0 A1 n1 c1 A2 n2 c2 A3 n3 c3 _ _ _ _ _ _ _ _ _ _ ?_; (repeat (first | (with_reducible apply ST.setX) | (with_reducible apply ST.setY) | (with_reducible exact HST.out) | (with_reducible apply ST.newX1) | (with_reducible apply ST.newY1) | (with_reducible refine ST.newX ?_ (by simp)) | (with_reducible refine ST.newY ?_ (by simp)) | (with_reducible refine ST.drew ?_))))
end Go.Proofs.Ytkbboepopcebaaa
namespace Go.Proofs.Ytkbboepopcebaaa
open Go.RowKit

set_option maxRecDepth 100000 in
set_option maxHeartbeats 40000000 in
theorem r37 (w5 : World) (X9 X3 m cB : Nat) (AB : Option Addr) (ta ca sa da : Value) (za : Int) (b : List Int) (d : Cont) (sd er : Int) (ha : w5.cell? ⟨X9, 1, none⟩ = some (.slice AB m cB) ∧ w5.cell? ⟨X3, 0, none⟩ = some ta ∧ w5.cell? ⟨X3, 1, none⟩ = some ca ∧ w5.cell? ⟨X3, 2, none⟩ = some sa ∧ w5.cell? ⟨X3, 3, none⟩ = some da ∧ w5.cell? ⟨X3, 4, none⟩ = some (.int .i64 za))
    (hly : ∀ W A c, Below w5.heap.size w5 W → NumsV W .u8 (.slice A m c) b → Calls Try.prog 32 #[.agg #[ta, ca, sa, da, .int .i64 za], .slice A m c] W (LyC d sd er W)) (how : ∀ W, Below w5.heap.size w5 W → Calls Try.prog 30 #[.slice AB m cB] W (OwnPost b m W))
    {u0 u1 u2 u4 u5 u6 u7 u8 u10 u11 u12 u13 u14 u15 u16 u17 u18 u19 u20 u21 u22 u23 u24 u25 u26 u27 u28 u29 u30 u31 u32 u33 u34 u35 u36 u37 u38 u39 u40 u41 u42 u43 u44 u45 u46 u47 u48 u49 u50 u51 u52 u53 u54 u55 u56 u57 u58 u59 u60 u61 u62 u63 u64 u65 u66 u67 u68 u69 u70 u71 u72 u73 u74 u75 u76 u77 u78 u79 u80 u81 u82 u83 u84 u85 u86 u87 u88 u89 u90 u91 u92 u93 u94 u95 u96 u97 u98 u99 u100 u101 u102 u103 u104 u105 u106 u107 u108 u109 u110 u111 u112 u113 u114 u115 u116 u117 u118 u119 u120 u121 u122 u123 u124 u125 u126 u127 u128 u129 u130 u131 u132 u133 u134 u135 u136 u137 u138 u139 u140 u141 u142 u143 u144 u145 u146 u147 u148 u149 u150 u151 u152 u153 u154 u155 u156 u157 u158 u159 u160 u161 u162 u163 u164 u165 u166 u167 u168 u169 u170 u171 u172 u173 u174 u175 u176 u177 u178 u179 u180 u181 u182 u183 u184 u185 u186 u187 u188 u189 u190 u191 u192 u193 u194 u195 u196 u197 u198 u199 u200 u201 u202 u203 u204 u205 u206 u207 u208 : Value} (Q : Exit → Act → World → Prop)
    (hQ : ∀ X A0 n0 c0 A1 n1 c1 A2 n2 c2 A3 n3 c3 wx v146 v147 v148 v149 v150 v151 v152 v153, ST w5 wx (some (X, ⟨.slice A0 n0 c0, .slice A1 n1 c1, .slice A2 n2 c2, .slice A3 n3 c3, sd⟩)) none (some (⟨.slice A0 n0 c0, .slice A1 n1 c1, .slice A2 n2 c2, .slice A3 n3 c3, sd⟩, d)) →
      Q .normal ⟨#[u0, u1, u2, .pointer (some ⟨X3, 0, none⟩), u4, u5, u6, u7, u8, .pointer (some ⟨X9, 0, none⟩), u10, u11, u12, u13, u14, u15, u16, u17, u18, u19, u20, u21, .pointer (some ⟨X, 0, none⟩), .int .i64 er, u24, u25, u26, u27, u28, u29, u30, u31, u32, u33, u34, u35, u36, u37, u38, u39, u40, u41, u42, u43, u44, u45, u46, u47, u48, u49, u50, u51, u52, u53, u54, u55, u56, u57, u58, u59, u60, u61, u62, u63, u64, u65, u66, u67, u68, u69, u70, u71, u72, u73, u74, u75, u76, u77, u78, u79, u80, u81, u82, u83, u84, u85, u86, u87, u88, u89, u90, u91, u92, u93, u94, u95, u96, u97, u98, u99, u100, u101, u102, u103, u104, u105, u106, u107, u108, u109, u110, u111, u112, u113, u114, u115, u116, u117, u118, u119, u120, u121, u122, u123, u124, u125, u126, u127, u128, u129, u130, u131, u132, u133, u134, u135, u136, u137, u138, u139, u140, u141, u142, u143, u144, u145, v146, v147, v148, v149, v150, v151, v152, v153, u154, u155, u156, u157, u158, u159, u160, u161, u162, u163, u164, u165, u166, u167, u168, u169, u170, u171, u172, u173, u174, u175, u176, u177, u178, u179, u180, u181, u182, u183, u184, u185, u186, u187, u188, u189, u190, u191, u192, u193, u194, u195, u196, u197, u198, u199, u200, u201, u202, u203, u204, u205, u206, u207, u208], []⟩ wx) :
    Code.wp Try.prog (reg11 37) Q ⟨#[u0, u1, u2, .pointer (some ⟨X3, 0, none⟩), u4, u5, u6, u7, u8, .pointer (some ⟨X9, 0, none⟩), u10, u11, u12, u13, u14, u15, u16, u17, u18, u19, u20, u21, u22, u23, u24, u25, u26, u27, u28, u29, u30, u31, u32, u33, u34, u35, u36, u37, u38, u39, u40, u41, u42, u43, u44, u45, u46, u47, u48, u49, u50, u51, u52, u53, u54, u55, u56, u57, u58, u59, u60, u61, u62, u63, u64, u65, u66, u67, u68, u69, u70, u71, u72, u73, u74, u75, u76, u77, u78, u79, u80, u81, u82, u83, u84, u85, u86, u87, u88, u89, u90, u91, u92, u93, u94, u95, u96, u97, u98, u99, u100, u101, u102, u103, u104, u105, u106, u107, u108, u109, u110, u111, u112, u113, u114, u115, u116, u117, u118, u119, u120, u121, u122, u123, u124, u125, u126, u127, u128, u129, u130, u131, u132, u133, u134, u135, u136, u137, u138, u139, u140, u141, u142, u143, u144, u145, u146, u147, u148, u149, u150, u151, u152, u153, u154, u155, u156, u157, u158, u159, u160, u161, u162, u163, u164, u165, u166, u167, u168, u169, u170, u171, u172, u173, u174, u175, u176, u177, u178, u179, u180, u181, u182, u183, u184, u185, u186, u187, u188, u189, u190, u191, u192, u193, u194, u195, u196, u197, u198, u199, u200, u201, u202, u203, u204, u205, u206, u207, u208], []⟩ w5 := by
  have HQ := Lib.hid hQ
  have HLY := Lib.hid hly
  have HOW := Lib.hid how
  obtain ⟨ha1, hb0, hb1, hb2, hb3, hb4⟩ := ha
  have hx9 : X9 < w5.heap.size ∧ X3 < w5.heap.size := ⟨World.block_lt_of_cell? _ _ ha1, World.block_lt_of_cell? _ _ hb0⟩
  have H9 := Lib.hid hx9
  have hn5 : ¬ w5.heap.size = X9 := by omega
  have hn5b : ¬ X9 = w5.heap.size := by omega
  have hn6 : ¬ w5.heap.size = X3 := by omega
  have hn6b : ¬ X3 = w5.heap.size := by omega
  have hc9 : ∀ w', Below w5.heap.size w5 w' → w'.cell? ⟨X9, 1, none⟩ = some (.slice AB m cB) ∧ w'.cell? ⟨X3, 0, none⟩ = some ta ∧ w'.cell? ⟨X3, 1, none⟩ = some ca ∧ w'.cell? ⟨X3, 2, none⟩ = some sa ∧ w'.cell? ⟨X3, 3, none⟩ = some da ∧ w'.cell? ⟨X3, 4, none⟩ = some (.int .i64 za) := fun W hW => ⟨cell_keep hW ha1, cell_keep hW hb0, cell_keep hW hb1, cell_keep hW hb2, cell_keep hW hb3, cell_keep hW hb4⟩
  have HC9 := Lib.hid hc9
  clear hQ hly how hx9 hc9
  conv => arg 2; whnf
  go_region_held3 (fun w' => w'.cell? ⟨X9, 1, none⟩ = some (.slice AB m cB) ∧ w'.cell? ⟨X3, 0, none⟩ = some ta ∧ w'.cell? ⟨X3, 1, none⟩ = some ca ∧ w'.cell? ⟨X3, 2, none⟩ = some sa ∧ w'.cell? ⟨X3, 3, none⟩ = some da ∧ w'.cell? ⟨X3, 4, none⟩ = some (.int .i64 za))
    (go_keep)
    ((first
      | (go_at_call 30; (with_reducible refine (HOW.out _ (by with_reducible first | exact (Below.refl _ _).drew | exact (below_step (Below.refl _ _) (below_alloc _ _)).drew)).mono ?_); rintro e wo ⟨Ao, co, rfl, hno, hb⟩; have HBo : Hid (Below w5.heap.size w5 wo) := Lib.hid (below_step (by with_reducible first | exact (Below.refl _ _).drew | exact (below_step (Below.refl _ _) (below_alloc _ _)).drew) hb); (first | (with_reducible have hxx := (hbx_new _ (.slice none 0 0) (.slice none 0 0) (.slice none 0 0) (.slice none 0 0) (.int .i64 0)).below (below_step (Below.refl _ _).drew hb); (try simp only [asz, drew_size] at hxx); have HXo := Lib.hid hxx; clear hxx) | skip); have HNo := Lib.hid hno; have hso := HBo.out.size; have h9o := H9.out; have hqo : ¬ wo.heap.size = X9 := (by omega); have hqob : ¬ X9 = wo.heap.size := (by omega); have hro : ¬ wo.heap.size = X3 := (by omega); have hrob : ¬ X3 = wo.heap.size := (by omega); obtain ⟨hco1, hco2, hco3, hco4, hco5, hco6⟩ := HC9.out _ HBo.out; clear hso h9o; clear hb hno)
      | (go_at_call 32; (with_reducible refine (HLY.out _ _ _ (by with_reducible first | exact below_step HBo.out (Below.refl _ _) | exact below_step HBo.out (below_step (Below.refl _ _) (below_alloc _ _))) (HNo.out.mono (by with_reducible first | exact (Below.refl _ _) | exact (below_step (Below.refl _ _) (below_alloc _ _))))).mono ?_); rintro e wp ⟨hb, A0, n0, c0, A1, n1, c1, A2, n2, c2, A3, n3, c3, rfl, hp⟩; have HBp : Hid (Below w5.heap.size w5 wp) := Lib.hid (below_step (by with_reducible first | exact below_step HBo.out (Below.refl _ _) | exact below_step HBo.out (below_step (Below.refl _ _) (below_alloc _ _))) hb); (first | (with_reducible have hxx := HXo.out.below hb; have HXp := Lib.hid hxx; clear hxx) | (with_reducible have hxx := (hbx_new _ (.slice none 0 0) (.slice none 0 0) (.slice none 0 0) (.slice none 0 0) (.int .i64 0)).below (below_step (Below.refl _ _) hb); (try simp only [asz, drew_size] at hxx); have HXp := Lib.hid hxx; clear hxx) | skip); (first | (have hst := ST.pX (u := ⟨.slice A0 n0 c0, .slice A1 n1 c1, .slice A2 n2 c2, .slice A3 n3 c3, sd⟩) HBp.out (PContV.baseK hp (by have a1 := HBo.out.size; first | exact Nat.le_refl _ | omega | (simp only [drew_size]; omega) | (simp; omega) | (simp [drew_size]; omega) | (simp [drew_size]))) HXp.out (by have a1 := HBo.out.size; first | exact Nat.le_refl _ | omega | (simp only [drew_size]; omega) | (simp; omega) | (simp [drew_size]; omega) | (simp [drew_size]))) | (have hst := ST.p00 (u := ⟨.slice A0 n0 c0, .slice A1 n1 c1, .slice A2 n2 c2, .slice A3 n3 c3, sd⟩) HBp.out (PContV.baseK hp (by have a1 := HBo.out.size; first | exact Nat.le_refl _ | omega | (simp only [drew_size]; omega) | (simp; omega) | (simp [drew_size]; omega) | (simp [drew_size]))))); have HST := Lib.hid hst; clear hst; (first | (obtain ⟨x0, x1, x2, x3, x4, fx⟩ := HXp.out.kx) | skip); have hsp := HBp.out.size; have h9p := H9.out; have hqp : ¬ wp.heap.size = X9 := (by omega); have hqpb : ¬ X9 = wp.heap.size := (by omega); have hrp : ¬ wp.heap.size = X3 := (by omega); have hrpb : ¬ X3 = wp.heap.size := (by omega); obtain ⟨hcp1, hcp2, hcp3, hcp4, hcp5, hcp6⟩ := HC9.out _ HBp.out; clear hsp h9p; clear hb hp)))
  all_goals (refine HQ.out _ A0 n0 c0 A1 n1 c1 A2 n2 c2 A3 n3 c3 _ _ _ _ _ _ _ _ _ ?_; (repeat (first | (with_reducible apply ST.setX) | (with_reducible exact HST.out) | (with_reducible apply ST.newX1) | (with_reducible refine ST.newX ?_ (by simp)) | (with_reducible refine ST.drew ?_))))
end Go.Proofs.Ytkbboepopcebaaa
namespace Go.Proofs.Ytkbboepopcebaaa
open Go.RowKit

theorem TS.drew {w y wz : World} {X3 X4 : Nat} {u3 u4 : U5} {C : Cont} {vk vw : Value} {us ws : List U5} {kl : List Cont} {XA XB : Nat} {a3 a4 : U5} {d : Cont} (h : TS w y wz X3 X4 u3 u4 C vk vw us ws kl XA XB a3 a4 d) : TS w y wz.drew X3 X4 u3 u4 C vk vw us ws kl XA XB a3 a4 d := h.mono (Below.refl _ _).drew
theorem AInv.drew {w y wr : World} {X3 X4 : Nat} {u3 u4 : U5} {C : Cont} {vk vw : Value} {us ws : List U5} {kl : List Cont} (h : AInv w y wr X3 X4 u3 u4 C vk vw us ws kl) : AInv w y wr.drew X3 X4 u3 u4 C vk vw us ws kl := h.mono (Below.refl _ _).drew
set_option maxRecDepth 100000 in
set_option maxHeartbeats 40000000 in
theorem r20 (w y wz : World) (X3 X4 XA XB : Nat) (u3_ u4_ : U5) (C d : Cont) (vk vw : Value) (us ws : List U5) (kl : List Cont) (A0 A1 A2 A3 B0 B1 B2 B3 : Option Addr) (n0 n1 n2 n3 c0 c1 c2 c3 m0 m1 m2 m3 e0 e1 e2 e3 : Nat) (za zb : Int) (q : Two34 w y X3 X4) (h : TS w y wz X3 X4 u3_ u4_ C vk vw us ws kl XA XB ⟨.slice A0 n0 c0, .slice A1 n1 c1, .slice A2 n2 c2, .slice A3 n3 c3, za⟩ ⟨.slice B0 m0 e0, .slice B1 m1 e1, .slice B2 m2 e2, .slice B3 m3 e3, zb⟩ d)
    {u0 u1 u2 u5 u6 u7 u8 u9 u11 u13 u14 u15 u16 u17 u18 u19 u20 u21 u22 u23 u24 u25 u26 u27 u28 u29 u30 u31 u32 u33 u34 u35 u36 u37 u38 u39 u40 u41 u42 u43 u44 u45 u46 u47 u48 u49 u50 u51 u52 u53 u54 u55 u56 u57 u58 u59 u60 u61 u62 u63 u64 u65 u66 u67 u68 u69 u70 u71 u72 u73 u74 u75 u76 u77 u78 u79 u80 u81 u82 u83 u84 u85 u86 u87 u88 u89 u90 u91 u92 u93 u94 u95 u96 u97 u98 u99 u100 u101 u102 u103 u104 u105 u106 u107 u108 u109 u110 u111 u112 u113 u114 u115 u116 u117 u118 u119 u120 u121 u122 u123 u124 u125 u126 u127 u128 u129 u130 u131 u132 u133 u134 u135 u136 u137 u138 u139 u140 u141 u142 u143 u144 u145 u146 u147 u148 u149 u150 u151 u152 u153 u154 u155 u156 u157 u158 u159 u160 u161 u162 u163 u164 u165 u166 u167 u168 u169 u170 u171 u172 u173 u174 u175 u176 u177 u178 u179 u180 u181 u182 u183 u184 u185 u186 u187 u188 u189 u190 u191 u192 u193 u194 u195 u196 u197 u198 u199 u200 u201 u202 u203 u204 u205 u206 u207 u208 : Value} (Q : Exit → Act → World → Prop)
    (hQ : ∀ wx v1 v2, TS w y wx X3 X4 ⟨.slice A0 n0 c0, .slice A1 n1 c1, .slice A2 n2 c2, .slice A3 n3 c3, za⟩ ⟨.slice B0 m0 e0, .slice B1 m1 e1, .slice B2 m2 e2, .slice B3 m3 e3, zb⟩ d vk vw us ws kl XA XB ⟨.slice A0 n0 c0, .slice A1 n1 c1, .slice A2 n2 c2, .slice A3 n3 c3, za⟩ ⟨.slice B0 m0 e0, .slice B1 m1 e1, .slice B2 m2 e2, .slice B3 m3 e3, zb⟩ d →
      Q .normal ⟨#[u0, u1, u2, .pointer (some ⟨X3, 0, none⟩), .pointer (some ⟨X4, 0, none⟩), u5, u6, u7, u8, u9, .pointer (some ⟨XA, 0, none⟩), u11, .pointer (some ⟨XB, 0, none⟩), u13, u14, u15, u16, u17, u18, u19, u20, u21, u22, u23, u24, u25, u26, u27, u28, u29, u30, u31, u32, u33, u34, u35, u36, u37, u38, u39, u40, u41, u42, u43, u44, u45, u46, u47, u48, u49, u50, u51, u52, u53, u54, u55, u56, u57, u58, u59, u60, u61, u62, u63, u64, u65, u66, u67, u68, u69, u70, u71, u72, u73, u74, u75, u76, u77, u78, u79, u80, u81, u82, v1, v2, u85, u86, u87, u88, u89, u90, u91, u92, u93, u94, u95, u96, u97, u98, u99, u100, u101, u102, u103, u104, u105, u106, u107, u108, u109, u110, u111, u112, u113, u114, u115, u116, u117, u118, u119, u120, u121, u122, u123, u124, u125, u126, u127, u128, u129, u130, u131, u132, u133, u134, u135, u136, u137, u138, u139, u140, u141, u142, u143, u144, u145, u146, u147, u148, u149, u150, u151, u152, u153, u154, u155, u156, u157, u158, u159, u160, u161, u162, u163, u164, u165, u166, u167, u168, u169, u170, u171, u172, u173, u174, u175, u176, u177, u178, u179, u180, u181, u182, u183, u184, u185, u186, u187, u188, u189, u190, u191, u192, u193, u194, u195, u196, u197, u198, u199, u200, u201, u202, u203, u204, u205, u206, u207, u208], []⟩ wx) :
    Code.wp Try.prog (reg11 20) Q ⟨#[u0, u1, u2, .pointer (some ⟨X3, 0, none⟩), .pointer (some ⟨X4, 0, none⟩), u5, u6, u7, u8, u9, .pointer (some ⟨XA, 0, none⟩), u11, .pointer (some ⟨XB, 0, none⟩), u13, u14, u15, u16, u17, u18, u19, u20, u21, u22, u23, u24, u25, u26, u27, u28, u29, u30, u31, u32, u33, u34, u35, u36, u37, u38, u39, u40, u41, u42, u43, u44, u45, u46, u47, u48, u49, u50, u51, u52, u53, u54, u55, u56, u57, u58, u59, u60, u61, u62, u63, u64, u65, u66, u67, u68, u69, u70, u71, u72, u73, u74, u75, u76, u77, u78, u79, u80, u81, u82, u83, u84, u85, u86, u87, u88, u89, u90, u91, u92, u93, u94, u95, u96, u97, u98, u99, u100, u101, u102, u103, u104, u105, u106, u107, u108, u109, u110, u111, u112, u113, u114, u115, u116, u117, u118, u119, u120, u121, u122, u123, u124, u125, u126, u127, u128, u129, u130, u131, u132, u133, u134, u135, u136, u137, u138, u139, u140, u141, u142, u143, u144, u145, u146, u147, u148, u149, u150, u151, u152, u153, u154, u155, u156, u157, u158, u159, u160, u161, u162, u163, u164, u165, u166, u167, u168, u169, u170, u171, u172, u173, u174, u175, u176, u177, u178, u179, u180, u181, u182, u183, u184, u185, u186, u187, u188, u189, u190, u191, u192, u193, u194, u195, u196, u197, u198, u199, u200, u201, u202, u203, u204, u205, u206, u207, u208], []⟩ wz := by
  have HQ := Lib.hid hQ
  have HT := Lib.hid (h.mono (Below.refl _ _).drew)
  have HT0 := Lib.hid h
  have hHQ := Lib.hid q
  obtain ⟨p0, p1, p2, p3, p4, fe⟩ := h.inv.b3.kx
  obtain ⟨g0, g1, g2, g3, g4, fg⟩ := h.inv.b4.kx
  obtain ⟨k0, k1, k2, k3, k4, fa⟩ := h.ba.kx
  obtain ⟨l0, l1, l2, l3, l4, fb⟩ := h.bb.kx
  simp only at k0 k1 k2 k3 k4 l0 l1 l2 l3 l4
  have i1 : ¬ X3 = X4 := q.ne
  have i2 : ¬ X4 = X3 := q.ne.symm
  have hl := q.l3
  have hl4 := q.l4
  have hA := h.gA
  have hB := h.gB
  have i3 : ¬ X3 = XA := by omega
  have i4 : ¬ X3 = XB := by omega
  have i5 : ¬ X4 = XA := by omega
  have i6 : ¬ X4 = XB := by omega
  have i7 : ¬ XA = X3 := by omega
  have i8 : ¬ XB = X3 := by omega
  have i9 : ¬ XA = X4 := by omega
  have i10 : ¬ XB = X4 := by omega
  clear hQ q h hl hl4 hA hB
  conv => arg 2; whnf
  go_region_held3 (fun w' => w'.cell? ⟨XA, 0, none⟩ = some (.slice A0 n0 c0) ∧ w'.cell? ⟨XA, 1, none⟩ = some (.slice A1 n1 c1) ∧ w'.cell? ⟨XA, 2, none⟩ = some (.slice A2 n2 c2) ∧ w'.cell? ⟨XA, 3, none⟩ = some (.slice A3 n3 c3) ∧ w'.cell? ⟨XA, 4, none⟩ = some (.int .i64 za) ∧ w'.cell? ⟨XB, 0, none⟩ = some (.slice B0 m0 e0) ∧ w'.cell? ⟨XB, 1, none⟩ = some (.slice B1 m1 e1) ∧ w'.cell? ⟨XB, 2, none⟩ = some (.slice B2 m2 e2) ∧ w'.cell? ⟨XB, 3, none⟩ = some (.slice B3 m3 e3) ∧ w'.cell? ⟨XB, 4, none⟩ = some (.int .i64 zb)) (go_keep) (fail)
  all_goals (exact HQ.out _ _ _ (HT0.out.put hHQ.out).drew)
set_option maxRecDepth 100000 in
set_option maxHeartbeats 40000000 in
theorem r42 (w y wz : World) (X3 X4 XA XB : Nat) (u3_ u4_ : U5) (C d : Cont) (vk vw : Value) (us ws : List U5) (kl : List Cont) (A0 A1 A2 A3 B0 B1 B2 B3 : Option Addr) (n0 n1 n2 n3 c0 c1 c2 c3 m0 m1 m2 m3 e0 e1 e2 e3 : Nat) (za zb : Int) (q : Two34 w y X3 X4) (h : TS w y wz X3 X4 u3_ u4_ C vk vw us ws kl XA XB ⟨.slice A0 n0 c0, .slice A1 n1 c1, .slice A2 n2 c2, .slice A3 n3 c3, za⟩ ⟨.slice B0 m0 e0, .slice B1 m1 e1, .slice B2 m2 e2, .slice B3 m3 e3, zb⟩ d)
    {u0 u1 u2 u5 u6 u7 u8 u9 u10 u11 u12 u13 u14 u15 u16 u17 u18 u19 u20 u21 u23 u25 u26 u27 u28 u29 u30 u31 u32 u33 u34 u35 u36 u37 u38 u39 u40 u41 u42 u43 u44 u45 u46 u47 u48 u49 u50 u51 u52 u53 u54 u55 u56 u57 u58 u59 u60 u61 u62 u63 u64 u65 u66 u67 u68 u69 u70 u71 u72 u73 u74 u75 u76 u77 u78 u79 u80 u81 u82 u83 u84 u85 u86 u87 u88 u89 u90 u91 u92 u93 u94 u95 u96 u97 u98 u99 u100 u101 u102 u103 u104 u105 u106 u107 u108 u109 u110 u111 u112 u113 u114 u115 u116 u117 u118 u119 u120 u121 u122 u123 u124 u125 u126 u127 u128 u129 u130 u131 u132 u133 u134 u135 u136 u137 u138 u139 u140 u141 u142 u143 u144 u145 u146 u147 u148 u149 u150 u151 u152 u153 u154 u155 u156 u157 u158 u159 u160 u161 u162 u163 u164 u165 u166 u167 u168 u169 u170 u171 u172 u173 u174 u175 u176 u177 u178 u179 u180 u181 u182 u183 u184 u185 u186 u187 u188 u189 u190 u191 u192 u193 u194 u195 u196 u197 u198 u199 u200 u201 u202 u203 u204 u205 u206 u207 u208 : Value} (Q : Exit → Act → World → Prop)
    (hQ : ∀ wx v1 v2, TS w y wx X3 X4 ⟨.slice A0 n0 c0, .slice A1 n1 c1, .slice A2 n2 c2, .slice A3 n3 c3, za⟩ ⟨.slice B0 m0 e0, .slice B1 m1 e1, .slice B2 m2 e2, .slice B3 m3 e3, zb⟩ d vk vw us ws kl XA XB ⟨.slice A0 n0 c0, .slice A1 n1 c1, .slice A2 n2 c2, .slice A3 n3 c3, za⟩ ⟨.slice B0 m0 e0, .slice B1 m1 e1, .slice B2 m2 e2, .slice B3 m3 e3, zb⟩ d →
      Q .normal ⟨#[u0, u1, u2, .pointer (some ⟨X3, 0, none⟩), .pointer (some ⟨X4, 0, none⟩), u5, u6, u7, u8, u9, u10, u11, u12, u13, u14, u15, u16, u17, u18, u19, u20, u21, .pointer (some ⟨XA, 0, none⟩), u23, .pointer (some ⟨XB, 0, none⟩), u25, u26, u27, u28, u29, u30, u31, u32, u33, u34, u35, u36, u37, u38, u39, u40, u41, u42, u43, u44, u45, u46, u47, u48, u49, u50, u51, u52, u53, u54, u55, u56, u57, u58, u59, u60, u61, u62, u63, u64, u65, u66, u67, u68, u69, u70, u71, u72, u73, u74, u75, u76, u77, u78, u79, u80, u81, u82, u83, u84, u85, u86, u87, u88, u89, u90, u91, u92, u93, u94, u95, u96, u97, u98, u99, u100, u101, u102, u103, u104, u105, u106, u107, u108, u109, u110, u111, u112, u113, u114, u115, u116, u117, u118, u119, u120, u121, u122, u123, u124, u125, u126, u127, u128, u129, u130, u131, u132, u133, u134, u135, u136, u137, u138, u139, u140, u141, u142, u143, u144, u145, u146, u147, u148, u149, u150, u151, u152, u153, u154, u155, u156, u157, u158, u159, u160, u161, u162, u163, u164, u165, u166, u167, u168, u169, u170, u171, u172, u173, u174, u175, v1, v2, u178, u179, u180, u181, u182, u183, u184, u185, u186, u187, u188, u189, u190, u191, u192, u193, u194, u195, u196, u197, u198, u199, u200, u201, u202, u203, u204, u205, u206, u207, u208], []⟩ wx) :
    Code.wp Try.prog (reg11 42) Q ⟨#[u0, u1, u2, .pointer (some ⟨X3, 0, none⟩), .pointer (some ⟨X4, 0, none⟩), u5, u6, u7, u8, u9, u10, u11, u12, u13, u14, u15, u16, u17, u18, u19, u20, u21, .pointer (some ⟨XA, 0, none⟩), u23, .pointer (some ⟨XB, 0, none⟩), u25, u26, u27, u28, u29, u30, u31, u32, u33, u34, u35, u36, u37, u38, u39, u40, u41, u42, u43, u44, u45, u46, u47, u48, u49, u50, u51, u52, u53, u54, u55, u56, u57, u58, u59, u60, u61, u62, u63, u64, u65, u66, u67, u68, u69, u70, u71, u72, u73, u74, u75, u76, u77, u78, u79, u80, u81, u82, u83, u84, u85, u86, u87, u88, u89, u90, u91, u92, u93, u94, u95, u96, u97, u98, u99, u100, u101, u102, u103, u104, u105, u106, u107, u108, u109, u110, u111, u112, u113, u114, u115, u116, u117, u118, u119, u120, u121, u122, u123, u124, u125, u126, u127, u128, u129, u130, u131, u132, u133, u134, u135, u136, u137, u138, u139, u140, u141, u142, u143, u144, u145, u146, u147, u148, u149, u150, u151, u152, u153, u154, u155, u156, u157, u158, u159, u160, u161, u162, u163, u164, u165, u166, u167, u168, u169, u170, u171, u172, u173, u174, u175, u176, u177, u178, u179, u180, u181, u182, u183, u184, u185, u186, u187, u188, u189, u190, u191, u192, u193, u194, u195, u196, u197, u198, u199, u200, u201, u202, u203, u204, u205, u206, u207, u208], []⟩ wz := by
  have HQ := Lib.hid hQ
  have HT := Lib.hid (h.mono (Below.refl _ _).drew)
  have HT0 := Lib.hid h
  have hHQ := Lib.hid q
  obtain ⟨p0, p1, p2, p3, p4, fe⟩ := h.inv.b3.kx
  obtain ⟨g0, g1, g2, g3, g4, fg⟩ := h.inv.b4.kx
  obtain ⟨k0, k1, k2, k3, k4, fa⟩ := h.ba.kx
  obtain ⟨l0, l1, l2, l3, l4, fb⟩ := h.bb.kx
  simp only at k0 k1 k2 k3 k4 l0 l1 l2 l3 l4
  have i1 : ¬ X3 = X4 := q.ne
  have i2 : ¬ X4 = X3 := q.ne.symm
  have hl := q.l3
  have hl4 := q.l4
  have hA := h.gA
  have hB := h.gB
  have i3 : ¬ X3 = XA := by omega
  have i4 : ¬ X3 = XB := by omega
  have i5 : ¬ X4 = XA := by omega
  have i6 : ¬ X4 = XB := by omega
  have i7 : ¬ XA = X3 := by omega
  have i8 : ¬ XB = X3 := by omega
  have i9 : ¬ XA = X4 := by omega
  have i10 : ¬ XB = X4 := by omega
  clear hQ q h hl hl4 hA hB
  conv => arg 2; whnf
  go_region_held3 (fun w' => w'.cell? ⟨XA, 0, none⟩ = some (.slice A0 n0 c0) ∧ w'.cell? ⟨XA, 1, none⟩ = some (.slice A1 n1 c1) ∧ w'.cell? ⟨XA, 2, none⟩ = some (.slice A2 n2 c2) ∧ w'.cell? ⟨XA, 3, none⟩ = some (.slice A3 n3 c3) ∧ w'.cell? ⟨XA, 4, none⟩ = some (.int .i64 za) ∧ w'.cell? ⟨XB, 0, none⟩ = some (.slice B0 m0 e0) ∧ w'.cell? ⟨XB, 1, none⟩ = some (.slice B1 m1 e1) ∧ w'.cell? ⟨XB, 2, none⟩ = some (.slice B2 m2 e2) ∧ w'.cell? ⟨XB, 3, none⟩ = some (.slice B3 m3 e3) ∧ w'.cell? ⟨XB, 4, none⟩ = some (.int .i64 zb)) (go_keep) (fail)
  all_goals (exact HQ.out _ _ _ (HT0.out.put hHQ.out).drew)
/-- One append has gone by. -/
structure Fst (w y wz w2 : World) (X3 X4 : Nat) (vk vk' vw : Value) (us ws : List U5) (XA XB : Nat) (a3 a4 : U5) : Prop where
  ex : ∃ W1, Below wz.heap.size wz W1 ∧ W1.grownBy w2 vk.ownBlock ∧ (vk'.ownBlock = vk.ownBlock ∨ vk'.ownBlock = some W1.heap.size)
  ok : w2.ownsRow y.heap.size 28 5 vk' (us.length + 1) (cellsU us ++ a3.cells)
  row : w2.ownsRow y.heap.size 28 5 vw ws.length (cellsU ws)
  ba : HBx w2 XA a3.t a3.c a3.s a3.d (.int .i64 a3.z)
  bb : HBx w2 XB a4.t a4.c a4.s a4.d (.int .i64 a4.z)
theorem fst_mk {w y wz W1 w2 : World} {X3 X4 : Nat} {u3 u4 : U5} {C : Cont} {vk vw vk' : Value} {us ws : List U5} {kl : List Cont} {XA XB : Nat} {a3 a4 : U5} {d : Cont} (h : TS w y wz X3 X4 u3 u4 C vk vw us ws kl XA XB a3 a4 d) (hb : Below wz.heap.size wz W1) (hg : W1.grownBy w2 vk.ownBlock) (ok : w2.ownsRow y.heap.size 28 5 vk' (us.length + 1) (cellsU us ++ a3.cells)) (hat : vk'.ownBlock = vk.ownBlock ∨ vk'.ownBlock = some W1.heap.size) : Fst w y wz w2 X3 X4 vk vk' vw us ws XA XB a3 a4 := by
  have h1 := h.mono hb
  exact ⟨⟨W1, hb, hg, hat⟩, ok, own_other h1.inv.kw.row hg (or_ne fun X e e2 => h.inv.ap X e2 e), (hg.block XA h1.ba.lt (fun e => by have := (h.kA XA e.symm).1; omega)).trans h1.ba, (hg.block XB h1.bb.lt (fun e => by have := (h.kA XB e.symm).2; omega)).trans h1.bb⟩
theorem fst_end {w y wz w2 W2 w3 : World} {X3 X4 : Nat} {u3 u4 : U5} {C : Cont} {vk vw vk' vw' : Value} {us ws : List U5} {kl : List Cont} {XA XB : Nat} {a3 a4 : U5} {d : Cont} (q : Two34 w y X3 X4) (h : TS w y wz X3 X4 u3 u4 C vk vw us ws kl XA XB a3 a4 d) (hl : kl.length < 50) (f : Fst w y wz w2 X3 X4 vk vk' vw us ws XA XB a3 a4) (hb2 : Below w2.heap.size w2 W2) (hg : W2.grownBy w3 vw.ownBlock) (ow : w3.ownsRow y.heap.size 28 5 vw' (ws.length + 1) (cellsU ws ++ a4.cells)) (hat : vw'.ownBlock = vw.ownBlock ∨ vw'.ownBlock = some W2.heap.size) :
    AInv w y w3 X3 X4 u3 u4 C vk' vw' (us ++ [a3]) (ws ++ [a4]) (kl ++ [d]) := by
  obtain ⟨W1, hb1, hg1, hat1⟩ := f.ex
  exact h.inv.keep q h.pa h.pb h.ci.fits hl hb1 hg1 f.ok hat1 hb2 hg ow hat
theorem blk_at {w0 W : World} {g : Nat} {t c s d : Value} {z : Int} (hg : g = w0.heap.size) (hb : Below (w0.alloc (.cells #[t, c, s, d, .int .i64 z] 28)).heap.size (w0.alloc (.cells #[t, c, s, d, .int .i64 z] 28)) W) : HBx W g t c s d (.int .i64 z) := by
  subst hg
  exact (hbx_new _ _ _ _ _ _).below hb
theorem carry_blk {wz W1 w2 : World} {r : Option Nat} {g : Nat} {t c s d : Value} {z : Int} (hg : W1.grownBy w2 r) (hr : ∀ X, r = some X → X < wz.heap.size) (h : HBx W1 g t c s d (.int .i64 z)) (hge : wz.heap.size ≤ g) : HBx w2 g t c s d (.int .i64 z) :=
  (hg.block g h.lt (fun e => by have := hr g e.symm; omega)).trans h

theorem fst_far {w y wz w2 W2 w3 : World} {X3 X4 : Nat} {u3 u4 : U5} {C : Cont} {vk vw vk' : Value} {us ws : List U5} {kl : List Cont} {XA XB : Nat} {a3 a4 : U5} {d : Cont} (h : TS w y wz X3 X4 u3 u4 C vk vw us ws kl XA XB a3 a4 d) (f : Fst w y wz w2 X3 X4 vk vk' vw us ws XA XB a3 a4) (hb2 : Below w2.heap.size w2 W2) (hg : W2.grownBy w3 vw.ownBlock) : HBx w3 XA a3.t a3.c a3.s a3.d (.int .i64 a3.z) ∧ HBx w3 XB a4.t a4.c a4.s a4.d (.int .i64 a4.z) := by
  have h1 := f.ba.below hb2
  have h2 := f.bb.below hb2
  exact ⟨(hg.block XA h1.lt (fun e => by have := (h.wA XA e.symm).1; omega)).trans h1, (hg.block XB h2.lt (fun e => by have := (h.wA XB e.symm).2; omega)).trans h2⟩
set_option maxRecDepth 100000 in
set_option maxHeartbeats 40000000 in
theorem r22 (w y wz : World) (X3 X4 XA XB : Nat) (u3_ u4_ : U5) (C d : Cont) (AK AW : Option Addr) (N ck cw : Nat) (us ws : List U5) (kl : List Cont) (A0 A1 A2 A3 B0 B1 B2 B3 : Option Addr) (n0 n1 n2 n3 c0 c1 c2 c3 m0 m1 m2 m3 e0 e1 e2 e3 : Nat) (za zb : Int) (q : Two34 w y X3 X4) (h : TS w y wz X3 X4 u3_ u4_ C (.slice AK N ck) (.slice AW N cw) us ws kl XA XB ⟨.slice A0 n0 c0, .slice A1 n1 c1, .slice A2 n2 c2, .slice A3 n3 c3, za⟩ ⟨.slice B0 m0 e0, .slice B1 m1 e1, .slice B2 m2 e2, .slice B3 m3 e3, zb⟩ d) (hun : us.length = N) (hwn : ws.length = N) (hl : N < 50)
    {u0 u1 u2 u3 u4 u7 u8 u9 u11 u13 u14 u15 u16 u17 u18 u19 u20 u21 u22 u23 u24 u25 u26 u27 u28 u29 u30 u31 u32 u33 u34 u35 u36 u37 u38 u39 u40 u41 u42 u43 u44 u45 u46 u47 u48 u49 u50 u51 u52 u53 u54 u55 u56 u57 u58 u59 u60 u61 u62 u63 u64 u65 u66 u67 u68 u69 u70 u71 u72 u73 u74 u75 u76 u77 u78 u79 u80 u81 u82 u83 u84 u85 u86 u87 u88 u89 u90 u91 u92 u93 u94 u95 u96 u97 u98 u99 u100 u101 u102 u103 u104 u105 u106 u107 u108 u109 u110 u111 u112 u113 u114 u115 u116 u117 u118 u119 u120 u121 u122 u123 u124 u125 u126 u127 u128 u129 u130 u131 u132 u133 u134 u135 u136 u137 u138 u139 u140 u141 u142 u143 u144 u145 u146 u147 u148 u149 u150 u151 u152 u153 u154 u155 u156 u157 u158 u159 u160 u161 u162 u163 u164 u165 u166 u167 u168 u169 u170 u171 u172 u173 u174 u175 u176 u177 u178 u179 u180 u181 u182 u183 u184 u185 u186 u187 u188 u189 u190 u191 u192 u193 u194 u195 u196 u197 u198 u199 u200 u201 u202 u203 u204 u205 u206 u207 u208 : Value} (Q : Exit → Act → World → Prop)
    (hQ : ∀ wx vk vw v88 v89 v90 v91 v92 v93 v94 v95, AInv w y wx X3 X4 u3_ u4_ C vk vw (us ++ [⟨.slice A0 n0 c0, .slice A1 n1 c1, .slice A2 n2 c2, .slice A3 n3 c3, za⟩]) (ws ++ [⟨.slice B0 m0 e0, .slice B1 m1 e1, .slice B2 m2 e2, .slice B3 m3 e3, zb⟩]) (kl ++ [d]) →
      Q .normal ⟨#[u0, u1, u2, u3, u4, vk, vw, u7, u8, u9, .pointer (some ⟨XA, 0, none⟩), u11, .pointer (some ⟨XB, 0, none⟩), u13, u14, u15, u16, u17, u18, u19, u20, u21, u22, u23, u24, u25, u26, u27, u28, u29, u30, u31, u32, u33, u34, u35, u36, u37, u38, u39, u40, u41, u42, u43, u44, u45, u46, u47, u48, u49, u50, u51, u52, u53, u54, u55, u56, u57, u58, u59, u60, u61, u62, u63, u64, u65, u66, u67, u68, u69, u70, u71, u72, u73, u74, u75, u76, u77, u78, u79, u80, u81, u82, u83, u84, u85, u86, u87, v88, v89, v90, v91, v92, v93, v94, v95, u96, u97, u98, u99, u100, u101, u102, u103, u104, u105, u106, u107, u108, u109, u110, u111, u112, u113, u114, u115, u116, u117, u118, u119, u120, u121, u122, u123, u124, u125, u126, u127, u128, u129, u130, u131, u132, u133, u134, u135, u136, u137, u138, u139, u140, u141, u142, u143, u144, u145, u146, u147, u148, u149, u150, u151, u152, u153, u154, u155, u156, u157, u158, u159, u160, u161, u162, u163, u164, u165, u166, u167, u168, u169, u170, u171, u172, u173, u174, u175, u176, u177, u178, u179, u180, u181, u182, u183, u184, u185, u186, u187, u188, u189, u190, u191, u192, u193, u194, u195, u196, u197, u198, u199, u200, u201, u202, u203, u204, u205, u206, u207, u208], []⟩ wx) :
    Code.wp Try.prog (reg11 22) Q ⟨#[u0, u1, u2, u3, u4, .slice AK N ck, .slice AW N cw, u7, u8, u9, .pointer (some ⟨XA, 0, none⟩), u11, .pointer (some ⟨XB, 0, none⟩), u13, u14, u15, u16, u17, u18, u19, u20, u21, u22, u23, u24, u25, u26, u27, u28, u29, u30, u31, u32, u33, u34, u35, u36, u37, u38, u39, u40, u41, u42, u43, u44, u45, u46, u47, u48, u49, u50, u51, u52, u53, u54, u55, u56, u57, u58, u59, u60, u61, u62, u63, u64, u65, u66, u67, u68, u69, u70, u71, u72, u73, u74, u75, u76, u77, u78, u79, u80, u81, u82, u83, u84, u85, u86, u87, u88, u89, u90, u91, u92, u93, u94, u95, u96, u97, u98, u99, u100, u101, u102, u103, u104, u105, u106, u107, u108, u109, u110, u111, u112, u113, u114, u115, u116, u117, u118, u119, u120, u121, u122, u123, u124, u125, u126, u127, u128, u129, u130, u131, u132, u133, u134, u135, u136, u137, u138, u139, u140, u141, u142, u143, u144, u145, u146, u147, u148, u149, u150, u151, u152, u153, u154, u155, u156, u157, u158, u159, u160, u161, u162, u163, u164, u165, u166, u167, u168, u169, u170, u171, u172, u173, u174, u175, u176, u177, u178, u179, u180, u181, u182, u183, u184, u185, u186, u187, u188, u189, u190, u191, u192, u193, u194, u195, u196, u197, u198, u199, u200, u201, u202, u203, u204, u205, u206, u207, u208], []⟩ wz := by
  have HQ := Lib.hid hQ
  have HT := Lib.hid h
  have hHQ := Lib.hid q
  have HUN := Lib.hid hun
  have HWN := Lib.hid hwn
  have HL50 : Hid (kl.length < 50) := Lib.hid (by have := h.inv.kr.len; omega)
  have hrk := h.inv.kr.row
  have hrw := h.inv.kw.row
  rw [hun] at hrk
  rw [hwn] at hrw
  have HRK := Lib.hid hrk
  have HRW := Lib.hid hrw
  have HKL : Hid (∀ X, (Value.slice AK N ck).ownBlock = some X → X < wz.heap.size) := Lib.hid fun X e => own_lt hrk X e
  have HWL : Hid (∀ X, (Value.slice AW N cw).ownBlock = some X → X < wz.heap.size) := Lib.hid fun X e => own_lt hrw X e
  have hn51 : N + 1 ≤ 1048576 := by omega
  have hyz : y.heap.size ≤ wz.heap.size := h.inv.ge
  have HYk : ∀ {w2 : World} {vk' : Value}, Hid (Fst w y wz w2 X3 X4 (.slice AK N ck) vk' (.slice AW N cw) us ws XA XB ⟨.slice A0 n0 c0, .slice A1 n1 c1, .slice A2 n2 c2, .slice A3 n3 c3, za⟩ ⟨.slice B0 m0 e0, .slice B1 m1 e1, .slice B2 m2 e2, .slice B3 m3 e3, zb⟩) → y.heap.size ≤ w2.heap.size := fun H => by
    obtain ⟨W1, hb, hg, _⟩ := H.out.ex
    have := hb.size
    have := hg.size
    omega
  have HYw : ∀ {w2 : World} {vk' : Value}, Hid (Fst w y wz w2 X4 X3 (.slice AW N cw) vk' (.slice AK N ck) ws us XB XA ⟨.slice B0 m0 e0, .slice B1 m1 e1, .slice B2 m2 e2, .slice B3 m3 e3, zb⟩ ⟨.slice A0 n0 c0, .slice A1 n1 c1, .slice A2 n2 c2, .slice A3 n3 c3, za⟩) → y.heap.size ≤ w2.heap.size := fun H => by
    obtain ⟨W1, hb, hg, _⟩ := H.out.ex
    have := hb.size
    have := hg.size
    omega
  obtain ⟨k0, k1, k2, k3, k4, fa⟩ := h.ba.kx
  obtain ⟨l0, l1, l2, l3, l4, fb⟩ := h.bb.kx
  simp only at k0 k1 k2 k3 k4 l0 l1 l2 l3 l4
  have ia := Nat.ne_of_gt h.ba.lt
  have ib := Nat.ne_of_gt h.bb.lt
  have ja := Nat.ne_of_lt h.ba.lt
  have jb := Nat.ne_of_lt h.bb.lt
  clear hQ q h hun hwn hl hrk hrw
  conv => arg 2; whnf
  go_region_held3 (fun w' => w'.cell? ⟨XA, 0, none⟩ = some (.slice A0 n0 c0) ∧ w'.cell? ⟨XA, 1, none⟩ = some (.slice A1 n1 c1) ∧ w'.cell? ⟨XA, 2, none⟩ = some (.slice A2 n2 c2) ∧ w'.cell? ⟨XA, 3, none⟩ = some (.slice A3 n3 c3) ∧ w'.cell? ⟨XA, 4, none⟩ = some (.int .i64 za) ∧ w'.cell? ⟨XB, 0, none⟩ = some (.slice B0 m0 e0) ∧ w'.cell? ⟨XB, 1, none⟩ = some (.slice B1 m1 e1) ∧ w'.cell? ⟨XB, 2, none⟩ = some (.slice B2 m2 e2) ∧ w'.cell? ⟨XB, 3, none⟩ = some (.slice B3 m3 e3) ∧ w'.cell? ⟨XB, 4, none⟩ = some (.int .i64 zb)) (go_keep)
    ((first
      | (refine step_cont ⟨.slice B0 m0 e0, .slice B1 m1 e1, .slice B2 m2 e2, .slice B3 m3 e3, zb⟩ (.tmp 92) (.tmp 94) rfl rfl (B := y.heap.size) (n := N) (vs := cellsU ws) _ HRk rfl rfl hn51 hyk (by with_reducible first | exact (Below.refl _ _) | exact (below_step (Below.refl _ _) (below_alloc _ _))) (by first | exact HOk.out.below (Below.refl _ _) | exact HOk.out.below (below_step (Below.refl _ _) (below_alloc _ _)) | exact blk_at (by simp [drew_size]) (Below.refl _ _) | exact blk_at (by simp [drew_size]) (below_step (Below.refl _ _) (below_alloc _ _))) (by intro x hx; simp [U5.cells] at hx; rcases hx with rfl | rfl | rfl | rfl | rfl <;> rfl) ?_; intro vl wl ho hg hat; have hfin := fst_end hHQ.out HT.out HL50.out Hk.out (by with_reducible first | exact (Below.refl _ _) | exact (below_step (Below.refl _ _) (below_alloc _ _))) hg (by rw [HWN.out]; exact ho) hat; have HFIN := Lib.hid hfin; clear hfin; obtain ⟨hbA, hbB⟩ := (show HBx wl XA _ _ _ _ _ ∧ HBx wl XB _ _ _ _ _ from fst_far HT.out Hk.out (by with_reducible first | exact (Below.refl _ _) | exact (below_step (Below.refl _ _) (below_alloc _ _))) hg); obtain ⟨k0z, k1z, k2z, k3z, k4z, faz⟩ := hbA.kx; obtain ⟨l0z, l1z, l2z, l3z, l4z, fbz⟩ := hbB.kx; have iaz := Nat.ne_of_gt hbA.lt; have ibz := Nat.ne_of_gt hbB.lt; have jaz := Nat.ne_of_lt hbA.lt; have jbz := Nat.ne_of_lt hbB.lt; clear hbA hbB; clear ho hg hat)
      | (refine step_cont ⟨.slice A0 n0 c0, .slice A1 n1 c1, .slice A2 n2 c2, .slice A3 n3 c3, za⟩ (.tmp 88) (.tmp 90) rfl rfl (B := y.heap.size) (n := N) (vs := cellsU us) _ HRw rfl rfl hn51 hyw (by with_reducible first | exact (Below.refl _ _) | exact (below_step (Below.refl _ _) (below_alloc _ _))) (by first | exact HOw.out.below (Below.refl _ _) | exact HOw.out.below (below_step (Below.refl _ _) (below_alloc _ _)) | exact blk_at (by simp [drew_size]) (Below.refl _ _) | exact blk_at (by simp [drew_size]) (below_step (Below.refl _ _) (below_alloc _ _))) (by intro x hx; simp [U5.cells] at hx; rcases hx with rfl | rfl | rfl | rfl | rfl <;> rfl) ?_; intro vl wl ho hg hat; have hfin := (fst_end hHQ.out.swap HT.out.swap HL50.out Hw.out (by with_reducible first | exact (Below.refl _ _) | exact (below_step (Below.refl _ _) (below_alloc _ _))) hg (by rw [HUN.out]; exact ho) hat).swap; have HFIN := Lib.hid hfin; clear hfin; obtain ⟨hbA, hbB⟩ := (show HBx wl XA _ _ _ _ _ ∧ HBx wl XB _ _ _ _ _ from And.symm (fst_far HT.out.swap Hw.out (by with_reducible first | exact (Below.refl _ _) | exact (below_step (Below.refl _ _) (below_alloc _ _))) hg)); obtain ⟨k0z, k1z, k2z, k3z, k4z, faz⟩ := hbA.kx; obtain ⟨l0z, l1z, l2z, l3z, l4z, fbz⟩ := hbB.kx; have iaz := Nat.ne_of_gt hbA.lt; have ibz := Nat.ne_of_gt hbB.lt; have jaz := Nat.ne_of_lt hbA.lt; have jbz := Nat.ne_of_lt hbB.lt; clear hbA hbB; clear ho hg hat)
      | (refine step_cont ⟨.slice A0 n0 c0, .slice A1 n1 c1, .slice A2 n2 c2, .slice A3 n3 c3, za⟩ (.tmp 88) (.tmp 90) rfl rfl (B := y.heap.size) (n := N) (vs := cellsU us) _ HRK rfl rfl hn51 hyz (by with_reducible first | exact (Below.refl _ _).drew | exact (below_step (Below.refl _ _) (below_alloc _ _)).drew | exact (below_step (below_step (Below.refl _ _) (below_alloc _ _)) (below_alloc _ _)).drew) (by first | exact blk_at (by simp [drew_size]) (Below.refl _ _).drew | exact blk_at (by simp [drew_size]) (below_step (Below.refl _ _) (below_alloc _ _)).drew) (by intro x hx; simp [U5.cells] at hx; rcases hx with rfl | rfl | rfl | rfl | rfl <;> rfl) ?_; intro vk wk ho hg hat; have Hk := Lib.hid (fst_mk HT.out (by with_reducible first | exact (Below.refl _ _).drew | exact (below_step (Below.refl _ _) (below_alloc _ _)).drew | exact (below_step (below_step (Below.refl _ _) (below_alloc _ _)) (below_alloc _ _)).drew) hg (by rw [HUN.out]; exact ho) hat); have hr2 := Hk.out.row; rw [HWN.out] at hr2; have HRk := Lib.hid hr2; clear hr2; have hyk := HYk Hk; (first | (have hx := carry_blk hg HKL.out (blk_at (t := .slice B0 m0 e0) (c := .slice B1 m1 e1) (s := .slice B2 m2 e2) (d := .slice B3 m3 e3) (z := zb) rfl (Below.refl _ _).drew) (by simp [drew_size]); (try simp only [asz, drew_size] at hx); have HOk := Lib.hid hx; clear hx) | (have hx := carry_blk hg HKL.out (blk_at (t := .slice B0 m0 e0) (c := .slice B1 m1 e1) (s := .slice B2 m2 e2) (d := .slice B3 m3 e3) (z := zb) rfl (below_step (Below.refl _ _) (below_alloc _ _)).drew) (by simp [drew_size]); (try simp only [asz, drew_size] at hx); have HOk := Lib.hid hx; clear hx) | skip); obtain ⟨hbA, hbB⟩ := (show HBx wk XA _ _ _ _ _ ∧ HBx wk XB _ _ _ _ _ from ⟨Hk.out.ba, Hk.out.bb⟩); obtain ⟨k0k, k1k, k2k, k3k, k4k, fak⟩ := hbA.kx; obtain ⟨l0k, l1k, l2k, l3k, l4k, fbk⟩ := hbB.kx; have iak := Nat.ne_of_gt hbA.lt; have ibk := Nat.ne_of_gt hbB.lt; have jak := Nat.ne_of_lt hbA.lt; have jbk := Nat.ne_of_lt hbB.lt; clear hbA hbB; clear ho hg hat)
      | (refine step_cont ⟨.slice B0 m0 e0, .slice B1 m1 e1, .slice B2 m2 e2, .slice B3 m3 e3, zb⟩ (.tmp 92) (.tmp 94) rfl rfl (B := y.heap.size) (n := N) (vs := cellsU ws) _ HRW rfl rfl hn51 hyz (by with_reducible first | exact (Below.refl _ _).drew | exact (below_step (Below.refl _ _) (below_alloc _ _)).drew | exact (below_step (below_step (Below.refl _ _) (below_alloc _ _)) (below_alloc _ _)).drew) (by first | exact blk_at (by simp [drew_size]) (Below.refl _ _).drew | exact blk_at (by simp [drew_size]) (below_step (Below.refl _ _) (below_alloc _ _)).drew) (by intro x hx; simp [U5.cells] at hx; rcases hx with rfl | rfl | rfl | rfl | rfl <;> rfl) ?_; intro vw ww ho hg hat; have Hw := Lib.hid (fst_mk HT.out.swap (by with_reducible first | exact (Below.refl _ _).drew | exact (below_step (Below.refl _ _) (below_alloc _ _)).drew | exact (below_step (below_step (Below.refl _ _) (below_alloc _ _)) (below_alloc _ _)).drew) hg (by rw [HWN.out]; exact ho) hat); have hr2 := Hw.out.row; rw [HUN.out] at hr2; have HRw := Lib.hid hr2; clear hr2; have hyw := HYw Hw; (first | (have hx := carry_blk hg HWL.out (blk_at (t := .slice A0 n0 c0) (c := .slice A1 n1 c1) (s := .slice A2 n2 c2) (d := .slice A3 n3 c3) (z := za) rfl (Below.refl _ _).drew) (by simp [drew_size]); (try simp only [asz, drew_size] at hx); have HOw := Lib.hid hx; clear hx) | (have hx := carry_blk hg HWL.out (blk_at (t := .slice A0 n0 c0) (c := .slice A1 n1 c1) (s := .slice A2 n2 c2) (d := .slice A3 n3 c3) (z := za) rfl (below_step (Below.refl _ _) (below_alloc _ _)).drew) (by simp [drew_size]); (try simp only [asz, drew_size] at hx); have HOw := Lib.hid hx; clear hx) | skip); obtain ⟨hbA, hbB⟩ := (show HBx ww XA _ _ _ _ _ ∧ HBx ww XB _ _ _ _ _ from ⟨Hw.out.bb, Hw.out.ba⟩); obtain ⟨k0w, k1w, k2w, k3w, k4w, faw⟩ := hbA.kx; obtain ⟨l0w, l1w, l2w, l3w, l4w, fbw⟩ := hbB.kx; have iaw := Nat.ne_of_gt hbA.lt; have ibw := Nat.ne_of_gt hbB.lt; have jaw := Nat.ne_of_lt hbA.lt; have jbw := Nat.ne_of_lt hbB.lt; clear hbA hbB; clear ho hg hat)))
  all_goals (first | exact HQ.out _ _ _ _ _ _ _ _ _ _ _ HFIN.out | exact HQ.out _ _ _ _ _ _ _ _ _ _ _ HFIN.out.drew)
set_option maxRecDepth 100000 in
set_option maxHeartbeats 40000000 in
theorem r44 (w y wz : World) (X3 X4 XA XB : Nat) (u3_ u4_ : U5) (C d : Cont) (AK AW : Option Addr) (N ck cw : Nat) (us ws : List U5) (kl : List Cont) (A0 A1 A2 A3 B0 B1 B2 B3 : Option Addr) (n0 n1 n2 n3 c0 c1 c2 c3 m0 m1 m2 m3 e0 e1 e2 e3 : Nat) (za zb : Int) (q : Two34 w y X3 X4) (h : TS w y wz X3 X4 u3_ u4_ C (.slice AK N ck) (.slice AW N cw) us ws kl XA XB ⟨.slice A0 n0 c0, .slice A1 n1 c1, .slice A2 n2 c2, .slice A3 n3 c3, za⟩ ⟨.slice B0 m0 e0, .slice B1 m1 e1, .slice B2 m2 e2, .slice B3 m3 e3, zb⟩ d) (hun : us.length = N) (hwn : ws.length = N) (hl : N < 50)
    {u0 u1 u2 u3 u4 u7 u8 u9 u10 u11 u12 u13 u14 u15 u16 u17 u18 u19 u20 u21 u23 u25 u26 u27 u28 u29 u30 u31 u32 u33 u34 u35 u36 u37 u38 u39 u40 u41 u42 u43 u44 u45 u46 u47 u48 u49 u50 u51 u52 u53 u54 u55 u56 u57 u58 u59 u60 u61 u62 u63 u64 u65 u66 u67 u68 u69 u70 u71 u72 u73 u74 u75 u76 u77 u78 u79 u80 u81 u82 u83 u84 u85 u86 u87 u88 u89 u90 u91 u92 u93 u94 u95 u96 u97 u98 u99 u100 u101 u102 u103 u104 u105 u106 u107 u108 u109 u110 u111 u112 u113 u114 u115 u116 u117 u118 u119 u120 u121 u122 u123 u124 u125 u126 u127 u128 u129 u130 u131 u132 u133 u134 u135 u136 u137 u138 u139 u140 u141 u142 u143 u144 u145 u146 u147 u148 u149 u150 u151 u152 u153 u154 u155 u156 u157 u158 u159 u160 u161 u162 u163 u164 u165 u166 u167 u168 u169 u170 u171 u172 u173 u174 u175 u176 u177 u178 u179 u180 u181 u182 u183 u184 u185 u186 u187 u188 u189 u190 u191 u192 u193 u194 u195 u196 u197 u198 u199 u200 u201 u202 u203 u204 u205 u206 u207 u208 : Value} (Q : Exit → Act → World → Prop)
    (hQ : ∀ wx vk vw v181 v182 v183 v184 v185 v186 v187 v188, AInv w y wx X3 X4 u3_ u4_ C vk vw (us ++ [⟨.slice A0 n0 c0, .slice A1 n1 c1, .slice A2 n2 c2, .slice A3 n3 c3, za⟩]) (ws ++ [⟨.slice B0 m0 e0, .slice B1 m1 e1, .slice B2 m2 e2, .slice B3 m3 e3, zb⟩]) (kl ++ [d]) →
      Q .normal ⟨#[u0, u1, u2, u3, u4, vk, vw, u7, u8, u9, u10, u11, u12, u13, u14, u15, u16, u17, u18, u19, u20, u21, .pointer (some ⟨XA, 0, none⟩), u23, .pointer (some ⟨XB, 0, none⟩), u25, u26, u27, u28, u29, u30, u31, u32, u33, u34, u35, u36, u37, u38, u39, u40, u41, u42, u43, u44, u45, u46, u47, u48, u49, u50, u51, u52, u53, u54, u55, u56, u57, u58, u59, u60, u61, u62, u63, u64, u65, u66, u67, u68, u69, u70, u71, u72, u73, u74, u75, u76, u77, u78, u79, u80, u81, u82, u83, u84, u85, u86, u87, u88, u89, u90, u91, u92, u93, u94, u95, u96, u97, u98, u99, u100, u101, u102, u103, u104, u105, u106, u107, u108, u109, u110, u111, u112, u113, u114, u115, u116, u117, u118, u119, u120, u121, u122, u123, u124, u125, u126, u127, u128, u129, u130, u131, u132, u133, u134, u135, u136, u137, u138, u139, u140, u141, u142, u143, u144, u145, u146, u147, u148, u149, u150, u151, u152, u153, u154, u155, u156, u157, u158, u159, u160, u161, u162, u163, u164, u165, u166, u167, u168, u169, u170, u171, u172, u173, u174, u175, u176, u177, u178, u179, u180, v181, v182, v183, v184, v185, v186, v187, v188, u189, u190, u191, u192, u193, u194, u195, u196, u197, u198, u199, u200, u201, u202, u203, u204, u205, u206, u207, u208], []⟩ wx) :
    Code.wp Try.prog (reg11 44) Q ⟨#[u0, u1, u2, u3, u4, .slice AK N ck, .slice AW N cw, u7, u8, u9, u10, u11, u12, u13, u14, u15, u16, u17, u18, u19, u20, u21, .pointer (some ⟨XA, 0, none⟩), u23, .pointer (some ⟨XB, 0, none⟩), u25, u26, u27, u28, u29, u30, u31, u32, u33, u34, u35, u36, u37, u38, u39, u40, u41, u42, u43, u44, u45, u46, u47, u48, u49, u50, u51, u52, u53, u54, u55, u56, u57, u58, u59, u60, u61, u62, u63, u64, u65, u66, u67, u68, u69, u70, u71, u72, u73, u74, u75, u76, u77, u78, u79, u80, u81, u82, u83, u84, u85, u86, u87, u88, u89, u90, u91, u92, u93, u94, u95, u96, u97, u98, u99, u100, u101, u102, u103, u104, u105, u106, u107, u108, u109, u110, u111, u112, u113, u114, u115, u116, u117, u118, u119, u120, u121, u122, u123, u124, u125, u126, u127, u128, u129, u130, u131, u132, u133, u134, u135, u136, u137, u138, u139, u140, u141, u142, u143, u144, u145, u146, u147, u148, u149, u150, u151, u152, u153, u154, u155, u156, u157, u158, u159, u160, u161, u162, u163, u164, u165, u166, u167, u168, u169, u170, u171, u172, u173, u174, u175, u176, u177, u178, u179, u180, u181, u182, u183, u184, u185, u186, u187, u188, u189, u190, u191, u192, u193, u194, u195, u196, u197, u198, u199, u200, u201, u202, u203, u204, u205, u206, u207, u208], []⟩ wz := by
  have HQ := Lib.hid hQ
  have HT := Lib.hid h
  have hHQ := Lib.hid q
  have HUN := Lib.hid hun
  have HWN := Lib.hid hwn
  have HL50 : Hid (kl.length < 50) := Lib.hid (by have := h.inv.kr.len; omega)
  have hrk := h.inv.kr.row
  have hrw := h.inv.kw.row
  rw [hun] at hrk
  rw [hwn] at hrw
  have HRK := Lib.hid hrk
  have HRW := Lib.hid hrw
  have HKL : Hid (∀ X, (Value.slice AK N ck).ownBlock = some X → X < wz.heap.size) := Lib.hid fun X e => own_lt hrk X e
  have HWL : Hid (∀ X, (Value.slice AW N cw).ownBlock = some X → X < wz.heap.size) := Lib.hid fun X e => own_lt hrw X e
  have hn51 : N + 1 ≤ 1048576 := by omega
  have hyz : y.heap.size ≤ wz.heap.size := h.inv.ge
  have HYk : ∀ {w2 : World} {vk' : Value}, Hid (Fst w y wz w2 X3 X4 (.slice AK N ck) vk' (.slice AW N cw) us ws XA XB ⟨.slice A0 n0 c0, .slice A1 n1 c1, .slice A2 n2 c2, .slice A3 n3 c3, za⟩ ⟨.slice B0 m0 e0, .slice B1 m1 e1, .slice B2 m2 e2, .slice B3 m3 e3, zb⟩) → y.heap.size ≤ w2.heap.size := fun H => by
    obtain ⟨W1, hb, hg, _⟩ := H.out.ex
    have := hb.size
    have := hg.size
    omega
  have HYw : ∀ {w2 : World} {vk' : Value}, Hid (Fst w y wz w2 X4 X3 (.slice AW N cw) vk' (.slice AK N ck) ws us XB XA ⟨.slice B0 m0 e0, .slice B1 m1 e1, .slice B2 m2 e2, .slice B3 m3 e3, zb⟩ ⟨.slice A0 n0 c0, .slice A1 n1 c1, .slice A2 n2 c2, .slice A3 n3 c3, za⟩) → y.heap.size ≤ w2.heap.size := fun H => by
    obtain ⟨W1, hb, hg, _⟩ := H.out.ex
    have := hb.size
    have := hg.size
    omega
  obtain ⟨k0, k1, k2, k3, k4, fa⟩ := h.ba.kx
  obtain ⟨l0, l1, l2, l3, l4, fb⟩ := h.bb.kx
  simp only at k0 k1 k2 k3 k4 l0 l1 l2 l3 l4
  have ia := Nat.ne_of_gt h.ba.lt
  have ib := Nat.ne_of_gt h.bb.lt
  have ja := Nat.ne_of_lt h.ba.lt
  have jb := Nat.ne_of_lt h.bb.lt
  clear hQ q h hun hwn hl hrk hrw
  conv => arg 2; whnf
  go_region_held3 (fun w' => w'.cell? ⟨XA, 0, none⟩ = some (.slice A0 n0 c0) ∧ w'.cell? ⟨XA, 1, none⟩ = some (.slice A1 n1 c1) ∧ w'.cell? ⟨XA, 2, none⟩ = some (.slice A2 n2 c2) ∧ w'.cell? ⟨XA, 3, none⟩ = some (.slice A3 n3 c3) ∧ w'.cell? ⟨XA, 4, none⟩ = some (.int .i64 za) ∧ w'.cell? ⟨XB, 0, none⟩ = some (.slice B0 m0 e0) ∧ w'.cell? ⟨XB, 1, none⟩ = some (.slice B1 m1 e1) ∧ w'.cell? ⟨XB, 2, none⟩ = some (.slice B2 m2 e2) ∧ w'.cell? ⟨XB, 3, none⟩ = some (.slice B3 m3 e3) ∧ w'.cell? ⟨XB, 4, none⟩ = some (.int .i64 zb)) (go_keep)
    ((first
      | (refine step_cont ⟨.slice B0 m0 e0, .slice B1 m1 e1, .slice B2 m2 e2, .slice B3 m3 e3, zb⟩ (.tmp 185) (.tmp 187) rfl rfl (B := y.heap.size) (n := N) (vs := cellsU ws) _ HRk rfl rfl hn51 hyk (by with_reducible first | exact (Below.refl _ _) | exact (below_step (Below.refl _ _) (below_alloc _ _))) (by first | exact HOk.out.below (Below.refl _ _) | exact HOk.out.below (below_step (Below.refl _ _) (below_alloc _ _)) | exact blk_at (by simp [drew_size]) (Below.refl _ _) | exact blk_at (by simp [drew_size]) (below_step (Below.refl _ _) (below_alloc _ _))) (by intro x hx; simp [U5.cells] at hx; rcases hx with rfl | rfl | rfl | rfl | rfl <;> rfl) ?_; intro vl wl ho hg hat; have hfin := fst_end hHQ.out HT.out HL50.out Hk.out (by with_reducible first | exact (Below.refl _ _) | exact (below_step (Below.refl _ _) (below_alloc _ _))) hg (by rw [HWN.out]; exact ho) hat; have HFIN := Lib.hid hfin; clear hfin; obtain ⟨hbA, hbB⟩ := (show HBx wl XA _ _ _ _ _ ∧ HBx wl XB _ _ _ _ _ from fst_far HT.out Hk.out (by with_reducible first | exact (Below.refl _ _) | exact (below_step (Below.refl _ _) (below_alloc _ _))) hg); obtain ⟨k0z, k1z, k2z, k3z, k4z, faz⟩ := hbA.kx; obtain ⟨l0z, l1z, l2z, l3z, l4z, fbz⟩ := hbB.kx; have iaz := Nat.ne_of_gt hbA.lt; have ibz := Nat.ne_of_gt hbB.lt; have jaz := Nat.ne_of_lt hbA.lt; have jbz := Nat.ne_of_lt hbB.lt; clear hbA hbB; clear ho hg hat)
      | (refine step_cont ⟨.slice A0 n0 c0, .slice A1 n1 c1, .slice A2 n2 c2, .slice A3 n3 c3, za⟩ (.tmp 181) (.tmp 183) rfl rfl (B := y.heap.size) (n := N) (vs := cellsU us) _ HRw rfl rfl hn51 hyw (by with_reducible first | exact (Below.refl _ _) | exact (below_step (Below.refl _ _) (below_alloc _ _))) (by first | exact HOw.out.below (Below.refl _ _) | exact HOw.out.below (below_step (Below.refl _ _) (below_alloc _ _)) | exact blk_at (by simp [drew_size]) (Below.refl _ _) | exact blk_at (by simp [drew_size]) (below_step (Below.refl _ _) (below_alloc _ _))) (by intro x hx; simp [U5.cells] at hx; rcases hx with rfl | rfl | rfl | rfl | rfl <;> rfl) ?_; intro vl wl ho hg hat; have hfin := (fst_end hHQ.out.swap HT.out.swap HL50.out Hw.out (by with_reducible first | exact (Below.refl _ _) | exact (below_step (Below.refl _ _) (below_alloc _ _))) hg (by rw [HUN.out]; exact ho) hat).swap; have HFIN := Lib.hid hfin; clear hfin; obtain ⟨hbA, hbB⟩ := (show HBx wl XA _ _ _ _ _ ∧ HBx wl XB _ _ _ _ _ from And.symm (fst_far HT.out.swap Hw.out (by with_reducible first | exact (Below.refl _ _) | exact (below_step (Below.refl _ _) (below_alloc _ _))) hg)); obtain ⟨k0z, k1z, k2z, k3z, k4z, faz⟩ := hbA.kx; obtain ⟨l0z, l1z, l2z, l3z, l4z, fbz⟩ := hbB.kx; have iaz := Nat.ne_of_gt hbA.lt; have ibz := Nat.ne_of_gt hbB.lt; have jaz := Nat.ne_of_lt hbA.lt; have jbz := Nat.ne_of_lt hbB.lt; clear hbA hbB; clear ho hg hat)
      | (refine step_cont ⟨.slice A0 n0 c0, .slice A1 n1 c1, .slice A2 n2 c2, .slice A3 n3 c3, za⟩ (.tmp 181) (.tmp 183) rfl rfl (B := y.heap.size) (n := N) (vs := cellsU us) _ HRK rfl rfl hn51 hyz (by with_reducible first | exact (Below.refl _ _).drew | exact (below_step (Below.refl _ _) (below_alloc _ _)).drew | exact (below_step (below_step (Below.refl _ _) (below_alloc _ _)) (below_alloc _ _)).drew) (by first | exact blk_at (by simp [drew_size]) (Below.refl _ _).drew | exact blk_at (by simp [drew_size]) (below_step (Below.refl _ _) (below_alloc _ _)).drew) (by intro x hx; simp [U5.cells] at hx; rcases hx with rfl | rfl | rfl | rfl | rfl <;> rfl) ?_; intro vk wk ho hg hat; have Hk := Lib.hid (fst_mk HT.out (by with_reducible first | exact (Below.refl _ _).drew | exact (below_step (Below.refl _ _) (below_alloc _ _)).drew | exact (below_step (below_step (Below.refl _ _) (below_alloc _ _)) (below_alloc _ _)).drew) hg (by rw [HUN.out]; exact ho) hat); have hr2 := Hk.out.row; rw [HWN.out] at hr2; have HRk := Lib.hid hr2; clear hr2; have hyk := HYk Hk; (first | (have hx := carry_blk hg HKL.out (blk_at (t := .slice B0 m0 e0) (c := .slice B1 m1 e1) (s := .slice B2 m2 e2) (d := .slice B3 m3 e3) (z := zb) rfl (Below.refl _ _).drew) (by simp [drew_size]); (try simp only [asz, drew_size] at hx); have HOk := Lib.hid hx; clear hx) | (have hx := carry_blk hg HKL.out (blk_at (t := .slice B0 m0 e0) (c := .slice B1 m1 e1) (s := .slice B2 m2 e2) (d := .slice B3 m3 e3) (z := zb) rfl (below_step (Below.refl _ _) (below_alloc _ _)).drew) (by simp [drew_size]); (try simp only [asz, drew_size] at hx); have HOk := Lib.hid hx; clear hx) | skip); obtain ⟨hbA, hbB⟩ := (show HBx wk XA _ _ _ _ _ ∧ HBx wk XB _ _ _ _ _ from ⟨Hk.out.ba, Hk.out.bb⟩); obtain ⟨k0k, k1k, k2k, k3k, k4k, fak⟩ := hbA.kx; obtain ⟨l0k, l1k, l2k, l3k, l4k, fbk⟩ := hbB.kx; have iak := Nat.ne_of_gt hbA.lt; have ibk := Nat.ne_of_gt hbB.lt; have jak := Nat.ne_of_lt hbA.lt; have jbk := Nat.ne_of_lt hbB.lt; clear hbA hbB; clear ho hg hat)
      | (refine step_cont ⟨.slice B0 m0 e0, .slice B1 m1 e1, .slice B2 m2 e2, .slice B3 m3 e3, zb⟩ (.tmp 185) (.tmp 187) rfl rfl (B := y.heap.size) (n := N) (vs := cellsU ws) _ HRW rfl rfl hn51 hyz (by with_reducible first | exact (Below.refl _ _).drew | exact (below_step (Below.refl _ _) (below_alloc _ _)).drew | exact (below_step (below_step (Below.refl _ _) (below_alloc _ _)) (below_alloc _ _)).drew) (by first | exact blk_at (by simp [drew_size]) (Below.refl _ _).drew | exact blk_at (by simp [drew_size]) (below_step (Below.refl _ _) (below_alloc _ _)).drew) (by intro x hx; simp [U5.cells] at hx; rcases hx with rfl | rfl | rfl | rfl | rfl <;> rfl) ?_; intro vw ww ho hg hat; have Hw := Lib.hid (fst_mk HT.out.swap (by with_reducible first | exact (Below.refl _ _).drew | exact (below_step (Below.refl _ _) (below_alloc _ _)).drew | exact (below_step (below_step (Below.refl _ _) (below_alloc _ _)) (below_alloc _ _)).drew) hg (by rw [HWN.out]; exact ho) hat); have hr2 := Hw.out.row; rw [HUN.out] at hr2; have HRw := Lib.hid hr2; clear hr2; have hyw := HYw Hw; (first | (have hx := carry_blk hg HWL.out (blk_at (t := .slice A0 n0 c0) (c := .slice A1 n1 c1) (s := .slice A2 n2 c2) (d := .slice A3 n3 c3) (z := za) rfl (Below.refl _ _).drew) (by simp [drew_size]); (try simp only [asz, drew_size] at hx); have HOw := Lib.hid hx; clear hx) | (have hx := carry_blk hg HWL.out (blk_at (t := .slice A0 n0 c0) (c := .slice A1 n1 c1) (s := .slice A2 n2 c2) (d := .slice A3 n3 c3) (z := za) rfl (below_step (Below.refl _ _) (below_alloc _ _)).drew) (by simp [drew_size]); (try simp only [asz, drew_size] at hx); have HOw := Lib.hid hx; clear hx) | skip); obtain ⟨hbA, hbB⟩ := (show HBx ww XA _ _ _ _ _ ∧ HBx ww XB _ _ _ _ _ from ⟨Hw.out.bb, Hw.out.ba⟩); obtain ⟨k0w, k1w, k2w, k3w, k4w, faw⟩ := hbA.kx; obtain ⟨l0w, l1w, l2w, l3w, l4w, fbw⟩ := hbB.kx; have iaw := Nat.ne_of_gt hbA.lt; have ibw := Nat.ne_of_gt hbB.lt; have jaw := Nat.ne_of_lt hbA.lt; have jbw := Nat.ne_of_lt hbB.lt; clear hbA hbB; clear ho hg hat)))
  all_goals (first | exact HQ.out _ _ _ _ _ _ _ _ _ _ _ HFIN.out | exact HQ.out _ _ _ _ _ _ _ _ _ _ _ HFIN.out.drew)
end Go.Proofs.Ytkbboepopcebaaa
namespace Go.Proofs.Ytkbboepopcebaaa
open Go.RowKit

theorem rej_c (x y : Int) (w : World) : Calls Try.prog 37 #[.agg #[.int .i64 x, .slice none 0 0, .int .i64 0, .int .i64 y], .agg #[.int .i64 x, .slice none 0 0, .int .i64 0, .int .i64 y]] w (TruePost w) := rejects_same x y w
theorem ts_mk {w y w5 wc y7 w9 : World} {X3 X4 : Nat} {u3 u4 : U5} {C : Cont} {vk vw : Value} {us ws : List U5} {kl : List Cont} {XA XB : Nat} {a3 a4 : U5} {d : Cont} {br br' : Option (Nat × Int × Int)} (h : AInv w y w5 X3 X4 u3 u4 C vk vw us ws kl) (s : ST w5 wc (some (XA, a3)) br (some (a3, d))) (s2 : ST wc y7 (some (XB, a4)) br' (some (a4, d))) (hb : Below y7.heap.size y7 w9) (hd : CInv d) :
    TS w y w9 X3 X4 u3 u4 C vk vw us ws kl XA XB a3 a4 d := by
  have b1 := s.below
  have b2 := s2.below
  have z1 := b1.size
  have z2 := b2.size
  have g0 := h.ge
  have g1 := h.below.size
  obtain ⟨x1, x2⟩ := s.x _ _ rfl
  obtain ⟨y1, y2⟩ := s2.x _ _ rfl
  have b3 := below_step b2 hb
  refine ⟨h.mono (below_step b1 b3), x1.below b3, y1.below hb, ((s.q _ _ rfl).belowK b3).baseK g1, ((s2.q _ _ rfl).belowK hb).baseK (by omega), hd, by omega, by omega, fun X e => ?_, fun X e => ?_⟩
  · have := own_lt h.kr.row X e; omega
  · have := own_lt h.kw.row X e; omega
theorem TS.few {w y wz : World} {X3 X4 : Nat} {u3 u4 : U5} {C : Cont} {vk vw : Value} {us ws : List U5} {kl : List Cont} {XA XB : Nat} {a3 a4 : U5} {d : Cont} (h : TS w y wz X3 X4 u3 u4 C vk vw us ws kl XA XB a3 a4 d) : us.length ≤ 50 := by
  have := h.inv.few
  have := h.inv.kr.len
  omega
end Go.Proofs.Ytkbboepopcebaaa
