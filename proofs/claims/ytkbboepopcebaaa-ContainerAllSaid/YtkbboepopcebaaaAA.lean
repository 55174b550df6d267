/- The reader's types. -/
import Derived.Test.YtkbboepopcebaaaZ
import Derived.Test.YtkbboepopcebaaaJ
import Derived.Deep.RegionLaw
namespace Go.Proofs.Ytkbboepopcebaaa
open Go.RowKit

/-- The types of so many sections, from a place on. -/
def tysR (b : List Int) : Nat → Bool → Nat → Except Bad (List Ty)
  | 0, _, _ => .ok []
  | k + 1, f, a =>
    if fitsIn f (num b a 1) = false then .error (59, a) else
    if fitsOut f (num b (a + 1) 1) = false then .error (59, a + 1) else
    if fitsMost (num b (a + 2) 2) = false then .error (59, a + 2) else
    match tysR b k false (a + 4) with
    | .ok l => .ok (⟨num b a 1, num b (a + 1) 1, num b (a + 2) 2⟩ :: l)
    | .error e => .error e
def ontoT (L : List Ty) : Except Bad (List Ty) → Except Bad (List Ty)
  | .ok l => .ok (L ++ l)
  | .error e => .error e
theorem ontoT_nil (x : Except Bad (List Ty)) : ontoT [] x = x := by cases x <;> rfl
theorem tysR_step (b : List Int) (k a : Nat) (f : Bool) (h1 : fitsIn f (num b a 1) = true) (h2 : fitsOut f (num b (a + 1) 1) = true) (h3 : fitsMost (num b (a + 2) 2) = true) (L : List Ty) :
    ontoT L (tysR b (k + 1) f a) = ontoT (L ++ [⟨num b a 1, num b (a + 1) 1, num b (a + 2) 2⟩]) (tysR b k false (a + 4)) := by
  rw [tysR, if_neg (by simp [h1]), if_neg (by simp [h2]), if_neg (by simp [h3])]
  cases tysR b k false (a + 4) <;> simp [ontoT]
/-- Nothing has turned but blocks R and C, and of C only its first cell. -/
structure Two (w w' : World) (R C : Nat) : Prop where
  os : w'.os = w.os
  tape : w'.tape = w.tape
  output : w'.output = w.output
  size : w.heap.size ≤ w'.heap.size
  block : ∀ k, k < w.heap.size → k ≠ R → k ≠ C → w'.heap[k]? = w.heap[k]?
  cells : ∀ j, j ≠ 0 → w'.cell? ⟨C, j, none⟩ = w.cell? ⟨C, j, none⟩
  free : ∀ j, w'.frozen? ⟨C, j, none⟩ = w.frozen? ⟨C, j, none⟩
theorem Two.refl (w : World) (R C : Nat) : Two w w R C := ⟨rfl, rfl, rfl, Nat.le_refl _, fun _ _ _ _ => rfl, fun _ _ => rfl, fun _ => rfl⟩
theorem Two.trans {w w1 w2 : World} {R C : Nat} (h : Two w w1 R C) (k : Two w1 w2 R C) : Two w w2 R C :=
  ⟨k.os.trans h.os, k.tape.trans h.tape, k.output.trans h.output, Nat.le_trans h.size k.size, fun i hi h1 h2 => (k.block i (Nat.lt_of_lt_of_le hi h.size) h1 h2).trans (h.block i hi h1 h2), fun j hj => (k.cells j hj).trans (h.cells j hj), fun j => (k.free j).trans (h.free j)⟩
theorem Two.of_grown {w w1 : World} {R C : Nat} (h : w.grownBy w1 (some R)) (hC : C < w.heap.size) (hne : C ≠ R) : Two w w1 R C := by
  have hb := h.block C hC (by simpa using hne)
  exact ⟨h.os, h.tape, h.output, h.size, fun k hk h1 _ => h.block k hk (by simpa using h1), fun j _ => World.cell?_of_block (w := w) hb, fun j => World.frozen?_of_block (w := w) hb⟩
theorem Two.below {w0 w w1 : World} {R C : Nat} (h : Two w w1 R C) (hb : Below w0.heap.size w0 w) (hR : w0.heap.size ≤ R) (hC : w0.heap.size ≤ C) : Below w0.heap.size w0 w1 :=
  ⟨h.os.trans hb.os, h.tape.trans hb.tape, h.output.trans hb.output, Nat.le_trans hb.size h.size, fun k hk => (h.block k (Nat.lt_of_lt_of_le hk hb.size) (by omega) (by omega)).trans (hb.block k hk)⟩
theorem Two.set {w : World} {R C : Nat} (v : Value) : Two w (w.setCell ⟨C, 0, none⟩ v) R C := by
  refine ⟨rfl, rfl, rfl, by simp [World.setCell], fun k hk _ h2 => Below.heap_setCell w _ _ k (by simpa using h2), fun j hj => World.cell?_setCell_other _ _ _ _ (by simp [Ne.symm hj]), fun j => by rw [World.frozen?_setCell]⟩
def TyPost (b : List Int) (cnt a : Nat) (R : Nat) (A : Option Addr) (n c C : Nat) (w : World) (e : Ending) (w' : World) : Prop :=
  Two w w' R C ∧ match tysR b cnt true a with
    | .ok l => e = .returned (.tuple #[]) ∧ (∃ v, w'.cell? ⟨C, 0, none⟩ = some v ∧ w'.ownsRow w.heap.size 69 3 v l.length (tysOf l)) ∧ RdAt w' R A n c (a + 4 * cnt)
    | .error x => e = .panicked [wrongV x.1 x.2]
theorem bounds_lit (w : World) : Calls Try.prog 46 #[] w fun e w' => e = .returned (.agg #[.int .i64 1, .func (.func 72) #[] #[], .func (.func 73) #[] #[], .int .i64 1, .func (.func 74) #[] #[], .func (.func 75) #[] #[], .int .i64 2, .func (.func 76) #[] #[], .func (.func 77) #[] #[]]) ∧ Below w.heap.size w w' := bounds_any w

/-- A type's variable. -/
structure T3 (w : World) (T : Nat) (p q r : Int) : Prop where
  c0 : w.cell? ⟨T, 0, none⟩ = some (.int .i64 p)
  c1 : w.cell? ⟨T, 1, none⟩ = some (.int .i64 q)
  c2 : w.cell? ⟨T, 2, none⟩ = some (.int .i64 r)
  f0 : w.frozen? ⟨T, 0, none⟩ = false
  f1 : w.frozen? ⟨T, 1, none⟩ = false
  f2 : w.frozen? ⟨T, 2, none⟩ = false
theorem T3.of_block {w w1 : World} {T : Nat} {p q r : Int} (h : T3 w T p q r) (hb : w1.heap[T]? = w.heap[T]?) : T3 w1 T p q r :=
  ⟨(World.cell?_of_block (w := w) hb).trans h.c0, (World.cell?_of_block (w := w) hb).trans h.c1, (World.cell?_of_block (w := w) hb).trans h.c2, (World.frozen?_of_block (w := w) hb).trans h.f0, (World.frozen?_of_block (w := w) hb).trans h.f1, (World.frozen?_of_block (w := w) hb).trans h.f2⟩
theorem T3.lt {w : World} {T : Nat} {p q r : Int} (h : T3 w T p q r) : T < w.heap.size := World.block_lt_of_cell? w _ h.c0
theorem T3.below {w w1 : World} {T : Nat} {p q r : Int} (h : T3 w T p q r) (hb : Below w.heap.size w w1) : T3 w1 T p q r := h.of_block (hb.block T h.lt)
theorem T3.grown {w w1 : World} {T R : Nat} {p q r : Int} (h : T3 w T p q r) (hg : w.grownBy w1 (some R)) (hne : T ≠ R) : T3 w1 T p q r := h.of_block (hg.block T h.lt (by simpa using hne))
theorem T3.set0 {w : World} {T : Nat} {p q r : Int} (h : T3 w T p q r) (x : Int) : T3 (w.setCell ⟨T, 0, none⟩ (.int .i64 x)) T x q r :=
  ⟨World.cell?_setCell_same _ _ _ h.c0, by rw [World.cell?_setCell_other _ _ _ _ (by simp)]; exact h.c1, by rw [World.cell?_setCell_other _ _ _ _ (by simp)]; exact h.c2, by rw [World.frozen?_setCell]; exact h.f0, by rw [World.frozen?_setCell]; exact h.f1, by rw [World.frozen?_setCell]; exact h.f2⟩
theorem T3.set1 {w : World} {T : Nat} {p q r : Int} (h : T3 w T p q r) (x : Int) : T3 (w.setCell ⟨T, 1, none⟩ (.int .i64 x)) T p x r :=
  ⟨by rw [World.cell?_setCell_other _ _ _ _ (by simp)]; exact h.c0, World.cell?_setCell_same _ _ _ h.c1, by rw [World.cell?_setCell_other _ _ _ _ (by simp)]; exact h.c2, by rw [World.frozen?_setCell]; exact h.f0, by rw [World.frozen?_setCell]; exact h.f1, by rw [World.frozen?_setCell]; exact h.f2⟩
theorem T3.set2 {w : World} {T : Nat} {p q r : Int} (h : T3 w T p q r) (x : Int) : T3 (w.setCell ⟨T, 2, none⟩ (.int .i64 x)) T p q x :=
  ⟨by rw [World.cell?_setCell_other _ _ _ _ (by simp)]; exact h.c0, by rw [World.cell?_setCell_other _ _ _ _ (by simp)]; exact h.c1, World.cell?_setCell_same _ _ _ h.c2, by rw [World.frozen?_setCell]; exact h.f0, by rw [World.frozen?_setCell]; exact h.f1, by rw [World.frozen?_setCell]; exact h.f2⟩
theorem T3.new (w : World) : T3 (w.alloc (.cells #[.int .i64 0, .int .i64 0, .int .i64 0] 69)) w.heap.size 0 0 0 := by
  have hh := heap_alloc_new w (.cells #[.int .i64 0, .int .i64 0, .int .i64 0] 69)
  refine ⟨box1_at w _ 69 0 _ rfl, box1_at w _ 69 1 _ rfl, box1_at w _ 69 2 _ rfl, ?_, ?_, ?_⟩ <;> (unfold World.frozen?; rw [hh]; rfl)
theorem grown_setNew {w w1 : World} {R T : Nat} (h : w.grownBy w1 (some R)) (hT : w.heap.size ≤ T) (o : Nat) (v : Value) : w.grownBy (w1.setCell ⟨T, o, none⟩ v) (some R) := by
  refine grown_below h ⟨rfl, rfl, rfl, by simp [World.setCell], fun k hk => Below.heap_setCell w1 _ _ k (by simp; omega)⟩
/-- How far the fields of a type have been read. -/
def T3at (m : Nat) (w : World) (T : Nat) (x y z : Int) : Prop := match m with | 0 => T3 w T 0 0 0 | 1 => T3 w T x 0 0 | 2 => T3 w T x y 0 | _ => T3 w T x y z
def offOf (m : Nat) : Nat := match m with | 0 => 0 | 1 => 1 | 2 => 2 | _ => 4

theorem below_setNew (w : World) {B T : Nat} (h : B ≤ T) (o : Nat) (v : Value) : Below B w (w.setCell ⟨T, o, none⟩ v) :=
  ⟨rfl, rfl, rfl, by simp [World.setCell], fun k hk => Below.heap_setCell w _ _ k (by simp; omega)⟩
theorem ty_err {b : List Int} {cnt a R n c C : Nat} {A : Option Addr} {w w' : World} {x : Bad} (h : tysR b cnt true a = .error x) (h2 : Two w w' R C) : TyPost b cnt a R A n c C w (.panicked [wrongV x.1 x.2]) w' := by
  refine ⟨h2, ?_⟩
  rw [h]
theorem rd_cast {w : World} {R : Nat} {A : Option Addr} {n c : Nat} {a a' : Int} (h : RdAt w R A n c a) (e : a = a') : RdAt w R A n c a' := e ▸ h
theorem infoT : (Try.prog.info? 69).map (fun i => (i.zero, i.size, i.bytes)) = some (some (.agg #[.int .i64 0, .int .i64 0, .int .i64 0]), 3, 24) := by kernel_rfl
/-- append(c.Types, t) at a step of a region that draws. -/
theorem step_ty {ops : Array Oper} {o : Oper} {a : Act} {Q : Exit → Act → World → Prop} {K : Act → World → Prop} {E : Prop} {W0 W : World} (x y z : Int) (s r : Operand) (hgd : o.guard = none) (ho : o.op = .call { callee := .builtin .append, args := #[s, r], argTypes := #[25, 25] })
    {B n : Nat} {v : Value} {vs : List Value} (g : Nat) (HO : Hid (W0.ownsRow B 69 3 v n vs)) (hs : a.eval s = v) (hx : a.eval r = .slice (some ⟨g, 0, none⟩) 1 1) (hn : n + 1 ≤ 4294967296) (hB : B ≤ W0.heap.size) (hb : Below W0.heap.size W0 W) (hg : W.heap[g]? = some (.cells #[.int .i64 x, .int .i64 y, .int .i64 z] 69 (0, 0)))
    (h : ∀ v' w', w'.ownsRow B 69 3 v' (n + 1) (vs ++ [.int .i64 x, .int .i64 y, .int .i64 z]) → W.grownBy w' v.ownBlock → K (a.put o.dst v') w') :
    if Region.wanted o (yielded ops a.tmps) = true then Oper.wp Try.prog o a W K Q else E := by
  have hw : Region.wanted o (yielded ops a.tmps) = true := by simp [Region.wanted, hgd]
  rw [if_pos hw]
  obtain ⟨i0, hi, hz0, hz1, hz2⟩ := info_parts infoT
  refine wp_append_own (P := Try.prog) W s r 25 ho B 69 i0 (.agg #[.int .i64 0, .int .i64 0, .int .i64 0]) 3 24 Try.underlying25 hi hz0 hz1 hz2 (by decide) (by decide) v n vs hs (own_below HO.out hb) ⟨g, 0, none⟩ 1 1 [.int .i64 x, .int .i64 y, .int .i64 z] hx rfl ?_ ?_ (by unfold maxLen; omega) (by omega) (Nat.le_trans hB hb.size) ?_
  · have := World.news_of_block (w := W) (B := g) (cs := #[.int .i64 x, .int .i64 y, .int .i64 z]) (t := 69) (fr := (0, 0)) hg
    simpa using this
  · intro u hu
    simp at hu
    rcases hu with rfl | rfl | rfl <;> rfl
  · intro v' w' hown hg' _
    exact h v' w' hown hg'
theorem Two.deep {w w1 w2 : World} {R C : Nat} (h : Two w w1 R C) (hb : Below w.heap.size w1 w2) (hC : C < w.heap.size) : Two w w2 R C :=
  ⟨hb.os.trans h.os, hb.tape.trans h.tape, hb.output.trans h.output, Nat.le_trans h.size hb.size, fun k hk h1 h2 => (hb.block k hk).trans (h.block k hk h1 h2), fun j hj => (World.cell?_of_block (w := w1) (hb.block C hC)).trans (h.cells j hj), fun j => (World.frozen?_of_block (w := w1) (hb.block C hC)).trans (h.free j)⟩
theorem row_ne {w : World} {B e s n : Nat} {v : Value} {vs : List Value} (h : w.ownsRow B e s v n vs) {k t : Nat} {cs : Array Value} {f : Nat × Nat} (hk : w.heap[k]? = some (.cells cs t f)) (hne : e ≠ t) : some k ≠ v.ownBlock := by
  rcases h.2 with ⟨rfl, _⟩ | ⟨g, cap, cur, rfl, _, hh, _⟩
  · simp [Value.ownBlock]
  · intro e2
    simp [Value.ownBlock] at e2
    subst e2
    rw [hk] at hh
    cases hh
    exact hne rfl
theorem ty_ok {b : List Int} {cnt a R n c C : Nat} {A : Option Addr} {w w' : World} {L : List Ty} {v : Value} (h : tysR b cnt true a = .ok L) (h2 : Two w w' R C) (hc : w'.cell? ⟨C, 0, none⟩ = some v) (ho : w'.ownsRow w.heap.size 69 3 v cnt (tysOf L)) (hr : RdAt w' R A n c (a + 4 * cnt)) : TyPost b cnt a R A n c C w (.returned (.tuple #[])) w' := by
  refine ⟨h2, ?_⟩
  rw [h]
  have := ho.1
  rw [tysOf_length] at this
  have e : L.length = cnt := by omega
  exact ⟨rfl, ⟨v, hc, e ▸ ho⟩, hr⟩
theorem frozen_keep {w w1 : World} {C o : Nat} (hb : Below w.heap.size w w1) (hC : C < w.heap.size) (h : w.frozen? ⟨C, o, none⟩ = false) : w1.frozen? ⟨C, o, none⟩ = false := (hb.frozen (p := ⟨C, o, none⟩) hC).trans h
theorem below_size {w w1 : World} {C : Nat} (hb : Below w.heap.size w w1) (hC : C < w.heap.size) : C < w1.heap.size := Nat.lt_of_lt_of_le hC hb.size
theorem frozen_far' {w w1 : World} {C o : Nat} {r : Option Nat} (hg : w.grownBy w1 r) (h : w.frozen? ⟨C, o, none⟩ = false) (hC : C < w.heap.size) (hne : some C ≠ r) : w1.frozen? ⟨C, o, none⟩ = false := (hg.frozen_far ⟨C, o, none⟩ hC hne).trans h
theorem deep_grown {B : Nat} {w w1 w2 : World} {r : Option Nat} (hb : Below w.heap.size w w1) (hg : w1.grownBy w2 r) (hB : B ≤ w.heap.size) (hr : ∀ k, r = some k → B ≤ k) : Below B w w2 :=
  ⟨hg.os.trans hb.os, hg.tape.trans hb.tape, hg.output.trans hb.output, Nat.le_trans hb.size hg.size, fun k hk => (hg.block k (Nat.lt_of_lt_of_le (Nat.lt_of_lt_of_le hk hB) hb.size) (fun e => by have := hr k e.symm; omega)).trans (hb.block k (Nat.lt_of_lt_of_le hk hB))⟩
theorem deep_block {k : Nat} {w w1 w2 : World} {r : Option Nat} (hb : Below w.heap.size w w1) (hg : w1.grownBy w2 r) (hk : k < w.heap.size) (hr : some k ≠ r) : w2.heap[k]? = w.heap[k]? :=
  (hg.block k (Nat.lt_of_lt_of_le hk hb.size) hr).trans (hb.block k hk)
theorem tysR_e1 (b : List Int) (k a : Nat) (f : Bool) (L : List Ty) (h : false = fitsIn f (num b a 1)) : ontoT L (tysR b (k + 1) f a) = .error (59, a) := by
  rw [tysR, if_pos h.symm]; rfl
theorem tysR_e2 (b : List Int) (k a : Nat) (f : Bool) (L : List Ty) (h0 : fitsIn f (num b a 1) = true) (h : false = fitsOut f (num b (a + 1) 1)) : ontoT L (tysR b (k + 1) f a) = .error (59, a + 1) := by
  rw [tysR, if_neg (by simp [h0]), if_pos h.symm]; rfl
theorem tysR_e3 (b : List Int) (k a : Nat) (f : Bool) (L : List Ty) (h0 : fitsIn f (num b a 1) = true) (h1 : fitsOut f (num b (a + 1) 1) = true) (h : false = fitsMost (num b (a + 2) 2)) : ontoT L (tysR b (k + 1) f a) = .error (59, a + 2) := by
  rw [tysR, if_neg (by simp [h0]), if_neg (by simp [h1]), if_pos h.symm]; rfl

def boundsA : Array Value := #[.int .i64 1, .func (.func 72) #[] #[], .func (.func 73) #[] #[], .int .i64 1, .func (.func 74) #[] #[], .func (.func 75) #[] #[], .int .i64 2, .func (.func 76) #[] #[], .func (.func 77) #[] #[]]

set_option maxRecDepth 100000 in
set_option maxHeartbeats 4000000 in
theorem types_any (w0 : World) (R : Nat) (A : Option Addr) (n c cnt a C : Nat) (b : List Int) (w : World) (hb : NumsR w0 .u8 A b) (hy : Byt b) (hn : b.length = n) (hB : Below w0.heap.size w0 w) (hR : w0.heap.size ≤ R) (hC : w0.heap.size ≤ C) (hRC : C ≠ R) (hr : RdAt w R A n c a)
    (hc0 : w.cell? ⟨C, 0, none⟩ = some (.slice none 0 0)) (hcf : w.frozen? ⟨C, 0, none⟩ = false) (h3 : a + 4 * cnt ≤ n) (h4 : cnt ≤ 16384) :
    Calls Try.prog 56 #[.pointer (some ⟨R, 0, none⟩), .pointer (some ⟨C, 0, none⟩), .int .i64 cnt] w (TyPost b cnt a R A n c C w) := by
  have hmx : n ≤ 140737488351232 := by have := hb.1; unfold reach at *; omega
  have HBB := Lib.hid hb; clear hb
  have HY := Lib.hid hy; clear hy
  have HN := Lib.hid hn; clear hn
  have HBL := Lib.hid hB; clear hB
  have HMX := Lib.hid hmx; clear hmx
  have HRD := Lib.hid hr
  have hRw : R < w.heap.size := World.block_lt_of_cell? w _ hr.place
  have hCw : C < w.heap.size := World.block_lt_of_cell? w _ hc0
  clear hr
  go_enter Try.func56, Try.ntmps56
  go_wp2_with fail
  refine (bounds_lit _).mono ?_
  rintro e w1 ⟨rfl, hb1⟩
  have HB1 := Lib.hid hb1
  have hs1 := hb1.size
  have hc1 := cell_keep hb1 hc0
  have hf1 : w1.frozen? ⟨C, 0, none⟩ = false := (hb1.frozen (p := ⟨C, 0, none⟩) hCw).trans hcf
  clear hb1
  go_wp2
  go_loopw [7, 8, 10, 11, 12, 15, 18, 19] (fun _ _ _ _ _ i _ _ wr => ∃ (t : Nat) (L : List Ty) (v : Value), t ≤ cnt ∧ i = .int .i64 t ∧ wr.ownsRow w.heap.size 69 3 v t (tysOf L) ∧ wr.cell? ⟨C, 0, none⟩ = some v ∧ RdAt wr R A n c (a + 4 * t) ∧ Two w wr R C ∧ wr.heap[w1.heap.size]? = some (.cells boundsA 74 (0, 0)) ∧ Hid (ontoT L (tysR b (cnt - t) ((t : Int) == 0) (a + 4 * t)) = tysR b cnt true a)) (fun _ _ _ _ _ i _ _ _ => cnt - (intOf i).toNat)
  case atStart =>
    refine ⟨0, [], .slice none 0 0, by omega, rfl, World.ownsRow_nil _ _ _ _, cell_keep (below_alloc _ _) hc1, by simpa using rd_keep (rd_keep HRD.out HB1.out) (below_alloc _ _), ?_, heap_alloc_new _ _, Lib.hid ?_⟩
    · exact Two.of_grown (grown_any _ (below_step HB1.out (below_alloc _ _))) hCw hRC
    · simp [ontoT_nil]
  case round =>
    obtain ⟨t, L, v, ht, rfl, ho, hcv, hrd, htw, hba, hz⟩ := hrel
    obtain ⟨wo, rfl⟩ : ∃ wo : World, wo = wr := ⟨_, rfl⟩
    have HO := Lib.hid ho
    have HRD2 := Lib.hid hrd
    have HTW := Lib.hid htw
    have HBA := Lib.hid hba
    have hbal : w1.heap.size < wo.heap.size := (Array.getElem?_eq_some_iff.1 hba).1
    have hCo : C < wo.heap.size := by have := HTW.out.size; omega
    have hRo : R < wo.heap.size := by have := HTW.out.size; omega
    have HCV := Lib.hid hcv
    have hcf2 : wo.frozen? ⟨C, 0, none⟩ = false := (HTW.out.free 0).trans hcf
    clear ho htw hrd hc1 hf1 hcv
    by_cases hlt : t < cnt
    · obtain ⟨m0, hm0⟩ : ∃ m, cnt - t = m + 1 := ⟨cnt - t - 1, by omega⟩
      rw [hm0] at hz
      obtain ⟨q, hq⟩ : ∃ q, q = a + 4 * t := ⟨_, rfl⟩
      rw [← hq] at hz
      have HRDq : Hid (RdAt wo R A n c (q : Int)) := Lib.hid (by have := HRD2.out; rw [show ((a : Int) + 4 * (t : Int)) = (q : Int) by omega] at this; exact this)
      have hqn : q + 4 ≤ n := by omega
      obtain ⟨f, hf⟩ : ∃ f, ((t : Int) == 0) = f := ⟨_, rfl⟩
      rw [hf] at hz
      have HZ := hz
      have HQ := Lib.hid hq
      obtain ⟨x, hx⟩ : ∃ x, x = num b q 1 := ⟨_, rfl⟩
      obtain ⟨y, hy2⟩ : ∃ y, y = num b (q + 1) 1 := ⟨_, rfl⟩
      obtain ⟨z3, hz3⟩ : ∃ z3, z3 = num b (q + 2) 2 := ⟨_, rfl⟩
      have HX := Lib.hid hx
      have HYY := Lib.hid hy2
      have HZZ := Lib.hid hz3
      have hbo : Below w0.heap.size w0 wo := HTW.out.below HBL.out hR hC
      have HBO := Lib.hid hbo
      have k0 := cell_of_row wo w1.heap.size 0 boundsA 74 (0, 0) hba
      have k1 := cell_of_row wo w1.heap.size 1 boundsA 74 (0, 0) hba
      have k2 := cell_of_row wo w1.heap.size 2 boundsA 74 (0, 0) hba
      have k3 := cell_of_row wo w1.heap.size 3 boundsA 74 (0, 0) hba
      have k4 := cell_of_row wo w1.heap.size 4 boundsA 74 (0, 0) hba
      have k5 := cell_of_row wo w1.heap.size 5 boundsA 74 (0, 0) hba
      have k6 := cell_of_row wo w1.heap.size 6 boundsA 74 (0, 0) hba
      have k7 := cell_of_row wo w1.heap.size 7 boundsA 74 (0, 0) hba
      have k8 := cell_of_row wo w1.heap.size 8 boundsA 74 (0, 0) hba
      rw [show boundsA[0]? = some (.int .i64 1) from rfl] at k0
      rw [show boundsA[1]? = some (.func (.func 72) #[] #[]) from rfl] at k1
      rw [show boundsA[2]? = some (.func (.func 73) #[] #[]) from rfl] at k2
      rw [show boundsA[3]? = some (.int .i64 1) from rfl] at k3
      rw [show boundsA[4]? = some (.func (.func 74) #[] #[]) from rfl] at k4
      rw [show boundsA[5]? = some (.func (.func 75) #[] #[]) from rfl] at k5
      rw [show boundsA[6]? = some (.int .i64 2) from rfl] at k6
      rw [show boundsA[7]? = some (.func (.func 76) #[] #[]) from rfl] at k7
      rw [show boundsA[8]? = some (.func (.func 77) #[] #[]) from rfl] at k8
      clear hz hq hx hy2 hz3 hbo hba
      go_wp2
      clear k0 k1 k2 k3 k4 k5 k6 k7 k8
      go_loopw [10, 11, 12, 19] (fun _ _ _ j wq => ∃ (m : Nat) (z : Int), m ≤ 3 ∧ z = m ∧ j = .int .i64 z ∧ T3at m wq wo.heap.size x y z3 ∧ RdAt wq R A n c ((q + offOf m : Nat) : Int) ∧ wo.grownBy wq (some R) ∧ okUpto m f ⟨x, y, z3⟩ = true) (fun _ _ _ j _ => 3 - (intOf j).toNat)
      case atStart => exact ⟨0, 0, by omega, rfl, rfl, T3.new _, rd_keep HRDq.out (below_alloc _ _), grown_any _ (below_alloc _ _), rfl⟩
      case round =>
        obtain ⟨m, z, hm, hz, rfl, h3c, hrd, hg, hok⟩ := hrel
        have H3 := Lib.hid h3c
        have HRD3 := Lib.hid hrd
        have HG3 := Lib.hid hg
        have HOK := Lib.hid hok
        have hTl : wo.heap.size < wr.heap.size := by
          have : T3 wr wo.heap.size (match m with | 0 => 0 | _ => x) (match m with | 0 => 0 | 1 => 0 | _ => y) (match m with | 0 => 0 | 1 => 0 | 2 => 0 | _ => z3) := by
            rcases (show m = 0 ∨ m = 1 ∨ m = 2 ∨ m = 3 by omega) with rfl | rfl | rfl | rfl <;> exact h3c
          exact this.lt
        clear h3c hrd hg hok
        have j0 : ∀ w, (Instr.index 74 (.agg boundsA) (.int .i64 0)).run Try.prog w = .ok (.agg #[.int .i64 1, .func (.func 72) #[] #[], .func (.func 73) #[] #[]]) w := fun _ => by kernel_rfl
        have j1 : ∀ w, (Instr.index 74 (.agg boundsA) (.int .i64 1)).run Try.prog w = .ok (.agg #[.int .i64 1, .func (.func 74) #[] #[], .func (.func 75) #[] #[]]) w := fun _ => by kernel_rfl
        have j2 : ∀ w, (Instr.index 74 (.agg boundsA) (.int .i64 2)).run Try.prog w = .ok (.agg #[.int .i64 2, .func (.func 76) #[] #[], .func (.func 77) #[] #[]]) w := fun _ => by kernel_rfl
        unfold boundsA at j0 j1 j2
        rcases (show m = 0 ∨ m = 1 ∨ m = 2 ∨ m = 3 by omega) with rfl | rfl | rfl | rfl
        · obtain rfl : z = 0 := by simpa using hz
          clear hz
          have hRT : wo.heap.size ≠ R := by omega
          have hwr : Below w0.heap.size w0 wr := HBO.out.grown HG3.out (by have := HBO.out.size; omega) (by rintro k ⟨⟩; omega)
          have HC := next_ok w0 R A n c ((q + offOf 0 : Nat) : Int) 1 b (wr.alloc (.cells #[.int .i64 1, .func (.func 72) #[] #[], .func (.func 73) #[] #[]] 73)) HBB.out HY.out HN.out (hwr.alloc hwr.size _) hR (rd_keep HRD3.out (below_alloc _ _)) (by omega) (by omega) (by omega) (by simp [offOf]; omega)
          rw [show (((q + offOf 0 : Nat) : Int)).toNat = q by simp [offOf] <;> omega, show (1 : Int).toNat = 1 from rfl, ← HX.out] at HC
          have HC := Lib.hid HC
          clear hwr
          have HGQ0 := Lib.hid (fits_in f x)
          obtain ⟨g, hg⟩ : ∃ g, g = fitsIn f x := ⟨_, rfl⟩
          rw [← hg] at HGQ0
          have HGQ := Lib.hid hg
          clear hg
          go_wp2_with fail
          refine HC.out.mono ?_
          rintro e w2 ⟨rfl, hrd2, hg2⟩
          have hfv : w2.cell? ⟨wr.heap.size, 1, none⟩ = some (.func (.func 72) #[] #[]) := hg2.cell (box1_at _ _ _ _ _ rfl) (by simp; omega)
          have hvv : w2.cell? ⟨wr.heap.size, 2, none⟩ = some (.func (.func 73) #[] #[]) := hg2.cell (box1_at _ _ _ _ _ rfl) (by simp; omega)
          have hT2 := ((show T3 wr wo.heap.size 0 0 0 from H3.out).below (below_alloc _ _)).grown hg2 hRT
          have v0 := hT2.c0
          have f0 := hT2.f0
          have HT2 := Lib.hid hT2
          have HRD4 := Lib.hid hrd2
          have HG4 : Hid (wo.grownBy w2 (some R)) := Lib.hid (grown_trans (grown_below HG3.out ((Below.refl _ _).alloc HG3.out.size _)) hg2)
          clear hrd2 hg2 hT2
          go_wp2_with fail
          refine (HGQ0.out w2).mono ?_
          rintro e w3 ⟨rfl, rfl⟩
          cases g
          · go_wp2_with fail
            refine (ask_no _ _ _ _).mono ?_
            rintro e w3 ⟨rfl, rfl⟩
            have hE : tysR b cnt true a = .error (59, q) := by
              rw [← HZ.out]; exact tysR_e1 b m0 q f L (by rw [← HX.out]; exact HGQ.out)
            have hpp := ty_err (A := A) (n := n) (c := c) hE (HTW.out.trans (Two.of_grown HG4.out hCo hRC))
            refine And.intro rfl ?_
            rw [show ((q : Int) + ((offOf 0 : Nat) : Int)) = (q : Int) by simp [offOf]]
            exact hpp
          · go_wp2_with fail
            refine (ask_yes _ _ _ _).mono ?_
            rintro e w3 ⟨rfl, rfl⟩
            go_wp2_with fail
            refine (value_in _ _).mono ?_
            rintro e w4 ⟨rfl, rfl⟩
            go_wp2
            go_roundw
            case rel =>
              refine ⟨1, 1, by omega, rfl, by first | rfl | go_num, HT2.out.set0 x, ?_, grown_setNew HG4.out (Nat.le_refl _) _ _, ?_⟩
              · exact rd_cast (rd_below (B := wo.heap.size) HRD4.out (below_setNew _ (Nat.le_refl _) 0 (.int .i64 x)) hRo) (by simp [offOf] <;> omega)
              · have h1 := HOK.out
                have h2 := HGQ.out
                simp [okUpto, tyOk] at h1 ⊢
                simp [← h2, h1]
            case measure => simp [intOf]
        · obtain rfl : z = 1 := by simpa using hz
          clear hz
          have hRT : wo.heap.size ≠ R := by omega
          have hwr : Below w0.heap.size w0 wr := HBO.out.grown HG3.out (by have := HBO.out.size; omega) (by rintro k ⟨⟩; omega)
          have HC := next_ok w0 R A n c ((q + offOf 1 : Nat) : Int) 1 b (wr.alloc (.cells #[.int .i64 1, .func (.func 74) #[] #[], .func (.func 75) #[] #[]] 73)) HBB.out HY.out HN.out (hwr.alloc hwr.size _) hR (rd_keep HRD3.out (below_alloc _ _)) (by omega) (by omega) (by omega) (by simp [offOf]; omega)
          rw [show (((q + offOf 1 : Nat) : Int)).toNat = (q + 1) by simp [offOf] <;> omega, show (1 : Int).toNat = 1 from rfl, ← HYY.out] at HC
          have HC := Lib.hid HC
          clear hwr
          have HGQ0 := Lib.hid (fits_out f y)
          obtain ⟨g, hg⟩ : ∃ g, g = fitsOut f y := ⟨_, rfl⟩
          rw [← hg] at HGQ0
          have HGQ := Lib.hid hg
          clear hg
          go_wp2_with fail
          refine HC.out.mono ?_
          rintro e w2 ⟨rfl, hrd2, hg2⟩
          have hfv : w2.cell? ⟨wr.heap.size, 1, none⟩ = some (.func (.func 74) #[] #[]) := hg2.cell (box1_at _ _ _ _ _ rfl) (by simp; omega)
          have hvv : w2.cell? ⟨wr.heap.size, 2, none⟩ = some (.func (.func 75) #[] #[]) := hg2.cell (box1_at _ _ _ _ _ rfl) (by simp; omega)
          have hT2 := ((show T3 wr wo.heap.size x 0 0 from H3.out).below (below_alloc _ _)).grown hg2 hRT
          have v0 := hT2.c1
          have f0 := hT2.f1
          have HT2 := Lib.hid hT2
          have HRD4 := Lib.hid hrd2
          have HG4 : Hid (wo.grownBy w2 (some R)) := Lib.hid (grown_trans (grown_below HG3.out ((Below.refl _ _).alloc HG3.out.size _)) hg2)
          clear hrd2 hg2 hT2
          go_wp2_with fail
          refine (HGQ0.out w2).mono ?_
          rintro e w3 ⟨rfl, rfl⟩
          cases g
          · go_wp2_with fail
            refine (ask_no _ _ _ _).mono ?_
            rintro e w3 ⟨rfl, rfl⟩
            have hE : tysR b cnt true a = .error (59, (q + 1)) := by
              rw [← HZ.out]; exact tysR_e2 b m0 q f L (by rw [← HX.out]; exact HOK.out) (by rw [← HYY.out]; exact HGQ.out)
            have hpp := ty_err (A := A) (n := n) (c := c) hE (HTW.out.trans (Two.of_grown HG4.out hCo hRC))
            refine And.intro rfl ?_
            rw [show ((q : Int) + ((offOf 1 : Nat) : Int)) = ((q : Int) + 1) by simp [offOf]]
            exact hpp
          · go_wp2_with fail
            refine (ask_yes _ _ _ _).mono ?_
            rintro e w3 ⟨rfl, rfl⟩
            go_wp2_with fail
            refine (value_out _ _).mono ?_
            rintro e w4 ⟨rfl, rfl⟩
            go_wp2
            go_roundw
            case rel =>
              refine ⟨2, 2, by omega, rfl, by first | rfl | go_num, HT2.out.set1 y, ?_, grown_setNew HG4.out (Nat.le_refl _) _ _, ?_⟩
              · exact rd_cast (rd_below (B := wo.heap.size) HRD4.out (below_setNew _ (Nat.le_refl _) 1 (.int .i64 y)) hRo) (by simp [offOf] <;> omega)
              · have h1 := HOK.out
                have h2 := HGQ.out
                simp [okUpto, tyOk] at h1 ⊢
                simp [← h2, h1]
            case measure => simp [intOf]
        · obtain rfl : z = 2 := by simpa using hz
          clear hz
          have hRT : wo.heap.size ≠ R := by omega
          have hwr : Below w0.heap.size w0 wr := HBO.out.grown HG3.out (by have := HBO.out.size; omega) (by rintro k ⟨⟩; omega)
          have HC := next_ok w0 R A n c ((q + offOf 2 : Nat) : Int) 2 b (wr.alloc (.cells #[.int .i64 2, .func (.func 76) #[] #[], .func (.func 77) #[] #[]] 73)) HBB.out HY.out HN.out (hwr.alloc hwr.size _) hR (rd_keep HRD3.out (below_alloc _ _)) (by omega) (by omega) (by omega) (by simp [offOf]; omega)
          rw [show (((q + offOf 2 : Nat) : Int)).toNat = (q + 2) by simp [offOf] <;> omega, show (2 : Int).toNat = 2 from rfl, ← HZZ.out] at HC
          have HC := Lib.hid HC
          clear hwr
          have HGQ0 := Lib.hid (fits_most f z3)
          obtain ⟨g, hg⟩ : ∃ g, g = fitsMost z3 := ⟨_, rfl⟩
          rw [← hg] at HGQ0
          have HGQ := Lib.hid hg
          clear hg
          go_wp2_with fail
          refine HC.out.mono ?_
          rintro e w2 ⟨rfl, hrd2, hg2⟩
          have hfv : w2.cell? ⟨wr.heap.size, 1, none⟩ = some (.func (.func 76) #[] #[]) := hg2.cell (box1_at _ _ _ _ _ rfl) (by simp; omega)
          have hvv : w2.cell? ⟨wr.heap.size, 2, none⟩ = some (.func (.func 77) #[] #[]) := hg2.cell (box1_at _ _ _ _ _ rfl) (by simp; omega)
          have hT2 := ((show T3 wr wo.heap.size x y 0 from H3.out).below (below_alloc _ _)).grown hg2 hRT
          have v0 := hT2.c2
          have f0 := hT2.f2
          have HT2 := Lib.hid hT2
          have HRD4 := Lib.hid hrd2
          have HG4 : Hid (wo.grownBy w2 (some R)) := Lib.hid (grown_trans (grown_below HG3.out ((Below.refl _ _).alloc HG3.out.size _)) hg2)
          clear hrd2 hg2 hT2
          go_wp2_with fail
          refine (HGQ0.out w2).mono ?_
          rintro e w3 ⟨rfl, rfl⟩
          cases g
          · go_wp2_with fail
            refine (ask_no _ _ _ _).mono ?_
            rintro e w3 ⟨rfl, rfl⟩
            have hE : tysR b cnt true a = .error (59, (q + 2)) := by
              rw [← HZ.out]; exact tysR_e3 b m0 q f L (by have := HOK.out; simp [okUpto] at this; rw [← HX.out]; exact this.1) (by have := HOK.out; simp [okUpto] at this; rw [← HYY.out]; exact this.2) (by rw [← HZZ.out]; exact HGQ.out)
            have hpp := ty_err (A := A) (n := n) (c := c) hE (HTW.out.trans (Two.of_grown HG4.out hCo hRC))
            refine And.intro rfl ?_
            rw [show ((q : Int) + ((offOf 2 : Nat) : Int)) = ((q : Int) + 2) by simp [offOf]]
            exact hpp
          · go_wp2_with fail
            refine (ask_yes _ _ _ _).mono ?_
            rintro e w3 ⟨rfl, rfl⟩
            go_wp2_with fail
            refine (value_most _ _).mono ?_
            rintro e w4 ⟨rfl, rfl⟩
            go_wp2
            go_roundw
            case rel =>
              refine ⟨3, 3, by omega, rfl, by first | rfl | go_num, HT2.out.set2 z3, ?_, grown_setNew HG4.out (Nat.le_refl _) _ _, ?_⟩
              · exact rd_cast (rd_below (B := wo.heap.size) HRD4.out (below_setNew _ (Nat.le_refl _) 2 (.int .i64 z3)) hRo) (by simp [offOf] <;> omega)
              · have h1 := HOK.out
                have h2 := HGQ.out
                simp [okUpto, tyOk] at h1 ⊢
                simp [← h2, h1]
            case measure => simp [intOf]
        · obtain rfl : z = 3 := by simpa using hz
          clear hz
          have H33 : Hid (T3 wr wo.heap.size x y z3) := H3
          have HCV3 : Hid (wr.cell? ⟨C, 0, none⟩ = some v) := Lib.hid (HG3.out.cell HCV.out (by simpa using hRC))
          have hcf3 : wr.frozen? ⟨C, 0, none⟩ = false := by
            have := (Two.of_grown HG3.out hCo hRC).free 0
            rw [this]; exact hcf2
          have HON : Hid (wr.ownsRow w.heap.size 69 3 v t (tysOf L)) := Lib.hid (own_other HO.out HG3.out (.inr (fun e => by have := own_ge HO.out R e; omega)))
          obtain ⟨vs, hvs⟩ : ∃ vs, vs = tysOf L := ⟨_, rfl⟩
          rw [← hvs] at HON
          have HVS := Lib.hid hvs
          clear hvs
          have hwr : w.heap.size ≤ wr.heap.size := by have := HTW.out.size; omega
          have HCF3 := Lib.hid hcf3
          have hCr : C < wr.heap.size := Nat.lt_of_lt_of_le hCo HG3.out.size
          have hcv3 := HCV3.out
          have h30 := H33.out.c0
          have h31 := H33.out.c1
          have h32 := H33.out.c2
          have HNC : Hid (some C ≠ v.ownBlock) := Lib.hid (fun e => by have := own_ge HO.out C e.symm; omega)
          have HNT : Hid (some wo.heap.size ≠ v.ownBlock) := Lib.hid (fun e => by have := own_lt HO.out _ e.symm; omega)
          have HNB : Hid (some w1.heap.size ≠ v.ownBlock) := Lib.hid (row_ne HO.out HBA.out (by decide))
          have TST : (fun w' : World => w'.cell? ⟨C, 0, none⟩ = some v ∧ w'.frozen? ⟨C, 0, none⟩ = false ∧ w'.cell? ⟨wo.heap.size, 0, none⟩ = some (.int .i64 x) ∧ w'.cell? ⟨wo.heap.size, 1, none⟩ = some (.int .i64 y) ∧ w'.cell? ⟨wo.heap.size, 2, none⟩ = some (.int .i64 z3)) (wr.alloc (.cells #[.int .i64 x, .int .i64 y, .int .i64 z3] 69)).drew := by
            exact ⟨cell_keep (by with_reducible first | exact Below.refl _ _ | exact (Below.refl _ _).drew | exact below_alloc _ _ | exact (below_alloc _ _).drew | exact below_step (Below.refl _ _).drew (below_alloc _ _)) HCV3.out, frozen_keep (by with_reducible first | exact Below.refl _ _ | exact (Below.refl _ _).drew | exact below_alloc _ _ | exact (below_alloc _ _).drew | exact below_step (Below.refl _ _).drew (below_alloc _ _)) hCr HCF3.out, cell_keep (by with_reducible first | exact Below.refl _ _ | exact (Below.refl _ _).drew | exact below_alloc _ _ | exact (below_alloc _ _).drew | exact below_step (Below.refl _ _).drew (below_alloc _ _)) H33.out.c0, cell_keep (by with_reducible first | exact Below.refl _ _ | exact (Below.refl _ _).drew | exact below_alloc _ _ | exact (below_alloc _ _).drew | exact below_step (Below.refl _ _).drew (below_alloc _ _)) H33.out.c1, cell_keep (by with_reducible first | exact Below.refl _ _ | exact (Below.refl _ _).drew | exact below_alloc _ _ | exact (below_alloc _ _).drew | exact below_step (Below.refl _ _).drew (below_alloc _ _)) H33.out.c2⟩
          go_wp2_with fail
          obtain ⟨ts1, ts2, ts3, ts4, ts5⟩ := TST
          go_region_law
            ((first
              | (refine step_ty x y z3 (.tmp 48) (.tmp 50) rfl rfl _ HON rfl rfl (by omega) hwr (by with_reducible first | exact Below.refl _ _ | exact (Below.refl _ _).drew | exact below_alloc _ _ | exact (below_alloc _ _).drew | exact below_step (Below.refl _ _).drew (below_alloc _ _)) (by with_reducible first | exact box_new' _ _ _ (by first | rfl | simp) | exact box_dr (box_new' _ _ _ (by first | rfl | simp))) ?_; intro v4 w4 ho hg
                 have hS4 : w4.cell? ⟨C, 0, none⟩ = some v ∧ w4.frozen? ⟨C, 0, none⟩ = false ∧ w4.cell? ⟨wo.heap.size, 0, none⟩ = some (.int .i64 x) ∧ w4.cell? ⟨wo.heap.size, 1, none⟩ = some (.int .i64 y) ∧ w4.cell? ⟨wo.heap.size, 2, none⟩ = some (.int .i64 z3) := ⟨hg.cell (cell_keep (by with_reducible first | exact Below.refl _ _ | exact (Below.refl _ _).drew | exact below_alloc _ _ | exact (below_alloc _ _).drew | exact below_step (Below.refl _ _).drew (below_alloc _ _)) HCV3.out) HNC.out, frozen_far' hg (frozen_keep (by with_reducible first | exact Below.refl _ _ | exact (Below.refl _ _).drew | exact below_alloc _ _ | exact (below_alloc _ _).drew | exact below_step (Below.refl _ _).drew (below_alloc _ _)) hCr HCF3.out) (below_size (by with_reducible first | exact Below.refl _ _ | exact (Below.refl _ _).drew | exact below_alloc _ _ | exact (below_alloc _ _).drew | exact below_step (Below.refl _ _).drew (below_alloc _ _)) hCr) HNC.out, hg.cell (cell_keep (by with_reducible first | exact Below.refl _ _ | exact (Below.refl _ _).drew | exact below_alloc _ _ | exact (below_alloc _ _).drew | exact below_step (Below.refl _ _).drew (below_alloc _ _)) H33.out.c0) HNT.out, hg.cell (cell_keep (by with_reducible first | exact Below.refl _ _ | exact (Below.refl _ _).drew | exact below_alloc _ _ | exact (below_alloc _ _).drew | exact below_step (Below.refl _ _).drew (below_alloc _ _)) H33.out.c1) HNT.out, hg.cell (cell_keep (by with_reducible first | exact Below.refl _ _ | exact (Below.refl _ _).drew | exact below_alloc _ _ | exact (below_alloc _ _).drew | exact below_step (Below.refl _ _).drew (below_alloc _ _)) H33.out.c2) HNT.out⟩
                 have HS4 := Lib.hid hS4
                 have HO4 := Lib.hid ho
                 have HB4 : Hid (Below w.heap.size wr w4) := Lib.hid (deep_grown (by with_reducible first | exact Below.refl _ _ | exact (Below.refl _ _).drew | exact below_alloc _ _ | exact (below_alloc _ _).drew | exact below_step (Below.refl _ _).drew (below_alloc _ _)) hg hwr (fun k hk => own_ge HON.out k hk))
                 have HK4 : Hid (w4.heap[w1.heap.size]? = wr.heap[w1.heap.size]?) := Lib.hid (deep_block (by with_reducible first | exact Below.refl _ _ | exact (Below.refl _ _).drew | exact below_alloc _ _ | exact (below_alloc _ _).drew | exact below_step (Below.refl _ _).drew (below_alloc _ _)) hg (by omega) HNB.out)
                 obtain ⟨s1, s2, _, _, _⟩ := hS4
                 obtain ⟨A4, c4, rfl, _⟩ := own_shape ho
                 clear ho hg)))
          all_goals go_wp2_with fail
          all_goals go_roundw
          case rel | rel | rel =>
            have hrr := rd_below HRD3.out HB4.out hRw
            refine ⟨t + 1, L ++ [⟨x, y, z3⟩], _, by omega, by go_num, ?_, World.cell?_setCell_same _ _ _ s1, ?_, ?_, ?_, Lib.hid ?_⟩
            · rw [tysOf_append]
              refine own_other (w := w4) ?_ (grown_setCell _ C 0 _) (.inr fun e => by have := own_ge HO4.out C e; omega)
              rw [← HVS.out]
              exact HO4.out
            · exact rd_cast (rd_grown hrr (grown_setCell _ C 0 _) (Ne.symm hRC)) (by have := HQ.out; simp [offOf]; omega)
            · exact ((HTW.out.trans (Two.of_grown HG3.out hCo hRC)).deep HB4.out hCw).trans (Two.set _)
            · refine (Below.heap_setCell w4 _ _ _ (by simp; omega)).trans (HK4.out.trans ?_)
              exact (HG3.out.block _ (by omega) (by simp; omega)).trans HBA.out
            · have h1 : tyOk f ⟨x, y, z3⟩ = true := HOK.out
              simp only [tyOk, Bool.and_eq_true] at h1
              have h2 := tysR_step b m0 q f (by rw [← HX.out]; exact h1.1) (by rw [← HYY.out]; exact h1.2.1) (by rw [← HZZ.out]; exact h1.2.2) L
              rw [← HX.out, ← HYY.out, ← HZZ.out, HZ.out] at h2
              rw [h2, show cnt - (t + 1) = m0 by omega, show a + 4 * (t + 1) = q + 4 by have := HQ.out; omega]
              have : (((t + 1 : Nat) : Int) == 0) = false := by simp; omega
              rw [this]
          all_goals exact own_meas hlt
    · obtain rfl : t = cnt := by omega
      go_wp2
      go_end0
      rw [Nat.sub_self, tysR] at hz
      refine ty_ok (v := v) ?_ HTW.out HCV.out HO.out HRD2.out
      rw [← hz.out]
      simp [ontoT]
end Go.Proofs.Ytkbboepopcebaaa
