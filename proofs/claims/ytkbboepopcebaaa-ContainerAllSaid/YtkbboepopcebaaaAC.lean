/- The closure that takes up the reader's wrong. -/
import Derived.Test.YtkbboepopcebaaaAA
import Derived.Recover
namespace Go.Proofs.Ytkbboepopcebaaa
open Go.RowKit

theorem Below.and {B : Nat} {w w1 w2 : World} (h : Below B w w1) (k : Below B w1 w2) : Below B w w2 :=
  ⟨k.os.trans h.os, k.tape.trans h.tape, k.output.trans h.output, Nat.le_trans h.size k.size, fun i hi => (k.block i hi).trans (h.block i hi)⟩
theorem info28 : (Try.prog.info? 28).map (fun i => (i.zero, i.size)) = some (some (.agg #[.slice none 0 0, .slice none 0 0, .slice none 0 0, .slice none 0 0, .int .i64 0]), 5) := by kernel_rfl
theorem info43 : (Try.prog.info? 43).map (fun i => (i.zero, i.size)) = some (some (.agg #[.int .i64 0, .slice none 0 0, .int .i64 0, .int .i64 0]), 4) := by kernel_rfl
theorem catch_idle (p q : Addr) (w : World) : CallsD Try.prog 51 #[.pointer (some p), .pointer (some q)] .returning w fun e u' w' => e = .returned (.tuple #[]) ∧ u' = .returning ∧ w' = w := by
  refine callsD_of_wpS Try.func51 rfl fun c₀ cs hu => ?_
  apply wpS_seq
  apply wpS_region
  simp [wpOpsS, go_sem, recoverD, hu, Try.ntmps51, Exit.thenS]
  apply wpS_seq
  apply wpS_region
  simp [wpOpsS, go_sem, recoverD, Exit.thenS]
  refine wpS_cond (t := false) (by simp [Act.eval, Array.replicate]) ?_
  simp only [Bool.false_eq_true, if_false]
  refine wpS_of_wp (wp_skip ?_)
  cases c₀
  simp_all [bodyPostS, results, Try.results51]

set_option maxRecDepth 100000 in
theorem catch_wrong (C E : Nat) (code a : Int) (w : World) (c0 c1 c2 c3 c4 e0 e1 e2 e3 : Value) (hC0 : w.cell? ⟨C, 0, none⟩ = some c0) (hC1 : w.cell? ⟨C, 1, none⟩ = some c1) (hC2 : w.cell? ⟨C, 2, none⟩ = some c2) (hC3 : w.cell? ⟨C, 3, none⟩ = some c3) (hC4 : w.cell? ⟨C, 4, none⟩ = some c4)
    (hE0 : w.cell? ⟨E, 0, none⟩ = some e0) (hE1 : w.cell? ⟨E, 1, none⟩ = some e1) (hE2 : w.cell? ⟨E, 2, none⟩ = some e2) (hE3 : w.cell? ⟨E, 3, none⟩ = some e3)
    (fC : ∀ j, w.frozen? ⟨C, j, none⟩ = false) (fE : ∀ j, w.frozen? ⟨E, j, none⟩ = false) (hCE : C ≠ E) :
    CallsD Try.prog 51 #[.pointer (some ⟨C, 0, none⟩), .pointer (some ⟨E, 0, none⟩)] (.panicking [wrongV code a]) w fun e u' w' => e = .returned (.tuple #[]) ∧ u' = .panicking [{ wrongV code a with recovered := true }] ∧ (∀ B, B ≤ C → B ≤ E → B ≤ w.heap.size → Below B w w') ∧ w'.cell? ⟨C, 0, none⟩ = some (.slice none 0 0) ∧ w'.cell? ⟨C, 1, none⟩ = some (.slice none 0 0) ∧ w'.cell? ⟨C, 2, none⟩ = some (.slice none 0 0) ∧ w'.cell? ⟨C, 3, none⟩ = some (.slice none 0 0) ∧ w'.cell? ⟨C, 4, none⟩ = some (.int .i64 0) ∧ w'.cell? ⟨E, 0, none⟩ = some (.int .i64 code) ∧ w'.cell? ⟨E, 1, none⟩ = some (.slice none 0 0) ∧ w'.cell? ⟨E, 2, none⟩ = some (.int .i64 0) ∧ w'.cell? ⟨E, 3, none⟩ = some (.int .i64 a) := by
  refine callsD_of_wpS Try.func51 rfl fun c₀ cs hu => ?_
  apply wpS_seq
  apply wpS_region
  simp [wpOpsS, go_sem, recoverD, hu, Try.ntmps51, Exit.thenS, wrongV]
  apply wpS_seq
  apply wpS_region
  simp [wpOpsS, go_sem, recoverD, Exit.thenS]
  refine wpS_cond (t := true) (by simp [Act.eval, Array.replicate]) ?_
  simp only [if_true]
  refine wpS_of_wp ?_
  have hta : ∀ w, (Instr.typeAssert (.iface 83 (.agg #[.int .i64 code, .int .i64 a])) 20 83 false).run Try.prog w = .ok (.agg #[.int .i64 code, .int .i64 a]) w := fun _ => rfl
  have hb28 : ∀ w, (Instr.build 28 #[]).run Try.prog w = .ok (.agg #[.slice none 0 0, .slice none 0 0, .slice none 0 0, .slice none 0 0, .int .i64 0]) w := fun _ => by kernel_rfl
  have hb43 : ∀ w, (Instr.build 43 #[(0, .int .i64 code), (3, .int .i64 a)]).run Try.prog w = .ok (.agg #[.int .i64 code, .slice none 0 0, .int .i64 0, .int .i64 a]) w := fun _ => by kernel_rfl
  obtain ⟨v, hv⟩ : ∃ v, v = Value.iface 83 (.agg #[.int .i64 code, .int .i64 a]) := ⟨_, rfl⟩
  change Code.wp _ _ _ { tmps := #[.pointer (some ⟨C, 0, none⟩), .pointer (some ⟨E, 0, none⟩), .iface 83 (.agg #[.int .i64 code, .int .i64 a]), undef, .iface 83 (.agg #[.int .i64 code, .int .i64 a]), .iface 83 (.agg #[.int .i64 code, .int .i64 a]), .bool true, undef, undef, undef, undef, undef, undef, undef, undef], defers := [] } w
  go_wp2_with fail
  have hCl := World.block_lt_of_cell? w _ hC0
  have hEl := World.block_lt_of_cell? w _ hE0
  have hCl : C < w.heap.size := hCl
  have hEl : E < w.heap.size := hEl
  obtain ⟨W, hW⟩ : ∃ W, W = w.alloc (.cells #[.int .i64 code, .int .i64 a] 83) := ⟨_, rfl⟩
  obtain ⟨T, hT⟩ : ∃ T, T = w.heap.size := ⟨_, rfl⟩
  have t0 : W.cell? ⟨T, 0, none⟩ = some (.int .i64 code) := by rw [hW, hT]; exact box1_at _ _ _ _ _ rfl
  have t1 : W.cell? ⟨T, 1, none⟩ = some (.int .i64 a) := by rw [hW, hT]; exact box1_at _ _ _ _ _ rfl
  have hB : Below w.heap.size w W := by rw [hW]; exact below_alloc _ _
  replace hC0 := cell_keep hB hC0
  replace hC1 := cell_keep hB hC1
  replace hC2 := cell_keep hB hC2
  replace hC3 := cell_keep hB hC3
  replace hC4 := cell_keep hB hC4
  replace hE0 := cell_keep hB hE0
  replace hE1 := cell_keep hB hE1
  replace hE2 := cell_keep hB hE2
  replace hE3 := cell_keep hB hE3
  replace fC : ∀ j, W.frozen? ⟨C, j, none⟩ = false := fun j => frozen_keep hB hCl (fC j)
  replace fE : ∀ j, W.frozen? ⟨E, j, none⟩ = false := fun j => frozen_keep hB hEl (fE j)
  have nC : ¬ C = T := by omega
  have nE : ¬ E = T := by omega
  have nC' : ¬ T = C := by omega
  have nE' : ¬ T = E := by omega
  have nEC : ¬ E = C := fun e => hCE e.symm
  rw [← hW, ← hT]
  have HB := Lib.hid hB
  clear hB hW hT hCl hEl hu
  go_region
  refine And.intro rfl ?_
  refine ⟨_, rfl, _, results_none rfl _ _ _, rfl, rfl, ?_⟩
  refine ⟨fun B h1 h2 h3 => ?_, ?_, ?_, ?_, ?_, ?_, ?_, ?_, ?_, ?_⟩
  · have hb : Below B w W := ⟨HB.out.os, HB.out.tape, HB.out.output, HB.out.size, fun k hk => HB.out.block k (Nat.lt_of_lt_of_le hk h3)⟩
    exact Below.drew (Below.and (Below.and (Below.and (Below.and (Below.and (Below.and (Below.and (Below.and (Below.and hb (below_setNew _ h1 _ _)) (below_setNew _ h1 _ _)) (below_setNew _ h1 _ _)) (below_setNew _ h1 _ _)) (below_setNew _ h1 _ _)) (below_setNew _ h2 _ _)) (below_setNew _ h2 _ _)) (below_setNew _ h2 _ _)) (below_setNew _ h2 _ _))
  all_goals go_simp
end Go.Proofs.Ytkbboepopcebaaa
namespace Go.Proofs.Ytkbboepopcebaaa
open Go.RowKit

/-- A byte that must be the one asked for. -/
def needB {α : Type} (b : List Int) (a : Nat) (v er : Int) (k : Except Bad α) : Except Bad α :=
  if b.length < a + 1 then .error (50, b.length) else if num b a 1 = v then k else .error (er, a)
/-- A number of so many bytes. -/
def readB {α : Type} (b : List Int) (a s : Nat) (k : Int → Except Bad α) : Except Bad α :=
  if b.length < a + s then .error (50, b.length) else k (num b a s)
/-- A demand. -/
def askB {α : Type} (p : Bool) (er at_ : Int) (k : Except Bad α) : Except Bad α := if p = true then k else .error (er, at_)
def takeB {α β : Type} (x : Except Bad α) (k : α → Except Bad β) : Except Bad β := match x with | .ok a => k a | .error e => .error e

/-- The parts behind the header, and the end. -/
def parseEnd (b : List Int) (o : Bool) (four n : Int) (codes subs : List Int) (a : Nat) : Except Bad Cont :=
  readB b a 2 fun size =>
  needB b (a + 2) 0 53 <|
  if (b.length : Int) < (a + 3 : Nat) + four + codes.sum + subs.sum ∨ (o = false ∧ (b.length : Int) < (a + 3 : Nat) + four + codes.sum + subs.sum + size) then .error (50, b.length) else
  askB (decide ((b.length : Int) ≤ (a + 3 : Nat) + four + codes.sum + subs.sum + size)) 58 ((a + 3 : Nat) + four + codes.sum + subs.sum + size) <|
  takeB (tysR b n.toNat true (a + 3)) fun ts =>
  .ok ⟨ts, cutL b codes (a + 3 + 4 * n.toNat), cutL b subs (a + 3 + 4 * n.toNat + codes.sum.toNat), b.drop (a + 3 + 4 * n.toNat + codes.sum.toNat + subs.sum.toNat), size⟩
/-- What Parse answers, in plain words. -/
def parse (b : List Int) (o : Bool) : Except Bad Cont :=
  needB b 0 239 51 <| needB b 1 0 51 <| needB b 2 1 52 <| needB b 3 1 53 <|
  readB b 4 2 fun four =>
  askB (decide (0 < four ∧ four % 4 = 0 ∧ four ≤ 4096)) 54 4 <|
  needB b 6 2 53 <|
  readB b 7 2 fun n =>
  askB (decide (4 * n = four)) 55 7 <|
  takeB (szs b 2 n.toNat 9) fun codes =>
  readB b (9 + 2 * n.toNat) 1 fun kind =>
  askB (decide (kind = 3 ∨ kind = 255)) 53 (9 + 2 * n.toNat : Nat) <|
  if kind = 3 then
    readB b (10 + 2 * n.toNat) 2 fun m =>
    askB (decide (0 < m ∧ m ≤ 256)) 57 (10 + 2 * n.toNat : Nat) <|
    takeB (szs b 4 m.toNat (12 + 2 * n.toNat)) fun subs =>
    needB b (12 + 2 * n.toNat + 4 * m.toNat) 255 53 <|
    parseEnd b o four n codes subs (13 + 2 * n.toNat + 4 * m.toNat)
  else parseEnd b o four n codes [] (10 + 2 * n.toNat)
def contZ : Value := .agg #[.slice none 0 0, .slice none 0 0, .slice none 0 0, .slice none 0 0, .int .i64 0]
def rejV (x y : Int) : Value := .agg #[.int .i64 x, .slice none 0 0, .int .i64 0, .int .i64 y]
/-- What Parse hands back: the container's parts each in an array of the call's own, apart. -/
structure PContV (w : World) (B : Nat) (v : Value) (c : Cont) : Prop where
  form : ∃ T C S D, v = .agg #[T, C, S, D, .int .i64 c.size] ∧ w.ownsRow B 69 3 T c.types.length (tysOf c.types) ∧ PartsO w B C c.codes ∧ PartsO w B S c.subs ∧ w.ownsRow B 5 1 D c.data.length (nums .u8 c.data)
def PPost (b : List Int) (o : Bool) (w : World) (e : Ending) (w' : World) : Prop :=
  Below w.heap.size w w' ∧ match parse b o with
    | .ok c => ∃ v, e = .returned (.tuple #[v, rejV 0 0]) ∧ PContV w' w.heap.size v c
    | .error x => e = .returned (.tuple #[contZ, rejV x.1 x.2])
/-- The two result variables. -/
structure Vars (w : World) (C E : Nat) : Prop where
  c : ∀ j, j < 5 → ∃ v, w.cell? ⟨C, j, none⟩ = some v
  e : ∀ j, j < 4 → ∃ v, w.cell? ⟨E, j, none⟩ = some v
  fc : ∀ j, w.frozen? ⟨C, j, none⟩ = false
  fe : ∀ j, w.frozen? ⟨E, j, none⟩ = false
  ne : C ≠ E

set_option maxRecDepth 100000 in
theorem parse_bad {b : List Int} {o : Bool} {w0 w : World} {t : Array Value} {C E : Nat} {x y : Int} (hp : parse b o = .error (x, y)) (h4 : t[4]?.getD undef = .pointer (some ⟨C, 0, none⟩)) (h5 : t[5]?.getD undef = .pointer (some ⟨E, 0, none⟩)) (hV : Vars w C E) (hB : Below w0.heap.size w0 w) (hC : w0.heap.size ≤ C) (hE : w0.heap.size ≤ E) :
    bodyPostD Try.prog Try.f29 (PPost b o w0) (Exit.panic [wrongV x y]) { tmps := t, defers := [{ target := Target.fn (Fn.func 51) #[.pointer (some ⟨C, 0, none⟩), .pointer (some ⟨E, 0, none⟩)], args := #[] }] } w := by
  refine leaves_cons (f := 51) (args := #[.pointer (some ⟨C, 0, none⟩), .pointer (some ⟨E, 0, none⟩)]) (by simp) (by simp [go_sem]) ?_
  obtain ⟨c0, k0⟩ := hV.c 0 (by omega)
  obtain ⟨c1, k1⟩ := hV.c 1 (by omega)
  obtain ⟨c2, k2⟩ := hV.c 2 (by omega)
  obtain ⟨c3, k3⟩ := hV.c 3 (by omega)
  obtain ⟨c4, k4⟩ := hV.c 4 (by omega)
  obtain ⟨e0, l0⟩ := hV.e 0 (by omega)
  obtain ⟨e1, l1⟩ := hV.e 1 (by omega)
  obtain ⟨e2, l2⟩ := hV.e 2 (by omega)
  obtain ⟨e3, l3⟩ := hV.e 3 (by omega)
  refine (catch_wrong C E x y w c0 c1 c2 c3 c4 e0 e1 e2 e3 k0 k1 k2 k3 k4 l0 l1 l2 l3 hV.fc hV.fe hV.ne).mono ?_
  rintro e u' w'' ⟨rfl, rfl, hb, r0, r1, r2, r3, r4, s0, s1, s2, s3⟩
  have hB2 := Below.and hB (hb w0.heap.size hC hE hB.size)
  have hP : PPost b o w0 (.returned (.tuple #[contZ, rejV x y])) w'' := ⟨hB2, by rw [hp]⟩
  clear hb hB
  simp [Leaves, settle, results, Try.results29, go_sem, h4, h5, wrongV, r0, r1, r2, r3, r4, s0, s1, s2, s3]
  exact hP
theorem needB_cut {α : Type} {b : List Int} {a : Nat} {v er : Int} {k : Except Bad α} (h : b.length < a + 1) : needB b a v er k = .error (50, b.length) := by rw [needB, if_pos h]
theorem needB_no {α : Type} {b : List Int} {a : Nat} {v er : Int} {k : Except Bad α} (h : ¬ b.length < a + 1) (h2 : ¬ num b a 1 = v) : needB b a v er k = .error (er, a) := by rw [needB, if_neg h, if_neg h2]
theorem needB_yes {α : Type} {b : List Int} {a : Nat} {v er : Int} {k : Except Bad α} (h : ¬ b.length < a + 1) (h2 : num b a 1 = v) : needB b a v er k = k := by rw [needB, if_neg h, if_pos h2]
theorem readB_cut {α : Type} {b : List Int} {a s : Nat} {k : Int → Except Bad α} (h : b.length < a + s) : readB b a s k = .error (50, b.length) := by rw [readB, if_pos h]
theorem readB_yes {α : Type} {b : List Int} {a s : Nat} {k : Int → Except Bad α} (h : ¬ b.length < a + s) : readB b a s k = k (num b a s) := by rw [readB, if_neg h]
theorem askB_no {α : Type} {p : Bool} {er x : Int} {k : Except Bad α} (h : p = false) : askB p er x k = .error (er, x) := by rw [askB, if_neg (by simp [h])]
theorem askB_yes {α : Type} {p : Bool} {er x : Int} {k : Except Bad α} (h : p = true) : askB p er x k = k := by rw [askB, if_pos h]
/-- Where Parse stands: the result variables, the reader, and nothing older turned. -/
structure PSt (w0 w : World) (C E R : Nat) (A : Option Addr) (n c : Nat) (a : Int) : Prop where
  vars : Vars w C E
  below : Below w0.heap.size w0 w
  rd : RdAt w R A n c a
  c : w0.heap.size ≤ C
  e : w0.heap.size ≤ E
  r : w0.heap.size ≤ R
  cr : C ≠ R
  er : E ≠ R
theorem Vars.grown {w w1 : World} {C E R : Nat} (h : Vars w C E) (hg : w.grownBy w1 (some R)) (hC : C ≠ R) (hE : E ≠ R) : Vars w1 C E := by
  obtain ⟨c0, k0⟩ := h.c 0 (by omega)
  obtain ⟨e0, l0⟩ := h.e 0 (by omega)
  have hCl : C < w.heap.size := World.block_lt_of_cell? w _ k0
  have hEl : E < w.heap.size := World.block_lt_of_cell? w _ l0
  refine ⟨fun j hj => ?_, fun j hj => ?_, fun j => ?_, fun j => ?_, h.ne⟩
  · obtain ⟨v, hv⟩ := h.c j hj
    exact ⟨v, hg.cell hv (by simpa using hC)⟩
  · obtain ⟨v, hv⟩ := h.e j hj
    exact ⟨v, hg.cell hv (by simpa using hE)⟩
  · exact frozen_far' hg (h.fc j) hCl (by simpa using hC)
  · exact frozen_far' hg (h.fe j) hEl (by simpa using hE)
theorem PSt.next {w0 w w1 : World} {C E R : Nat} {A : Option Addr} {n c : Nat} {a a' : Int} (h : PSt w0 w C E R A n c a) (hg : w.grownBy w1 (some R)) (hr : RdAt w1 R A n c a') : PSt w0 w1 C E R A n c a' :=
  ⟨h.vars.grown hg h.cr h.er, h.below.grown hg h.below.size (by rintro k ⟨⟩; exact h.r), hr, h.c, h.e, h.r, h.cr, h.er⟩
theorem PSt.bad {b : List Int} {o : Bool} {w0 w w1 : World} {C E R : Nat} {A : Option Addr} {n c : Nat} {a : Int} {t : Array Value} {x y : Int} (h : PSt w0 w C E R A n c a) (hg : w.grownBy w1 (some R)) (hp : parse b o = .error (x, y)) (h4 : t[4]?.getD undef = .pointer (some ⟨C, 0, none⟩)) (h5 : t[5]?.getD undef = .pointer (some ⟨E, 0, none⟩)) :
    bodyPostD Try.prog Try.f29 (PPost b o w0) (Exit.panic [wrongV x y]) { tmps := t, defers := [{ target := Target.fn (Fn.func 51) #[.pointer (some ⟨C, 0, none⟩), .pointer (some ⟨E, 0, none⟩)], args := #[] }] } w1 :=
  parse_bad hp h4 h5 (h.vars.grown hg h.cr h.er) (h.below.grown hg h.below.size (by rintro k ⟨⟩; exact h.r)) h.c h.e
def W3 (w : World) (A : Option Addr) (n c : Nat) : World := ((w.alloc (.cells #[.slice none 0 0, .slice none 0 0, .slice none 0 0, .slice none 0 0, .int .i64 0] 28)).alloc (.cells #[.int .i64 0, .slice none 0 0, .int .i64 0, .int .i64 0] 43)).alloc (.cells #[.slice A n c, .int .i64 0] 86)
theorem alloc_free (w : World) (va : Array Value) (t : TypeId) (j : Nat) : (w.alloc (.cells va t)).frozen? ⟨w.heap.size, j, none⟩ = false := by
  unfold World.frozen?
  rw [heap_alloc_new]
  simp
theorem PSt.start (w : World) (A : Option Addr) (n c : Nat) : PSt w (W3 w A n c) w.heap.size (w.heap.size + 1) (w.heap.size + 1 + 1) A n c 0 := by
  have s1 : (w.alloc (.cells #[.slice none 0 0, .slice none 0 0, .slice none 0 0, .slice none 0 0, .int .i64 0] 28)).heap.size = w.heap.size + 1 := by simp
  obtain ⟨w1, h1⟩ : ∃ w1, w1 = w.alloc (.cells #[.slice none 0 0, .slice none 0 0, .slice none 0 0, .slice none 0 0, .int .i64 0] 28) := ⟨_, rfl⟩
  obtain ⟨w2, h2⟩ : ∃ w2, w2 = w1.alloc (.cells #[.int .i64 0, .slice none 0 0, .int .i64 0, .int .i64 0] 43) := ⟨_, rfl⟩
  have s1' : w1.heap.size = w.heap.size + 1 := by rw [h1]; simp
  have s2' : w2.heap.size = w.heap.size + 1 + 1 := by rw [h2]; simp [s1']
  have e3 : W3 w A n c = w2.alloc (.cells #[.slice A n c, .int .i64 0] 86) := by rw [h2, h1]; rfl
  rw [e3]
  have b1 : Below w.heap.size w w1 := by rw [h1]; exact below_alloc _ _
  have b2 : Below w1.heap.size w1 w2 := by rw [h2]; exact below_alloc _ _
  have b3 : Below w2.heap.size w2 (w2.alloc (.cells #[.slice A n c, .int .i64 0] 86)) := below_alloc _ _
  have b13 := below_step b2 b3
  refine ⟨⟨fun j hj => ?_, fun j hj => ?_, fun j => ?_, fun j => ?_, by omega⟩, below_step b1 b13, ⟨?_, ?_, ?_⟩, by omega, by omega, by omega, by omega, by omega⟩
  · rcases (show j = 0 ∨ j = 1 ∨ j = 2 ∨ j = 3 ∨ j = 4 by omega) with rfl | rfl | rfl | rfl | rfl <;> exact ⟨_, cell_keep b13 (by rw [h1]; exact box1_at _ _ _ _ _ rfl)⟩
  · rcases (show j = 0 ∨ j = 1 ∨ j = 2 ∨ j = 3 by omega) with rfl | rfl | rfl | rfl <;> exact ⟨_, cell_keep b3 (by rw [h2, ← s1']; exact box1_at _ _ _ _ _ rfl)⟩
  · exact frozen_keep b13 (by omega) (by rw [h1]; exact alloc_free _ _ _ _)
  · exact frozen_keep b3 (by omega) (by rw [h2, ← s1']; exact alloc_free _ _ _ _)
  · rw [← s2']; exact box1_at _ _ _ _ _ rfl
  · rw [← s2']; exact box1_at _ _ _ _ _ rfl
  · rw [← s2']; exact alloc_free _ _ _ _

end Go.Proofs.Ytkbboepopcebaaa
