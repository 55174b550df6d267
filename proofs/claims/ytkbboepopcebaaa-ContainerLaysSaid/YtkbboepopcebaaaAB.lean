/- The closure that takes up the reader's wrong. -/
import Derived.Test.YtkbboepopcebaaaAA
import Derived.Recover
namespace Go.Proofs.Ytkbboepopcebaaa
open Go.RowKit

theorem Below.and {B : Nat} {w w1 w2 : World} (h : Below B w w1) (k : Below B w1 w2) : Below B w w2 :=
  ⟨k.os.trans h.os, k.tape.trans h.tape, k.output.trans h.output, Nat.le_trans h.size k.size, fun i hi => (k.block i hi).trans (h.block i hi)⟩
theorem info28 : (Try.prog.info? 28).map (fun i => (i.zero, i.size)) = some (some (.agg #[.slice none 0 0, .slice none 0 0, .slice none 0 0, .slice none 0 0, .int .i64 0]), 5) := by kernel_rfl
theorem info43 : (Try.prog.info? 43).map (fun i => (i.zero, i.size)) = some (some (.agg #[.int .i64 0, .slice none 0 0, .int .i64 0, .int .i64 0]), 4) := by kernel_rfl
theorem catch_idle (p q : Addr) (w : World) : CallsD Try.prog 51 #[.pointer (some p), .pointer (some q)] .returning w fun e u' w' => e = .returned (.tuple #[]) ∧ u' = .returning ∧ w' = w := by
  refine callsD_of_wpS Try.func51 rfl fun c₀ cs hu => ?_
  apply wpS_seq
  apply wpS_region
  simp [wpOpsS, go_sem, recoverD, hu, Try.ntmps51, Exit.thenS]
  apply wpS_seq
  apply wpS_region
  simp [wpOpsS, go_sem, recoverD, Exit.thenS]
  refine wpS_cond (t := false) (by simp [Act.eval, Array.replicate]) ?_
  simp only [Bool.false_eq_true, if_false]
  refine wpS_of_wp (wp_skip ?_)
  cases c₀
  simp_all [bodyPostS, results, Try.results51]

set_option maxRecDepth 100000 in
theorem catch_wrong (C E : Nat) (code a : Int) (w : World) (c0 c1 c2 c3 c4 e0 e1 e2 e3 : Value) (hC0 : w.cell? ⟨C, 0, none⟩ = some c0) (hC1 : w.cell? ⟨C, 1, none⟩ = some c1) (hC2 : w.cell? ⟨C, 2, none⟩ = some c2) (hC3 : w.cell? ⟨C, 3, none⟩ = some c3) (hC4 : w.cell? ⟨C, 4, none⟩ = some c4)
    (hE0 : w.cell? ⟨E, 0, none⟩ = some e0) (hE1 : w.cell? ⟨E, 1, none⟩ = some e1) (hE2 : w.cell? ⟨E, 2, none⟩ = some e2) (hE3 : w.cell? ⟨E, 3, none⟩ = some e3)
    (fC : ∀ j, w.frozen? ⟨C, j, none⟩ = false) (fE : ∀ j, w.frozen? ⟨E, j, none⟩ = false) (hCE : C ≠ E) :
    CallsD Try.prog 51 #[.pointer (some ⟨C, 0, none⟩), .pointer (some ⟨E, 0, none⟩)] (.panicking [wrongV code a]) w fun e u' w' => e = .returned (.tuple #[]) ∧ u' = .panicking [{ wrongV code a with recovered := true }] ∧ (∀ B, B ≤ C → B ≤ E → B ≤ w.heap.size → Below B w w') ∧ w'.cell? ⟨C, 0, none⟩ = some (.slice none 0 0) ∧ w'.cell? ⟨C, 1, none⟩ = some (.slice none 0 0) ∧ w'.cell? ⟨C, 2, none⟩ = some (.slice none 0 0) ∧ w'.cell? ⟨C, 3, none⟩ = some (.slice none 0 0) ∧ w'.cell? ⟨C, 4, none⟩ = some (.int .i64 0) ∧ w'.cell? ⟨E, 0, none⟩ = some (.int .i64 code) ∧ w'.cell? ⟨E, 1, none⟩ = some (.slice none 0 0) ∧ w'.cell? ⟨E, 2, none⟩ = some (.int .i64 0) ∧ w'.cell? ⟨E, 3, none⟩ = some (.int .i64 a) := by
  refine callsD_of_wpS Try.func51 rfl fun c₀ cs hu => ?_
  apply wpS_seq
  apply wpS_region
  simp [wpOpsS, go_sem, recoverD, hu, Try.ntmps51, Exit.thenS, wrongV]
  apply wpS_seq
  apply wpS_region
  simp [wpOpsS, go_sem, recoverD, Exit.thenS]
  refine wpS_cond (t := true) (by simp [Act.eval, Array.replicate]) ?_
  simp only [if_true]
  refine wpS_of_wp ?_
  have hta : ∀ w, (Instr.typeAssert (.iface 83 (.agg #[.int .i64 code, .int .i64 a])) 20 83 false).run Try.prog w = .ok (.agg #[.int .i64 code, .int .i64 a]) w := fun _ => rfl
  have hb28 : ∀ w, (Instr.build 28 #[]).run Try.prog w = .ok (.agg #[.slice none 0 0, .slice none 0 0, .slice none 0 0, .slice none 0 0, .int .i64 0]) w := fun _ => by kernel_rfl
  have hb43 : ∀ w, (Instr.build 43 #[(0, .int .i64 code), (3, .int .i64 a)]).run Try.prog w = .ok (.agg #[.int .i64 code, .slice none 0 0, .int .i64 0, .int .i64 a]) w := fun _ => by kernel_rfl
  obtain ⟨v, hv⟩ : ∃ v, v = Value.iface 83 (.agg #[.int .i64 code, .int .i64 a]) := ⟨_, rfl⟩
  change Code.wp _ _ _ { tmps := #[.pointer (some ⟨C, 0, none⟩), .pointer (some ⟨E, 0, none⟩), .iface 83 (.agg #[.int .i64 code, .int .i64 a]), undef, .iface 83 (.agg #[.int .i64 code, .int .i64 a]), .iface 83 (.agg #[.int .i64 code, .int .i64 a]), .bool true, undef, undef, undef, undef, undef, undef, undef, undef], defers := [] } w
  go_wp2_with fail
  have hCl := World.block_lt_of_cell? w _ hC0
  have hEl := World.block_lt_of_cell? w _ hE0
  have hCl : C < w.heap.size := hCl
  have hEl : E < w.heap.size := hEl
  obtain ⟨W, hW⟩ : ∃ W, W = w.alloc (.cells #[.int .i64 code, .int .i64 a] 83) := ⟨_, rfl⟩
  obtain ⟨T, hT⟩ : ∃ T, T = w.heap.size := ⟨_, rfl⟩
  have t0 : W.cell? ⟨T, 0, none⟩ = some (.int .i64 code) := by rw [hW, hT]; exact box1_at _ _ _ _ _ rfl
  have t1 : W.cell? ⟨T, 1, none⟩ = some (.int .i64 a) := by rw [hW, hT]; exact box1_at _ _ _ _ _ rfl
  have hB : Below w.heap.size w W := by rw [hW]; exact below_alloc _ _
  replace hC0 := cell_keep hB hC0
  replace hC1 := cell_keep hB hC1
  replace hC2 := cell_keep hB hC2
  replace hC3 := cell_keep hB hC3
  replace hC4 := cell_keep hB hC4
  replace hE0 := cell_keep hB hE0
  replace hE1 := cell_keep hB hE1
  replace hE2 := cell_keep hB hE2
  replace hE3 := cell_keep hB hE3
  replace fC : ∀ j, W.frozen? ⟨C, j, none⟩ = false := fun j => frozen_keep hB hCl (fC j)
  replace fE : ∀ j, W.frozen? ⟨E, j, none⟩ = false := fun j => frozen_keep hB hEl (fE j)
  have nC : ¬ C = T := by omega
  have nE : ¬ E = T := by omega
  have nC' : ¬ T = C := by omega
  have nE' : ¬ T = E := by omega
  have nEC : ¬ E = C := fun e => hCE e.symm
  rw [← hW, ← hT]
  have HB := Lib.hid hB
  clear hB hW hT hCl hEl hu
  go_region
  refine And.intro rfl ?_
  refine ⟨_, rfl, _, results_none rfl _ _ _, rfl, rfl, ?_⟩
  refine ⟨fun B h1 h2 h3 => ?_, ?_, ?_, ?_, ?_, ?_, ?_, ?_, ?_, ?_⟩
  · have hb : Below B w W := ⟨HB.out.os, HB.out.tape, HB.out.output, HB.out.size, fun k hk => HB.out.block k (Nat.lt_of_lt_of_le hk h3)⟩
    exact Below.drew (Below.and (Below.and (Below.and (Below.and (Below.and (Below.and (Below.and (Below.and (Below.and hb (below_setNew _ h1 _ _)) (below_setNew _ h1 _ _)) (below_setNew _ h1 _ _)) (below_setNew _ h1 _ _)) (below_setNew _ h1 _ _)) (below_setNew _ h2 _ _)) (below_setNew _ h2 _ _)) (below_setNew _ h2 _ _)) (below_setNew _ h2 _ _))
  all_goals go_simp
end Go.Proofs.Ytkbboepopcebaaa
