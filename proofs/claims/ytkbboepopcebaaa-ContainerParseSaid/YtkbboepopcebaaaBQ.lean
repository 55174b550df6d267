/- read: the two Parses answer alike, at the bytes and at the bytes with the last one turned. -/
import Derived.Test.YtkbboepopcebaaaBO
import Derived.Test.YtkbboepopcebaaaAZ
namespace Go.Proofs.Ytkbboepopcebaaa
open Go.RowKit

theorem same_true {va vb : Value} {c : Cont} {w : World} (ha : ContV w va c) (hb : ContV w vb c) : Calls Try.prog 20 #[va, vb] w (TruePost w) :=
  (same_any va vb c c w ha hb).mono fun e w' h => ⟨by rw [h.1]; simp, h.2⟩
theorem rejects_lit (x y : Int) (w : World) : Calls Try.prog 37 #[.agg #[.int .i64 x, .slice none 0 0, .int .i64 0, .int .i64 y], .agg #[.int .i64 x, .slice none 0 0, .int .i64 0, .int .i64 y]] w (TruePost w) := rejects_same x y w
theorem xor3_bd (y : Int) (h0 : 0 ≤ y) (h1 : y ≤ 255) : 0 ≤ bits BinOp.xor IntKind.u8 y 3 ∧ bits BinOp.xor IntKind.u8 y 3 ≤ 255 := by
  have h : ((List.range 256).all fun r => decide (0 ≤ bits BinOp.xor IntKind.u8 (r : Int) 3 ∧ bits BinOp.xor IntKind.u8 (r : Int) 3 ≤ 255)) = true := by kernel_rfl
  have h2 := List.all_eq_true.1 h y.toNat (List.mem_range.2 (by omega))
  rw [show ((y.toNat : Nat) : Int) = y by omega] at h2
  exact of_decide_eq_true h2
theorem byt_set {b : List Int} {q : Nat} {v : Int} (h : Byt b) (hv : 0 ≤ v ∧ v ≤ 255) : Byt (b.set q v) := by
  intro x hx
  rcases List.mem_or_eq_of_mem_set hx with h1 | rfl
  · exact h x h1
  · exact hv
theorem last_cell (b r : List Int) (q : Nat) (h : q < b.length) : (Go.Proofs.Ytkbboepopcebaaa.nums .u8 (b ++ r)).toArray[q]? = some (.int .u8 (b.getD q 0)) := by
  simp [Go.Proofs.Ytkbboepopcebaaa.nums, List.getElem?_append, h, List.getD_eq_getElem?_getD]
theorem row_reads {w : World} {B n c : Nat} {A : Option Addr} {l : List Int} (h : w.ownsRow B 5 1 (.slice A n c) n (Go.Proofs.Ytkbboepopcebaaa.nums .u8 l)) (hl : l.length = n) (hr : l.length ≤ reach) : NumsR w .u8 A l := by
  subst hl
  obtain ⟨A', c', e, _, _, hn⟩ := own_nums h hr
  injection e with e1
  subst e1
  exact hn
def LB (w : World) (g : Nat) (l : List Int) : Prop := w.heap[g]? = some (.cells (nums .u8 l).toArray 5 (0, 0))
theorem LB.nums {w : World} {g : Nat} {l r : List Int} (h : LB w g (l ++ r)) (hr : l.length ≤ reach) : NumsR w .u8 (some ⟨g, 0, none⟩) l := by
  refine ⟨hr, fun _ => ⟨g, 0, rfl, fun j hj => ?_⟩⟩
  rw [Nat.zero_add, cell_of_row w g j _ 5 (0, 0) h]
  simp [Go.Proofs.Ytkbboepopcebaaa.nums, List.getElem?_append, hj, List.getD_eq_getElem?_getD]
theorem LB.below {w w1 : World} {g : Nat} {l : List Int} (h : LB w g l) (hg : g < w.heap.size) (hb : Below w.heap.size w w1) : LB w1 g l := (hb.block g hg).trans h
theorem LB.set {w : World} {g q : Nat} {l r : List Int} {v : Int} (h : LB w g (l ++ r)) (hq : q < l.length) : LB (w.setCell ⟨g, q, none⟩ (.int .u8 v)) g (l.set q v ++ r) := by
  have hs := heap_setCell_same w g q _ 5 (.int .u8 v) h
  unfold LB
  rw [hs]
  congr 2
  rw [← List.set_append_left _ _ hq]
  simp [Go.Proofs.Ytkbboepopcebaaa.nums]
set_option maxRecDepth 100000 in
set_option maxHeartbeats 8000000 in
theorem read_any (A : Option Addr) (n c : Nat) (o : Bool) (b : List Int) (w : World) (hv : NumsV w .u8 (.slice A n c) b) (hb : NumsR w .u8 A b) (hy : Byt b) (hn : b.length = n) (hz : n ≤ 2097152) :
    Calls Try.prog 15 #[.slice A n c, .bool o] w (TruePost w) := by
  have hl := lent_any (.slice A n c) b 90 w hv (by omega) (by omega) (by omega)
  have hrn : b.length ≤ reach := by unfold reach; omega
  have HL := Lib.hid hl
  have HR := Lib.hid hrn
  have HBB := Lib.hid hb
  have HY := Lib.hid hy
  have HN := Lib.hid hn
  have hz0 : (n : Int) ≤ 2097152 := by omega
  clear hl hv hb hy hn hrn
  go_enter Try.func15, Try.ntmps15
  go_wp2_with fail
  refine HL.out.mono ?_
  rintro e w1 ⟨g, m, rfl, hm, hg, hblk, hb1⟩
  have HLB : Hid (LB w1 g (b ++ marks b.length 90)) := Lib.hid hblk
  have HG := Lib.hid hg
  have HB0 := Lib.hid hb1
  have hnm : n ≤ m := by have := HN.out; omega
  have hnm2 : (n : Int) ≤ (m : Int) := by omega
  have HM : Hid (m = n + 90) := Lib.hid (by have := HN.out; omega)
  have HGL : Hid (g < w1.heap.size) := Lib.hid (by
    rcases Nat.lt_or_ge g w1.heap.size with h | h
    · exact h
    · rw [Array.getElem?_eq_none h] at hblk; cases hblk)
  clear hm hg hblk hb1 HL
  go_wp2_with fail
  refine (rd_parse (some ⟨g, 0, none⟩) n m o b w1 (HLB.out.nums HR.out) HY.out HN.out hnm).mono ?_
  rintro e z1 ⟨hb1, A10, n10, c10, A11, n11, c11, A12, n12, c12, A13, n13, c13, rfl, hp1⟩
  have hbx1 := bx_new z1 (.slice A10 n10 c10) (.slice A11 n11 c11) (.slice A12 n12 c12) (.slice A13 n13 c13) (.int .i64 (contOf (parse b o)).size) (.int .i64 (rejOf (parse b o)).1) (.slice none 0 0) (.int .i64 0) (.int .i64 (rejOf (parse b o)).2)
  have hzb1 : Below z1.heap.size z1 ((z1.alloc (.cells #[.slice A10 n10 c10, .slice A11 n11 c11, .slice A12 n12 c12, .slice A13 n13 c13, .int .i64 (contOf (parse b o)).size] 28)).alloc (.cells #[.int .i64 (rejOf (parse b o)).1, .slice none 0 0, .int .i64 0, .int .i64 (rejOf (parse b o)).2] 43)) := below_step (below_alloc _ _) (below_alloc _ _)
  obtain ⟨y1, hy1⟩ : ∃ y1, y1 = (z1.alloc (.cells #[.slice A10 n10 c10, .slice A11 n11 c11, .slice A12 n12 c12, .slice A13 n13 c13, .int .i64 (contOf (parse b o)).size] 28)).alloc (.cells #[.int .i64 (rejOf (parse b o)).1, .slice none 0 0, .int .i64 0, .int .i64 (rejOf (parse b o)).2] 43) := ⟨_, rfl⟩
  obtain ⟨X1, hX1⟩ : ∃ X1, X1 = z1.heap.size := ⟨_, rfl⟩
  obtain ⟨V1, hV1⟩ : ∃ V1, V1 = X1 + 1 := ⟨_, rfl⟩
  rw [← hy1, ← hX1] at hbx1
  rw [← hy1] at hzb1
  have HBX1 := Lib.hid hbx1
  have HC1 := Lib.hid (hp1.below hzb1)
  have HB1 : Hid (Below w1.heap.size w1 y1) := Lib.hid (below_step hb1 hzb1)
  have HX1 : Hid (w1.heap.size ≤ X1) := Lib.hid (by rw [hX1]; exact hb1.size)
  have HV1 := Lib.hid hV1
  clear hb1 hp1 hbx1 hzb1
  go_wp2_with fail
  rw [← hy1, ← hX1, ← hV1]
  clear hy1 hX1 hV1
  refine (rd_ref A n c o b y1 (HBB.out.mono (below_step HB0.out HB1.out)) HY.out HN.out (by omega)).mono ?_
  rintro e z2 ⟨hb2, A20, n20, c20, A21, n21, c21, A22, n22, c22, A23, n23, c23, rfl, hp2⟩
  have hbx2 := bx_new z2 (.slice A20 n20 c20) (.slice A21 n21 c21) (.slice A22 n22 c22) (.slice A23 n23 c23) (.int .i64 (contOf (parse b o)).size) (.int .i64 (rejOf (parse b o)).1) (.slice none 0 0) (.int .i64 0) (.int .i64 (rejOf (parse b o)).2)
  have hzb2 : Below z2.heap.size z2 ((z2.alloc (.cells #[.slice A20 n20 c20, .slice A21 n21 c21, .slice A22 n22 c22, .slice A23 n23 c23, .int .i64 (contOf (parse b o)).size] 28)).alloc (.cells #[.int .i64 (rejOf (parse b o)).1, .slice none 0 0, .int .i64 0, .int .i64 (rejOf (parse b o)).2] 43)) := below_step (below_alloc _ _) (below_alloc _ _)
  obtain ⟨y2, hy2⟩ : ∃ y2, y2 = (z2.alloc (.cells #[.slice A20 n20 c20, .slice A21 n21 c21, .slice A22 n22 c22, .slice A23 n23 c23, .int .i64 (contOf (parse b o)).size] 28)).alloc (.cells #[.int .i64 (rejOf (parse b o)).1, .slice none 0 0, .int .i64 0, .int .i64 (rejOf (parse b o)).2] 43) := ⟨_, rfl⟩
  obtain ⟨X2, hX2⟩ : ∃ X2, X2 = z2.heap.size := ⟨_, rfl⟩
  obtain ⟨V2, hV2⟩ : ∃ V2, V2 = X2 + 1 := ⟨_, rfl⟩
  rw [← hy2, ← hX2] at hbx2
  rw [← hy2] at hzb2
  have HBX2 := Lib.hid hbx2
  have HC2 := Lib.hid (hp2.below hzb2)
  have HB2 : Hid (Below y1.heap.size y1 y2) := Lib.hid (below_step hb2 hzb2)
  have HX2 : Hid (y1.heap.size ≤ X2) := Lib.hid (by rw [hX2]; exact hb2.size)
  have HV2 := Lib.hid hV2
  have HX12 : Hid (w1.heap.size ≤ y1.heap.size) := Lib.hid HB1.out.size
  clear hb2 hp2 hbx2 hzb2
  go_upto_region 4 with (fail)
  rw [← hy2, ← hX2, ← hV2]
  clear hy2 hX2 hV2
  obtain ⟨⟨k10, k11, k12, k13, k14, _⟩, hl1⟩ := HBX1.out.below HB2.out
  rw [← HV1.out] at hl1
  obtain ⟨l10, l11, l12, l13, _⟩ := hl1
  obtain ⟨⟨k20, k21, k22, k23, k24, _⟩, hl2⟩ := HBX2.out.below (Below.refl _ _)
  rw [← HV2.out] at hl2
  obtain ⟨l20, l21, l22, l23, _⟩ := hl2
  have HBX12 := Lib.hid (HBX1.out.below HB2.out)
  have HC12 := Lib.hid (HC1.out.below HB2.out)
  have HSAME : Hid (∀ W, Below y2.heap.size y2 W → Calls Try.prog 20 #[.agg #[.slice A10 n10 c10, .slice A11 n11 c11, .slice A12 n12 c12, .slice A13 n13 c13, .int .i64 (contOf (parse b o)).size], .agg #[.slice A20 n20 c20, .slice A21 n21 c21, .slice A22 n22 c22, .slice A23 n23 c23, .int .i64 (contOf (parse b o)).size]] W (TruePost W)) := Lib.hid fun W hW => same_true ((HC12.out.below hW).reads2 (parse_fine HY.out o) HR.out) ((HC2.out.below hW).reads2 (parse_fine HY.out o) HR.out)
  have HKEPT : Hid (∀ W, Below y2.heap.size y2 W → Calls Try.prog 34 #[.slice (some ⟨g, 0, none⟩) m m, .slice A n c] W (KeptPost W)) := Lib.hid fun W hW => by
    have hbW := below_step (below_step HB1.out HB2.out) hW
    refine kept_any (some ⟨g, 0, none⟩) A m c 90 n m b W HN.out.symm HM.out ?_ (HBB.out.mono (below_step HB0.out hbW)) (by have := HM.out; omega)
    refine LB.nums (r := []) ?_ (by simp [marks_len]; unfold reach; have := HN.out; omega)
    rw [List.append_nil]
    exact HLB.out.below HGL.out hbW
  obtain ⟨s, hs⟩ : ∃ s, s = (contOf (parse b o)).size := ⟨_, rfl⟩
  obtain ⟨r1, hr1⟩ : ∃ r, r = (rejOf (parse b o)).1 := ⟨_, rfl⟩
  obtain ⟨r2, hr2⟩ : ∃ r, r = (rejOf (parse b o)).2 := ⟨_, rfl⟩
  rw [← hs] at HSAME k14 k24 HBX12 HBX2 HC12 HC2
  rw [← hr1] at l10 l20 HBX12 HBX2
  rw [← hr2] at l13 l23 HBX12 HBX2
  rw [← hs, ← hr1, ← hr2]
  clear HBX1 HC1 hs hr1 hr2
  go_wp2_with fail
  refine (HSAME.out _ (Below.refl _ _)).mono ?_
  rintro e w3 ⟨rfl, hb3⟩
  have HB3 := Lib.hid hb3
  replace k10 := cell_keep hb3 k10
  replace k11 := cell_keep hb3 k11
  replace k12 := cell_keep hb3 k12
  replace k13 := cell_keep hb3 k13
  replace k14 := cell_keep hb3 k14
  replace l10 := cell_keep hb3 l10
  replace l11 := cell_keep hb3 l11
  replace l12 := cell_keep hb3 l12
  replace l13 := cell_keep hb3 l13
  replace k20 := cell_keep hb3 k20
  replace k21 := cell_keep hb3 k21
  replace k22 := cell_keep hb3 k22
  replace k23 := cell_keep hb3 k23
  replace k24 := cell_keep hb3 k24
  replace l20 := cell_keep hb3 l20
  replace l21 := cell_keep hb3 l21
  replace l22 := cell_keep hb3 l22
  replace l23 := cell_keep hb3 l23
  clear hb3
  go_wp2_with fail
  refine (rejects_lit _ _ _).mono ?_
  rintro e w4 ⟨rfl, hb4⟩
  have HB4 : Hid (Below y2.heap.size y2 w4) := Lib.hid (below_step HB3.out hb4)
  clear hb4
  go_wp2_with fail
  refine (HKEPT.out _ HB4.out).mono ?_
  rintro e w5 ⟨rfl, kk, rfl⟩
  have HB5 : Hid (Below y2.heap.size y2 (w4.drewN kk)) := Lib.hid (below_drewN HB4.out kk)
  obtain ⟨y5, hy5⟩ : ∃ y5, y5 = w4.drewN kk := ⟨_, rfl⟩
  rw [← hy5] at HB5 ⊢
  clear hy5 k10 k11 k12 k13 k14 l10 l11 l12 l13 k20 k21 k22 k23 k24 l20 l21 l22 l23
  by_cases hn0 : n = 0
  · have hq : ((n : Int) == 0) = true := by simp [hn0]
    have hq2 : (n == 0) = true := by simp [hn0]
    go_wp2
    go_ret
    exact ⟨rfl, below_step HB0.out (below_step (below_step HB1.out HB2.out) HB5.out)⟩
  · have hq : ((n : Int) == 0) = false := by simp [hn0]
    have hq2 : (n == 0) = false := by simp [hn0]
    have HLB5 := Lib.hid (HLB.out.below HGL.out (below_step (below_step HB1.out HB2.out) HB5.out))
    obtain ⟨q, hqn⟩ : ∃ q, n = q + 1 := ⟨n - 1, by omega⟩
    have hcell := (cell_of_row y5 g q _ 5 (0, 0) HLB5.out).trans (last_cell b (marks b.length 90) q (by have := HN.out; omega))
    have hfz := frozen_of_row y5 g q _ 5 HLB5.out
    have hgl : g < y5.heap.size := World.block_lt_of_cell? y5 _ hcell
    have hyb := byt_get HY.out q
    obtain ⟨y, hy⟩ : ∃ y, y = b.getD q 0 := ⟨_, rfl⟩
    rw [← hy] at hcell hyb
    have HYE := Lib.hid hy
    have hw1 : IntKind.i64.wrap ((n : Int) - 1) = (q : Int) := by rw [IntWalk.i64_in _ (by omega)]; omega
    have q0 : (0 : Int) ≤ (q : Int) := by omega
    have qm : (q : Int) < (m : Int) := by omega
    have qm2 : q < m := by omega
    have HQN := Lib.hid hqn
    clear hy hqn hn0
    go_upto_region 9 with (fail)
    obtain ⟨yy, hyy⟩ : ∃ yy, yy = bits BinOp.xor IntKind.u8 y 3 := ⟨_, rfl⟩
    have hxy := xor3_bd y hyb.1 hyb.2
    rw [← hyy] at hxy ⊢
    obtain ⟨bb, hbb⟩ : ∃ bb, bb = b.set q yy := ⟨_, rfl⟩
    have hbl : bb.length = n := by rw [hbb]; simp; exact HN.out
    have hby : Byt bb := by rw [hbb]; exact byt_set HY.out hxy
    have hset := LB.set HLB5.out (by have := HN.out; have := HQN.out; omega) (v := yy) (q := q)
    rw [← hbb] at hset
    have hgr := grown_setCell y5 g q (.int .u8 yy)
    have HBX1 := Lib.hid ((HBX12.out.below HB5.out).other hgr (by have := HX1.out; have := HGL.out; omega))
    have HBX2b := Lib.hid ((HBX2.out.below HB5.out).other hgr (by have := HX2.out; have := HX12.out; have := HGL.out; omega))
    have HC1 := Lib.hid ((HC12.out.below HB5.out).other hgr HGL.out)
    have HC2b := Lib.hid ((HC2.out.below HB5.out).other hgr (by have := HX12.out; have := HGL.out; omega))
    have hbw6 : Below w.heap.size w (y5.setCell ⟨g, q, none⟩ (.int .u8 yy)) := (below_step HB0.out (below_step (below_step HB1.out HB2.out) HB5.out)).grown hgr (by have h1 := HB0.out.size; have h2 := HB1.out.size; have h3 := HB2.out.size; have h4 := HB5.out.size; omega) (by rintro k ⟨⟩; exact HG.out)
    have hgl6 : g < (y5.setCell ⟨g, q, none⟩ (.int .u8 yy)).heap.size := by have := hgr.size; omega
    obtain ⟨y6, hy6⟩ : ∃ y6, y6 = y5.setCell ⟨g, q, none⟩ (.int .u8 yy) := ⟨_, rfl⟩
    rw [← hy6] at hset HBX1 HBX2b HC1 HC2b hbw6 hgl6 ⊢
    have HLB6 := Lib.hid hset
    have HBW6 := Lib.hid hbw6
    have HGL6 := Lib.hid hgl6
    have HBL := Lib.hid hbl
    have HBY := Lib.hid hby
    have HRB : Hid (bb.length ≤ reach) := Lib.hid (by rw [hbl, ← HN.out]; exact HR.out)
    clear hy6 hset hgr hbw6 hgl6 hbl hby hxy hyy hbb hcell hfz hgl hyb hw1 HBX12 HBX2 HC12 HC2 HLB5 HLB HKEPT HSAME
    have how := own_any (.slice (some ⟨g, 0, none⟩) n m) bb y6 ⟨_, m, by rw [HBL.out], by rw [HBL.out]; exact hnm, by simp, HLB6.out.nums HRB.out⟩
    rw [HBL.out] at how
    have HOW := Lib.hid how
    clear how
    go_wp2_with fail
    refine HOW.out.mono ?_
    rintro e y7 ⟨v7, rfl, ho7, hb7⟩
    obtain ⟨A7, c7, rfl, _⟩ := own_shape ho7
    have HO7 := Lib.hid ho7
    have HB7 := Lib.hid hb7
    clear ho7 hb7 HOW
    go_wp2_with fail
    refine (rd_parse (some ⟨g, 0, none⟩) n m o bb y7 ((HLB6.out.below HGL6.out HB7.out).nums HRB.out) HBY.out HBL.out hnm).mono ?_
    rintro e z3 ⟨hb3, A30, n30, c30, A31, n31, c31, A32, n32, c32, A33, n33, c33, rfl, hp3⟩
    have hbx3 := bx_new z3 (.slice A30 n30 c30) (.slice A31 n31 c31) (.slice A32 n32 c32) (.slice A33 n33 c33) (.int .i64 (contOf (parse bb o)).size) (.int .i64 (rejOf (parse bb o)).1) (.slice none 0 0) (.int .i64 0) (.int .i64 (rejOf (parse bb o)).2)
    have hzb3 : Below z3.heap.size z3 ((z3.alloc (.cells #[.slice A30 n30 c30, .slice A31 n31 c31, .slice A32 n32 c32, .slice A33 n33 c33, .int .i64 (contOf (parse bb o)).size] 28)).alloc (.cells #[.int .i64 (rejOf (parse bb o)).1, .slice none 0 0, .int .i64 0, .int .i64 (rejOf (parse bb o)).2] 43)) := below_step (below_alloc _ _) (below_alloc _ _)
    obtain ⟨y3, hy3⟩ : ∃ y3, y3 = (z3.alloc (.cells #[.slice A30 n30 c30, .slice A31 n31 c31, .slice A32 n32 c32, .slice A33 n33 c33, .int .i64 (contOf (parse bb o)).size] 28)).alloc (.cells #[.int .i64 (rejOf (parse bb o)).1, .slice none 0 0, .int .i64 0, .int .i64 (rejOf (parse bb o)).2] 43) := ⟨_, rfl⟩
    obtain ⟨X3, hX3⟩ : ∃ X3, X3 = z3.heap.size := ⟨_, rfl⟩
    obtain ⟨V3, hV3⟩ : ∃ V3, V3 = X3 + 1 := ⟨_, rfl⟩
    rw [← hy3, ← hX3] at hbx3
    rw [← hy3] at hzb3
    have HBX3 := Lib.hid hbx3
    have HC3 := Lib.hid (hp3.below hzb3)
    have HB3 : Hid (Below y7.heap.size y7 y3) := Lib.hid (below_step hb3 hzb3)
    have HX3 : Hid (y7.heap.size ≤ X3) := Lib.hid (by rw [hX3]; exact hb3.size)
    have HV3 := Lib.hid hV3
    clear hb3 hp3 hbx3 hzb3
    go_wp2_with fail
    rw [← hy3, ← hX3, ← hV3]
    clear hy3 hX3 hV3
    refine (rd_ref A7 n c7 o bb y3 (row_reads (own_below HO7.out HB3.out) HBL.out HRB.out) HBY.out HBL.out (by omega)).mono ?_
    rintro e z4 ⟨hb4, A40, n40, c40, A41, n41, c41, A42, n42, c42, A43, n43, c43, rfl, hp4⟩
    have hbx4 := bx_new z4 (.slice A40 n40 c40) (.slice A41 n41 c41) (.slice A42 n42 c42) (.slice A43 n43 c43) (.int .i64 (contOf (parse bb o)).size) (.int .i64 (rejOf (parse bb o)).1) (.slice none 0 0) (.int .i64 0) (.int .i64 (rejOf (parse bb o)).2)
    have hzb4 : Below z4.heap.size z4 ((z4.alloc (.cells #[.slice A40 n40 c40, .slice A41 n41 c41, .slice A42 n42 c42, .slice A43 n43 c43, .int .i64 (contOf (parse bb o)).size] 28)).alloc (.cells #[.int .i64 (rejOf (parse bb o)).1, .slice none 0 0, .int .i64 0, .int .i64 (rejOf (parse bb o)).2] 43)) := below_step (below_alloc _ _) (below_alloc _ _)
    obtain ⟨y4, hy4⟩ : ∃ y4, y4 = (z4.alloc (.cells #[.slice A40 n40 c40, .slice A41 n41 c41, .slice A42 n42 c42, .slice A43 n43 c43, .int .i64 (contOf (parse bb o)).size] 28)).alloc (.cells #[.int .i64 (rejOf (parse bb o)).1, .slice none 0 0, .int .i64 0, .int .i64 (rejOf (parse bb o)).2] 43) := ⟨_, rfl⟩
    obtain ⟨X4, hX4⟩ : ∃ X4, X4 = z4.heap.size := ⟨_, rfl⟩
    obtain ⟨V4, hV4⟩ : ∃ V4, V4 = X4 + 1 := ⟨_, rfl⟩
    rw [← hy4, ← hX4] at hbx4
    rw [← hy4] at hzb4
    have HBX4 := Lib.hid hbx4
    have HC4 := Lib.hid (hp4.below hzb4)
    have HB4 : Hid (Below y3.heap.size y3 y4) := Lib.hid (below_step hb4 hzb4)
    have HX4 : Hid (y3.heap.size ≤ X4) := Lib.hid (by rw [hX4]; exact hb4.size)
    have HV4 := Lib.hid hV4
    clear hb4 hp4 hbx4 hzb4
    go_upto_region 12 with (fail)
    rw [← hy4, ← hX4, ← hV4]
    clear hy4 hX4 hV4
    have hb64 : Below y6.heap.size y6 y4 := below_step (below_step HB7.out HB3.out) HB4.out
    have HBA := Lib.hid (HBX1.out.below hb64)
    have HBB2 := Lib.hid (HBX2b.out.below hb64)
    have HBC := Lib.hid (HBX3.out.below HB4.out)
    have HBD := HBX4
    have HSAME : Hid (∀ W, Below y4.heap.size y4 W → Calls Try.prog 20 #[.agg #[.slice A10 n10 c10, .slice A11 n11 c11, .slice A12 n12 c12, .slice A13 n13 c13, .int .i64 s], .agg #[.slice A20 n20 c20, .slice A21 n21 c21, .slice A22 n22 c22, .slice A23 n23 c23, .int .i64 s]] W (TruePost W)) := Lib.hid fun W hW => same_true (((HC1.out.below hb64).below hW).reads2 (parse_fine HY.out o) HR.out) (((HC2b.out.below hb64).below hW).reads2 (parse_fine HY.out o) HR.out)
    have HSAM2 : Hid (∀ W, Below y4.heap.size y4 W → Calls Try.prog 20 #[.agg #[.slice A30 n30 c30, .slice A31 n31 c31, .slice A32 n32 c32, .slice A33 n33 c33, .int .i64 (contOf (parse bb o)).size], .agg #[.slice A40 n40 c40, .slice A41 n41 c41, .slice A42 n42 c42, .slice A43 n43 c43, .int .i64 (contOf (parse bb o)).size]] W (TruePost W)) := Lib.hid fun W hW => same_true (((HC3.out.below HB4.out).below hW).reads2 (parse_fine HBY.out o) HRB.out) ((HC4.out.below hW).reads2 (parse_fine HBY.out o) HRB.out)
    have HBW4 : Hid (Below w.heap.size w y4) := Lib.hid (below_step HBW6.out hb64)
    obtain ⟨s3, hs3⟩ : ∃ s, s = (contOf (parse bb o)).size := ⟨_, rfl⟩
    obtain ⟨r3, hr3⟩ : ∃ r, r = (rejOf (parse bb o)).1 := ⟨_, rfl⟩
    obtain ⟨r4, hr4⟩ : ∃ r, r = (rejOf (parse bb o)).2 := ⟨_, rfl⟩
    rw [← hs3] at HSAM2 HBC HBD
    rw [← hr3, ← hr4] at HBC HBD
    rw [← hs3, ← hr3, ← hr4]
    clear HBX1 HBX2b HC1 HC2b hs3 hr3 hr4 HC3 HC4 HBX3 HBX4 hb64
    obtain ⟨k30, k31, k32, k33, k34, _⟩ := HBC.out.1
    obtain ⟨k40, k41, k42, k43, k44, _⟩ := HBD.out.1
    go_wp2_with fail
    refine (HSAM2.out _ (Below.refl _ _)).mono ?_
    rintro e w8 ⟨rfl, hb8⟩
    have HB8 := Lib.hid hb8
    clear hb8 k30 k31 k32 k33 k34 k40 k41 k42 k43 k44
    have hl3 := (HBC.out.below HB8.out).2
    have hl4 := (HBD.out.below HB8.out).2
    rw [← HV3.out] at hl3
    rw [← HV4.out] at hl4
    obtain ⟨l30, l31, l32, l33, _⟩ := hl3
    obtain ⟨l40, l41, l42, l43, _⟩ := hl4
    go_wp2_with fail
    refine (rejects_lit _ _ _).mono ?_
    rintro e w9 ⟨rfl, hb9⟩
    have HB9 : Hid (Below y4.heap.size y4 w9) := Lib.hid (below_step HB8.out hb9)
    clear hb9 l30 l31 l32 l33 l40 l41 l42 l43
    obtain ⟨k10, k11, k12, k13, k14, _⟩ := (HBA.out.below HB9.out).1
    obtain ⟨k20, k21, k22, k23, k24, _⟩ := (HBB2.out.below HB9.out).1
    go_wp2_with fail
    refine (HSAME.out _ HB9.out).mono ?_
    rintro e w10 ⟨rfl, hb10⟩
    have HBF : Hid (Below w.heap.size w w10) := Lib.hid (below_step HBW4.out (below_step HB9.out hb10))
    clear hb10 k10 k11 k12 k13 k14 k20 k21 k22 k23 k24
    go_wp2
    go_ret
    exact ⟨rfl, HBF.out⟩
end Go.Proofs.Ytkbboepopcebaaa
namespace Go.Proofs.Ytkbboepopcebaaa
open Go.RowKit

set_option maxRecDepth 100000 in
set_option maxHeartbeats 8000000 in
theorem parse_law (A : Option Addr) (n c : Nat) (o : Bool) (b : List Int) (w : World) (hv : NumsV w .u8 (.slice A n c) b) (hb : NumsR w .u8 A b) (hy : Byt b) (hn : b.length = n) :
    Calls Try.prog 3 #[.slice A n c, .bool o] w (TruePost w) := by
  have HA := Lib.hid (able_any w)
  have HR : Hid (∀ W, Below w.heap.size w W → n ≤ 2097152 → Calls Try.prog 15 #[.slice A n c, .bool o] W (TruePost W)) := Lib.hid fun W hW hz => read_any A n c o b W (hv.mono hW) (hb.mono hW) hy hn hz
  clear hv hb hy hn
  go_enter Try.func3, Try.ntmps3
  by_cases h : 2097152 < n
  · have h1 : decide ((2097152 : Int) < (n : Int)) = true := by simp; omega
    have h2 : decide (2097152 < n) = true := by simp; omega
    clear h
    go_wp2_with fail
    refine HA.out.mono ?_
    rintro e w1 ⟨rfl, hb1⟩
    have HB1 := Lib.hid hb1
    clear hb1
    go_wp2
    go_ret
    exact ⟨rfl, HB1.out⟩
  · have h1 : decide ((2097152 : Int) < (n : Int)) = false := by simp; omega
    have h2 : decide (2097152 < n) = false := by simp; omega
    have hz : n ≤ 2097152 := by omega
    have HZ := Lib.hid hz
    clear h hz
    go_wp2_with fail
    refine HA.out.mono ?_
    rintro e w1 ⟨rfl, hb1⟩
    have HB1 := Lib.hid hb1
    clear hb1
    go_wp2_with fail
    refine (HR.out _ HB1.out HZ.out).mono ?_
    rintro e w2 ⟨rfl, hb2⟩
    have HB2 := Lib.hid (below_step HB1.out hb2)
    clear hb2
    go_wp2
    go_ret
    exact ⟨rfl, HB2.out⟩
theorem parse_law_v (v : Value) (l : List Int) (o : Bool) (w : World) (hv : NumsV w .u8 v l) (hy : Byt l) : Calls Try.prog 3 #[v, .bool o] w (TruePost w) := by
  obtain ⟨A, c, rfl, h1, h2, h3⟩ := hv
  exact parse_law A l.length c o l w ⟨A, c, rfl, h1, h2, h3⟩ h3 hy rfl
end Go.Proofs.Ytkbboepopcebaaa
