/- Parse's end: the types, the parts, the data. -/
import Derived.Test.YtkbboepopcebaaaAD
import Derived.BigRegion
namespace Go.Proofs.Ytkbboepopcebaaa
open Go.RowKit

theorem cell0_of {w : World} {C j : Nat} {v : Value} (h : w.cell? ⟨C, j, none⟩ = some v) : ∃ u, w.cell? ⟨C, 0, none⟩ = some u := by
  unfold World.cell? at h ⊢
  split at h
  · rename_i cs e f hc
    simp at h
    have hj : j < cs.size := by
      rcases Nat.lt_or_ge j cs.size with h0 | h0
      · exact h0
      · rw [Array.getElem?_eq_none h0] at h; simp at h
    have hc2 : w.heap[({ block := C, off := 0, spot := none } : Addr).block]? = some (.cells cs e f) := hc
    rw [hc2]
    exact ⟨cs[0]'(by omega), by simp [show 0 < cs.size by omega]⟩
  · simp at h
section
variable {b : List Int} {o : Bool} {w0 w w1 : World} {C E R : Nat} {A : Option Addr} {n c : Nat} {a a' : Int} {t : Array Value} {x y : Int} {v0 v1 v2 v3 v4 : Value}
theorem PSx.bad2 (h : PSx w0 w C E R A n c a v0 v1 v2 v3 v4) (hg : Two w w1 R C) (hp : parse b o = .error (x, y)) (h4 : t[4]?.getD undef = .pointer (some ⟨C, 0, none⟩)) (h5 : t[5]?.getD undef = .pointer (some ⟨E, 0, none⟩)) :
    bodyPostD Try.prog Try.f29 (PPost b o w0) (Exit.panic [wrongV x y]) { tmps := t, defers := [{ target := Target.fn (Fn.func 51) #[.pointer (some ⟨C, 0, none⟩), .pointer (some ⟨E, 0, none⟩)], args := #[] }] } w1 := by
  have hE : EE w1 E := h.ee.of_block (hg.block E h.ee.lt h.er (fun e => h.ce e.symm))
  have k1 := (hg.cells 1 (by omega)).trans h.cc.c1
  obtain ⟨u, k0⟩ := cell0_of k1
  refine parse_bad hp h4 h5 ⟨fun j hj => ?_, fun j hj => ?_, fun j => (hg.free j).trans (h.cc.free j), hE.free, h.ce⟩ (hg.below h.below h.r h.c) h.c h.e
  · rcases (show j = 0 ∨ j = 1 ∨ j = 2 ∨ j = 3 ∨ j = 4 by omega) with rfl | rfl | rfl | rfl | rfl
    · exact ⟨_, k0⟩
    · exact ⟨_, k1⟩
    · exact ⟨_, (hg.cells 2 (by omega)).trans h.cc.c2⟩
    · exact ⟨_, (hg.cells 3 (by omega)).trans h.cc.c3⟩
    · exact ⟨_, (hg.cells 4 (by omega)).trans h.cc.c4⟩
  · rcases (show j = 0 ∨ j = 1 ∨ j = 2 ∨ j = 3 by omega) with rfl | rfl | rfl | rfl
    · exact ⟨_, hE.e0⟩
    · exact ⟨_, hE.e1⟩
    · exact ⟨_, hE.e2⟩
    · exact ⟨_, hE.e3⟩
theorem PSx.two (h : PSx w0 w C E R A n c a v0 v1 v2 v3 v4) (hg : Two w w1 R C) {v : Value} (hv : w1.cell? ⟨C, 0, none⟩ = some v) (hr : RdAt w1 R A n c a') : PSx w0 w1 C E R A n c a' v v1 v2 v3 v4 :=
  ⟨hg.below h.below h.r h.c, hr, ⟨hv, (hg.cells 1 (by omega)).trans h.cc.c1, (hg.cells 2 (by omega)).trans h.cc.c2, (hg.cells 3 (by omega)).trans h.cc.c3, (hg.cells 4 (by omega)).trans h.cc.c4, fun j => (hg.free j).trans (h.cc.free j)⟩, h.ee.of_block (hg.block E h.ee.lt h.er (fun e => h.ce e.symm)), h.c, h.e, h.r, h.cr, h.er, h.ce⟩
/-- A store to the container's variable. -/
theorem PSx.put (h : PSx w0 w C E R A n c a v0 v1 v2 v3 v4) {j : Nat} {v u0 u1 u2 u3 u4 : Value} (hc : CC (w.setCell ⟨C, j, none⟩ v) C u0 u1 u2 u3 u4) : PSx w0 (w.setCell ⟨C, j, none⟩ v) C E R A n c a u0 u1 u2 u3 u4 :=
  ⟨h.below.grown (grown_setCell w C j v) h.below.size (by rintro k ⟨⟩; exact h.c), rd_grown h.rd (grown_setCell w C j v) h.cr.symm, hc, h.ee.of_block (set_block v (fun e => h.ce e.symm)), h.c, h.e, h.r, h.cr, h.er, h.ce⟩
end

theorem PartsO.shape {w : World} {B : Nat} {v : Value} {ll : List (List Int)} (h : PartsO w B v ll) : ∃ A c, v = .slice A ll.length c := by
  obtain ⟨vs, h⟩ := h
  obtain ⟨A, c, e, _⟩ := own_shape h.own
  exact ⟨A, c, e⟩

theorem setCell_id {w : World} {a : Addr} {v : Value} (h : w.cell? a = some v) : w.setCell a v = w := by
  unfold World.cell? at h
  unfold World.setCell
  split at h
  · rename_i cs e f hc
    split at h
    · simp at h
    · rename_i hs
      have hlt : a.block < w.heap.size := by
        rcases Nat.lt_or_ge a.block w.heap.size with h0 | h0
        · exact h0
        · rw [Array.getElem?_eq_none h0] at hc; simp at hc
      have hj : a.off < cs.size := by
        rcases Nat.lt_or_ge a.off cs.size with h0 | h0
        · exact h0
        · rw [Array.getElem?_eq_none h0] at h; simp at h
      cases w with
      | mk heap tape drawn os output =>
        simp only at hc hlt ⊢
        congr 1
        apply Array.ext
        · simp
        · intro i h1 h2
          rw [Array.getElem_modify]
          split
          · rename_i hi
            subst hi
            rw [Array.getElem?_eq_getElem hlt] at hc
            rw [Option.some.inj hc]
            simp only [hs]
            congr 1
            rw [Array.getElem?_eq_getElem hj] at h
            rw [← Option.some.inj h]
            simp [Array.setIfInBounds, hj]
          · rfl
  · simp at h

set_option maxRecDepth 100000 in
set_option maxHeartbeats 8000000 in
theorem st28 (A : Option Addr) (n c : Nat) (o : Bool) (b : List Int) (w : World) (hb : NumsR w .u8 A b) (hy : Byt b) (hn : b.length = n) (hnc : n ≤ c) (C E R N a : Nat) (size : Int) (codes subs : List Int) (v10 v12 : Value) (x : World)
    (hs : PSx w x C E R A n c a (.slice none 0 0) (.slice none 0 0) (.slice none 0 0) (.slice none 0 0) (.int .i64 size)) (hCR : C < R) (hER : E < R) (h10 : Lst x R v10 codes) (h12 : Lst x R v12 subs) (hN : codes.length = N) (hN2 : N ≤ 1024) (ha : 1 ≤ a) (hM : subs.length ≤ 256) (hp1 : ∀ x ∈ codes, 1 ≤ x) (hp2 : ∀ x ∈ subs, 1 ≤ x)
    (hsum : (a : Int) + 4 * N + codes.sum + subs.sum ≤ n)
    (hp : parse b o = takeB (tysR b N true a) fun ts => .ok ⟨ts, cutL b codes (a + 4 * N), cutL b subs (a + 4 * N + codes.sum.toNat), b.drop (a + 4 * N + codes.sum.toNat + subs.sum.toNat), size⟩)
    (u7 u8 u11 u13 u14 u15 u16 u17 u18 u19 u20 u21 u22 u23 u24 u25 u26 u27 u28 u29 u30 u31 u32 u33 u34 u35 u36 u37 u38 u39 u40 u41 u42 u43 u44 u45 u46 u47 u48 u49 u50 u51 u52 u53 u54 u55 u56 u57 u58 u59 u60 u61 u62 u63 u64 u65 u66 u67 u68 u69 u70 u71 u72 u73 u74 u75 u76 u77 u78 u79 u80 u81 u82 u83 u84 u85 u86 u87 u88 u89 u90 u91 u92 u93 u94 u95 u96 u97 u98 u99 u100 u101 u102 u103 u104 u105 u106 u107 u108 u109 u110 u111 u112 u113 u114 u115 u116 u117 u118 u119 u120 u121 u122 u123 u124 u125 u126 u127 u128 u129 u130 u131 u132 u133 u134 u135 u136 u137 u138 u139 u140 u141 u142 u143 u144 u145 u146 u147 u148 u149 u150 u151 u152 u153 u154 u155 u156 u157 u158 : Value) :
    Code.wp Try.prog (rest29 23) (bodyPostD Try.prog Try.f29 (PPost b o w)) ⟨#[.slice A n c, .bool o, undef, undef, .pointer (some ⟨C, 0, none⟩), .pointer (some ⟨E, 0, none⟩), .pointer (some ⟨R, 0, none⟩), u7, u8, .int .i64 N, v10, u11, v12, u13, u14, u15, u16, u17, u18, u19, u20, u21, u22, u23, u24, u25, u26, u27, u28, u29, u30, u31, u32, u33, u34, u35, u36, u37, u38, u39, u40, u41, u42, u43, u44, u45, u46, u47, u48, u49, u50, u51, u52, u53, u54, u55, u56, u57, u58, u59, u60, u61, u62, u63, u64, u65, u66, u67, u68, u69, u70, u71, u72, u73, u74, u75, u76, u77, u78, u79, u80, u81, u82, u83, u84, u85, u86, u87, u88, u89, u90, u91, u92, u93, u94, u95, u96, u97, u98, u99, u100, u101, u102, u103, u104, u105, u106, u107, u108, u109, u110, u111, u112, u113, u114, u115, u116, u117, u118, u119, u120, u121, u122, u123, u124, u125, u126, u127, u128, u129, u130, u131, u132, u133, u134, u135, u136, u137, u138, u139, u140, u141, u142, u143, u144, u145, u146, u147, u148, u149, u150, u151, u152, u153, u154, u155, u156, u157, u158, undef, undef, undef, undef, undef, undef, undef, undef, undef, undef, undef, undef, undef, undef, undef, undef, undef, undef, undef, undef, undef], [{ target := .fn (.func 51) #[.pointer (some ⟨C, 0, none⟩), .pointer (some ⟨E, 0, none⟩)], args := #[] }]⟩ x := by
  have hmx : n ≤ 140737488351232 := by have := hb.1; unfold reach at *; omega
  have HBB := Lib.hid hb; clear hb
  have HY := Lib.hid hy; clear hy
  have HN := Lib.hid hn; clear hn
  have HS := Lib.hid hs; clear hs
  have HP := Lib.hid hp; clear hp
  have H10 := Lib.hid h10; clear h10
  have H12 := Lib.hid h12; clear h12
  have HNN := Lib.hid hN; clear hN
  have HP1 := Lib.hid hp1; clear hp1
  have HP2 := Lib.hid hp2; clear hp2
  have HSUM := Lib.hid hsum; clear hsum
  have s1 := sum_nonneg codes HP1.out
  have s2 := sum_nonneg subs HP2.out
  obtain ⟨k1, hk1⟩ : ∃ k : Nat, codes.sum = (k : Int) := ⟨codes.sum.toNat, by omega⟩
  obtain ⟨k2, hk2⟩ : ∃ k : Nat, subs.sum = (k : Int) := ⟨subs.sum.toNat, by omega⟩
  have HK1 := Lib.hid hk1; clear hk1
  have HK2 := Lib.hid hk2; clear hk2
  have hle : a + 4 * N + k1 + k2 ≤ n := by have := HSUM.out; have := HK1.out; have := HK2.out; omega
  have HLE := Lib.hid hle
  clear s1 s2 hle
  conv => arg 2; whnf
  go_wp2_with fail
  refine (types_any w R A n c N a C b x HBB.out HY.out HN.out HS.out.below HS.out.r HS.out.c HS.out.cr HS.out.rd HS.out.cc.c0 (HS.out.cc.free 0) (by have := HLE.out; omega) (by omega)).mono ?_
  rintro e y1 ⟨htw, hpost⟩
  rcases htt : tysR b N true a with ⟨e1, e2⟩ | ts
  · rw [htt] at hpost
    obtain rfl := hpost
    exact HS.out.bad2 htw (HP.out.trans (by rw [htt]; rfl)) rfl rfl
  rw [htt] at hpost
  obtain ⟨rfl, ⟨vT, hvT, hoT⟩, hrd⟩ := hpost
  have HS1 := Lib.hid (HS.out.two htw hvT hrd)
  have HT1 := Lib.hid hoT
  have H101 := Lib.hid (H10.out.two htw (Nat.le_refl _) (by omega))
  have H121 := Lib.hid (H12.out.two htw (Nat.le_refl _) (by omega))
  have HSZ : Hid (w.heap.size ≤ x.heap.size) := Lib.hid HS.out.below.size
  have htz := htw.size
  have hCx := HS.out.cc.lt
  have HSR : Hid (R < x.heap.size) := Lib.hid (World.block_lt_of_cell? x _ HS.out.rd.place)
  have HPA := Lib.hid (HP.out.trans (by rw [htt]; rfl : _ = Except.ok (Cont.mk ts (cutL b codes (a + 4 * N)) (cutL b subs (a + 4 * N + codes.sum.toNat)) (b.drop (a + 4 * N + codes.sum.toNat + subs.sum.toNat)) size)))
  clear HS HP H10 H12 htw hvT hrd hoT htt
  obtain ⟨L, cc, rfl, hL, hLb⟩ := H101.out.reads (by have := HNN.out; unfold reach; omega)
  have c1 := HS1.out.cc.c1
  have f1 := HS1.out.cc.free 1
  have HL := Lib.hid hL
  have HLB := Lib.hid hLb
  clear hL hLb
  go_wp2_with fail
  refine (cut_any w R A n c codes.length cc (a + 4 * N) L codes b y1 HBB.out HN.out hnc HS1.out.below HS1.out.r (by have := HS1.out.rd; rwa [show ((a + 4 * N : Nat) : Int) = (a : Int) + 4 * N by omega]) rfl (by have := HNN.out; omega) HL.out (fun b' o' e => by have := HLB.out b' o' e; omega) HP1.out (by have := HLE.out; have := HK1.out; omega)).mono ?_
  rintro e y2 ⟨vC, rfl, hoC, hrd, hg⟩
  have HS2 := Lib.hid (HS1.out.next hg hrd)
  have HC2 := Lib.hid hoC
  have HG2 := Lib.hid hg
  obtain ⟨A9, c9, rfl⟩ := hoC.shape
  have HZ1 : Hid (x.heap.size ≤ y1.heap.size) := Lib.hid htz
  have HZ2 : Hid (y1.heap.size ≤ y2.heap.size) := Lib.hid hg.size
  have HCX : Hid (C < x.heap.size) := Lib.hid hCx
  have HT2 := Lib.hid (own_other HT1.out hg (.inr fun e => by have := own_ge HT1.out R e; have := HSR.out; omega))
  have H122 := Lib.hid (H121.out.grown hg (Nat.le_refl _))
  have c1 := HS2.out.cc.c1
  have f1 := HS2.out.cc.free 1
  clear hg hrd hoC HT1 H121 H101 HL HLB HG2 HS1 hCx htz
  go_wp2_with fail
  have HS3 := Lib.hid (HS2.out.put (HS2.out.cc.set1 (.slice A9 (cutL b codes (a + 4 * N)).length c9)))
  have hgs := grown_setCell y2 C 1 (.slice A9 (cutL b codes (a + 4 * N)).length c9)
  have HC3 := Lib.hid (HC2.out.other hgs (by have := HCX.out; have := HZ1.out; omega))
  have HT3 := Lib.hid (own_other HT2.out hgs (.inr fun e => by have := own_ge HT2.out C e; have := HCX.out; omega))
  have H123 := Lib.hid (H122.out.grown hgs (by omega))
  have hz3 : (y2.setCell ⟨C, 1, none⟩ (.slice A9 (cutL b codes (a + 4 * N)).length c9)).heap.size = y2.heap.size := by simp [World.setCell]
  obtain ⟨y3, hy3⟩ : ∃ y3, y3 = y2.setCell ⟨C, 1, none⟩ (.slice A9 (cutL b codes (a + 4 * N)).length c9) := ⟨_, rfl⟩
  rw [← hy3] at HS3 HC3 HT3 H123 hz3 ⊢
  have HZ3 := Lib.hid hz3
  clear hz3 hy3 HS2 HC2 HT2 H122 hgs c1 f1
  obtain ⟨L2, cc2, rfl, hL, hLb⟩ := H123.out.reads (by unfold reach; omega)
  refine (cut_any w R A n c subs.length cc2 (a + 4 * N + k1) L2 subs b y3 HBB.out HN.out hnc HS3.out.below HS3.out.r (by have := HS3.out.rd; rwa [show ((a + 4 * N + k1 : Nat) : Int) = (a : Int) + 4 * N + codes.sum by have := HK1.out; omega]) rfl (by omega) hL (fun b' o' e => by have := hLb b' o' e; omega) HP2.out (by have := HLE.out; have := HK2.out; omega)).mono ?_
  clear hL hLb H123
  rintro e y4 ⟨vS, rfl, hoS, hrd, hg⟩
  have HS4 := Lib.hid (HS3.out.next hg hrd)
  obtain ⟨A8, c8, rfl⟩ := hoS.shape
  have HO4 := Lib.hid hoS
  have HC4 := Lib.hid (HC3.out.other hg (by have := HSR.out; have := HZ1.out; omega))
  have HT4 := Lib.hid (own_other HT3.out hg (.inr fun e => by have := own_ge HT3.out R e; have := HSR.out; omega))
  have HZ4 : Hid (y3.heap.size ≤ y4.heap.size) := Lib.hid hg.size
  have c2 := HS4.out.cc.c2
  have f2 := HS4.out.cc.free 2
  clear hg hrd hoS HS3 HC3 HT3
  go_upto_region 31 with (fail)
  have HS5 := Lib.hid (HS4.out.put (HS4.out.cc.set2 (.slice A8 (cutL b subs (a + 4 * N + k1)).length c8)))
  have hgs := grown_setCell y4 C 2 (.slice A8 (cutL b subs (a + 4 * N + k1)).length c8)
  have HO5 := Lib.hid (HO4.out.other hgs (by have := HCX.out; have := HZ1.out; have := HZ2.out; have := HZ3.out; omega))
  have HC5 := Lib.hid (HC4.out.other hgs (by have := HCX.out; have := HZ1.out; omega))
  have HT5 := Lib.hid (own_other HT4.out hgs (.inr fun e => by have := own_ge HT4.out C e; have := HCX.out; omega))
  obtain ⟨y5, hy5⟩ : ∃ y5, y5 = y4.setCell ⟨C, 2, none⟩ (.slice A8 (cutL b subs (a + 4 * N + k1)).length c8) := ⟨_, rfl⟩
  rw [← hy5] at HS5 HO5 HC5 HT5 ⊢
  clear hy5 HS4 HO4 HC4 HT4 hgs c2 f2
  obtain ⟨p, hp⟩ : ∃ p : Nat, p = a + 4 * N + k1 + k2 := ⟨_, rfl⟩
  have hpi : ((a + 4 * N + k1 : Nat) : Int) + subs.sum = (p : Int) := by have := HK2.out; omega
  have r1 := HS5.out.rd.place
  rw [hpi] at r1
  have hpn : p ≤ n := by have := HLE.out; omega
  obtain ⟨b1, o1, hA, _⟩ := HBB.out.2 (by have := HN.out; omega)
  subst hA
  have hpc := NumsR.piece (HBB.out.mono HS5.out.below) p (n - p) (by have := HN.out; omega)
  have hpl : ((b.drop p).take (n - p)) = b.drop p := List.take_of_length_le (by have := HN.out; simp; omega)
  rw [hpl] at hpc
  have hdl : (b.drop p).length = n - p := by have := HN.out; simp; omega
  have i0 : (0 : Int) ≤ (p : Int) := by omega
  have i1 : (p : Int) ≤ (n : Int) := by omega
  have HPI := Lib.hid hp
  have HPC := Lib.hid hpc
  have HDL := Lib.hid hdl
  clear hp hpi hpc hpl hdl
  obtain ⟨l, hl⟩ : ∃ l, l = b.drop p := ⟨_, rfl⟩
  rw [← hl] at HPC HDL
  have HLDD := Lib.hid hl
  clear hl
  obtain ⟨A7, c7, hT7, _⟩ := own_shape HT5.out
  subst hT7
  by_cases hcp : c = p
  · have hcl := clone_any (.slice (some ⟨b1, o1, none⟩) 0 0) [] y5 ⟨_, 0, rfl, by simp, by simp, NumsR.nil _ _ _⟩
    rw [show ([] : List Int) = l from (List.eq_nil_of_length_eq_zero (by have := HDL.out; omega)).symm] at hcl
    have HCL := Lib.hid hcl
    clear hcl
    subst hcp
    go_wp2_with fail
    refine HCL.out.mono ?_
    clear HCL
    rintro e y6 ⟨vD, rfl, hoD, hb⟩
    have HS6 := Lib.hid (HS5.out.next (grown_of_below hb _) (rd_keep HS5.out.rd hb))
    obtain ⟨A6, c6, rfl, _⟩ := own_shape hoD
    have HO6 := Lib.hid (HO5.out.below hb)
    have HC6 := Lib.hid (HC5.out.below hb)
    have HT6 := Lib.hid (own_below HT5.out hb)
    have HD6 := Lib.hid hoD
    have HZ5 : Hid (C < y5.heap.size) := Lib.hid HS5.out.cc.lt
    have c3 := HS6.out.cc.c3
    have f3 := HS6.out.cc.free 3
    have HZ6 : Hid (w.heap.size ≤ y5.heap.size) := Lib.hid HS5.out.below.size
    clear hb hoD HS5 HO5 HC5 HT5
    go_upto_region 32 with (fail)
    have HS7 := Lib.hid (HS6.out.put (HS6.out.cc.set3 (.slice A6 l.length c6)))
    have hgs := grown_setCell y6 C 3 (.slice A6 l.length c6)
    have HO7 := Lib.hid (HO6.out.other hgs (by have := HCX.out; have := HZ1.out; have := HZ2.out; have := HZ3.out; omega))
    have HC7 := Lib.hid (HC6.out.other hgs (by have := HCX.out; have := HZ1.out; omega))
    have HT7 := Lib.hid (own_other HT6.out hgs (.inr fun e => by have := own_ge HT6.out C e; have := HCX.out; omega))
    have HD7 := Lib.hid (own_other HD6.out hgs (.inr fun e => by have := own_ge HD6.out C e; have := HZ5.out; omega))
    obtain ⟨y7, hy7⟩ : ∃ y7, y7 = y6.setCell ⟨C, 3, none⟩ (.slice A6 l.length c6) := ⟨_, rfl⟩
    rw [← hy7] at HS7 HO7 HC7 HT7 HD7 ⊢
    clear hy7 HS6 HO6 HC6 HT6 HD6 hgs c3 f3 r1
    obtain ⟨lc, hlc⟩ : ∃ lc, lc = (cutL b codes (a + 4 * N)).length := ⟨_, rfl⟩
    obtain ⟨ls, hls⟩ : ∃ ls, ls = (cutL b subs (a + 4 * N + k1)).length := ⟨_, rfl⟩
    obtain ⟨ld, hld⟩ : ∃ ld, ld = l.length := ⟨_, rfl⟩
    obtain ⟨lt, hlt⟩ : ∃ lt, lt = ts.length := ⟨_, rfl⟩
    have q0 := HS7.out.cc.c0
    have q1 := HS7.out.cc.c1
    have q2 := HS7.out.cc.c2
    have q3 := HS7.out.cc.c3
    have q4 := HS7.out.cc.c4
    have l0 := HS7.out.ee.e0
    have l1 := HS7.out.ee.e1
    have l2 := HS7.out.ee.e2
    have l3 := HS7.out.ee.e3
    have fC := HS7.out.cc.free
    have fE := HS7.out.ee.free
    have nCE : ¬ C = E := HS7.out.ce
    have nEC : ¬ E = C := fun e => HS7.out.ce e.symm
    rw [← hlc] at q1
    rw [← hls] at q2
    rw [← hld] at q3
    rw [← hlt] at q0
    have HLC := Lib.hid hlc
    have HLS := Lib.hid hls
    have HLD := Lib.hid hld
    have HLT := Lib.hid hlt
    clear hlc hls hld hlt
    go_region
    rw [setCell_id q0, setCell_id q1, setCell_id q2, setCell_id q3, setCell_id q4, setCell_id l0, setCell_id l1, setCell_id l2, setCell_id l3]
    have hP : PPost b o w (.returned (.tuple #[.agg #[.slice A7 lt c7, .slice A9 lc c9, .slice A8 ls c8, .slice A6 ld c6, .int .i64 size], rejV 0 0])) y7.drew := by
      refine ⟨HS7.out.below.drew, ?_⟩
      rw [HPA.out]
      refine ⟨_, rfl, ⟨.slice A7 lt c7, .slice A9 lc c9, .slice A8 ls c8, .slice A6 ld c6, rfl, ?_, ?_, ?_, ?_⟩⟩
      · rw [HLT.out]; exact own_base (own_below HT7.out (Below.refl _ _).drew) (by have := HSZ.out; omega)
      · rw [HLC.out]; exact (HC7.out.below (Below.refl _ _).drew).base (by have := HSZ.out; have := HZ1.out; omega)
      · rw [HLS.out, show codes.sum.toNat = k1 by have := HK1.out; omega]
        exact (HO7.out.below (Below.refl _ _).drew).base (by have := HSZ.out; have := HZ1.out; have := HZ2.out; have := HZ3.out; omega)
      · rw [HLD.out, show codes.sum.toNat = k1 by have := HK1.out; omega, show subs.sum.toNat = k2 by have := HK2.out; omega, ← HPI.out, ← HLDD.out]
        exact own_base (own_below HD7.out (Below.refl _ _).drew) HZ6.out
    have HPO := Lib.hid hP
    clear hP HPA HD7 HC7 HO7 HT7 HS7
    rename_i K1 h1
    refine h1 _ _ ?_
    clear h1
    go_step
    refine leaves_cons (f := 51) (args := #[.pointer (some ⟨C, 0, none⟩), .pointer (some ⟨E, 0, none⟩)]) (by simp) (by simp [go_sem]) ?_
    refine (catch_idle _ _ _).mono ?_
    rintro e u' w'' ⟨rfl, rfl, rfl⟩
    simp [Leaves, settle, results, Try.results29, go_sem, q0, q1, q2, q3, q4, l0, l1, l2, l3]
    exact HPO.out
  · have hcl := clone_any (.slice (some ⟨b1, o1 + p, none⟩) (n - p) (c - p)) l y5 ⟨_, c - p, by rw [HDL.out], by rw [HDL.out]; omega, by simp, HPC.out⟩
    have HCL := Lib.hid hcl
    clear hcl
    go_wp2_with fail
    refine HCL.out.mono ?_
    clear HCL
    rintro e y6 ⟨vD, rfl, hoD, hb⟩
    have HS6 := Lib.hid (HS5.out.next (grown_of_below hb _) (rd_keep HS5.out.rd hb))
    obtain ⟨A6, c6, rfl, _⟩ := own_shape hoD
    have HO6 := Lib.hid (HO5.out.below hb)
    have HC6 := Lib.hid (HC5.out.below hb)
    have HT6 := Lib.hid (own_below HT5.out hb)
    have HD6 := Lib.hid hoD
    have HZ5 : Hid (C < y5.heap.size) := Lib.hid HS5.out.cc.lt
    have c3 := HS6.out.cc.c3
    have f3 := HS6.out.cc.free 3
    have HZ6 : Hid (w.heap.size ≤ y5.heap.size) := Lib.hid HS5.out.below.size
    clear hb hoD HS5 HO5 HC5 HT5
    go_upto_region 32 with (fail)
    have HS7 := Lib.hid (HS6.out.put (HS6.out.cc.set3 (.slice A6 l.length c6)))
    have hgs := grown_setCell y6 C 3 (.slice A6 l.length c6)
    have HO7 := Lib.hid (HO6.out.other hgs (by have := HCX.out; have := HZ1.out; have := HZ2.out; have := HZ3.out; omega))
    have HC7 := Lib.hid (HC6.out.other hgs (by have := HCX.out; have := HZ1.out; omega))
    have HT7 := Lib.hid (own_other HT6.out hgs (.inr fun e => by have := own_ge HT6.out C e; have := HCX.out; omega))
    have HD7 := Lib.hid (own_other HD6.out hgs (.inr fun e => by have := own_ge HD6.out C e; have := HZ5.out; omega))
    obtain ⟨y7, hy7⟩ : ∃ y7, y7 = y6.setCell ⟨C, 3, none⟩ (.slice A6 l.length c6) := ⟨_, rfl⟩
    rw [← hy7] at HS7 HO7 HC7 HT7 HD7 ⊢
    clear hy7 HS6 HO6 HC6 HT6 HD6 hgs c3 f3 r1
    obtain ⟨lc, hlc⟩ : ∃ lc, lc = (cutL b codes (a + 4 * N)).length := ⟨_, rfl⟩
    obtain ⟨ls, hls⟩ : ∃ ls, ls = (cutL b subs (a + 4 * N + k1)).length := ⟨_, rfl⟩
    obtain ⟨ld, hld⟩ : ∃ ld, ld = l.length := ⟨_, rfl⟩
    obtain ⟨lt, hlt⟩ : ∃ lt, lt = ts.length := ⟨_, rfl⟩
    have q0 := HS7.out.cc.c0
    have q1 := HS7.out.cc.c1
    have q2 := HS7.out.cc.c2
    have q3 := HS7.out.cc.c3
    have q4 := HS7.out.cc.c4
    have l0 := HS7.out.ee.e0
    have l1 := HS7.out.ee.e1
    have l2 := HS7.out.ee.e2
    have l3 := HS7.out.ee.e3
    have fC := HS7.out.cc.free
    have fE := HS7.out.ee.free
    have nCE : ¬ C = E := HS7.out.ce
    have nEC : ¬ E = C := fun e => HS7.out.ce e.symm
    rw [← hlc] at q1
    rw [← hls] at q2
    rw [← hld] at q3
    rw [← hlt] at q0
    have HLC := Lib.hid hlc
    have HLS := Lib.hid hls
    have HLD := Lib.hid hld
    have HLT := Lib.hid hlt
    clear hlc hls hld hlt
    go_region
    rw [setCell_id q0, setCell_id q1, setCell_id q2, setCell_id q3, setCell_id q4, setCell_id l0, setCell_id l1, setCell_id l2, setCell_id l3]
    have hP : PPost b o w (.returned (.tuple #[.agg #[.slice A7 lt c7, .slice A9 lc c9, .slice A8 ls c8, .slice A6 ld c6, .int .i64 size], rejV 0 0])) y7.drew := by
      refine ⟨HS7.out.below.drew, ?_⟩
      rw [HPA.out]
      refine ⟨_, rfl, ⟨.slice A7 lt c7, .slice A9 lc c9, .slice A8 ls c8, .slice A6 ld c6, rfl, ?_, ?_, ?_, ?_⟩⟩
      · rw [HLT.out]; exact own_base (own_below HT7.out (Below.refl _ _).drew) (by have := HSZ.out; omega)
      · rw [HLC.out]; exact (HC7.out.below (Below.refl _ _).drew).base (by have := HSZ.out; have := HZ1.out; omega)
      · rw [HLS.out, show codes.sum.toNat = k1 by have := HK1.out; omega]
        exact (HO7.out.below (Below.refl _ _).drew).base (by have := HSZ.out; have := HZ1.out; have := HZ2.out; have := HZ3.out; omega)
      · rw [HLD.out, show codes.sum.toNat = k1 by have := HK1.out; omega, show subs.sum.toNat = k2 by have := HK2.out; omega, ← HPI.out, ← HLDD.out]
        exact own_base (own_below HD7.out (Below.refl _ _).drew) HZ6.out
    have HPO := Lib.hid hP
    clear hP HPA HD7 HC7 HO7 HT7 HS7
    rename_i K1 h1
    refine h1 _ _ ?_
    clear h1
    go_step
    refine leaves_cons (f := 51) (args := #[.pointer (some ⟨C, 0, none⟩), .pointer (some ⟨E, 0, none⟩)]) (by simp) (by simp [go_sem]) ?_
    refine (catch_idle _ _ _).mono ?_
    rintro e u' w'' ⟨rfl, rfl, rfl⟩
    simp [Leaves, settle, results, Try.results29, go_sem, q0, q1, q2, q3, q4, l0, l1, l2, l3]
    exact HPO.out
end Go.Proofs.Ytkbboepopcebaaa
