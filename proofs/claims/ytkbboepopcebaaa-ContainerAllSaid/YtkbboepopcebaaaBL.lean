/- The reference's cut. -/
import Derived.Test.YtkbboepopcebaaaBF
import Derived.BigRegion
import Derived.Deep.RegionLaw
namespace Go.Proofs.Ytkbboepopcebaaa
open Go.RowKit

theorem cutL_snoc (b ls : List Int) (k a q : Nat) (hp : ∀ x ∈ ls, 1 ≤ x) (hk : k < ls.length) (x : Nat) (hx : ls.getD k 0 = (x : Int)) (hq : (q : Int) = a + (ls.take k).sum) : cutL b (ls.take (k + 1)) a = cutL b (ls.take k) a ++ [(b.drop q).take x] := by
  rw [take_snoc' ls k 0 hk, cutL_append b _ _ (fun y hy => hp y (List.mem_of_mem_take hy)), hx]
  have := sum_nonneg (ls.take k) (fun y hy => hp y (List.mem_of_mem_take hy))
  rw [show a + (ls.take k).sum.toNat = q by omega]
  simp [cutL]
theorem piece_snoc (b : List Int) (q j : Nat) (h : q + j < b.length) : (b.drop q).take (j + 1) = (b.drop q).take j ++ [b.getD (q + j) 0] := by
  rw [take_snoc' _ j 0 (by simp; omega)]
  simp [List.getD_eq_getElem?_getD, List.getElem?_drop]
def CutPost (b ls : List Int) (a : Nat) (w : World) (e : Ending) (w' : World) : Prop := ∃ v, e = .returned v ∧ PartsO w' w.heap.size v (cutL b ls a) ∧ Below w.heap.size w w'

set_option maxRecDepth 100000 in
set_option maxHeartbeats 4000000 in
theorem rcut_any (A : Option Addr) (n c m cc a : Nat) (L : Option Addr) (ls : List Int) (b : List Int) (w : World) (hb : NumsR w .u8 A b) (hn : b.length = n)
    (hm : ls.length = m) (hm2 : m ≤ 16384) (hL : NumsR w .i64 L ls) (hpos : ∀ x ∈ ls, 1 ≤ x) (hsum : (a : Int) + ls.sum ≤ n) :
    Calls Try.prog 65 #[.slice A n c, .int .i64 a, .slice L m cc] w (CutPost b ls a w) := by
  obtain ⟨i0, hi, hz0, hz1, hz2⟩ := info_parts info22
  have hmx : n ≤ 140737488351232 := by have := hb.1; unfold reach at *; omega
  have hrn : n ≤ reach := by rw [← hn]; exact hb.1
  have HBB := Lib.hid hb; clear hb
  have HN := Lib.hid hn; clear hn
  have HMX := Lib.hid hmx; clear hmx
  have HRN := Lib.hid hrn; clear hrn
  have HM := Lib.hid hm; clear hm
  have HLL := Lib.hid hL; clear hL
  have HP := Lib.hid hpos; clear hpos
  have HS := Lib.hid hsum; clear hsum
  go_enter Try.func65, Try.ntmps65
  go_wp2
  go_loopw [1, 7, 8] (fun va v i wr => ∃ (k : Nat) (q : Nat), k ≤ m ∧ i = .int .i64 k ∧ va = .int .i64 q ∧ PartsO wr w.heap.size v (cutL b (ls.take k) a) ∧ Below w.heap.size w wr ∧ Hid ((q : Int) = a + (ls.take k).sum)) (fun _ _ i _ => m - (intOf i).toNat)
  case atStart => exact ⟨0, a, Nat.zero_le _, rfl, rfl, PartsO.nil _ _, Below.refl _ _, Lib.hid (by simp)⟩
  case round =>
    obtain ⟨k, q, hk, rfl, rfl, hO, hg, hq⟩ := hrel
    obtain ⟨w7, rfl⟩ : ∃ w7, w7 = wr := ⟨_, rfl⟩
    have HG := Lib.hid hg
    clear hg
    by_cases hlt : k < m
    · have hk2 : k < ls.length := by have := HM.out; omega
      obtain ⟨bl, ol, hLe, hcl⟩ := HLL.out.2 (by omega)
      subst hLe
      have hcell := hcl k hk2
      have hx1 := HP.out _ (getD_mem ls k hk2)
      have hs1 := sum_snoc ls k hk2
      have hs2 := sum_take_le ls HP.out (k + 1)
      obtain ⟨x, hx⟩ : ∃ x : Nat, ls.getD k 0 = (x : Int) := ⟨(ls.getD k 0).toNat, by omega⟩
      have hcut := cutL_snoc b ls k a q HP.out hk2 x hx hq.out
      rw [hx] at hcell hx1 hs1
      have hqx : q + x ≤ n := by have := HS.out; have := hq.out; omega
      have hx1' : 1 ≤ x := by omega
      have hq2 : ((q + x : Nat) : Int) = a + (ls.take (k + 1)).sum := by rw [hs1]; have := hq.out; omega
      have HCUT := Lib.hid hcut
      have HQ2 := Lib.hid hq2
      clear hcl hs1 hs2 hcut hq2 hx hx1
      obtain ⟨b1, o1, hA, hbc⟩ := HBB.out.2 (by have := HN.out; omega)
      subst hA
      have HBC := Lib.hid hbc
      have HO := Lib.hid hO
      have HCELL := Lib.hid hcell
      have HC0 := Lib.hid hcell
      have hqn : (q : Int) + (x : Int) ≤ 140737488351232 := by have := HMX.out; omega
      have hx0 : (1 : Int) ≤ (x : Int) := by omega
      have hq0 : (0 : Int) ≤ (q : Int) := by omega
      have hkc : (k : Int) ≤ 16384 := by omega
      clear hbc hO hcell
      go_wp2
      go_loopw [9, 10] (fun v i wi => ∃ j : Nat, j ≤ x ∧ i = .int .i64 j ∧ Own8 wi w7.heap.size v ((b.drop q).take j) ∧ Below w7.heap.size w7 wi) (fun _ i _ => x - (intOf i).toNat)
      case atStart => exact ⟨0, Nat.zero_le _, rfl, by simpa using Own8.nil _ _, Below.refl _ _⟩
      case round =>
        obtain ⟨j, hj, rfl, ho, hbi⟩ := hrel
        have HBI := Lib.hid hbi
        have hcell := cell_keep HBI.out (cell_keep HG.out HCELL.out)
        by_cases hjx : j < x
        · have hqj : q + j < b.length := by have := HN.out; omega
          have hby := cell_keep HBI.out (cell_keep HG.out (HBC.out (q + j) hqj))
          have hps := piece_snoc b q j hqj
          have hpl : ((b.drop q).take j).length + 1 ≤ reach := by simp; have := HN.out; have := HRN.out; omega
          obtain ⟨y, hy⟩ : ∃ y, y = b.getD (q + j) 0 := ⟨_, rfl⟩
          rw [← hy] at hby hps
          obtain ⟨l, hl⟩ : ∃ l, l = (b.drop q).take j := ⟨_, rfl⟩
          rw [← hl] at hps hpl ho
          obtain ⟨s, hs⟩ : ∃ s, s = q + j := ⟨_, rfl⟩
          rw [← hs] at hby
          have hw : IntKind.i64.wrap ((q : Int) + (j : Int)) = (s : Int) := by rw [IntWalk.i64_in _ (by omega)]; omega
          have i0 : (0 : Int) ≤ (s : Int) := by omega
          have i1 : (s : Int) < (n : Int) := by have := HN.out; omega
          have HO2 := Lib.hid ho
          have HPS := Lib.hid hps
          have HPL := Lib.hid hpl
          have i2 : (j : Int) < (x : Int) := by omega
          have hjc : (j : Int) ≤ 140737488351232 := by omega
          clear hqj hps hpl hy hl hs ho
          go_wp2_with (at_builtin; refine app_byte (.tmp 25) (.tmp 32) rfl rfl w7.heap.size _ _ rfl HO2 rfl HBI.out.size HPL ?_; intro v5 w5 ho5 hb5; have HO5 := Lib.hid ho5; have HB5 := Lib.hid hb5; clear ho5 hb5)
          go_roundw
          case rel => exact ⟨j + 1, by omega, by go_num, by rw [HPS.out]; exact HO5.out, HBI.out.trans HB5.out⟩
          case measure => exact own_meas hjx
        · obtain rfl : j = x := by omega
          have i2 : ¬ (j : Int) < (j : Int) := by omega
          obtain ⟨pl, hpl⟩ : ∃ pl, pl = cutL b (ls.take k) a := ⟨_, rfl⟩
          have hpk : pl.length = k := by rw [hpl, cutL_length, List.length_take, Nat.min_eq_left (by have := HM.out; omega)]
          rw [← hpl] at HCUT HO
          obtain ⟨l, hl⟩ : ∃ l, l = (b.drop q).take j := ⟨_, rfl⟩
          rw [← hl] at HCUT ho
          obtain ⟨A1, c1, rfl, _⟩ := own_shape ho
          obtain ⟨vs, hov⟩ := HO.out
          have HOV := Lib.hid hov
          have HPK := Lib.hid hpk
          have HPO := Lib.hid ho
          have how := hov.own
          rw [hpk] at how
          have hv2 := Lib.hid ((own_below how HBI.out).alloc (.cells #[.slice A1 l.length c1] 22))
          clear hpl hpk hl ho hov how HO
          go_wp2_with (at_builtin; refine wpList_append_own_at _ rfl _ _ 26 rfl w.heap.size 22 i0 (.slice none 0 0) 1 24 Try.underlying26 hi hz0 hz1 hz2 rfl (by decide) _ _ _ rfl hv2.out ⟨wr.heap.size, 0, none⟩ 1 1 [.slice A1 l.length c1] rfl rfl ?c1 ?c2 ?c3 ?c4 ?c5 ?_)
          · rfl
          case c3 => unfold maxLen; omega
          case c4 => omega
          case c5 => have h1 := HG.out.size; have h2 := HBI.out.size; simp; omega
          intro v' w2 hown hg _ hat
          have hO2 : Hid (PartsO w2 w.heap.size v' (cutL b (ls.take (k + 1)) a)) := by
            rw [HCUT.out]
            exact Lib.hid ⟨_, PartsOv.snoc HG.out.size (Nat.le_refl _) HOV.out (HBI.out.trans ((below_alloc _ _).mono HBI.out.size)) (HPO.out.alloc _) (by rw [HPK.out]; exact hown) hg⟩
          have hB2 : Hid (Below w.heap.size w w2) :=
            Lib.hid ((below_step HG.out (below_step HBI.out (below_alloc _ _))).grown hg (by have h1 := HG.out.size; have h2 := HBI.out.size; simp; omega) (fun k hk => own_ge hv2.out k hk))
          have hcell2 := cell_keep hB2.out HC0.out
          have hw : IntKind.i64.wrap ((q : Int) + (j : Int)) = (q : Int) + (j : Int) := IntWalk.i64_in _ (by omega)
          clear hown hg hat hcell
          go_wp2
          go_roundw
          case rel => exact ⟨k + 1, q + j, by omega, by go_num, by go_num, hO2.out, hB2.out, HQ2⟩
          case measure => exact own_meas hlt
    · obtain rfl : k = m := by omega
      go_wp2
      go_ret
      have e1 : ls.take k = ls := List.take_of_length_le (by have := HM.out; omega)
      rw [e1] at hO
      exact ⟨_, rfl, hO, HG.out⟩
end Go.Proofs.Ytkbboepopcebaaa
namespace Go.Proofs.Ytkbboepopcebaaa
open Go.RowKit

def RefPost (x y : Int) (w : World) (e : Ending) (w' : World) : Prop := e = .returned (.tuple #[contZ, rejV x y]) ∧ Below w.heap.size w w'
set_option maxRecDepth 100000 in
set_option maxHeartbeats 4000000 in
theorem refused_any (x y : Int) (w : World) : Calls Try.prog 63 #[.int .i64 x, .int .i64 y] w (RefPost x y w) := by
  obtain ⟨w2, hw2⟩ : ∃ w2, w2 = (w.alloc (.cells #[.slice none 0 0, .slice none 0 0, .slice none 0 0, .slice none 0 0, .int .i64 0] 28)).alloc (.cells #[.int .i64 x, .slice none 0 0, .int .i64 0, .int .i64 y] 43) := ⟨_, rfl⟩
  have c0 := fun j v h => cell_keep (below_alloc _ (.cells #[.int .i64 x, .slice none 0 0, .int .i64 0, .int .i64 y] 43)) (box1_at w #[.slice none 0 0, .slice none 0 0, .slice none 0 0, .slice none 0 0, .int .i64 0] 28 j v h)
  have c1 := fun j v h => box1_at (w.alloc (.cells #[.slice none 0 0, .slice none 0 0, .slice none 0 0, .slice none 0 0, .int .i64 0] 28)) #[.int .i64 x, .slice none 0 0, .int .i64 0, .int .i64 y] 43 j v h
  have hb : Below w.heap.size w w2 := by rw [hw2]; exact below_step (below_alloc _ _) (below_alloc _ _)
  rw [← hw2] at c0 c1
  have r0 := c0 0 _ rfl
  have r1 := c0 1 _ rfl
  have r2 := c0 2 _ rfl
  have r3 := c0 3 _ rfl
  have r4 := c0 4 _ rfl
  have s0 := c1 0 _ rfl
  have s1 := c1 1 _ rfl
  have s2 := c1 2 _ rfl
  have s3 := c1 3 _ rfl
  simp only [World.alloc, Array.size_push] at s0 s1 s2 s3
  have HB := Lib.hid hb
  have HW := Lib.hid hw2
  clear c0 c1 hb hw2
  go_enter Try.func63, Try.ntmps63
  go_wp2
  rw [← HW.out]
  exact bodyPost_ret (v := .tuple #[contZ, rejV x y]) (by simp [results, Try.results63, go_sem, r0, r1, r2, r3, r4, s0, s1, s2, s3]; exact ⟨rfl, rfl⟩) rfl ⟨rfl, HB.out⟩
end Go.Proofs.Ytkbboepopcebaaa
namespace Go.Proofs.Ytkbboepopcebaaa
open Go.RowKit

noncomputable def rest36 (k : Nat) : Code := spine k (Try.f36.body.getD .skip)
/-- Four cells. -/
structure E4 (w : World) (E : Nat) (v0 v1 v2 v3 : Value) : Prop where
  c0 : w.cell? ⟨E, 0, none⟩ = some v0
  c1 : w.cell? ⟨E, 1, none⟩ = some v1
  c2 : w.cell? ⟨E, 2, none⟩ = some v2
  c3 : w.cell? ⟨E, 3, none⟩ = some v3
  free : ∀ j, w.frozen? ⟨E, j, none⟩ = false
theorem EE.four {w : World} {E : Nat} (h : EE w E) : E4 w E (.int .i64 0) (.slice none 0 0) (.int .i64 0) (.int .i64 0) := ⟨h.e0, h.e1, h.e2, h.e3, h.free⟩
theorem E4.of_block {w w1 : World} {E : Nat} {v0 v1 v2 v3 : Value} (h : E4 w E v0 v1 v2 v3) (hb : w1.heap[E]? = w.heap[E]?) : E4 w1 E v0 v1 v2 v3 :=
  ⟨(World.cell?_of_block (w := w) hb).trans h.c0, (World.cell?_of_block (w := w) hb).trans h.c1, (World.cell?_of_block (w := w) hb).trans h.c2, (World.cell?_of_block (w := w) hb).trans h.c3, fun j => (World.frozen?_of_block (w := w) hb).trans (h.free j)⟩
theorem E4.set0 {w : World} {E : Nat} {v0 v1 v2 v3 : Value} (h : E4 w E v0 v1 v2 v3) (v : Value) : E4 (w.setCell ⟨E, 0, none⟩ v) E v v1 v2 v3 :=
  ⟨World.cell?_setCell_same _ _ _ h.c0, by rw [World.cell?_setCell_other _ _ _ _ (by simp)]; exact h.c1, by rw [World.cell?_setCell_other _ _ _ _ (by simp)]; exact h.c2, by rw [World.cell?_setCell_other _ _ _ _ (by simp)]; exact h.c3, fun j => by rw [World.frozen?_setCell]; exact h.free j⟩
theorem E4.set1 {w : World} {E : Nat} {v0 v1 v2 v3 : Value} (h : E4 w E v0 v1 v2 v3) (v : Value) : E4 (w.setCell ⟨E, 1, none⟩ v) E v0 v v2 v3 :=
  ⟨by rw [World.cell?_setCell_other _ _ _ _ (by simp)]; exact h.c0, World.cell?_setCell_same _ _ _ h.c1, by rw [World.cell?_setCell_other _ _ _ _ (by simp)]; exact h.c2, by rw [World.cell?_setCell_other _ _ _ _ (by simp)]; exact h.c3, fun j => by rw [World.frozen?_setCell]; exact h.free j⟩
theorem E4.set2 {w : World} {E : Nat} {v0 v1 v2 v3 : Value} (h : E4 w E v0 v1 v2 v3) (v : Value) : E4 (w.setCell ⟨E, 2, none⟩ v) E v0 v1 v v3 :=
  ⟨by rw [World.cell?_setCell_other _ _ _ _ (by simp)]; exact h.c0, by rw [World.cell?_setCell_other _ _ _ _ (by simp)]; exact h.c1, World.cell?_setCell_same _ _ _ h.c2, by rw [World.cell?_setCell_other _ _ _ _ (by simp)]; exact h.c3, fun j => by rw [World.frozen?_setCell]; exact h.free j⟩
theorem E4.set3 {w : World} {E : Nat} {v0 v1 v2 v3 : Value} (h : E4 w E v0 v1 v2 v3) (v : Value) : E4 (w.setCell ⟨E, 3, none⟩ v) E v0 v1 v2 v :=
  ⟨by rw [World.cell?_setCell_other _ _ _ _ (by simp)]; exact h.c0, by rw [World.cell?_setCell_other _ _ _ _ (by simp)]; exact h.c1, by rw [World.cell?_setCell_other _ _ _ _ (by simp)]; exact h.c2, World.cell?_setCell_same _ _ _ h.c3, fun j => by rw [World.frozen?_setCell]; exact h.free j⟩
abbrev finC (y : World) (C : Nat) (v0 v1 v2 v3 v4 : Value) : World := ((((y.setCell ⟨C, 0, none⟩ v0).setCell ⟨C, 1, none⟩ v1).setCell ⟨C, 2, none⟩ v2).setCell ⟨C, 3, none⟩ v3).setCell ⟨C, 4, none⟩ v4
abbrev finE (y : World) (E : Nat) (v0 v1 v2 v3 : Value) : World := (((y.setCell ⟨E, 0, none⟩ v0).setCell ⟨E, 1, none⟩ v1).setCell ⟨E, 2, none⟩ v2).setCell ⟨E, 3, none⟩ v3
theorem CC.fin {y : World} {C : Nat} {u0 u1 u2 u3 u4 : Value} (h : CC y C u0 u1 u2 u3 u4) (v0 v1 v2 v3 v4 : Value) : CC (finC y C v0 v1 v2 v3 v4) C v0 v1 v2 v3 v4 := (((((h.set0 v0).set1 v1).set2 v2).set3 v3).set4 v4)
theorem E4.fin {y : World} {E : Nat} {u0 u1 u2 u3 : Value} (h : E4 y E u0 u1 u2 u3) (v0 v1 v2 v3 : Value) : E4 (finE y E v0 v1 v2 v3) E v0 v1 v2 v3 := ((((h.set0 v0).set1 v1).set2 v2).set3 v3)
theorem grown_finC (y : World) (C : Nat) (v0 v1 v2 v3 v4 : Value) : y.grownBy (finC y C v0 v1 v2 v3 v4) (some C) :=
  grown_trans (grown_trans (grown_trans (grown_trans (grown_setCell _ C 0 v0) (grown_setCell _ C 1 v1)) (grown_setCell _ C 2 v2)) (grown_setCell _ C 3 v3)) (grown_setCell _ C 4 v4)
theorem grown_finE (y : World) (E : Nat) (v0 v1 v2 v3 : Value) : y.grownBy (finE y E v0 v1 v2 v3) (some E) :=
  grown_trans (grown_trans (grown_trans (grown_setCell _ E 0 v0) (grown_setCell _ E 1 v1)) (grown_setCell _ E 2 v2)) (grown_setCell _ E 3 v3)
set_option maxRecDepth 100000 in
theorem ref_ret {b : List Int} {o : Bool} {w0 y : World} {C E : Nat} {t : Array Value} {u0 u1 u2 u3 u4 l0 l1 l2 l3 v0 v1 v2 v3 v4 e0 e1 e2 e3 : Value} (h4 : t[4]?.getD undef = .pointer (some ⟨C, 0, none⟩)) (h5 : t[5]?.getD undef = .pointer (some ⟨E, 0, none⟩))
    (hc : CC y C u0 u1 u2 u3 u4) (he : E4 y E l0 l1 l2 l3) (hne : C ≠ E) (hR : PPost b o w0 (.returned (.tuple #[.agg #[v0, v1, v2, v3, v4], .agg #[e0, e1, e2, e3]])) (finE (finC y C v0 v1 v2 v3 v4) E e0 e1 e2 e3)) :
    bodyPost Try.prog Try.f36 (PPost b o w0) Exit.ret ⟨t, []⟩ (finE (finC y C v0 v1 v2 v3 v4) E e0 e1 e2 e3) := by
  have hE1 : E4 (finC y C v0 v1 v2 v3 v4) E l0 l1 l2 l3 := he.of_block ((grown_finC y C v0 v1 v2 v3 v4).block E (World.block_lt_of_cell? y _ he.c0) (by simpa using Ne.symm hne))
  have hC1 : CC (finE (finC y C v0 v1 v2 v3 v4) E e0 e1 e2 e3) C v0 v1 v2 v3 v4 := (hc.fin v0 v1 v2 v3 v4).of_block ((grown_finE _ E e0 e1 e2 e3).block C (World.block_lt_of_cell? _ _ (hc.fin v0 v1 v2 v3 v4).c0) (by simpa using hne))
  have hE2 := hE1.fin e0 e1 e2 e3
  obtain ⟨W, hW⟩ : ∃ W, W = finE (finC y C v0 v1 v2 v3 v4) E e0 e1 e2 e3 := ⟨_, rfl⟩
  rw [← hW] at hC1 hE2 hR ⊢
  obtain ⟨r0, r1, r2, r3, r4, _⟩ := hC1
  obtain ⟨s0, s1, s2, s3, _⟩ := hE2
  clear hW
  exact bodyPost_ret (v := .tuple #[.agg #[v0, v1, v2, v3, v4], .agg #[e0, e1, e2, e3]]) (by simp [results, Try.results36, go_sem, h4, h5, r0, r1, r2, r3, r4, s0, s1, s2, s3]) rfl hR
/-- Where the reference's Parse stands. -/
structure RS (w0 w : World) (C E : Nat) : Prop where
  below : Below w0.heap.size w0 w
  cc : CC w C (.slice none 0 0) (.slice none 0 0) (.slice none 0 0) (.slice none 0 0) (.int .i64 0)
  ee : EE w E
  c : w0.heap.size ≤ C
  e : w0.heap.size ≤ E
  ce : C ≠ E
theorem RS.next {w0 w w1 : World} {C E : Nat} (h : RS w0 w C E) (hb : Below w.heap.size w w1) : RS w0 w1 C E :=
  ⟨below_step h.below hb, h.cc.of_block (hb.block C h.cc.lt), h.ee.of_block (hb.block E h.ee.lt), h.c, h.e, h.ce⟩
theorem RS.grown {w0 w w1 : World} {C E T : Nat} (h : RS w0 w C E) (hg : w.grownBy w1 (some T)) (hT : w0.heap.size ≤ T) (h1 : C ≠ T) (h2 : E ≠ T) : RS w0 w1 C E :=
  ⟨h.below.grown hg h.below.size (by rintro k ⟨⟩; exact hT), h.cc.of_block (hg.block C h.cc.lt (by simpa using h1)), h.ee.of_block (hg.block E h.ee.lt (by simpa using h2)), h.c, h.e, h.ce⟩
theorem ref_bad {b : List Int} {o : Bool} {w0 y : World} {C E : Nat} {t : Array Value} {p q : Int} (h4 : t[4]?.getD undef = .pointer (some ⟨C, 0, none⟩)) (h5 : t[5]?.getD undef = .pointer (some ⟨E, 0, none⟩))
    (hs : RS w0 y C E) (hp : parse b o = .error (p, q)) :
    bodyPost Try.prog Try.f36 (PPost b o w0) Exit.ret ⟨t, []⟩ (finE (finC y C (.slice none 0 0) (.slice none 0 0) (.slice none 0 0) (.slice none 0 0) (.int .i64 0)) E (.int .i64 p) (.slice none 0 0) (.int .i64 0) (.int .i64 q)) := by
  refine ref_ret h4 h5 hs.cc hs.ee.four hs.ce ⟨?_, by rw [hp]; rfl⟩
  have h1 := hs.below.grown (grown_finC y C (.slice none 0 0) (.slice none 0 0) (.slice none 0 0) (.slice none 0 0) (.int .i64 0)) hs.below.size (by rintro k ⟨⟩; exact hs.c)
  exact h1.grown (grown_finE _ E (.int .i64 p) (.slice none 0 0) (.int .i64 0) (.int .i64 q)) h1.size (by rintro k ⟨⟩; exact hs.e)

set_option maxRecDepth 100000 in
set_option maxHeartbeats 8000000 in
theorem st36_12 (A : Option Addr) (n c : Nat) (o : Bool) (b : List Int) (w : World) (C E T M : Nat) (vT vC vS vD : Value) (cn : Cont) (x : World)
    (hs : RS w x C E) (hCM : C < M) (hEM : E < M) (hcc : CC x T vT vC vS vD (.int .i64 cn.size)) (hT : x.ownsRow M 69 3 vT cn.types.length (tysOf cn.types)) (hC : PartsO x M vC cn.codes) (hS : PartsO x M vS cn.subs) (hD : x.ownsRow M 5 1 vD cn.data.length (nums .u8 cn.data)) (hp : parse b o = .ok cn)
    (u6 u7 u8 u9 u10 u11 u12 u13 u14 u16 u17 u18 u19 u20 u21 u22 u23 u24 u25 u26 u27 u28 u29 u30 u31 u32 u33 u34 u35 u36 u37 u38 u39 u40 u41 u42 u43 u44 u45 u46 u47 u48 u49 u50 u51 u52 u53 u54 u55 u56 u57 u58 u59 u60 u61 u62 u63 u64 u65 u66 u67 u68 u69 u70 u71 u72 u73 u74 u75 u76 u77 u78 u79 u80 u81 u82 u83 u84 u85 u86 u87 u88 u89 u90 u91 u92 u93 u94 u95 u96 u97 u98 u99 u100 u101 u102 u103 u104 u105 u106 u107 u108 u109 u110 u111 u112 u113 u114 u115 u116 u117 u118 u119 u120 u121 u122 u123 u124 u125 u126 u127 u128 u129 u130 u131 u132 u133 u134 u135 u136 u137 u138 u139 u140 u141 u142 u143 u144 : Value) :
    Code.wp Try.prog (rest36 12) (bodyPost Try.prog Try.f36 (PPost b o w)) ⟨#[.slice A n c, .bool o, undef, undef, .pointer (some ⟨C, 0, none⟩), .pointer (some ⟨E, 0, none⟩), u6, u7, u8, u9, u10, u11, u12, u13, u14, .pointer (some ⟨T, 0, none⟩), u16, u17, u18, u19, u20, u21, u22, u23, u24, u25, u26, u27, u28, u29, u30, u31, u32, u33, u34, u35, u36, u37, u38, u39, u40, u41, u42, u43, u44, u45, u46, u47, u48, u49, u50, u51, u52, u53, u54, u55, u56, u57, u58, u59, u60, u61, u62, u63, u64, u65, u66, u67, u68, u69, u70, u71, u72, u73, u74, u75, u76, u77, u78, u79, u80, u81, u82, u83, u84, u85, u86, u87, u88, u89, u90, u91, u92, u93, u94, u95, u96, u97, u98, u99, u100, u101, u102, u103, u104, u105, u106, u107, u108, u109, u110, u111, u112, u113, u114, u115, u116, u117, u118, u119, u120, u121, u122, u123, u124, u125, u126, u127, u128, u129, u130, u131, u132, u133, u134, u135, u136, u137, u138, u139, u140, u141, u142, u143, u144], []⟩ x := by
  have HS := Lib.hid hs; clear hs
  obtain ⟨A0, c0, rfl, _⟩ := own_shape hT
  obtain ⟨A1, c1, rfl⟩ := hC.shape
  obtain ⟨A2, c2, rfl⟩ := hS.shape
  obtain ⟨A3, c3, rfl, _⟩ := own_shape hD
  have HT := Lib.hid hT; clear hT
  have HC := Lib.hid hC; clear hC
  have HSS := Lib.hid hS; clear hS
  have HD := Lib.hid hD; clear hD
  have HP := Lib.hid hp; clear hp
  obtain ⟨ty, co, su, da, sz⟩ := cn
  obtain ⟨n0, hn0⟩ : ∃ n0, n0 = ty.length := ⟨_, rfl⟩
  obtain ⟨n1, hn1⟩ : ∃ n1, n1 = co.length := ⟨_, rfl⟩
  obtain ⟨n2, hn2⟩ : ∃ n2, n2 = su.length := ⟨_, rfl⟩
  obtain ⟨n3, hn3⟩ : ∃ n3, n3 = da.length := ⟨_, rfl⟩
  simp only at HT HC HSS HD
  rw [← hn0] at HT
  rw [← hn1] at HC
  rw [← hn2] at HSS
  rw [← hn3] at HD
  simp only at hcc
  rw [← hn0, ← hn1, ← hn2, ← hn3] at hcc
  have HN3 := Lib.hid hn3
  have HN0 := Lib.hid hn0
  clear hn0 hn1 hn2 hn3
  obtain ⟨q0, q1, q2, q3, q4, _⟩ := hcc
  obtain ⟨k0, k1, k2, k3, k4, fC⟩ := HS.out.cc
  obtain ⟨l0, l1, l2, l3, fE⟩ := HS.out.ee
  have nCE : ¬ C = E := HS.out.ce
  have nEC : ¬ E = C := fun e => HS.out.ce e.symm
  have hP : PPost b o w (.returned (.tuple #[.agg #[.slice A0 n0 c0, .slice A1 n1 c1, .slice A2 n2 c2, .slice A3 n3 c3, .int .i64 sz], .agg #[.int .i64 0, .slice none 0 0, .int .i64 0, .int .i64 0]])) (finE (finC x C (.slice A0 n0 c0) (.slice A1 n1 c1) (.slice A2 n2 c2) (.slice A3 n3 c3) (.int .i64 sz)) E (.int .i64 0) (.slice none 0 0) (.int .i64 0) (.int .i64 0)) := by
    have g1 := grown_finC x C (.slice A0 n0 c0) (.slice A1 n1 c1) (.slice A2 n2 c2) (.slice A3 n3 c3) (.int .i64 sz)
    have g2 := grown_finE (finC x C (.slice A0 n0 c0) (.slice A1 n1 c1) (.slice A2 n2 c2) (.slice A3 n3 c3) (.int .i64 sz)) E (.int .i64 0) (.slice none 0 0) (.int .i64 0) (.int .i64 0)
    obtain ⟨W1, hW1⟩ : ∃ W1, W1 = finC x C (.slice A0 n0 c0) (.slice A1 n1 c1) (.slice A2 n2 c2) (.slice A3 n3 c3) (.int .i64 sz) := ⟨_, rfl⟩
    rw [← hW1] at g1 g2 ⊢
    obtain ⟨W2, hW2⟩ : ∃ W2, W2 = finE W1 E (.int .i64 0) (.slice none 0 0) (.int .i64 0) (.int .i64 0) := ⟨_, rfl⟩
    rw [← hW2] at g2 ⊢
    clear hW1 hW2
    have hwM : w.heap.size ≤ M := by have := HS.out.c; omega
    have h1 := HS.out.below.grown g1 HS.out.below.size (by rintro k ⟨⟩; exact HS.out.c)
    have h2 := h1.grown g2 h1.size (by rintro k ⟨⟩; exact HS.out.e)
    have e1 := own_other HT.out g1 (.inr fun e => by have := own_ge HT.out C e; omega)
    have e2 := own_base (own_other e1 g2 (.inr fun e => by have := own_ge e1 E e; omega)) hwM
    have d1 := own_other HD.out g1 (.inr fun e => by have := own_ge HD.out C e; omega)
    have d2 := own_base (own_other d1 g2 (.inr fun e => by have := own_ge d1 E e; omega)) hwM
    have p2 := ((HC.out.other g1 hCM).other g2 hEM).base hwM
    have s2 := ((HSS.out.other g1 hCM).other g2 hEM).base hwM
    rw [HN0.out] at e2 ⊢
    rw [HN3.out] at d2 ⊢
    clear e1 d1 h1 g1 g2
    refine ⟨h2, ?_⟩
    rw [HP.out]
    exact ⟨_, rfl, ⟨_, _, _, _, rfl, e2, p2, s2, d2⟩⟩
  have HPP := Lib.hid hP
  have HCC := Lib.hid HS.out.cc
  have HEE := Lib.hid HS.out.ee
  clear hP HT HC HSS HD HP HS HN0 HN3
  conv => arg 2; whnf
  go_wp2
  exact ref_ret rfl rfl HCC.out HEE.out.four nCE HPP.out
end Go.Proofs.Ytkbboepopcebaaa
namespace Go.Proofs.Ytkbboepopcebaaa
open Go.RowKit

/-- append(data, y) at a step of a region that draws. -/
theorem step_byte {ops : Array Oper} {o : Oper} {a : Act} {Q : Exit → Act → World → Prop} {K : Act → World → Prop} {E : Prop} {W0 W : World} (y : Int) (s r : Operand) (hgd : o.guard = none) (ho : o.op = .call { callee := .builtin .append, args := #[s, r], argTypes := #[22, 22] })
    {B : Nat} {v : Value} {l : List Int} (g : Nat) (HO : Hid (Own8 W0 B v l)) (hs : a.eval s = v) (hx : a.eval r = .slice (some ⟨g, 0, none⟩) 1 1) (hn : Hid (l.length + 1 ≤ reach)) (hB : B ≤ W0.heap.size) (hb : Below W0.heap.size W0 W) (hg : W.heap[g]? = some (.cells #[.int .u8 y] 5 (0, 0)))
    (h : ∀ v' w', Own8 w' B v' (l ++ [y]) → W.grownBy w' v.ownBlock → K (a.put o.dst v') w') :
    if Region.wanted o (yielded ops a.tmps) = true then Oper.wp Try.prog o a W K Q else E := by
  have hw : Region.wanted o (yielded ops a.tmps) = true := by simp [Region.wanted, hgd]
  rw [if_pos hw]
  obtain ⟨i0, hi, hz0, hz1, hz2⟩ := info_parts infoB
  have hn2 := hn.out
  unfold reach at hn2
  refine wp_append_own (P := Try.prog) W s r 22 ho B 5 i0 (.int .u8 0) 1 1 Try.underlying22 hi hz0 hz1 hz2 rfl (by decide) v l.length (nums .u8 l) hs (own_below HO.out hb) ⟨g, 0, none⟩ 1 1 [.int .u8 y] hx rfl ?_ ?_ (by unfold maxLen; omega) (by omega) (Nat.le_trans hB hb.size) ?_
  · have := World.news_of_block (w := W) (B := g) (cs := #[.int .u8 y]) (t := 5) (fr := (0, 0)) hg
    simpa using this
  · intro u hu
    simp at hu
    subst hu
    rfl
  · intro v' w' hown hg' _
    refine h v' w' ?_ hg'
    unfold Own8
    rw [List.length_append, nums_append]
    exact hown
set_option maxRecDepth 100000 in
set_option maxHeartbeats 8000000 in
theorem st36_11 (A : Option Addr) (n c : Nat) (o : Bool) (b : List Int) (w : World) (hb : NumsR w .u8 A b) (hn : b.length = n) (C E T M p : Nat) (vT vC vS : Value) (ts : List Ty) (cs ss : List (List Int)) (size : Int) (x0 x : World) (hT0 : T = x0.heap.size)
    (hs : RS w x0 C E) (hCM : C < M) (hEM : E < M) (hMT : M ≤ T) (hC : PartsO x0 M vC cs) (hS : PartsO x0 M vS ss) (hbx : Below T x0 x) (hcc : CC x T vT vC vS (.slice none 0 0) (.int .i64 size)) (hT : x.ownsRow (T + 1) 69 3 vT ts.length (tysOf ts)) (hpn : p ≤ n) (hp : parse b o = .ok ⟨ts, cs, ss, b.drop p, size⟩)
    (u6 u7 u8 u9 u10 u11 u12 u14 u16 u17 u18 u19 u20 u21 u22 u23 u24 u25 u26 u27 u28 u29 u30 u31 u32 u33 u34 u35 u36 u37 u38 u39 u40 u41 u42 u43 u44 u45 u46 u47 u48 u49 u50 u51 u52 u53 u54 u55 u56 u57 u58 u59 u60 u61 u62 u63 u64 u65 u66 u67 u68 u69 u70 u71 u72 u73 u74 u75 u76 u77 u78 u79 u80 u81 u82 u83 u84 u85 u86 u87 u88 u89 u90 u91 u92 u93 u94 u95 u96 u97 u98 u99 u100 u101 u102 u103 u104 u105 u106 u107 u108 u109 u110 u111 u112 u113 u114 u115 u116 u117 u118 u119 u120 u121 u122 u123 u124 u125 u126 u127 u128 u129 u130 u131 u132 u133 u134 u135 u136 u137 u138 u139 u140 u141 u142 u143 u144 : Value) :
    Code.wp Try.prog (rest36 11) (bodyPost Try.prog Try.f36 (PPost b o w)) ⟨#[.slice A n c, .bool o, undef, undef, .pointer (some ⟨C, 0, none⟩), .pointer (some ⟨E, 0, none⟩), u6, u7, u8, u9, u10, u11, u12, .int .i64 (p : Int), u14, .pointer (some ⟨T, 0, none⟩), u16, u17, u18, u19, u20, u21, u22, u23, u24, u25, u26, u27, u28, u29, u30, u31, u32, u33, u34, u35, u36, u37, u38, u39, u40, u41, u42, u43, u44, u45, u46, u47, u48, u49, u50, u51, u52, u53, u54, u55, u56, u57, u58, u59, u60, u61, u62, u63, u64, u65, u66, u67, u68, u69, u70, u71, u72, u73, u74, u75, u76, u77, u78, u79, u80, u81, u82, u83, u84, u85, u86, u87, u88, u89, u90, u91, u92, u93, u94, u95, u96, u97, u98, u99, u100, u101, u102, u103, u104, u105, u106, u107, u108, u109, u110, u111, u112, u113, u114, u115, u116, u117, u118, u119, u120, u121, u122, u123, u124, u125, u126, u127, u128, u129, u130, u131, u132, u133, u134, u135, u136, u137, u138, u139, u140, u141, u142, u143, u144], []⟩ x := by
  subst hT0
  have hrn : n ≤ reach := by rw [← hn]; exact hb.1
  have hmx : n ≤ 140737488351232 := by unfold reach at hrn; omega
  have HBB := Lib.hid hb; clear hb
  have HN := Lib.hid hn; clear hn
  have HRN := Lib.hid hrn; clear hrn
  have HS := Lib.hid hs; clear hs
  have HC := Lib.hid hC; clear hC
  have HSS := Lib.hid hS; clear hS
  have HP := Lib.hid hp; clear hp
  have HBX := Lib.hid hbx
  have HT := Lib.hid hT
  have hcT : x0.heap.size < x.heap.size := hcc.lt
  have HCC := Lib.hid hcc
  have p0 : (p : Int) ≤ (n : Int) := by omega
  have hmx2 : (n : Int) ≤ 140737488351232 := by omega
  clear hbx hT hcc hmx
  conv => arg 2; whnf
  refine wp_seq_k fun K hK => ?_
  have HKK := Lib.hid hK
  clear hK
  go_wp2
  go_loopw [20] (fun i wr => ∃ (t : Nat) (vD vT2 : Value), p + t ≤ n ∧ i = .int .i64 ((p + t : Nat) : Int) ∧ Hid (CC wr x0.heap.size vT2 vC vS vD (.int .i64 size)) ∧ Hid (wr.ownsRow (x0.heap.size + 1) 69 3 vT2 ts.length (tysOf ts)) ∧ Hid (Own8 wr (x0.heap.size + 1) vD ((b.drop p).take t)) ∧ Hid (Below x0.heap.size x0 wr)) (fun i _ => n - (intOf i).toNat)
  case atStart => exact ⟨0, _, _, hpn, by go_num, HCC, HT, Lib.hid (by simpa using Own8.nil _ _), HBX⟩
  case round =>
    obtain ⟨t, vD, vT2, ht, rfl, hcc, hto, hdo, hbw⟩ := hrel
    by_cases hlt : p + t < n
    · have hTw : x0.heap.size < wr.heap.size := hcc.out.lt
      have hq3 := hcc.out.c3
      have hf3 := hcc.out.free 3
      obtain ⟨A3, c3, hv3, _⟩ := own_shape hdo.out
      subst hv3
      obtain ⟨b1, o1, hA, hbc⟩ := (HBB.out.mono (below_step HS.out.below hbw.out)).2 (by have := HN.out; omega)
      subst hA
      have hby := hbc (p + t) (by have := HN.out; omega)
      have hps := piece_snoc b p t (by have := HN.out; omega)
      have hpl : ((b.drop p).take t).length + 1 ≤ reach := by simp; have := HN.out; have := HRN.out; omega
      have hb1 : b1 < wr.heap.size := World.block_lt_of_cell? wr _ hby
      obtain ⟨y, hy⟩ : ∃ y, y = b.getD (p + t) 0 := ⟨_, rfl⟩
      rw [← hy] at hby hps
      have HDO := hdo
      obtain ⟨l, hl⟩ : ∃ l, l = (b.drop p).take t := ⟨_, rfl⟩
      rw [← hl] at hps hpl hq3 hcc HDO
      obtain ⟨m, hm⟩ : ∃ m, m = l.length := ⟨_, rfl⟩
      rw [← hm] at hq3 hcc HDO
      have HPL := Lib.hid hpl
      have HPS := Lib.hid hps
      obtain ⟨s, hs⟩ : ∃ s, s = p + t := ⟨_, rfl⟩
      rw [← hs] at hby hlt ht
      have hsn : (s : Int) < (n : Int) := by omega
      have hs0 : (0 : Int) ≤ (s : Int) := by omega
      have hse : ((p + t : Nat) : Int) = (s : Int) := by omega
      rw [hse]
      have HSE := Lib.hid hs
      have HNE : Hid (some x0.heap.size ≠ (Value.slice A3 m c3).ownBlock) := Lib.hid (fun e => by have := own_ge HDO.out _ e.symm; omega)
      have HW : Hid (x0.heap.size + 1 ≤ wr.heap.size) := Lib.hid hTw
      have HQ3 := Lib.hid hq3
      have HF3 := Lib.hid hf3
      have HTW := Lib.hid hTw
      clear hbc hps hpl hy hl hm hdo hs hse
      go_wp2_with fail
      go_region_law
        ((first
          | (refine step_byte y (.tmp 135) (.tmp 140) rfl rfl _ HDO rfl rfl HPL HW.out (by with_reducible first | exact Below.refl _ _ | exact (Below.refl _ _).drew | exact below_alloc _ _ | exact (below_alloc _ _).drew | exact below_step (Below.refl _ _).drew (below_alloc _ _)) (by with_reducible first | exact box_new' _ _ _ (by first | rfl | simp) | exact box_dr (box_new' _ _ _ (by first | rfl | simp))) ?_; intro v4 w4 ho hg
             have HK4 : Hid (w4.heap[x0.heap.size]? = wr.heap[x0.heap.size]?) := Lib.hid (deep_block (by with_reducible first | exact Below.refl _ _ | exact (Below.refl _ _).drew | exact below_alloc _ _ | exact (below_alloc _ _).drew | exact below_step (Below.refl _ _).drew (below_alloc _ _)) hg HTW.out HNE.out)
             have HO4 := Lib.hid ho
             have HB4 : Hid (Below x0.heap.size wr w4) := Lib.hid (deep_grown (by with_reducible first | exact Below.refl _ _ | exact (Below.refl _ _).drew | exact below_alloc _ _ | exact (below_alloc _ _).drew | exact below_step (Below.refl _ _).drew (below_alloc _ _)) hg (Nat.le_of_lt HTW.out) (fun k hk => by have := own_ge HDO.out k hk; omega))
             have HT4 : Hid (w4.ownsRow (x0.heap.size + 1) 69 3 vT2 ts.length (tysOf ts)) := Lib.hid (own_other (own_below hto.out (by with_reducible first | exact Below.refl _ _ | exact (Below.refl _ _).drew | exact below_alloc _ _ | exact (below_alloc _ _).drew | exact below_step (Below.refl _ _).drew (below_alloc _ _))) hg (own_type_ne (own_below hto.out (by with_reducible first | exact Below.refl _ _ | exact (Below.refl _ _).drew | exact below_alloc _ _ | exact (below_alloc _ _).drew | exact below_step (Below.refl _ _).drew (below_alloc _ _))) (own_below HDO.out (by with_reducible first | exact Below.refl _ _ | exact (Below.refl _ _).drew | exact below_alloc _ _ | exact (below_alloc _ _).drew | exact below_step (Below.refl _ _).drew (below_alloc _ _))) (by decide)))
             have s1 : w4.cell? ⟨x0.heap.size, 3, none⟩ = some (.slice A3 m c3) := (World.cell?_of_block (w := wr) HK4.out).trans HQ3.out
             have s2 : w4.frozen? ⟨x0.heap.size, 3, none⟩ = false := (World.frozen?_of_block (w := wr) HK4.out).trans HF3.out
             obtain ⟨A4, c4, rfl, _⟩ := own_shape ho
             clear ho hg)))
      all_goals go_wp2_with fail
      all_goals go_roundw
      case rel | rel | rel =>
        refine ⟨t + 1, _, _, by have := HSE.out; omega, ?_, Lib.hid ((hcc.out.of_block HK4.out).set3 _), Lib.hid (own_other HT4.out (grown_setCell _ _ 3 _) (.inr fun e => by have := own_ge HT4.out _ e; omega)), Lib.hid ?_, Lib.hid ((hbw.out.trans HB4.out).trans (below_setNew _ (Nat.le_refl _) 3 _))⟩
        · have := HSE.out
          exact congrArg (Value.int .i64) (by omega)
        · rw [HPS.out]
          have ho5 : Own8 w4 (x0.heap.size + 1) (.slice A4 (l.length + 1) c4) (l ++ [y]) := by
            have := HO4.out
            rwa [List.length_append, List.length_singleton] at this
          exact own_other ho5 (grown_setCell _ _ 3 _) (.inr fun e => by have := own_ge ho5 _ e; omega)
      all_goals (simp [intOf]; omega)
    · have hpt : p + t = n := by omega
      have hle : ¬ ((p + t : Nat) : Int) < (n : Int) := by omega
      have hd : (b.drop p).take t = b.drop p := List.take_of_length_le (by have := HN.out; simp; omega)
      rw [hd] at hdo
      clear hlt hpt hd
      go_wp2
      exact HKK.out _ _ (st36_12 A n c o b w C E x0.heap.size M vT2 vC vS vD ⟨ts, cs, ss, b.drop p, size⟩ wr (HS.out.next hbw.out) hCM hEM hcc.out (own_base hto.out (by omega)) (HC.out.below hbw.out) (HSS.out.below hbw.out) (own_base hdo.out (by omega)) HP.out _ _ _ _ _ _ _ _ _ _ _ _ _ _ _ _ _ _ _ _ _ _ _ _ _ _ _ _ _ _ _ _ _ _ _ _ _ _ _ _ _ _ _ _ _ _ _ _ _ _ _ _ _ _ _ _ _ _ _ _ _ _ _ _ _ _ _ _ _ _ _ _ _ _ _ _ _ _ _ _ _ _ _ _ _ _ _ _ _ _ _ _ _ _ _ _ _ _ _ _ _ _ _ _ _ _ _ _ _ _ _ _ _ _ _ _ _ _ _ _ _ _ _ _ _ _ _ _ _ _ _ _ _ _ _ _ _ _)
end Go.Proofs.Ytkbboepopcebaaa
namespace Go.Proofs.Ytkbboepopcebaaa
open Go.RowKit

section
variable {ops : Array Oper} {rest : List Oper} {o : Oper} {a : Act} {Q : Exit → Act → World → Prop}
/-- append(types, t), the type in its box. -/
theorem app_ty {W : World} {p q r : Int} (s x : Operand) (hgd : o.guard = none) (ho : o.op = .call { callee := .builtin .append, args := #[s, x], argTypes := #[25, 25] })
    (B n : Nat) (v : Value) (vs : List Value) (hs : a.eval s = v) (HO : Hid (W.ownsRow B 69 3 v n vs)) (hx : a.eval x = .slice (some ⟨W.heap.size, 0, none⟩) 1 1) (hB : B ≤ W.heap.size) (hl : n + 1 ≤ 4294967296)
    (h : ∀ v' w', w'.ownsRow B 69 3 v' (n + 1) (vs ++ [.int .i64 p, .int .i64 q, .int .i64 r]) → W.grownBy w' v.ownBlock → wpList Try.prog ops Q rest (a.put o.dst v') w') : wpList Try.prog ops Q (o :: rest) a (W.alloc (.cells #[.int .i64 p, .int .i64 q, .int .i64 r] 69)) := by
  obtain ⟨i0, hi, hz0, hz1, hz2⟩ := info_parts infoT
  have hb := below_alloc W (.cells #[.int .i64 p, .int .i64 q, .int .i64 r] 69)
  have hn := World.news_of_block (w := W.alloc (.cells #[.int .i64 p, .int .i64 q, .int .i64 r] 69)) (B := W.heap.size) (cs := #[.int .i64 p, .int .i64 q, .int .i64 r]) (t := 69) (fr := (0, 0)) (heap_alloc_new W _)
  refine wpList_append_own_at _ hgd s x 25 ho B 69 i0 (.agg #[.int .i64 0, .int .i64 0, .int .i64 0]) 3 24 Try.underlying25 hi hz0 hz1 hz2 (by decide) (by decide) v n vs hs (own_below HO.out hb) ⟨W.heap.size, 0, none⟩ 1 1 [.int .i64 p, .int .i64 q, .int .i64 r] hx rfl (by simpa using hn) ?_ (by unfold maxLen; omega) (by omega) (by simp; omega) ?_
  · intro u hu
    simp at hu
    rcases hu with rfl | rfl | rfl <;> rfl
  · intro v' w' hown hg _ _
    exact h v' w' hown (grown_trans (grown_of_below hb _) hg)
end
theorem tysR_bad (b : List Int) (m a : Nat) (f : Bool) (L : List Ty) (r : Int) (hr : r = tWrong f ⟨num b a 1, num b (a + 1) 1, num b (a + 2) 2⟩) (h3 : r < 3) : ontoT L (tysR b (m + 1) f a) = .error (59, (a : Int) + r) := by
  unfold tWrong at hr
  cases h1 : fitsIn f (num b a 1)
  · rw [h1] at hr; simp at hr; subst hr
    rw [tysR_e1 b m a f L h1.symm]; simp
  · cases h2 : fitsOut f (num b (a + 1) 1)
    · rw [h1, h2] at hr; simp at hr; subst hr
      rw [tysR_e2 b m a f L h1 h2.symm]
    · cases h4 : fitsMost (num b (a + 2) 2)
      · rw [h1, h2, h4] at hr; simp at hr; subst hr
        rw [tysR_e3 b m a f L h1 h2 h4.symm]
      · rw [h1, h2, h4] at hr; simp at hr; omega
theorem tysR_good (b : List Int) (m a : Nat) (f : Bool) (L : List Ty) (r : Int) (hr : r = tWrong f ⟨num b a 1, num b (a + 1) 1, num b (a + 2) 2⟩) (h3 : ¬ r < 3) : ontoT L (tysR b (m + 1) f a) = ontoT (L ++ [⟨num b a 1, num b (a + 1) 1, num b (a + 2) 2⟩]) (tysR b m false (a + 4)) := by
  unfold tWrong at hr
  cases h1 : fitsIn f (num b a 1)
  · rw [h1] at hr; simp at hr; omega
  · cases h2 : fitsOut f (num b (a + 1) 1)
    · rw [h1, h2] at hr; simp at hr; omega
    · cases h4 : fitsMost (num b (a + 2) 2)
      · rw [h1, h2, h4] at hr; simp at hr; omega
      · exact tysR_step b m a f h1 h2 h4 L
theorem tWrong_ge (f : Bool) (t : Ty) : 0 ≤ tWrong f t ∧ tWrong f t ≤ 3 := by
  unfold tWrong
  split
  · split
    · split <;> omega
    · omega
  · omega
def RefV (x y : Int) : Value := .tuple #[.agg #[.slice none 0 0, .slice none 0 0, .slice none 0 0, .slice none 0 0, .int .i64 0], .agg #[.int .i64 x, .slice none 0 0, .int .i64 0, .int .i64 y]]
theorem refused_lit (x y : Int) (w : World) : Calls Try.prog 63 #[.int .i64 x, .int .i64 y] w fun e w' => e = .returned (.tuple #[.agg #[.slice none 0 0, .slice none 0 0, .slice none 0 0, .slice none 0 0, .int .i64 0], .agg #[.int .i64 x, .slice none 0 0, .int .i64 0, .int .i64 y]]) ∧ Below w.heap.size w w' := refused_any x y w
theorem at_nat (A : Option Addr) (c n : Nat) (b : List Int) (w0 w : World) (hb : NumsR w0 .u8 A b) (hy : Byt b) (hn : b.length = n) (hB : Below w0.heap.size w0 w) (q s : Nat) (a : Int) (ha : a = (q : Int)) (hs : s ≤ 4) (h : q + s ≤ n) :
    Calls Try.prog 66 #[.slice A n c, .int .i64 a, .int .i64 (s : Int)] w fun e w' => e = .returned (.int .i64 (num b q s)) ∧ w = w' := by
  subst ha
  have := at_any A c n q s b w (hb.mono hB) hy hn (by omega) (by omega) (by omega) (by omega)
  rwa [Int.toNat_natCast, Int.toNat_natCast] at this

set_option maxRecDepth 100000 in
set_option maxHeartbeats 8000000 in
theorem st36_10 (A : Option Addr) (n c : Nat) (o : Bool) (b : List Int) (w : World) (hb : NumsR w .u8 A b) (hy : Byt b) (hn : b.length = n) (C E T M p k N cc : Nat) (L : Option Addr) (vC vS : Value) (cs ss : List (List Int)) (size : Int) (x0 x : World) (hT0 : T = x0.heap.size)
    (hs : RS w x0 C E) (hCM : C < M) (hEM : E < M) (hMT : M ≤ T) (hC : PartsO x0 M vC cs) (hS : PartsO x0 M vS ss) (hbx : Below T x0 x) (hcc : CC x T (.slice none 0 0) vC vS (.slice none 0 0) (.int .i64 size)) (hpn : p ≤ n) (hkn : k + 4 * N ≤ n) (hN : N ≤ 1024)
    (hp : parse b o = takeB (tysR b N true k) fun ts => .ok ⟨ts, cs, ss, b.drop p, size⟩)
    (u7 u8 u10 u11 u12 u14 u16 u17 u18 u19 u20 u21 u22 u23 u24 u25 u26 u27 u28 u29 u30 u31 u32 u33 u34 u35 u36 u37 u38 u39 u40 u41 u42 u43 u44 u45 u46 u47 u48 u49 u50 u51 u52 u53 u54 u55 u56 u57 u58 u59 u60 u61 u62 u63 u64 u65 u66 u67 u68 u69 u70 u71 u72 u73 u74 u75 u76 u77 u78 u79 u80 u81 u82 u83 u84 u85 u86 u87 u88 u89 u90 u91 u92 u93 u94 u95 u96 u97 u98 u99 u100 u101 u102 u103 u104 u105 u106 u107 u108 u109 u110 u111 u112 u113 u114 u115 u116 u117 u118 u119 u120 u121 u122 u123 u124 u125 u126 u127 u128 u129 u130 u131 u132 u133 u134 u135 u136 u137 u138 u139 u140 u141 u142 u143 u144 : Value) :
    Code.wp Try.prog (rest36 10) (bodyPost Try.prog Try.f36 (PPost b o w)) ⟨#[.slice A n c, .bool o, undef, undef, .pointer (some ⟨C, 0, none⟩), .pointer (some ⟨E, 0, none⟩), .slice L N cc, u7, u8, .int .i64 (k : Int), u10, u11, u12, .int .i64 (p : Int), u14, .pointer (some ⟨T, 0, none⟩), u16, u17, u18, u19, u20, u21, u22, u23, u24, u25, u26, u27, u28, u29, u30, u31, u32, u33, u34, u35, u36, u37, u38, u39, u40, u41, u42, u43, u44, u45, u46, u47, u48, u49, u50, u51, u52, u53, u54, u55, u56, u57, u58, u59, u60, u61, u62, u63, u64, u65, u66, u67, u68, u69, u70, u71, u72, u73, u74, u75, u76, u77, u78, u79, u80, u81, u82, u83, u84, u85, u86, u87, u88, u89, u90, u91, u92, u93, u94, u95, u96, u97, u98, u99, u100, u101, u102, u103, u104, u105, u106, u107, u108, u109, u110, u111, u112, u113, u114, u115, u116, u117, u118, u119, u120, u121, u122, u123, u124, u125, u126, u127, u128, u129, u130, u131, u132, u133, u134, u135, u136, u137, u138, u139, u140, u141, u142, u143, u144], []⟩ x := by
  subst hT0
  have hmx : n ≤ 140737488351232 := by have := hb.1; unfold reach at this; omega
  have HBB := Lib.hid hb; clear hb
  have HY := Lib.hid hy; clear hy
  have HN := Lib.hid hn; clear hn
  have HS := Lib.hid hs; clear hs
  have HC := Lib.hid hC; clear hC
  have HSS := Lib.hid hS; clear hS
  have HP := Lib.hid hp; clear hp
  have HBX := Lib.hid hbx
  have hcT : x0.heap.size < x.heap.size := hcc.lt
  have HCC := Lib.hid hcc
  have hmx2 : (k : Int) + 4 * N ≤ 140737488351232 := by omega
  clear hbx hcc hmx
  conv => arg 2; whnf
  refine wp_seq_k fun K hK => ?_
  have HKK := Lib.hid hK
  clear hK
  go_wp2
  go_loopw [16] (fun i wr => ∃ (t : Nat) (TL : List Ty) (vT : Value), t ≤ N ∧ TL.length = t ∧ i = .int .i64 (t : Int) ∧ Hid (CC wr x0.heap.size vT vC vS (.slice none 0 0) (.int .i64 size)) ∧ Hid (wr.ownsRow (x0.heap.size + 1) 69 3 vT t (tysOf TL)) ∧ Hid (Below x0.heap.size x0 wr) ∧ Hid (ontoT TL (tysR b (N - t) ((t : Int) == 0) (k + 4 * t)) = tysR b N true k)) (fun i _ => N - (intOf i).toNat)
  case atStart => exact ⟨0, [], _, Nat.zero_le _, rfl, by go_num, HCC, Lib.hid (World.ownsRow_nil _ _ _ _), HBX, Lib.hid (by simp [ontoT_nil])⟩
  case round =>
    obtain ⟨t, TL, vT, ht, hTL, rfl, hcc, hto, hbw, hty⟩ := hrel
    have HTL := Lib.hid hTL
    clear hTL
    by_cases hlt : t < N
    · have hTw : x0.heap.size < wr.heap.size := hcc.out.lt
      obtain ⟨A0, c0, hv0, _⟩ := own_shape hto.out
      subst hv0
      have HBW0 : Hid (Below w.heap.size w wr) := Lib.hid (below_step HS.out.below hbw.out)
      obtain ⟨m0, hm0⟩ : ∃ m0, N - t = m0 + 1 := ⟨N - t - 1, by omega⟩
      have hty2 := hty.out
      rw [hm0] at hty2
      obtain ⟨q, hq⟩ : ∃ q : Nat, q = k + 4 * t := ⟨_, rfl⟩
      rw [← hq] at hty2
      have hqn : q + 4 ≤ n := by omega
      have hw1 : IntKind.i64.wrap (4 * (t : Int)) = 4 * (t : Int) := IntWalk.i64_in _ (by omega)
      have hw2 : IntKind.i64.wrap ((k : Int) + 4 * (t : Int)) = (q : Int) := by rw [IntWalk.i64_in _ (by omega)]; omega
      have hw3 : IntKind.i64.wrap ((q : Int) + 1) = (q : Int) + 1 := IntWalk.i64_in _ (by omega)
      have hw4 : IntKind.i64.wrap ((q : Int) + 2) = (q : Int) + 2 := IntWalk.i64_in _ (by omega)
      have HQ := Lib.hid hq
      have hqx : (q : Int) ≤ 140737488351232 := by omega
      have HA1 : Hid (∀ W, Below w.heap.size w W → Calls Try.prog 66 #[.slice A n c, .int .i64 (q : Int), .int .i64 1] W fun e w' => e = .returned (.int .i64 (num b q 1)) ∧ W = w') := Lib.hid fun W hW => at_nat A c n b w W HBB.out HY.out HN.out hW q 1 _ rfl (by omega) (by omega)
      have HA2 : Hid (∀ W, Below w.heap.size w W → Calls Try.prog 66 #[.slice A n c, .int .i64 ((q : Int) + 1), .int .i64 1] W fun e w' => e = .returned (.int .i64 (num b (q + 1) 1)) ∧ W = w') := Lib.hid fun W hW => at_nat A c n b w W HBB.out HY.out HN.out hW (q + 1) 1 _ (by omega) (by omega) (by omega)
      have HA3 : Hid (∀ W, Below w.heap.size w W → Calls Try.prog 66 #[.slice A n c, .int .i64 ((q : Int) + 2), .int .i64 2] W fun e w' => e = .returned (.int .i64 (num b (q + 2) 2)) ∧ W = w') := Lib.hid fun W hW => at_nat A c n b w W HBB.out HY.out HN.out hW (q + 2) 2 _ (by omega) (by omega) (by omega)
      have hty3 := tysR_bad b m0 q ((t : Int) == 0) TL
      have hty4 := tysR_good b m0 q ((t : Int) == 0) TL
      rw [hty2] at hty3 hty4
      obtain ⟨x1, hx1⟩ : ∃ x1, x1 = num b q 1 := ⟨_, rfl⟩
      obtain ⟨x2, hx2⟩ : ∃ x2, x2 = num b (q + 1) 1 := ⟨_, rfl⟩
      obtain ⟨x3, hx3⟩ : ∃ x3, x3 = num b (q + 2) 2 := ⟨_, rfl⟩
      rw [← hx1] at HA1 hty3 hty4
      rw [← hx2] at HA2 hty3 hty4
      rw [← hx3] at HA3 hty3 hty4
      have HT3 := Lib.hid hty3
      have HT4 := Lib.hid hty4
      clear hty2 hty3 hty4 hx1 hx2 hx3 hq hty
      go_wp2_with fail
      refine (HA1.out _ HBW0.out).mono ?_
      rintro e w1 ⟨rfl, rfl⟩
      go_wp2_with fail
      refine (HA2.out _ HBW0.out).mono ?_
      rintro e w1 ⟨rfl, rfl⟩
      go_wp2_with fail
      refine (HA3.out _ HBW0.out).mono ?_
      rintro e w1 ⟨rfl, rfl⟩
      go_wp2_with fail
      refine (typeWrong_any _ _ _ _ _).mono ?_
      rintro e w1 ⟨r, rfl, rfl, hr⟩
      have hr0 := tWrong_ge ((t : Int) == 0) ⟨x1, x2, x3⟩
      rw [← hr] at hr0
      obtain ⟨r0, r1⟩ := hr0
      obtain ⟨y1, hy1⟩ : ∃ y1, y1 = (wr.alloc (.cells #[.int .i64 x1, .int .i64 x2, .int .i64 x3] 69)).alloc (.cells #[.int .i64 x1, .int .i64 x2, .int .i64 x3] 69) := ⟨_, rfl⟩
      have hb1 : Below wr.heap.size wr y1 := by rw [hy1]; exact below_step (below_alloc _ _) (below_alloc _ _)
      have k0 : y1.cell? ⟨wr.heap.size, 0, none⟩ = some (.int .i64 x1) := by rw [hy1]; exact cell_keep (below_alloc _ _) (box1_at wr _ 69 0 _ rfl)
      have k1 : y1.cell? ⟨wr.heap.size, 1, none⟩ = some (.int .i64 x2) := by rw [hy1]; exact cell_keep (below_alloc _ _) (box1_at wr _ 69 1 _ rfl)
      have k2 : y1.cell? ⟨wr.heap.size, 2, none⟩ = some (.int .i64 x3) := by rw [hy1]; exact cell_keep (below_alloc _ _) (box1_at wr _ 69 2 _ rfl)
      rw [← hy1]
      obtain ⟨X, hX⟩ : ∃ X, X = wr.heap.size := ⟨_, rfl⟩
      rw [← hX] at k0 k1 k2
      rw [← hX]
      have HR := Lib.hid hr
      have HB1 := Lib.hid hb1
      clear hy1 hX hb1 hr
      by_cases h3 : r < 3
      · have HS1 := Lib.hid ((HS.out.next hbw.out).next HB1.out)
        have hd3 : decide (r < 3) = true := by simpa using h3
        have hw5 : IntKind.i64.wrap ((q : Int) + r) = (q : Int) + r := IntWalk.i64_in _ (by omega)
        have HPX := Lib.hid (HP.out.trans (by rw [HT3.out r HR.out h3]))
        clear h3
        go_wp2_with fail
        refine (refused_lit _ _ _).mono ?_
        rintro e w2 ⟨rfl, hb2⟩
        have HS2 := Lib.hid (HS1.out.next hb2)
        obtain ⟨z0, z1, z2, z3, z4, fC⟩ := HS2.out.cc
        obtain ⟨l0, l1, l2, l3, fE⟩ := HS2.out.ee
        have nCE : ¬ C = E := HS2.out.ce
        have nEC : ¬ E = C := fun e => HS2.out.ce e.symm
        clear hb2 k0 k1 k2
        go_wp2_with fail
        exact ref_bad rfl rfl HS2.out HPX.out
      · have hd3 : decide (r < 3) = false := by simpa using h3
        have HTY := Lib.hid (HT4.out r HR.out (by omega))
        have HT0 := Lib.hid (own_below hto.out HB1.out)
        have hTB : x0.heap.size + 1 ≤ y1.heap.size := by have := HB1.out.size; omega
        have hcc1 := hcc.out.of_block (HB1.out.block _ hTw)
        have q0 := hcc1.c0
        have HCC1 := Lib.hid hcc1
        have HNE : Hid (some x0.heap.size ≠ (Value.slice A0 t c0).ownBlock) := Lib.hid (fun e => by have := own_ge HT0.out _ e.symm; omega)
        clear h3 hcc1
        go_wp2_with (at_builtin; refine app_ty (.tmp 122) (.tmp 124) rfl rfl (x0.heap.size + 1) t _ _ rfl HT0 rfl hTB (by omega) ?_; intro v5 w5 ho5 hg5; obtain ⟨A5, c5, rfl, _⟩ := own_shape ho5; have hcc5 := HCC1.out.of_block (hg5.block _ hTB HNE.out); have HO5 := Lib.hid ho5; have HG5 := Lib.hid hg5; have HCC5 := Lib.hid hcc5; have s1 := hcc5.c0; have s2 := hcc5.free 0; clear ho5 hg5 hcc5)
        go_roundw
        case rel =>
          refine ⟨t + 1, TL ++ [⟨x1, x2, x3⟩], _, by omega, by simp [HTL.out], by go_num, Lib.hid (HCC5.out.set0 _), Lib.hid ?_, Lib.hid (((hbw.out.trans (HB1.out.mono (Nat.le_of_lt hTw))).trans (deep_grown (Below.refl _ _) HG5.out (by omega) (fun k hk => by have := own_ge HT0.out k hk; omega))).trans (below_setNew _ (Nat.le_refl _) 0 _)), Lib.hid ?_⟩
          · rw [tysOf_append]
            exact own_other HO5.out (grown_setCell _ _ 0 _) (.inr fun e => by have := own_ge HO5.out _ e; omega)
          · rw [HTY.out]
            rw [show N - (t + 1) = m0 by omega, show k + 4 * (t + 1) = q + 4 by have := HQ.out; omega]
            have : (((t + 1 : Nat) : Int) == 0) = false := by simp; omega
            rw [this]
        case measure => exact own_meas hlt
    · obtain rfl : t = N := by omega
      have hle : ¬ (t : Int) < (t : Int) := by omega
      have hty2 := hty.out
      rw [Nat.sub_self, tysR] at hty2
      simp only [ontoT, List.append_nil] at hty2
      have HP2 := Lib.hid (HP.out.trans (by rw [← hty2]))
      have hto2 := hto.out
      rw [← HTL.out] at hto2
      have HTO := Lib.hid hto2
      clear hlt hty2 hto2
      go_wp2
      exact HKK.out _ _ (st36_11 A n c o b w HBB.out HN.out C E x0.heap.size M p vT vC vS TL cs ss size x0 wr rfl HS.out hCM hEM hMT HC.out HSS.out hbw.out hcc.out HTO.out hpn HP2.out _ _ _ _ _ _ _ _ _ _ _ _ _ _ _ _ _ _ _ _ _ _ _ _ _ _ _ _ _ _ _ _ _ _ _ _ _ _ _ _ _ _ _ _ _ _ _ _ _ _ _ _ _ _ _ _ _ _ _ _ _ _ _ _ _ _ _ _ _ _ _ _ _ _ _ _ _ _ _ _ _ _ _ _ _ _ _ _ _ _ _ _ _ _ _ _ _ _ _ _ _ _ _ _ _ _ _ _ _ _ _ _ _ _ _ _ _ _ _ _ _ _ _ _ _ _ _ _ _ _ _ _ _ _ _ _ _)
end Go.Proofs.Ytkbboepopcebaaa
namespace Go.Proofs.Ytkbboepopcebaaa
open Go.RowKit

theorem cc_new (w : World) (v0 v1 v2 v3 v4 : Value) : CC (w.alloc (.cells #[v0, v1, v2, v3, v4] 28)) w.heap.size v0 v1 v2 v3 v4 := by
  have hh := heap_alloc_new w (.cells #[v0, v1, v2, v3, v4] 28)
  refine ⟨box1_at w _ 28 0 _ rfl, box1_at w _ 28 1 _ rfl, box1_at w _ 28 2 _ rfl, box1_at w _ 28 3 _ rfl, box1_at w _ 28 4 _ rfl, fun j => ?_⟩
  unfold World.frozen?
  rw [hh]
  rfl
set_option maxRecDepth 100000 in
set_option maxHeartbeats 8000000 in
theorem st36_9 (A : Option Addr) (n c : Nat) (o : Bool) (b : List Int) (w : World) (hb : NumsR w .u8 A b) (hy : Byt b) (hn : b.length = n) (C E p k q s1 N cc N2 cc2 : Nat) (L L2 : Option Addr) (cl sl : List Int) (size : Int) (x : World)
    (hs : RS w x C E) (hL : NumsR x .i64 L cl) (hL2 : NumsR x .i64 L2 sl) (h1 : cl.length = N) (h2 : sl.length = N2) (hp1 : ∀ z ∈ cl, 1 ≤ z) (hp2 : ∀ z ∈ sl, 1 ≤ z) (hs1 : cl.sum ≤ 1099511627776) (hs2 : sl.sum ≤ 1099511627776) (hN : N ≤ 1024) (hN2 : N2 ≤ 256)
    (hq : q = k + 4 * N) (hs1e : (s1 : Int) = q + cl.sum) (hpe : (p : Int) = s1 + sl.sum) (hpn : p ≤ n)
    (hp : parse b o = takeB (tysR b N true k) fun ts => .ok ⟨ts, cutL b cl q, cutL b sl s1, b.drop p, size⟩)
    (u10 u11 u14 u15 u16 u17 u18 u19 u20 u21 u22 u23 u24 u25 u26 u27 u28 u29 u30 u31 u32 u33 u34 u35 u36 u37 u38 u39 u40 u41 u42 u43 u44 u45 u46 u47 u48 u49 u50 u51 u52 u53 u54 u55 u56 u57 u58 u59 u60 u61 u62 u63 u64 u65 u66 u67 u68 u69 u70 u71 u72 u73 u74 u75 u76 u77 u78 u79 u80 u81 u82 u83 u84 u85 u86 u87 u88 u89 u90 u91 u92 u93 u94 u95 u96 u97 u98 u99 u100 u101 u102 u103 u104 u105 u106 u107 u108 u109 u110 u111 u112 u113 u114 u115 u116 u117 u118 u119 u120 u121 u122 u123 u124 u125 u126 u127 u128 u129 u130 u131 u132 u133 u134 u135 u136 u137 u138 u139 u140 u141 u142 u143 u144 : Value) :
    Code.wp Try.prog (rest36 9) (bodyPost Try.prog Try.f36 (PPost b o w)) ⟨#[.slice A n c, .bool o, undef, undef, .pointer (some ⟨C, 0, none⟩), .pointer (some ⟨E, 0, none⟩), .slice L N cc, .slice L2 N2 cc2, .int .i64 size, .int .i64 (k : Int), u10, u11, .int .i64 (q : Int), .int .i64 (p : Int), u14, u15, u16, u17, u18, u19, u20, u21, u22, u23, u24, u25, u26, u27, u28, u29, u30, u31, u32, u33, u34, u35, u36, u37, u38, u39, u40, u41, u42, u43, u44, u45, u46, u47, u48, u49, u50, u51, u52, u53, u54, u55, u56, u57, u58, u59, u60, u61, u62, u63, u64, u65, u66, u67, u68, u69, u70, u71, u72, u73, u74, u75, u76, u77, u78, u79, u80, u81, u82, u83, u84, u85, u86, u87, u88, u89, u90, u91, u92, u93, u94, u95, u96, u97, u98, u99, u100, u101, u102, u103, u104, u105, u106, u107, u108, u109, u110, u111, u112, u113, u114, u115, u116, u117, u118, u119, u120, u121, u122, u123, u124, u125, u126, u127, u128, u129, u130, u131, u132, u133, u134, u135, u136, u137, u138, u139, u140, u141, u142, u143, u144], []⟩ x := by
  have hmx : n ≤ 140737488351232 := by have := hb.1; unfold reach at this; omega
  have hz1 := sum_nonneg cl hp1
  have hz2 := sum_nonneg sl hp2
  have HBB := Lib.hid hb; clear hb
  have HY := Lib.hid hy; clear hy
  have HN := Lib.hid hn; clear hn
  have HS := Lib.hid hs; clear hs
  have HP := Lib.hid hp; clear hp
  have HL := Lib.hid hL; clear hL
  have HL2 := Lib.hid hL2; clear hL2
  have H1 := Lib.hid h1; clear h1
  have H2 := Lib.hid h2; clear h2
  have HP1 := Lib.hid hp1; clear hp1
  have HP2 := Lib.hid hp2; clear hp2
  have HQ := Lib.hid hq
  have HCUT1 := Lib.hid (rcut_any A n c N cc q L cl b x (HBB.out.mono HS.out.below) HN.out H1.out (by omega) HL.out HP1.out (by omega))
  have HSUM : Hid (∀ W, Below x.heap.size x W → Calls Try.prog 64 #[.slice L N cc] W fun e w' => e = .returned (.int .i64 cl.sum) ∧ W = w') := Lib.hid fun W hW => sum_any L cc N cl W (HL.out.mono hW) H1.out HP1.out hs1
  have HCUT2 : Hid (∀ W, Below x.heap.size x W → Calls Try.prog 65 #[.slice A n c, .int .i64 (s1 : Int), .slice L2 N2 cc2] W (CutPost b sl s1 W)) := Lib.hid fun W hW => rcut_any A n c N2 cc2 s1 L2 sl b W ((HBB.out.mono HS.out.below).mono hW) HN.out H2.out (by omega) (HL2.out.mono hW) HP2.out (by omega)
  have hw : IntKind.i64.wrap ((q : Int) + cl.sum) = (s1 : Int) := by rw [IntWalk.i64_in _ (by omega)]; omega
  obtain ⟨cs1, hcs1⟩ : ∃ z, z = cl.sum := ⟨_, rfl⟩
  rw [← hcs1] at hw HSUM
  have hkn : k + 4 * N ≤ n := by omega
  have HLC : Hid (C < x.heap.size) := Lib.hid HS.out.cc.lt
  have HLE : Hid (E < x.heap.size) := Lib.hid HS.out.ee.lt
  clear hs1 hs2 hq hs1e hpe hz1 hz2 hcs1 hmx HL HL2
  conv => arg 2; whnf
  refine wp_seq_k fun K hK => ?_
  have HKK := Lib.hid hK
  clear hK
  go_wp2_with fail
  refine HCUT1.out.mono ?_
  rintro e w1 ⟨v1, rfl, ho1, hb1⟩
  obtain ⟨A1, c1, rfl⟩ := ho1.shape
  have HB1 := Lib.hid hb1
  have HO1 := Lib.hid ho1
  clear hb1 ho1 HCUT1
  go_wp2_with fail
  refine (HSUM.out _ HB1.out).mono ?_
  rintro e w2 ⟨rfl, rfl⟩
  go_wp2_with fail
  refine (HCUT2.out _ HB1.out).mono ?_
  rintro e w2 ⟨v2, rfl, ho2, hb2⟩
  obtain ⟨A2, c2, rfl⟩ := ho2.shape
  have HB2 := Lib.hid hb2
  have HO2 := Lib.hid ho2
  clear hb2 ho2 HCUT2
  go_wp2_with fail
  exact HKK.out _ _ (st36_10 A n c o b w HBB.out HY.out HN.out C E w2.heap.size x.heap.size p k N cc L _ _ _ _ size w2 _ rfl ((HS.out.next HB1.out).next HB2.out) HLC.out HLE.out (by have := HB1.out.size; have := HB2.out.size; omega) (HO1.out.below HB2.out) (HO2.out.base HB1.out.size) (below_alloc _ _) (cc_new _ _ _ _ _ _) hpn hkn hN HP.out _ _ _ _ _ _ _ _ _ _ _ _ _ _ _ _ _ _ _ _ _ _ _ _ _ _ _ _ _ _ _ _ _ _ _ _ _ _ _ _ _ _ _ _ _ _ _ _ _ _ _ _ _ _ _ _ _ _ _ _ _ _ _ _ _ _ _ _ _ _ _ _ _ _ _ _ _ _ _ _ _ _ _ _ _ _ _ _ _ _ _ _ _ _ _ _ _ _ _ _ _ _ _ _ _ _ _ _ _ _ _ _ _ _ _ _ _ _ _ _ _ _ _ _ _ _ _ _ _ _ _ _ _ _ _)
end Go.Proofs.Ytkbboepopcebaaa
