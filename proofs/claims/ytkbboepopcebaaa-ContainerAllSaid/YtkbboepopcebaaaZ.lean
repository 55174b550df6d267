/- The reader's cut. -/
import Derived.Test.YtkbboepopcebaaaS
import Derived.Deep.RegionHeld3
namespace Go.Proofs.Ytkbboepopcebaaa
open Go.RowKit

/-- Pieces of these lengths, from a place on. -/
def cutL (b : List Int) : List Int → Nat → List (List Int)
  | [], _ => []
  | x :: r, a => (b.drop a).take x.toNat :: cutL b r (a + x.toNat)
theorem NumsR.piece {w : World} {k : IntKind} {b1 o1 : Nat} {b : List Int} (h : NumsR w k (some ⟨b1, o1, none⟩) b) (a x : Nat) (hx : a + x ≤ b.length) : NumsR w k (some ⟨b1, o1 + a, none⟩) ((b.drop a).take x) := by
  have hl : ((b.drop a).take x).length = x := by simp; omega
  refine ⟨by rw [hl]; have := h.1; omega, fun hn => ⟨b1, o1 + a, rfl, fun j hj => ?_⟩⟩
  rw [hl] at hj hn
  obtain ⟨b2, o2, e, hc⟩ := h.2 (by omega)
  have e2 := Option.some.inj e
  injection e2 with e3 e4
  subst e3
  subst e4
  have := hc (a + j) (by omega)
  rw [Nat.add_assoc, this]
  simp [List.getD_eq_getElem?_getD, List.getElem?_take, List.getElem?_drop, hj]

/-- append(out, p) at a step of a region that draws, out a slice of slices of the call's own. -/
theorem step_parts {ops : Array Oper} {o : Oper} {a : Act} {Q : Exit → Act → World → Prop} {K : Act → World → Prop} {E : Prop} {W0 W : World} (p : Value) (s x : Operand) (hgd : o.guard = none) (ho : o.op = .call { callee := .builtin .append, args := #[s, x], argTypes := #[26, 26] })
    {B n : Nat} {v : Value} {vs : List Value} (g : Nat) (HO : Hid (W0.ownsRow B 22 1 v n vs)) (hp : p.oneCell' = true) (hs : a.eval s = v) (hx : a.eval x = .slice (some ⟨g, 0, none⟩) 1 1) (hn : n + 1 ≤ 4294967296) (hB : B ≤ W0.heap.size) (hb : Below W0.heap.size W0 W) (hg : W.heap[g]? = some (.cells #[p] 22 (0, 0)))
    (h : ∀ v' w', w'.ownsRow B 22 1 v' (n + 1) (vs ++ [p]) → W.grownBy w' v.ownBlock → K (a.put o.dst v') w') :
    if Region.wanted o (yielded ops a.tmps) = true then Oper.wp Try.prog o a W K Q else E := by
  have hw : Region.wanted o (yielded ops a.tmps) = true := by simp [Region.wanted, hgd]
  rw [if_pos hw]
  obtain ⟨i0, hi, hz0, hz1, hz2⟩ := info_parts info22
  refine wp_append_own (P := Try.prog) W s x 26 ho B 22 i0 (.slice none 0 0) 1 24 Try.underlying26 hi hz0 hz1 hz2 rfl (by decide) v n vs hs (own_below HO.out hb) ⟨g, 0, none⟩ 1 1 [p] hx rfl ?_ (by simpa using hp) (by unfold maxLen; omega) (by omega) (Nat.le_trans hB hb.size) ?_
  · have := World.news_of_block (w := W) (B := g) (cs := #[p]) (t := 22) (fr := (0, 0)) hg
    simpa using this
  · intro v' w' hown hg' _
    exact h v' w' hown hg'
theorem PartsO.other {w w1 : World} {B R : Nat} {v : Value} {ll : List (List Int)} (h : PartsO w B v ll) (hg : w.grownBy w1 (some R)) (hR : R < B) : PartsO w1 B v ll := by
  obtain ⟨vs, h⟩ := h
  exact ⟨vs, h.len, own_other h.own hg (.inr fun e => by have := own_ge h.own R e; omega), fun j hj => own_other (h.each j hj) hg (.inr fun e => by have := own_ge (h.each j hj) R e; omega), h.apart⟩
theorem below_parts {w wr w3 w4 : World} {o : Obj} {v : Value} {n : Nat} {vs : List Value} (h1 : w.heap.size ≤ wr.heap.size) (hb : Below wr.drew.heap.size wr.drew w3) (hg : (w3.alloc o).grownBy w4 v.ownBlock) (ho : wr.ownsRow w.heap.size 22 1 v n vs) : Below w.heap.size w3 w4 :=
  ((Below.refl _ _).alloc (Nat.le_trans h1 hb.size) _).grown hg (by have := hb.size; simp; exact Nat.le_succ_of_le (Nat.le_trans h1 this)) (fun k hk => own_ge ho k hk)
theorem sum_nonneg (l : List Int) (h : ∀ x ∈ l, 1 ≤ x) : 0 ≤ l.sum := by
  induction l with
  | nil => simp
  | cons a r ih =>
    have h1 := h a List.mem_cons_self
    have h2 := ih fun x hx => h x (List.mem_cons_of_mem _ hx)
    simp only [List.sum_cons]; omega
theorem sum_take_le (l : List Int) (h : ∀ x ∈ l, 1 ≤ x) (k : Nat) : (l.take k).sum ≤ l.sum := by
  have h1 := sum_nonneg (l.drop k) fun x hx => h x (List.mem_of_mem_drop hx)
  have h2 : (l.take k).sum + (l.drop k).sum = l.sum := by rw [← List.sum_append, List.take_append_drop]
  omega
theorem sum_snoc (l : List Int) (k : Nat) (h : k < l.length) : (l.take (k + 1)).sum = (l.take k).sum + l.getD k 0 := by
  rw [take_snoc' l k 0 h]; simp
theorem getD_mem (l : List Int) (k : Nat) (h : k < l.length) : l.getD k 0 ∈ l := by
  have e : l.getD k 0 = l[k] := by simp [List.getD_eq_getElem?_getD, h]
  rw [e]; exact List.getElem_mem _
theorem cutL_append (b : List Int) (l1 l2 : List Int) (h : ∀ x ∈ l1, 1 ≤ x) : ∀ a, cutL b (l1 ++ l2) a = cutL b l1 a ++ cutL b l2 (a + l1.sum.toNat) := by
  induction l1 with
  | nil => intro a; simp [cutL]
  | cons x r ih =>
    intro a
    have h1 := h x List.mem_cons_self
    have h2 := sum_nonneg r fun y hy => h y (List.mem_cons_of_mem _ hy)
    simp only [List.cons_append, cutL]
    rw [ih (fun y hy => h y (List.mem_cons_of_mem _ hy))]
    simp only [List.sum_cons]
    rw [show a + (x + r.sum).toNat = a + x.toNat + r.sum.toNat by omega]
theorem cutL_length (b : List Int) : ∀ (l : List Int) (a : Nat), (cutL b l a).length = l.length
  | [], _ => rfl
  | _ :: r, a => by simp [cutL, cutL_length b r]

set_option maxRecDepth 100000 in
set_option maxHeartbeats 2000000 in
theorem cut_any (w0 : World) (R : Nat) (A : Option Addr) (n c m cc a : Nat) (L : Option Addr) (ls : List Int) (b : List Int) (w : World) (hb : NumsR w0 .u8 A b) (hn : b.length = n) (hnc : n ≤ c) (hB : Below w0.heap.size w0 w) (hR : w0.heap.size ≤ R) (hr : RdAt w R A n c a)
    (hm : ls.length = m) (hm2 : m ≤ 16384) (hL : NumsR w .i64 L ls) (hLR : ∀ b o, L = some ⟨b, o, none⟩ → b ≠ R) (hpos : ∀ x ∈ ls, 1 ≤ x) (hsum : (a : Int) + ls.sum ≤ n) :
    Calls Try.prog 57 #[.pointer (some ⟨R, 0, none⟩), .slice L m cc] w fun e w' => ∃ v, e = .returned v ∧ PartsO w' w.heap.size v (cutL b ls a) ∧ RdAt w' R A n c (a + ls.sum) ∧ w.grownBy w' (some R) := by
  obtain ⟨i0, hi, hz0, hz1, hz2⟩ := info_parts info22
  have hmx : n ≤ 140737488351232 := by have := hb.1; unfold reach at *; omega
  have HBB := Lib.hid hb; clear hb
  have HN := Lib.hid hn; clear hn
  have HBL := Lib.hid hB; clear hB
  have HMX := Lib.hid hmx; clear hmx
  have HM := Lib.hid hm; clear hm
  have HLL := Lib.hid hL; clear hL
  have HLR := Lib.hid hLR; clear hLR
  have HP := Lib.hid hpos; clear hpos
  have HS := Lib.hid hsum; clear hsum
  have HRD := Lib.hid hr
  have hRw2 : R < w.heap.size := World.block_lt_of_cell? w _ hr.place
  clear hr
  go_enter Try.func57, Try.ntmps57
  go_wp2
  go_loopw [5, 7, 10] (fun v _ i wr => ∃ (k : Nat) (q : Nat), k ≤ m ∧ i = .int .i64 k ∧ PartsO wr w.heap.size v (cutL b (ls.take k) a) ∧ RdAt wr R A n c q ∧ w.grownBy wr (some R) ∧ Hid ((q : Int) = a + (ls.take k).sum)) (fun _ _ i _ => m - (intOf i).toNat)
  case atStart => exact ⟨0, a, Nat.zero_le _, rfl, PartsO.nil _ _, HRD.out, grown_refl _ _, Lib.hid (by simp)⟩
  case round =>
    obtain ⟨k, q, hk, rfl, hO, hrd, hg, hq⟩ := hrel
    have HG := Lib.hid hg
    have HRD2 := Lib.hid hrd
    have hbw : Below w0.heap.size w0 wr := HBL.out.grown HG.out (by have := HBL.out.size; omega) (by rintro k ⟨⟩; omega)
    have HBW := Lib.hid hbw
    clear hg hbw
    by_cases hlt : k < m
    · have hk2 : k < ls.length := by have := HM.out; omega
      obtain ⟨bl, ol, hLe, hcl⟩ := HLL.out.2 (by omega)
      have hcell := HG.out.cell (hcl k hk2) (by simpa using HLR.out bl ol hLe)
      have hx1 := HP.out _ (getD_mem ls k hk2)
      have hs1 := sum_snoc ls k hk2
      have hs2 := sum_take_le ls HP.out (k + 1)
      obtain ⟨x, hx⟩ : ∃ x : Nat, ls.getD k 0 = (x : Int) := ⟨(ls.getD k 0).toNat, by omega⟩
      rw [hx] at hcell hx1 hs1
      have hqx : q + x ≤ n := by have := HS.out; have := hq.out; omega
      have hx1' : 1 ≤ x := by omega
      have hcut : cutL b (ls.take (k + 1)) a = cutL b (ls.take k) a ++ [(b.drop q).take x] := by
        rw [take_snoc' ls k 0 hk2, cutL_append b _ _ (fun y hy => HP.out y (List.mem_of_mem_take hy)), hx]
        have := sum_nonneg (ls.take k) (fun y hy => HP.out y (List.mem_of_mem_take hy))
        rw [show a + (ls.take k).sum.toNat = q by have := hq.out; omega]
        simp [cutL]
      have hq2 : ((q + x : Nat) : Int) = a + (ls.take (k + 1)).sum := by rw [hs1]; have := hq.out; omega
      have HCUT := Lib.hid hcut
      have HQ2 := Lib.hid hq2
      subst hLe
      clear hcl hs1 hs2 hcut hq2 hx hx1
      obtain ⟨b1, o1, hA, _⟩ := HBB.out.2 (by have := HN.out; omega)
      subst hA
      have hpc := NumsR.piece (HBB.out.mono HBW.out) q x (by have := HN.out; omega)
      have hpl : ((b.drop q).take x).length = x := by simp; have := HN.out; omega
      obtain ⟨l, hl⟩ : ∃ l, l = (b.drop q).take x := ⟨_, rfl⟩
      rw [← hl] at HCUT hpc hpl
      have HPC := Lib.hid hpc
      have HPL := Lib.hid hpl
      clear hl hpc hpl
      obtain ⟨vs, hov⟩ := hO
      have hvl := hov.len
      rw [cutL_length, List.length_take, Nat.min_eq_left (by omega)] at hvl
      obtain ⟨pl, hpl⟩ : ∃ pl, pl = cutL b (ls.take k) a := ⟨_, rfl⟩
      rw [← hpl] at hov HCUT
      have hpk : pl.length = k := by rw [hpl, cutL_length, List.length_take, Nat.min_eq_left (by omega)]
      have HPK := Lib.hid hpk
      have HOV := Lib.hid hov
      have how := hov.own
      rw [hpk] at how
      have HOW := Lib.hid how
      clear how
      clear hpl hpk hvl hov
      have r0 := hrd.bytes
      have r1 := hrd.place
      have rf := hrd.free
      clear hrd
      obtain ⟨s, hs⟩ : ∃ s, s = q + x := ⟨_, rfl⟩
      have hw : IntKind.i64.wrap ((q : Int) + (x : Int)) = (s : Int) := by rw [IntWalk.i64_in _ (by have := HMX.out; omega)]; omega
      have i0' : (0 : Int) ≤ (s : Int) := by omega
      have i1' : (s : Int) ≤ (c : Int) := by omega
      have i2' : q ≤ s := by omega
      have i3' : ¬ s = q := by omega
      have hcl : ∀ W, Below wr.heap.size wr W → Calls Try.prog 58 #[.slice (some ⟨b1, o1 + q, none⟩) (s - q) (s - q)] W fun e w' => ∃ v', e = .returned v' ∧ w'.ownsRow W.heap.size 5 1 v' l.length (nums .u8 l) ∧ Below W.heap.size W w' := fun W hW =>
        clone_any _ l W ⟨_, s - q, by rw [HPL.out]; congr 1; omega, by rw [HPL.out]; omega, by simp, HPC.out.mono hW⟩
      have HCL := Lib.hid hcl
      have HSX := Lib.hid hs
      clear hcl hs
      go_wp2_with fail
      go_region_held3 (fun w' => w'.cell? ⟨R, 0, none⟩ = some (.slice (some ⟨b1, o1, none⟩) n c) ∧ w'.cell? ⟨R, 1, none⟩ = some (.int .i64 q))
        (first | go_keep | (exact ⟨HRD3.out.bytes, HRD3.out.place⟩) | (exact ⟨HRD4.out.bytes, HRD4.out.place⟩))
        ((first
          | (go_at_call 58; (with_reducible refine (HCL.out _ (Below.refl _ _).drew).mono ?_); rintro e w3 ⟨p, rfl, ho, hb⟩; obtain ⟨A9, c9, rfl, _⟩ := own_shape ho; have HO3 := Lib.hid ho; have HB3 := Lib.hid hb; have HRD3 := Lib.hid (rd_keep (rd_keep HRD2.out (Below.refl _ _).drew) hb); clear ho hb)
          | (refine step_parts (.slice A9 l.length c9) (.tmp 14) (.tmp 37) rfl rfl _ HOW rfl rfl rfl (by omega) HG.out.size (below_step (below_step (Below.refl _ _).drew HB3.out) (below_alloc _ _)) (box_new' _ _ _ rfl) ?_; intro v4 w4 ho hg; have HO4 := Lib.hid ho; have HG4 := Lib.hid hg; have HRD4 := Lib.hid (rd_below HRD3.out (below_parts HG.out.size HB3.out hg HOW.out) hRw2); clear ho hg)))
      have HP5 : Hid (PartsO w4 w.heap.size v4 (cutL b (ls.take (k + 1)) a)) := by
        rw [HCUT.out]
        have h1 : Below wr.heap.size wr (w3.alloc (.cells #[.slice A9 l.length c9] 22)) := below_step (below_step (Below.refl _ _).drew HB3.out) (below_alloc _ _)
        exact ⟨_, PartsOv.snoc (b := wr.heap.size) HG.out.size (Nat.le_refl _) HOV.out h1 (HO3.out.alloc _) (by rw [HPK.out]; exact HO4.out) HG4.out⟩
      have HG5 : Hid (w.grownBy w4 (some R)) := Lib.hid (grown_below (grown_trans HG.out (grown_any _ (below_step (Below.refl _ _).drew HB3.out))) (below_parts HG.out.size HB3.out HG4.out HOW.out))
      have r1 := HRD4.out.place
      have rf := HRD4.out.free
      have i4' : (q : Int) + (x : Int) ≤ 140737488351232 := by have := HMX.out; omega
      clear HO4 HG4 hw
      go_wp2
      go_roundw
      case rel =>
        refine ⟨k + 1, q + x, by omega, by go_num, ?_, ?_, ?_, HQ2⟩
        · exact HP5.out.other (grown_setCell _ _ _ _) hRw2
        · have := rd_move HRD4.out ((q : Int) + x)
          rw [show ((q + x : Nat) : Int) = (q : Int) + x by omega]
          exact this
        · exact grown_trans HG5.out (grown_setCell _ _ _ _)
      case measure => exact own_meas hlt
    · obtain rfl : m = k := by omega
      go_wp2
      go_ret
      have e1 : ls.take m = ls := List.take_of_length_le (by have := HM.out; omega)
      have e2 := hq.out
      rw [e1] at hO e2
      rw [e2] at hrd
      exact ⟨_, rfl, hO, hrd, HG.out⟩
end Go.Proofs.Ytkbboepopcebaaa
