/- lent: bytes with marks in the room behind them; kept: are they as they were? -/
import Derived.Test.YtkbboepopcebaaaU
import Derived.Test.YtkbboepopcebaaaX
import Derived.Laws.CopyOwn
import Derived.Laws.MakeOwn
namespace Go.Proofs.Ytkbboepopcebaaa
open Go.RowKit

def markAt (k : Nat) : Int := ((k : Int) * 5 + 1) % 256
def marks (k n : Nat) : List Int := (List.range n).map fun j => markAt (k + j)
theorem marks_len (k n : Nat) : (marks k n).length = n := by simp [marks]
theorem marks_snoc (k n : Nat) : marks k (n + 1) = marks k n ++ [markAt (k + n)] := by simp [marks, List.range_succ]
def fillL (l : List Int) (n j : Nat) : List Int := l ++ marks l.length j ++ List.replicate (n - j) 0
theorem fill_len (l : List Int) (n j : Nat) (h : j ≤ n) : (fillL l n j).length = l.length + n := by simp [fillL, marks_len]; omega
theorem fill_set (l : List Int) (n j : Nat) (h : j < n) : (fillL l n j).set (l.length + j) (markAt (l.length + j)) = fillL l n (j + 1) := by
  unfold fillL
  rw [marks_snoc]
  obtain ⟨m, hm⟩ : ∃ m, n - j = m + 1 := ⟨n - j - 1, by omega⟩
  rw [hm, show n - (j + 1) = m by omega, List.replicate_succ]
  rw [List.set_append_right _ _ (by simp [marks_len])]
  simp [marks_len]
theorem fill_done (l : List Int) (n : Nat) : fillL l n n = l ++ marks l.length n := by simp [fillL]
theorem made_zero (n : Nat) : madeCells #[Value.int .u8 0] n = (nums .u8 (List.replicate n 0)).toArray := by
  apply Array.ext'
  apply List.ext_getElem?
  intro j
  by_cases hj : j < n
  · simp [madeCells, nums, hj, Nat.mod_one]
  · simp [madeCells, nums, hj]
theorem own_of_block {w : World} {B g : Nat} {l : List Int} {n : Nat} (hn : l.length = n) (hr : n ≤ reach) (hB : B ≤ g) (h : w.heap[g]? = some (.cells (nums .u8 l).toArray 5 (0, 0))) : Own8 w B (.slice (some ⟨g, 0, none⟩) n n) l := by
  subst hn
  refine ⟨by simp [nums_length], .inr ⟨g, l.length, _, rfl, hB, h, Nat.le_refl _, by unfold reach at hr; unfold maxLen; omega, by simp [nums], ?_⟩⟩
  rw [List.take_of_length_le (by simp [nums])]

/-- What lent hands back: a row of the call's own, at the head of its block, without other room. -/
def LentV (l : List Int) (n : Nat) (w : World) (e : Ending) (w' : World) : Prop := ∃ g m, e = .returned (.slice (some ⟨g, 0, none⟩) m m) ∧ m = l.length + n ∧ w.heap.size ≤ g ∧ w'.heap[g]? = some (.cells (nums .u8 (l ++ marks l.length n)).toArray 5 (0, 0)) ∧ Below w.heap.size w w'

set_option maxRecDepth 100000 in
set_option maxHeartbeats 4000000 in
theorem lent_any (v : Value) (l : List Int) (n : Nat) (w : World) (h : NumsV w .u8 v l) (hl : l.length ≤ 134217728) (hn : n ≤ 100) (hn1 : 1 ≤ n) : Calls Try.prog 31 #[v, .int .i64 n] w (LentV l n w) := by
  obtain ⟨A, c, rfl, h1, h2, h3⟩ := h
  obtain ⟨i0, hi, hz0, hz1, hz2⟩ := info_parts infoB
  obtain ⟨k, hk⟩ : ∃ k, k = l.length := ⟨_, rfl⟩
  obtain ⟨m, hm⟩ : ∃ m, m = k + n := ⟨_, rfl⟩
  have hmi : IntKind.i64.wrap ((k : Int) + (n : Int)) = (m : Int) := by rw [IntWalk.i64_in _ (by omega)]; omega
  have hmk : ∀ w : World, (Instr.makeSlice 22 (.int .i64 (m : Int)) (.int .i64 (m : Int))).run Try.prog w = .ok (.slice (some ⟨w.heap.size, 0, none⟩) m m) (w.alloc (.cells (nums .u8 (List.replicate m 0)).toArray 5)) := fun w => by
    have := run_make (P := Try.prog) w 22 5 i0 (.int .u8 0) Try.underlying22 hi hz0 .i64 .i64 (m : Int) (m : Int) (by omega) (Int.le_refl _) (by rw [hz2]; omega) (by omega)
    rw [hz1] at this
    simpa [made_zero, Value.cells] using this
  have hkl : k ≤ 134217728 := by omega
  rw [← hk] at h1 ⊢
  have HK := Lib.hid hk
  have HM := Lib.hid hm
  have H3 := Lib.hid h3
  have H2 := Lib.hid h2
  have hm1 : (m : Int) ≤ 134217828 := by omega
  clear h3 h2 hk hl hm
  have HSRC : Hid (0 < (nums .u8 l).length → (some ⟨w.heap.size, 0, none⟩ : Option Addr) = some ⟨w.heap.size, 0, none⟩ ∧ ∃ ad, A = some ad ∧ ∀ j v, (nums .u8 l)[j]? = some v → (w.alloc (.cells (nums .u8 (List.replicate m 0)).toArray 5)).cell? (ad.add j) = some v) := Lib.hid (by
    intro hp
    rw [nums_length] at hp
    refine ⟨rfl, ?_⟩
    obtain ⟨b, o, e, _⟩ := H3.out.2 hp
    subst e
    exact ⟨_, rfl, (H3.out.mono (below_alloc _ _)).src⟩)
  have HNL : Hid ((nums .u8 l).length = Nat.min k m) := Lib.hid (by rw [nums_length, ← HK.out]; exact (Nat.min_eq_left (by have := HM.out; omega)).symm)
  have HFIT : Hid (0 + (nums .u8 l).length ≤ (nums .u8 (List.replicate m 0)).length) := Lib.hid (by simp [nums_length]; have := HK.out; have := HM.out; omega)
  have HONE : Hid (∀ v ∈ nums .u8 l, v.oneCell' = true) := Lib.hid (nums_one _ _)
  have HSZ : Hid ((Try.prog.info? 5).map (·.size) = some 1) := Lib.hid (by kernel_rfl)
  have HBW : Hid (Below w.heap.size w (w.alloc (.cells (nums .u8 (List.replicate m 0)).toArray 5))) := Lib.hid (below_alloc _ _)
  go_enter Try.func31, Try.ntmps31
  go_wp2_with (with_reducible refine wpList_copy_splice rfl (.tmp 12) (.tmp 13) 22 22 rfl 5 Try.underlying22 HSZ.out (some ⟨w.heap.size, 0, none⟩) A m m k c rfl rfl w.heap.size 0 (nums .u8 (List.replicate m 0)) 5 (heap_alloc_new _ _) (nums .u8 l) HNL.out HSRC.out HFIT.out HONE.out w.heap.size w HBW.out (Nat.le_refl _) ?_; intro w2 hb2 hbel)
  obtain ⟨g, hg⟩ : ∃ g, g = w.heap.size := ⟨_, rfl⟩
  have hb3 := hb2.out
  rw [← hg] at hb3 ⊢
  have hsp : splice (nums .u8 (List.replicate m 0)) 0 (nums .u8 l) = nums .u8 (fillL l n 0) := by
    have := HK.out
    have := HM.out
    simp only [splice, nums, fillL, marks, List.take_zero, List.nil_append, Nat.zero_add, List.length_map, List.range_zero, List.map_nil, List.append_nil, Nat.sub_zero, List.map_append, List.map_replicate, List.drop_replicate]
    rw [show m - l.length = n by omega]
  rw [hsp] at hb3
  have HB3 := Lib.hid hb3
  have HBL := Lib.hid hbel
  have HG := Lib.hid hg
  clear hb2 hbel hb3 hsp hg HSRC HNL HFIT HONE HSZ HBW hmk
  go_loopw [6] (fun i wr => ∃ j : Nat, j ≤ n ∧ i = .int .i64 ((k + j : Nat) : Int) ∧ Hid (wr.heap[g]? = some (.cells (nums .u8 (fillL l n j)).toArray 5 (0, 0))) ∧ Below w.heap.size w wr) (fun i _ => m - (intOf i).toNat)
  case atStart => exact ⟨0, Nat.zero_le _, by go_num, HB3.out, HBL.out⟩
  case round =>
    obtain ⟨j, hj, rfl, hb, hw⟩ := hrel
    have HW := Lib.hid hw
    clear hw
    by_cases hlt : j < n
    · have hlen : k + j < (nums .u8 (fillL l n j)).length := by rw [nums_length, fill_len _ _ _ (by omega)]; have := HK.out; omega
      have hcell : ∃ v, wr.cell? ⟨g, k + j, none⟩ = some v := ⟨(nums .u8 (fillL l n j))[k + j], by rw [cell_of_row wr g (k + j) _ 5 (0, 0) hb.out]; simp [hlen]⟩
      obtain ⟨v, hcell⟩ := hcell
      have hfz := frozen_of_row wr g (k + j) _ 5 hb.out
      have hjm : ((k + j : Nat) : Int) < (m : Int) := by have := HM.out; omega
      have hj0 : (0 : Int) ≤ ((k + j : Nat) : Int) := by omega
      have hjm2 : k + j < m := by have := HM.out; omega
      obtain ⟨q, hq⟩ : ∃ q : Nat, q = k + j := ⟨_, rfl⟩
      rw [← hq] at hcell hfz hjm hj0 hjm2 ⊢
      have hw5 : IntKind.i64.wrap ((q : Int) * 5) = (q : Int) * 5 := IntWalk.i64_in _ (by omega)
      have hw51 : IntKind.i64.wrap ((q : Int) * 5 + 1) = (q : Int) * 5 + 1 := IntWalk.i64_in _ (by omega)
      have HQ := Lib.hid hq
      clear hq hlen
      go_wp2
      go_roundw
      case rel =>
        refine ⟨j + 1, by omega, ?_, ?_, ?_⟩
        · have := HQ.out
          exact congrArg (Value.int .i64) (by omega)
        · have hs := heap_setCell_same wr g q (nums .u8 (fillL l n j)).toArray 5 (.int .u8 (((q : Int) * 5 + 1) % 256)) hb.out
          have e : (nums .u8 (fillL l n j)).toArray.setIfInBounds q (.int .u8 (((q : Int) * 5 + 1) % 256)) = (nums .u8 (fillL l n (j + 1))).toArray := by
            rw [← fill_set l n j hlt, ← HK.out, ← HQ.out]
            simp [nums, markAt]
          rw [e] at hs
          first | exact Lib.hid hs | (rw [IntKind.wrap_u8]; exact Lib.hid hs)
        · exact HW.out.grown (grown_setCell _ _ _ _) HW.out.size (by rintro k ⟨⟩; rw [HG.out]; exact Nat.le_refl _)
      case measure => simp [intOf]; have := HQ.out; omega
    · obtain rfl : j = n := by omega
      have hjm : ¬ ((k + j : Nat) : Int) < (m : Int) := by have := HM.out; omega
      have hjm2 : ¬ k + j < m := by have := HM.out; omega
      go_wp2
      go_ret
      refine ⟨g, m, rfl, by rw [HM.out, HK.out], by rw [HG.out]; exact Nat.le_refl _, ?_, HW.out⟩
      have := hb.out
      rwa [fill_done] at this
end Go.Proofs.Ytkbboepopcebaaa
