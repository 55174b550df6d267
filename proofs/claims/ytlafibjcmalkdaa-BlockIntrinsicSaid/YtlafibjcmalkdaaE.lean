/- sameHashes: where the rows are alike and the mark as it was, it says so. -/
import Derived.Test.YtlafibjcmalkdaaD
namespace Go.Proofs.Ytlafibjcmalkdaa
open Go.RowKit

/-- The cells of the element at j. -/
def elem (s : Nat) (cs : List Value) (j : Nat) : List Value := (cs.drop (j * s)).take s
theorem elem_len {s n j : Nat} {cs : List Value} (h : cs.length = n * s) (hj : j < n) : (elem s cs j).length = s := by
  simp only [elem, List.length_take, List.length_drop, h]
  have : (j + 1) * s ≤ n * s := Nat.mul_le_mul_right s hj
  rw [Nat.succ_mul] at this
  omega
theorem elem_get {s j : Nat} {cs : List Value} {i : Nat} (hi : i < s) : (elem s cs j)[i]? = cs[j * s + i]? := by
  simp [elem, List.getElem?_take, hi, List.getElem?_drop]
theorem range_elem {w : World} {b o : Nat} {cs : List Value} (h : ∀ (j : Nat) (v : Value), cs[j]? = some v → w.cell? ⟨b, o + j, none⟩ = some v) (s j : Nat) : w.rangeAt b (o + j * s) (elem s cs j) := by
  intro i v hv
  have hi : i < s := by
    have := (List.getElem?_eq_some_iff.1 hv).1
    simp only [elem, List.length_take] at this
    omega
  rw [elem_get hi] at hv
  rw [Nat.add_assoc]
  exact h _ _ hv
theorem ints_elem {k : IntKind} {cs : List Value} {s n j : Nat} (h : IntsC k cs) (hl : cs.length = n * s) (hj : j < n) : ∀ i, i < s → ∃ z, (elem s cs j).toArray[i]? = some (.int k z) := by
  intro i hi
  have h1 : (j + 1) * s ≤ n * s := Nat.mul_le_mul_right s hj
  rw [Nat.succ_mul] at h1
  obtain ⟨z, hz⟩ := h (j * s + i) (by omega)
  exact ⟨z, by rw [List.getElem?_toArray, elem_get hi]; exact hz⟩
theorem h171_ints : ∀ i, i < 32 → ∃ z, h171[i]? = some (.int .u8 z) := by
  intro i hi
  have e : h171.toList = nums .u8 (171 :: List.replicate 31 0) := rfl
  exact ⟨_, by rw [← Array.getElem?_toList, e]; exact nums_get _ _ _ (by simpa using hi)⟩
theorem size48 {xs : Array Value} (h : xs.size = 32) : Hid ((Try.prog.info? 48).map (·.size) = some xs.size) := Lib.hid (by rw [h]; kernel_rfl)
theorem neq48 (xs : Array Value) (h : ∀ j, j < 32 → ∃ z, xs[j]? = some (.int .u8 z)) (w : World) : (binOp .neq 48 (.agg xs) (.agg xs)).run Try.prog w = .ok (.bool false) w := by
  obtain ⟨i0, hi, _⟩ := info_parts sl27.i
  exact neq_self Try.underlying48 hi (by kernel_rfl) Try.underlying5 xs h w

set_option maxRecDepth 100000 in
set_option maxHeartbeats 2000000 in
theorem sameHashes_any (va vb : Value) (n B : Nat) (cs : List Value) (w : World) (ha : MarkV w B 48 32 va n cs 1 h171.toList) (hb : CellV w vb n 32 cs) (hi : IntsC .u8 cs) (hn : n ≤ 200000) :
    Calls Try.prog 16 #[va, vb] w (Yes w) := by
  obtain ⟨g, ca, rfl, ho⟩ := ha
  obtain ⟨A, cb, rfl, g1, g2, g3, g4, g5, g6⟩ := hb
  have hl : (cs ++ h171.toList).length = (n + 1) * 32 := ho.1
  have hcl : cs.length = n * 32 := g4
  have hca : ∀ (j : Nat) (v : Value), (cs ++ h171.toList)[j]? = some v → w.cell? ⟨g, 0 + j, none⟩ = some v := fun j v hv => by
    have := ho.cells (g := g) rfl j v hv
    rwa [Addr.add_lit] at this
  have hmk : elem 32 (cs ++ h171.toList) n = h171.toList := by
    have : elem 32 (cs ++ h171.toList) n = h171.toList.take 32 := by simp [elem, hcl]
    rw [this]; rfl
  have hcap : n + 1 ≤ ca := by
    obtain ⟨g', c', e, h'⟩ := own_some_of ho (by omega)
    injection e with e1 e2 e3
    omega
  have hld := range_elem hca 32 n
  rw [hmk, Nat.zero_add] at hld
  have HLD := Lib.hid hld
  have HZ := size48 (xs := h171) rfl
  clear hld
  have hbd := built48
  have hne := neq48 h171 h171_ints
  have hw1 : IntKind.i64.wrap ((n : Int) + 1) = ((n + 1 : Nat) : Int) := by rw [IntWalk.i64_in _ (by omega)]; omega
  have HA : Hid (∀ (q j : Nat) (v : Value), cs[j]? = some v → (w.drewN q).cell? ⟨g, 0 + j, none⟩ = some v) := Lib.hid fun q j v hv => cell_keep (below_drewN (Below.refl _ _) q) (hca j v (by
    have hj := (List.getElem?_eq_some_iff.1 hv).1
    rw [List.getElem?_append_left hj]; exact hv))
  have HB : Hid (CellsR w A cs) := Lib.hid g6
  have HL : Hid (cs.length = n * 32) := Lib.hid g4
  have HI : Hid (IntsC .u8 cs) := Lib.hid hi
  clear hl hcl hca hmk g2 g3 g4 g5 g6 ho hi
  go_enter Try.func16, Try.ntmps16
  go_wp2_with (first
    | (refine wpList_load_g (by rfl) 48 (.tmp 19) rfl g (n * 32) rfl h171 _ HLD Try.underlying48 rfl HZ ?_)
    | (refine wpList_build_g (by rfl) 48 _ rfl h171 (built48 _) ?_)
    | (refine wpList_neq_g (by rfl) 48 (.tmp 20) (.tmp 21) 48 rfl h171 rfl rfl Try.eqGuardType48 hne ?_))
  go_loopw [5] (fun i wr => ∃ t : Nat, t ≤ n ∧ i = .int .i64 t ∧ ∃ q, wr = w.drewN q) (fun i _ => n - (intOf i).toNat)
  case atStart => exact ⟨0, Nat.zero_le _, rfl, 0, rfl⟩
  case round =>
    obtain ⟨t, ht, rfl, q, rfl⟩ := hrel
    by_cases hlt : t < n
    · have i0 : (0 : Int) ≤ (t : Int) := by omega
      have i1 : (t : Int) < (n : Int) := by omega
      obtain ⟨b2, o2, rfl, hcb⟩ := (HB.out.mono (below_drewN (Below.refl _ _) q)) (by have := HL.out; omega)
      have la := range_elem (HA.out q) 32 t
      have lb := range_elem hcb 32 t
      have hnq := neq48 _ (ints_elem HI.out HL.out hlt)
      rw [Nat.zero_add] at la
      obtain ⟨xs, hxs⟩ : ∃ xs, xs = (elem 32 cs t).toArray := ⟨_, rfl⟩
      have hxl : xs.toList = elem 32 cs t := by rw [hxs]
      have HZ2 := size48 (xs := xs) (by rw [hxs]; exact elem_len HL.out hlt)
      rw [← hxs] at hnq
      rw [← hxl] at la lb
      have LA := Lib.hid la
      have LB := Lib.hid lb
      clear hxl la lb
      clear hcb hxs
      go_wp2_with fail
      refine wp_region_quiet_lit (by kernel_rfl) (by kernel_rfl) ?_
      repeat (first
        | (refine wpQuiet_load_g (by rfl) 48 (.tmp 32) rfl g (t * 32) rfl xs _ LA Try.underlying48 rfl HZ2 ?_; simp only [Act.put, List.setIfInBounds_toArray, List.set_cons_succ, List.set_cons_zero])
        | (refine wpQuiet_load_g (by rfl) 48 (.tmp 36) rfl b2 (o2 + t * 32) rfl xs _ LB Try.underlying48 rfl HZ2 ?_; simp only [Act.put, List.setIfInBounds_toArray, List.set_cons_succ, List.set_cons_zero])
        | (refine wpQuiet_neq_g (by rfl) 48 (.tmp 33) (.tmp 37) 48 rfl xs rfl rfl Try.eqGuardType48 hnq ?_; simp only [Act.put, List.setIfInBounds_toArray, List.set_cons_succ, List.set_cons_zero])
        | go_big_quiet_step (fail))
      refine wpQuiet_nil ?_
      intro _ hw'
      obtain ⟨nq, hw''⟩ := hw'
      subst hw''
      go_wp2
      go_roundw
      case rel => exact ⟨t + 1, by omega, by go_num, _, rfl⟩
      case measure => simp [intOf]; omega
    · have hge : ¬ ((t : Int) < (n : Int)) := by omega
      go_wp2
      go_ret
      exact ⟨rfl, _, rfl⟩
end Go.Proofs.Ytlafibjcmalkdaa
