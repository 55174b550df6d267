/- Contracts of the small helpers over bytes: own, sameBytes, slices.Clone. -/
import Derived.Test.YtkbboepopcebaaaProg
import Derived.Test.YtkbboepopcebaaaV
namespace Go.Proofs.Ytkbboepopcebaaa
open Go.RowKit

theorem info5 : (Try.prog.info? 5).map (fun i => (i.zero, i.size, i.bytes)) = some (some (.int .u8 0), 1, 1) := by kernel_rfl

theorem eq_step (la lb : List Int) (h : la.length = lb.length) (k : Nat) (hk : k < la.length) (he : la.take k = lb.take k) : (la.take (k+1) = lb.take (k+1)) ↔ la.getD k 0 = lb.getD k 0 := by
  have hk2 : k < lb.length := by omega
  have e1 := List.take_succ_eq_append_getElem hk
  have e2 := List.take_succ_eq_append_getElem hk2
  rw [e1, e2, he, List.append_right_inj]
  simp [List.getD_eq_getElem?_getD, hk, hk2]

set_option maxRecDepth 100000 in
theorem same_ne (A B : Option Addr) (ca cb : Nat) (n m : Nat) (w : World) (hne : n ≠ m) : 
    Calls Try.prog 27 #[.slice A n ca, .slice B m cb] w fun e w' => e = .returned (.bool false) ∧ w = w' := by
  have h1 : (!(((n : Nat) : Int) == (m : Int))) = true := by simp; omega
  go_enter Try.func27, Try.ntmps27
  go_wp2
  go_ret
  exact ⟨rfl, rfl⟩

theorem ret_bool {a b : Bool} (h : a = b) : Ending.returned (.bool a) = .returned (.bool b) := by rw [h]

set_option maxRecDepth 100000 in
theorem same_eq (A B : Option Addr) (ca cb : Nat) (la lb : List Int) (w : World) (n : Nat) (hla : la.length = n) (hlb : lb.length = n) (ha : NumsR w .u8 A la) (hb : NumsR w .u8 B lb) :
    Calls Try.prog 27 #[.slice A n ca, .slice B n cb] w fun e w' => e = .returned (.bool (decide (la = lb))) ∧ ∃ k, w' = w.drewN k := by
  have h1 : (!(((n : Nat) : Int) == (n : Int))) = false := by simp
  have HA := Lib.hid hla; clear hla
  have HB := Lib.hid hlb; clear hlb
  have Ha := Lib.hid ha; clear ha
  have Hb := Lib.hid hb; clear hb
  go_enter Try.func27, Try.ntmps27
  go_wp2
  go_loopw [5] (fun i wr => ∃ k : Nat, k ≤ n ∧ i = .int .i64 k ∧ la.take k = lb.take k ∧ ∃ m, wr = w.drewN m) (fun i _ => n - (intOf i).toNat)
  case atStart => exact ⟨0, Nat.zero_le _, rfl, rfl, 0, rfl⟩
  case round =>
    obtain ⟨k, hk, rfl, he, m, rfl⟩ := hrel
    have he' := Lib.hid he; clear he
    by_cases hlt : k < n
    · have hst := Lib.hid (eq_step la lb (by have := HA.out; have := HB.out; omega) k (by have := HA.out; omega) he'.out)
      obtain ⟨b1, o1, rfl, hca⟩ := Ha.out.2 (by have := HA.out; omega)
      obtain ⟨b2, o2, rfl, hcb⟩ := Hb.out.2 (by have := HB.out; omega)
      have hra := hca k (by have := HA.out; omega)
      have hrb := hcb k (by have := HB.out; omega)
      clear hca hcb
      have hmx : n ≤ 9223372036854775807 := by have := Ha.out.1; have := HA.out; unfold reach at *; omega
      obtain ⟨x, hx⟩ : ∃ x, x = la.getD k 0 := ⟨_, rfl⟩
      obtain ⟨y, hy⟩ : ∃ y, y = lb.getD k 0 := ⟨_, rfl⟩
      rw [← hx] at hra
      rw [← hy] at hrb
      have HX := Lib.hid hx; clear hx
      have HY := Lib.hid hy; clear hy
      by_cases hxy : x = y
      · have hd : (x != y) = false := by simp [hxy]
        have HXY := Lib.hid hxy; clear hxy
        go_wp2
        go_quiet (fail)
        go_wp2
        go_roundw
        case rel => exact ⟨k + 1, by omega, by go_num, hst.out.2 (by rw [← HX.out, ← HY.out]; exact HXY.out), _, rfl⟩
        case measure => simp [intOf]; omega
      · have hd : (x != y) = true := by simp [hxy]
        have HXY := Lib.hid hxy; clear hxy
        go_wp2
        go_quiet (fail)
        go_wp2
        go_ret
        refine ⟨ret_bool ?_, _, World.drewN_drewN ..⟩
        symm
        simp only [decide_eq_false_iff_not]
        intro e
        apply HXY.out
        rw [HX.out, HY.out, e]
    · go_wp2
      go_ret
      have : k = n := by omega
      subst this
      refine ⟨ret_bool ?_, _, rfl⟩
      have h2 := he'.out
      rw [List.take_of_length_le (by have := HA.out; omega), List.take_of_length_le (by have := HB.out; omega)] at h2
      simp [h2]

/-- sameBytes: are two lists the same? -/
theorem sameBytes_any (A B : Option Addr) (ca cb : Nat) (la lb : List Int) (n m : Nat) (w : World) (hn : n = la.length) (hm : m = lb.length) (ha : NumsR w .u8 A la) (hb : NumsR w .u8 B lb) :
    Calls Try.prog 27 #[.slice A n ca, .slice B m cb] w fun e w' => e = .returned (.bool (decide (la = lb))) ∧ ∃ k, w' = w.drewN k := by
  by_cases h : n = m
  · subst h
    exact same_eq A B ca cb la lb w n hn.symm hm.symm ha hb
  · refine (same_ne A B ca cb n m w h).mono ?_
    rintro e w' ⟨rfl, rfl⟩
    refine ⟨ret_bool ?_, 0, rfl⟩
    symm
    simp only [decide_eq_false_iff_not]
    intro e
    apply h
    rw [hn, hm, e]

set_option maxRecDepth 100000 in
theorem own_some (ad : Addr) (n c : Nat) (xs : List Value) (w : World) (hx : xs.length = n) (h : ∀ j v, xs[j]? = some v → w.cell? (ad.add j) = some v) (h1 : ∀ u ∈ xs, u.oneCell' = true) (hl : n ≤ reach) :
    Calls Try.prog 30 #[.slice (some ad) n c] w fun e w' => ∃ v, e = .returned v ∧ w'.ownsRow w.heap.size 5 1 v n xs ∧ Below w.heap.size w w' := by
  obtain ⟨i0, hi, hz0, hz1, hz2⟩ := info_parts info5
  have HX := Lib.hid hx; clear hx
  have HL := Lib.hid hl; clear hl
  go_enter Try.func30, Try.ntmps30
  go_wp2_with (at_builtin; refine wpList_append_own _ rfl _ _ 22 rfl w.heap.size 5 i0 (.int .u8 0) 1 1 Try.underlying22 hi hz0 hz1 hz2 rfl (by decide) _ _ _ rfl (World.ownsRow_nil _ _ _ _) ad n c xs rfl ?c0 h h1 ?c3 ?c4 (Nat.le_refl _) ?_)
  case c0 => have := HX.out; omega
  case c3 => have := HL.out; unfold reach at this; unfold maxLen; omega
  case c4 => have := HL.out; unfold reach at this; omega
  intro v' w1 hown hg _
  have hown2 : w1.ownsRow w.heap.size 5 1 v' n xs := by simpa only [Nat.zero_add, List.nil_append] using hown
  clear hown
  go_wp2
  go_ret
  exact ⟨v', rfl, hown2, (Below.refl _ _).grown hg (Nat.le_refl _) (by simp [Value.ownBlock])⟩
theorem own_none (w : World) :
    Calls Try.prog 30 #[.slice none 0 0] w fun e w' => ∃ v, e = .returned v ∧ w'.ownsRow w.heap.size 5 1 v 0 [] ∧ Below w.heap.size w w' := by
  go_enter Try.func30, Try.ntmps30
  go_wp2
  go_ret
  exact ⟨_, rfl, World.ownsRow_nil _ _ _ _, Below.refl _ _⟩
/-- own: the same bytes in new memory. -/
theorem own_any (v : Value) (l : List Int) (w : World) (h : NumsV w .u8 v l) :
    Calls Try.prog 30 #[v] w fun e w' => ∃ v', e = .returned v' ∧ w'.ownsRow w.heap.size 5 1 v' l.length (nums .u8 l) ∧ Below w.heap.size w w' := by
  obtain ⟨A, c, rfl, h1, h2, h3⟩ := h
  cases A with
  | some ad => exact own_some ad _ c (nums .u8 l) w (nums_length _ _) h3.src (nums_one _ _) h3.1
  | none =>
    obtain rfl := h2 rfl
    obtain rfl : l = [] := List.eq_nil_of_length_eq_zero (by omega)
    exact own_none w
end Go.Proofs.Ytkbboepopcebaaa
