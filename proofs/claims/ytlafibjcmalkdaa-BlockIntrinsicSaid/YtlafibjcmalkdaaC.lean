/- What bytes cost, by the program and by the document. -/
import Derived.Test.YtlafibjcmalkdaaA
namespace Go.Proofs.Ytlafibjcmalkdaa
open Go.RowKit

def dcost (x : Int) : Int := if x = 0 then 4 else 16
def dsum : List Int → Int
  | [] => 0
  | x :: l => dcost x + dsum l
theorem dsum_append (l r : List Int) : dsum (l ++ r) = dsum l + dsum r := by
  induction l with
  | nil => simp [dsum]
  | cons x l ih => simp only [List.cons_append, dsum, ih]; omega
theorem dsum_bd (l : List Int) : 0 ≤ dsum l ∧ dsum l ≤ 16 * l.length := by
  induction l with
  | nil => simp [dsum]
  | cons x l ih => simp only [dsum, List.length_cons]; unfold dcost; split <;> omega
theorem take_snoc {l : List Int} {k : Nat} (h : k < l.length) : l.take (k + 1) = l.take k ++ [l.getD k 0] := by
  rw [List.take_succ_eq_append_getElem h]
  simp [List.getD_eq_getElem?_getD, h]
theorem dsum_step {l : List Int} {k : Nat} (h : k < l.length) : dsum (l.take (k + 1)) = dsum (l.take k) + dcost (l.getD k 0) := by
  rw [take_snoc h, dsum_append]; simp [dsum]
theorem u64_in (n : Int) (h0 : 0 ≤ n) (h1 : n < 18446744073709551616) : IntKind.u64.wrap n = n := by
  rw [IntKind.wrap_u64]; exact Int.emod_eq_of_lt h0 h1

set_option maxRecDepth 100000 in
set_option maxHeartbeats 2000000 in
theorem data_any (v : Value) (l : List Int) (w : World) (h : NumsV w .u8 v l) (hn : l.length ≤ 200000) :
    Calls Try.prog 12 #[v] w fun e w' => e = .returned (.int .u64 (dsum l)) ∧ w' = w := by
  obtain ⟨A, c, rfl, h1, h2, h3⟩ := h
  obtain ⟨n, hl⟩ : ∃ n, n = l.length := ⟨_, rfl⟩
  rw [← hl] at h1 hn ⊢
  have HL := Lib.hid hl
  have HR := Lib.hid h3
  clear h3 h2 hl
  go_enter Try.func12, Try.ntmps12
  go_wp2
  go_loopw [3, 8] (fun s i wr => ∃ k : Nat, k ≤ n ∧ i = .int .i64 k ∧ s = .int .u64 (dsum (l.take k)) ∧ wr = w) (fun _ i _ => n - (intOf i).toNat)
  case atStart => exact ⟨0, Nat.zero_le _, rfl, rfl, rfl⟩
  case round =>
    obtain ⟨k, hk, rfl, rfl, rfl⟩ := hrel
    by_cases hlt : k < n
    · have hk2 : k < l.length := by have := HL.out; omega
      obtain ⟨b, o, rfl, hc⟩ := HR.out.2 (by omega)
      have hcell := hc k hk2
      clear hc
      have hi0 : (0 : Int) ≤ (k : Int) := by omega
      have hi1 : (k : Int) < (n : Int) := by omega
      have hst := Lib.hid (dsum_step hk2)
      have hbd := dsum_bd (l.take k)
      have htl : (l.take k).length ≤ 200000 := by rw [List.length_take]; omega
      obtain ⟨s, hs⟩ : ∃ s, s = dsum (l.take k) := ⟨_, rfl⟩
      rw [← hs] at hbd ⊢
      obtain ⟨x, hx⟩ : ∃ x, x = l.getD k 0 := ⟨_, rfl⟩
      rw [← hx] at hcell
      have HX := Lib.hid hx
      have HS := Lib.hid hs
      clear hx hs
      have hw4 : IntKind.u64.wrap (s + 4) = s + 4 := u64_in _ (by omega) (by omega)
      have hw16 : IntKind.u64.wrap (s + 16) = s + 16 := u64_in _ (by omega) (by omega)
      clear hbd htl
      by_cases hx0 : x = 0
      · subst hx0
        go_wp2
        go_roundw
        case rel => exact ⟨k + 1, by omega, by go_num, by rw [hst.out, ← HX.out, ← HS.out]; rfl, by first | rfl | trivial⟩
        case measure => simp [intOf]; omega
      · go_wp2
        go_roundw
        case rel => exact ⟨k + 1, by omega, by go_num, by rw [hst.out, ← HX.out, ← HS.out]; simp [dcost, hx0], by first | rfl | trivial⟩
        case measure => simp [intOf]; omega
    · have hge : ¬ ((k : Int) < (n : Int)) := by omega
      go_wp2
      go_ret
      refine ⟨?_, rfl⟩
      have hkn : k = l.length := by have := HL.out; omega
      rw [hkn, List.take_length]
      rfl

set_option maxRecDepth 100000 in
set_option maxHeartbeats 2000000 in
theorem bytes_any (v : Value) (l : List Int) (w : World) (h : NumsV w .u8 v l) (hn : l.length ≤ 200000) :
    Calls Try.prog 13 #[v] w fun e w' => e = .returned (.int .u64 (dsum l)) ∧ w' = w := by
  obtain ⟨A, c, rfl, h1, h2, h3⟩ := h
  obtain ⟨n, hl⟩ : ∃ n, n = l.length := ⟨_, rfl⟩
  rw [← hl] at h1 hn ⊢
  have HL := Lib.hid hl
  have HR := Lib.hid h3
  clear h3 h2 hl
  go_enter Try.func13, Try.ntmps13
  go_wp2
  go_loopw [3, 4] (fun s i wr => ∃ k : Nat, k ≤ n ∧ i = .int .i64 k ∧ s = .int .u64 (dsum (l.take k)) ∧ wr = w) (fun _ i _ => n - (intOf i).toNat)
  case atStart => exact ⟨0, Nat.zero_le _, rfl, rfl, rfl⟩
  case round =>
    obtain ⟨k, hk, rfl, rfl, rfl⟩ := hrel
    by_cases hlt : k < n
    · have hk2 : k < l.length := by have := HL.out; omega
      obtain ⟨b, o, rfl, hc⟩ := HR.out.2 (by omega)
      have hcell := hc k hk2
      clear hc
      have hi0 : (0 : Int) ≤ (k : Int) := by omega
      have hi1 : (k : Int) < (n : Int) := by omega
      have hst := Lib.hid (dsum_step hk2)
      have hbd := dsum_bd (l.take k)
      have htl : (l.take k).length ≤ 200000 := by rw [List.length_take]; omega
      obtain ⟨s, hs⟩ : ∃ s, s = dsum (l.take k) := ⟨_, rfl⟩
      rw [← hs] at hbd ⊢
      obtain ⟨x, hx⟩ : ∃ x, x = l.getD k 0 := ⟨_, rfl⟩
      rw [← hx] at hcell
      have HX := Lib.hid hx
      have HS := Lib.hid hs
      clear hx hs
      have hw4 : IntKind.u64.wrap (s + 4) = s + 4 := u64_in _ (by omega) (by omega)
      have hw16 : IntKind.u64.wrap (s + 16) = s + 16 := u64_in _ (by omega) (by omega)
      clear hbd htl
      by_cases hx0 : x = 0
      · subst hx0
        go_wp2
        go_roundw
        case rel => exact ⟨k + 1, by omega, by go_num, by rw [hst.out, ← HX.out, ← HS.out]; rfl, by first | rfl | trivial⟩
        case measure => simp [intOf]; omega
      · go_wp2
        go_roundw
        case rel => exact ⟨k + 1, by omega, by go_num, by rw [hst.out, ← HX.out, ← HS.out]; simp [dcost, hx0], by first | rfl | trivial⟩
        case measure => simp [intOf]; omega
    · have hge : ¬ ((k : Int) < (n : Int)) := by omega
      go_wp2
      go_ret
      refine ⟨?_, rfl⟩
      have hkn : k = l.length := by have := HL.out; omega
      rw [hkn, List.take_length]
      rfl
end Go.Proofs.Ytlafibjcmalkdaa
