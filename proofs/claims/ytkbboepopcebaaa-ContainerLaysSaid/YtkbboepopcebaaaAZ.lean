/- kept: are the bytes as they were, the marks behind them too? -/
import Derived.Test.YtkbboepopcebaaaAY
namespace Go.Proofs.Ytkbboepopcebaaa
open Go.RowKit

theorem getD_left {α : Type} (l r : List α) (d : α) (j : Nat) (h : j < l.length) : (l ++ r).getD j d = l.getD j d := by simp [List.getD_eq_getElem?_getD, List.getElem?_append, h]
theorem getD_marks (l : List Int) (n j : Nat) (h : l.length ≤ j) (h2 : j < l.length + n) : (l ++ marks l.length n).getD j 0 = markAt j := by
  rw [List.getD_eq_getElem?_getD, List.getElem?_append_right h]
  simp only [marks, List.getElem?_map]
  rw [List.getElem?_range (by omega)]
  simp only [Option.map_some, Option.getD_some]
  rw [show l.length + (j - l.length) = j by omega]
def KeptPost (w : World) (e : Ending) (w' : World) : Prop := e = .returned (.bool true) ∧ ∃ k, w' = w.drewN k
set_option maxRecDepth 100000 in
set_option maxHeartbeats 4000000 in
theorem kept_any (A B : Option Addr) (ca cb n m k : Nat) (l : List Int) (w : World) (hm : m = l.length) (hk : k = m + n) (ha : NumsR w .u8 A (l ++ marks l.length n)) (hb : NumsR w .u8 B l) (hs : k ≤ 268435456) :
    Calls Try.prog 34 #[.slice A k ca, .slice B m cb] w (KeptPost w) := by
  have HM := Lib.hid hm
  have HK := Lib.hid hk
  have HA := Lib.hid ha
  have HB := Lib.hid hb
  have hk0 : (k : Int) ≤ 268435456 := by omega
  clear hm hk ha hb
  go_enter Try.func34, Try.ntmps34
  go_wp2
  go_loopw [5] (fun i wr => ∃ t : Nat, t ≤ k ∧ i = .int .i64 t ∧ ∃ q, wr = w.drewN q) (fun i _ => k - (intOf i).toNat)
  case atStart => exact ⟨0, Nat.zero_le _, rfl, 0, rfl⟩
  case round =>
    obtain ⟨t, ht, rfl, q, rfl⟩ := hrel
    by_cases hlt : t < k
    · have i0 : (0 : Int) ≤ (t : Int) := by omega
      have i1 : (t : Int) < (k : Int) := by omega
      have ht2 : (t : Int) ≤ 268435456 := by omega
      obtain ⟨b1, o1, rfl, hca⟩ := HA.out.2 (by simp [marks_len]; have := HM.out; have := HK.out; omega)
      have hra := hca t (by simp [marks_len]; have := HM.out; have := HK.out; omega)
      clear hca
      have hw5 : IntKind.i64.wrap ((t : Int) * 5) = (t : Int) * 5 := IntWalk.i64_in _ (by omega)
      have hw51 : IntKind.i64.wrap ((t : Int) * 5 + 1) = (t : Int) * 5 + 1 := IntWalk.i64_in _ (by omega)
      by_cases h2 : t < m
      · obtain ⟨b2, o2, rfl, hcb⟩ := HB.out.2 (by have := HM.out; omega)
        have hrb := hcb t (by have := HM.out; omega)
        rw [getD_left _ _ _ _ (by have := HM.out; omega)] at hra
        obtain ⟨x, hx⟩ : ∃ x, x = l.getD t 0 := ⟨_, rfl⟩
        rw [← hx] at hra hrb
        have d1 : decide ((t : Int) < (m : Int)) = true := by simp; omega
        have d2 : decide ((m : Int) ≤ (t : Int)) = false := by simp; omega
        have d3 : decide (t < m) = true := by simp; omega
        have d4 : decide (m ≤ t) = false := by simp; omega
        have i2 : (t : Int) < (m : Int) := by omega
        clear hcb hx
        go_wp2
        go_quiet (fail)
        go_wp2
        go_roundw
        case rel => exact ⟨t + 1, by omega, by go_num, _, rfl⟩
        case measure => simp [intOf]; omega
      · rw [getD_marks l n t (by have := HM.out; omega) (by have := HM.out; have := HK.out; omega)] at hra
        unfold markAt at hra
        have d1 : decide ((t : Int) < (m : Int)) = false := by simp; omega
        have d2 : decide ((m : Int) ≤ (t : Int)) = true := by simp; omega
        have d3 : decide (t < m) = false := by simp; omega
        have d4 : decide (m ≤ t) = true := by simp; omega
        obtain ⟨x, hx⟩ : ∃ x : Int, x = ((t : Int) * 5 + 1) % 256 := ⟨_, rfl⟩
        have hw8 : IntKind.u8.wrap ((t : Int) * 5 + 1) = x := by rw [IntKind.wrap_u8, hx]
        rw [← hx] at hra
        clear hx
        go_wp2
        go_quiet (fail)
        go_wp2
        go_roundw
        case rel => exact ⟨t + 1, by omega, by go_num, _, rfl⟩
        case measure => simp [intOf]; omega
    · go_wp2
      go_ret
      exact ⟨rfl, _, rfl⟩
end Go.Proofs.Ytkbboepopcebaaa
