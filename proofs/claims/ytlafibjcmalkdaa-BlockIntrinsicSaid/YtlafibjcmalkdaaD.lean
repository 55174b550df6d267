/- same, marked, sameHashes: where the rows are alike and the marks as they were, they say so. -/
import Derived.Test.YtlafibjcmalkdaaB
namespace Go.Proofs.Ytlafibjcmalkdaa
open Go.RowKit

def Yes (w : World) (e : Ending) (w' : World) : Prop := e = .returned (.bool true) ∧ ∃ k, w' = w.drewN k

set_option maxRecDepth 100000 in
set_option maxHeartbeats 2000000 in
theorem same_any (va vb : Value) (l : List Int) (w : World) (ha : NumsV w .u8 va l) (hb : NumsV w .u8 vb l) :
    Calls Try.prog 14 #[va, vb] w (Yes w) := by
  obtain ⟨A, ca, rfl, h1, h2, h3⟩ := ha
  obtain ⟨B, cb, rfl, g1, g2, g3⟩ := hb
  have hr := h3.1
  unfold reach at hr
  obtain ⟨n, hl⟩ : ∃ n, n = l.length := ⟨_, rfl⟩
  rw [← hl] at h1 g1 hr ⊢
  have HL := Lib.hid hl
  have HA := Lib.hid h3
  have HB := Lib.hid g3
  clear h3 h2 g2 g3 hl
  go_enter Try.func14, Try.ntmps14
  go_wp2
  go_loopw [5] (fun i wr => ∃ t : Nat, t ≤ n ∧ i = .int .i64 t ∧ ∃ q, wr = w.drewN q) (fun i _ => n - (intOf i).toNat)
  case atStart => exact ⟨0, Nat.zero_le _, rfl, 0, rfl⟩
  case round =>
    obtain ⟨t, ht, rfl, q, rfl⟩ := hrel
    by_cases hlt : t < n
    · have i0 : (0 : Int) ≤ (t : Int) := by omega
      have i1 : (t : Int) < (n : Int) := by omega
      obtain ⟨b1, o1, rfl, hca⟩ := HA.out.2 (by have := HL.out; omega)
      obtain ⟨b2, o2, rfl, hcb⟩ := HB.out.2 (by have := HL.out; omega)
      have hra := hca t (by have := HL.out; omega)
      have hrb := hcb t (by have := HL.out; omega)
      obtain ⟨x, hx⟩ : ∃ x, x = l.getD t 0 := ⟨_, rfl⟩
      rw [← hx] at hra hrb
      clear hca hcb hx
      go_wp2
      go_quiet (fail)
      go_wp2
      go_roundw
      case rel => exact ⟨t + 1, by omega, by go_num, _, rfl⟩
      case measure => simp [intOf]; omega
    · have hge : ¬ ((t : Int) < (n : Int)) := by omega
      go_wp2
      go_ret
      exact ⟨rfl, _, rfl⟩

set_option maxRecDepth 100000 in
set_option maxHeartbeats 2000000 in
theorem marked_any (v : Value) (n : Nat) (cs : List Value) (w : World) (B : Nat) (h : MarkV w B 5 1 v n cs 3 marks3) (hn : n ≤ 200000) :
    Calls Try.prog 15 #[v] w (Yes w) := by
  obtain ⟨g, c, rfl, ho⟩ := h
  have hl : (cs ++ marks3).length = (n + 3) * 1 := ho.1
  have hcl : cs.length = n := by simp [marks3] at hl; exact hl
  have c0 : w.cell? ⟨g, n, none⟩ = some (.int .u8 171) := by
    have := ho.cells (g := g) rfl n (.int .u8 171) (by rw [List.getElem?_append_right (by omega), hcl]; simp [marks3])
    rw [Addr.add_lit] at this; simpa using this
  have c1 : w.cell? ⟨g, n + 1, none⟩ = some (.int .u8 172) := by
    have := ho.cells (g := g) rfl (n + 1) (.int .u8 172) (by rw [List.getElem?_append_right (by omega), hcl]; simp [marks3])
    rw [Addr.add_lit] at this; simpa using this
  have c2 : w.cell? ⟨g, n + 2, none⟩ = some (.int .u8 173) := by
    have := ho.cells (g := g) rfl (n + 2) (.int .u8 173) (by rw [List.getElem?_append_right (by omega), hcl]; simp [marks3])
    rw [Addr.add_lit] at this; simpa using this
  have hc : n + 3 ≤ c := by
    obtain ⟨g', c', e, h'⟩ := own_some_of ho (by omega)
    injection e with e1 e2 e3
    omega
  have hw1 : IntKind.i64.wrap ((n : Int) + 1) = ((n + 1 : Nat) : Int) := by rw [IntWalk.i64_in _ (by omega)]; omega
  have hw2 : IntKind.i64.wrap ((n : Int) + 2) = ((n + 2 : Nat) : Int) := by rw [IntWalk.i64_in _ (by omega)]; omega
  have hw3 : IntKind.i64.wrap ((n : Int) + 3) = ((n + 3 : Nat) : Int) := by rw [IntWalk.i64_in _ (by omega)]; omega
  clear hl hcl ho
  go_enter Try.func15, Try.ntmps15
  go_wp2
  go_ret
  exact ⟨rfl, 0, rfl⟩
end Go.Proofs.Ytlafibjcmalkdaa
