/- weight: how many bytes, types and lists a container has. -/
import Derived.Test.YtkbboepopcebaaaAH
namespace Go.Proofs.Ytkbboepopcebaaa
open Go.RowKit

def wt (ll : List (List Int)) : Nat := (ll.map List.length).sum
def Small (c : Cont) : Prop := c.types.length + c.codes.length + c.subs.length + c.data.length + wt c.codes + wt c.subs ≤ 2097152
theorem wt_snoc (ll : List (List Int)) (k : Nat) (h : k < ll.length) : wt (ll.take (k + 1)) = wt (ll.take k) + (ll.getD k []).length := by
  unfold wt; rw [take_snoc' ll k [] h]; simp
def WPost (c : Cont) (w : World) (e : Ending) (w' : World) : Prop := ∃ r : Int, e = .returned (.int .i64 r) ∧ (r ≤ 2097152 → Small c) ∧ Below w.heap.size w w'
set_option maxRecDepth 100000 in
set_option maxHeartbeats 2000000 in
theorem weight_any (v : Value) (c : Cont) (w : World) (h : ContV w v c) : Calls Try.prog 16 #[v] w (WPost c w) := by
  obtain ⟨vt, vc, vs, vd, rfl, ⟨A0, c0, rfl, _, _, hr0, ht⟩, ⟨A1, c1, rfl, _, _, hc⟩, ⟨A2, c2, rfl, _, _, hs⟩, ⟨A3, c3, rfl, _, _, hd⟩⟩ := h
  obtain ⟨n0, h0⟩ : ∃ n0, n0 = c.types.length := ⟨_, rfl⟩
  obtain ⟨n1, h1⟩ : ∃ n1, n1 = c.codes.length := ⟨_, rfl⟩
  obtain ⟨n2, h2⟩ : ∃ n2, n2 = c.subs.length := ⟨_, rfl⟩
  obtain ⟨n3, h3⟩ : ∃ n3, n3 = c.data.length := ⟨_, rfl⟩
  obtain ⟨sz, hsz⟩ : ∃ sz, sz = c.size := ⟨_, rfl⟩
  have m0 : n0 ≤ 140737488351232 := by unfold reach at hr0; omega
  have m1 : n1 ≤ 140737488351232 := by have := hc.1; unfold reach at this; omega
  have m2 : n2 ≤ 140737488351232 := by have := hs.1; unfold reach at this; omega
  have m3 : n3 ≤ 140737488351232 := by have := hd.1; unfold reach at this; omega
  rw [← h0, ← h1, ← h2, ← h3, ← hsz]
  obtain ⟨va, hva⟩ : ∃ va, va = #[Value.slice A0 n0 c0, .slice A1 n1 c1, .slice A2 n2 c2, .slice A3 n3 c3, .int .i64 sz] := ⟨_, rfl⟩
  have hb := below_alloc w (.cells va 28)
  have HC := Lib.hid (hc.mono hb)
  have HS := Lib.hid (hs.mono hb)
  rw [hva] at HC HS
  have H0 := Lib.hid h0
  have H1 := Lib.hid h1
  have H2 := Lib.hid h2
  have H3 := Lib.hid h3
  clear hc hs hd ht hr0 h0 h1 h2 h3 hsz hb hva
  go_enter Try.func16, Try.ntmps16
  go_wp2
  go_loop [3, 4] (fun v i => ∃ (k N : Nat), k ≤ n1 ∧ i = .int .i64 k ∧ v = .int .i64 N ∧ N ≤ 1125899906842624 ∧ Hid (N = n0 + n1 + n2 + n3 + wt (c.codes.take k))) (fun _ i => n1 - (intOf i).toNat)
  case atStart => exact ⟨0, n0 + n1 + n2 + n3, Nat.zero_le _, rfl, by go_num, by omega, Lib.hid (by simp [wt])⟩
  case round =>
    obtain ⟨k, N, hk, rfl, rfl, hN, hs0⟩ := hrel
    by_cases hlt : k < n1 ∧ N ≤ 2097152
    · obtain ⟨hlt, hle⟩ := hlt
      have hk2 : k < c.codes.length := by have := H1.out; omega
      obtain ⟨b1, o1, rfl, hcc⟩ := HC.out.2 (by omega)
      obtain ⟨v, hcell, A5, c5, rfl, _, _, hl5⟩ := hcc k hk2
      obtain ⟨l, hl⟩ : ∃ l, l = (c.codes.getD k []).length := ⟨_, rfl⟩
      rw [← hl] at hcell
      have hl6 : l ≤ 140737488351232 := by have := hl5.1; unfold reach at this; omega
      have HL := Lib.hid hl
      clear hcc hl hl5
      have hle' : (N : Int) ≤ 2097152 := by omega
      go_wp2
      go_round
      case rel => exact ⟨k + 1, N + l, by omega, by go_num, by go_num, by omega, Lib.hid (by rw [wt_snoc _ _ hk2, ← HL.out]; have := hs0.out; omega)⟩
      case measure => simp [intOf]; omega
    · have HF : Hid (N ≤ 2097152 → N = n0 + n1 + n2 + n3 + wt c.codes) := Lib.hid (by
        intro hle
        have hk1 : k = n1 := by omega
        have h5 := hs0.out
        rw [hk1, List.take_of_length_le (by have := H1.out; omega)] at h5
        exact h5)
      clear hs0
      by_cases hlt2 : k < n1
      · have hle' : ¬ (N : Int) ≤ 2097152 := by omega
        have hle'' : ¬ N ≤ 2097152 := by omega
        clear hlt
        go_wp2
        go_loop [3, 5] (fun v i => ∃ (j M : Nat), j ≤ n2 ∧ i = .int .i64 j ∧ v = .int .i64 M ∧ M ≤ 2251799813685248 ∧ Hid (M = N + wt (c.subs.take j))) (fun _ i => n2 - (intOf i).toNat)
        case atStart => exact ⟨0, N, Nat.zero_le _, rfl, rfl, by omega, Lib.hid (by simp [wt])⟩
        case round =>
          obtain ⟨j, M, hj, rfl, rfl, hM, ht0⟩ := hrel
          by_cases hlt5 : j < n2 ∧ M ≤ 2097152
          · obtain ⟨hlt5, hle5⟩ := hlt5
            have hk5 : j < c.subs.length := by have := H2.out; omega
            obtain ⟨b5, o5, rfl, hcc⟩ := HS.out.2 (by omega)
            obtain ⟨v, hcell, A5, c5, rfl, _, _, hl5⟩ := hcc j hk5
            obtain ⟨l, hl⟩ : ∃ l, l = (c.subs.getD j []).length := ⟨_, rfl⟩
            rw [← hl] at hcell
            have hl6 : l ≤ 140737488351232 := by have := hl5.1; unfold reach at this; omega
            have HL := Lib.hid hl
            clear hcc hl hl5
            have hle6 : (M : Int) ≤ 2097152 := by omega
            go_wp2
            go_round
            case rel => exact ⟨j + 1, M + l, by omega, by go_num, by go_num, by omega, Lib.hid (by rw [wt_snoc _ _ hk5, ← HL.out]; have := ht0.out; omega)⟩
            case measure => simp [intOf]; omega
          · have HF2 : Hid (M ≤ 2097152 → M = N + wt c.subs) := Lib.hid (by
              intro hle
              have hk1 : j = n2 := by omega
              have h5 := ht0.out
              rw [hk1, List.take_of_length_le (by have := H2.out; omega)] at h5
              exact h5)
            clear ht0
            by_cases hlt6 : j < n2
            · have hle5 : ¬ (M : Int) ≤ 2097152 := by omega
              have hle6 : ¬ M ≤ 2097152 := by omega
              clear hlt5
              go_wp2
              go_ret
              exact ⟨_, rfl, fun h => absurd h (by omega), below_alloc _ _⟩
            · clear hlt5
              go_wp2
              go_ret
              exact ⟨_, rfl, fun h => by
                have e2 := HF2.out (by omega)
                have e1 := HF.out (by omega)
                unfold Small
                rw [← H0.out, ← H1.out, ← H2.out, ← H3.out]
                omega, below_alloc _ _⟩
      · clear hlt
        go_wp2
        go_loop [3, 5] (fun v i => ∃ (j M : Nat), j ≤ n2 ∧ i = .int .i64 j ∧ v = .int .i64 M ∧ M ≤ 2251799813685248 ∧ Hid (M = N + wt (c.subs.take j))) (fun _ i => n2 - (intOf i).toNat)
        case atStart => exact ⟨0, N, Nat.zero_le _, rfl, rfl, by omega, Lib.hid (by simp [wt])⟩
        case round =>
          obtain ⟨j, M, hj, rfl, rfl, hM, ht0⟩ := hrel
          by_cases hlt5 : j < n2 ∧ M ≤ 2097152
          · obtain ⟨hlt5, hle5⟩ := hlt5
            have hk5 : j < c.subs.length := by have := H2.out; omega
            obtain ⟨b5, o5, rfl, hcc⟩ := HS.out.2 (by omega)
            obtain ⟨v, hcell, A5, c5, rfl, _, _, hl5⟩ := hcc j hk5
            obtain ⟨l, hl⟩ : ∃ l, l = (c.subs.getD j []).length := ⟨_, rfl⟩
            rw [← hl] at hcell
            have hl6 : l ≤ 140737488351232 := by have := hl5.1; unfold reach at this; omega
            have HL := Lib.hid hl
            clear hcc hl hl5
            have hle6 : (M : Int) ≤ 2097152 := by omega
            go_wp2
            go_round
            case rel => exact ⟨j + 1, M + l, by omega, by go_num, by go_num, by omega, Lib.hid (by rw [wt_snoc _ _ hk5, ← HL.out]; have := ht0.out; omega)⟩
            case measure => simp [intOf]; omega
          · have HF2 : Hid (M ≤ 2097152 → M = N + wt c.subs) := Lib.hid (by
              intro hle
              have hk1 : j = n2 := by omega
              have h5 := ht0.out
              rw [hk1, List.take_of_length_le (by have := H2.out; omega)] at h5
              exact h5)
            clear ht0
            by_cases hlt6 : j < n2
            · have hle5 : ¬ (M : Int) ≤ 2097152 := by omega
              have hle6 : ¬ M ≤ 2097152 := by omega
              clear hlt5
              go_wp2
              go_ret
              exact ⟨_, rfl, fun h => absurd h (by omega), below_alloc _ _⟩
            · clear hlt5
              go_wp2
              go_ret
              exact ⟨_, rfl, fun h => by
                have e2 := HF2.out (by omega)
                have e1 := HF.out (by omega)
                unfold Small
                rw [← H0.out, ← H1.out, ← H2.out, ← H3.out]
                omega, below_alloc _ _⟩
end Go.Proofs.Ytkbboepopcebaaa
