/- What a transaction costs ahead of its run, by the document. -/
import Derived.Test.YtlafibjcmalkdaaG
namespace Go.Proofs.Ytlafibjcmalkdaa
open Go.RowKit

set_option maxRecDepth 100000 in
set_option maxHeartbeats 4000000 in
theorem refIntrinsic_any (C : Array Value) (t : Tx) (vi va vb vn : Value) (w : World) (h : TxV w C t vi va vb vn) (hs : tsize t ≤ 200000) :
    Calls Try.prog 7 #[.agg C] w fun e w' => e = .returned (.int .u64 (icost t)) ∧ Below w.heap.size w w' := by
  have hb0 := below_alloc w (.cells C 31)
  have h50 := box_cell w C 31 50 _ h.c50
  have h51 := box_cell w C 31 51 _ h.c51
  have h53 := box_cell w C 31 53 _ h.c53
  have h54 := box_cell w C 31 54 _ h.c54
  have h2 := h.mono hb0
  have hsz := h.size
  have hin := h2.inp
  have hnn := h2.ini
  obtain ⟨A0, c0, rfl, _, _, r0⟩ := id hin
  obtain ⟨A4, c4, rfl, _, _, r4⟩ := id hnn
  obtain ⟨kvs, ha, hk⟩ := h2.acc
  obtain ⟨A1, c1, rfl, _, _, l1, _⟩ := id ha
  have hts : tsize t = t.inp.length + t.ini.length + t.nb + asum t.acc := rfl
  have hd0 := dsum_bd t.inp
  have hd4 := dsum_bd t.ini
  have hl0 : t.inp.length ≤ 200000 := by omega
  have hl4 : t.ini.length ≤ 200000 := by omega
  have has := asum_len t.acc
  have hcd0 := bytes_any _ t.inp _ hin hl0
  have hcd4 : ∀ q, Calls Try.prog 13 #[.slice A4 t.ini.length c4] ((w.alloc (.cells C 31)).drewN q) fun e w' => e = .returned (.int .u64 (dsum t.ini)) ∧ w' = (w.alloc (.cells C 31)).drewN q := fun q => bytes_any _ t.ini _ (hnn.mono (below_drewN (Below.refl _ _) q)) hl4
  obtain ⟨p4, hp4⟩ : ∃ p, p = t.ini.length := ⟨_, rfl⟩
  obtain ⟨p0, hp0⟩ : ∃ p, p = t.inp.length := ⟨_, rfl⟩
  obtain ⟨n, hn⟩ : ∃ p, p = t.acc.length := ⟨_, rfl⟩
  obtain ⟨d0, hd0e⟩ : ∃ d, d = dsum t.inp := ⟨_, rfl⟩
  obtain ⟨d4, hd4e⟩ : ∃ d, d = dsum t.ini := ⟨_, rfl⟩
  obtain ⟨W, hW⟩ : ∃ W, W = w.alloc (.cells C 31) := ⟨_, rfl⟩
  obtain ⟨g, hg⟩ : ∃ g, g = w.heap.size := ⟨_, rfl⟩
  have hib : ibase t = 21000 + d0 + (if t.make then 32000 + d4 + 2 * (((p4 + 31) / 32 : Nat) : Int) else 0) := by rw [hd0e, hd4e, hp4]; rfl
  rw [← hd0e] at hd0 hcd0
  rw [← hd4e] at hd4 hcd4
  rw [← hp4] at hd4 hl4
  rw [← hp0] at hd0 hl0
  have hic : icost t = ibase t + acost t.acc := rfl
  have HIC := Lib.hid hic
  have HIB := Lib.hid hib
  have HTS : Hid (asum t.acc ≤ 200000) := Lib.hid (by omega)
  have HA := Lib.hid ha
  have HK := Lib.hid hk
  have HN := Lib.hid hn
  have HB0 := Lib.hid hb0
  have HG := Lib.hid hg
  have HCD0 := Lib.hid hcd0
  have HCD4 := Lib.hid hcd4
  have hn2 : n ≤ 200000 := by omega
  obtain ⟨mk, hmk⟩ : ∃ mk, mk = t.make := ⟨_, rfl⟩
  rw [← hmk] at h53 HIB
  rw [← hp0] at h50 HCD0
  rw [← hp4] at h54 HCD4
  rw [← hn] at h51 HA
  clear h h2 hin hnn hic hib hts has ha hk hb0 r0 r4 l1 hcd0 hcd4 hn hp0 hp4 hd0e hd4e hmk hs
  go_enter Try.func7, Try.ntmps7
  go_wp2_with fail
  refine HCD0.out.mono ?_
  rintro _ _ ⟨rfl, rfl⟩
  cases mk with
  | false =>
    go_wp2_with fail
    obtain ⟨S, hS⟩ : ∃ S : Int, S = 21000 + d0 := ⟨_, rfl⟩
    have hSb : 0 ≤ S ∧ S ≤ 10000000 := by omega
    rw [← hS]
    have HS := Lib.hid hS
    clear hS hd0 hd4 hl0
    rw [← hW] at h51 HA HK HB0 ⊢
    rw [← hg] at h51 ⊢
    clear hW hg hsz h50 h53 h54
    go_loopw [3, 5] (fun s i wr => ∃ k : Nat, k ≤ n ∧ i = .int .i64 k ∧ s = .int .u64 (S + acost (t.acc.take k)) ∧ wr = W) (fun _ i _ => n - (intOf i).toNat)
    case atStart => exact ⟨0, Nat.zero_le _, rfl, by simp [acost], rfl⟩
    case round =>
      obtain ⟨k, hk, rfl, rfl, rfl⟩ := hrel
      by_cases hlt : k < n
      · have hk2 : k < t.acc.length := by have := HN.out; omega
        have hA3 := HA.out
        rw [HN.out] at hA3
        obtain ⟨b, o, rfl, _, hcell⟩ := acc_at hA3 HK.out hk2
        obtain ⟨A9, c9, e9, _, _, l9, _⟩ := HK.out.2.2 k hk2
        rw [e9] at hcell
        obtain ⟨q, hq⟩ : ∃ q, q = (t.acc.getD k default).kn := ⟨_, rfl⟩
        have hst := acost_step hk2
        have hca := acost_bd (t.acc.take k)
        have hsa := asum_take_le t.acc k
        have hsb := asum_take_le t.acc (k + 1)
        rw [asum_step hk2] at hsb
        rw [← hq] at hcell hst hsb
        have htb := HTS.out
        have hi0 : (0 : Int) ≤ (k : Int) := by omega
        have hi1 : (k : Int) < (n : Int) := by omega
        have hq2 : q ≤ 200000 := by omega
        obtain ⟨s, hs⟩ : ∃ s : Int, s = S + acost (t.acc.take k) := ⟨_, rfl⟩
        have hs0 : 0 ≤ s := by omega
        have hs1 : s ≤ 1000000000 := by omega
        rw [← hs]
        have HST := Lib.hid hst
        have HSS := Lib.hid hs
        clear hst hca hsa hsb htb hs e9 hq
        go_wp2
        go_roundw
        case rel => exact ⟨k + 1, by omega, by go_num, congrArg (Value.int .u64) (by have := HST.out; have := HSS.out; omega), by first | rfl | trivial⟩
        case measure => simp [intOf]; omega
      · have hge : ¬ ((k : Int) < (n : Int)) := by omega
        go_wp2
        go_ret
        refine ⟨?_, HB0.out⟩
        have hkn : t.acc.take k = t.acc := List.take_of_length_le (by have := HN.out; omega)
        rw [hkn]
        have e1 := HIC.out
        have e2 := HIB.out
        have e3 := HS.out
        simp only [if_true, Bool.false_eq_true, if_false] at e2
        show Ending.returned (Value.int .u64 (S + acost t.acc)) = _
        exact congrArg (fun z => Ending.returned (Value.int .u64 z)) (by omega)
  | true =>
    go_wp2_with fail
    have hcc := HCD4.out 0
    simp only [World.drewN_zero] at hcc
    refine hcc.mono ?_
    rintro _ _ ⟨rfl, rfl⟩
    by_cases hr : p4 % 32 = 0
    · have d1 : decide ((0 : Int) < (p4 : Int) % 32) = false := by simp; omega
      have d2 : ¬ ((0 : Int) < (p4 : Int) % 32) := by omega
      go_wp2_with fail
      obtain ⟨S, hS⟩ : ∃ S : Int, S = 21000 + d0 + 32000 + d4 + 2 * ((p4 : Int) / 32) := ⟨_, rfl⟩
      have hSb : 0 ≤ S ∧ S ≤ 10000000 := by omega
      rw [← hS]
      have HS := Lib.hid hS
      clear hS hd0 hd4 hl0
      rw [← hW] at h51 HA HK HB0 ⊢
      rw [← hg] at h51 ⊢
      clear hW hg hsz h50 h53 h54
      go_loopw [3, 5] (fun s i wr => ∃ k : Nat, k ≤ n ∧ i = .int .i64 k ∧ s = .int .u64 (S + acost (t.acc.take k)) ∧ wr = W) (fun _ i _ => n - (intOf i).toNat)
      case atStart => exact ⟨0, Nat.zero_le _, rfl, by simp [acost], rfl⟩
      case round =>
        obtain ⟨k, hk, rfl, rfl, rfl⟩ := hrel
        by_cases hlt : k < n
        · have hk2 : k < t.acc.length := by have := HN.out; omega
          have hA3 := HA.out
          rw [HN.out] at hA3
          obtain ⟨b, o, rfl, _, hcell⟩ := acc_at hA3 HK.out hk2
          obtain ⟨A9, c9, e9, _, _, l9, _⟩ := HK.out.2.2 k hk2
          rw [e9] at hcell
          obtain ⟨q, hq⟩ : ∃ q, q = (t.acc.getD k default).kn := ⟨_, rfl⟩
          have hst := acost_step hk2
          have hca := acost_bd (t.acc.take k)
          have hsa := asum_take_le t.acc k
          have hsb := asum_take_le t.acc (k + 1)
          rw [asum_step hk2] at hsb
          rw [← hq] at hcell hst hsb
          have htb := HTS.out
          have hi0 : (0 : Int) ≤ (k : Int) := by omega
          have hi1 : (k : Int) < (n : Int) := by omega
          have hq2 : q ≤ 200000 := by omega
          obtain ⟨s, hs⟩ : ∃ s : Int, s = S + acost (t.acc.take k) := ⟨_, rfl⟩
          have hs0 : 0 ≤ s := by omega
          have hs1 : s ≤ 1000000000 := by omega
          rw [← hs]
          have HST := Lib.hid hst
          have HSS := Lib.hid hs
          clear hst hca hsa hsb htb hs e9 hq
          go_wp2
          go_roundw
          case rel => exact ⟨k + 1, by omega, by go_num, congrArg (Value.int .u64) (by have := HST.out; have := HSS.out; omega), by first | rfl | trivial⟩
          case measure => simp [intOf]; omega
        · have hge : ¬ ((k : Int) < (n : Int)) := by omega
          go_wp2
          go_ret
          refine ⟨?_, HB0.out⟩
          have hkn : t.acc.take k = t.acc := List.take_of_length_le (by have := HN.out; omega)
          rw [hkn]
          have e1 := HIC.out
          have e2 := HIB.out
          have e3 := HS.out
          simp only [if_true, Bool.false_eq_true, if_false] at e2
          show Ending.returned (Value.int .u64 (S + acost t.acc)) = _
          exact congrArg (fun z => Ending.returned (Value.int .u64 z)) (by omega)
    · have d1 : decide ((0 : Int) < (p4 : Int) % 32) = true := by simp; omega
      have d2 : (0 : Int) < (p4 : Int) % 32 := by omega
      go_wp2_with fail
      obtain ⟨S, hS⟩ : ∃ S : Int, S = 21000 + d0 + 32000 + d4 + 2 * ((p4 : Int) / 32 + 1) := ⟨_, rfl⟩
      have hSb : 0 ≤ S ∧ S ≤ 10000000 := by omega
      rw [← hS]
      have HS := Lib.hid hS
      clear hS hd0 hd4 hl0
      rw [← hW] at h51 HA HK HB0 ⊢
      rw [← hg] at h51 ⊢
      clear hW hg hsz h50 h53 h54
      go_loopw [3, 5] (fun s i wr => ∃ k : Nat, k ≤ n ∧ i = .int .i64 k ∧ s = .int .u64 (S + acost (t.acc.take k)) ∧ wr = W) (fun _ i _ => n - (intOf i).toNat)
      case atStart => exact ⟨0, Nat.zero_le _, rfl, by simp [acost], rfl⟩
      case round =>
        obtain ⟨k, hk, rfl, rfl, rfl⟩ := hrel
        by_cases hlt : k < n
        · have hk2 : k < t.acc.length := by have := HN.out; omega
          have hA3 := HA.out
          rw [HN.out] at hA3
          obtain ⟨b, o, rfl, _, hcell⟩ := acc_at hA3 HK.out hk2
          obtain ⟨A9, c9, e9, _, _, l9, _⟩ := HK.out.2.2 k hk2
          rw [e9] at hcell
          obtain ⟨q, hq⟩ : ∃ q, q = (t.acc.getD k default).kn := ⟨_, rfl⟩
          have hst := acost_step hk2
          have hca := acost_bd (t.acc.take k)
          have hsa := asum_take_le t.acc k
          have hsb := asum_take_le t.acc (k + 1)
          rw [asum_step hk2] at hsb
          rw [← hq] at hcell hst hsb
          have htb := HTS.out
          have hi0 : (0 : Int) ≤ (k : Int) := by omega
          have hi1 : (k : Int) < (n : Int) := by omega
          have hq2 : q ≤ 200000 := by omega
          obtain ⟨s, hs⟩ : ∃ s : Int, s = S + acost (t.acc.take k) := ⟨_, rfl⟩
          have hs0 : 0 ≤ s := by omega
          have hs1 : s ≤ 1000000000 := by omega
          rw [← hs]
          have HST := Lib.hid hst
          have HSS := Lib.hid hs
          clear hst hca hsa hsb htb hs e9 hq
          go_wp2
          go_roundw
          case rel => exact ⟨k + 1, by omega, by go_num, congrArg (Value.int .u64) (by have := HST.out; have := HSS.out; omega), by first | rfl | trivial⟩
          case measure => simp [intOf]; omega
        · have hge : ¬ ((k : Int) < (n : Int)) := by omega
          go_wp2
          go_ret
          refine ⟨?_, HB0.out⟩
          have hkn : t.acc.take k = t.acc := List.take_of_length_le (by have := HN.out; omega)
          rw [hkn]
          have e1 := HIC.out
          have e2 := HIB.out
          have e3 := HS.out
          simp only [if_true, Bool.false_eq_true, if_false] at e2
          show Ending.returned (Value.int .u64 (S + acost t.acc)) = _
          exact congrArg (fun z => Ending.returned (Value.int .u64 z)) (by omega)
end Go.Proofs.Ytlafibjcmalkdaa
