/- ContainerForm: the walk. -/
import Derived.Test.YtkbboepopcebaaaBZ
namespace Go.Proofs.Ytkbboepopcebaaa
open Go.RowKit

theorem whole_ser {b : List Int} {c : Cont} (hse : serB c = b) (hm : May c) (hd : (c.data.length : Int) = c.size) : parse b false = .ok c := by
  rw [← hse, parse_ser hm, if_neg (by omega)]
theorem short_ser {b : List Int} {c : Cont} (hse : serB c = b) (hm : May c) (hd : ¬ (c.data.length : Int) = c.size) : parse b false = .error (50, (b.length : Int)) := by
  have := hm.data
  rw [← hse, parse_ser hm, if_pos ⟨rfl, by omega⟩]

set_option maxRecDepth 100000 in
set_option maxHeartbeats 8000000 in
theorem form_whole (A : Option Addr) (n cp : Nat) (b : List Int) (w : World) (hv : NumsV w .u8 (.slice A n cp) b) (hy : Byt b) (hn : b.length = n) (hz : n ≤ 2097152) (c : Cont) (hm : May c) (hse : serB c = b) (hd : (c.data.length : Int) = c.size) :
    Calls Try.prog 7 #[.slice A n cp] w (TruePost w) := by
  have HABLE := Lib.hid (able_any w)
  have HOWN : Hid (∀ W, Below w.heap.size w W → Calls Try.prog 30 #[.slice A n cp] W (OwnPost b n W)) := Lib.hid fun W hW => own_sl _ b n W (hv.mono hW) hn
  have hp : parse b true = .ok c := by rw [← hse, parse_ser hm, if_neg (by simp)]
  have HF : Hid (Fits c) := Lib.hid (fits_of hm (by rw [hse]; omega))
  obtain ⟨n0, hn0⟩ : ∃ n0, n0 = c.types.length := ⟨_, rfl⟩
  obtain ⟨n1, hn1⟩ : ∃ n1, n1 = c.codes.length := ⟨_, rfl⟩
  obtain ⟨n2, hn2⟩ : ∃ n2, n2 = c.subs.length := ⟨_, rfl⟩
  obtain ⟨n3, hn3⟩ : ∃ n3, n3 = c.data.length := ⟨_, rfl⟩
  obtain ⟨s, hs⟩ : ∃ s, s = c.size := ⟨_, rfl⟩
  have hr : n ≤ reach := by unfold reach; omega
  have HP1 : Hid (∀ W A' c', NumsV W .u8 (.slice A' n c') b → Calls Try.prog 29 #[.slice A' n c', .bool true] W (OkPost c n0 n1 n2 n3 s W)) := Lib.hid fun W A' c' h => parse_okc hn0 hn1 hn2 hn3 hs hp A' n c' W h hy hn
  have HP2 : Hid (∀ W A' c', NumsV W .u8 (.slice A' n c') b → Calls Try.prog 29 #[.slice A' n c', .bool false] W (OkPost c n0 n1 n2 n3 s W)) := Lib.hid fun W A' c' h => parse_okc hn0 hn1 hn2 hn3 hs (whole_ser hse hm hd) A' n c' W h hy hn
  have hq : ((n3 : Int) == s) = true := by simp; omega
  have HSER : Hid (∀ W v, ContV W v c → Calls Try.prog 25 #[v] W (SerC b n W)) := Lib.hid fun W v h => by
    have := ser_c v c n W h hm (by rw [hse]; exact hn) hr
    rwa [hse] at this
  have HSIZE : Hid (∀ W v, ContV W v c → Calls Try.prog 26 #[v] W fun e w' => e = .returned (.tuple #[.int .i64 n, .int .i64 0]) ∧ Below W.heap.size W w') := Lib.hid fun W v h => size_c v c n W h hm (by rw [hse]; exact hn)
  have HCHK : Hid (∀ W v, ContV W v c → Calls Try.prog 18 #[v] W fun e w' => e = .returned (.int .i64 0) ∧ Below W.heap.size W w') := Lib.hid fun W v h => check_c v c W h hm
  have HMAY : Hid (∀ W v, ContV W v c → Calls Try.prog 24 #[v] W (TruePost W)) := Lib.hid fun W v h => may_c v c W h hm
  have HVV := Lib.hid hv
  have HZ0 : Hid (n ≤ 2097152) := Lib.hid hz
  have h1 : decide ((2097152 : Int) < (n : Int)) = false := by simp; omega
  have h2 : decide (2097152 < n) = false := by simp; omega
  clear hv hn hn0 hn1 hn2 hn3 hs hp hd hse hm hr hz
  go_enter Try.func7, Try.ntmps7
  go_wp2_with fail
  refine (HABLE.out).mono ?_
  rintro e w1 ⟨rfl, hb⟩
  have HSw1 := Lib.hid hb
  clear hb
  go_wp2_with fail
  refine (HOWN.out _ HSw1.out).mono ?_
  rintro e w2 ⟨A1, a1, rfl, hn1, hb⟩
  have HSw2 := Lib.hid hb
  clear hb
  have HN1 := Lib.hid hn1
  go_wp2_with fail
  refine (HP1.out w2 _ _ HN1.out).mono ?_
  rintro e w3 ⟨A10, c10, A11, c11, A12, c12, A13, c13, rfl, hp, hb⟩
  have HSw3 := Lib.hid hb
  clear hb
  clear hn1
  have hkb := kb_new w3 (.slice A10 n0 c10) (.slice A11 n1 c11) (.slice A12 n2 c12) (.slice A13 n3 c13) (.int .i64 s) 0 0
  have hzb : Below w3.heap.size w3 ((w3.alloc (.cells #[.slice A10 n0 c10, .slice A11 n1 c11, .slice A12 n2 c12, .slice A13 n3 c13, .int .i64 s] 28)).alloc (.cells #[.int .i64 0, .slice none 0 0, .int .i64 0, .int .i64 0] 43)) := below_step (below_alloc _ _) (below_alloc _ _)
  obtain ⟨y1, hy1⟩ : ∃ y1, y1 = ((w3.alloc (.cells #[.slice A10 n0 c10, .slice A11 n1 c11, .slice A12 n2 c12, .slice A13 n3 c13, .int .i64 s] 28)).alloc (.cells #[.int .i64 0, .slice none 0 0, .int .i64 0, .int .i64 0] 43)) := ⟨_, rfl⟩
  obtain ⟨X1, hX1⟩ : ∃ X1, X1 = w3.heap.size := ⟨_, rfl⟩
  obtain ⟨Y1, hY1⟩ : ∃ Y1, Y1 = X1 + 1 := ⟨_, rfl⟩
  rw [← hy1, ← hX1, ← hY1] at hkb
  rw [← hy1] at hzb
  have HK1 := Lib.hid hkb
  have HZ1 := Lib.hid hzb
  clear hkb hzb
  have HC1 := Lib.hid (hp.belowK HZ1.out)
  clear hp
  go_wp2_with fail
  rw [← hy1, ← hX1, ← hY1]
  clear hy1 hX1 hY1
  refine (HOWN.out _ (below_step (below_step (below_step HSw1.out HSw2.out) HSw3.out) HZ1.out)).mono ?_
  rintro e w4 ⟨A2, a2, rfl, hn2, hb⟩
  have HSw4 := Lib.hid hb
  clear hb
  have HN2 := Lib.hid hn2
  go_wp2_with fail
  refine (HP2.out w4 _ _ HN2.out).mono ?_
  rintro e w5 ⟨A20, c20, A21, c21, A22, c22, A23, c23, rfl, hp, hb⟩
  have HSw5 := Lib.hid hb
  clear hb
  clear hn2
  have hkb := kb_new w5 (.slice A20 n0 c20) (.slice A21 n1 c21) (.slice A22 n2 c22) (.slice A23 n3 c23) (.int .i64 s) 0 0
  have hzb : Below w5.heap.size w5 ((w5.alloc (.cells #[.slice A20 n0 c20, .slice A21 n1 c21, .slice A22 n2 c22, .slice A23 n3 c23, .int .i64 s] 28)).alloc (.cells #[.int .i64 0, .slice none 0 0, .int .i64 0, .int .i64 0] 43)) := below_step (below_alloc _ _) (below_alloc _ _)
  obtain ⟨y2, hy2⟩ : ∃ y2, y2 = ((w5.alloc (.cells #[.slice A20 n0 c20, .slice A21 n1 c21, .slice A22 n2 c22, .slice A23 n3 c23, .int .i64 s] 28)).alloc (.cells #[.int .i64 0, .slice none 0 0, .int .i64 0, .int .i64 0] 43)) := ⟨_, rfl⟩
  obtain ⟨X2, hX2⟩ : ∃ X2, X2 = w5.heap.size := ⟨_, rfl⟩
  obtain ⟨Y2, hY2⟩ : ∃ Y2, Y2 = X2 + 1 := ⟨_, rfl⟩
  rw [← hy2, ← hX2, ← hY2] at hkb
  rw [← hy2] at hzb
  have HK2 := Lib.hid hkb
  have HZ2 := Lib.hid hzb
  clear hkb hzb
  have HC2 := Lib.hid (hp.belowK HZ2.out)
  clear hp
  go_upto_region 7 with (fail)
  rw [← hy2, ← hX2, ← hY2]
  clear hy2 hX2 hY2
  have HK12 := Lib.hid (HK1.out.below (below_step (below_step HSw4.out HSw5.out) HZ2.out))
  have HK22 := HK2
  clear HK1 HK2
  have HV1 := Lib.hid ((HC1.out.belowK (below_step (below_step HSw4.out HSw5.out) HZ2.out)).read HF.out)
  have HV2 := Lib.hid (HC2.out.read HF.out)
  have HBy2 := Lib.hid (below_step (below_step (below_step (below_step (below_step (below_step HSw1.out HSw2.out) HSw3.out) HZ1.out) HSw4.out) HSw5.out) HZ2.out)
  have HA2 := Lib.hid (HVV.out.mono HBy2.out)
  obtain ⟨k10, k11, k12, k13, k14, l10, l11, l12, l13⟩ := HK12.out.below (Below.refl _ _)
  go_wp2_with fail
  refine (twin_c _ c _ HV1.out HF.out).mono ?_
  rintro e w6 ⟨v3, rfl, hv3, hb⟩
  have HSw6 := Lib.hid hb
  clear hb
  have HV3 := Lib.hid hv3
  clear hv3
  clear k10 k11 k12 k13 k14 l10 l11 l12 l13
  obtain ⟨k10, k11, k12, k13, k14, l10, l11, l12, l13⟩ := HK12.out.below HSw6.out
  go_wp2_with fail
  refine (HSER.out _ _ HV3.out).mono ?_
  rintro e w7 ⟨A4, c4, rfl, hn4, hb⟩
  have HSw7 := Lib.hid hb
  clear hb
  have HN4 := Lib.hid hn4
  clear hn4
  clear k10 k11 k12 k13 k14 l10 l11 l12 l13
  obtain ⟨k10, k11, k12, k13, k14, l10, l11, l12, l13⟩ := HK12.out.below (below_step HSw6.out HSw7.out)
  go_wp2_with fail
  refine (twin_c _ c _ (HV1.out.mono (below_step HSw6.out HSw7.out)) HF.out).mono ?_
  rintro e w8 ⟨v5, rfl, hv5, hb⟩
  have HSw8 := Lib.hid hb
  clear hb
  have HV5 := Lib.hid hv5
  clear hv5
  clear k10 k11 k12 k13 k14 l10 l11 l12 l13
  obtain ⟨k10, k11, k12, k13, k14, l10, l11, l12, l13⟩ := HK12.out.below (below_step (below_step HSw6.out HSw7.out) HSw8.out)
  go_wp2_with fail
  refine (HSIZE.out _ _ HV5.out).mono ?_
  rintro e w9 ⟨rfl, hb⟩
  have HSw9 := Lib.hid hb
  clear hb
  clear k10 k11 k12 k13 k14 l10 l11 l12 l13
  obtain ⟨k10, k11, k12, k13, k14, l10, l11, l12, l13⟩ := HK12.out.below (below_step (below_step (below_step HSw6.out HSw7.out) HSw8.out) HSw9.out)
  go_wp2_with fail
  refine (HMAY.out _ _ (HV1.out.mono (below_step (below_step (below_step HSw6.out HSw7.out) HSw8.out) HSw9.out))).mono ?_
  rintro e w10 ⟨rfl, hb⟩
  have HSw10 := Lib.hid hb
  clear hb
  clear k10 k11 k12 k13 k14 l10 l11 l12 l13
  obtain ⟨k10, k11, k12, k13, k14, l10, l11, l12, l13⟩ := HK12.out.below (below_step (below_step (below_step (below_step HSw6.out HSw7.out) HSw8.out) HSw9.out) HSw10.out)
  go_wp2_with fail
  refine (sb_c _ _ _ _ n b _ (HN4.out.mono (below_step (below_step HSw8.out HSw9.out) HSw10.out)) (HA2.out.mono (below_step (below_step (below_step (below_step HSw6.out HSw7.out) HSw8.out) HSw9.out) HSw10.out))).mono ?_
  rintro e w11 ⟨rfl, hb⟩
  have HSw11 := Lib.hid hb
  clear hb
  clear k10 k11 k12 k13 k14 l10 l11 l12 l13
  obtain ⟨k10, k11, k12, k13, k14, l10, l11, l12, l13⟩ := HK12.out.below (below_step (below_step (below_step (below_step (below_step HSw6.out HSw7.out) HSw8.out) HSw9.out) HSw10.out) HSw11.out)
  go_wp2_with fail
  refine (twin_c _ c _ (HV1.out.mono (below_step (below_step (below_step (below_step (below_step HSw6.out HSw7.out) HSw8.out) HSw9.out) HSw10.out) HSw11.out)) HF.out).mono ?_
  rintro e w12 ⟨v6, rfl, hv6, hb⟩
  have HSw12 := Lib.hid hb
  clear hb
  have HV6 := Lib.hid hv6
  clear hv6
  clear k10 k11 k12 k13 k14 l10 l11 l12 l13
  obtain ⟨k10, k11, k12, k13, k14, l10, l11, l12, l13⟩ := HK12.out.below (below_step (below_step (below_step (below_step (below_step (below_step HSw6.out HSw7.out) HSw8.out) HSw9.out) HSw10.out) HSw11.out) HSw12.out)
  go_wp2_with fail
  refine (HCHK.out _ _ HV6.out).mono ?_
  rintro e w13 ⟨rfl, hb⟩
  have HSw13 := Lib.hid hb
  clear hb
  clear k10 k11 k12 k13 k14 l10 l11 l12 l13
  obtain ⟨k10, k11, k12, k13, k14, l10, l11, l12, l13⟩ := HK12.out.below (below_step (below_step (below_step (below_step (below_step (below_step (below_step HSw6.out HSw7.out) HSw8.out) HSw9.out) HSw10.out) HSw11.out) HSw12.out) HSw13.out)
  obtain ⟨k20, k21, k22, k23, k24, l20, l21, l22, l23⟩ := HK22.out.below (below_step (below_step (below_step (below_step (below_step (below_step (below_step HSw6.out HSw7.out) HSw8.out) HSw9.out) HSw10.out) HSw11.out) HSw12.out) HSw13.out)
  go_wp2_with fail
  refine (same_c (HV1.out.mono (below_step (below_step (below_step (below_step (below_step (below_step (below_step HSw6.out HSw7.out) HSw8.out) HSw9.out) HSw10.out) HSw11.out) HSw12.out) HSw13.out)) (HV2.out.mono (below_step (below_step (below_step (below_step (below_step (below_step (below_step HSw6.out HSw7.out) HSw8.out) HSw9.out) HSw10.out) HSw11.out) HSw12.out) HSw13.out))).mono ?_
  rintro e w14 ⟨rfl, hb⟩
  have HSw14 := Lib.hid hb
  clear hb
  go_wp2
  go_ret
  exact ⟨rfl, below_step HBy2.out (below_step (below_step (below_step (below_step (below_step (below_step (below_step (below_step HSw6.out HSw7.out) HSw8.out) HSw9.out) HSw10.out) HSw11.out) HSw12.out) HSw13.out) HSw14.out)⟩
set_option maxRecDepth 100000 in
set_option maxHeartbeats 8000000 in
theorem form_short (A : Option Addr) (n cp : Nat) (b : List Int) (w : World) (hv : NumsV w .u8 (.slice A n cp) b) (hy : Byt b) (hn : b.length = n) (hz : n ≤ 2097152) (c : Cont) (hm : May c) (hse : serB c = b) (hd : ¬ (c.data.length : Int) = c.size) :
    Calls Try.prog 7 #[.slice A n cp] w (TruePost w) := by
  have HABLE := Lib.hid (able_any w)
  have HOWN : Hid (∀ W, Below w.heap.size w W → Calls Try.prog 30 #[.slice A n cp] W (OwnPost b n W)) := Lib.hid fun W hW => own_sl _ b n W (hv.mono hW) hn
  have hp : parse b true = .ok c := by rw [← hse, parse_ser hm, if_neg (by simp)]
  have HF : Hid (Fits c) := Lib.hid (fits_of hm (by rw [hse]; omega))
  obtain ⟨n0, hn0⟩ : ∃ n0, n0 = c.types.length := ⟨_, rfl⟩
  obtain ⟨n1, hn1⟩ : ∃ n1, n1 = c.codes.length := ⟨_, rfl⟩
  obtain ⟨n2, hn2⟩ : ∃ n2, n2 = c.subs.length := ⟨_, rfl⟩
  obtain ⟨n3, hn3⟩ : ∃ n3, n3 = c.data.length := ⟨_, rfl⟩
  obtain ⟨s, hs⟩ : ∃ s, s = c.size := ⟨_, rfl⟩
  have hr : n ≤ reach := by unfold reach; omega
  have HP1 : Hid (∀ W A' c', NumsV W .u8 (.slice A' n c') b → Calls Try.prog 29 #[.slice A' n c', .bool true] W (OkPost c n0 n1 n2 n3 s W)) := Lib.hid fun W A' c' h => parse_okc hn0 hn1 hn2 hn3 hs hp A' n c' W h hy hn
  have HP2 : Hid (∀ W A' c', NumsV W .u8 (.slice A' n c') b → Calls Try.prog 29 #[.slice A' n c', .bool false] W (NoPost 50 n W)) := Lib.hid fun W A' c' h => by
    have e := short_ser hse hm hd
    rw [hn] at e
    exact parse_noc e A' n c' W h hy hn
  have hq : ((n3 : Int) == s) = false := by simp; omega
  have HSER : Hid (∀ W v, ContV W v c → Calls Try.prog 25 #[v] W (SerC b n W)) := Lib.hid fun W v h => by
    have := ser_c v c n W h hm (by rw [hse]; exact hn) hr
    rwa [hse] at this
  have HSIZE : Hid (∀ W v, ContV W v c → Calls Try.prog 26 #[v] W fun e w' => e = .returned (.tuple #[.int .i64 n, .int .i64 0]) ∧ Below W.heap.size W w') := Lib.hid fun W v h => size_c v c n W h hm (by rw [hse]; exact hn)
  have HCHK : Hid (∀ W v, ContV W v c → Calls Try.prog 18 #[v] W fun e w' => e = .returned (.int .i64 0) ∧ Below W.heap.size W w') := Lib.hid fun W v h => check_c v c W h hm
  have HMAY : Hid (∀ W v, ContV W v c → Calls Try.prog 24 #[v] W (TruePost W)) := Lib.hid fun W v h => may_c v c W h hm
  have HVV := Lib.hid hv
  have HZ0 : Hid (n ≤ 2097152) := Lib.hid hz
  have h1 : decide ((2097152 : Int) < (n : Int)) = false := by simp; omega
  have h2 : decide (2097152 < n) = false := by simp; omega
  clear hv hn hn0 hn1 hn2 hn3 hs hp hd hse hm hr hz
  go_enter Try.func7, Try.ntmps7
  go_wp2_with fail
  refine (HABLE.out).mono ?_
  rintro e w1 ⟨rfl, hb⟩
  have HSw1 := Lib.hid hb
  clear hb
  go_wp2_with fail
  refine (HOWN.out _ HSw1.out).mono ?_
  rintro e w2 ⟨A1, a1, rfl, hn1, hb⟩
  have HSw2 := Lib.hid hb
  clear hb
  have HN1 := Lib.hid hn1
  go_wp2_with fail
  refine (HP1.out w2 _ _ HN1.out).mono ?_
  rintro e w3 ⟨A10, c10, A11, c11, A12, c12, A13, c13, rfl, hp, hb⟩
  have HSw3 := Lib.hid hb
  clear hb
  clear hn1
  have hkb := kb_new w3 (.slice A10 n0 c10) (.slice A11 n1 c11) (.slice A12 n2 c12) (.slice A13 n3 c13) (.int .i64 s) 0 0
  have hzb : Below w3.heap.size w3 ((w3.alloc (.cells #[.slice A10 n0 c10, .slice A11 n1 c11, .slice A12 n2 c12, .slice A13 n3 c13, .int .i64 s] 28)).alloc (.cells #[.int .i64 0, .slice none 0 0, .int .i64 0, .int .i64 0] 43)) := below_step (below_alloc _ _) (below_alloc _ _)
  obtain ⟨y1, hy1⟩ : ∃ y1, y1 = ((w3.alloc (.cells #[.slice A10 n0 c10, .slice A11 n1 c11, .slice A12 n2 c12, .slice A13 n3 c13, .int .i64 s] 28)).alloc (.cells #[.int .i64 0, .slice none 0 0, .int .i64 0, .int .i64 0] 43)) := ⟨_, rfl⟩
  obtain ⟨X1, hX1⟩ : ∃ X1, X1 = w3.heap.size := ⟨_, rfl⟩
  obtain ⟨Y1, hY1⟩ : ∃ Y1, Y1 = X1 + 1 := ⟨_, rfl⟩
  rw [← hy1, ← hX1, ← hY1] at hkb
  rw [← hy1] at hzb
  have HK1 := Lib.hid hkb
  have HZ1 := Lib.hid hzb
  clear hkb hzb
  have HC1 := Lib.hid (hp.belowK HZ1.out)
  clear hp
  go_wp2_with fail
  rw [← hy1, ← hX1, ← hY1]
  clear hy1 hX1 hY1
  refine (HOWN.out _ (below_step (below_step (below_step HSw1.out HSw2.out) HSw3.out) HZ1.out)).mono ?_
  rintro e w4 ⟨A2, a2, rfl, hn2, hb⟩
  have HSw4 := Lib.hid hb
  clear hb
  have HN2 := Lib.hid hn2
  go_wp2_with fail
  refine (HP2.out w4 _ _ HN2.out).mono ?_
  rintro e w5 ⟨rfl, hb⟩
  have HSw5 := Lib.hid hb
  clear hb
  clear hn2
  have hkb := kb_new w5 (.slice none 0 0) (.slice none 0 0) (.slice none 0 0) (.slice none 0 0) (.int .i64 0) 50 n
  have hzb : Below w5.heap.size w5 ((w5.alloc (.cells #[.slice none 0 0, .slice none 0 0, .slice none 0 0, .slice none 0 0, .int .i64 0] 28)).alloc (.cells #[.int .i64 50, .slice none 0 0, .int .i64 0, .int .i64 n] 43)) := below_step (below_alloc _ _) (below_alloc _ _)
  obtain ⟨y2, hy2⟩ : ∃ y2, y2 = ((w5.alloc (.cells #[.slice none 0 0, .slice none 0 0, .slice none 0 0, .slice none 0 0, .int .i64 0] 28)).alloc (.cells #[.int .i64 50, .slice none 0 0, .int .i64 0, .int .i64 n] 43)) := ⟨_, rfl⟩
  obtain ⟨X2, hX2⟩ : ∃ X2, X2 = w5.heap.size := ⟨_, rfl⟩
  obtain ⟨Y2, hY2⟩ : ∃ Y2, Y2 = X2 + 1 := ⟨_, rfl⟩
  rw [← hy2, ← hX2, ← hY2] at hkb
  rw [← hy2] at hzb
  have HK2 := Lib.hid hkb
  have HZ2 := Lib.hid hzb
  clear hkb hzb
  go_upto_region 7 with (fail)
  rw [← hy2, ← hX2, ← hY2]
  clear hy2 hX2 hY2
  have HK12 := Lib.hid (HK1.out.below (below_step (below_step HSw4.out HSw5.out) HZ2.out))
  have HK22 := HK2
  clear HK1 HK2
  have HV1 := Lib.hid ((HC1.out.belowK (below_step (below_step HSw4.out HSw5.out) HZ2.out)).read HF.out)
  have HBy2 := Lib.hid (below_step (below_step (below_step (below_step (below_step (below_step HSw1.out HSw2.out) HSw3.out) HZ1.out) HSw4.out) HSw5.out) HZ2.out)
  have HA2 := Lib.hid (HVV.out.mono HBy2.out)
  obtain ⟨k10, k11, k12, k13, k14, l10, l11, l12, l13⟩ := HK12.out.below (Below.refl _ _)
  go_wp2_with fail
  refine (twin_c _ c _ HV1.out HF.out).mono ?_
  rintro e w6 ⟨v3, rfl, hv3, hb⟩
  have HSw6 := Lib.hid hb
  clear hb
  have HV3 := Lib.hid hv3
  clear hv3
  clear k10 k11 k12 k13 k14 l10 l11 l12 l13
  obtain ⟨k10, k11, k12, k13, k14, l10, l11, l12, l13⟩ := HK12.out.below HSw6.out
  go_wp2_with fail
  refine (HSER.out _ _ HV3.out).mono ?_
  rintro e w7 ⟨A4, c4, rfl, hn4, hb⟩
  have HSw7 := Lib.hid hb
  clear hb
  have HN4 := Lib.hid hn4
  clear hn4
  clear k10 k11 k12 k13 k14 l10 l11 l12 l13
  obtain ⟨k10, k11, k12, k13, k14, l10, l11, l12, l13⟩ := HK12.out.below (below_step HSw6.out HSw7.out)
  go_wp2_with fail
  refine (twin_c _ c _ (HV1.out.mono (below_step HSw6.out HSw7.out)) HF.out).mono ?_
  rintro e w8 ⟨v5, rfl, hv5, hb⟩
  have HSw8 := Lib.hid hb
  clear hb
  have HV5 := Lib.hid hv5
  clear hv5
  clear k10 k11 k12 k13 k14 l10 l11 l12 l13
  obtain ⟨k10, k11, k12, k13, k14, l10, l11, l12, l13⟩ := HK12.out.below (below_step (below_step HSw6.out HSw7.out) HSw8.out)
  go_wp2_with fail
  refine (HSIZE.out _ _ HV5.out).mono ?_
  rintro e w9 ⟨rfl, hb⟩
  have HSw9 := Lib.hid hb
  clear hb
  clear k10 k11 k12 k13 k14 l10 l11 l12 l13
  obtain ⟨k10, k11, k12, k13, k14, l10, l11, l12, l13⟩ := HK12.out.below (below_step (below_step (below_step HSw6.out HSw7.out) HSw8.out) HSw9.out)
  go_wp2_with fail
  refine (HMAY.out _ _ (HV1.out.mono (below_step (below_step (below_step HSw6.out HSw7.out) HSw8.out) HSw9.out))).mono ?_
  rintro e w10 ⟨rfl, hb⟩
  have HSw10 := Lib.hid hb
  clear hb
  clear k10 k11 k12 k13 k14 l10 l11 l12 l13
  obtain ⟨k10, k11, k12, k13, k14, l10, l11, l12, l13⟩ := HK12.out.below (below_step (below_step (below_step (below_step HSw6.out HSw7.out) HSw8.out) HSw9.out) HSw10.out)
  go_wp2_with fail
  refine (sb_c _ _ _ _ n b _ (HN4.out.mono (below_step (below_step HSw8.out HSw9.out) HSw10.out)) (HA2.out.mono (below_step (below_step (below_step (below_step HSw6.out HSw7.out) HSw8.out) HSw9.out) HSw10.out))).mono ?_
  rintro e w11 ⟨rfl, hb⟩
  have HSw11 := Lib.hid hb
  clear hb
  clear k10 k11 k12 k13 k14 l10 l11 l12 l13
  obtain ⟨k10, k11, k12, k13, k14, l10, l11, l12, l13⟩ := HK12.out.below (below_step (below_step (below_step (below_step (below_step HSw6.out HSw7.out) HSw8.out) HSw9.out) HSw10.out) HSw11.out)
  go_wp2_with fail
  refine (twin_c _ c _ (HV1.out.mono (below_step (below_step (below_step (below_step (below_step HSw6.out HSw7.out) HSw8.out) HSw9.out) HSw10.out) HSw11.out)) HF.out).mono ?_
  rintro e w12 ⟨v6, rfl, hv6, hb⟩
  have HSw12 := Lib.hid hb
  clear hb
  have HV6 := Lib.hid hv6
  clear hv6
  clear k10 k11 k12 k13 k14 l10 l11 l12 l13
  obtain ⟨k10, k11, k12, k13, k14, l10, l11, l12, l13⟩ := HK12.out.below (below_step (below_step (below_step (below_step (below_step (below_step HSw6.out HSw7.out) HSw8.out) HSw9.out) HSw10.out) HSw11.out) HSw12.out)
  go_wp2_with fail
  refine (HCHK.out _ _ HV6.out).mono ?_
  rintro e w13 ⟨rfl, hb⟩
  have HSw13 := Lib.hid hb
  clear hb
  clear k10 k11 k12 k13 k14 l10 l11 l12 l13
  obtain ⟨k10, k11, k12, k13, k14, l10, l11, l12, l13⟩ := HK12.out.below (below_step (below_step (below_step (below_step (below_step (below_step (below_step HSw6.out HSw7.out) HSw8.out) HSw9.out) HSw10.out) HSw11.out) HSw12.out) HSw13.out)
  obtain ⟨k20, k21, k22, k23, k24, l20, l21, l22, l23⟩ := HK22.out.below (below_step (below_step (below_step (below_step (below_step (below_step (below_step HSw6.out HSw7.out) HSw8.out) HSw9.out) HSw10.out) HSw11.out) HSw12.out) HSw13.out)
  go_wp2
  go_ret
  exact ⟨rfl, below_step HBy2.out (below_step (below_step (below_step (below_step (below_step (below_step (below_step HSw6.out HSw7.out) HSw8.out) HSw9.out) HSw10.out) HSw11.out) HSw12.out) HSw13.out)⟩
set_option maxRecDepth 100000 in
set_option maxHeartbeats 8000000 in
theorem form_no (A : Option Addr) (n cp : Nat) (b : List Int) (w : World) (hv : NumsV w .u8 (.slice A n cp) b) (hy : Byt b) (hn : b.length = n) (hz : n ≤ 2097152) (r1 s1 r2 s2 : Int) (hp : parse b true = .error (r1, s1)) (hp2 : parse b false = .error (r2, s2)) (f1 : Far b (r1, s1)) (f2 : Far b (r2, s2)) :
    Calls Try.prog 7 #[.slice A n cp] w (TruePost w) := by
  have HABLE := Lib.hid (able_any w)
  have HOWN : Hid (∀ W, Below w.heap.size w W → Calls Try.prog 30 #[.slice A n cp] W (OwnPost b n W)) := Lib.hid fun W hW => own_sl _ b n W (hv.mono hW) hn
  have HP1 : Hid (∀ W A' c', NumsV W .u8 (.slice A' n c') b → Calls Try.prog 29 #[.slice A' n c', .bool true] W (NoPost r1 s1 W)) := Lib.hid fun W A' c' h => parse_noc hp A' n c' W h hy hn
  have HP2 : Hid (∀ W A' c', NumsV W .u8 (.slice A' n c') b → Calls Try.prog 29 #[.slice A' n c', .bool false] W (NoPost r2 s2 W)) := Lib.hid fun W A' c' h => parse_noc hp2 A' n c' W h hy hn
  obtain ⟨p1, p2, p3⟩ := f1
  obtain ⟨p4, p5, p6⟩ := f2
  simp only at p1 p2 p3 p4 p5 p6
  have q1 : (r1 == 0) = false := by simp [p1]
  have q2 : (r2 == 0) = false := by simp [p4]
  have q3 : decide (s1 < 0) = false := by simp; omega
  have q4 : decide ((n : Int) < s1) = false := by simp; omega
  have q5 : decide (s2 < 0) = false := by simp; omega
  have q6 : decide ((n : Int) < s2) = false := by simp; omega
  have HVV := Lib.hid hv
  have HZ0 : Hid (n ≤ 2097152) := Lib.hid hz
  have h1 : decide ((2097152 : Int) < (n : Int)) = false := by simp; omega
  have h2 : decide (2097152 < n) = false := by simp; omega
  clear hv hn hp hp2 p1 p2 p3 p4 p5 p6 hz
  go_enter Try.func7, Try.ntmps7
  go_wp2_with fail
  refine (HABLE.out).mono ?_
  rintro e w1 ⟨rfl, hb⟩
  have HSw1 := Lib.hid hb
  clear hb
  go_wp2_with fail
  refine (HOWN.out _ HSw1.out).mono ?_
  rintro e w2 ⟨A1, a1, rfl, hn1, hb⟩
  have HSw2 := Lib.hid hb
  clear hb
  have HN1 := Lib.hid hn1
  go_wp2_with fail
  refine (HP1.out w2 _ _ HN1.out).mono ?_
  rintro e w3 ⟨rfl, hb⟩
  have HSw3 := Lib.hid hb
  clear hb
  clear hn1
  have hkb := kb_new w3 (.slice none 0 0) (.slice none 0 0) (.slice none 0 0) (.slice none 0 0) (.int .i64 0) r1 s1
  have hzb : Below w3.heap.size w3 ((w3.alloc (.cells #[.slice none 0 0, .slice none 0 0, .slice none 0 0, .slice none 0 0, .int .i64 0] 28)).alloc (.cells #[.int .i64 r1, .slice none 0 0, .int .i64 0, .int .i64 s1] 43)) := below_step (below_alloc _ _) (below_alloc _ _)
  obtain ⟨y1, hy1⟩ : ∃ y1, y1 = ((w3.alloc (.cells #[.slice none 0 0, .slice none 0 0, .slice none 0 0, .slice none 0 0, .int .i64 0] 28)).alloc (.cells #[.int .i64 r1, .slice none 0 0, .int .i64 0, .int .i64 s1] 43)) := ⟨_, rfl⟩
  obtain ⟨X1, hX1⟩ : ∃ X1, X1 = w3.heap.size := ⟨_, rfl⟩
  obtain ⟨Y1, hY1⟩ : ∃ Y1, Y1 = X1 + 1 := ⟨_, rfl⟩
  rw [← hy1, ← hX1, ← hY1] at hkb
  rw [← hy1] at hzb
  have HK1 := Lib.hid hkb
  have HZ1 := Lib.hid hzb
  clear hkb hzb
  go_wp2_with fail
  rw [← hy1, ← hX1, ← hY1]
  clear hy1 hX1 hY1
  refine (HOWN.out _ (below_step (below_step (below_step HSw1.out HSw2.out) HSw3.out) HZ1.out)).mono ?_
  rintro e w4 ⟨A2, a2, rfl, hn2, hb⟩
  have HSw4 := Lib.hid hb
  clear hb
  have HN2 := Lib.hid hn2
  go_wp2_with fail
  refine (HP2.out w4 _ _ HN2.out).mono ?_
  rintro e w5 ⟨rfl, hb⟩
  have HSw5 := Lib.hid hb
  clear hb
  clear hn2
  have hkb := kb_new w5 (.slice none 0 0) (.slice none 0 0) (.slice none 0 0) (.slice none 0 0) (.int .i64 0) r2 s2
  have hzb : Below w5.heap.size w5 ((w5.alloc (.cells #[.slice none 0 0, .slice none 0 0, .slice none 0 0, .slice none 0 0, .int .i64 0] 28)).alloc (.cells #[.int .i64 r2, .slice none 0 0, .int .i64 0, .int .i64 s2] 43)) := below_step (below_alloc _ _) (below_alloc _ _)
  obtain ⟨y2, hy2⟩ : ∃ y2, y2 = ((w5.alloc (.cells #[.slice none 0 0, .slice none 0 0, .slice none 0 0, .slice none 0 0, .int .i64 0] 28)).alloc (.cells #[.int .i64 r2, .slice none 0 0, .int .i64 0, .int .i64 s2] 43)) := ⟨_, rfl⟩
  obtain ⟨X2, hX2⟩ : ∃ X2, X2 = w5.heap.size := ⟨_, rfl⟩
  obtain ⟨Y2, hY2⟩ : ∃ Y2, Y2 = X2 + 1 := ⟨_, rfl⟩
  rw [← hy2, ← hX2, ← hY2] at hkb
  rw [← hy2] at hzb
  have HK2 := Lib.hid hkb
  have HZ2 := Lib.hid hzb
  clear hkb hzb
  go_upto_region 7 with (fail)
  rw [← hy2, ← hX2, ← hY2]
  clear hy2 hX2 hY2
  have HK12 := Lib.hid (HK1.out.below (below_step (below_step HSw4.out HSw5.out) HZ2.out))
  have HK22 := HK2
  clear HK1 HK2
  have HBy2 := Lib.hid (below_step (below_step (below_step (below_step (below_step (below_step HSw1.out HSw2.out) HSw3.out) HZ1.out) HSw4.out) HSw5.out) HZ2.out)
  have HA2 := Lib.hid (HVV.out.mono HBy2.out)
  obtain ⟨k10, k11, k12, k13, k14, l10, l11, l12, l13⟩ := HK12.out.below (Below.refl _ _)
  obtain ⟨k20, k21, k22, k23, k24, l20, l21, l22, l23⟩ := HK22.out.below (Below.refl _ _)
  go_wp2_with fail
  refine (zero_same _).mono ?_
  rintro e w6 ⟨rfl, hb⟩
  have HSw6 := Lib.hid hb
  clear hb
  clear k10 k11 k12 k13 k14 l10 l11 l12 l13
  clear k20 k21 k22 k23 k24 l20 l21 l22 l23
  obtain ⟨k10, k11, k12, k13, k14, l10, l11, l12, l13⟩ := HK12.out.below HSw6.out
  obtain ⟨k20, k21, k22, k23, k24, l20, l21, l22, l23⟩ := HK22.out.below HSw6.out
  go_wp2_with fail
  refine (zero_same _).mono ?_
  rintro e w7 ⟨rfl, hb⟩
  have HSw7 := Lib.hid hb
  clear hb
  go_wp2
  go_ret
  exact ⟨rfl, below_step HBy2.out (below_step HSw6.out HSw7.out)⟩
set_option maxRecDepth 100000 in
set_option maxHeartbeats 8000000 in
theorem form_big (A : Option Addr) (n cp : Nat) (w : World) (hz : 2097152 < n) : Calls Try.prog 7 #[.slice A n cp] w (TruePost w) := by
  have h1 : decide ((2097152 : Int) < (n : Int)) = true := by simp; omega
  have h2 : decide (2097152 < n) = true := by simp; omega
  clear hz
  go_enter Try.func7, Try.ntmps7
  go_wp2
  go_ret
  exact ⟨rfl, Below.refl _ _⟩
theorem form_law (v : Value) (b : List Int) (w : World) (hv : NumsV w .u8 v b) (hy : Byt b) : Calls Try.prog 7 #[v] w (TruePost w) := by
  have hv' := hv
  obtain ⟨A, cp, rfl, _, _, _⟩ := hv'
  by_cases hz : 2097152 < b.length
  · exact form_big A _ cp w hz
  · cases hp : parse b true with
    | ok c =>
      obtain ⟨hm, hse⟩ := parse_inv hy hp
      by_cases hd : (c.data.length : Int) = c.size
      · exact form_whole A _ cp b w hv hy rfl (by omega) c hm hse hd
      · exact form_short A _ cp b w hv hy rfl (by omega) c hm hse hd
    | error x =>
      cases hp2 : parse b false with
      | ok c =>
        obtain ⟨hm, hse⟩ := parse_inv hy hp2
        rw [← hse, parse_ser hm, if_neg (by simp)] at hp
        cases hp
      | error x2 => exact form_no A _ cp b w hv hy rfl (by omega) x.1 x.2 x2.1 x2.2 hp hp2 (parse_far hy true _ hp) (parse_far hy false _ hp2)
end Go.Proofs.Ytkbboepopcebaaa
