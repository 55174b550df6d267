/- ContainerBack: the walk. -/
import Derived.Test.YtkbboepopcebaaaCJ
import Derived.Test.YtkbboepopcebaaaZ
namespace Go.Proofs.Ytkbboepopcebaaa
open Go.RowKit

/-- A container in its box, which may be written. -/
structure KX (w : World) (X : Nat) (v0 v1 v2 v3 v4 : Value) : Prop where
  c0 : w.cell? ⟨X, 0, none⟩ = some v0
  c1 : w.cell? ⟨X, 1, none⟩ = some v1
  c2 : w.cell? ⟨X, 2, none⟩ = some v2
  c3 : w.cell? ⟨X, 3, none⟩ = some v3
  c4 : w.cell? ⟨X, 4, none⟩ = some v4
  free : ∀ j, w.frozen? ⟨X, j, none⟩ = false
theorem kx_new (w : World) (v0 v1 v2 v3 v4 : Value) : KX (w.alloc (.cells #[v0, v1, v2, v3, v4] 28)) w.heap.size v0 v1 v2 v3 v4 := by
  have hh := heap_alloc_new w (.cells #[v0, v1, v2, v3, v4] 28)
  refine ⟨box1_at w _ 28 0 _ rfl, box1_at w _ 28 1 _ rfl, box1_at w _ 28 2 _ rfl, box1_at w _ 28 3 _ rfl, box1_at w _ 28 4 _ rfl, fun j => ?_⟩
  unfold World.frozen?
  rw [hh]
  rfl
theorem KX.of_block {w w1 : World} {X : Nat} {v0 v1 v2 v3 v4 : Value} (h : KX w X v0 v1 v2 v3 v4) (hb : w1.heap[X]? = w.heap[X]?) : KX w1 X v0 v1 v2 v3 v4 :=
  ⟨(World.cell?_of_block (w := w) hb).trans h.c0, (World.cell?_of_block (w := w) hb).trans h.c1, (World.cell?_of_block (w := w) hb).trans h.c2, (World.cell?_of_block (w := w) hb).trans h.c3, (World.cell?_of_block (w := w) hb).trans h.c4, fun j => (World.frozen?_of_block (w := w) hb).trans (h.free j)⟩
theorem KX.lt {w : World} {X : Nat} {v0 v1 v2 v3 v4 : Value} (h : KX w X v0 v1 v2 v3 v4) : X < w.heap.size := World.block_lt_of_cell? w _ h.c0
theorem KX.below {w w1 : World} {X : Nat} {v0 v1 v2 v3 v4 : Value} (h : KX w X v0 v1 v2 v3 v4) (hb : Below w.heap.size w w1) : KX w1 X v0 v1 v2 v3 v4 := h.of_block (hb.block _ h.lt)
abbrev setX (y : World) (C : Nat) (v0 v1 v2 v3 v4 : Value) : World := ((((y.setCell ⟨C, 0, none⟩ v0).setCell ⟨C, 1, none⟩ v1).setCell ⟨C, 2, none⟩ v2).setCell ⟨C, 3, none⟩ v3).setCell ⟨C, 4, none⟩ v4
theorem grown_setX (y : World) (C : Nat) (v0 v1 v2 v3 v4 : Value) : y.grownBy (setX y C v0 v1 v2 v3 v4) (some C) :=
  grown_trans (grown_trans (grown_trans (grown_trans (grown_setCell _ C 0 v0) (grown_setCell _ C 1 v1)) (grown_setCell _ C 2 v2)) (grown_setCell _ C 3 v3)) (grown_setCell _ C 4 v4)
theorem KX.set {w : World} {E : Nat} {u0 u1 u2 u3 u4 : Value} (h : KX w E u0 u1 u2 u3 u4) (v0 v1 v2 v3 v4 : Value) : KX (setX w E v0 v1 v2 v3 v4) E v0 v1 v2 v3 v4 := by
  have n : ∀ (W : World) (i j : Nat) (v : Value), i ≠ j → (W.setCell ⟨E, i, none⟩ v).cell? ⟨E, j, none⟩ = W.cell? ⟨E, j, none⟩ := fun W i j v hij => World.cell?_setCell_other _ _ _ _ (by first | (simp; omega) | (simp [hij]))
  have s0 : (w.setCell ⟨E, 0, none⟩ v0).cell? ⟨E, 0, none⟩ = some v0 := World.cell?_setCell_same _ _ _ h.c0
  have s1 : ((w.setCell ⟨E, 0, none⟩ v0).setCell ⟨E, 1, none⟩ v1).cell? ⟨E, 1, none⟩ = some v1 := World.cell?_setCell_same _ _ _ (by rw [n _ 0 1 _ (by omega)]; exact h.c1)
  have s2 : (((w.setCell ⟨E, 0, none⟩ v0).setCell ⟨E, 1, none⟩ v1).setCell ⟨E, 2, none⟩ v2).cell? ⟨E, 2, none⟩ = some v2 := World.cell?_setCell_same _ _ _ (by rw [n _ 1 2 _ (by omega), n _ 0 2 _ (by omega)]; exact h.c2)
  have s3 : ((((w.setCell ⟨E, 0, none⟩ v0).setCell ⟨E, 1, none⟩ v1).setCell ⟨E, 2, none⟩ v2).setCell ⟨E, 3, none⟩ v3).cell? ⟨E, 3, none⟩ = some v3 := World.cell?_setCell_same _ _ _ (by rw [n _ 2 3 _ (by omega), n _ 1 3 _ (by omega), n _ 0 3 _ (by omega)]; exact h.c3)
  have s4 : (setX w E v0 v1 v2 v3 v4).cell? ⟨E, 4, none⟩ = some v4 := World.cell?_setCell_same _ _ _ (by rw [n _ 3 4 _ (by omega), n _ 2 4 _ (by omega), n _ 1 4 _ (by omega), n _ 0 4 _ (by omega)]; exact h.c4)
  refine ⟨?_, ?_, ?_, ?_, s4, fun j => by rw [World.frozen?_setCell, World.frozen?_setCell, World.frozen?_setCell, World.frozen?_setCell, World.frozen?_setCell]; exact h.free j⟩
  · rw [n _ 4 0 _ (by omega), n _ 3 0 _ (by omega), n _ 2 0 _ (by omega), n _ 1 0 _ (by omega)]; exact s0
  · rw [n _ 4 1 _ (by omega), n _ 3 1 _ (by omega), n _ 2 1 _ (by omega)]; exact s1
  · rw [n _ 4 2 _ (by omega), n _ 3 2 _ (by omega)]; exact s2
  · rw [n _ 4 3 _ (by omega)]; exact s3
theorem PContV.otherK {w w1 : World} {B g : Nat} {v : Value} {c : Cont} (h : PContV w B v c) (hg : w.grownBy w1 (some g)) (hB : g < B) : PContV w1 B v c := by
  obtain ⟨T, C, S, D, rfl, hT, hC, hS, hD⟩ := h.form
  exact ⟨T, C, S, D, rfl, own_other hT hg (.inr fun e => by have := own_ge hT g e; omega), hC.other hg hB, hS.other hg hB, own_other hD hg (.inr fun e => by have := own_ge hD g e; omega)⟩
/-- Of a container that may not be: no bytes, no size. -/
theorem ser_none (v : Value) (c : Cont) (w : World) (h : ContV w v c) (hm : ¬ checkErr c = 0) : Calls Try.prog 25 #[v] w fun e w' => (∃ A cc, e = .returned (.tuple #[.slice A 0 cc, .int .i64 (checkErr c)])) ∧ Below w.heap.size w w' := by
  refine (ser_any v c w h).mono ?_
  rintro e w' ⟨v', rfl, ho, hb⟩
  rw [serR, if_neg hm] at ho
  obtain ⟨A, cc, e, _⟩ := own_shape ho
  subst e
  exact ⟨⟨A, cc, rfl⟩, hb⟩
theorem size_none (v : Value) (c : Cont) (w : World) (h : ContV w v c) (hm : ¬ checkErr c = 0) : Calls Try.prog 26 #[v] w fun e w' => e = .returned (.tuple #[.int .i64 0, .int .i64 (checkErr c)]) ∧ Below w.heap.size w w' := by
  refine (size_any v c w h).mono ?_
  rintro e w' ⟨rfl, hb⟩
  rw [sizeN, if_neg hm]
  exact ⟨rfl, hb⟩

set_option maxRecDepth 100000 in
set_option maxHeartbeats 16000000 in
theorem back_any (v : Value) (c : Cont) (w : World) (h : ContV w v c) (hok : ContOk c) :
    Calls Try.prog 6 #[v] w (TruePost w) := by
  obtain ⟨vt, vc, vs, vd, rfl, ⟨A0, c0, rfl, i1, i2, hr0, ht⟩, ⟨A1, c1, rfl, j1, j2, hc⟩, ⟨A2, c2, rfl, k1, k2, hs⟩, ⟨A3, c3, rfl, l1, l2, hd⟩⟩ := h
  have hcv : ContV w (.agg #[.slice A0 c.types.length c0, .slice A1 c.codes.length c1, .slice A2 c.subs.length c2, .slice A3 c.data.length c3, .int .i64 c.size]) c := ⟨_, _, _, _, rfl, ⟨A0, c0, rfl, i1, i2, hr0, ht⟩, ⟨A1, c1, rfl, j1, j2, hc⟩, ⟨A2, c2, rfl, k1, k2, hs⟩, ⟨A3, c3, rfl, l1, l2, hd⟩⟩
  clear i1 i2 hr0 ht j1 j2 hc k1 k2 hs l1 l2 hd
  obtain ⟨n0, h0⟩ : ∃ n0, n0 = c.types.length := ⟨_, rfl⟩
  obtain ⟨n1, h1⟩ : ∃ n1, n1 = c.codes.length := ⟨_, rfl⟩
  obtain ⟨n2, h2⟩ : ∃ n2, n2 = c.subs.length := ⟨_, rfl⟩
  obtain ⟨n3, h3⟩ : ∃ n3, n3 = c.data.length := ⟨_, rfl⟩
  obtain ⟨s, h4⟩ : ∃ s, s = c.size := ⟨_, rfl⟩
  rw [← h0, ← h1, ← h2, ← h3, ← h4] at hcv ⊢
  have HN0 := Lib.hid h0
  have HN1 := Lib.hid h1
  have HN2 := Lib.hid h2
  have HN3 := Lib.hid h3
  have HSZ := Lib.hid h4
  have HCV0 := Lib.hid hcv
  have HOK := Lib.hid hok
  clear h0 h1 h2 h3 h4 hcv hok
  go_enter Try.func6, Try.ntmps6
  have hkb := kc_new w (.slice A0 n0 c0) (.slice A1 n1 c1) (.slice A2 n2 c2) (.slice A3 n3 c3) (.int .i64 s)
  have hzb : Below w.heap.size w (w.alloc (.cells #[.slice A0 n0 c0, .slice A1 n1 c1, .slice A2 n2 c2, .slice A3 n3 c3, .int .i64 s] 28)) := below_alloc _ _
  obtain ⟨y0, hy0⟩ : ∃ y0, y0 = (w.alloc (.cells #[.slice A0 n0 c0, .slice A1 n1 c1, .slice A2 n2 c2, .slice A3 n3 c3, .int .i64 s] 28)) := ⟨_, rfl⟩
  obtain ⟨X0, hX0⟩ : ∃ X0, X0 = w.heap.size := ⟨_, rfl⟩
  rw [← hy0, ← hX0] at hkb
  rw [← hy0] at hzb
  have HK0 := Lib.hid hkb
  have HZ0 := Lib.hid hzb
  have HCV := Lib.hid (HCV0.out.mono hzb)
  clear hkb hzb HCV0
  go_wp2_with fail
  rw [← hy0, ← hX0]
  clear hy0 hX0
  refine (weight_any _ c _ HCV.out).mono ?_
  rintro e w1 ⟨r, rfl, hr, hb⟩
  have HSw1 := Lib.hid hb
  have HR := Lib.hid hr
  clear hb hr
  by_cases hq : (2097152 : Int) < r
  · clear HR
    obtain ⟨k00, k01, k02, k03, k04⟩ := HK0.out.below HSw1.out
    go_wp2
    go_ret
    exact ⟨rfl, (below_step HZ0.out HSw1.out)⟩
  have HSM : Hid (Small c) := Lib.hid (HR.out (by omega))
  clear HR
  have HF : Hid (Fits c) := Lib.hid HSM.out.fits
  have HABLE : ∀ W, Calls Try.prog 14 #[] W (TruePost W) := able_any
  have HAB := Lib.hid HABLE
  clear HABLE
  go_wp2_with fail
  refine (HAB.out _).mono ?_
  rintro e w2 ⟨rfl, hb⟩
  have HSw2 := Lib.hid hb
  clear hb
  clear hq
  obtain ⟨k00, k01, k02, k03, k04⟩ := HK0.out.below (below_step HSw1.out HSw2.out)
  go_wp2_with fail
  refine (may_any _ c _ (HCV.out.mono (below_step HSw1.out HSw2.out))).mono ?_
  rintro e w3 ⟨rfl, hb⟩
  have HSw3 := Lib.hid hb
  clear hb
  clear k00 k01 k02 k03 k04
  by_cases hmay : ¬ checkErr c = 0
  · have q1 : decide (checkErr c = 0) = false := by simp [hmay]
    rw [q1]
    have HNM := Lib.hid hmay
    clear q1 hmay
    obtain ⟨e1, he1⟩ : ∃ e1, e1 = checkErr c := ⟨_, rfl⟩
    have HE1 : Hid (e1 = checkErr c) := Lib.hid he1
    have hne : (e1 == 0) = false := by rw [he1]; simpa using HNM.out
    clear he1
    have HCHK : Hid (∀ W v, ContV W v c → Calls Try.prog 18 #[v] W fun e w' => e = .returned (.int .i64 e1) ∧ Below W.heap.size W w') := by rw [HE1.out]; exact Lib.hid fun W v h => check_any v c W h
    have HSER : Hid (∀ W v, ContV W v c → Calls Try.prog 25 #[v] W fun e w' => (∃ A cc, e = .returned (.tuple #[.slice A 0 cc, .int .i64 e1])) ∧ Below W.heap.size W w') := by rw [HE1.out]; exact Lib.hid fun W v h => ser_none v c W h HNM.out
    have HSIZE : Hid (∀ W v, ContV W v c → Calls Try.prog 26 #[v] W fun e w' => e = .returned (.tuple #[.int .i64 0, .int .i64 e1]) ∧ Below W.heap.size W w') := by rw [HE1.out]; exact Lib.hid fun W v h => size_none v c W h HNM.out
    obtain ⟨k00, k01, k02, k03, k04⟩ := HK0.out.below (below_step (below_step HSw1.out HSw2.out) HSw3.out)
    go_wp2_with fail
    refine (twin_c _ c _ (HCV.out.mono (below_step (below_step HSw1.out HSw2.out) HSw3.out)) HF.out).mono ?_
    rintro e w4 ⟨v3, rfl, hv, hb⟩
    have HSw4 := Lib.hid hb
    clear hb
    have HV3 := Lib.hid hv
    clear hv
    clear k00 k01 k02 k03 k04
    obtain ⟨k00, k01, k02, k03, k04⟩ := HK0.out.below (below_step (below_step (below_step HSw1.out HSw2.out) HSw3.out) HSw4.out)
    go_wp2_with fail
    refine (HCHK.out _ _ HV3.out).mono ?_
    rintro e w5 ⟨rfl, hb⟩
    have HSw5 := Lib.hid hb
    clear hb
    clear k00 k01 k02 k03 k04
    obtain ⟨k00, k01, k02, k03, k04⟩ := HK0.out.below (below_step (below_step (below_step (below_step HSw1.out HSw2.out) HSw3.out) HSw4.out) HSw5.out)
    go_wp2_with fail
    refine (twin_c _ c _ (HCV.out.mono (below_step (below_step (below_step (below_step HSw1.out HSw2.out) HSw3.out) HSw4.out) HSw5.out)) HF.out).mono ?_
    rintro e w6 ⟨v4, rfl, hv, hb⟩
    have HSw6 := Lib.hid hb
    clear hb
    have HV4 := Lib.hid hv
    clear hv
    clear k00 k01 k02 k03 k04
    obtain ⟨k00, k01, k02, k03, k04⟩ := HK0.out.below (below_step (below_step (below_step (below_step (below_step HSw1.out HSw2.out) HSw3.out) HSw4.out) HSw5.out) HSw6.out)
    go_wp2_with fail
    refine (HSER.out _ _ HV4.out).mono ?_
    rintro e w7 ⟨⟨A4, c4, rfl⟩, hb⟩
    have HSw7 := Lib.hid hb
    clear hb
    clear k00 k01 k02 k03 k04
    obtain ⟨k00, k01, k02, k03, k04⟩ := HK0.out.below (below_step (below_step (below_step (below_step (below_step (below_step HSw1.out HSw2.out) HSw3.out) HSw4.out) HSw5.out) HSw6.out) HSw7.out)
    go_wp2_with fail
    refine (twin_c _ c _ (HCV.out.mono (below_step (below_step (below_step (below_step (below_step (below_step HSw1.out HSw2.out) HSw3.out) HSw4.out) HSw5.out) HSw6.out) HSw7.out)) HF.out).mono ?_
    rintro e w8 ⟨v5, rfl, hv, hb⟩
    have HSw8 := Lib.hid hb
    clear hb
    have HV5 := Lib.hid hv
    clear hv
    clear k00 k01 k02 k03 k04
    obtain ⟨k00, k01, k02, k03, k04⟩ := HK0.out.below (below_step (below_step (below_step (below_step (below_step (below_step (below_step HSw1.out HSw2.out) HSw3.out) HSw4.out) HSw5.out) HSw6.out) HSw7.out) HSw8.out)
    go_wp2_with fail
    refine (HSIZE.out _ _ HV5.out).mono ?_
    rintro e w9 ⟨rfl, hb⟩
    have HSw9 := Lib.hid hb
    clear hb
    clear k00 k01 k02 k03 k04
    obtain ⟨k00, k01, k02, k03, k04⟩ := HK0.out.below (below_step (below_step (below_step (below_step (below_step (below_step (below_step (below_step HSw1.out HSw2.out) HSw3.out) HSw4.out) HSw5.out) HSw6.out) HSw7.out) HSw8.out) HSw9.out)
    go_wp2
    go_ret
    exact ⟨rfl, (below_step (below_step (below_step (below_step (below_step (below_step (below_step (below_step (below_step HZ0.out HSw1.out) HSw2.out) HSw3.out) HSw4.out) HSw5.out) HSw6.out) HSw7.out) HSw8.out) HSw9.out)⟩
  have q1 : decide (checkErr c = 0) = true := by simpa using hmay
  rw [q1]
  have HMY : Hid (May c) := Lib.hid (may_of c (by simpa using hmay))
  clear q1 hmay
  obtain ⟨b, hb⟩ : ∃ b, b = serB c := ⟨_, rfl⟩
  obtain ⟨N, hN⟩ : ∃ N, N = b.length := ⟨_, rfl⟩
  have hbig : N ≤ 2200000 := by rw [hN, hb]; exact small_len HMY.out HSM.out
  have hyb : Byt b := by rw [hb]; exact byt_ser HOK.out
  have hr : N ≤ reach := by unfold reach; omega
  have HCHK : Hid (∀ W v, ContV W v c → Calls Try.prog 18 #[v] W fun e w' => e = .returned (.int .i64 0) ∧ Below W.heap.size W w') := Lib.hid fun W v h => check_c v c W h HMY.out
  have HSER : Hid (∀ W v, ContV W v c → Calls Try.prog 25 #[v] W (SerC b N W)) := Lib.hid fun W v h => by
    have := ser_c v c N W h HMY.out (by rw [hN, hb]) hr
    rwa [← hb] at this
  have HSIZE : Hid (∀ W v, ContV W v c → Calls Try.prog 26 #[v] W fun e w' => e = .returned (.tuple #[.int .i64 N, .int .i64 0]) ∧ Below W.heap.size W w') := Lib.hid fun W v h => size_c v c N W h HMY.out (by rw [hN, hb])
  have HBYT : Hid (∀ W v, ContV W v c → Calls Try.prog 28 #[v] W (OwnPost b N W)) := Lib.hid fun W v h => by
    have := bytes_c v c N W h HMY.out (by rw [hN, hb]) hr
    rwa [← hb] at this
  have hp1 : parse b true = .ok c := by rw [hb, parse_ser HMY.out, if_neg (by simp)]
  have HP1 : Hid (∀ W A' c', NumsV W .u8 (.slice A' N c') b → Calls Try.prog 29 #[.slice A' N c', .bool true] W (OkPost c n0 n1 n2 n3 s W)) := Lib.hid fun W A' c' h => parse_okc HN0.out HN1.out HN2.out HN3.out HSZ.out hp1 A' N c' W h hyb hN.symm
  have HPW : Hid ((c.data.length : Int) = c.size → ∀ W A' c', NumsV W .u8 (.slice A' N c') b → Calls Try.prog 29 #[.slice A' N c', .bool false] W (OkPost c n0 n1 n2 n3 s W)) := Lib.hid fun hd W A' c' h => parse_okc HN0.out HN1.out HN2.out HN3.out HSZ.out (by rw [hb, parse_ser HMY.out, if_neg (by omega)]) A' N c' W h hyb hN.symm
  have HPS : Hid ((c.data.length : Int) < c.size → ∀ W A' c', NumsV W .u8 (.slice A' N c') b → Calls Try.prog 29 #[.slice A' N c', .bool false] W (NoPost 50 N W)) := Lib.hid fun hd W A' c' h => by
    have e : parse b false = .error (50, (N : Int)) := by rw [hN, hb, parse_ser HMY.out, if_pos ⟨rfl, hd⟩]
    exact parse_noc e A' N c' W h hyb hN.symm
  have HNB := Lib.hid hN
  clear hb hbig hyb hr hp1 hN
  obtain ⟨k00, k01, k02, k03, k04⟩ := HK0.out.below (below_step (below_step HSw1.out HSw2.out) HSw3.out)
  go_wp2_with fail
  refine (twin_c _ c _ (HCV.out.mono (below_step (below_step HSw1.out HSw2.out) HSw3.out)) HF.out).mono ?_
  rintro e w10 ⟨v3, rfl, hv, hb⟩
  have HSw10 := Lib.hid hb
  clear hb
  have HV3 := Lib.hid hv
  clear hv
  clear k00 k01 k02 k03 k04
  obtain ⟨k00, k01, k02, k03, k04⟩ := HK0.out.below (below_step (below_step (below_step HSw1.out HSw2.out) HSw3.out) HSw10.out)
  go_wp2_with fail
  refine (HCHK.out _ _ HV3.out).mono ?_
  rintro e w11 ⟨rfl, hb⟩
  have HSw11 := Lib.hid hb
  clear hb
  clear k00 k01 k02 k03 k04
  obtain ⟨k00, k01, k02, k03, k04⟩ := HK0.out.below (below_step (below_step (below_step (below_step HSw1.out HSw2.out) HSw3.out) HSw10.out) HSw11.out)
  go_wp2_with fail
  refine (twin_c _ c _ (HCV.out.mono (below_step (below_step (below_step (below_step HSw1.out HSw2.out) HSw3.out) HSw10.out) HSw11.out)) HF.out).mono ?_
  rintro e w12 ⟨v4, rfl, hv, hb⟩
  have HSw12 := Lib.hid hb
  clear hb
  have HV4 := Lib.hid hv
  clear hv
  clear k00 k01 k02 k03 k04
  obtain ⟨k00, k01, k02, k03, k04⟩ := HK0.out.below (below_step (below_step (below_step (below_step (below_step HSw1.out HSw2.out) HSw3.out) HSw10.out) HSw11.out) HSw12.out)
  go_wp2_with fail
  refine (HSER.out _ _ HV4.out).mono ?_
  rintro e w13 ⟨A4, c4, rfl, hn4, hb⟩
  have HSw13 := Lib.hid hb
  clear hb
  have HN4 := Lib.hid hn4
  clear hn4
  clear k00 k01 k02 k03 k04
  obtain ⟨k00, k01, k02, k03, k04⟩ := HK0.out.below (below_step (below_step (below_step (below_step (below_step (below_step HSw1.out HSw2.out) HSw3.out) HSw10.out) HSw11.out) HSw12.out) HSw13.out)
  go_wp2_with fail
  refine (twin_c _ c _ (HCV.out.mono (below_step (below_step (below_step (below_step (below_step (below_step HSw1.out HSw2.out) HSw3.out) HSw10.out) HSw11.out) HSw12.out) HSw13.out)) HF.out).mono ?_
  rintro e w14 ⟨v5, rfl, hv, hb⟩
  have HSw14 := Lib.hid hb
  clear hb
  have HV5 := Lib.hid hv
  clear hv
  clear k00 k01 k02 k03 k04
  obtain ⟨k00, k01, k02, k03, k04⟩ := HK0.out.below (below_step (below_step (below_step (below_step (below_step (below_step (below_step HSw1.out HSw2.out) HSw3.out) HSw10.out) HSw11.out) HSw12.out) HSw13.out) HSw14.out)
  go_wp2_with fail
  refine (HSIZE.out _ _ HV5.out).mono ?_
  rintro e w15 ⟨rfl, hb⟩
  have HSw15 := Lib.hid hb
  clear hb
  clear k00 k01 k02 k03 k04
  obtain ⟨k00, k01, k02, k03, k04⟩ := HK0.out.below (below_step (below_step (below_step (below_step (below_step (below_step (below_step (below_step HSw1.out HSw2.out) HSw3.out) HSw10.out) HSw11.out) HSw12.out) HSw13.out) HSw14.out) HSw15.out)
  go_wp2_with fail
  refine (HBYT.out _ _ (HCV.out.mono (below_step (below_step (below_step (below_step (below_step (below_step (below_step (below_step HSw1.out HSw2.out) HSw3.out) HSw10.out) HSw11.out) HSw12.out) HSw13.out) HSw14.out) HSw15.out))).mono ?_
  rintro e w16 ⟨A5, c5, rfl, hn5, hb⟩
  have HSw16 := Lib.hid hb
  clear hb
  have HN5 := Lib.hid hn5
  clear hn5
  go_wp2_with fail
  refine (sb_c _ _ _ _ N b _ (HN4.out.mono (below_step (below_step HSw14.out HSw15.out) HSw16.out)) HN5.out).mono ?_
  rintro e w17 ⟨rfl, hb⟩
  have HSw17 := Lib.hid hb
  clear hb
  clear k00 k01 k02 k03 k04
  go_wp2_with fail
  refine (own_sl _ b N _ (HN4.out.mono (below_step (below_step (below_step HSw14.out HSw15.out) HSw16.out) HSw17.out)) HNB.out.symm).mono ?_
  rintro e w18 ⟨A6, c6, rfl, hn6, hb⟩
  have HSw18 := Lib.hid hb
  clear hb
  have HN6 := Lib.hid hn6
  clear hn6
  go_wp2_with fail
  refine (HP1.out _ _ _ HN6.out).mono ?_
  rintro e w19 ⟨A10, c10, A11, c11, A12, c12, A13, c13, rfl, hp, hb⟩
  have HSw19 := Lib.hid hb
  clear hb
  have hzz : (w19.alloc (.cells #[.slice A10 n0 c10, .slice A11 n1 c11, .slice A12 n2 c12, .slice A13 n3 c13, .int .i64 s] 28)).heap.size = w19.heap.size + 1 := by simp
  have hkx := (kx_new w19 (.slice A10 n0 c10) (.slice A11 n1 c11) (.slice A12 n2 c12) (.slice A13 n3 c13) (.int .i64 s)).below (below_alloc _ (.cells #[.int .i64 0, .slice none 0 0, .int .i64 0, .int .i64 0] 43))
  have hke := ke_new (w19.alloc (.cells #[.slice A10 n0 c10, .slice A11 n1 c11, .slice A12 n2 c12, .slice A13 n3 c13, .int .i64 s] 28)) 0 0
  rw [hzz] at hke
  have hzb : Below w19.heap.size w19 ((w19.alloc (.cells #[.slice A10 n0 c10, .slice A11 n1 c11, .slice A12 n2 c12, .slice A13 n3 c13, .int .i64 s] 28)).alloc (.cells #[.int .i64 0, .slice none 0 0, .int .i64 0, .int .i64 0] 43)) := below_step (below_alloc _ _) (below_alloc _ _)
  have hpc := hp.belowK hzb
  obtain ⟨y1, hy1⟩ : ∃ y1, y1 = ((w19.alloc (.cells #[.slice A10 n0 c10, .slice A11 n1 c11, .slice A12 n2 c12, .slice A13 n3 c13, .int .i64 s] 28)).alloc (.cells #[.int .i64 0, .slice none 0 0, .int .i64 0, .int .i64 0] 43)) := ⟨_, rfl⟩
  obtain ⟨X1, hX1⟩ : ∃ X1, X1 = w19.heap.size := ⟨_, rfl⟩
  obtain ⟨Y1, hY1⟩ : ∃ Y1, Y1 = X1 + 1 := ⟨_, rfl⟩
  have HXW : Hid (y0.heap.size ≤ X1) := Lib.hid (by rw [hX1]; exact ((below_step (below_step (below_step (below_step (below_step (below_step (below_step (below_step (below_step (below_step (below_step (below_step HSw1.out HSw2.out) HSw3.out) HSw10.out) HSw11.out) HSw12.out) HSw13.out) HSw14.out) HSw15.out) HSw16.out) HSw17.out) HSw18.out) HSw19.out)).size)
  have HYX : Hid (Y1 = X1 + 1) := Lib.hid hY1
  rw [← hy1, ← hX1] at hkx
  rw [← hy1, ← hX1, ← hY1] at hke
  rw [← hy1] at hzb hpc
  have HKX := Lib.hid hkx
  have HKE := Lib.hid hke
  have HZ1 := Lib.hid hzb
  have HV1 := Lib.hid (hpc.read HF.out)
  clear hke hkx hzb hzz hp hpc
  go_upto_region 16 with (fail)
  rw [← hy1, ← hX1, ← hY1]
  clear hy1 hX1 hY1
  obtain ⟨k10, k11, k12, k13, k14, f1⟩ := HKX.out
  obtain ⟨e0, e1, e2, e3, fE⟩ := HKE.out
  obtain ⟨k00, k01, k02, k03, k04⟩ := HK0.out.below (below_step (below_step (below_step (below_step (below_step (below_step (below_step (below_step (below_step (below_step (below_step (below_step (below_step HSw1.out HSw2.out) HSw3.out) HSw10.out) HSw11.out) HSw12.out) HSw13.out) HSw14.out) HSw15.out) HSw16.out) HSw17.out) HSw18.out) HSw19.out) HZ1.out)
  go_wp2_with fail
  refine (same_c HV1.out (HCV.out.mono (below_step (below_step (below_step (below_step (below_step (below_step (below_step (below_step (below_step (below_step (below_step (below_step (below_step HSw1.out HSw2.out) HSw3.out) HSw10.out) HSw11.out) HSw12.out) HSw13.out) HSw14.out) HSw15.out) HSw16.out) HSw17.out) HSw18.out) HSw19.out) HZ1.out))).mono ?_
  rintro e w20 ⟨rfl, hb⟩
  have HSw20 := Lib.hid hb
  clear hb
  clear k10 k11 k12 k13 k14 f1 e0 e1 e2 e3 fE
  clear k00 k01 k02 k03 k04
  go_wp2_with fail
  refine (own_sl _ b N _ (HN4.out.mono (below_step (below_step (below_step (below_step (below_step (below_step (below_step HSw14.out HSw15.out) HSw16.out) HSw17.out) HSw18.out) HSw19.out) HZ1.out) HSw20.out)) HNB.out.symm).mono ?_
  rintro e w21 ⟨A7, c7, rfl, hn7, hb⟩
  have HSw21 := Lib.hid hb
  clear hb
  have HN7 := Lib.hid hn7
  clear hn7
  by_cases hd : (n3 : Int) < s

  · skip
    have HD : Hid ((c.data.length : Int) < c.size) := Lib.hid (by rw [← HN3.out, ← HSZ.out]; exact hd)
    go_wp2_with fail
    refine (HPS.out HD.out _ _ _ HN7.out).mono ?_
    rintro e w22 ⟨rfl, hb⟩
    have HSw22 := Lib.hid hb
    clear hb
    have hx1 := HKX.out.below (below_step (below_step HSw20.out HSw21.out) HSw22.out)
    have hx2 := HKE.out.below (below_step (below_step HSw20.out HSw21.out) HSw22.out)
    obtain ⟨k10, k11, k12, k13, k14, f1⟩ := hx1
    obtain ⟨e0, e1, e2, e3, fE⟩ := hx2
    have hne1 : ¬ X1 = Y1 := by have := HYX.out; omega
    have hne2 : ¬ Y1 = X1 := by have := HYX.out; omega
    obtain ⟨ya, hya⟩ : ∃ ya, ya = (((((w22.setCell ⟨X1, 0, none⟩ (.slice none 0 0)).setCell ⟨X1, 1, none⟩ (.slice none 0 0)).setCell ⟨X1, 2, none⟩ (.slice none 0 0)).setCell ⟨X1, 3, none⟩ (.slice none 0 0)).setCell ⟨X1, 4, none⟩ (.int .i64 0)) := ⟨_, rfl⟩
    have hyA : ya = setX w22 X1 (.slice none 0 0) (.slice none 0 0) (.slice none 0 0) (.slice none 0 0) (.int .i64 0) := hya
    have ha1 := (HKX.out.below (below_step (below_step HSw20.out HSw21.out) HSw22.out)).set (.slice none 0 0) (.slice none 0 0) (.slice none 0 0) (.slice none 0 0) (.int .i64 0)
    have hga := grown_setX w22 X1 (.slice none 0 0) (.slice none 0 0) (.slice none 0 0) (.slice none 0 0) (.int .i64 0)
    rw [← hyA] at ha1 hga
    have hea := (HKE.out.below (below_step (below_step HSw20.out HSw21.out) HSw22.out)).of_block (hga.block Y1 (HKE.out.below (below_step (below_step HSw20.out HSw21.out) HSw22.out)).lt (by simpa using hne2))
    obtain ⟨y2, hy2⟩ : ∃ y2, y2 = (((((((((w22.setCell ⟨X1, 0, none⟩ (.slice none 0 0)).setCell ⟨X1, 1, none⟩ (.slice none 0 0)).setCell ⟨X1, 2, none⟩ (.slice none 0 0)).setCell ⟨X1, 3, none⟩ (.slice none 0 0)).setCell ⟨X1, 4, none⟩ (.int .i64 0)).setCell ⟨Y1, 0, none⟩ (.int .i64 50)).setCell ⟨Y1, 1, none⟩ (.slice none 0 0)).setCell ⟨Y1, 2, none⟩ (.int .i64 0)).setCell ⟨Y1, 3, none⟩ (.int .i64 N)) := ⟨_, rfl⟩
    have hy2' := hy2
    rw [← hya] at hy2'
    have hyB : y2 = setE ya Y1 (.int .i64 50) (.slice none 0 0) (.int .i64 0) (.int .i64 N) := hy2'
    have hb1 := hea.set 50 N
    have hgb := grown_setE ya Y1 (.int .i64 50) (.slice none 0 0) (.int .i64 0) (.int .i64 N)
    rw [← hyB] at hb1 hgb
    have hxb := ha1.of_block (hgb.block X1 ha1.lt (by simpa using hne1))
    have HKX2 := Lib.hid hxb
    have HKE2 := Lib.hid hb1
    have hb0 : Below y0.heap.size y0 w22 := (below_step (below_step (below_step (below_step (below_step (below_step (below_step (below_step (below_step (below_step (below_step (below_step (below_step (below_step (below_step (below_step HSw1.out HSw2.out) HSw3.out) HSw10.out) HSw11.out) HSw12.out) HSw13.out) HSw14.out) HSw15.out) HSw16.out) HSw17.out) HSw18.out) HSw19.out) HZ1.out) HSw20.out) HSw21.out) HSw22.out)
    have hbA := hb0.grown hga hb0.size (by rintro k ⟨⟩; exact HXW.out)
    have hbB := hbA.grown hgb hbA.size (by rintro k ⟨⟩; have := HXW.out; have := HYX.out; omega)
    have HBY2 : Hid (Below y0.heap.size y0 y2) := Lib.hid hbB
    clear ha1 hga hea hb1 hgb hxb hb0 hbA hbB hyA hyB hy2' hya
    go_upto_region 19 with (fail)
    rw [← hy2]
    clear hy2 k10 k11 k12 k13 k14 f1 e0 e1 e2 e3 fE hne1 hne2
    obtain ⟨k10, k11, k12, k13, k14, f1⟩ := HKX2.out
    obtain ⟨e0, e1, e2, e3, fE⟩ := HKE2.out
    obtain ⟨k00, k01, k02, k03, k04⟩ := HK0.out.below HBY2.out
    go_wp2
    go_ret
    exact ⟨rfl, (below_step HZ0.out HBY2.out)⟩
  have HD : Hid ((c.data.length : Int) = c.size) := Lib.hid (by have := HMY.out.data; rw [← HN3.out, ← HSZ.out] at this ⊢; omega)
  go_wp2_with fail
  refine (HPW.out HD.out _ _ _ HN7.out).mono ?_
  rintro e w22 ⟨A20, c20, A21, c21, A22, c22, A23, c23, rfl, hp, hb⟩
  have HSw22 := Lib.hid hb
  clear hb
  have hx1 := HKX.out.below (below_step (below_step HSw20.out HSw21.out) HSw22.out)
  have hx2 := HKE.out.below (below_step (below_step HSw20.out HSw21.out) HSw22.out)
  obtain ⟨k10, k11, k12, k13, k14, f1⟩ := hx1
  obtain ⟨e0, e1, e2, e3, fE⟩ := hx2
  have hne1 : ¬ X1 = Y1 := by have := HYX.out; omega
  have hne2 : ¬ Y1 = X1 := by have := HYX.out; omega
  obtain ⟨ya, hya⟩ : ∃ ya, ya = (((((w22.setCell ⟨X1, 0, none⟩ (.slice A20 n0 c20)).setCell ⟨X1, 1, none⟩ (.slice A21 n1 c21)).setCell ⟨X1, 2, none⟩ (.slice A22 n2 c22)).setCell ⟨X1, 3, none⟩ (.slice A23 n3 c23)).setCell ⟨X1, 4, none⟩ (.int .i64 s)) := ⟨_, rfl⟩
  have hyA : ya = setX w22 X1 (.slice A20 n0 c20) (.slice A21 n1 c21) (.slice A22 n2 c22) (.slice A23 n3 c23) (.int .i64 s) := hya
  have ha1 := (HKX.out.below (below_step (below_step HSw20.out HSw21.out) HSw22.out)).set (.slice A20 n0 c20) (.slice A21 n1 c21) (.slice A22 n2 c22) (.slice A23 n3 c23) (.int .i64 s)
  have hga := grown_setX w22 X1 (.slice A20 n0 c20) (.slice A21 n1 c21) (.slice A22 n2 c22) (.slice A23 n3 c23) (.int .i64 s)
  rw [← hyA] at ha1 hga
  have hea := (HKE.out.below (below_step (below_step HSw20.out HSw21.out) HSw22.out)).of_block (hga.block Y1 (HKE.out.below (below_step (below_step HSw20.out HSw21.out) HSw22.out)).lt (by simpa using hne2))
  obtain ⟨y2, hy2⟩ : ∃ y2, y2 = (((((((((w22.setCell ⟨X1, 0, none⟩ (.slice A20 n0 c20)).setCell ⟨X1, 1, none⟩ (.slice A21 n1 c21)).setCell ⟨X1, 2, none⟩ (.slice A22 n2 c22)).setCell ⟨X1, 3, none⟩ (.slice A23 n3 c23)).setCell ⟨X1, 4, none⟩ (.int .i64 s)).setCell ⟨Y1, 0, none⟩ (.int .i64 0)).setCell ⟨Y1, 1, none⟩ (.slice none 0 0)).setCell ⟨Y1, 2, none⟩ (.int .i64 0)).setCell ⟨Y1, 3, none⟩ (.int .i64 0)) := ⟨_, rfl⟩
  have hy2' := hy2
  rw [← hya] at hy2'
  have hyB : y2 = setE ya Y1 (.int .i64 0) (.slice none 0 0) (.int .i64 0) (.int .i64 0) := hy2'
  have hb1 := hea.set 0 0
  have hgb := grown_setE ya Y1 (.int .i64 0) (.slice none 0 0) (.int .i64 0) (.int .i64 0)
  rw [← hyB] at hb1 hgb
  have hxb := ha1.of_block (hgb.block X1 ha1.lt (by simpa using hne1))
  have HKX2 := Lib.hid hxb
  have HKE2 := Lib.hid hb1
  have hb0 : Below y0.heap.size y0 w22 := (below_step (below_step (below_step (below_step (below_step (below_step (below_step (below_step (below_step (below_step (below_step (below_step (below_step (below_step (below_step (below_step HSw1.out HSw2.out) HSw3.out) HSw10.out) HSw11.out) HSw12.out) HSw13.out) HSw14.out) HSw15.out) HSw16.out) HSw17.out) HSw18.out) HSw19.out) HZ1.out) HSw20.out) HSw21.out) HSw22.out)
  have hbA := hb0.grown hga hb0.size (by rintro k ⟨⟩; exact HXW.out)
  have hbB := hbA.grown hgb hbA.size (by rintro k ⟨⟩; have := HXW.out; have := HYX.out; omega)
  have HBY2 : Hid (Below y0.heap.size y0 y2) := Lib.hid hbB
  have hlt1 : Y1 < w21.heap.size := by have := HKE.out.lt; have := ((below_step HSw20.out HSw21.out)).size; omega
  have HV2 := Lib.hid (((hp.otherK hga (by have := HYX.out; omega)).otherK hgb hlt1).read HF.out)
  clear hp hlt1
  clear ha1 hga hea hb1 hgb hxb hb0 hbA hbB hyA hyB hy2' hya
  go_upto_region 19 with (fail)
  rw [← hy2]
  clear hy2 k10 k11 k12 k13 k14 f1 e0 e1 e2 e3 fE hne1 hne2
  obtain ⟨k10, k11, k12, k13, k14, f1⟩ := HKX2.out
  obtain ⟨e0, e1, e2, e3, fE⟩ := HKE2.out
  obtain ⟨k00, k01, k02, k03, k04⟩ := HK0.out.below HBY2.out
  have hd2 : s ≤ (n3 : Int) := by omega
  clear hd
  go_wp2_with fail
  refine (same_c HV2.out (HCV.out.mono HBY2.out)).mono ?_
  rintro e w23 ⟨rfl, hb⟩
  have HSw23 := Lib.hid hb
  clear hb
  go_wp2
  go_ret
  exact ⟨rfl, (below_step (below_step HZ0.out HBY2.out) HSw23.out)⟩
theorem back_law (v : Value) (c : Cont) (w : World) (h : ContV w v c) (hok : ContOk c) : Calls Try.prog 6 #[v] w (TruePost w) := back_any v c w h hok
end Go.Proofs.Ytkbboepopcebaaa
