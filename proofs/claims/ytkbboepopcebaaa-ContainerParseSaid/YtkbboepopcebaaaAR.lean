/- ContainerCheck: the walk. -/
import Derived.Test.YtkbboepopcebaaaAQ
import Derived.Test.YtkbboepopcebaaaAS
namespace Go.Proofs.Ytkbboepopcebaaa
open Go.RowKit

theorem below_go {B B' : Nat} {w w1 w2 : World} (h : Below B w w1) (k : Below B' w1 w2) (hh : B ≤ B') : Below B w w2 :=
  ⟨k.os.trans h.os, k.tape.trans h.tape, k.output.trans h.output, Nat.le_trans h.size k.size, fun i hi => (k.block i (by omega)).trans (h.block i hi)⟩
theorem ContV.keep {B : Nat} {w w1 : World} {v : Value} {c : Cont} (h : ContV w v c) (hb : Below B w w1) (hB : w.heap.size ≤ B) : ContV w1 v c := h.mono ⟨hb.os, hb.tape, hb.output, hb.size, fun i hi => hb.block i (by omega)⟩
theorem Near.fits {a b : Nat} {x y : Cont} (h : Near a b 0 x y) (hx : Small x) (hab : a + b ≤ 60000000) : Fits y := by
  obtain ⟨h1, h2, h3, h4, h5, h6, _⟩ := h
  unfold Small at hx
  unfold Fits
  omega
theorem PC2.open {w : World} {B : Nat} {v : Value} {c : Cont} (h : PC2 w B v c) : ∃ A0 m0 c0 A1 m1 c1 A2 m2 c2 A3 m3 c3 s, v = .agg #[.slice A0 m0 c0, .slice A1 m1 c1, .slice A2 m2 c2, .slice A3 m3 c3, .int .i64 s] := by
  obtain ⟨A0, c0, A1, c1, A2, c2, A3, c3, rfl, _⟩ := h.three
  exact ⟨A0, _, c0, A1, _, c1, A2, _, c2, A3, _, c3, _, rfl⟩
theorem PC2.go {w w1 : World} {B B' : Nat} {v : Value} {c : Cont} (h : PC2 w B v c) (hb : Below B' w w1) (hB : w.heap.size ≤ B') : PC2 w1 B v c := h.below ⟨hb.os, hb.tape, hb.output, hb.size, fun i hi => hb.block i (by omega)⟩

set_option maxRecDepth 100000 in
set_option maxHeartbeats 8000000 in
theorem check_law (v : Value) (c : Cont) (W1 : World) (h : ContV W1 v c) : Calls Try.prog 4 #[v] W1 (TruePost W1) := by
  obtain ⟨vt, vc, vs, vd, rfl, ⟨A0, c0, rfl, i1, i2, hr0, ht⟩, ⟨A1, c1, rfl, j1, j2, hc⟩, ⟨A2, c2, rfl, k1, k2, hs⟩, ⟨A3, c3, rfl, l1, l2, hd⟩⟩ := h
  have hcv : ContV W1 (.agg #[.slice A0 c.types.length c0, .slice A1 c.codes.length c1, .slice A2 c.subs.length c2, .slice A3 c.data.length c3, .int .i64 c.size]) c := ⟨_, _, _, _, rfl, ⟨A0, c0, rfl, i1, i2, hr0, ht⟩, ⟨A1, c1, rfl, j1, j2, hc⟩, ⟨A2, c2, rfl, k1, k2, hs⟩, ⟨A3, c3, rfl, l1, l2, hd⟩⟩
  clear i1 i2 hr0 ht j1 j2 hc k1 k2 hs l1 l2 hd
  obtain ⟨n0, h0⟩ : ∃ n0, n0 = c.types.length := ⟨_, rfl⟩
  obtain ⟨n1, h1⟩ : ∃ n1, n1 = c.codes.length := ⟨_, rfl⟩
  obtain ⟨n2, h2⟩ : ∃ n2, n2 = c.subs.length := ⟨_, rfl⟩
  obtain ⟨n3, h3⟩ : ∃ n3, n3 = c.data.length := ⟨_, rfl⟩
  obtain ⟨sz, h4⟩ : ∃ sz, sz = c.size := ⟨_, rfl⟩
  rw [← h0, ← h1, ← h2, ← h3, ← h4] at hcv ⊢
  clear h0 h1 h2 h3 h4
  have HCV := Lib.hid hcv
  obtain ⟨ce, hce⟩ : ∃ ce, ce = checkErr c := ⟨_, rfl⟩
  have HCE := Lib.hid hce
  clear hcv hce
  go_enter Try.func4, Try.ntmps4
  go_wp2_with fail
  obtain ⟨W2, hW2⟩ : ∃ W2, W2 = W1.alloc (.cells #[.slice A0 n0 c0, .slice A1 n1 c1, .slice A2 n2 c2, .slice A3 n3 c3, .int .i64 sz] 28) := ⟨_, rfl⟩
  obtain ⟨Xa, hXa⟩ : ∃ Xa, Xa = W1.heap.size := ⟨_, rfl⟩
  have hb : Below W1.heap.size W1 W2 := by rw [hW2]; exact below_alloc _ _
  have hx : CC W2 Xa (.slice A0 n0 c0) (.slice A1 n1 c1) (.slice A2 n2 c2) (.slice A3 n3 c3) (.int .i64 sz) := by rw [hW2, hXa]; exact CC.new _ _ _ _ _ _
  obtain ⟨Ma, hMa⟩ : ∃ Ma, Ma = W2.heap.size := ⟨_, rfl⟩
  have hxm : Xa < Ma := by rw [hMa]; exact hx.lt
  have HXa := Lib.hid hx
  have HXMa := Lib.hid hxm
  have HMa := Lib.hid hMa
  have HSa : Hid (W1.heap.size ≤ Ma) := Lib.hid (by rw [hMa]; exact hb.size)
  have HBa_2 : Hid (Below Ma W2 W2) := Lib.hid (Below.refl _ _)
  have HBW := Lib.hid hb
  rw [← hW2, ← hXa]
  clear hx hxm hMa hW2 hXa hb
  have HCV1 : Hid (ContV W2 (.agg #[.slice A0 n0 c0, .slice A1 n1 c1, .slice A2 n2 c2, .slice A3 n3 c3, .int .i64 sz]) c) := Lib.hid (HCV.out.mono HBW.out)
  refine (weight_any _ c W2 HCV1.out).mono ?_
  rintro e W3 ⟨r, rfl, hr, hb⟩
  have HBa_3 : Hid (Below Ma W2 W3) := Lib.hid (below_go HBa_2.out hb (by rw [HMa.out]; exact HBa_2.out.size))
  have HR := Lib.hid hr
  clear hr hb
  by_cases hq : (2097152 : Int) < r
  · clear HR
    go_wp2
    go_ret
    exact ⟨rfl, below_go HBW.out HBa_3.out HSa.out⟩
  have HSM := Lib.hid (HR.out (by omega))
  clear HR
  have hxx := HXa.out.below HBa_3.out HXMa.out
  have t0 := hxx.c0
  have t1 := hxx.c1
  have t2 := hxx.c2
  have t3 := hxx.c3
  have t4 := hxx.c4
  clear hxx
  go_wp2_with fail
  refine (twin_any _ c W3 (HCV1.out.keep HBa_3.out (by rw [HMa.out]; exact Nat.le_refl _)) HSM.out.fits).mono ?_
  rintro e W4 ⟨v3, rfl, hp, hb⟩
  have HBa_4 : Hid (Below Ma W2 W4) := Lib.hid (below_go HBa_3.out hb (by rw [HMa.out]; exact HBa_3.out.size))
  obtain ⟨A4, m0, c4, A5, m1, c5, A6, m2, c6, A7, m3, c7, z4, rfl⟩ := hp.open
  have HP4 := Lib.hid hp
  have HX3 := Lib.hid hb.size
  clear hp hb
  clear t0 t1 t2 t3 t4
  go_wp2_with fail
  obtain ⟨W5, hW5⟩ : ∃ W5, W5 = W4.alloc (.cells #[.slice A4 m0 c4, .slice A5 m1 c5, .slice A6 m2 c6, .slice A7 m3 c7, .int .i64 z4] 28) := ⟨_, rfl⟩
  obtain ⟨Xb, hXb⟩ : ∃ Xb, Xb = W4.heap.size := ⟨_, rfl⟩
  have hb : Below W4.heap.size W4 W5 := by rw [hW5]; exact below_alloc _ _
  have hx : CC W5 Xb (.slice A4 m0 c4) (.slice A5 m1 c5) (.slice A6 m2 c6) (.slice A7 m3 c7) (.int .i64 z4) := by rw [hW5, hXb]; exact CC.new _ _ _ _ _ _
  obtain ⟨Mb, hMb⟩ : ∃ Mb, Mb = W5.heap.size := ⟨_, rfl⟩
  have hxm : Xb < Mb := by rw [hMb]; exact hx.lt
  have HXb := Lib.hid hx
  have HXMb := Lib.hid hxm
  have HMb := Lib.hid hMb
  have HSb : Hid (W4.heap.size ≤ Mb) := Lib.hid (by rw [hMb]; exact hb.size)
  have HBb_5 : Hid (Below Mb W5 W5) := Lib.hid (Below.refl _ _)
  have HBa_5 : Hid (Below Ma W2 W5) := Lib.hid (below_go HBa_4.out hb (by rw [HMa.out]; exact HBa_4.out.size))
  have HP5 := Lib.hid (HP4.out.below hb)
  have HV5 := Lib.hid (HP5.out.p.read HSM.out.fits)
  rw [← hW5, ← hXb]
  clear hx hxm hMb hW5 hXb hb
  have hxx := HXb.out.below HBb_5.out HXMb.out
  have s0 := hxx.c0
  have s1 := hxx.c1
  have s2 := hxx.c2
  have s3 := hxx.c3
  have s4 := hxx.c4
  clear hxx
  go_wp2_with fail
  have hk := check_any _ c W5 HV5.out
  rw [← HCE.out] at hk
  refine (hk).mono ?_
  clear hk
  rintro e W6 ⟨rfl, hb⟩
  have HBa_6 : Hid (Below Ma W2 W6) := Lib.hid (below_go HBa_5.out hb (by rw [HMa.out]; exact HBa_5.out.size))
  have HBb_6 : Hid (Below Mb W5 W6) := Lib.hid (below_go HBb_5.out hb (by rw [HMb.out]; exact HBb_5.out.size))
  clear hb
  clear s0 s1 s2 s3 s4
  go_wp2_with fail
  refine (able_any W6).mono ?_
  rintro e W7 ⟨rfl, hb⟩
  have HBa_7 : Hid (Below Ma W2 W7) := Lib.hid (below_go HBa_6.out hb (by rw [HMa.out]; exact HBa_6.out.size))
  have HBb_7 : Hid (Below Mb W5 W7) := Lib.hid (below_go HBb_6.out hb (by rw [HMb.out]; exact HBb_6.out.size))
  clear hb
  have hxx := HXa.out.below HBa_7.out HXMa.out
  have t0 := hxx.c0
  have t1 := hxx.c1
  have t2 := hxx.c2
  have t3 := hxx.c3
  have t4 := hxx.c4
  clear hxx
  go_wp2_with fail
  have hk := refCheck_any _ c W7 (HCV1.out.keep HBa_7.out (by rw [HMa.out]; exact Nat.le_refl _))
  rw [← HCE.out] at hk
  refine (hk).mono ?_
  clear hk
  rintro e W8 ⟨rfl, hb⟩
  have HBa_8 : Hid (Below Ma W2 W8) := Lib.hid (below_go HBa_7.out hb (by rw [HMa.out]; exact HBa_7.out.size))
  have HBb_8 : Hid (Below Mb W5 W8) := Lib.hid (below_go HBb_7.out hb (by rw [HMb.out]; exact HBb_7.out.size))
  clear hb
  clear t0 t1 t2 t3 t4
  have hxx := HXa.out.below HBa_8.out HXMa.out
  have t0 := hxx.c0
  have t1 := hxx.c1
  have t2 := hxx.c2
  have t3 := hxx.c3
  have t4 := hxx.c4
  clear hxx
  have hxx := HXb.out.below HBb_8.out HXMb.out
  have s0 := hxx.c0
  have s1 := hxx.c1
  have s2 := hxx.c2
  have s3 := hxx.c3
  have s4 := hxx.c4
  clear hxx
  go_wp2_with fail
  have hk := same_any _ _ c c W8 (HV5.out.keep HBb_8.out (by rw [HMb.out]; exact Nat.le_refl _)) (HCV1.out.keep HBa_8.out (by rw [HMa.out]; exact Nat.le_refl _))
  rw [show decide (c = c) = true by simp] at hk
  refine (hk).mono ?_
  clear hk
  rintro e W9 ⟨rfl, hb⟩
  have HBa_9 : Hid (Below Ma W2 W9) := Lib.hid (below_go HBa_8.out hb (by rw [HMa.out]; exact HBa_8.out.size))
  have HBb_9 : Hid (Below Mb W5 W9) := Lib.hid (below_go HBb_8.out hb (by rw [HMb.out]; exact HBb_8.out.size))
  clear hb
  clear t0 t1 t2 t3 t4
  clear s0 s1 s2 s3 s4
  have hxx := HXb.out.below HBb_9.out HXMb.out
  have s0 := hxx.c0
  have s1 := hxx.c1
  have s2 := hxx.c2
  have s3 := hxx.c3
  have s4 := hxx.c4
  clear hxx
  go_wp2_with fail
  have hk := check_any _ c W9 (HV5.out.keep HBb_9.out (by rw [HMb.out]; exact Nat.le_refl _))
  rw [← HCE.out] at hk
  refine (hk).mono ?_
  clear hk
  rintro e W10 ⟨rfl, hb⟩
  have HBa_10 : Hid (Below Ma W2 W10) := Lib.hid (below_go HBa_9.out hb (by rw [HMa.out]; exact HBa_9.out.size))
  have HBb_10 : Hid (Below Mb W5 W10) := Lib.hid (below_go HBb_9.out hb (by rw [HMb.out]; exact HBb_9.out.size))
  clear hb
  clear s0 s1 s2 s3 s4
  have hxx := HXb.out.below HBb_10.out HXMb.out
  have s0 := hxx.c0
  have s1 := hxx.c1
  have s2 := hxx.c2
  have s3 := hxx.c3
  have s4 := hxx.c4
  clear hxx
  go_wp2_with fail
  have hk := over_any W10 W3.heap.size _ c (HP5.out.go HBb_10.out (by rw [HMb.out]; exact Nat.le_refl _)) (by have := HX3.out; have := HSb.out; have := HMb.out; have := HBb_10.out.size; omega) HSM.out.fits
  have HK := Lib.hid hk
  clear hk
  refine HK.out.mono ?_
  rintro e W11 ⟨v5, y, rfl, hp, hn, hb⟩
  have HBa_11 : Hid (Below Ma W2 W11) := Lib.hid (below_go HBa_10.out hb (by rw [HMa.out]; exact HBa_3.out.size))
  clear s0 s1 s2 s3 s4
  obtain ⟨B4, m4, d4, B5, m5, d5, B6, m6, d6, B7, m7, d7, z5, rfl⟩ := hp.open
  have HP11 := Lib.hid hp
  have HFY := Lib.hid (hn.fits HSM.out (by omega))
  clear hp hn hb HK
  go_wp2_with fail
  obtain ⟨W12, hW12⟩ : ∃ W12, W12 = W11.alloc (.cells #[.slice B4 m4 d4, .slice B5 m5 d5, .slice B6 m6 d6, .slice B7 m7 d7, .int .i64 z5] 28) := ⟨_, rfl⟩
  obtain ⟨Xc, hXc⟩ : ∃ Xc, Xc = W11.heap.size := ⟨_, rfl⟩
  have hb : Below W11.heap.size W11 W12 := by rw [hW12]; exact below_alloc _ _
  have hx : CC W12 Xc (.slice B4 m4 d4) (.slice B5 m5 d5) (.slice B6 m6 d6) (.slice B7 m7 d7) (.int .i64 z5) := by rw [hW12, hXc]; exact CC.new _ _ _ _ _ _
  obtain ⟨Mc, hMc⟩ : ∃ Mc, Mc = W12.heap.size := ⟨_, rfl⟩
  have hxm : Xc < Mc := by rw [hMc]; exact hx.lt
  have HXc := Lib.hid hx
  have HXMc := Lib.hid hxm
  have HMc := Lib.hid hMc
  have HSc : Hid (W11.heap.size ≤ Mc) := Lib.hid (by rw [hMc]; exact hb.size)
  have HBc_12 : Hid (Below Mc W12 W12) := Lib.hid (Below.refl _ _)
  have HBa_12 : Hid (Below Ma W2 W12) := Lib.hid (below_go HBa_11.out hb (by rw [HMa.out]; exact HBa_11.out.size))
  have HP12 := Lib.hid (HP11.out.below hb)
  have HV12 := Lib.hid (HP12.out.p.read HFY.out)
  rw [← hW12, ← hXc]
  clear hx hxm hMc hW12 hXc hb
  obtain ⟨de, hde⟩ : ∃ de, de = checkErr y := ⟨_, rfl⟩
  have HDE := Lib.hid hde
  clear hde
  have hxx := HXc.out.below HBc_12.out HXMc.out
  have s0 := hxx.c0
  have s1 := hxx.c1
  have s2 := hxx.c2
  have s3 := hxx.c3
  have s4 := hxx.c4
  clear hxx
  go_wp2_with fail
  have hk := check_any _ y W12 HV12.out
  rw [← HDE.out] at hk
  refine (hk).mono ?_
  clear hk
  rintro e W13 ⟨rfl, hb⟩
  have HBa_13 : Hid (Below Ma W2 W13) := Lib.hid (below_go HBa_12.out hb (by rw [HMa.out]; exact HBa_12.out.size))
  have HBc_13 : Hid (Below Mc W12 W13) := Lib.hid (below_go HBc_12.out hb (by rw [HMc.out]; exact HBc_12.out.size))
  clear hb
  clear s0 s1 s2 s3 s4
  have hxx := HXa.out.below HBa_13.out HXMa.out
  have t0 := hxx.c0
  have t1 := hxx.c1
  have t2 := hxx.c2
  have t3 := hxx.c3
  have t4 := hxx.c4
  clear hxx
  go_wp2_with fail
  have hk := refCheck_any _ c W13 (HCV1.out.keep HBa_13.out (by rw [HMa.out]; exact Nat.le_refl _))
  rw [← HCE.out] at hk
  refine (hk).mono ?_
  clear hk
  rintro e W14 ⟨rfl, hb⟩
  have HBa_14 : Hid (Below Ma W2 W14) := Lib.hid (below_go HBa_13.out hb (by rw [HMa.out]; exact HBa_13.out.size))
  have HBc_14 : Hid (Below Mc W12 W14) := Lib.hid (below_go HBc_13.out hb (by rw [HMc.out]; exact HBc_13.out.size))
  clear hb
  clear t0 t1 t2 t3 t4
  have hxx := HXc.out.below HBc_14.out HXMc.out
  have s0 := hxx.c0
  have s1 := hxx.c1
  have s2 := hxx.c2
  have s3 := hxx.c3
  have s4 := hxx.c4
  clear hxx
  go_wp2_with fail
  refine (twin_any _ y W14 (HV12.out.keep HBc_14.out (by rw [HMc.out]; exact Nat.le_refl _)) HFY.out).mono ?_
  rintro e W15 ⟨v6, rfl, hp, hb⟩
  have HBa_15 : Hid (Below Ma W2 W15) := Lib.hid (below_go HBa_14.out hb (by rw [HMa.out]; exact HBa_14.out.size))
  have HBc_15 : Hid (Below Mc W12 W15) := Lib.hid (below_go HBc_14.out hb (by rw [HMc.out]; exact HBc_14.out.size))
  have HP15 := Lib.hid hp
  clear hp hb
  clear s0 s1 s2 s3 s4
  go_wp2_with fail
  have hk := refCheck_any _ y W15 (HP15.out.p.read HFY.out)
  rw [← HDE.out] at hk
  refine (hk).mono ?_
  clear hk
  rintro e W16 ⟨rfl, hb⟩
  have HBa_16 : Hid (Below Ma W2 W16) := Lib.hid (below_go HBa_15.out hb (by rw [HMa.out]; exact HBa_15.out.size))
  have HBc_16 : Hid (Below Mc W12 W16) := Lib.hid (below_go HBc_15.out hb (by rw [HMc.out]; exact HBc_15.out.size))
  clear hb
  go_wp2
  go_ret
  exact ⟨by simp, below_go HBW.out HBa_16.out HSa.out⟩
theorem check_law_row (v : Value) (c : Cont) (W : World) (h : ContV W v c) (_ : ContOk c) : Calls Try.prog 4 #[v] W (TruePost W) := check_law v c W h
end Go.Proofs.Ytkbboepopcebaaa
