/- ContainerCheck: the walk. -/
import Derived.Test.YtkbboepopcebaaaAQ
import Derived.Test.YtkbboepopcebaaaAT
namespace Go.Proofs.Ytkbboepopcebaaa
open Go.RowKit

theorem below_go {B B' : Nat} {w w1 w2 : World} (h : Below B w w1) (k : Below B' w1 w2) (hh : B ≤ B') : Below B w w2 :=
  ⟨k.os.trans h.os, k.tape.trans h.tape, k.output.trans h.output, Nat.le_trans h.size k.size, fun i hi => (k.block i (by omega)).trans (h.block i hi)⟩
theorem ContV.keep {B : Nat} {w w1 : World} {v : Value} {c : Cont} (h : ContV w v c) (hb : Below B w w1) (hB : w.heap.size ≤ B) : ContV w1 v c := h.mono ⟨hb.os, hb.tape, hb.output, hb.size, fun i hi => hb.block i (by omega)⟩
theorem Near.fits {a b : Nat} {x y : Cont} (h : Near a b 0 x y) (hx : Small x) (hab : a + b ≤ 60000000) : Fits y := by
  obtain ⟨h1, h2, h3, h4, h5, h6, _⟩ := h
  unfold Small at hx
  unfold Fits
  omega
theorem PC2.open {w : World} {B : Nat} {v : Value} {c : Cont} (h : PC2 w B v c) : ∃ A0 m0 c0 A1 m1 c1 A2 m2 c2 A3 m3 c3 s, v = .agg #[.slice A0 m0 c0, .slice A1 m1 c1, .slice A2 m2 c2, .slice A3 m3 c3, .int .i64 s] := by
  obtain ⟨A0, c0, A1, c1, A2, c2, A3, c3, rfl, _⟩ := h.three
  exact ⟨A0, _, c0, A1, _, c1, A2, _, c2, A3, _, c3, _, rfl⟩
theorem PC2.go {w w1 : World} {B B' : Nat} {v : Value} {c : Cont} (h : PC2 w B v c) (hb : Below B' w w1) (hB : w.heap.size ≤ B') : PC2 w1 B v c := h.below ⟨hb.os, hb.tape, hb.output, hb.size, fun i hi => hb.block i (by omega)⟩

set_option maxRecDepth 100000 in
set_option maxHeartbeats 8000000 in
theorem check_law (v : Value) (c : Cont) (W1 : World) (h : ContV W1 v c) : Calls Try.prog 4 #[v] W1 (TruePost W1) := by
  obtain ⟨vt, vc, vs, vd, rfl, ⟨A0, c0, rfl, i1, i2, hr0, ht⟩, ⟨A1, c1, rfl, j1, j2, hc⟩, ⟨A2, c2, rfl, k1, k2, hs⟩, ⟨A3, c3, rfl, l1, l2, hd⟩⟩ := h
  have hcv : ContV W1 (.agg #[.slice A0 c.types.length c0, .slice A1 c.codes.length c1, .slice A2 c.subs.length c2, .slice A3 c.data.length c3, .int .i64 c.size]) c := ⟨_, _, _, _, rfl, ⟨A0, c0, rfl, i1, i2, hr0, ht⟩, ⟨A1, c1, rfl, j1, j2, hc⟩, ⟨A2, c2, rfl, k1, k2, hs⟩, ⟨A3, c3, rfl, l1, l2, hd⟩⟩
  clear i1 i2 hr0 ht j1 j2 hc k1 k2 hs l1 l2 hd
  obtain ⟨n0, h0⟩ : ∃ n0, n0 = c.types.length := ⟨_, rfl⟩
  obtain ⟨n1, h1⟩ : ∃ n1, n1 = c.codes.length := ⟨_, rfl⟩
  obtain ⟨n2, h2⟩ : ∃ n2, n2 = c.subs.length := ⟨_, rfl⟩
  obtain ⟨n3, h3⟩ : ∃ n3, n3 = c.data.length := ⟨_, rfl⟩
  obtain ⟨sz, h4⟩ : ∃ sz, sz = c.size := ⟨_, rfl⟩
  rw [← h0, ← h1, ← h2, ← h3, ← h4] at hcv ⊢
  clear h0 h1 h2 h3 h4
  have HCV := Lib.hid hcv
  obtain ⟨ce, hce⟩ : ∃ ce, ce = checkErr c := ⟨_, rfl⟩
  have HCE := Lib.hid hce
  clear hcv hce
  go_enter Try.func4, Try.ntmps4
  go_wp2_with fail
  obtain ⟨W2, hW2⟩ : ∃ W2, W2 = W1.alloc (.cells #[.slice A0 n0 c0, .slice A1 n1 c1, .slice A2 n2 c2, .slice A3 n3 c3, .int .i64 sz] 28) := ⟨_, rfl⟩
  obtain ⟨Xa, hXa⟩ : ∃ Xa, Xa = W1.heap.size := ⟨_, rfl⟩
  have hb : Below W1.heap.size W1 W2 := by rw [hW2]; exact below_alloc _ _
  have hx : CC W2 Xa (.slice A0 n0 c0) (.slice A1 n1 c1) (.slice A2 n2 c2) (.slice A3 n3 c3) (.int .i64 sz) := by rw [hW2, hXa]; exact CC.new _ _ _ _ _ _
  obtain ⟨Ma, hMa⟩ : ∃ Ma, Ma = W2.heap.size := ⟨_, rfl⟩
  have hxm : Xa < Ma := by rw [hMa]; exact hx.lt
  have HXa := Lib.hid hx
  have HXMa := Lib.hid hxm
  have HMa := Lib.hid hMa
  have HSa : Hid (W1.heap.size ≤ Ma) := Lib.hid (by rw [hMa]; exact hb.size)
  have HBa_2 : Hid (Below Ma W2 W2) := Lib.hid (Below.refl _ _)
  have HBW := Lib.hid hb
  rw [← hW2, ← hXa]
  clear hx hxm hMa hW2 hXa hb
  have HCV1 : Hid (ContV W2 (.agg #[.slice A0 n0 c0, .slice A1 n1 c1, .slice A2 n2 c2, .slice A3 n3 c3, .int .i64 sz]) c) := Lib.hid (HCV.out.mono HBW.out)
  refine (weight_any _ c W2 HCV1.out).mono ?_
  rintro e W3 ⟨r, rfl, hr, hb⟩
  have HBa_3 : Hid (Below Ma W2 W3) := Lib.hid (below_go HBa_2.out hb (by rw [HMa.out]; exact HBa_2.out.size))
  have HR := Lib.hid hr
  clear hr hb
  by_cases hq : (2097152 : Int) < r
  · clear HR
    go_wp2
    go_ret
    exact ⟨rfl, below_go HBW.out HBa_3.out HSa.out⟩
  have HSM := Lib.hid (HR.out (by omega))
  clear HR
  have hxx := HXa.out.below HBa_3.out HXMa.out
  have t0 := hxx.c0
  have t1 := hxx.c1
  have t2 := hxx.c2
  have t3 := hxx.c3
  have t4 := hxx.c4
  clear hxx
  go_wp2_with fail
  refine (twin_any _ c W3 (HCV1.out.keep HBa_3.out (by rw [HMa.out]; exact Nat.le_refl _)) HSM.out.fits).mono ?_
  rintro e W4 ⟨v3, rfl, hp, hb⟩
  have HBa_4 : Hid (Below Ma W2 W4) := Lib.hid (below_go HBa_3.out hb (by rw [HMa.out]; exact HBa_3.out.size))
  obtain ⟨A4, m0, c4, A5, m1, c5, A6, m2, c6, A7, m3, c7, z4, rfl⟩ := hp.open
  have HP4 := Lib.hid hp
  have HX3 := Lib.hid hb.size
  clear hp hb
  clear t0 t1 t2 t3 t4
  go_wp2_with fail
  obtain ⟨W5, hW5⟩ : ∃ W5, W5 = W4.alloc (.cells #[.slice A4 m0 c4, .slice A5 m1 c5, .slice A6 m2 c6, .slice A7 m3 c7, .int .i64 z4] 28) := ⟨_, rfl⟩
  obtain ⟨Xb, hXb⟩ : ∃ Xb, Xb = W4.heap.size := ⟨_, rfl⟩
  have hb : Below W4.heap.size W4 W5 := by rw [hW5]; exact below_alloc _ _
  have hx : CC W5 Xb (.slice A4 m0 c4) (.slice A5 m1 c5) (.slice A6 m2 c6) (.slice A7 m3 c7) (.int .i64 z4) := by rw [hW5, hXb]; exact CC.new _ _ _ _ _ _
  obtain ⟨Mb, hMb⟩ : ∃ Mb, Mb = W5.heap.size := ⟨_, rfl⟩
  have hxm : Xb < Mb := by rw [hMb]; exact hx.lt
  have HXb := Lib.hid hx
  have HXMb := Lib.hid hxm
  have HMb := Lib.hid hMb
  have HSb : Hid (W4.heap.size ≤ Mb) := Lib.hid (by rw [hMb]; exact hb.size)
  have HBb_5 : Hid (Below Mb W5 W5) := Lib.hid (Below.refl _ _)
  have HBa_5 : Hid (Below Ma W2 W5) := Lib.hid (below_go HBa_4.out hb (by rw [HMa.out]; exact HBa_4.out.size))
  have HP5 := Lib.hid (HP4.out.below hb)
  have HV5 := Lib.hid (HP5.out.p.read HSM.out.fits)
  rw [← hW5, ← hXb]
  clear hx hxm hMb hW5 hXb hb
  have hxx := HXb.out.below HBb_5.out HXMb.out
  have s0 := hxx.c0
  have s1 := hxx.c1
  have s2 := hxx.c2
  have s3 := hxx.c3
  have s4 := hxx.c4
  clear hxx
  go_wp2_with fail
  have hk := check_any _ c W5 HV5.out
  rw [← HCE.out] at hk
  refine (hk).mono ?_
  clear hk
  rintro e W6 ⟨rfl, hb⟩
  have HBa_6 : Hid (Below Ma W2 W6) := Lib.hid (below_go HBa_5.out hb (by rw [HMa.out]; exact HBa_5.out.size))
  have HBb_6 : Hid (Below Mb W5 W6) := Lib.hid (below_go HBb_5.out hb (by rw [HMb.out]; exact HBb_5.out.size))
  clear hb
  clear s0 s1 s2 s3 s4
  go_wp2_with fail
  refine (able_any W6).mono ?_
  rintro e W7 ⟨rfl, hb⟩
  have HBa_7 : Hid (Below Ma W2 W7) := Lib.hid (below_go HBa_6.out hb (by rw [HMa.out]; exact HBa_6.out.size))
  have HBb_7 : Hid (Below Mb W5 W7) := Lib.hid (below_go HBb_6.out hb (by rw [HMb.out]; exact HBb_6.out.size))
  clear hb
  have hxx := HXa.out.below HBa_7.out HXMa.out
  have t0 := hxx.c0
  have t1 := hxx.c1
  have t2 := hxx.c2
  have t3 := hxx.c3
  have t4 := hxx.c4
  clear hxx
  go_wp2_with fail
  have hk := refCheck_any _ c W7 (HCV1.out.keep HBa_7.out (by rw [HMa.out]; exact Nat.le_refl _))
  rw [← HCE.out] at hk
  refine (hk).mono ?_
  clear hk
  rintro e W8 ⟨rfl, hb⟩
  have HBa_8 : Hid (Below Ma W2 W8) := Lib.hid (below_go HBa_7.out hb (by rw [HMa.out]; exact HBa_7.out.size))
  have HBb_8 : Hid (Below Mb W5 W8) := Lib.hid (below_go HBb_7.out hb (by rw [HMb.out]; exact HBb_7.out.size))
  clear hb
  clear t0 t1 t2 t3 t4
  have hxx := HXa.out.below HBa_8.out HXMa.out
  have t0 := hxx.c0
  have t1 := hxx.c1
  have t2 := hxx.c2
  have t3 := hxx.c3
  have t4 := hxx.c4
  clear hxx
  have hxx := HXb.out.below HBb_8.out HXMb.out
  have s0 := hxx.c0
  have s1 := hxx.c1
  have s2 := hxx.c2
  have s3 := hxx.c3
  have s4 := hxx.c4
  clear hxx
  go_wp2_with fail
  have hk := same_any _ _ c c W8 (HV5.out.keep HBb_8.out (by rw [HMb.out]; exact Nat.le_refl _)) (HCV1.out.keep HBa_8.out (by rw [HMa.out]; exact Nat.le_refl _))
  rw [show decide (c = c) = true by simp] at hk
  refine (hk).mono ?_
  clear hk
  rintro e W9 ⟨rfl, hb⟩
  have HBa_9 : Hid (Below Ma W2 W9) := Lib.hid (below_go HBa_8.out hb (by rw [HMa.out]; exact HBa_8.out.size))
  have HBb_9 : Hid (Below Mb W5 W9) := Lib.hid (below_go HBb_8.out hb (by rw [HMb.out]; exact HBb_8.out.size))
  clear hb
  clear t0 t1 t2 t3 t4
  clear s0 s1 s2 s3 s4
  have hxx := HXb.out.below HBb_9.out HXMb.out
  have s0 := hxx.c0
  have s1 := hxx.c1
  have s2 := hxx.c2
  have s3 := hxx.c3
  have s4 := hxx.c4
  clear hxx
  go_wp2_with fail
  have hk := check_any _ c W9 (HV5.out.keep HBb_9.out (by rw [HMb.out]; exact Nat.le_refl _))
  rw [← HCE.out] at hk
  refine (hk).mono ?_
  clear hk
  rintro e W10 ⟨rfl, hb⟩
  have HBa_10 : Hid (Below Ma W2 W10) := Lib.hid (below_go HBa_9.out hb (by rw [HMa.out]; exact HBa_9.out.size))
  have HBb_10 : Hid (Below Mb W5 W10) := Lib.hid (below_go HBb_9.out hb (by rw [HMb.out]; exact HBb_9.out.size))
  clear hb
  clear s0 s1 s2 s3 s4
  have hxx := HXb.out.below HBb_10.out HXMb.out
  have s0 := hxx.c0
  have s1 := hxx.c1
  have s2 := hxx.c2
  have s3 := hxx.c3
  have s4 := hxx.c4
  clear hxx
  go_wp2_with fail
  have hk := over_any W10 W3.heap.size _ c (HP5.out.go HBb_10.out (by rw [HMb.out]; exact Nat.le_refl _)) (by have := HX3.out; have := HSb.out; have := HMb.out; have := HBb_10.out.size; omega) HSM.out.fits
  have HK := Lib.hid hk
  clear hk
  refine HK.out.mono ?_
  rintro e W11 ⟨v5, y, rfl, hp, hn, hb⟩
  have HBa_11 : Hid (Below Ma W2 W11) := Lib.hid (below_go HBa_10.out hb (by rw [HMa.out]; exact HBa_3.out.size))
  clear s0 s1 s2 s3 s4
  obtain ⟨B4, m4, d4, B5, m5, d5, B6, m6, d6, B7, m7, d7, z5, rfl⟩ := hp.open
  have HP11 := Lib.hid hp
  have HFY := Lib.hid (hn.fits HSM.out (by omega))
  clear hp hn hb HK
  go_wp2_with fail
  obtain ⟨W12, hW12⟩ : ∃ W12, W12 = W11.alloc (.cells #[.slice B4 m4 d4, .slice B5 m5 d5, .slice B6 m6 d6, .slice B7 m7 d7, .int .i64 z5] 28) := ⟨_, rfl⟩
  obtain ⟨Xc, hXc⟩ : ∃ Xc, Xc = W11.heap.size := ⟨_, rfl⟩
  have hb : Below W11.heap.size W11 W12 := by rw [hW12]; exact below_alloc _ _
  have hx : CC W12 Xc (.slice B4 m4 d4) (.slice B5 m5 d5) (.slice B6 m6 d6) (.slice B7 m7 d7) (.int .i64 z5) := by rw [hW12, hXc]; exact CC.new _ _ _ _ _ _
  obtain ⟨Mc, hMc⟩ : ∃ Mc, Mc = W12.heap.size := ⟨_, rfl⟩
  have hxm : Xc < Mc := by rw [hMc]; exact hx.lt
  have HXc := Lib.hid hx
  have HXMc := Lib.hid hxm
  have HMc := Lib.hid hMc
  have HSc : Hid (W11.heap.size ≤ Mc) := Lib.hid (by rw [hMc]; exact hb.size)
  have HBc_12 : Hid (Below Mc W12 W12) := Lib.hid (Below.refl _ _)
  have HBa_12 : Hid (Below Ma W2 W12) := Lib.hid (below_go HBa_11.out hb (by rw [HMa.out]; exact HBa_11.out.size))
  have HP12 := Lib.hid (HP11.out.below hb)
  have HV12 := Lib.hid (HP12.out.p.read HFY.out)
  rw [← hW12, ← hXc]
  clear hx hxm hMc hW12 hXc hb
  obtain ⟨de, hde⟩ : ∃ de, de = checkErr y := ⟨_, rfl⟩
  have HDE := Lib.hid hde
  clear hde
  have hxx := HXc.out.below HBc_12.out HXMc.out
  have s0 := hxx.c0
  have s1 := hxx.c1
  have s2 := hxx.c2
  have s3 := hxx.c3
  have s4 := hxx.c4
  clear hxx
  go_wp2_with fail
  have hk := check_any _ y W12 HV12.out
  rw [← HDE.out] at hk
  refine (hk).mono ?_
  clear hk
  rintro e W13 ⟨rfl, hb⟩
  have HBa_13 : Hid (Below Ma W2 W13) := Lib.hid (below_go HBa_12.out hb (by rw [HMa.out]; exact HBa_12.out.size))
  have HBc_13 : Hid (Below Mc W12 W13) := Lib.hid (below_go HBc_12.out hb (by rw [HMc.out]; exact HBc_12.out.size))
  clear hb
  clear s0 s1 s2 s3 s4
  have hxx := HXa.out.below HBa_13.out HXMa.out
  have t0 := hxx.c0
  have t1 := hxx.c1
  have t2 := hxx.c2
  have t3 := hxx.c3
  have t4 := hxx.c4
  clear hxx
  go_wp2_with fail
  have hk := refCheck_any _ c W13 (HCV1.out.keep HBa_13.out (by rw [HMa.out]; exact Nat.le_refl _))
  rw [← HCE.out] at hk
  refine (hk).mono ?_
  clear hk
  rintro e W14 ⟨rfl, hb⟩
  have HBa_14 : Hid (Below Ma W2 W14) := Lib.hid (below_go HBa_13.out hb (by rw [HMa.out]; exact HBa_13.out.size))
  have HBc_14 : Hid (Below Mc W12 W14) := Lib.hid (below_go HBc_13.out hb (by rw [HMc.out]; exact HBc_13.out.size))
  clear hb
  clear t0 t1 t2 t3 t4
  have hxx := HXc.out.below HBc_14.out HXMc.out
  have s0 := hxx.c0
  have s1 := hxx.c1
  have s2 := hxx.c2
  have s3 := hxx.c3
  have s4 := hxx.c4
  clear hxx
  go_wp2_with fail
  refine (twin_any _ y W14 (HV12.out.keep HBc_14.out (by rw [HMc.out]; exact Nat.le_refl _)) HFY.out).mono ?_
  rintro e W15 ⟨v6, rfl, hp, hb⟩
  have HBa_15 : Hid (Below Ma W2 W15) := Lib.hid (below_go HBa_14.out hb (by rw [HMa.out]; exact HBa_14.out.size))
  have HBc_15 : Hid (Below Mc W12 W15) := Lib.hid (below_go HBc_14.out hb (by rw [HMc.out]; exact HBc_14.out.size))
  have HP15 := Lib.hid hp
  clear hp hb
  clear s0 s1 s2 s3 s4
  go_wp2_with fail
  have hk := refCheck_any _ y W15 (HP15.out.p.read HFY.out)
  rw [← HDE.out] at hk
  refine (hk).mono ?_
  clear hk
  rintro e W16 ⟨rfl, hb⟩
  have HBa_16 : Hid (Below Ma W2 W16) := Lib.hid (below_go HBa_15.out hb (by rw [HMa.out]; exact HBa_15.out.size))
  have HBc_16 : Hid (Below Mc W12 W16) := Lib.hid (below_go HBc_15.out hb (by rw [HMc.out]; exact HBc_15.out.size))
  clear hb
  go_wp2
  go_ret
  exact ⟨by simp, below_go HBW.out HBa_16.out HSa.out⟩
theorem check_law_row (v : Value) (c : Cont) (W : World) (h : ContV W v c) (_ : ContOk c) : Calls Try.prog 4 #[v] W (TruePost W) := check_law v c W h
end Go.Proofs.Ytkbboepopcebaaa
namespace Go.Proofs.Ytkbboepopcebaaa
open Go.RowKit

theorem sumL_wt (ll : List (List Int)) : sumL ll = wt ll := by
  induction ll with
  | nil => rfl
  | cons a r ih => unfold sumL wt at *; simp [ih]
theorem serR_len {c : Cont} (h : Fits c) : (serR c).length ≤ reach := by
  unfold serR
  split
  · rename_i h0
    have hm := may_of c h0
    rw [serB_length c hm.types, sumL_wt, sumL_wt]
    unfold Fits at h
    unfold reach
    split <;> omega
  · simp [reach]
theorem ContV.open {w : World} {v : Value} {c : Cont} (h : ContV w v c) : ∃ A0 m0 c0 A1 m1 c1 A2 m2 c2 A3 m3 c3 s, v = .agg #[.slice A0 m0 c0, .slice A1 m1 c1, .slice A2 m2 c2, .slice A3 m3 c3, .int .i64 s] := by
  obtain ⟨vt, vc, vs, vd, rfl, ⟨A0, c0, rfl, _⟩, ⟨A1, c1, rfl, _⟩, ⟨A2, c2, rfl, _⟩, ⟨A3, c3, rfl, _⟩⟩ := h
  exact ⟨A0, _, c0, A1, _, c1, A2, _, c2, A3, _, c3, _, rfl⟩
/-- Bytes of the call's own, opened. -/
theorem Own8.open {w : World} {B : Nat} {v : Value} {l : List Int} (h : Own8 w B v l) (hr : l.length ≤ reach) : ∃ A c, v = .slice A l.length c ∧ NumsR w .u8 A l := by
  obtain ⟨A, c, e, _, _, h⟩ := h.reads hr
  exact ⟨A, c, e, h⟩
theorem NumsR.keep {B : Nat} {w w1 : World} {k : IntKind} {A : Option Addr} {l : List Int} (h : NumsR w k A l) (hb : Below B w w1) (hB : w.heap.size ≤ B) : NumsR w1 k A l := h.mono ⟨hb.os, hb.tape, hb.output, hb.size, fun i hi => hb.block i (by omega)⟩

set_option maxRecDepth 100000 in
set_option maxHeartbeats 8000000 in
theorem writes_any (v1 v2 : Value) (c : Cont) (W1 : World) (h1 : ContV W1 v1 c) (h2 : ContV W1 v2 c) (hf : Fits c) : Calls Try.prog 22 #[v1, v2] W1 (TruePost W1) := by
  obtain ⟨A0, n0, c0, A1, n1, c1, A2, n2, c2, A3, n3, c3, sz, rfl⟩ := h1.open
  obtain ⟨B0, m0, d0, B1, m1, d1, B2, m2, d2, B3, m3, d3, s2, rfl⟩ := h2.open
  obtain ⟨ce, hce⟩ : ∃ ce, ce = checkErr c := ⟨_, rfl⟩
  obtain ⟨sb, hsb⟩ : ∃ sb, sb = serR c := ⟨_, rfl⟩
  obtain ⟨sn, hsn⟩ : ∃ sn, sn = sizeN c := ⟨_, rfl⟩
  have HV1 := Lib.hid h1
  have HV2 := Lib.hid h2
  have HF := Lib.hid hf
  have hl := serR_len hf
  rw [← hsb] at hl
  have HL := Lib.hid hl
  have HCE := Lib.hid hce
  have HSB := Lib.hid hsb
  have HSN := Lib.hid hsn
  clear h1 h2 hf hce hsb hsn hl
  go_enter Try.func22, Try.ntmps22
  go_wp2_with fail
  obtain ⟨W2, hW2⟩ : ∃ W2, W2 = W1.alloc (.cells #[.slice A0 n0 c0, .slice A1 n1 c1, .slice A2 n2 c2, .slice A3 n3 c3, .int .i64 sz] 28) := ⟨_, rfl⟩
  obtain ⟨Xa, hXa⟩ : ∃ Xa, Xa = W1.heap.size := ⟨_, rfl⟩
  have hb : Below W1.heap.size W1 W2 := by rw [hW2]; exact below_alloc _ _
  have hx : CC W2 Xa (.slice A0 n0 c0) (.slice A1 n1 c1) (.slice A2 n2 c2) (.slice A3 n3 c3) (.int .i64 sz) := by rw [hW2, hXa]; exact CC.new _ _ _ _ _ _
  have HZa : Hid (W2.heap.size = Xa + 1) := Lib.hid (by rw [hW2, hXa]; simp)
  obtain ⟨Ma, hMa⟩ : ∃ Ma, Ma = W2.heap.size := ⟨_, rfl⟩
  have hxm : Xa < Ma := by rw [hMa]; exact hx.lt
  have HXa := Lib.hid hx
  have HXMa := Lib.hid hxm
  have HMa := Lib.hid hMa
  have HSa : Hid (W1.heap.size ≤ Ma) := Lib.hid (by rw [hMa]; exact hb.size)
  have HBa_2 : Hid (Below Ma W2 W2) := Lib.hid (Below.refl _ _)
  have HV12 := Lib.hid (HV1.out.mono hb)
  have HV22 := Lib.hid (HV2.out.mono hb)
  have HBW2 := Lib.hid hb
  rw [← hW2, ← hXa]
  clear hx hxm hMa hW2 hXa hb
  obtain ⟨W3, hW3⟩ : ∃ W3, W3 = W2.alloc (.cells #[.slice B0 m0 d0, .slice B1 m1 d1, .slice B2 m2 d2, .slice B3 m3 d3, .int .i64 s2] 28) := ⟨_, rfl⟩
  obtain ⟨Xb, hXb⟩ : ∃ Xb, Xb = Xa + 1 := ⟨_, rfl⟩
  have hb : Below W2.heap.size W2 W3 := by rw [hW3]; exact below_alloc _ _
  have hx : CC W3 Xb (.slice B0 m0 d0) (.slice B1 m1 d1) (.slice B2 m2 d2) (.slice B3 m3 d3) (.int .i64 s2) := by rw [hW3, hXb, ← HZa.out]; exact CC.new _ _ _ _ _ _
  have HZb : Hid (W3.heap.size = Xb + 1) := Lib.hid (by rw [hW3, hXb]; simp; rw [HZa.out])
  obtain ⟨Mb, hMb⟩ : ∃ Mb, Mb = W3.heap.size := ⟨_, rfl⟩
  have hxm : Xb < Mb := by rw [hMb]; exact hx.lt
  have HXb := Lib.hid hx
  have HXMb := Lib.hid hxm
  have HMb := Lib.hid hMb
  have HSb : Hid (W2.heap.size ≤ Mb) := Lib.hid (by rw [hMb]; exact hb.size)
  have HBb_3 : Hid (Below Mb W3 W3) := Lib.hid (Below.refl _ _)
  have HBa_3 : Hid (Below Ma W2 W3) := Lib.hid (below_go HBa_2.out hb (by rw [HMa.out]; exact HBa_2.out.size))
  have HV13 := Lib.hid (HV12.out.mono hb)
  have HV23 := Lib.hid (HV22.out.mono hb)
  have HBW := Lib.hid (below_step HBW2.out hb)
  rw [← hW3, ← hXb]
  clear hx hxm hMb hW3 hXb hb
  have hxx := HXa.out.below HBa_3.out HXMa.out
  have t0 := hxx.c0
  have t1 := hxx.c1
  have t2 := hxx.c2
  have t3 := hxx.c3
  have t4 := hxx.c4
  clear hxx
  have hk := ser_any _ c W3 HV13.out
  rw [← HCE.out, ← HSB.out] at hk
  refine (hk).mono ?_
  clear hk
  rintro e W4 ⟨v3, rfl, ho, hb⟩
  have HBa_4 : Hid (Below Ma W2 W4) := Lib.hid (below_go HBa_3.out hb (by rw [HMa.out]; exact HBa_3.out.size))
  have HBb_4 : Hid (Below Mb W3 W4) := Lib.hid (below_go HBb_3.out hb (by rw [HMb.out]; exact HBb_3.out.size))
  obtain ⟨D1, e1, rfl, hr⟩ := ho.open HL.out
  have HR1 := Lib.hid hr
  clear ho hr hb
  clear t0 t1 t2 t3 t4
  have hxx := HXb.out.below HBb_4.out HXMb.out
  have s0 := hxx.c0
  have s1 := hxx.c1
  have s2 := hxx.c2
  have s3 := hxx.c3
  have s4 := hxx.c4
  clear hxx
  go_wp2_with fail
  have hk := rser_any _ c W4 (HV23.out.keep HBb_4.out (by rw [HMb.out]; exact Nat.le_refl _))
  rw [← HCE.out, ← HSB.out] at hk
  refine (hk).mono ?_
  clear hk
  rintro e W5 ⟨v4, rfl, ho, hb⟩
  have HBa_5 : Hid (Below Ma W2 W5) := Lib.hid (below_go HBa_4.out hb (by rw [HMa.out]; exact HBa_4.out.size))
  have HBb_5 : Hid (Below Mb W3 W5) := Lib.hid (below_go HBb_4.out hb (by rw [HMb.out]; exact HBb_4.out.size))
  obtain ⟨D2, e2, rfl, hr⟩ := ho.open HL.out
  have HR2 := Lib.hid hr
  have HR3 := Lib.hid (HR1.out.mono hb)
  clear ho hr hb HR1
  clear s0 s1 s2 s3 s4
  have hxx := HXa.out.below HBa_5.out HXMa.out
  have t0 := hxx.c0
  have t1 := hxx.c1
  have t2 := hxx.c2
  have t3 := hxx.c3
  have t4 := hxx.c4
  clear hxx
  go_wp2_with fail
  have hk := size_any _ c W5 (HV13.out.keep HBb_5.out (by rw [HMb.out]; exact Nat.le_refl _))
  rw [← HCE.out, ← HSN.out] at hk
  refine (hk).mono ?_
  clear hk
  rintro e W6 ⟨rfl, hb⟩
  have HBa_6 : Hid (Below Ma W2 W6) := Lib.hid (below_go HBa_5.out hb (by rw [HMa.out]; exact HBa_5.out.size))
  have HBb_6 : Hid (Below Mb W3 W6) := Lib.hid (below_go HBb_5.out hb (by rw [HMb.out]; exact HBb_5.out.size))
  have HR4 := Lib.hid (HR2.out.mono hb)
  have HR5 := Lib.hid (HR3.out.mono hb)
  clear HR2 HR3 hb
  clear t0 t1 t2 t3 t4
  have hxx := HXb.out.below HBb_6.out HXMb.out
  have s0 := hxx.c0
  have s1 := hxx.c1
  have s2 := hxx.c2
  have s3 := hxx.c3
  have s4 := hxx.c4
  clear hxx
  go_wp2_with fail
  have hk := rsize_any _ c W6 (HV23.out.keep HBb_6.out (by rw [HMb.out]; exact Nat.le_refl _))
  rw [← HCE.out, ← HSN.out] at hk
  refine (hk).mono ?_
  clear hk
  rintro e W7 ⟨rfl, hb⟩
  have HBa_7 : Hid (Below Ma W2 W7) := Lib.hid (below_go HBa_6.out hb (by rw [HMa.out]; exact HBa_6.out.size))
  have HBb_7 : Hid (Below Mb W3 W7) := Lib.hid (below_go HBb_6.out hb (by rw [HMb.out]; exact HBb_6.out.size))
  have HR6 := Lib.hid (HR4.out.mono hb)
  have HR7 := Lib.hid (HR5.out.mono hb)
  clear HR4 HR5 hb
  clear s0 s1 s2 s3 s4
  go_wp2_with fail
  refine (sameBytes_any _ _ _ _ sb sb _ _ _ rfl rfl HR7.out HR6.out).mono ?_
  rintro e W8 ⟨rfl, k, rfl⟩
  go_wp2
  go_ret
  exact ⟨by simp, below_go HBW.out (below_drewN HBb_7.out _) (by rw [HMb.out]; exact HBW.out.size)⟩
end Go.Proofs.Ytkbboepopcebaaa
namespace Go.Proofs.Ytkbboepopcebaaa
open Go.RowKit

set_option maxRecDepth 100000 in
theorem at_any (A : Option Addr) (c n : Nat) (a s : Int) (b : List Int) (w : World) (hb : NumsR w .u8 A b) (hy : Byt b) (hn : b.length = n) (h0 : 0 ≤ a) (h1 : 0 ≤ s) (h2 : s ≤ 4) (h3 : a + s ≤ n) :
    Calls Try.prog 66 #[.slice A n c, .int .i64 a, .int .i64 s] w fun e w' => e = .returned (.int .i64 (num b a.toNat s.toNat)) ∧ w = w' := by
  have hmx : n ≤ 140737488351232 := by have := hb.1; unfold reach at *; omega
  have hmx2 : (n : Int) ≤ 140737488351232 := by omega
  have HB := Lib.hid hb; clear hb
  have HY := Lib.hid hy; clear hy
  have HN := Lib.hid hn; clear hn
  go_enter Try.func66, Try.ntmps66
  go_wp2
  go_loop [7, 8] (fun v i => ∃ (t : Nat) (x : Int), (t : Int) ≤ s ∧ i = .int .i64 t ∧ v = .int .i64 x ∧ 0 ≤ x ∧ x < 256 ^ t ∧ Hid (x = num b a.toNat t)) (fun _ i => (s - intOf i).toNat)
  case atStart => exact ⟨0, 0, by omega, rfl, rfl, by omega, by simp, Lib.hid rfl⟩
  case round =>
    obtain ⟨t, x, ht, rfl, rfl, x0, x1, hx⟩ := hrel
    by_cases hlt : (t : Int) < s
    · have hlen : (a + t).toNat < b.length := by have := HN.out; omega
      obtain ⟨b1, o1, hA, hc⟩ := HB.out.2 (by omega)
      subst hA
      have hcell := hc (a + t).toNat hlen
      clear hc
      have hy := byt_get HY.out (a + t).toNat
      obtain ⟨y, hyy⟩ : ∃ y, y = b.getD (a + t).toNat 0 := ⟨_, rfl⟩
      rw [← hyy] at hcell hy
      obtain ⟨y0, y1⟩ := hy
      have HYY := Lib.hid hyy
      have i0 : 0 ≤ a + (t : Int) := by omega
      have i1 : a + (t : Int) < (n : Int) := by omega
      have x2 : x < 16777216 := by
        have : (256 : Int) ^ t ≤ 256 ^ 3 := by
          have ht3 : t ≤ 3 := by omega
          rcases (show t = 0 ∨ t = 1 ∨ t = 2 ∨ t = 3 by omega) with rfl | rfl | rfl | rfl <;> decide
        omega
      have hw1 : IntKind.i64.wrap (256 * x) = 256 * x := IntWalk.i64_in _ (by omega)
      have hw2 : IntKind.i64.wrap (256 * x + y) = 256 * x + y := IntWalk.i64_in _ (by omega)
      have hw3 : IntKind.i64.wrap (a + (t : Int)) = a + (t : Int) := IntWalk.i64_in _ (by omega)
      have hw4 : IntKind.i64.wrap y = y := IntWalk.i64_in _ (by omega)
      have HX1 := Lib.hid x1
      clear hyy x1
      go_wp2
      go_round
      case rel =>
        refine ⟨t + 1, 256 * x + y, by omega, by go_num, rfl, by omega, ?_, Lib.hid ?_⟩
        · have := HX1.out
          rw [Int.pow_succ]; omega
        · rw [num, ← hx.out, HYY.out, show (a + (t : Int)).toNat = a.toNat + t by omega, Int.mul_comm 256 x]
      case measure => simp [intOf]; omega
    · obtain rfl : s = (t : Int) := by omega
      go_wp2
      go_ret
      exact ⟨by rw [hx.out]; simp, rfl⟩
set_option maxRecDepth 100000 in
theorem unless_yes (e : Int) (w : World) : Calls Try.prog 80 #[.bool true, .int .i64 e] w fun q w' => q = .returned (.int .i64 0) ∧ w = w' := by
  go_enter Try.func80, Try.ntmps80
  go_wp2
  go_ret
  exact ⟨rfl, rfl⟩
set_option maxRecDepth 100000 in
theorem unless_no (e : Int) (w : World) : Calls Try.prog 80 #[.bool false, .int .i64 e] w fun q w' => q = .returned (.int .i64 e) ∧ w = w' := by
  go_enter Try.func80, Try.ntmps80
  go_wp2
  go_ret
  exact ⟨rfl, rfl⟩
/-- Is v, at a field of that kind, not right, and why? -/
def wrongF (what v types : Int) : Int := if what = 1 then (if v = 239 then 0 else 51) else if what = 2 then (if v = 0 then 0 else 51) else if what = 3 then (if v = 1 then 0 else 52) else if what = 4 then (if v = 1 then 0 else 53) else if what = 5 then (if 0 < v ∧ v % 4 = 0 ∧ v ≤ 4096 then 0 else 54) else if what = 6 then (if v = 2 then 0 else 53) else if what = 7 then (if 4 * v = types then 0 else 55) else if what = 8 then (if 0 < v then 0 else 56) else if what = 9 then (if v = 3 ∨ v = 255 then 0 else 53) else if what = 10 then (if 0 < v ∧ v ≤ 256 then 0 else 57) else if what = 11 then (if 0 < v then 0 else 56) else if what = 12 then (if v = 255 then 0 else 53) else if what = 14 then (if v = 0 then 0 else 53) else 0

set_option maxRecDepth 100000 in
theorem wrong_1 (v types : Int) (w : World) (h0 : 0 ≤ v) (h1 : v ≤ 4294967295) : Calls Try.prog 78 #[.int .i64 1, .int .i64 v, .int .i64 types] w fun e w' => e = .returned (.int .i64 (wrongF 1 v types)) ∧ w = w' := by
  by_cases h : v = 239
  · have H : Hid ((0 : Int) = wrongF 1 v types) := Lib.hid (by simp [wrongF, h])
    have hq : ((v : Int) == 239) = true := by simp [h]
    clear h
    go_enter Try.func78, Try.ntmps78
    go_wp2_with (first | (go_at_call 80; (with_reducible refine (unless_yes _ _).mono ?_); rintro e w1 ⟨rfl, rfl⟩) | (go_at_call 80; (with_reducible refine (unless_no _ _).mono ?_); rintro e w1 ⟨rfl, rfl⟩))
    go_ret
    exact ⟨ret_int H.out, rfl⟩
  · have H : Hid ((51 : Int) = wrongF 1 v types) := Lib.hid (by simp [wrongF, h])
    have hq : ((v : Int) == 239) = false := by simp [h]
    clear h
    go_enter Try.func78, Try.ntmps78
    go_wp2_with (first | (go_at_call 80; (with_reducible refine (unless_yes _ _).mono ?_); rintro e w1 ⟨rfl, rfl⟩) | (go_at_call 80; (with_reducible refine (unless_no _ _).mono ?_); rintro e w1 ⟨rfl, rfl⟩))
    go_ret
    exact ⟨ret_int H.out, rfl⟩

set_option maxRecDepth 100000 in
theorem wrong_2 (v types : Int) (w : World) (h0 : 0 ≤ v) (h1 : v ≤ 4294967295) : Calls Try.prog 78 #[.int .i64 2, .int .i64 v, .int .i64 types] w fun e w' => e = .returned (.int .i64 (wrongF 2 v types)) ∧ w = w' := by
  by_cases h : v = 0
  · have H : Hid ((0 : Int) = wrongF 2 v types) := Lib.hid (by simp [wrongF, h])
    have hq : ((v : Int) == 0) = true := by simp [h]
    clear h
    go_enter Try.func78, Try.ntmps78
    go_wp2_with (first | (go_at_call 80; (with_reducible refine (unless_yes _ _).mono ?_); rintro e w1 ⟨rfl, rfl⟩) | (go_at_call 80; (with_reducible refine (unless_no _ _).mono ?_); rintro e w1 ⟨rfl, rfl⟩))
    go_ret
    exact ⟨ret_int H.out, rfl⟩
  · have H : Hid ((51 : Int) = wrongF 2 v types) := Lib.hid (by simp [wrongF, h])
    have hq : ((v : Int) == 0) = false := by simp [h]
    clear h
    go_enter Try.func78, Try.ntmps78
    go_wp2_with (first | (go_at_call 80; (with_reducible refine (unless_yes _ _).mono ?_); rintro e w1 ⟨rfl, rfl⟩) | (go_at_call 80; (with_reducible refine (unless_no _ _).mono ?_); rintro e w1 ⟨rfl, rfl⟩))
    go_ret
    exact ⟨ret_int H.out, rfl⟩

set_option maxRecDepth 100000 in
theorem wrong_3 (v types : Int) (w : World) (h0 : 0 ≤ v) (h1 : v ≤ 4294967295) : Calls Try.prog 78 #[.int .i64 3, .int .i64 v, .int .i64 types] w fun e w' => e = .returned (.int .i64 (wrongF 3 v types)) ∧ w = w' := by
  by_cases h : v = 1
  · have H : Hid ((0 : Int) = wrongF 3 v types) := Lib.hid (by simp [wrongF, h])
    have hq : ((v : Int) == 1) = true := by simp [h]
    clear h
    go_enter Try.func78, Try.ntmps78
    go_wp2_with (first | (go_at_call 80; (with_reducible refine (unless_yes _ _).mono ?_); rintro e w1 ⟨rfl, rfl⟩) | (go_at_call 80; (with_reducible refine (unless_no _ _).mono ?_); rintro e w1 ⟨rfl, rfl⟩))
    go_ret
    exact ⟨ret_int H.out, rfl⟩
  · have H : Hid ((52 : Int) = wrongF 3 v types) := Lib.hid (by simp [wrongF, h])
    have hq : ((v : Int) == 1) = false := by simp [h]
    clear h
    go_enter Try.func78, Try.ntmps78
    go_wp2_with (first | (go_at_call 80; (with_reducible refine (unless_yes _ _).mono ?_); rintro e w1 ⟨rfl, rfl⟩) | (go_at_call 80; (with_reducible refine (unless_no _ _).mono ?_); rintro e w1 ⟨rfl, rfl⟩))
    go_ret
    exact ⟨ret_int H.out, rfl⟩

set_option maxRecDepth 100000 in
theorem wrong_4 (v types : Int) (w : World) (h0 : 0 ≤ v) (h1 : v ≤ 4294967295) : Calls Try.prog 78 #[.int .i64 4, .int .i64 v, .int .i64 types] w fun e w' => e = .returned (.int .i64 (wrongF 4 v types)) ∧ w = w' := by
  by_cases h : v = 1
  · have H : Hid ((0 : Int) = wrongF 4 v types) := Lib.hid (by simp [wrongF, h])
    have hq : ((v : Int) == 1) = true := by simp [h]
    clear h
    go_enter Try.func78, Try.ntmps78
    go_wp2_with (first | (go_at_call 80; (with_reducible refine (unless_yes _ _).mono ?_); rintro e w1 ⟨rfl, rfl⟩) | (go_at_call 80; (with_reducible refine (unless_no _ _).mono ?_); rintro e w1 ⟨rfl, rfl⟩))
    go_ret
    exact ⟨ret_int H.out, rfl⟩
  · have H : Hid ((53 : Int) = wrongF 4 v types) := Lib.hid (by simp [wrongF, h])
    have hq : ((v : Int) == 1) = false := by simp [h]
    clear h
    go_enter Try.func78, Try.ntmps78
    go_wp2_with (first | (go_at_call 80; (with_reducible refine (unless_yes _ _).mono ?_); rintro e w1 ⟨rfl, rfl⟩) | (go_at_call 80; (with_reducible refine (unless_no _ _).mono ?_); rintro e w1 ⟨rfl, rfl⟩))
    go_ret
    exact ⟨ret_int H.out, rfl⟩

set_option maxRecDepth 100000 in
theorem wrong_5 (v types : Int) (w : World) (h0 : 0 ≤ v) (h1 : v ≤ 4294967295) : Calls Try.prog 78 #[.int .i64 5, .int .i64 v, .int .i64 types] w fun e w' => e = .returned (.int .i64 (wrongF 5 v types)) ∧ w = w' := by
  by_cases h : 0 < v
  · have hq : decide (0 < v) = true := by simp [h]
    by_cases h2 : v % 4 = 0
    · have q2 : Int.tmod v 4 = 0 := by rw [Int.tmod_eq_emod_of_nonneg h0]; exact h2
      by_cases h' : v ≤ 4096
      · have H : Hid ((0 : Int) = wrongF 5 v types) := Lib.hid (by simp only [wrongF]; simp [h, h2, h'])
        have hq' : decide (v ≤ 4096) = true := by simp [h']
        clear h2 h' h0 h1
        go_enter Try.func78, Try.ntmps78
        go_wp2_with (first | (go_at_call 80; (with_reducible refine (unless_yes _ _).mono ?_); rintro e w1 ⟨rfl, rfl⟩) | (go_at_call 80; (with_reducible refine (unless_no _ _).mono ?_); rintro e w1 ⟨rfl, rfl⟩))
        go_ret
        exact ⟨ret_int H.out, rfl⟩
      · have H : Hid ((54 : Int) = wrongF 5 v types) := Lib.hid (by simp only [wrongF]; simp [h, h2, h'])
        have hq' : decide (v ≤ 4096) = false := by simp; omega
        clear h2 h' h0 h1
        go_enter Try.func78, Try.ntmps78
        go_wp2_with (first | (go_at_call 80; (with_reducible refine (unless_yes _ _).mono ?_); rintro e w1 ⟨rfl, rfl⟩) | (go_at_call 80; (with_reducible refine (unless_no _ _).mono ?_); rintro e w1 ⟨rfl, rfl⟩))
        go_ret
        exact ⟨ret_int H.out, rfl⟩
    · have q2 : ¬ Int.tmod v 4 = 0 := by rw [Int.tmod_eq_emod_of_nonneg h0]; exact h2
      have q3 : (Int.tmod v 4 == 0) = false := by simp [q2]
      have H : Hid ((54 : Int) = wrongF 5 v types) := Lib.hid (by simp only [wrongF]; simp [h, h2])
      have q4 : (v % 4 == 0) = false := by simp [h2]
      clear h2 h0 h1
      go_enter Try.func78, Try.ntmps78
      go_wp2_with (first | (go_at_call 80; (with_reducible refine (unless_yes _ _).mono ?_); rintro e w1 ⟨rfl, rfl⟩) | (go_at_call 80; (with_reducible refine (unless_no _ _).mono ?_); rintro e w1 ⟨rfl, rfl⟩))
      go_ret
      exact ⟨ret_int H.out, rfl⟩
  · have H : Hid ((54 : Int) = wrongF 5 v types) := Lib.hid (by simp [wrongF, h])
    have hq : decide (0 < v) = false := by simp; omega
    go_enter Try.func78, Try.ntmps78
    go_wp2_with (first | (go_at_call 80; (with_reducible refine (unless_yes _ _).mono ?_); rintro e w1 ⟨rfl, rfl⟩) | (go_at_call 80; (with_reducible refine (unless_no _ _).mono ?_); rintro e w1 ⟨rfl, rfl⟩))
    go_ret
    exact ⟨ret_int H.out, rfl⟩

set_option maxRecDepth 100000 in
theorem wrong_6 (v types : Int) (w : World) (h0 : 0 ≤ v) (h1 : v ≤ 4294967295) : Calls Try.prog 78 #[.int .i64 6, .int .i64 v, .int .i64 types] w fun e w' => e = .returned (.int .i64 (wrongF 6 v types)) ∧ w = w' := by
  by_cases h : v = 2
  · have H : Hid ((0 : Int) = wrongF 6 v types) := Lib.hid (by simp [wrongF, h])
    have hq : ((v : Int) == 2) = true := by simp [h]
    clear h
    go_enter Try.func78, Try.ntmps78
    go_wp2_with (first | (go_at_call 80; (with_reducible refine (unless_yes _ _).mono ?_); rintro e w1 ⟨rfl, rfl⟩) | (go_at_call 80; (with_reducible refine (unless_no _ _).mono ?_); rintro e w1 ⟨rfl, rfl⟩))
    go_ret
    exact ⟨ret_int H.out, rfl⟩
  · have H : Hid ((53 : Int) = wrongF 6 v types) := Lib.hid (by simp [wrongF, h])
    have hq : ((v : Int) == 2) = false := by simp [h]
    clear h
    go_enter Try.func78, Try.ntmps78
    go_wp2_with (first | (go_at_call 80; (with_reducible refine (unless_yes _ _).mono ?_); rintro e w1 ⟨rfl, rfl⟩) | (go_at_call 80; (with_reducible refine (unless_no _ _).mono ?_); rintro e w1 ⟨rfl, rfl⟩))
    go_ret
    exact ⟨ret_int H.out, rfl⟩

set_option maxRecDepth 100000 in
theorem wrong_7 (v types : Int) (w : World) (h0 : 0 ≤ v) (h1 : v ≤ 4294967295) : Calls Try.prog 78 #[.int .i64 7, .int .i64 v, .int .i64 types] w fun e w' => e = .returned (.int .i64 (wrongF 7 v types)) ∧ w = w' := by
  have hw : IntKind.i64.wrap (4 * v) = 4 * v := IntWalk.i64_in _ (by omega)
  by_cases h : 4 * v = types
  · have H : Hid ((0 : Int) = wrongF 7 v types) := Lib.hid (by simp [wrongF, h])
    have hq : ((4 * v : Int) == types) = true := by simp [h]
    clear h
    go_enter Try.func78, Try.ntmps78
    go_wp2_with (first | (go_at_call 80; (with_reducible refine (unless_yes _ _).mono ?_); rintro e w1 ⟨rfl, rfl⟩) | (go_at_call 80; (with_reducible refine (unless_no _ _).mono ?_); rintro e w1 ⟨rfl, rfl⟩))
    go_ret
    exact ⟨ret_int H.out, rfl⟩
  · have H : Hid ((55 : Int) = wrongF 7 v types) := Lib.hid (by simp [wrongF, h])
    have hq : ((4 * v : Int) == types) = false := by simp [h]
    clear h
    go_enter Try.func78, Try.ntmps78
    go_wp2_with (first | (go_at_call 80; (with_reducible refine (unless_yes _ _).mono ?_); rintro e w1 ⟨rfl, rfl⟩) | (go_at_call 80; (with_reducible refine (unless_no _ _).mono ?_); rintro e w1 ⟨rfl, rfl⟩))
    go_ret
    exact ⟨ret_int H.out, rfl⟩

set_option maxRecDepth 100000 in
theorem wrong_8 (v types : Int) (w : World) (h0 : 0 ≤ v) (h1 : v ≤ 4294967295) : Calls Try.prog 78 #[.int .i64 8, .int .i64 v, .int .i64 types] w fun e w' => e = .returned (.int .i64 (wrongF 8 v types)) ∧ w = w' := by
  by_cases h : 0 < v
  · have H : Hid ((0 : Int) = wrongF 8 v types) := Lib.hid (by simp [wrongF, h])
    have hq : decide (0 < v) = true := by simp [h]
    go_enter Try.func78, Try.ntmps78
    go_wp2_with (first | (go_at_call 80; (with_reducible refine (unless_yes _ _).mono ?_); rintro e w1 ⟨rfl, rfl⟩) | (go_at_call 80; (with_reducible refine (unless_no _ _).mono ?_); rintro e w1 ⟨rfl, rfl⟩))
    go_ret
    exact ⟨ret_int H.out, rfl⟩
  · have H : Hid ((56 : Int) = wrongF 8 v types) := Lib.hid (by simp [wrongF, h])
    have hq : decide (0 < v) = false := by simp; omega
    go_enter Try.func78, Try.ntmps78
    go_wp2_with (first | (go_at_call 80; (with_reducible refine (unless_yes _ _).mono ?_); rintro e w1 ⟨rfl, rfl⟩) | (go_at_call 80; (with_reducible refine (unless_no _ _).mono ?_); rintro e w1 ⟨rfl, rfl⟩))
    go_ret
    exact ⟨ret_int H.out, rfl⟩

set_option maxRecDepth 100000 in
theorem wrong_9 (v types : Int) (w : World) (h0 : 0 ≤ v) (h1 : v ≤ 4294967295) : Calls Try.prog 78 #[.int .i64 9, .int .i64 v, .int .i64 types] w fun e w' => e = .returned (.int .i64 (wrongF 9 v types)) ∧ w = w' := by
  by_cases h : v = 3
  · subst h
    have H : Hid ((0 : Int) = wrongF 9 3 types) := Lib.hid (by simp [wrongF])
    go_enter Try.func78, Try.ntmps78
    go_wp2_with (first | (go_at_call 80; (with_reducible refine (unless_yes _ _).mono ?_); rintro e w1 ⟨rfl, rfl⟩) | (go_at_call 80; (with_reducible refine (unless_no _ _).mono ?_); rintro e w1 ⟨rfl, rfl⟩))
    go_ret
    exact ⟨ret_int H.out, rfl⟩
  by_cases h' : v = 255
  · subst h'
    have H : Hid ((0 : Int) = wrongF 9 255 types) := Lib.hid (by simp [wrongF])
    go_enter Try.func78, Try.ntmps78
    go_wp2_with (first | (go_at_call 80; (with_reducible refine (unless_yes _ _).mono ?_); rintro e w1 ⟨rfl, rfl⟩) | (go_at_call 80; (with_reducible refine (unless_no _ _).mono ?_); rintro e w1 ⟨rfl, rfl⟩))
    go_ret
    exact ⟨ret_int H.out, rfl⟩
  · have H : Hid ((53 : Int) = wrongF 9 v types) := Lib.hid (by simp [wrongF, h, h'])
    have hq : ((v : Int) == 3) = false := by simp [h]
    have hq' : ((v : Int) == 255) = false := by simp [h']
    clear h h'
    go_enter Try.func78, Try.ntmps78
    go_wp2_with (first | (go_at_call 80; (with_reducible refine (unless_yes _ _).mono ?_); rintro e w1 ⟨rfl, rfl⟩) | (go_at_call 80; (with_reducible refine (unless_no _ _).mono ?_); rintro e w1 ⟨rfl, rfl⟩))
    go_ret
    exact ⟨ret_int H.out, rfl⟩

set_option maxRecDepth 100000 in
theorem wrong_10 (v types : Int) (w : World) (h0 : 0 ≤ v) (h1 : v ≤ 4294967295) : Calls Try.prog 78 #[.int .i64 10, .int .i64 v, .int .i64 types] w fun e w' => e = .returned (.int .i64 (wrongF 10 v types)) ∧ w = w' := by
  by_cases h : 0 < v
  · have hq : decide (0 < v) = true := by simp [h]
    by_cases h' : v ≤ 256
    · have H : Hid ((0 : Int) = wrongF 10 v types) := Lib.hid (by simp [wrongF, h, h'])
      have hq' : decide (v ≤ 256) = true := by simp [h']
      go_enter Try.func78, Try.ntmps78
      go_wp2_with (first | (go_at_call 80; (with_reducible refine (unless_yes _ _).mono ?_); rintro e w1 ⟨rfl, rfl⟩) | (go_at_call 80; (with_reducible refine (unless_no _ _).mono ?_); rintro e w1 ⟨rfl, rfl⟩))
      go_ret
      exact ⟨ret_int H.out, rfl⟩
    · have H : Hid ((57 : Int) = wrongF 10 v types) := Lib.hid (by simp [wrongF, h, h'])
      have hq' : decide (v ≤ 256) = false := by simp; omega
      clear h'
      go_enter Try.func78, Try.ntmps78
      go_wp2_with (first | (go_at_call 80; (with_reducible refine (unless_yes _ _).mono ?_); rintro e w1 ⟨rfl, rfl⟩) | (go_at_call 80; (with_reducible refine (unless_no _ _).mono ?_); rintro e w1 ⟨rfl, rfl⟩))
      go_ret
      exact ⟨ret_int H.out, rfl⟩
  · have H : Hid ((57 : Int) = wrongF 10 v types) := Lib.hid (by simp [wrongF, h])
    have hq : decide (0 < v) = false := by simp; omega
    go_enter Try.func78, Try.ntmps78
    go_wp2_with (first | (go_at_call 80; (with_reducible refine (unless_yes _ _).mono ?_); rintro e w1 ⟨rfl, rfl⟩) | (go_at_call 80; (with_reducible refine (unless_no _ _).mono ?_); rintro e w1 ⟨rfl, rfl⟩))
    go_ret
    exact ⟨ret_int H.out, rfl⟩

set_option maxRecDepth 100000 in
theorem wrong_11 (v types : Int) (w : World) (h0 : 0 ≤ v) (h1 : v ≤ 4294967295) : Calls Try.prog 78 #[.int .i64 11, .int .i64 v, .int .i64 types] w fun e w' => e = .returned (.int .i64 (wrongF 11 v types)) ∧ w = w' := by
  by_cases h : 0 < v
  · have H : Hid ((0 : Int) = wrongF 11 v types) := Lib.hid (by simp [wrongF, h])
    have hq : decide (0 < v) = true := by simp [h]
    go_enter Try.func78, Try.ntmps78
    go_wp2_with (first | (go_at_call 80; (with_reducible refine (unless_yes _ _).mono ?_); rintro e w1 ⟨rfl, rfl⟩) | (go_at_call 80; (with_reducible refine (unless_no _ _).mono ?_); rintro e w1 ⟨rfl, rfl⟩))
    go_ret
    exact ⟨ret_int H.out, rfl⟩
  · have H : Hid ((56 : Int) = wrongF 11 v types) := Lib.hid (by simp [wrongF, h])
    have hq : decide (0 < v) = false := by simp; omega
    go_enter Try.func78, Try.ntmps78
    go_wp2_with (first | (go_at_call 80; (with_reducible refine (unless_yes _ _).mono ?_); rintro e w1 ⟨rfl, rfl⟩) | (go_at_call 80; (with_reducible refine (unless_no _ _).mono ?_); rintro e w1 ⟨rfl, rfl⟩))
    go_ret
    exact ⟨ret_int H.out, rfl⟩

set_option maxRecDepth 100000 in
theorem wrong_12 (v types : Int) (w : World) (h0 : 0 ≤ v) (h1 : v ≤ 4294967295) : Calls Try.prog 78 #[.int .i64 12, .int .i64 v, .int .i64 types] w fun e w' => e = .returned (.int .i64 (wrongF 12 v types)) ∧ w = w' := by
  by_cases h : v = 255
  · have H : Hid ((0 : Int) = wrongF 12 v types) := Lib.hid (by simp [wrongF, h])
    have hq : ((v : Int) == 255) = true := by simp [h]
    clear h
    go_enter Try.func78, Try.ntmps78
    go_wp2_with (first | (go_at_call 80; (with_reducible refine (unless_yes _ _).mono ?_); rintro e w1 ⟨rfl, rfl⟩) | (go_at_call 80; (with_reducible refine (unless_no _ _).mono ?_); rintro e w1 ⟨rfl, rfl⟩))
    go_ret
    exact ⟨ret_int H.out, rfl⟩
  · have H : Hid ((53 : Int) = wrongF 12 v types) := Lib.hid (by simp [wrongF, h])
    have hq : ((v : Int) == 255) = false := by simp [h]
    clear h
    go_enter Try.func78, Try.ntmps78
    go_wp2_with (first | (go_at_call 80; (with_reducible refine (unless_yes _ _).mono ?_); rintro e w1 ⟨rfl, rfl⟩) | (go_at_call 80; (with_reducible refine (unless_no _ _).mono ?_); rintro e w1 ⟨rfl, rfl⟩))
    go_ret
    exact ⟨ret_int H.out, rfl⟩

set_option maxRecDepth 100000 in
theorem wrong_14 (v types : Int) (w : World) (h0 : 0 ≤ v) (h1 : v ≤ 4294967295) : Calls Try.prog 78 #[.int .i64 14, .int .i64 v, .int .i64 types] w fun e w' => e = .returned (.int .i64 (wrongF 14 v types)) ∧ w = w' := by
  by_cases h : v = 0
  · have H : Hid ((0 : Int) = wrongF 14 v types) := Lib.hid (by simp [wrongF, h])
    have hq : ((v : Int) == 0) = true := by simp [h]
    clear h
    go_enter Try.func78, Try.ntmps78
    go_wp2_with (first | (go_at_call 80; (with_reducible refine (unless_yes _ _).mono ?_); rintro e w1 ⟨rfl, rfl⟩) | (go_at_call 80; (with_reducible refine (unless_no _ _).mono ?_); rintro e w1 ⟨rfl, rfl⟩))
    go_ret
    exact ⟨ret_int H.out, rfl⟩
  · have H : Hid ((53 : Int) = wrongF 14 v types) := Lib.hid (by simp [wrongF, h])
    have hq : ((v : Int) == 0) = false := by simp [h]
    clear h
    go_enter Try.func78, Try.ntmps78
    go_wp2_with (first | (go_at_call 80; (with_reducible refine (unless_yes _ _).mono ?_); rintro e w1 ⟨rfl, rfl⟩) | (go_at_call 80; (with_reducible refine (unless_no _ _).mono ?_); rintro e w1 ⟨rfl, rfl⟩))
    go_ret
    exact ⟨ret_int H.out, rfl⟩

set_option maxRecDepth 100000 in
theorem wrong_13 (v types : Int) (w : World) : Calls Try.prog 78 #[.int .i64 13, .int .i64 v, .int .i64 types] w fun e w' => e = .returned (.int .i64 (wrongF 13 v types)) ∧ w = w' := by
  go_enter Try.func78, Try.ntmps78
  go_wp2
  go_ret
  exact ⟨rfl, rfl⟩
theorem sum_take (l : List Int) (k : Nat) (h : k < l.length) : (l.take (k + 1)).sum = (l.take k).sum + l.getD k 0 := by rw [take_snoc' l k 0 h]; simp
set_option maxRecDepth 100000 in
theorem sum_any (A : Option Addr) (c n : Nat) (l : List Int) (w : World) (h : NumsR w .i64 A l) (hn : l.length = n) (hp : ∀ x ∈ l, 1 ≤ x) (hs : l.sum ≤ 1099511627776) :
    Calls Try.prog 64 #[.slice A n c] w fun e w' => e = .returned (.int .i64 l.sum) ∧ w = w' := by
  have hmx : n ≤ 140737488351232 := by have := h.1; unfold reach at *; omega
  have HN := Lib.hid hn; clear hn
  have HP := Lib.hid hp; clear hp
  have HS := Lib.hid hs; clear hs
  have HH := Lib.hid h; clear h
  go_enter Try.func64, Try.ntmps64
  go_wp2
  go_loop [3, 4] (fun v i => ∃ (k : Nat) (x : Int), k ≤ n ∧ i = .int .i64 k ∧ v = .int .i64 x ∧ Hid (x = (l.take k).sum)) (fun _ i => n - (intOf i).toNat)
  case atStart => exact ⟨0, 0, Nat.zero_le _, rfl, rfl, Lib.hid (by simp)⟩
  case round =>
    obtain ⟨k, x, hk, rfl, rfl, hx⟩ := hrel
    by_cases hlt : k < n
    · have hk2 : k < l.length := by have := HN.out; omega
      obtain ⟨b1, o1, hA, hc⟩ := HH.out.2 (by omega)
      subst hA
      have hcell := hc k hk2
      clear hc
      have hs := sum_take l k hk2
      have h1 := sum_take_le l HP.out k
      have h2 := sum_take_le l HP.out (k + 1)
      have h3 := sum_nonneg (l.take k) fun y hy => HP.out y (List.mem_of_mem_take hy)
      obtain ⟨y, hy⟩ : ∃ y, y = l.getD k 0 := ⟨_, rfl⟩
      have hy1 : 1 ≤ y := by rw [hy]; exact HP.out _ (getD_mem l k hk2)
      rw [← hy] at hcell hs
      have hw : IntKind.i64.wrap (x + y) = x + y := IntWalk.i64_in _ (by have := hx.out; have := HS.out; omega)
      have HSS := Lib.hid hs
      clear hs h1 h2 h3 hy
      go_wp2
      go_round
      case rel => exact ⟨k + 1, x + y, by omega, by go_num, rfl, Lib.hid (by rw [HSS.out, hx.out])⟩
      case measure => simp [intOf]; omega
    · obtain rfl : k = n := by omega
      go_wp2
      go_ret
      have h5 := hx.out
      rw [List.take_of_length_le (by have := HN.out; omega)] at h5
      exact ⟨ret_int h5, rfl⟩
end Go.Proofs.Ytkbboepopcebaaa
namespace Go.Proofs.Ytkbboepopcebaaa
open Go.RowKit

abbrev Fl := Int × Int
def flCells (f : Fl) : List Value := [.int .i64 f.1, .int .i64 f.2]
def flsOf (l : List Fl) : List Value := l.flatMap flCells
theorem flsOf_length (l : List Fl) : (flsOf l).length = l.length * 2 := by
  induction l with
  | nil => rfl
  | cons a r ih => simp only [flsOf, List.flatMap_cons, List.length_append] at *; rw [ih]; simp [flCells]; omega
theorem flsOf_append (xs ys : List Fl) : flsOf (xs ++ ys) = flsOf xs ++ flsOf ys := by simp [flsOf]
theorem flsOf_one (l : List Fl) : ∀ u ∈ flsOf l, u.oneCell' = true := by
  intro u hu
  simp only [flsOf, List.mem_flatMap, flCells] at hu
  obtain ⟨f, _, h⟩ := hu
  simp at h
  rcases h with rfl | rfl <;> rfl
theorem flsOf_at (l : List Fl) : ∀ k, k < l.length → (flsOf l)[k * 2]? = some (.int .i64 (l.getD k (0, 0)).1) ∧ (flsOf l)[k * 2 + 1]? = some (.int .i64 (l.getD k (0, 0)).2) := by
  induction l with
  | nil => intro k h; simp at h
  | cons t r ih =>
    intro k hk
    cases k with
    | zero => simp [flsOf, flCells]
    | succ k =>
      have := ih k (by simpa using hk)
      simp only [flsOf, List.flatMap_cons, List.getD_cons_succ] at *
      have hl : (flCells t).length = 2 := rfl
      rw [List.getElem?_append_right (by omega), List.getElem?_append_right (by omega), hl]
      rw [show (k + 1) * 2 - 2 = k * 2 by omega, show (k + 1) * 2 + 1 - 2 = k * 2 + 1 by omega]
      exact this
def OwnF (w : World) (B : Nat) (v : Value) (l : List Fl) : Prop := w.ownsRow B 107 2 v l.length (flsOf l)
def OwnI (w : World) (B : Nat) (v : Value) (l : List Int) : Prop := w.ownsRow B 3 1 v l.length (nums .i64 l)
theorem infoFl : (Try.prog.info? 107).map (fun i => (i.zero, i.size, i.bytes)) = some (some (.agg #[.int .i64 0, .int .i64 0]), 2, 16) := by kernel_rfl
section
variable {ops : Array Oper} {rest : List Oper} {o : Oper} {a : Act} {Q : Exit → Act → World → Prop}
/-- append(v, fields...), the fields in a block that has just been made. -/
theorem app_fld {W : World} (new : List Fl) (cs : Array Value) (m : Nat) (hcs : cs = (flsOf new).toArray) (hm : new.length = m) (s x : Operand) (hgd : o.guard = none) (ho : o.op = .call { callee := .builtin .append, args := #[s, x], argTypes := #[108, 108] })
    (B : Nat) (v : Value) (l : List Fl) (hs : a.eval s = v) (HO : Hid (OwnF W B v l)) (hx : a.eval x = .slice (some ⟨W.heap.size, 0, none⟩) m m) (hB : B ≤ W.heap.size) (hl : Hid (l.length + m ≤ 4398046511104))
    (h : ∀ v' w', OwnF w' B v' (l ++ new) → Ext W w' v v' → wpList Try.prog ops Q rest (a.put o.dst v') w') : wpList Try.prog ops Q (o :: rest) a (W.alloc (.cells cs 107)) := by
  subst hcs
  obtain ⟨i0, hi, hz0, hz1, hz2⟩ := info_parts infoFl
  have hb := below_alloc W (.cells (flsOf new).toArray 107)
  have h3 := hl.out
  have hn := World.news_of_block (w := W.alloc (.cells (flsOf new).toArray 107)) (B := W.heap.size) (cs := (flsOf new).toArray) (t := 107) (fr := (0, 0)) (heap_alloc_new W _)
  refine wpList_append_own_at _ hgd s x 108 ho B 107 i0 (.agg #[.int .i64 0, .int .i64 0]) 2 16 Try.underlying108 hi hz0 hz1 hz2 (by decide) (by decide) v l.length (flsOf l) hs (own_below HO.out hb) ⟨W.heap.size, 0, none⟩ m m (flsOf new) hx (by rw [flsOf_length, hm]) (by simpa using hn) (flsOf_one _) (by unfold maxLen; omega) (by omega) (by simp; omega) ?_
  intro v' w' hown hg _ hat
  refine h v' w' ?_ ⟨grown_trans (grown_of_below hb _) hg, ?_⟩
  · unfold OwnF
    rw [List.length_append, flsOf_append, hm]
    exact hown
  · rcases hat with e | e
    · exact .inl e
    · exact .inr ⟨_, e, by simp⟩
/-- append(v, y), one number, in its box. -/
theorem app_int {W : World} {y : Int} (s x : Operand) (hgd : o.guard = none) (ho : o.op = .call { callee := .builtin .append, args := #[s, x], argTypes := #[41, 41] })
    (B : Nat) (v : Value) (l : List Int) (hs : a.eval s = v) (HO : Hid (OwnI W B v l)) (hx : a.eval x = .slice (some ⟨W.heap.size, 0, none⟩) 1 1) (hB : B ≤ W.heap.size) (hl : Hid (l.length + 1 ≤ 4398046511104))
    (h : ∀ v' w', OwnI w' B v' (l ++ [y]) → Ext W w' v v' → wpList Try.prog ops Q rest (a.put o.dst v') w') : wpList Try.prog ops Q (o :: rest) a (W.alloc (.cells #[.int .i64 y] 3)) := by
  obtain ⟨i0, hi, hz0, hz1, hz2⟩ := info_parts infoI
  have hb := below_alloc W (.cells #[.int .i64 y] 3)
  have h3 := hl.out
  have hn := World.news_of_block (w := W.alloc (.cells #[.int .i64 y] 3)) (B := W.heap.size) (cs := #[.int .i64 y]) (t := 3) (fr := (0, 0)) (heap_alloc_new W _)
  refine wpList_append_own_at _ hgd s x 41 ho B 3 i0 (.int .i64 0) 1 8 Try.underlying41 hi hz0 hz1 hz2 rfl (by decide) v l.length (nums .i64 l) hs (own_below HO.out hb) ⟨W.heap.size, 0, none⟩ 1 1 (nums .i64 [y]) hx (by simp [nums]) (by simpa [nums] using hn) (nums_one _ _) (by unfold maxLen; omega) (by omega) (by simp; omega) ?_
  intro v' w' hown hg _ hat
  refine h v' w' ?_ ⟨grown_trans (grown_of_below hb _) hg, ?_⟩
  · unfold OwnI
    rw [List.length_append, nums_append]
    exact hown
  · rcases hat with e | e
    · exact .inl e
    · exact .inr ⟨_, e, by simp⟩
end
def MorePost (l : List Fl) (n : Nat) (f : Fl) (B : Nat) (v : Value) (w : World) (e : Ending) (w' : World) : Prop := ∃ v', e = .returned v' ∧ OwnF w' B v' (l ++ List.replicate n f) ∧ Ext w w' v v'
set_option maxRecDepth 100000 in
set_option maxHeartbeats 2000000 in
theorem more_any (v : Value) (l : List Fl) (n : Nat) (f : Fl) (B : Nat) (w : World) (h : OwnF w B v l) (hB : B ≤ w.heap.size) (hl : l.length + n ≤ 4398046511104) :
    Calls Try.prog 79 #[v, .int .i64 n, .agg #[.int .i64 f.1, .int .i64 f.2]] w (MorePost l n f B v w) := by
  obtain ⟨f1, f2⟩ := f
  have hn : (n : Int) ≤ 4398046511104 := by omega
  have hb0 := below_alloc w (.cells #[.int .i64 f1, .int .i64 f2] 107)
  have hO1 : OwnF (w.alloc (.cells #[.int .i64 f1, .int .i64 f2] 107)) B v l := own_below h hb0
  have hE1 := ext_of_below hb0 v
  have c0 := box1_at w #[.int .i64 f1, .int .i64 f2] 107 0 (.int .i64 f1) rfl
  have c1 := box1_at w #[.int .i64 f1, .int .i64 f2] 107 1 (.int .i64 f2) rfl
  have hx : w.heap.size < (w.alloc (.cells #[.int .i64 f1, .int .i64 f2] 107)).heap.size := by simp
  have hw1 : B ≤ (w.alloc (.cells #[.int .i64 f1, .int .i64 f2] 107)).heap.size := by simp; omega
  have hvx : some w.heap.size ≠ v.ownBlock := fun e => by have := own_lt h _ e.symm; omega
  go_enter Try.func79, Try.ntmps79
  go_wp2
  obtain ⟨X, hX⟩ : ∃ X, X = w.heap.size := ⟨_, rfl⟩
  obtain ⟨w1, hW⟩ : ∃ w1, w1 = w.alloc (.cells #[.int .i64 f1, .int .i64 f2] 107) := ⟨_, rfl⟩
  rw [← hW, ← hX] at c0 c1
  rw [← hW] at hO1 hE1 hx hw1
  rw [← hX] at hx hvx
  rw [← hW, ← hX]
  have HO1 := Lib.hid hO1
  have HE1 := Lib.hid hE1
  have HC0 := Lib.hid c0
  have HC1 := Lib.hid c1
  have HX := Lib.hid hx
  have HW1 := Lib.hid hw1
  have HVX := Lib.hid hvx
  have HL := Lib.hid hl
  clear hO1 hE1 c0 c1 hx hw1 hvx hX hW h hb0 hl
  go_loopw [0, 7] (fun v0 i wr => ∃ j : Nat, j ≤ n ∧ i = .int .i64 j ∧ Hid (OwnF wr B v0 (l ++ List.replicate j (f1, f2))) ∧ Hid (Ext w1 wr v v0)) (fun _ i _ => n - (intOf i).toNat)
  case atStart => exact ⟨0, Nat.zero_le _, rfl, Lib.hid (by simpa using HO1.out), Lib.hid (Ext.refl _ _)⟩
  case round =>
    obtain ⟨j, hj, rfl, ho, he⟩ := hrel
    by_cases hlt : j < n
    · have k0 := he.out.grown.cell HC0.out HVX.out
      have k1 := he.out.grown.cell HC1.out HVX.out
      have HLL : Hid ((l ++ List.replicate j (f1, f2)).length + 1 ≤ 4398046511104) := Lib.hid (by simp; have := HL.out; omega)
      have hBw : B ≤ wr.heap.size := Nat.le_trans HW1.out he.out.grown.size
      have HCS : Hid (#[Value.int .i64 f1, .int .i64 f2] = (flsOf [(f1, f2)]).toArray) := Lib.hid rfl
      go_wp2_with (at_builtin; refine app_fld [(f1, f2)] #[.int .i64 f1, .int .i64 f2] 1 HCS.out rfl (.tmp 13) (.tmp 15) rfl rfl B _ _ rfl ho rfl hBw HLL ?_; intro v5 w5 ho5 he5; have HO5 := Lib.hid ho5; have HE5 := Lib.hid he5; clear ho5 he5)
      go_roundw
      case rel => exact ⟨j + 1, by omega, by go_num, Lib.hid (by have := HO5.out; rwa [List.append_assoc, ← List.replicate_succ'] at this), Lib.hid (he.out.trans HE5.out)⟩
      case measure => exact own_meas hlt
    · obtain rfl : j = n := by omega
      go_wp2
      go_ret
      exact ⟨_, rfl, ho.out, HE1.out.trans he.out⟩
end Go.Proofs.Ytkbboepopcebaaa
namespace Go.Proofs.Ytkbboepopcebaaa
open Go.RowKit

/-- Where the reference's header stands. -/
structure HS where
  k : Nat
  types : Int
  cl : List Int
  sl : List Int
  size : Int
/-- What comes behind a field. -/
def hmore (what v : Int) : List Fl :=
  if what = 7 then List.replicate v.toNat (2, 8) ++ [(1, 9)] else if what = 9 then (if v = 3 then [(2, 10)] else [(2, 13), (1, 14)])
  else if what = 10 then List.replicate v.toNat (4, 11) ++ [(1, 12), (2, 13), (1, 14)] else []
def hupd (f : Fl) (v : Int) (s : HS) : HS :=
  if f.2 = 5 then { s with k := s.k + f.1.toNat, types := v } else if f.2 = 8 then { s with k := s.k + f.1.toNat, cl := s.cl ++ [v] }
  else if f.2 = 11 then { s with k := s.k + f.1.toNat, sl := s.sl ++ [v] } else if f.2 = 13 then { s with k := s.k + f.1.toNat, size := v } else { s with k := s.k + f.1.toNat }
/-- The reference's header, field by field, in so many steps. -/
inductive HGo (b : List Int) : Nat → List Fl → HS → Except Bad HS → Prop where
  | done (s : HS) : HGo b 0 [] s (.ok s)
  | cut (f : Fl) (q : List Fl) (s : HS) : b.length < s.k + f.1.toNat → HGo b 0 (f :: q) s (.error (50, b.length))
  | bad (f : Fl) (q : List Fl) (s : HS) (v : Int) : num b s.k f.1.toNat = v → ¬ b.length < s.k + f.1.toNat → ¬ wrongF f.2 v s.types = 0 → HGo b 0 (f :: q) s (.error (wrongF f.2 v s.types, s.k))
  | step (n : Nat) (f : Fl) (q : List Fl) (s : HS) (v : Int) (R : Except Bad HS) : num b s.k f.1.toNat = v → ¬ b.length < s.k + f.1.toNat → wrongF f.2 v s.types = 0 → HGo b n (q ++ hmore f.2 v) (hupd f v s) R → HGo b (n + 1) (f :: q) s R
theorem HGo.inv {b : List Int} {n : Nat} {f : Fl} {q : List Fl} {s : HS} {R : Except Bad HS} (h : HGo b n (f :: q) s R) :
    (b.length < s.k + f.1.toNat ∧ R = .error (50, b.length)) ∨ (¬ b.length < s.k + f.1.toNat ∧ ¬ wrongF f.2 (num b s.k f.1.toNat) s.types = 0 ∧ R = .error (wrongF f.2 (num b s.k f.1.toNat) s.types, s.k)) ∨
    (¬ b.length < s.k + f.1.toNat ∧ wrongF f.2 (num b s.k f.1.toNat) s.types = 0 ∧ ∃ m, n = m + 1 ∧ HGo b m (q ++ hmore f.2 (num b s.k f.1.toNat)) (hupd f (num b s.k f.1.toNat) s) R) := by
  cases h with
  | cut _ _ _ h => exact .inl ⟨h, rfl⟩
  | bad _ _ _ v e h1 h2 => subst e; exact .inr (.inl ⟨h1, h2, rfl⟩)
  | step n _ _ _ v _ e h1 h2 h3 => subst e; exact .inr (.inr ⟨h1, h2, n, rfl, h3⟩)
theorem HGo.nil {b : List Int} {n : Nat} {s : HS} {R : Except Bad HS} (h : HGo b n [] s R) : R = .ok s := by cases h; rfl
def Kind (f : Fl) : Prop := f = (1, 1) ∨ f = (1, 2) ∨ f = (1, 3) ∨ f = (1, 4) ∨ f = (2, 5) ∨ f = (1, 6) ∨ f = (2, 7) ∨ f = (2, 8) ∨ f = (1, 9) ∨ f = (2, 10) ∨ f = (4, 11) ∨ f = (1, 12) ∨ f = (2, 13) ∨ f = (1, 14)
theorem kind_more (what v : Int) : ∀ f ∈ hmore what v, Kind f := by
  intro f hf
  unfold hmore at hf
  unfold Kind
  split at hf
  · simp at hf; rcases hf with ⟨_, rfl⟩ | rfl <;> simp
  · split at hf
    · split at hf
      · simp at hf; subst hf; simp
      · simp at hf; rcases hf with rfl | rfl <;> simp
    · split at hf
      · simp at hf; rcases hf with ⟨_, rfl⟩ | rfl | rfl | rfl <;> simp
      · simp at hf
theorem more_len (what v : Int) (hv : v ≤ 65535) : (hmore what v).length ≤ 70000 := by
  unfold hmore
  split
  · simp; omega
  · split
    · split <;> simp
    · split
      · simp; omega
      · simp
def fields0 : List Fl := [(1, 1), (1, 2), (1, 3), (1, 4), (2, 5), (1, 6), (2, 7)]
def hs0 : HS := ⟨0, 0, [], [], 0⟩
/-- What the reference's header hands back. -/
def HPost (R : Except Bad HS) (w : World) (e : Ending) (w' : World) : Prop := Below w.heap.size w w' ∧ match R with
  | .ok s => ∃ v2 v3, e = .returned (.tuple #[v2, v3, .int .i64 s.size, .int .i64 (s.k : Int), .int .i64 0, .int .i64 0]) ∧ NumsV w' .i64 v2 s.cl ∧ NumsV w' .i64 v3 s.sl
  | .error x => e = .returned (.tuple #[.slice none 0 0, .slice none 0 0, .int .i64 0, .int .i64 0, .int .i64 x.1, .int .i64 x.2])
theorem hp_err {R : Except Bad HS} {x : Bad} {w w' : World} (h : R = .error x) (hb : Below w.heap.size w w') : HPost R w (.returned (.tuple #[.slice none 0 0, .slice none 0 0, .int .i64 0, .int .i64 0, .int .i64 x.1, .int .i64 x.2])) w' := by subst h; exact ⟨hb, rfl⟩
/-- The loop's state. -/
structure HRel (b : List Int) (R : Except Bad HS) (w : World) (n : Nat) (v2 v3 v4 v8 v9 v10 v11 : Value) (wr : World) (fl : List Fl) (i : Nat) (s : HS) : Prop where
  hi : v11 = .int .i64 (i : Int)
  hil : i ≤ fl.length
  hk : v10 = .int .i64 (s.k : Int)
  hkb : s.k ≤ b.length
  hik : i ≤ s.k
  ht : v9 = .int .i64 s.types
  hsz : v4 = .int .i64 s.size
  hof : OwnF wr w.heap.size v8 fl
  hoc : OwnI wr w.heap.size v2 s.cl
  hos : OwnI wr w.heap.size v3 s.sl
  hne : v2.ownBlock = none ∨ v2.ownBlock ≠ v3.ownBlock
  hcl : s.cl.length ≤ i
  hsl : s.sl.length ≤ i
  hfll : fl.length ≤ 7 + i * 70000
  hkinds : ∀ f ∈ fl, Kind f
  hbelow : Below w.heap.size w wr
  hgo : HGo b n (fl.drop i) s R
theorem own_shapeF {w : World} {B : Nat} {v : Value} {l : List Fl} (h : OwnF w B v l) (hl : 0 < l.length) : ∃ g cap, v = .slice (some ⟨g, 0, none⟩) l.length cap ∧ ∀ j, j < l.length → w.cell? ⟨g, j * 2, none⟩ = some (.int .i64 (l.getD j (0, 0)).1) ∧ w.cell? ⟨g, j * 2 + 1, none⟩ = some (.int .i64 (l.getD j (0, 0)).2) := by
  obtain ⟨A, cap, e, _⟩ := own_shape h
  subst e
  obtain ⟨g, rfl⟩ := RowI.shape h hl
  refine ⟨g, cap, rfl, fun j hj => ?_⟩
  obtain ⟨h1, h2⟩ := flsOf_at l j hj
  exact ⟨by rw [h.cellAt (j * 2) (by omega)]; exact h1, by rw [h.cellAt (j * 2 + 1) (by omega)]; exact h2⟩
theorem own_ext {w w' : World} {B B2 n n2 s s2 : Nat} {e e2 : TypeId} {v v' u : Value} {xs ys : List Value} (h : Ext w w' v v') (hv : w.ownsRow B e s v n xs) (hu : w.ownsRow B2 e2 s2 u n2 ys) (hne : e2 ≠ e) : w'.ownsRow B2 e2 s2 u n2 ys := own_other hu h.grown (own_type_ne hu hv hne)
theorem ext_keep {w w' : World} {B2 : Nat} {v v' u : Value} {l2 : List Int} (h : Ext w w' v v') (hu : OwnI w B2 u l2) (hne : v.ownBlock = none ∨ v.ownBlock ≠ u.ownBlock) : OwnI w' B2 u l2 ∧ (v'.ownBlock = none ∨ v'.ownBlock ≠ u.ownBlock) := by
  have hlt : ∀ k, u.ownBlock = some k → k < w.heap.size := fun k hk => own_lt hu k hk
  refine ⟨own_other hu h.grown ?_, ?_⟩
  · cases hu2 : u.ownBlock with
    | none => exact .inl rfl
    | some k =>
      refine .inr fun e => ?_
      rcases hne with e2 | e2
      · rw [e2] at e; simp at e
      · exact e2 (by rw [← e, hu2])
  · rcases h.lies with e | ⟨b, e, hb⟩
    · rw [e]; exact hne
    · refine .inr fun e2 => ?_
      have := hlt b (by rw [← e2, e])
      omega
theorem drop_cons {α : Type} (l : List α) (i : Nat) (d : α) (h : i < l.length) : l.drop i = l.getD i d :: l.drop (i + 1) := by
  rw [List.drop_eq_getElem_cons h]; simp [List.getD_eq_getElem?_getD, h]
theorem hupd_k (f : Fl) (v : Int) (s : HS) : (hupd f v s).k = s.k + f.1.toNat := by
  unfold hupd
  by_cases h1 : f.2 = 5
  · rw [if_pos h1]
  · rw [if_neg h1]
    by_cases h2 : f.2 = 8
    · rw [if_pos h2]
    · rw [if_neg h2]
      by_cases h3 : f.2 = 11
      · rw [if_pos h3]
      · rw [if_neg h3]
        by_cases h4 : f.2 = 13
        · rw [if_pos h4]
        · rw [if_neg h4]
theorem hupd_cl (f : Fl) (v : Int) (s : HS) : (hupd f v s).cl.length ≤ s.cl.length + 1 := by
  unfold hupd
  by_cases h1 : f.2 = 5
  · rw [if_pos h1]; simp
  · rw [if_neg h1]
    by_cases h2 : f.2 = 8
    · rw [if_pos h2]; simp
    · rw [if_neg h2]
      by_cases h3 : f.2 = 11
      · rw [if_pos h3]; simp
      · rw [if_neg h3]
        by_cases h4 : f.2 = 13
        · rw [if_pos h4]; simp
        · rw [if_neg h4]; simp
theorem hupd_sl (f : Fl) (v : Int) (s : HS) : (hupd f v s).sl.length ≤ s.sl.length + 1 := by
  unfold hupd
  by_cases h1 : f.2 = 5
  · rw [if_pos h1]; simp
  · rw [if_neg h1]
    by_cases h2 : f.2 = 8
    · rw [if_pos h2]; simp
    · rw [if_neg h2]
      by_cases h3 : f.2 = 11
      · rw [if_pos h3]; simp
      · rw [if_neg h3]
        by_cases h4 : f.2 = 13
        · rw [if_pos h4]; simp
        · rw [if_neg h4]; simp
theorem HRel.step {b : List Int} {R : Except Bad HS} {w : World} {n m : Nat} {v2 v3 v4 v8 v9 v10 v11 : Value} {wr : World} {fl : List Fl} {i : Nat} {s : HS} (H : HRel b R w n v2 v3 v4 v8 v9 v10 v11 wr fl i s) (hi : i < fl.length)
    {f : Fl} {v : Int} (hcut : ¬ b.length < s.k + f.1.toNat) (hf : 1 ≤ f.1.toNat) (hml : (hmore f.2 v).length ≤ 70000) (hgo : HGo b m (fl.drop (i + 1) ++ hmore f.2 v) (hupd f v s) R)
    {u2 u3 u4 u8 u9 u10 u11 : Value} {w' : World} (e11 : u11 = .int .i64 ((i + 1 : Nat) : Int)) (e10 : u10 = .int .i64 ((s.k + f.1.toNat : Nat) : Int)) (e9 : u9 = .int .i64 (hupd f v s).types) (e4 : u4 = .int .i64 (hupd f v s).size)
    (hof : OwnF w' w.heap.size u8 (fl ++ hmore f.2 v)) (hoc : OwnI w' w.heap.size u2 (hupd f v s).cl) (hos : OwnI w' w.heap.size u3 (hupd f v s).sl) (hne : u2.ownBlock = none ∨ u2.ownBlock ≠ u3.ownBlock) (hb : Below w.heap.size w w') :
    HRel b R w m u2 u3 u4 u8 u9 u10 u11 w' (fl ++ hmore f.2 v) (i + 1) (hupd f v s) := by
  have hk := hupd_k f v s
  have hcl := hupd_cl f v s
  have hsl := hupd_sl f v s
  have h1 := H.hik
  have h2 := H.hcl
  have h3 := H.hsl
  have h4 := H.hfll
  refine ⟨e11, by simp; omega, by rw [hk]; exact e10, by rw [hk]; omega, by rw [hk]; omega, e9, e4, hof, hoc, hos, hne, by omega, by omega, by simp; omega, fun g hg => ?_, hb, ?_⟩
  · rcases List.mem_append.1 hg with hg | hg
    · exact H.hkinds g hg
    · exact kind_more _ _ g hg
  · rw [List.drop_append_of_le_length (by omega)]
    exact hgo
end Go.Proofs.Ytkbboepopcebaaa
namespace Go.Proofs.Ytkbboepopcebaaa
open Go.RowKit

theorem takeB_needB {α β : Type} {b : List Int} {a : Nat} {v er : Int} {k : Except Bad α} {f : α → Except Bad β} : takeB (needB b a v er k) f = needB b a v er (takeB k f) := by
  unfold needB; split <;> (try split) <;> rfl
theorem takeB_readB {α β : Type} {b : List Int} {a s : Nat} {k : Int → Except Bad α} {f : α → Except Bad β} : takeB (readB b a s k) f = readB b a s fun v => takeB (k v) f := by
  unfold readB; split <;> rfl
theorem takeB_askB {α β : Type} {p : Bool} {er x : Int} {k : Except Bad α} {f : α → Except Bad β} : takeB (askB p er x k) f = askB p er x (takeB k f) := by
  unfold askB; split <;> rfl
theorem takeB_takeB {α β γ : Type} {x : Except Bad α} {g : α → Except Bad β} {f : β → Except Bad γ} : takeB (takeB x g) f = takeB x fun v => takeB (g v) f := by
  cases x <;> rfl
theorem takeB_ite {α β : Type} {p : Prop} [Decidable p] {x y : Except Bad α} {f : α → Except Bad β} : takeB (if p then x else y) f = if p then takeB x f else takeB y f := by
  split <;> rfl
theorem takeB_good {α β : Type} {v : α} {f : α → Except Bad β} : takeB (.ok v) f = f v := rfl
theorem takeB_congr {α β : Type} {x : Except Bad α} {f g : α → Except Bad β} (h : ∀ v, x = .ok v → f v = g v) : takeB x f = takeB x g := by
  cases x with
  | ok v => exact h v rfl
  | error e => rfl
theorem askB_congr {α : Type} {p : Bool} {er x : Int} {k k' : Except Bad α} (h : p = true → k = k') : askB p er x k = askB p er x k' := by
  unfold askB
  split
  · rename_i h1; exact h h1
  · rfl
/-- The header's end. -/
def hEnd (b : List Int) (types : Int) (cl sl : List Int) (a : Nat) : Except Bad HS :=
  readB b a 2 fun size => needB b (a + 2) 0 53 <| .ok ⟨a + 3, types, cl, sl, size⟩
/-- The header, plain. -/
def hdr (b : List Int) : Except Bad HS :=
  needB b 0 239 51 <| needB b 1 0 51 <| needB b 2 1 52 <| needB b 3 1 53 <|
  readB b 4 2 fun four =>
  askB (decide (0 < four ∧ four % 4 = 0 ∧ four ≤ 4096)) 54 4 <|
  needB b 6 2 53 <|
  readB b 7 2 fun n =>
  askB (decide (4 * n = four)) 55 7 <|
  takeB (szs b 2 n.toNat 9) fun codes =>
  readB b (9 + 2 * n.toNat) 1 fun kind =>
  askB (decide (kind = 3 ∨ kind = 255)) 53 (9 + 2 * n.toNat : Nat) <|
  if kind = 3 then
    readB b (10 + 2 * n.toNat) 2 fun m =>
    askB (decide (0 < m ∧ m ≤ 256)) 57 (10 + 2 * n.toNat : Nat) <|
    takeB (szs b 4 m.toNat (12 + 2 * n.toNat)) fun subs =>
    needB b (12 + 2 * n.toNat + 4 * m.toNat) 255 53 <|
    hEnd b four codes subs (13 + 2 * n.toNat + 4 * m.toNat)
  else hEnd b four codes [] (10 + 2 * n.toNat)
/-- What comes behind the header. -/
def ptail (b : List Int) (o : Bool) (h : HS) : Except Bad Cont :=
  if (b.length : Int) < (h.k : Int) + 4 * (h.cl.length : Int) + h.cl.sum + h.sl.sum ∨ (o = false ∧ (b.length : Int) < (h.k : Int) + 4 * (h.cl.length : Int) + h.cl.sum + h.sl.sum + h.size) then .error (50, b.length) else
  askB (decide ((b.length : Int) ≤ (h.k : Int) + 4 * (h.cl.length : Int) + h.cl.sum + h.sl.sum + h.size)) 58 ((h.k : Int) + 4 * (h.cl.length : Int) + h.cl.sum + h.sl.sum + h.size) <|
  takeB (tysR b h.cl.length true h.k) fun ts =>
  .ok ⟨ts, cutL b h.cl (h.k + 4 * h.cl.length), cutL b h.sl (h.k + 4 * h.cl.length + h.cl.sum.toNat), b.drop (h.k + 4 * h.cl.length + h.cl.sum.toNat + h.sl.sum.toNat), h.size⟩
theorem hEnd_tail (b : List Int) (o : Bool) (four n : Int) (cl sl : List Int) (a : Nat) (h1 : 4 * n = four) (h2 : cl.length = n.toNat) (h3 : 0 ≤ n) : parseEnd b o four n cl sl a = takeB (hEnd b four cl sl a) (ptail b o) := by
  unfold parseEnd hEnd
  rw [takeB_readB]
  congr 1
  funext size
  rw [takeB_needB, takeB_good]
  unfold ptail
  have e : four = 4 * (cl.length : Int) := by omega
  subst e
  rw [h2]
theorem parse_hdr (b : List Int) (o : Bool) : parse b o = takeB (hdr b) (ptail b o) := by
  unfold parse hdr
  simp only [takeB_needB, takeB_readB, takeB_askB, takeB_takeB, takeB_ite]
  congr 4
  congr 1
  funext four
  refine askB_congr fun h4 => ?_
  have h4 := of_decide_eq_true h4
  congr 1
  congr 1
  funext n
  refine askB_congr fun hn => ?_
  have hn := of_decide_eq_true hn
  refine takeB_congr fun codes hc => ?_
  have hl := szs_len hc
  congr 1
  funext kind
  refine askB_congr fun _ => ?_
  split
  · congr 1
    funext m
    refine askB_congr fun _ => ?_
    refine takeB_congr fun subs hs => ?_
    congr 1
    exact hEnd_tail b o four n codes subs _ hn hl (by omega)
  · exact hEnd_tail b o four n codes [] _ hn hl (by omega)
end Go.Proofs.Ytkbboepopcebaaa
namespace Go.Proofs.Ytkbboepopcebaaa
open Go.RowKit

def GoesTo (b : List Int) (q : List Fl) (s : HS) (R : Except Bad HS) : Prop := ∃ n, HGo b n q s R
theorem go_done {b : List Int} {s : HS} : GoesTo b [] s (.ok s) := ⟨0, .done s⟩
theorem go_read {b : List Int} {q : List Fl} {f : Fl} {s : HS} {a sz : Nat} {k : Int → Except Bad HS} (ha : s.k = a) (hz : f.1.toNat = sz)
    (h : ∀ v, v = num b a sz → (wrongF f.2 v s.types = 0 ∧ GoesTo b (q ++ hmore f.2 v) (hupd f v s) (k v)) ∨ (¬ wrongF f.2 v s.types = 0 ∧ k v = .error (wrongF f.2 v s.types, a))) : GoesTo b (f :: q) s (readB b a sz k) := by
  subst ha
  subst hz
  unfold readB
  by_cases hc : b.length < s.k + f.1.toNat
  · rw [if_pos hc]
    exact ⟨0, .cut f q s hc⟩
  · rw [if_neg hc]
    rcases h _ rfl with ⟨h1, n, h2⟩ | ⟨h1, h2⟩
    · exact ⟨n + 1, .step n f q s _ _ rfl hc h1 h2⟩
    · rw [h2]
      exact ⟨0, .bad f q s _ rfl hc h1⟩
theorem go_rask {b : List Int} {q : List Fl} {f : Fl} {s : HS} {a sz : Nat} {p : Int → Prop} [∀ v, Decidable (p v)] {er : Int} {k : Int → Except Bad HS} (ha : s.k = a) (hz : f.1.toNat = sz)
    (hw : ∀ v, wrongF f.2 v s.types = if p v then 0 else er) (he : er ≠ 0)
    (h : ∀ v, v = num b a sz → p v → GoesTo b (q ++ hmore f.2 v) (hupd f v s) (k v)) : GoesTo b (f :: q) s (readB b a sz fun v => askB (decide (p v)) er a (k v)) := by
  refine go_read ha hz fun v hv => ?_
  have hwv := hw v
  by_cases hp : p v
  · rw [if_pos hp] at hwv
    refine .inl ⟨hwv, ?_⟩
    unfold askB
    rw [if_pos (decide_eq_true hp)]
    exact h v hv hp
  · rw [if_neg hp] at hwv
    refine .inr ⟨by rw [hwv]; exact he, ?_⟩
    unfold askB
    rw [if_neg (by simp [hp]), hwv]
theorem needB_read {α : Type} {b : List Int} {a : Nat} {x er : Int} {k : Except Bad α} : needB b a x er k = readB b a 1 fun v => askB (decide (v = x)) er a k := by
  unfold needB readB askB
  by_cases h : num b a 1 = x <;> simp [h]
theorem go_need {b : List Int} {q : List Fl} {f : Fl} {s : HS} {a : Nat} {x er : Int} {k : Except Bad HS} (ha : s.k = a) (hz : f.1.toNat = 1)
    (hw : ∀ v, wrongF f.2 v s.types = if v = x then 0 else er) (he : er ≠ 0) (h : GoesTo b (q ++ hmore f.2 x) (hupd f x s) k) : GoesTo b (f :: q) s (needB b a x er k) := by
  rw [needB_read]
  refine go_rask (p := fun v => v = x) ha hz hw he fun v _ hv => ?_
  subst hv
  exact h
theorem szs_read {α : Type} {b : List Int} {s k a : Nat} {F : List Int → Except Bad α} : takeB (szs b s (k + 1) a) F = readB b a s fun v => askB (decide (0 < v)) 56 a (takeB (szs b s k (a + s)) fun l => F (v :: l)) := by
  simp only [szs]
  unfold readB askB
  by_cases h1 : b.length < a + s
  · simp [h1, takeB]
  · by_cases h2 : num b a s ≤ 0
    · have h3 : ¬ 0 < num b a s := by omega
      simp [h1, h2, h3, takeB]
    · have h3 : 0 < num b a s := by omega
      simp only [h1, h2, h3, if_false, decide_true, if_true]
      cases szs b s k (a + s) <;> rfl
theorem go_codes (b : List Int) (q : List Fl) : ∀ (m : Nat) (s : HS) (a : Nat) (F : List Int → Except Bad HS), s.k = a →
    (∀ l, l.length = m → GoesTo b q ⟨s.k + 2 * m, s.types, s.cl ++ l, s.sl, s.size⟩ (F l)) → GoesTo b (List.replicate m (2, 8) ++ q) s (takeB (szs b 2 m a) F)
  | 0, s, a, F, _, h => by simpa [szs, takeB] using h [] rfl
  | m + 1, s, a, F, ha, h => by
    rw [szs_read]
    refine go_rask (f := (2, 8)) (p := fun v => 0 < v) ha rfl (fun v => by simp [wrongF]) (by decide) fun v _ _ => ?_
    have e : hmore ((2, 8) : Fl).2 v = [] := by simp [hmore]
    rw [e, List.append_nil]
    refine go_codes b q m _ (a + 2) _ (by rw [hupd_k, ha]; rfl) fun l hl => ?_
    have := h (v :: l) (by simp [hl])
    have e2 : s.k + 2 * (m + 1) = s.k + 2 + 2 * m := by omega
    simpa [hupd, e2] using this
theorem go_subs (b : List Int) (q : List Fl) : ∀ (m : Nat) (s : HS) (a : Nat) (F : List Int → Except Bad HS), s.k = a →
    (∀ l, l.length = m → GoesTo b q ⟨s.k + 4 * m, s.types, s.cl, s.sl ++ l, s.size⟩ (F l)) → GoesTo b (List.replicate m (4, 11) ++ q) s (takeB (szs b 4 m a) F)
  | 0, s, a, F, _, h => by simpa [szs, takeB] using h [] rfl
  | m + 1, s, a, F, ha, h => by
    rw [szs_read]
    refine go_rask (f := (4, 11)) (p := fun v => 0 < v) ha rfl (fun v => by simp [wrongF]) (by decide) fun v _ _ => ?_
    have e : hmore ((4, 11) : Fl).2 v = [] := by simp [hmore]
    rw [e, List.append_nil]
    refine go_subs b q m _ (a + 4) _ (by rw [hupd_k, ha]; rfl) fun l hl => ?_
    have := h (v :: l) (by simp [hl])
    have e2 : s.k + 4 * (m + 1) = s.k + 4 + 4 * m := by omega
    simpa [hupd, e2] using this
theorem go_end (b : List Int) (s : HS) (a : Nat) (types : Int) (cl sl : List Int) (ha : s.k = a) (ht : s.types = types) (hc : s.cl = cl) (hl : s.sl = sl) : GoesTo b [(2, 13), (1, 14)] s (hEnd b types cl sl a) := by
  subst ha ht hc hl
  unfold hEnd
  refine go_read (f := (2, 13)) rfl rfl fun v _ => .inl ⟨by simp [wrongF], ?_⟩
  refine go_need (f := (1, 14)) rfl rfl (fun v => by simp [wrongF]) (by decide) ?_
  exact go_done
theorem hdr_go (b : List Int) : GoesTo b fields0 hs0 (hdr b) := by
  unfold hdr fields0
  refine go_need (f := (1, 1)) rfl rfl (fun v => by simp [wrongF]) (by decide) ?_
  refine go_need (f := (1, 2)) rfl rfl (fun v => by simp [wrongF]) (by decide) ?_
  refine go_need (f := (1, 3)) rfl rfl (fun v => by simp [wrongF]) (by decide) ?_
  refine go_need (f := (1, 4)) rfl rfl (fun v => by simp [wrongF]) (by decide) ?_
  refine go_rask (f := (2, 5)) (p := fun four => 0 < four ∧ four % 4 = 0 ∧ four ≤ 4096) rfl rfl (fun v => by simp [wrongF]) (by decide) fun four _ _ => ?_
  refine go_need (f := (1, 6)) rfl rfl (fun v => by simp [wrongF]) (by decide) ?_
  refine go_rask (f := (2, 7)) (p := fun n => 4 * n = four) rfl rfl (fun v => rfl) (by decide) fun n _ _ => ?_
  show GoesTo b (List.replicate n.toNat (2, 8) ++ [(1, 9)]) ⟨9, four, [], [], 0⟩ _
  refine go_codes b [(1, 9)] n.toNat _ 9 _ rfl fun codes hcl => ?_
  refine go_rask (f := (1, 9)) (p := fun kind => kind = 3 ∨ kind = 255) (by show 9 + 2 * n.toNat = _; rfl) rfl (fun v => rfl) (by decide) fun kind _ _ => ?_
  show GoesTo b (hmore 9 kind) ⟨9 + 2 * n.toNat + 1, four, [] ++ codes, [], 0⟩ _
  by_cases hk : kind = 3
  · subst hk
    rw [if_pos rfl]
    show GoesTo b [(2, 10)] _ _
    refine go_rask (f := (2, 10)) (p := fun m => 0 < m ∧ m ≤ 256) (by show 9 + 2 * n.toNat + 1 = _; omega) rfl (fun v => rfl) (by decide) fun m _ _ => ?_
    show GoesTo b (List.replicate m.toNat (4, 11) ++ [(1, 12), (2, 13), (1, 14)]) ⟨9 + 2 * n.toNat + 1 + 2, four, [] ++ codes, [], 0⟩ _
    refine go_subs b [(1, 12), (2, 13), (1, 14)] m.toNat _ _ _ (by show 9 + 2 * n.toNat + 1 + 2 = _; omega) fun subs hsl => ?_
    refine go_need (f := (1, 12)) (by show 9 + 2 * n.toNat + 1 + 2 + 4 * m.toNat = _; omega) rfl (fun v => by simp [wrongF]) (by decide) ?_
    refine go_end b _ _ _ _ _ (by show 9 + 2 * n.toNat + 1 + 2 + 4 * m.toNat + 1 = _; omega) rfl rfl rfl
  · rw [if_neg hk]
    have e : hmore 9 kind = [(2, 13), (1, 14)] := by simp [hmore, hk]
    rw [e]
    refine go_end b _ _ _ _ _ (by show 9 + 2 * n.toNat + 1 = _; omega) rfl rfl rfl
end Go.Proofs.Ytkbboepopcebaaa
