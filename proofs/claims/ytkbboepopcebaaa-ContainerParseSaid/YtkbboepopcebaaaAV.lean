/- writes: Serialize and Size on both sides; ContainerWrites: the walks. -/
import Derived.Test.YtkbboepopcebaaaAR
namespace Go.Proofs.Ytkbboepopcebaaa
open Go.RowKit

theorem sumL_wt (ll : List (List Int)) : sumL ll = wt ll := by
  induction ll with
  | nil => rfl
  | cons a r ih => unfold sumL wt at *; simp [ih]
theorem serR_len {c : Cont} (h : Fits c) : (serR c).length ≤ reach := by
  unfold serR
  split
  · rename_i h0
    have hm := may_of c h0
    rw [serB_length c hm.types, sumL_wt, sumL_wt]
    unfold Fits at h
    unfold reach
    split <;> omega
  · simp [reach]
theorem ContV.open {w : World} {v : Value} {c : Cont} (h : ContV w v c) : ∃ A0 m0 c0 A1 m1 c1 A2 m2 c2 A3 m3 c3 s, v = .agg #[.slice A0 m0 c0, .slice A1 m1 c1, .slice A2 m2 c2, .slice A3 m3 c3, .int .i64 s] := by
  obtain ⟨vt, vc, vs, vd, rfl, ⟨A0, c0, rfl, _⟩, ⟨A1, c1, rfl, _⟩, ⟨A2, c2, rfl, _⟩, ⟨A3, c3, rfl, _⟩⟩ := h
  exact ⟨A0, _, c0, A1, _, c1, A2, _, c2, A3, _, c3, _, rfl⟩
/-- Bytes of the call's own, opened. -/
theorem Own8.open {w : World} {B : Nat} {v : Value} {l : List Int} (h : Own8 w B v l) (hr : l.length ≤ reach) : ∃ A c, v = .slice A l.length c ∧ NumsR w .u8 A l := by
  obtain ⟨A, c, e, _, _, h⟩ := h.reads hr
  exact ⟨A, c, e, h⟩
theorem NumsR.keep {B : Nat} {w w1 : World} {k : IntKind} {A : Option Addr} {l : List Int} (h : NumsR w k A l) (hb : Below B w w1) (hB : w.heap.size ≤ B) : NumsR w1 k A l := h.mono ⟨hb.os, hb.tape, hb.output, hb.size, fun i hi => hb.block i (by omega)⟩

set_option maxRecDepth 100000 in
set_option maxHeartbeats 8000000 in
theorem writes_any (v1 v2 : Value) (c : Cont) (W1 : World) (h1 : ContV W1 v1 c) (h2 : ContV W1 v2 c) (hf : Fits c) : Calls Try.prog 22 #[v1, v2] W1 (TruePost W1) := by
  obtain ⟨A0, n0, c0, A1, n1, c1, A2, n2, c2, A3, n3, c3, sz, rfl⟩ := h1.open
  obtain ⟨B0, m0, d0, B1, m1, d1, B2, m2, d2, B3, m3, d3, s2, rfl⟩ := h2.open
  obtain ⟨ce, hce⟩ : ∃ ce, ce = checkErr c := ⟨_, rfl⟩
  obtain ⟨sb, hsb⟩ : ∃ sb, sb = serR c := ⟨_, rfl⟩
  obtain ⟨sn, hsn⟩ : ∃ sn, sn = sizeN c := ⟨_, rfl⟩
  have HV1 := Lib.hid h1
  have HV2 := Lib.hid h2
  have HF := Lib.hid hf
  have hl := serR_len hf
  rw [← hsb] at hl
  have HL := Lib.hid hl
  have HCE := Lib.hid hce
  have HSB := Lib.hid hsb
  have HSN := Lib.hid hsn
  clear h1 h2 hf hce hsb hsn hl
  go_enter Try.func22, Try.ntmps22
  go_wp2_with fail
  obtain ⟨W2, hW2⟩ : ∃ W2, W2 = W1.alloc (.cells #[.slice A0 n0 c0, .slice A1 n1 c1, .slice A2 n2 c2, .slice A3 n3 c3, .int .i64 sz] 28) := ⟨_, rfl⟩
  obtain ⟨Xa, hXa⟩ : ∃ Xa, Xa = W1.heap.size := ⟨_, rfl⟩
  have hb : Below W1.heap.size W1 W2 := by rw [hW2]; exact below_alloc _ _
  have hx : CC W2 Xa (.slice A0 n0 c0) (.slice A1 n1 c1) (.slice A2 n2 c2) (.slice A3 n3 c3) (.int .i64 sz) := by rw [hW2, hXa]; exact CC.new _ _ _ _ _ _
  have HZa : Hid (W2.heap.size = Xa + 1) := Lib.hid (by rw [hW2, hXa]; simp)
  obtain ⟨Ma, hMa⟩ : ∃ Ma, Ma = W2.heap.size := ⟨_, rfl⟩
  have hxm : Xa < Ma := by rw [hMa]; exact hx.lt
  have HXa := Lib.hid hx
  have HXMa := Lib.hid hxm
  have HMa := Lib.hid hMa
  have HSa : Hid (W1.heap.size ≤ Ma) := Lib.hid (by rw [hMa]; exact hb.size)
  have HBa_2 : Hid (Below Ma W2 W2) := Lib.hid (Below.refl _ _)
  have HV12 := Lib.hid (HV1.out.mono hb)
  have HV22 := Lib.hid (HV2.out.mono hb)
  have HBW2 := Lib.hid hb
  rw [← hW2, ← hXa]
  clear hx hxm hMa hW2 hXa hb
  obtain ⟨W3, hW3⟩ : ∃ W3, W3 = W2.alloc (.cells #[.slice B0 m0 d0, .slice B1 m1 d1, .slice B2 m2 d2, .slice B3 m3 d3, .int .i64 s2] 28) := ⟨_, rfl⟩
  obtain ⟨Xb, hXb⟩ : ∃ Xb, Xb = Xa + 1 := ⟨_, rfl⟩
  have hb : Below W2.heap.size W2 W3 := by rw [hW3]; exact below_alloc _ _
  have hx : CC W3 Xb (.slice B0 m0 d0) (.slice B1 m1 d1) (.slice B2 m2 d2) (.slice B3 m3 d3) (.int .i64 s2) := by rw [hW3, hXb, ← HZa.out]; exact CC.new _ _ _ _ _ _
  have HZb : Hid (W3.heap.size = Xb + 1) := Lib.hid (by rw [hW3, hXb]; simp; rw [HZa.out])
  obtain ⟨Mb, hMb⟩ : ∃ Mb, Mb = W3.heap.size := ⟨_, rfl⟩
  have hxm : Xb < Mb := by rw [hMb]; exact hx.lt
  have HXb := Lib.hid hx
  have HXMb := Lib.hid hxm
  have HMb := Lib.hid hMb
  have HSb : Hid (W2.heap.size ≤ Mb) := Lib.hid (by rw [hMb]; exact hb.size)
  have HBb_3 : Hid (Below Mb W3 W3) := Lib.hid (Below.refl _ _)
  have HBa_3 : Hid (Below Ma W2 W3) := Lib.hid (below_go HBa_2.out hb (by rw [HMa.out]; exact HBa_2.out.size))
  have HV13 := Lib.hid (HV12.out.mono hb)
  have HV23 := Lib.hid (HV22.out.mono hb)
  have HBW := Lib.hid (below_step HBW2.out hb)
  rw [← hW3, ← hXb]
  clear hx hxm hMb hW3 hXb hb
  have hxx := HXa.out.below HBa_3.out HXMa.out
  have t0 := hxx.c0
  have t1 := hxx.c1
  have t2 := hxx.c2
  have t3 := hxx.c3
  have t4 := hxx.c4
  clear hxx
  have hk := ser_any _ c W3 HV13.out
  rw [← HCE.out, ← HSB.out] at hk
  refine (hk).mono ?_
  clear hk
  rintro e W4 ⟨v3, rfl, ho, hb⟩
  have HBa_4 : Hid (Below Ma W2 W4) := Lib.hid (below_go HBa_3.out hb (by rw [HMa.out]; exact HBa_3.out.size))
  have HBb_4 : Hid (Below Mb W3 W4) := Lib.hid (below_go HBb_3.out hb (by rw [HMb.out]; exact HBb_3.out.size))
  obtain ⟨D1, e1, rfl, hr⟩ := ho.open HL.out
  have HR1 := Lib.hid hr
  clear ho hr hb
  clear t0 t1 t2 t3 t4
  have hxx := HXb.out.below HBb_4.out HXMb.out
  have s0 := hxx.c0
  have s1 := hxx.c1
  have s2 := hxx.c2
  have s3 := hxx.c3
  have s4 := hxx.c4
  clear hxx
  go_wp2_with fail
  have hk := rser_any _ c W4 (HV23.out.keep HBb_4.out (by rw [HMb.out]; exact Nat.le_refl _))
  rw [← HCE.out, ← HSB.out] at hk
  refine (hk).mono ?_
  clear hk
  rintro e W5 ⟨v4, rfl, ho, hb⟩
  have HBa_5 : Hid (Below Ma W2 W5) := Lib.hid (below_go HBa_4.out hb (by rw [HMa.out]; exact HBa_4.out.size))
  have HBb_5 : Hid (Below Mb W3 W5) := Lib.hid (below_go HBb_4.out hb (by rw [HMb.out]; exact HBb_4.out.size))
  obtain ⟨D2, e2, rfl, hr⟩ := ho.open HL.out
  have HR2 := Lib.hid hr
  have HR3 := Lib.hid (HR1.out.mono hb)
  clear ho hr hb HR1
  clear s0 s1 s2 s3 s4
  have hxx := HXa.out.below HBa_5.out HXMa.out
  have t0 := hxx.c0
  have t1 := hxx.c1
  have t2 := hxx.c2
  have t3 := hxx.c3
  have t4 := hxx.c4
  clear hxx
  go_wp2_with fail
  have hk := size_any _ c W5 (HV13.out.keep HBb_5.out (by rw [HMb.out]; exact Nat.le_refl _))
  rw [← HCE.out, ← HSN.out] at hk
  refine (hk).mono ?_
  clear hk
  rintro e W6 ⟨rfl, hb⟩
  have HBa_6 : Hid (Below Ma W2 W6) := Lib.hid (below_go HBa_5.out hb (by rw [HMa.out]; exact HBa_5.out.size))
  have HBb_6 : Hid (Below Mb W3 W6) := Lib.hid (below_go HBb_5.out hb (by rw [HMb.out]; exact HBb_5.out.size))
  have HR4 := Lib.hid (HR2.out.mono hb)
  have HR5 := Lib.hid (HR3.out.mono hb)
  clear HR2 HR3 hb
  clear t0 t1 t2 t3 t4
  have hxx := HXb.out.below HBb_6.out HXMb.out
  have s0 := hxx.c0
  have s1 := hxx.c1
  have s2 := hxx.c2
  have s3 := hxx.c3
  have s4 := hxx.c4
  clear hxx
  go_wp2_with fail
  have hk := rsize_any _ c W6 (HV23.out.keep HBb_6.out (by rw [HMb.out]; exact Nat.le_refl _))
  rw [← HCE.out, ← HSN.out] at hk
  refine (hk).mono ?_
  clear hk
  rintro e W7 ⟨rfl, hb⟩
  have HBa_7 : Hid (Below Ma W2 W7) := Lib.hid (below_go HBa_6.out hb (by rw [HMa.out]; exact HBa_6.out.size))
  have HBb_7 : Hid (Below Mb W3 W7) := Lib.hid (below_go HBb_6.out hb (by rw [HMb.out]; exact HBb_6.out.size))
  have HR6 := Lib.hid (HR4.out.mono hb)
  have HR7 := Lib.hid (HR5.out.mono hb)
  clear HR4 HR5 hb
  clear s0 s1 s2 s3 s4
  go_wp2_with fail
  refine (sameBytes_any _ _ _ _ sb sb _ _ _ rfl rfl HR7.out HR6.out).mono ?_
  rintro e W8 ⟨rfl, k, rfl⟩
  go_wp2
  go_ret
  exact ⟨by simp, below_go HBW.out (below_drewN HBb_7.out _) (by rw [HMb.out]; exact HBW.out.size)⟩
end Go.Proofs.Ytkbboepopcebaaa
