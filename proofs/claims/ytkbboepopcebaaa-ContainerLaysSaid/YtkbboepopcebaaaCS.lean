/- ContainerLays: the walk. -/
import Derived.Test.YtkbboepopcebaaaCN
import Derived.Test.YtkbboepopcebaaaCR
import Derived.Test.YtkbboepopcebaaaAZ
namespace Go.Proofs.Ytkbboepopcebaaa
open Go.RowKit

theorem lay_fits {c : Cont} {bh : List Int} (h : Small c) : Fits (lay c bh).2 := by
  unfold lay
  split
  · simp [Fits, wt]
  · split
    · simp [Fits, wt]
    · split
      · simp [Fits, wt]
      · rename_i h3
        unfold Small at h
        unfold Fits
        simp only [List.length_append]
        omega
/-- The answer of the first Lay in its box. -/
structure LB7 (w3 wx : World) (X : Nat) (v0 v1 v2 v3 v4 : Value) (d : Cont) : Prop where
  box : HBx wx X v0 v1 v2 v3 v4
  reads : ContV wx (.agg #[v0, v1, v2, v3, v4]) d
  below : Below w3.heap.size w3 wx
theorem lb_old {w3 ws : World} {X B : Nat} {v0 v1 v2 v3 v4 u0 u1 u2 u3 u4 : Value} {d : Cont} (hx : HBx ws X u0 u1 u2 u3 u4) (hp : PContV ws B (.agg #[v0, v1, v2, v3, v4]) d) (hf : Fits d) (hX : X < B) (hb : Below w3.heap.size w3 ws) (hg : w3.heap.size ≤ X) : LB7 w3 (setX ws X v0 v1 v2 v3 v4) X v0 v1 v2 v3 v4 d := by
  have hs := grown_setX ws X v0 v1 v2 v3 v4
  exact ⟨hx.set _ _ _ _ _, (hp.otherK hs hX).read hf, hb.grown hs hb.size (by rintro k ⟨⟩; exact hg)⟩
theorem lb_new {w3 ws : World} {B : Nat} {v0 v1 v2 v3 v4 : Value} {d : Cont} (hp : PContV ws B (.agg #[v0, v1, v2, v3, v4]) d) (hf : Fits d) (hb : Below w3.heap.size w3 ws) : LB7 w3 (ws.alloc (.cells #[v0, v1, v2, v3, v4] 28)) ws.heap.size v0 v1 v2 v3 v4 d := by
  have ha := below_alloc ws (.cells #[v0, v1, v2, v3, v4] 28)
  exact ⟨hbx_new _ _ _ _ _ _, (hp.belowK ha).read hf, below_step hb ha⟩
theorem lb_drew {w3 wx : World} {X : Nat} {v0 v1 v2 v3 v4 : Value} {d : Cont} (h : LB7 w3 wx X v0 v1 v2 v3 v4 d) : LB7 w3 wx.drew X v0 v1 v2 v3 v4 d := ⟨h.box.below (Below.refl _ _).drew, h.reads.mono (Below.refl _ _).drew, h.below.drew⟩
theorem nums_blk {w : World} {g : Nat} {l r : List Int} (h : w.heap[g]? = some (.cells (nums .u8 (l ++ r)).toArray 5 (0, 0))) (hr : l.length ≤ reach) : NumsR w .u8 (some ⟨g, 0, none⟩) l := by
  refine ⟨hr, fun _ => ⟨g, 0, rfl, fun j hj => ?_⟩⟩
  rw [Nat.zero_add, cell_of_row w g j _ 5 (0, 0) h]
  simp [Go.Proofs.Ytkbboepopcebaaa.nums, List.getElem?_append, hj, List.getD_eq_getElem?_getD]

set_option maxRecDepth 100000 in
set_option maxHeartbeats 16000000 in
theorem lays_any (v : Value) (c : Cont) (B1 : Option Addr) (m b1 : Nat) (bh : List Int) (w : World) (h : ContV w v c) (hok : ContOk c) (h1 : NumsV w .u8 (.slice B1 m b1) bh) (hm : bh.length = m) :
    Calls Try.prog 10 #[v, .slice B1 m b1] w (TruePost w) := by
  have HBH := Lib.hid h1
  have HM := Lib.hid hm
  clear h1 hm
  obtain ⟨vt, vc, vs, vd, rfl, ⟨A0, c0, rfl, i1, i2, hr0, ht⟩, ⟨A1, c1, rfl, j1, j2, hc⟩, ⟨A2, c2, rfl, k1, k2, hs⟩, ⟨A3, c3, rfl, l1, l2, hd⟩⟩ := h
  have hcv : ContV w (.agg #[.slice A0 c.types.length c0, .slice A1 c.codes.length c1, .slice A2 c.subs.length c2, .slice A3 c.data.length c3, .int .i64 c.size]) c := ⟨_, _, _, _, rfl, ⟨A0, c0, rfl, i1, i2, hr0, ht⟩, ⟨A1, c1, rfl, j1, j2, hc⟩, ⟨A2, c2, rfl, k1, k2, hs⟩, ⟨A3, c3, rfl, l1, l2, hd⟩⟩
  clear i1 i2 hr0 ht j1 j2 hc k1 k2 hs l1 l2 hd
  obtain ⟨n0, h0⟩ : ∃ n0, n0 = c.types.length := ⟨_, rfl⟩
  obtain ⟨n1, h1⟩ : ∃ n1, n1 = c.codes.length := ⟨_, rfl⟩
  obtain ⟨n2, h2⟩ : ∃ n2, n2 = c.subs.length := ⟨_, rfl⟩
  obtain ⟨n3, h3⟩ : ∃ n3, n3 = c.data.length := ⟨_, rfl⟩
  obtain ⟨s, h4⟩ : ∃ s, s = c.size := ⟨_, rfl⟩
  rw [← h0, ← h1, ← h2, ← h3, ← h4] at hcv ⊢
  have HN0 := Lib.hid h0
  have HN1 := Lib.hid h1
  have HN2 := Lib.hid h2
  have HN3 := Lib.hid h3
  have HSZ := Lib.hid h4
  have HCV0 := Lib.hid hcv
  have HOK := Lib.hid hok
  clear h0 h1 h2 h3 h4 hcv hok
  go_enter Try.func10, Try.ntmps10
  have hkb := kc_new w (.slice A0 n0 c0) (.slice A1 n1 c1) (.slice A2 n2 c2) (.slice A3 n3 c3) (.int .i64 s)
  have hzb : Below w.heap.size w (w.alloc (.cells #[.slice A0 n0 c0, .slice A1 n1 c1, .slice A2 n2 c2, .slice A3 n3 c3, .int .i64 s] 28)) := below_alloc _ _
  obtain ⟨y0, hy0⟩ : ∃ y0, y0 = (w.alloc (.cells #[.slice A0 n0 c0, .slice A1 n1 c1, .slice A2 n2 c2, .slice A3 n3 c3, .int .i64 s] 28)) := ⟨_, rfl⟩
  obtain ⟨X0, hX0⟩ : ∃ X0, X0 = w.heap.size := ⟨_, rfl⟩
  rw [← hy0, ← hX0] at hkb
  rw [← hy0] at hzb
  have HK0 := Lib.hid hkb
  have HZ0 := Lib.hid hzb
  have HCV := Lib.hid (HCV0.out.mono hzb)
  clear hkb hzb HCV0
  go_wp2_with fail
  rw [← hy0, ← hX0]
  clear hy0 hX0
  refine (weight_any _ c _ HCV.out).mono ?_
  rintro e w1 ⟨r, rfl, hr, hb⟩
  have HSw1 := Lib.hid hb
  have HR := Lib.hid hr
  clear hb hr
  by_cases hq : (2097152 : Int) < r
  · clear HR
    obtain ⟨k00, k01, k02, k03, k04⟩ := HK0.out.below HSw1.out
    go_wp2
    go_ret
    exact ⟨rfl, (below_step HZ0.out HSw1.out)⟩
  have HSM : Hid (Small c) := Lib.hid (HR.out (by omega))
  clear HR
  by_cases hg1 : 2097152 < m
  · have q1 : decide ((2097152 : Int) < (m : Int)) = true := by simp; omega
    have q1b : decide (2097152 < m) = true := by simp; omega
    go_wp2
    go_ret
    exact ⟨rfl, (below_step HZ0.out HSw1.out)⟩
  have q1 : decide ((2097152 : Int) < (m : Int)) = false := by simp; omega
  have q1b : decide (2097152 < m) = false := by simp; omega
  have hg1b : m ≤ 2097152 := by omega
  have HG1 := Lib.hid hg1b
  have HF : Hid (Fits c) := Lib.hid HSM.out.fits
  have HFD : Hid (Fits (lay c bh).2) := Lib.hid (lay_fits HSM.out)
  have HDL : Hid (c.data.length ≤ 268435456) := Lib.hid (by have h := HSM.out; unfold Small at h; omega)
  have HRE : Hid (bh.length ≤ reach) := Lib.hid (by rw [HM.out]; unfold reach; omega)
  clear hg1
  obtain ⟨k00, k01, k02, k03, k04⟩ := HK0.out.below HSw1.out
  go_wp2_with fail
  refine (twin_c _ c _ (HCV.out.mono HSw1.out) HF.out).mono ?_
  rintro e w2 ⟨v5, rfl, hv, hb⟩
  have HSw2 := Lib.hid hb
  clear hb
  obtain ⟨vt, vc, vs, vd, rfl, ht, hcc, hss, hdd⟩ := hv
  have hvv : ContV w2 (.agg #[vt, vc, vs, vd, .int .i64 c.size]) c := ⟨_, _, _, _, rfl, ht, hcc, hss, hdd⟩
  obtain ⟨A100, c100, rfl, _⟩ := id ht
  obtain ⟨A101, c101, rfl, _⟩ := id hcc
  obtain ⟨A102, c102, rfl, _⟩ := id hss
  obtain ⟨A103, c103, rfl, _⟩ := id hdd
  rw [← HN0.out, ← HN1.out, ← HN2.out, ← HN3.out, ← HSZ.out] at hvv
  rw [← HN0.out, ← HN1.out, ← HN2.out, ← HN3.out, ← HSZ.out]
  have HV5 := Lib.hid hvv
  clear ht hcc hss hdd hvv q1 q1b hq
  clear k00 k01 k02 k03 k04
  have hkb := kc_new w2 (.slice A100 n0 c100) (.slice A101 n1 c101) (.slice A102 n2 c102) (.slice A103 n3 c103) (.int .i64 s)
  have hzb : Below w2.heap.size w2 (w2.alloc (.cells #[.slice A100 n0 c100, .slice A101 n1 c101, .slice A102 n2 c102, .slice A103 n3 c103, .int .i64 s] 28)) := below_alloc _ _
  obtain ⟨y5, hy5⟩ : ∃ y5, y5 = (w2.alloc (.cells #[.slice A100 n0 c100, .slice A101 n1 c101, .slice A102 n2 c102, .slice A103 n3 c103, .int .i64 s] 28)) := ⟨_, rfl⟩
  obtain ⟨X5, hX5⟩ : ∃ X5, X5 = w2.heap.size := ⟨_, rfl⟩
  rw [← hy5, ← hX5] at hkb
  rw [← hy5] at hzb
  have HK5 := Lib.hid hkb
  have HZ5 := Lib.hid hzb
  clear hkb hzb
  go_wp2_with fail
  rw [← hy5, ← hX5]
  clear hy5 hX5
  refine (lent_any _ bh 90 _ (HBH.out.mono (below_step (below_step (below_step HZ0.out HSw1.out) HSw2.out) HZ5.out)) (by rw [HM.out]; have := HG1.out; omega) (by omega) (by omega)).mono ?_
  rintro e w6 ⟨g6, m6, rfl, hm6, hge, hblk, hb⟩
  have HS6 := Lib.hid hb
  have HBLK := Lib.hid hblk
  have HM6 : Hid (m6 = m + 90) := Lib.hid (by rw [← HM.out]; exact hm6)
  have hm6c : m ≤ m6 := by have := HM6.out; omega
  have hm6i : (m : Int) ≤ (m6 : Int) := by omega
  clear hb hblk hge hm6
  obtain ⟨d, hd⟩ : ∃ d, d = (lay c bh).2 := ⟨_, rfl⟩
  obtain ⟨er, her⟩ : ∃ er, er = (lay c bh).1 := ⟨_, rfl⟩
  have HFd : Hid (Fits d) := Lib.hid (by rw [hd]; exact HFD.out)
  have HN6 : Hid (NumsV w6 .u8 (.slice (some ⟨g6, 0, none⟩) m m6) bh) := Lib.hid ⟨_, m6, by rw [HM.out], by rw [HM.out]; exact hm6c, by simp, nums_blk HBLK.out HRE.out⟩
  have HV6 : Hid (ContV w6 (.agg #[.slice A100 n0 c100, .slice A101 n1 c101, .slice A102 n2 c102, .slice A103 n3 c103, .int .i64 s]) c) := Lib.hid (HV5.out.mono (below_step HZ5.out HS6.out))
  have HLAY : Hid (∀ W, Below w6.heap.size w6 W → Calls Try.prog 32 #[.agg #[.slice A100 n0 c100, .slice A101 n1 c101, .slice A102 n2 c102, .slice A103 n3 c103, .int .i64 s], .slice (some ⟨g6, 0, none⟩) m m6] W fun e w' => Below W.heap.size W w' ∧ ∃ A0 k0 d0 A1 k1 d1 A2 k2 d2 A3 k3 d3, e = .returned (.tuple #[.agg #[.slice A0 k0 d0, .slice A1 k1 d1, .slice A2 k2 d2, .slice A3 k3 d3, .int .i64 d.size], .int .i64 er]) ∧ PContV w' W.heap.size (.agg #[.slice A0 k0 d0, .slice A1 k1 d1, .slice A2 k2 d2, .slice A3 k3 d3, .int .i64 d.size]) d) := by
    rw [hd, her]
    exact Lib.hid fun W hW => lay_any _ c (some ⟨g6, 0, none⟩) m m6 bh W (HV6.out.mono hW) (HN6.out.mono hW) HM.out HDL.out (by have := HG1.out; omega) HF.out
  have HRLAY : Hid (∀ W, Below y0.heap.size y0 W → Below w.heap.size w W → Calls Try.prog 33 #[.agg #[.slice A0 n0 c0, .slice A1 n1 c1, .slice A2 n2 c2, .slice A3 n3 c3, .int .i64 s], .slice B1 m b1] W fun e w' => Below W.heap.size W w' ∧ ∃ A0 k0 d0 A1 k1 d1 A2 k2 d2 A3 k3 d3, e = .returned (.tuple #[.agg #[.slice A0 k0 d0, .slice A1 k1 d1, .slice A2 k2 d2, .slice A3 k3 d3, .int .i64 d.size], .int .i64 er]) ∧ PContV w' W.heap.size (.agg #[.slice A0 k0 d0, .slice A1 k1 d1, .slice A2 k2 d2, .slice A3 k3 d3, .int .i64 d.size]) d) := by
    rw [hd, her]
    exact Lib.hid fun W hW hw => rlay_any _ c B1 m b1 bh W (HCV.out.mono hW) (HBH.out.mono hw) HM.out HDL.out (by have := HG1.out; omega) HF.out
  obtain ⟨sd, hsd⟩ : ∃ sd, sd = d.size := ⟨_, rfl⟩
  rw [← hsd] at HLAY HRLAY
  clear hd her hsd
  have hss5 : ∀ w', Below w6.heap.size w6 w' → w'.cell? ⟨X5, 0, none⟩ = some (.slice A100 n0 c100) ∧ w'.cell? ⟨X5, 1, none⟩ = some (.slice A101 n1 c101) ∧ w'.cell? ⟨X5, 2, none⟩ = some (.slice A102 n2 c102) ∧ w'.cell? ⟨X5, 3, none⟩ = some (.slice A103 n3 c103) ∧ w'.cell? ⟨X5, 4, none⟩ = some (.int .i64 s) := fun w' h => by
    have hk := HK5.out.below (below_step HS6.out h)
    exact ⟨hk.c0, hk.c1, hk.c2, hk.c3, hk.c4⟩
  have HSS5 := Lib.hid hss5
  clear hss5
  go_upto_region 5 with (fail)
  go_cut [7, 8] (fun v7 v8 wx => v8 = .int .i64 er ∧ ∃ X A0 k0 d0 A1 k1 d1 A2 k2 d2 A3 k3 d3, v7 = .pointer (some ⟨X, 0, none⟩) ∧ LB7 w6 wx X (.slice A0 k0 d0) (.slice A1 k1 d1) (.slice A2 k2 d2) (.slice A3 k3 d3) (.int .i64 sd) d)
  case first =>
    obtain ⟨t0, t1, t2, t3, t4⟩ := HSS5.out _ (Below.refl _ _)
    go_region_held3 (fun w' => w'.cell? ⟨X5, 0, none⟩ = some (.slice A100 n0 c100) ∧ w'.cell? ⟨X5, 1, none⟩ = some (.slice A101 n1 c101) ∧ w'.cell? ⟨X5, 2, none⟩ = some (.slice A102 n2 c102) ∧ w'.cell? ⟨X5, 3, none⟩ = some (.slice A103 n3 c103) ∧ w'.cell? ⟨X5, 4, none⟩ = some (.int .i64 s))
      (first | (with_reducible exact HSS5.out _ (lb_old HXl.out HPl.out HFd.out (by first | (simp only [drew_size]; omega) | (simp; omega) | (simp [drew_size]; omega) | (simp [drew_size]) | simp) HBl.out (by have a1 := HBl.out.size; first | exact Nat.le_refl _ | omega | (simp only [drew_size]; omega) | (simp; omega) | (simp [drew_size]; omega) | (simp [drew_size]))).below) | exact HSS5.out _ (by with_reducible first | exact HBl.out | exact below_step HBl.out (below_step (Below.refl _ _) (below_alloc _ _)) | exact below_step HBl.out (Below.refl _ _).drew | exact below_step HBl.out (below_step (Below.refl _ _) (below_alloc _ _)).drew | exact below_step HBl.out (below_step (Below.refl _ _).drew (below_alloc _ _)) | exact (Below.refl _ _) | exact (below_step (Below.refl _ _) (below_alloc _ _)) | exact (Below.refl _ _).drew | exact (below_step (Below.refl _ _) (below_alloc _ _)).drew | exact (below_step (Below.refl _ _).drew (below_alloc _ _))))
      ((first
        | (go_at_call 32; (with_reducible refine (HLAY.out _ (by with_reducible first | exact (Below.refl _ _) | exact (below_step (Below.refl _ _) (below_alloc _ _)) | exact (Below.refl _ _).drew | exact (below_step (Below.refl _ _) (below_alloc _ _)).drew | exact (below_step (Below.refl _ _).drew (below_alloc _ _)))).mono ?_); rintro e wl ⟨hb, A0', k0, d0, A1', k1, d1, A2', k2, d2, A3', k3, d3, rfl, hp⟩; have HBl : Hid (Below w6.heap.size w6 wl) := Lib.hid (below_step (by with_reducible first | exact (Below.refl _ _) | exact (below_step (Below.refl _ _) (below_alloc _ _)) | exact (Below.refl _ _).drew | exact (below_step (Below.refl _ _) (below_alloc _ _)).drew | exact (below_step (Below.refl _ _).drew (below_alloc _ _))) hb); (first | (with_reducible have hxx := (hbx_new _ (.slice none 0 0) (.slice none 0 0) (.slice none 0 0) (.slice none 0 0) (.int .i64 0)).below hb; have HXl := Lib.hid hxx; clear hxx) | (with_reducible have hxx := ((hbx_new _ (.slice none 0 0) (.slice none 0 0) (.slice none 0 0) (.slice none 0 0) (.int .i64 0)).below (Below.refl _ _).drew).below hb; have HXl := Lib.hid hxx; clear hxx) | skip); have HPl := Lib.hid hp; (first | (obtain ⟨x0, x1, x2, x3, x4, fx⟩ := HXl.out.kx) | skip); clear hb hp)))
    all_goals (go_wp2_with fail; go_meet; exact ⟨rfl, _, _, _, _, _, _, _, _, _, _, _, _, _, rfl, by first | exact lb_old HXl.out HPl.out HFd.out (by first | (simp only [drew_size]; omega) | (simp; omega) | (simp [drew_size]; omega) | (simp [drew_size]) | simp) HBl.out (by have a1 := HBl.out.size; first | exact Nat.le_refl _ | omega | (simp only [drew_size]; omega) | (simp; omega) | (simp [drew_size]; omega) | (simp [drew_size])) | exact lb_drew (lb_old HXl.out HPl.out HFd.out (by first | (simp only [drew_size]; omega) | (simp; omega) | (simp [drew_size]; omega) | (simp [drew_size]) | simp) HBl.out (by have a1 := HBl.out.size; first | exact Nat.le_refl _ | omega | (simp only [drew_size]; omega) | (simp; omega) | (simp [drew_size]; omega) | (simp [drew_size]))) | exact lb_new HPl.out HFd.out HBl.out | exact lb_drew (lb_new HPl.out HFd.out HBl.out)⟩)
  case rest =>
    obtain ⟨rfl, X7, A70, k0, d0, A71, k1, d1, A72, k2, d2, A73, k3, d3, rfl, h7⟩ := hcut
    have H7 := Lib.hid h7
    have HSwc := Lib.hid h7.below
    clear h7
    obtain ⟨k00, k01, k02, k03, k04⟩ := HK0.out.below (below_step (below_step (below_step (below_step HSw1.out HSw2.out) HZ5.out) HS6.out) HSwc.out)
    go_wp2_with fail
    refine (HRLAY.out _ (below_step (below_step (below_step (below_step HSw1.out HSw2.out) HZ5.out) HS6.out) HSwc.out) (below_step (below_step (below_step (below_step (below_step HZ0.out HSw1.out) HSw2.out) HZ5.out) HS6.out) HSwc.out)).mono ?_
    rintro e w3 ⟨hb, A90, k90, d90, A91, k91, d91, A92, k92, d92, A93, k93, d93, rfl, hp⟩
    have HSw3 := Lib.hid hb
    clear hb
    have hkb := kc_new w3 (.slice A90 k90 d90) (.slice A91 k91 d91) (.slice A92 k92 d92) (.slice A93 k93 d93) (.int .i64 sd)
    have hzb : Below w3.heap.size w3 (w3.alloc (.cells #[.slice A90 k90 d90, .slice A91 k91 d91, .slice A92 k92 d92, .slice A93 k93 d93, .int .i64 sd] 28)) := below_alloc _ _
    obtain ⟨y9, hy9⟩ : ∃ y9, y9 = (w3.alloc (.cells #[.slice A90 k90 d90, .slice A91 k91 d91, .slice A92 k92 d92, .slice A93 k93 d93, .int .i64 sd] 28)) := ⟨_, rfl⟩
    obtain ⟨X9, hX9⟩ : ∃ X9, X9 = w3.heap.size := ⟨_, rfl⟩
    rw [← hy9, ← hX9] at hkb
    rw [← hy9] at hzb
    have HK9 := Lib.hid hkb
    have HZ9 := Lib.hid hzb
    have HV9 := Lib.hid ((hp.belowK hzb).read HFd.out)
    clear hkb hzb hp
    clear k00 k01 k02 k03 k04
    have HABLE : ∀ W, Calls Try.prog 14 #[] W (TruePost W) := able_any
    have HAB := Lib.hid HABLE
    clear HABLE
    go_wp2_with fail
    rw [← hy9, ← hX9]
    clear hy9 hX9
    refine (HAB.out _).mono ?_
    rintro e w4 ⟨rfl, hb⟩
    have HSw4 := Lib.hid hb
    clear hb
    obtain ⟨p0, p1, p2, p3, p4⟩ := HK9.out.below HSw4.out
    obtain ⟨q0, q1, q2, q3, q4, fq⟩ := (H7.out.box.below (below_step (below_step HSw3.out HZ9.out) HSw4.out)).kx
    go_wp2_with fail
    refine (same_c (H7.out.reads.mono (below_step (below_step HSw3.out HZ9.out) HSw4.out)) (HV9.out.mono HSw4.out)).mono ?_
    rintro e w5 ⟨rfl, hb⟩
    have HSw5 := Lib.hid hb
    clear hb
    clear p0 p1 p2 p3 p4 q0 q1 q2 q3 q4 fq
    obtain ⟨k00, k01, k02, k03, k04⟩ := HK0.out.below (below_step (below_step (below_step (below_step (below_step (below_step (below_step (below_step HSw1.out HSw2.out) HZ5.out) HS6.out) HSwc.out) HSw3.out) HZ9.out) HSw4.out) HSw5.out)
    obtain ⟨p0, p1, p2, p3, p4⟩ := HK5.out.below (below_step (below_step (below_step (below_step (below_step HS6.out HSwc.out) HSw3.out) HZ9.out) HSw4.out) HSw5.out)
    go_wp2_with fail
    refine (same_c (HV5.out.mono (below_step (below_step (below_step (below_step (below_step (below_step HZ5.out HS6.out) HSwc.out) HSw3.out) HZ9.out) HSw4.out) HSw5.out)) (HCV.out.mono (below_step (below_step (below_step (below_step (below_step (below_step (below_step (below_step HSw1.out HSw2.out) HZ5.out) HS6.out) HSwc.out) HSw3.out) HZ9.out) HSw4.out) HSw5.out))).mono ?_
    rintro e w6 ⟨rfl, hb⟩
    have HSw6 := Lib.hid hb
    clear hb
    clear p0 p1 p2 p3 p4
    clear k00 k01 k02 k03 k04
    go_wp2_with fail
    have hblk := (((below_step (below_step (below_step (below_step (below_step HSwc.out HSw3.out) HZ9.out) HSw4.out) HSw5.out) HSw6.out)).block g6 (Array.getElem?_eq_some_iff.1 HBLK.out).1).trans HBLK.out
    have hbh : NumsR w6 .u8 B1 bh := by
      obtain ⟨A', c', e, _, _, h3⟩ := HBH.out.mono (below_step (below_step (below_step (below_step (below_step (below_step (below_step (below_step (below_step (below_step HZ0.out HSw1.out) HSw2.out) HZ5.out) HS6.out) HSwc.out) HSw3.out) HZ9.out) HSw4.out) HSw5.out) HSw6.out)
      injection e with e1 e2 e3
      subst e1
      exact h3
    refine (kept_any (some ⟨g6, 0, none⟩) B1 m6 b1 90 m m6 bh _ HM.out.symm HM6.out (nums_blk (r := []) (by rw [List.append_nil]; exact hblk) (by rw [List.length_append, marks_len, HM.out]; have := HG1.out; unfold reach; omega)) hbh (by have := HM6.out; have := HG1.out; omega)).mono ?_
    clear hblk hbh
    rintro e w9 ⟨rfl, kk, rfl⟩
    go_wp2
    go_ret
    exact ⟨rfl, below_drewN (below_step (below_step (below_step (below_step (below_step (below_step (below_step (below_step (below_step (below_step HZ0.out HSw1.out) HSw2.out) HZ5.out) HS6.out) HSwc.out) HSw3.out) HZ9.out) HSw4.out) HSw5.out) HSw6.out) _⟩
theorem lays_law (v : Value) (c : Cont) (u1 : Value) (bh : List Int) (w : World) (h : ContV w v c) (hok : ContOk c) (h1 : NumsV w .u8 u1 bh) {P : Prop} (_hy : P) : Calls Try.prog 10 #[v, u1] w (TruePost w) := by
  have h1' := h1
  obtain ⟨B1, b1, rfl, _⟩ := h1'
  exact lays_any v c B1 _ b1 bh w h hok h1 rfl
end Go.Proofs.Ytkbboepopcebaaa
