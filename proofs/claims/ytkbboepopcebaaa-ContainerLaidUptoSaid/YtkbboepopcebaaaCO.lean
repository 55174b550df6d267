/- ContainerLaid: the walk. -/
import Derived.Test.YtkbboepopcebaaaCN
namespace Go.Proofs.Ytkbboepopcebaaa
open Go.RowKit

/-- What Lay hands back. -/
def LOk (d : Cont) (er : Int) (n0 n1 n2 n3 : Nat) (s : Int) (w : World) (e : Ending) (w' : World) : Prop := ∃ A0 c0 A1 c1 A2 c2 A3 c3,
  e = .returned (.tuple #[.agg #[.slice A0 n0 c0, .slice A1 n1 c1, .slice A2 n2 c2, .slice A3 n3 c3, .int .i64 s], .int .i64 er]) ∧
  PContV w' w.heap.size (.agg #[.slice A0 n0 c0, .slice A1 n1 c1, .slice A2 n2 c2, .slice A3 n3 c3, .int .i64 s]) d ∧ Below w.heap.size w w'
theorem lay_c {c d : Cont} {bh : List Int} {er : Int} {n0 n1 n2 n3 : Nat} {s : Int} (hl : lay c bh = (er, d)) (h0 : n0 = d.types.length) (h1 : n1 = d.codes.length) (h2 : n2 = d.subs.length) (h3 : n3 = d.data.length) (h4 : s = d.size)
    (v : Value) (A : Option Addr) (m cp : Nat) (w : World) (h : ContV w v c) (hb : NumsV w .u8 (.slice A m cp) bh) (hm : bh.length = m) (hd : c.data.length ≤ 268435456) (hm1 : m ≤ 268435456) (hf : Fits c) : Calls Try.prog 32 #[v, .slice A m cp] w (LOk d er n0 n1 n2 n3 s w) := by
  subst h0 h1 h2 h3 h4
  refine (lay_any v c A m cp bh w h hb hm hd hm1 hf).mono ?_
  rintro e w' ⟨hbw, A0, n0, c0, A1, n1, c1, A2, n2, c2, A3, n3, c3, rfl, hv⟩
  rw [hl] at hv ⊢
  simp only at hv ⊢
  obtain ⟨T, C, S, D, e, hT, hC, hS, hD⟩ := hv.form
  rw [e] at hv ⊢
  obtain ⟨B0, d0, rfl, _⟩ := own_shape hT
  obtain ⟨B1, d1, rfl⟩ := hC.shape
  obtain ⟨B2, d2, rfl⟩ := hS.shape
  obtain ⟨B3, d3, rfl, _⟩ := own_shape hD
  exact ⟨B0, d0, B1, d1, B2, d2, B3, d3, rfl, hv, hbw⟩
theorem fits_zero : Fits ⟨[], [], [], [], 0⟩ := by simp [Fits, wt]
/-- A container with other data. -/
def withD (c : Cont) (l : List Int) : Cont := ⟨c.types, c.codes, c.subs, l, (l.length : Int)⟩
theorem may_withD {c : Cont} {l : List Int} (hm : May c) (hl : l.length ≤ 65535) : May (withD c l) :=
  ⟨hm.codes1, hm.codes2, hm.types, hm.code, hm.subs, hm.sub, by show (l.length : Int) ≤ 65535; omega, Int.le_refl _, hm.tys⟩
theorem fits_withD {c : Cont} {l : List Int} (h : Small c) (hl : l.length ≤ 65535) : Fits (withD c l) := by
  unfold Small at h
  unfold Fits
  show c.types.length + c.codes.length + c.subs.length + l.length + wt c.codes + wt c.subs ≤ 67108864
  omega
theorem lay_withD {c : Cont} {bh : List Int} (hm : May c) (h2 : ¬ (c.data.length : Int) + bh.length < c.size) (h3 : ¬ 65535 < (c.data.length : Int) + bh.length) : lay c bh = (0, withD c (c.data ++ bh)) := by
  rw [lay_yes (of_may hm) h2 h3]
  unfold withD
  simp
theorem len_withD {c : Cont} {l : List Int} (hm : May c) (h : Small c) (hl : l.length ≤ 65535) : (serB (withD c l)).length ≤ 16777216 := by
  rw [serB_length _ (may_withD hm hl).types]
  have h1 := hm.codes2
  have h2 := hm.subs
  unfold Small at h
  rw [wt_sum, wt_sum] at h
  show 13 + 6 * c.codes.length + l.length + sumL c.codes + (if c.subs.length = 0 then 0 else 3 + 4 * c.subs.length) + sumL c.subs ≤ 16777216
  split <;> omega

theorem own_nums_n {w : World} {B n : Nat} {v : Value} {l : List Int} (h : w.ownsRow B 5 1 v n (nums .u8 l)) (hn : l.length = n) (hr : n ≤ reach) : NumsV w .u8 v l := by subst hn; exact own_nums h hr
theorem kx_set34 {w : World} {X : Nat} {v0 v1 v2 v3 v4 : Value} (h : KX w X v0 v1 v2 v3 v4) (u3 u4 : Value) : KX ((w.setCell ⟨X, 3, none⟩ u3).setCell ⟨X, 4, none⟩ u4) X v0 v1 v2 u3 u4 := by
  have n : ∀ (W : World) (i j : Nat) (v : Value), i ≠ j → (W.setCell ⟨X, i, none⟩ v).cell? ⟨X, j, none⟩ = W.cell? ⟨X, j, none⟩ := fun W i j v hij => World.cell?_setCell_other _ _ _ _ (by first | (simp; omega) | (simp [hij]))
  have s3 : (w.setCell ⟨X, 3, none⟩ u3).cell? ⟨X, 3, none⟩ = some u3 := World.cell?_setCell_same _ _ _ h.c3
  have s4 : ((w.setCell ⟨X, 3, none⟩ u3).setCell ⟨X, 4, none⟩ u4).cell? ⟨X, 4, none⟩ = some u4 := World.cell?_setCell_same _ _ _ (by rw [n _ 3 4 _ (by omega)]; exact h.c4)
  refine ⟨?_, ?_, ?_, ?_, s4, fun j => by rw [World.frozen?_setCell, World.frozen?_setCell]; exact h.free j⟩
  · rw [n _ 4 0 _ (by omega), n _ 3 0 _ (by omega)]; exact h.c0
  · rw [n _ 4 1 _ (by omega), n _ 3 1 _ (by omega)]; exact h.c1
  · rw [n _ 4 2 _ (by omega), n _ 3 2 _ (by omega)]; exact h.c2
  · rw [n _ 4 3 _ (by omega)]; exact s3
theorem data_of {w : World} {vt vc vs vd : Value} {s : Int} {c : Cont} (h : ContV w (.agg #[vt, vc, vs, vd, .int .i64 s]) c) : NumsV w .u8 vd c.data := by
  obtain ⟨_, _, _, _, e, _, _, _, hd⟩ := h
  injection e with e
  injection e with e
  injection e with _ e
  injection e with _ e
  injection e with _ e
  injection e with e _
  rw [e]; exact hd
set_option maxRecDepth 100000 in
set_option maxHeartbeats 16000000 in
theorem laid_any (v : Value) (c : Cont) (B1 B2 : Option Addr) (m1 m2 b1 b2 : Nat) (one two : List Int) (w : World) (h : ContV w v c) (hok : ContOk c) (h1 : NumsV w .u8 (.slice B1 m1 b1) one) (h2 : NumsV w .u8 (.slice B2 m2 b2) two) (hy1 : Byt one) (hy2 : Byt two) (hm1 : one.length = m1) (hm2 : two.length = m2) :
    Calls Try.prog 12 #[v, .slice B1 m1 b1, .slice B2 m2 b2] w (TruePost w) := by
  have HONE := Lib.hid h1
  have HTWO := Lib.hid h2
  have HM1 := Lib.hid hm1
  have HM2 := Lib.hid hm2
  have HY1 := Lib.hid hy1
  have HY2 := Lib.hid hy2
  clear h1 h2 hy1 hy2 hm1 hm2
  obtain ⟨vt, vc, vs, vd, rfl, ⟨A0, c0, rfl, i1, i2, hr0, ht⟩, ⟨A1, c1, rfl, j1, j2, hc⟩, ⟨A2, c2, rfl, k1, k2, hs⟩, ⟨A3, c3, rfl, l1, l2, hd⟩⟩ := h
  have hcv : ContV w (.agg #[.slice A0 c.types.length c0, .slice A1 c.codes.length c1, .slice A2 c.subs.length c2, .slice A3 c.data.length c3, .int .i64 c.size]) c := ⟨_, _, _, _, rfl, ⟨A0, c0, rfl, i1, i2, hr0, ht⟩, ⟨A1, c1, rfl, j1, j2, hc⟩, ⟨A2, c2, rfl, k1, k2, hs⟩, ⟨A3, c3, rfl, l1, l2, hd⟩⟩
  clear i1 i2 hr0 ht j1 j2 hc k1 k2 hs l1 l2 hd
  obtain ⟨n0, h0⟩ : ∃ n0, n0 = c.types.length := ⟨_, rfl⟩
  obtain ⟨n1, h1⟩ : ∃ n1, n1 = c.codes.length := ⟨_, rfl⟩
  obtain ⟨n2, h2⟩ : ∃ n2, n2 = c.subs.length := ⟨_, rfl⟩
  obtain ⟨n3, h3⟩ : ∃ n3, n3 = c.data.length := ⟨_, rfl⟩
  obtain ⟨s, h4⟩ : ∃ s, s = c.size := ⟨_, rfl⟩
  rw [← h0, ← h1, ← h2, ← h3, ← h4] at hcv ⊢
  have HN0 := Lib.hid h0
  have HN1 := Lib.hid h1
  have HN2 := Lib.hid h2
  have HN3 := Lib.hid h3
  have HSZ := Lib.hid h4
  have HCV0 := Lib.hid hcv
  have HOK := Lib.hid hok
  clear h0 h1 h2 h3 h4 hcv hok
  go_enter Try.func12, Try.ntmps12
  have hkb := kc_new w (.slice A0 n0 c0) (.slice A1 n1 c1) (.slice A2 n2 c2) (.slice A3 n3 c3) (.int .i64 s)
  have hzb : Below w.heap.size w (w.alloc (.cells #[.slice A0 n0 c0, .slice A1 n1 c1, .slice A2 n2 c2, .slice A3 n3 c3, .int .i64 s] 28)) := below_alloc _ _
  obtain ⟨y0, hy0⟩ : ∃ y0, y0 = (w.alloc (.cells #[.slice A0 n0 c0, .slice A1 n1 c1, .slice A2 n2 c2, .slice A3 n3 c3, .int .i64 s] 28)) := ⟨_, rfl⟩
  obtain ⟨X0, hX0⟩ : ∃ X0, X0 = w.heap.size := ⟨_, rfl⟩
  rw [← hy0, ← hX0] at hkb
  rw [← hy0] at hzb
  have HK0 := Lib.hid hkb
  have HZ0 := Lib.hid hzb
  have HCV := Lib.hid (HCV0.out.mono hzb)
  clear hkb hzb HCV0
  go_wp2_with fail
  rw [← hy0, ← hX0]
  clear hy0 hX0
  refine (weight_any _ c _ HCV.out).mono ?_
  rintro e w1 ⟨r, rfl, hr, hb⟩
  have HSw1 := Lib.hid hb
  have HR := Lib.hid hr
  clear hb hr
  by_cases hq : (2097152 : Int) < r
  · clear HR
    obtain ⟨k00, k01, k02, k03, k04⟩ := HK0.out.below HSw1.out
    go_wp2
    go_ret
    exact ⟨rfl, (below_step HZ0.out HSw1.out)⟩
  have HSM : Hid (Small c) := Lib.hid (HR.out (by omega))
  clear HR
  by_cases hg1 : 2097152 < m1
  · skip
    have q1 : decide ((2097152 : Int) < (m1 : Int)) = true := by simp; omega
    have q1b : decide (2097152 < m1) = true := by simp; omega
    go_wp2
    go_ret
    exact ⟨rfl, (below_step HZ0.out HSw1.out)⟩
  have q1 : decide ((2097152 : Int) < (m1 : Int)) = false := by simp; omega
  have q1b : decide (2097152 < m1) = false := by simp; omega
  have hg1b : m1 ≤ 2097152 := by omega
  clear hg1
  by_cases hg2 : 2097152 < m2
  · skip
    have q2 : decide ((2097152 : Int) < (m2 : Int)) = true := by simp; omega
    have q2b : decide (2097152 < m2) = true := by simp; omega
    go_wp2
    go_ret
    exact ⟨rfl, (below_step HZ0.out HSw1.out)⟩
  have q2 : decide ((2097152 : Int) < (m2 : Int)) = false := by simp; omega
  have q2b : decide (2097152 < m2) = false := by simp; omega
  have hg2b : m2 ≤ 2097152 := by omega
  clear hg2
  have HF : Hid (Fits c) := Lib.hid HSM.out.fits
  have HABLE : ∀ W, Calls Try.prog 14 #[] W (TruePost W) := able_any
  have HAB := Lib.hid HABLE
  clear HABLE
  go_wp2_with fail
  refine (HAB.out _).mono ?_
  rintro e w2 ⟨rfl, hb⟩
  have HSw2 := Lib.hid hb
  clear hb
  clear hq q1 q1b q2 q2b
  obtain ⟨k00, k01, k02, k03, k04⟩ := HK0.out.below (below_step HSw1.out HSw2.out)
  go_wp2_with fail
  refine (may_any _ c _ (HCV.out.mono (below_step HSw1.out HSw2.out))).mono ?_
  rintro e w3 ⟨rfl, hb⟩
  have HSw3 := Lib.hid hb
  clear hb
  clear k00 k01 k02 k03 k04
  by_cases hmay : ¬ checkErr c = 0
  · have q1 : decide (checkErr c = 0) = false := by simp [hmay]
    rw [q1]
    clear q1 hmay
    go_wp2
    go_ret
    exact ⟨rfl, (below_step (below_step (below_step HZ0.out HSw1.out) HSw2.out) HSw3.out)⟩
  have q1 : decide (checkErr c = 0) = true := by simpa using hmay
  rw [q1]
  have HMY : Hid (May c) := Lib.hid (may_of c (by simpa using hmay))
  clear q1 hmay
  have h3k : n3 ≤ 65535 := by have := HMY.out.data; have := HMY.out.size; have := HN3.out; omega
  have HD3 : Hid (c.data.length ≤ 268435456) := Lib.hid (by rw [← HN3.out]; omega)
  have HG1 : Hid (m1 ≤ 2097152) := Lib.hid hg1b
  have HG2 : Hid (m2 ≤ 2097152) := Lib.hid hg2b
  obtain ⟨z, hz⟩ : ∃ z : Nat, z = n3 + m1 := ⟨_, rfl⟩
  have hw : IntKind.i64.wrap ((n3 : Int) + (m1 : Int)) = (z : Int) := by rw [IntWalk.i64_in _ (by omega)]; omega
  have HZL : Hid ((c.data ++ one).length = z) := Lib.hid (by rw [List.length_append, HM1.out, ← HN3.out]; exact hz.symm)
  have HZ : Hid ((c.data.length : Int) + one.length = (z : Int)) := Lib.hid (by rw [HM1.out, ← HN3.out]; omega)
  have HZN : Hid (z = n3 + m1) := Lib.hid hz
  clear hz h3k hg1b hg2b
  obtain ⟨k00, k01, k02, k03, k04⟩ := HK0.out.below (below_step (below_step HSw1.out HSw2.out) HSw3.out)
  go_wp2_with fail
  refine (twin_c _ c _ (HCV.out.mono (below_step (below_step HSw1.out HSw2.out) HSw3.out)) HF.out).mono ?_
  rintro e w4 ⟨v3, rfl, hv, hb⟩
  have HSw4 := Lib.hid hb
  clear hb
  have HV3 := Lib.hid hv
  clear hv hw
  clear k00 k01 k02 k03 k04
  go_wp2_with fail
  refine (own_sl _ one m1 _ (HONE.out.mono (below_step (below_step (below_step (below_step HZ0.out HSw1.out) HSw2.out) HSw3.out) HSw4.out)) HM1.out).mono ?_
  rintro e w5 ⟨A4, c4, rfl, hn4, hb⟩
  have HSw5 := Lib.hid hb
  clear hb
  have HN4 := Lib.hid hn4
  clear hn4
  by_cases hs1 : (z : Int) < s
  · have q1 : decide ((z : Int) < s) = true := by simpa using hs1
    go_wp2_with fail
    refine (lay_c (lay_short (of_may HMY.out) (by rw [HZ.out, ← HSZ.out]; exact hs1)) (d := ⟨[], [], [], [], 0⟩) (er := 50) (n0 := 0) (n1 := 0) (n2 := 0) (n3 := 0) (s := 0) rfl rfl rfl rfl rfl v3 A4 m1 c4 _ (HV3.out.mono HSw5.out) HN4.out HM1.out HD3.out (by have := HG1.out; omega) HF.out).mono ?_
    rintro e w6 ⟨A80, c80, A81, c81, A82, c82, A83, c83, rfl, hp, hb⟩
    have HSw6 := Lib.hid hb
    clear hb
    have hkb := kc_new w6 (.slice A80 0 c80) (.slice A81 0 c81) (.slice A82 0 c82) (.slice A83 0 c83) (.int .i64 0)
    have hzb : Below w6.heap.size w6 (w6.alloc (.cells #[.slice A80 0 c80, .slice A81 0 c81, .slice A82 0 c82, .slice A83 0 c83, .int .i64 0] 28)) := below_alloc _ _
    obtain ⟨y8, hy8⟩ : ∃ y8, y8 = (w6.alloc (.cells #[.slice A80 0 c80, .slice A81 0 c81, .slice A82 0 c82, .slice A83 0 c83, .int .i64 0] 28)) := ⟨_, rfl⟩
    obtain ⟨X8, hX8⟩ : ∃ X8, X8 = w6.heap.size := ⟨_, rfl⟩
    rw [← hy8, ← hX8] at hkb
    rw [← hy8] at hzb
    have HK8 := Lib.hid hkb
    have HZ8 := Lib.hid hzb
    clear hkb hzb
    have HVd := Lib.hid ((hp.belowK HZ8.out).read fits_zero)
    clear hp
    go_upto_region 9 with (fail)
    rw [← hy8, ← hX8]
    clear hy8 hX8
    obtain ⟨k80, k81, k82, k83, k84⟩ := HK8.out
    obtain ⟨k00, k01, k02, k03, k04⟩ := HK0.out.below (below_step (below_step (below_step (below_step (below_step (below_step HSw1.out HSw2.out) HSw3.out) HSw4.out) HSw5.out) HSw6.out) HZ8.out)
    go_wp2_with fail
    refine (same_c HVd.out (zero_cont _)).mono ?_
    rintro e w7 ⟨rfl, hb⟩
    have HSw7 := Lib.hid hb
    clear hb
    go_wp2
    go_ret
    exact ⟨rfl, (below_step (below_step (below_step (below_step (below_step (below_step (below_step (below_step HZ0.out HSw1.out) HSw2.out) HSw3.out) HSw4.out) HSw5.out) HSw6.out) HZ8.out) HSw7.out)⟩
  have q1 : decide ((z : Int) < s) = false := by simpa using hs1
  have hs1b : s ≤ (z : Int) := by omega
  by_cases hs2 : 65535 < z
  · have q2 : decide ((65535 : Int) < (z : Int)) = true := by simp; omega
    have q2b : decide (65535 < z) = true := by simp; omega
    go_wp2_with fail
    refine (lay_c (lay_long (of_may HMY.out) (by rw [HZ.out, ← HSZ.out]; omega) (by rw [HZ.out]; omega)) (d := ⟨[], [], [], [], 0⟩) (er := 2) (n0 := 0) (n1 := 0) (n2 := 0) (n3 := 0) (s := 0) rfl rfl rfl rfl rfl v3 A4 m1 c4 _ (HV3.out.mono HSw5.out) HN4.out HM1.out HD3.out (by have := HG1.out; omega) HF.out).mono ?_
    rintro e w6 ⟨A80, c80, A81, c81, A82, c82, A83, c83, rfl, hp, hb⟩
    have HSw6 := Lib.hid hb
    clear hb
    have hkb := kc_new w6 (.slice A80 0 c80) (.slice A81 0 c81) (.slice A82 0 c82) (.slice A83 0 c83) (.int .i64 0)
    have hzb : Below w6.heap.size w6 (w6.alloc (.cells #[.slice A80 0 c80, .slice A81 0 c81, .slice A82 0 c82, .slice A83 0 c83, .int .i64 0] 28)) := below_alloc _ _
    obtain ⟨y8, hy8⟩ : ∃ y8, y8 = (w6.alloc (.cells #[.slice A80 0 c80, .slice A81 0 c81, .slice A82 0 c82, .slice A83 0 c83, .int .i64 0] 28)) := ⟨_, rfl⟩
    obtain ⟨X8, hX8⟩ : ∃ X8, X8 = w6.heap.size := ⟨_, rfl⟩
    rw [← hy8, ← hX8] at hkb
    rw [← hy8] at hzb
    have HK8 := Lib.hid hkb
    have HZ8 := Lib.hid hzb
    clear hkb hzb
    have HVd := Lib.hid ((hp.belowK HZ8.out).read fits_zero)
    clear hp
    go_upto_region 9 with (fail)
    rw [← hy8, ← hX8]
    clear hy8 hX8
    obtain ⟨k80, k81, k82, k83, k84⟩ := HK8.out
    obtain ⟨k00, k01, k02, k03, k04⟩ := HK0.out.below (below_step (below_step (below_step (below_step (below_step (below_step HSw1.out HSw2.out) HSw3.out) HSw4.out) HSw5.out) HSw6.out) HZ8.out)
    go_wp2_with fail
    refine (same_c HVd.out (zero_cont _)).mono ?_
    rintro e w7 ⟨rfl, hb⟩
    have HSw7 := Lib.hid hb
    clear hb
    go_wp2
    go_ret
    exact ⟨rfl, (below_step (below_step (below_step (below_step (below_step (below_step (below_step (below_step HZ0.out HSw1.out) HSw2.out) HSw3.out) HSw4.out) HSw5.out) HSw6.out) HZ8.out) HSw7.out)⟩
  have q2 : decide ((65535 : Int) < (z : Int)) = false := by simp; omega
  have q2b : decide (65535 < z) = false := by simp; omega
  have hs2b : z ≤ 65535 := by omega
  have HZB := Lib.hid hs2b
  have HZS := Lib.hid hs1b
  have HL1 : Hid (lay c one = (0, withD c (c.data ++ one))) := Lib.hid (lay_withD HMY.out (by rw [HZ.out, ← HSZ.out]; omega) (by rw [HZ.out]; omega))
  have HMD : Hid (May (withD c (c.data ++ one))) := Lib.hid (may_withD HMY.out (by rw [HZL.out]; exact hs2b))
  have HFD : Hid (Fits (withD c (c.data ++ one))) := Lib.hid (fits_withD HSM.out (by rw [HZL.out]; exact hs2b))
  have HZL2 : Hid ((z : Int) = ((c.data ++ one).length : Int)) := Lib.hid (by rw [HZL.out])
  go_wp2_with fail
  refine (lay_c HL1.out (n0 := n0) (n1 := n1) (n2 := n2) (n3 := z) (s := (z : Int)) HN0.out HN1.out HN2.out HZL.out.symm HZL2.out v3 A4 m1 c4 _ (HV3.out.mono HSw5.out) HN4.out HM1.out HD3.out (by have := HG1.out; omega) HF.out).mono ?_
  rintro e w6 ⟨A80, c80, A81, c81, A82, c82, A83, c83, rfl, hp, hb⟩
  have HSw6 := Lib.hid hb
  clear hb
  have hkb := kc_new w6 (.slice A80 n0 c80) (.slice A81 n1 c81) (.slice A82 n2 c82) (.slice A83 z c83) (.int .i64 (z : Int))
  have hzb : Below w6.heap.size w6 (w6.alloc (.cells #[.slice A80 n0 c80, .slice A81 n1 c81, .slice A82 n2 c82, .slice A83 z c83, .int .i64 (z : Int)] 28)) := below_alloc _ _
  obtain ⟨y8, hy8⟩ : ∃ y8, y8 = (w6.alloc (.cells #[.slice A80 n0 c80, .slice A81 n1 c81, .slice A82 n2 c82, .slice A83 z c83, .int .i64 (z : Int)] 28)) := ⟨_, rfl⟩
  obtain ⟨X8, hX8⟩ : ∃ X8, X8 = w6.heap.size := ⟨_, rfl⟩
  rw [← hy8, ← hX8] at hkb
  rw [← hy8] at hzb
  have HK8 := Lib.hid hkb
  have HZ8 := Lib.hid hzb
  clear hkb hzb
  have HVD := Lib.hid ((hp.belowK HZ8.out).read HFD.out)
  clear hp
  go_upto_region 9 with (fail)
  rw [← hy8, ← hX8]
  clear hy8 hX8
  obtain ⟨k00, k01, k02, k03, k04⟩ := HK0.out.below (below_step (below_step (below_step (below_step (below_step (below_step HSw1.out HSw2.out) HSw3.out) HSw4.out) HSw5.out) HSw6.out) HZ8.out)
  go_wp2_with fail
  refine (twin_c _ c _ (HCV.out.mono (below_step (below_step (below_step (below_step (below_step (below_step HSw1.out HSw2.out) HSw3.out) HSw4.out) HSw5.out) HSw6.out) HZ8.out)) HF.out).mono ?_
  rintro e w7 ⟨v5, rfl, hv, hb⟩
  have HSw7 := Lib.hid hb
  clear hb
  obtain ⟨vt, vc, vs, vd, rfl, ht, hcc, hss, hdd⟩ := hv
  obtain ⟨A100, c100, rfl, _⟩ := id ht
  obtain ⟨A101, c101, rfl, _⟩ := id hcc
  obtain ⟨A102, c102, rfl, _⟩ := id hss
  obtain ⟨A103, c103, rfl, _⟩ := id hdd
  have HT5 := Lib.hid ht
  have HC5 := Lib.hid hcc
  have HS5 := Lib.hid hss
  clear ht hcc hss hdd
  rw [← HN0.out, ← HN1.out, ← HN2.out, ← HN3.out, ← HSZ.out]
  clear k00 k01 k02 k03 k04
  have hkx := kx_new w7 (.slice A100 n0 c100) (.slice A101 n1 c101) (.slice A102 n2 c102) (.slice A103 n3 c103) (.int .i64 s)
  have hzb : Below w7.heap.size w7 (w7.alloc (.cells #[.slice A100 n0 c100, .slice A101 n1 c101, .slice A102 n2 c102, .slice A103 n3 c103, .int .i64 s] 28)) := below_alloc _ _
  obtain ⟨y10, hy10⟩ : ∃ y10, y10 = (w7.alloc (.cells #[.slice A100 n0 c100, .slice A101 n1 c101, .slice A102 n2 c102, .slice A103 n3 c103, .int .i64 s] 28)) := ⟨_, rfl⟩
  obtain ⟨X10, hX10⟩ : ∃ X10, X10 = w7.heap.size := ⟨_, rfl⟩
  have HX10 : Hid (w7.heap.size ≤ X10) := Lib.hid (by rw [hX10]; exact Nat.le_refl _)
  rw [← hy10, ← hX10] at hkx
  rw [← hy10] at hzb
  have HKX := Lib.hid hkx
  have HZ10 := Lib.hid hzb
  clear hkx hzb
  go_upto_region 14 with (fail)
  rw [← hy10, ← hX10]
  clear hy10 hX10
  obtain ⟨k00, k01, k02, k03, k04⟩ := HK0.out.below (below_step (below_step (below_step (below_step (below_step (below_step (below_step (below_step HSw1.out HSw2.out) HSw3.out) HSw4.out) HSw5.out) HSw6.out) HZ8.out) HSw7.out) HZ10.out)
  have HDAT := Lib.hid (data_of HCV.out)
  go_wp2_with fail
  refine (own_any _ c.data _ (HDAT.out.mono (below_step (below_step (below_step (below_step (below_step (below_step (below_step (below_step HSw1.out HSw2.out) HSw3.out) HSw4.out) HSw5.out) HSw6.out) HZ8.out) HSw7.out) HZ10.out))).mono ?_
  rintro e wo ⟨v6, rfl, ho6, hb⟩
  have HSwo := Lib.hid hb
  have HO6 : Hid (Own8 wo y10.heap.size v6 c.data) := Lib.hid ho6
  clear hb ho6
  clear k00 k01 k02 k03 k04
  have HONE6 : Hid (NumsV wo .u8 (.slice B1 m1 b1) one) := Lib.hid (HONE.out.mono (below_step (below_step (below_step (below_step (below_step (below_step (below_step (below_step (below_step (below_step HZ0.out HSw1.out) HSw2.out) HSw3.out) HSw4.out) HSw5.out) HSw6.out) HZ8.out) HSw7.out) HZ10.out) HSwo.out))
  have HRM : Hid (c.data.length + one.length ≤ reach) := Lib.hid (by have := HZ.out; have := HZB.out; unfold reach; omega)
  have hsz6 := HSwo.out.size
  go_wp2_with (at_builtin; refine app_list (.tmp 73) (.tmp 74) rfl rfl _ _ _ c.data one rfl HO6 rfl HONE6 hsz6 HRM ?_)
  intro v7 wz ho7 hb7
  obtain ⟨A7, c7, rfl⟩ : ∃ A d, v7 = Value.slice A z d := (by obtain ⟨A, d, e, _⟩ := own_shape ho7; exact ⟨A, d, by rw [e, HZL.out]⟩)
  have HSwz : Hid (Below y10.heap.size y10 wz) := Lib.hid (HSwo.out.trans hb7)
  have HO7 : Hid (wz.ownsRow y10.heap.size 5 1 (.slice A7 z c7) z (nums .u8 (c.data ++ one))) := Lib.hid (by unfold Own8 at ho7; rw [HZL.out] at ho7; exact ho7)
  clear ho7 hb7 hsz6
  obtain ⟨x0, x1, x2, x3, x4, fx⟩ := HKX.out.below HSwz.out
  go_upto_region 16 with (fail)
  have hkx := kx_set34 (HKX.out.below HSwz.out) (.slice A7 z c7) (.int .i64 (z : Int))
  have hg1 := grown_setCell wz X10 3 (.slice A7 z c7)
  have hg2 := grown_setCell (wz.setCell ⟨X10, 3, none⟩ (.slice A7 z c7)) X10 4 (.int .i64 (z : Int))
  have hxl : X10 < y10.heap.size := World.block_lt_of_cell? _ _ HKX.out.c0
  have ho9 := own_other (own_other HO7.out hg1 (.inr fun e => by have := own_ge HO7.out _ e; omega)) hg2 (.inr fun e => by have := own_ge HO7.out _ e; omega)
  have hb8 : Below y8.heap.size y8 wz := (below_step (below_step HSw7.out HZ10.out) HSwz.out)
  have hx8 : y8.heap.size ≤ X10 := by have := HX10.out; have := (HSw7.out).size; omega
  have hb82 := (hb8.grown hg1 hb8.size (by rintro k ⟨⟩; exact hx8)).grown hg2 (Nat.le_trans hb8.size hg1.size) (by rintro k ⟨⟩; exact hx8)
  have hb5 : Below w7.heap.size w7 wz := (below_step HZ10.out HSwz.out)
  have hb52 := (hb5.grown hg1 hb5.size (by rintro k ⟨⟩; exact HX10.out)).grown hg2 (Nat.le_trans hb5.size hg1.size) (by rintro k ⟨⟩; exact HX10.out)
  obtain ⟨yd, hyd⟩ : ∃ yd, yd = (wz.setCell ⟨X10, 3, none⟩ (.slice A7 z c7)).setCell ⟨X10, 4, none⟩ (.int .i64 (z : Int)) := ⟨_, rfl⟩
  rw [← hyd] at hkx ho9 hb82 hb52 ⊢
  have HKD := Lib.hid hkx
  have HSyd := Lib.hid hb82
  have HV11 : Hid (ContV yd (.agg #[.slice A100 n0 c100, .slice A101 n1 c101, .slice A102 n2 c102, .slice A7 z c7, .int .i64 (z : Int)]) (withD c (c.data ++ one))) := Lib.hid (by
    have k0 := HT5.out.mono hb52
    have k1 := HC5.out.mono hb52
    have k2 := HS5.out.mono hb52
    rw [← HN0.out] at k0
    rw [← HN1.out] at k1
    rw [← HN2.out] at k2
    have k3 : NumsV yd .u8 (.slice A7 z c7) (c.data ++ one) := own_nums_n ho9 HZL.out (by have := HZB.out; unfold reach; omega)
    exact ⟨_, _, _, _, by show _ = Value.agg #[_, _, _, _, .int .i64 ((c.data ++ one).length : Int)]; rw [HZL.out], k0, k1, k2, k3⟩)
  clear hkx hg1 hg2 hxl ho9 hb8 hx8 hb82 hb5 hb52 hyd x0 x1 x2 x3 x4 fx
  obtain ⟨x0, x1, x2, x3, x4, fx⟩ := HKD.out
  obtain ⟨k80, k81, k82, k83, k84⟩ := HK8.out.below HSyd.out
  go_wp2_with fail
  refine (same_c (HVD.out.mono HSyd.out) HV11.out).mono ?_
  rintro e w8 ⟨rfl, hb⟩
  have HSw8 := Lib.hid hb
  clear hb
  clear x0 x1 x2 x3 x4 fx k80 k81 k82 k83 k84
  obtain ⟨k80, k81, k82, k83, k84⟩ := HK8.out.below (below_step HSyd.out HSw8.out)
  go_wp2_with fail
  refine (twin_c _ _ _ (HVD.out.mono (below_step HSyd.out HSw8.out)) HFD.out).mono ?_
  rintro e w9 ⟨v12, rfl, hv, hb⟩
  have HSw9 := Lib.hid hb
  clear hb
  have HV12 := Lib.hid hv
  clear hv k80 k81 k82 k83 k84
  go_wp2_with fail
  refine (own_sl _ two m2 _ (HTWO.out.mono (below_step (below_step (below_step (below_step (below_step (below_step (below_step (below_step (below_step (below_step HZ0.out HSw1.out) HSw2.out) HSw3.out) HSw4.out) HSw5.out) HSw6.out) HZ8.out) HSyd.out) HSw8.out) HSw9.out)) HM2.out).mono ?_
  rintro e w10 ⟨A14, c14, rfl, hn, hb⟩
  have HSw10 := Lib.hid hb
  clear hb
  have HN14 := Lib.hid hn
  clear hn
  obtain ⟨t, ht⟩ : ∃ t : Nat, t = z + m2 := ⟨_, rfl⟩
  have HT : Hid (t = z + m2) := Lib.hid ht
  have HTL : Hid (((c.data ++ one) ++ two).length = t) := Lib.hid (by rw [List.length_append, HZL.out, HM2.out]; exact ht.symm)
  have HTB : Hid (t ≤ 4194304) := Lib.hid (by have := HG2.out; have := HZB.out; omega)
  have hw : IntKind.i64.wrap ((z : Int) + (m2 : Int)) = (t : Int) := by rw [IntWalk.i64_in _ (by have := HTB.out; omega)]; omega
  clear ht
  by_cases hs3 : 65535 < t
  · skip
    have hq3 : decide ((65535 : Int) < (t : Int)) = true := by simp; omega
    have hq3b : decide (65535 < t) = true := by simp; omega
    have HLX : Hid (lay (withD c (c.data ++ one)) two = (2, ⟨[], [], [], [], 0⟩)) := Lib.hid (lay_long (of_may HMD.out) (by show ¬ ((c.data ++ one).length : Int) + two.length < ((c.data ++ one).length : Int); omega) (by show (65535 : Int) < ((c.data ++ one).length : Int) + two.length; rw [HZL.out, HM2.out]; have := HT.out; omega))
    have HLY : Hid (lay c (one ++ two) = (2, ⟨[], [], [], [], 0⟩)) := Lib.hid (lay_long (of_may HMY.out) (by rw [List.length_append, HM1.out, HM2.out, ← HN3.out, ← HSZ.out]; have := HZN.out; have := HZS.out; omega) (by rw [List.length_append, HM1.out, HM2.out, ← HN3.out]; have := HZN.out; have := HT.out; omega))
    go_wp2_with fail
    refine (lay_c HLX.out (n0 := 0) (n1 := 0) (n2 := 0) (n3 := 0) (s := 0) rfl rfl rfl rfl rfl v12 A14 m2 c14 _ (HV12.out.mono HSw10.out) HN14.out HM2.out (by show (c.data ++ one).length ≤ 268435456; rw [HZL.out]; have := HZB.out; omega) (by have := HG2.out; omega) HFD.out).mono ?_
    rintro e w11 ⟨A110, c110, A111, c111, A112, c112, A113, c113, rfl, hp, hb⟩
    have HSw11 := Lib.hid hb
    clear hb
    have hkb := kc_new w11 (.slice A110 0 c110) (.slice A111 0 c111) (.slice A112 0 c112) (.slice A113 0 c113) (.int .i64 0)
    have hzb : Below w11.heap.size w11 (w11.alloc (.cells #[.slice A110 0 c110, .slice A111 0 c111, .slice A112 0 c112, .slice A113 0 c113, .int .i64 0] 28)) := below_alloc _ _
    obtain ⟨y11, hy11⟩ : ∃ y11, y11 = (w11.alloc (.cells #[.slice A110 0 c110, .slice A111 0 c111, .slice A112 0 c112, .slice A113 0 c113, .int .i64 0] 28)) := ⟨_, rfl⟩
    obtain ⟨X11, hX11⟩ : ∃ X11, X11 = w11.heap.size := ⟨_, rfl⟩
    rw [← hy11, ← hX11] at hkb
    rw [← hy11] at hzb
    have HK11 := Lib.hid hkb
    have HZ11 := Lib.hid hzb
    clear hkb hzb
    have HVX := Lib.hid ((hp.belowK HZ11.out).read fits_zero)
    clear hp
    go_upto_region 19 with (fail)
    rw [← hy11, ← hX11]
    clear hy11 hX11
    obtain ⟨k00, k01, k02, k03, k04⟩ := HK0.out.below (below_step (below_step (below_step (below_step (below_step (below_step (below_step (below_step (below_step (below_step (below_step (below_step HSw1.out HSw2.out) HSw3.out) HSw4.out) HSw5.out) HSw6.out) HZ8.out) HSyd.out) HSw8.out) HSw9.out) HSw10.out) HSw11.out) HZ11.out)
    go_wp2_with fail
    refine (twin_c _ c _ (HCV.out.mono (below_step (below_step (below_step (below_step (below_step (below_step (below_step (below_step (below_step (below_step (below_step (below_step HSw1.out HSw2.out) HSw3.out) HSw4.out) HSw5.out) HSw6.out) HZ8.out) HSyd.out) HSw8.out) HSw9.out) HSw10.out) HSw11.out) HZ11.out)) HF.out).mono ?_
    rintro e w12 ⟨v15, rfl, hv, hb⟩
    have HSw12 := Lib.hid hb
    clear hb
    have HV15 := Lib.hid hv
    clear hv
    clear k00 k01 k02 k03 k04
    go_wp2_with fail
    refine (own_any _ one _ (HONE.out.mono (below_step (below_step (below_step (below_step (below_step (below_step (below_step (below_step (below_step (below_step (below_step (below_step (below_step (below_step HZ0.out HSw1.out) HSw2.out) HSw3.out) HSw4.out) HSw5.out) HSw6.out) HZ8.out) HSyd.out) HSw8.out) HSw9.out) HSw10.out) HSw11.out) HZ11.out) HSw12.out))).mono ?_
    rintro e wp ⟨v16, rfl, ho6, hb⟩
    have HSwp := Lib.hid hb
    have HO16 : Hid (Own8 wp w12.heap.size v16 one) := Lib.hid ho6
    clear hb ho6
    have HTWO6 : Hid (NumsV wp .u8 (.slice B2 m2 b2) two) := Lib.hid (HTWO.out.mono (below_step (below_step (below_step (below_step (below_step (below_step (below_step (below_step (below_step (below_step (below_step (below_step (below_step (below_step (below_step HZ0.out HSw1.out) HSw2.out) HSw3.out) HSw4.out) HSw5.out) HSw6.out) HZ8.out) HSyd.out) HSw8.out) HSw9.out) HSw10.out) HSw11.out) HZ11.out) HSw12.out) HSwp.out))
    have HRM2 : Hid (one.length + two.length ≤ reach) := Lib.hid (by rw [HM1.out, HM2.out]; have := HG1.out; have := HG2.out; unfold reach; omega)
    have hsz16 := HSwp.out.size
    obtain ⟨m12, hm12⟩ : ∃ m12, m12 = m1 + m2 := ⟨_, rfl⟩
    have HM12 : Hid ((one ++ two).length = m12) := Lib.hid (by rw [List.length_append, HM1.out, HM2.out]; exact hm12.symm)
    have HM12B : Hid (m12 ≤ 4194304) := Lib.hid (by have := HG1.out; have := HG2.out; omega)
    clear hm12
    go_wp2_with (at_builtin; refine app_list (.tmp 99) (.tmp 100) rfl rfl _ _ _ one two rfl HO16 rfl HTWO6 hsz16 HRM2 ?_)
    intro v17 wq ho7 hb7
    obtain ⟨A17, c17, rfl⟩ : ∃ A d, v17 = Value.slice A m12 d := (by obtain ⟨A, d, e, _⟩ := own_shape ho7; exact ⟨A, d, by rw [e, HM12.out]⟩)
    have HSwq : Hid (Below w12.heap.size w12 wq) := Lib.hid (HSwp.out.trans hb7)
    have HN17 : Hid (NumsV wq .u8 (.slice A17 m12 c17) (one ++ two)) := Lib.hid (own_nums ho7 (by rw [HM12.out]; have := HM12B.out; unfold reach; omega))
    clear ho7 hb7 hsz16
    go_wp2_with fail
    refine (lay_c HLY.out (n0 := 0) (n1 := 0) (n2 := 0) (n3 := 0) (s := 0) rfl rfl rfl rfl rfl v15 A17 m12 c17 _ (HV15.out.mono HSwq.out) HN17.out HM12.out HD3.out (by have := HM12B.out; omega) HF.out).mono ?_
    rintro e w13 ⟨A130, c130, A131, c131, A132, c132, A133, c133, rfl, hp, hb⟩
    have HSw13 := Lib.hid hb
    clear hb
    have hkb := kc_new w13 (.slice A130 0 c130) (.slice A131 0 c131) (.slice A132 0 c132) (.slice A133 0 c133) (.int .i64 0)
    have hzb : Below w13.heap.size w13 (w13.alloc (.cells #[.slice A130 0 c130, .slice A131 0 c131, .slice A132 0 c132, .slice A133 0 c133, .int .i64 0] 28)) := below_alloc _ _
    obtain ⟨y13, hy13⟩ : ∃ y13, y13 = (w13.alloc (.cells #[.slice A130 0 c130, .slice A131 0 c131, .slice A132 0 c132, .slice A133 0 c133, .int .i64 0] 28)) := ⟨_, rfl⟩
    obtain ⟨X13, hX13⟩ : ∃ X13, X13 = w13.heap.size := ⟨_, rfl⟩
    rw [← hy13, ← hX13] at hkb
    rw [← hy13] at hzb
    have HK13 := Lib.hid hkb
    have HZ13 := Lib.hid hzb
    clear hkb hzb
    have HVY := Lib.hid ((hp.belowK HZ13.out).read fits_zero)
    clear hp
    go_upto_region 20 with (fail)
    rw [← hy13, ← hX13]
    clear hy13 hX13
    go_wp2
    go_ret
    exact ⟨rfl, (below_step (below_step (below_step (below_step (below_step (below_step (below_step (below_step (below_step (below_step (below_step (below_step (below_step (below_step (below_step (below_step (below_step HZ0.out HSw1.out) HSw2.out) HSw3.out) HSw4.out) HSw5.out) HSw6.out) HZ8.out) HSyd.out) HSw8.out) HSw9.out) HSw10.out) HSw11.out) HZ11.out) HSw12.out) HSwq.out) HSw13.out) HZ13.out)⟩
  have hq3 : decide ((65535 : Int) < (t : Int)) = false := by simp; omega
  have hq3b : decide (65535 < t) = false := by simp; omega
  have HTS : Hid (t ≤ 65535) := Lib.hid (by omega)
  have HLX : Hid (lay (withD c (c.data ++ one)) two = (0, withD c ((c.data ++ one) ++ two))) := Lib.hid (lay_withD HMD.out (by show ¬ ((c.data ++ one).length : Int) + two.length < ((c.data ++ one).length : Int); omega) (by show ¬ (65535 : Int) < ((c.data ++ one).length : Int) + two.length; rw [HZL.out, HM2.out]; have := HT.out; omega))
  have HLY : Hid (lay c (one ++ two) = (0, withD c ((c.data ++ one) ++ two))) := Lib.hid (by
    have := lay_withD (bh := one ++ two) HMY.out (by rw [List.length_append, HM1.out, HM2.out, ← HN3.out, ← HSZ.out]; have := HZN.out; have := HZS.out; omega) (by rw [List.length_append, HM1.out, HM2.out, ← HN3.out]; have := HZN.out; have := HT.out; omega)
    rw [← List.append_assoc] at this
    exact this)
  have HMQ : Hid (May (withD c ((c.data ++ one) ++ two))) := Lib.hid (may_withD HMY.out (by rw [HTL.out]; exact HTS.out))
  have HFQ : Hid (Fits (withD c ((c.data ++ one) ++ two))) := Lib.hid (fits_withD HSM.out (by rw [HTL.out]; exact HTS.out))
  have HTL2 : Hid ((t : Int) = (((c.data ++ one) ++ two).length : Int)) := Lib.hid (by rw [HTL.out])
  have HLQ : Hid ((serB (withD c ((c.data ++ one) ++ two))).length ≤ 16777216) := Lib.hid (len_withD HMY.out HSM.out (by rw [HTL.out]; exact HTS.out))
  go_wp2_with fail
  refine (lay_c HLX.out (n0 := n0) (n1 := n1) (n2 := n2) (n3 := t) (s := (t : Int)) HN0.out HN1.out HN2.out HTL.out.symm HTL2.out v12 A14 m2 c14 _ (HV12.out.mono HSw10.out) HN14.out HM2.out (by show (c.data ++ one).length ≤ 268435456; rw [HZL.out]; have := HZB.out; omega) (by have := HG2.out; omega) HFD.out).mono ?_
  rintro e w11 ⟨A110, c110, A111, c111, A112, c112, A113, c113, rfl, hp, hb⟩
  have HSw11 := Lib.hid hb
  clear hb
  have hkb := kc_new w11 (.slice A110 n0 c110) (.slice A111 n1 c111) (.slice A112 n2 c112) (.slice A113 t c113) (.int .i64 (t : Int))
  have hzb : Below w11.heap.size w11 (w11.alloc (.cells #[.slice A110 n0 c110, .slice A111 n1 c111, .slice A112 n2 c112, .slice A113 t c113, .int .i64 (t : Int)] 28)) := below_alloc _ _
  obtain ⟨y11, hy11⟩ : ∃ y11, y11 = (w11.alloc (.cells #[.slice A110 n0 c110, .slice A111 n1 c111, .slice A112 n2 c112, .slice A113 t c113, .int .i64 (t : Int)] 28)) := ⟨_, rfl⟩
  obtain ⟨X11, hX11⟩ : ∃ X11, X11 = w11.heap.size := ⟨_, rfl⟩
  rw [← hy11, ← hX11] at hkb
  rw [← hy11] at hzb
  have HK11 := Lib.hid hkb
  have HZ11 := Lib.hid hzb
  clear hkb hzb
  have HVX := Lib.hid ((hp.belowK HZ11.out).read HFQ.out)
  clear hp
  go_upto_region 19 with (fail)
  rw [← hy11, ← hX11]
  clear hy11 hX11
  obtain ⟨k00, k01, k02, k03, k04⟩ := HK0.out.below (below_step (below_step (below_step (below_step (below_step (below_step (below_step (below_step (below_step (below_step (below_step (below_step HSw1.out HSw2.out) HSw3.out) HSw4.out) HSw5.out) HSw6.out) HZ8.out) HSyd.out) HSw8.out) HSw9.out) HSw10.out) HSw11.out) HZ11.out)
  go_wp2_with fail
  refine (twin_c _ c _ (HCV.out.mono (below_step (below_step (below_step (below_step (below_step (below_step (below_step (below_step (below_step (below_step (below_step (below_step HSw1.out HSw2.out) HSw3.out) HSw4.out) HSw5.out) HSw6.out) HZ8.out) HSyd.out) HSw8.out) HSw9.out) HSw10.out) HSw11.out) HZ11.out)) HF.out).mono ?_
  rintro e w12 ⟨v15, rfl, hv, hb⟩
  have HSw12 := Lib.hid hb
  clear hb
  have HV15 := Lib.hid hv
  clear hv
  clear k00 k01 k02 k03 k04
  go_wp2_with fail
  refine (own_any _ one _ (HONE.out.mono (below_step (below_step (below_step (below_step (below_step (below_step (below_step (below_step (below_step (below_step (below_step (below_step (below_step (below_step HZ0.out HSw1.out) HSw2.out) HSw3.out) HSw4.out) HSw5.out) HSw6.out) HZ8.out) HSyd.out) HSw8.out) HSw9.out) HSw10.out) HSw11.out) HZ11.out) HSw12.out))).mono ?_
  rintro e wp ⟨v16, rfl, ho6, hb⟩
  have HSwp := Lib.hid hb
  have HO16 : Hid (Own8 wp w12.heap.size v16 one) := Lib.hid ho6
  clear hb ho6
  have HTWO6 : Hid (NumsV wp .u8 (.slice B2 m2 b2) two) := Lib.hid (HTWO.out.mono (below_step (below_step (below_step (below_step (below_step (below_step (below_step (below_step (below_step (below_step (below_step (below_step (below_step (below_step (below_step HZ0.out HSw1.out) HSw2.out) HSw3.out) HSw4.out) HSw5.out) HSw6.out) HZ8.out) HSyd.out) HSw8.out) HSw9.out) HSw10.out) HSw11.out) HZ11.out) HSw12.out) HSwp.out))
  have HRM2 : Hid (one.length + two.length ≤ reach) := Lib.hid (by rw [HM1.out, HM2.out]; have := HG1.out; have := HG2.out; unfold reach; omega)
  have hsz16 := HSwp.out.size
  obtain ⟨m12, hm12⟩ : ∃ m12, m12 = m1 + m2 := ⟨_, rfl⟩
  have HM12 : Hid ((one ++ two).length = m12) := Lib.hid (by rw [List.length_append, HM1.out, HM2.out]; exact hm12.symm)
  have HM12B : Hid (m12 ≤ 4194304) := Lib.hid (by have := HG1.out; have := HG2.out; omega)
  clear hm12
  go_wp2_with (at_builtin; refine app_list (.tmp 99) (.tmp 100) rfl rfl _ _ _ one two rfl HO16 rfl HTWO6 hsz16 HRM2 ?_)
  intro v17 wq ho7 hb7
  obtain ⟨A17, c17, rfl⟩ : ∃ A d, v17 = Value.slice A m12 d := (by obtain ⟨A, d, e, _⟩ := own_shape ho7; exact ⟨A, d, by rw [e, HM12.out]⟩)
  have HSwq : Hid (Below w12.heap.size w12 wq) := Lib.hid (HSwp.out.trans hb7)
  have HN17 : Hid (NumsV wq .u8 (.slice A17 m12 c17) (one ++ two)) := Lib.hid (own_nums ho7 (by rw [HM12.out]; have := HM12B.out; unfold reach; omega))
  clear ho7 hb7 hsz16
  go_wp2_with fail
  refine (lay_c HLY.out (n0 := n0) (n1 := n1) (n2 := n2) (n3 := t) (s := (t : Int)) HN0.out HN1.out HN2.out HTL.out.symm HTL2.out v15 A17 m12 c17 _ (HV15.out.mono HSwq.out) HN17.out HM12.out HD3.out (by have := HM12B.out; omega) HF.out).mono ?_
  rintro e w13 ⟨A130, c130, A131, c131, A132, c132, A133, c133, rfl, hp, hb⟩
  have HSw13 := Lib.hid hb
  clear hb
  have hkb := kc_new w13 (.slice A130 n0 c130) (.slice A131 n1 c131) (.slice A132 n2 c132) (.slice A133 t c133) (.int .i64 (t : Int))
  have hzb : Below w13.heap.size w13 (w13.alloc (.cells #[.slice A130 n0 c130, .slice A131 n1 c131, .slice A132 n2 c132, .slice A133 t c133, .int .i64 (t : Int)] 28)) := below_alloc _ _
  obtain ⟨y13, hy13⟩ : ∃ y13, y13 = (w13.alloc (.cells #[.slice A130 n0 c130, .slice A131 n1 c131, .slice A132 n2 c132, .slice A133 t c133, .int .i64 (t : Int)] 28)) := ⟨_, rfl⟩
  obtain ⟨X13, hX13⟩ : ∃ X13, X13 = w13.heap.size := ⟨_, rfl⟩
  rw [← hy13, ← hX13] at hkb
  rw [← hy13] at hzb
  have HK13 := Lib.hid hkb
  have HZ13 := Lib.hid hzb
  clear hkb hzb
  have HVY := Lib.hid ((hp.belowK HZ13.out).read HFQ.out)
  clear hp
  go_upto_region 20 with (fail)
  rw [← hy13, ← hX13]
  clear hy13 hX13
  obtain ⟨p0, p1, p2, p3, p4⟩ := HK11.out.below (below_step (below_step (below_step HSw12.out HSwq.out) HSw13.out) HZ13.out)
  obtain ⟨r0, r1, r2, r3, r4⟩ := HK13.out
  go_wp2_with fail
  refine (same_c (HVX.out.mono (below_step (below_step (below_step HSw12.out HSwq.out) HSw13.out) HZ13.out)) HVY.out).mono ?_
  rintro e w14 ⟨rfl, hb⟩
  have HSw14 := Lib.hid hb
  clear hb
  clear p0 p1 p2 p3 p4 r0 r1 r2 r3 r4
  obtain ⟨r0, r1, r2, r3, r4⟩ := HK13.out.below HSw14.out
  go_wp2_with fail
  refine (twin_c _ _ _ (HVY.out.mono HSw14.out) HFQ.out).mono ?_
  rintro e w15 ⟨v18, rfl, hv, hb⟩
  have HSw15 := Lib.hid hb
  clear hb
  have HV18 := Lib.hid hv
  clear hv r0 r1 r2 r3 r4
  obtain ⟨N, hN⟩ : ∃ N, N = (serB (withD c ((c.data ++ one) ++ two))).length := ⟨_, rfl⟩
  have hNr : N ≤ reach := by rw [hN]; have := HLQ.out; unfold reach; omega
  have HSERQ : Hid (∀ W v, ContV W v (withD c ((c.data ++ one) ++ two)) → Calls Try.prog 25 #[v] W (SerC (serB (withD c ((c.data ++ one) ++ two))) N W)) := Lib.hid fun W v h => ser_c v _ N W h HMQ.out hN.symm hNr
  have HBYQ : Hid (∀ W v, ContV W v (withD c ((c.data ++ one) ++ two)) → Calls Try.prog 28 #[v] W (OwnPost (serB (withD c ((c.data ++ one) ++ two))) N W)) := Lib.hid fun W v h => bytes_c v _ N W h HMQ.out hN.symm hNr
  clear hN hNr
  go_wp2_with fail
  refine (HSERQ.out _ _ HV18.out).mono ?_
  rintro e w16 ⟨A19, c19, rfl, hn, hb⟩
  have HSw16 := Lib.hid hb
  clear hb
  have HN19 := Lib.hid hn
  clear hn
  obtain ⟨r0, r1, r2, r3, r4⟩ := HK13.out.below (below_step (below_step HSw14.out HSw15.out) HSw16.out)
  go_wp2_with fail
  refine (HBYQ.out _ _ (HVY.out.mono (below_step (below_step HSw14.out HSw15.out) HSw16.out))).mono ?_
  rintro e w17 ⟨A20, c20, rfl, hn, hb⟩
  have HSw17 := Lib.hid hb
  clear hb
  have HN20 := Lib.hid hn
  clear hn
  go_wp2_with fail
  refine (sb_c _ _ _ _ _ _ _ (HN19.out.mono HSw17.out) HN20.out).mono ?_
  rintro e w18 ⟨rfl, hb⟩
  have HSw18 := Lib.hid hb
  clear hb
  go_wp2
  go_ret
  exact ⟨rfl, (below_step (below_step (below_step (below_step (below_step (below_step (below_step (below_step (below_step (below_step (below_step (below_step (below_step (below_step (below_step (below_step (below_step (below_step (below_step (below_step (below_step (below_step HZ0.out HSw1.out) HSw2.out) HSw3.out) HSw4.out) HSw5.out) HSw6.out) HZ8.out) HSyd.out) HSw8.out) HSw9.out) HSw10.out) HSw11.out) HZ11.out) HSw12.out) HSwq.out) HSw13.out) HZ13.out) HSw14.out) HSw15.out) HSw16.out) HSw17.out) HSw18.out)⟩
theorem laid_law (v : Value) (c : Cont) (u1 : Value) (one : List Int) (u2 : Value) (two : List Int) (w : World) (h : ContV w v c) (hok : ContOk c) (h1 : NumsV w .u8 u1 one) (hy1 : Byt one) (h2 : NumsV w .u8 u2 two) (hy2 : Byt two) : Calls Try.prog 12 #[v, u1, u2] w (TruePost w) := by
  have h1' := h1
  have h2' := h2
  obtain ⟨B1, b1, rfl, _⟩ := h1'
  obtain ⟨B2, b2, rfl, _⟩ := h2'
  exact laid_any v c B1 B2 _ _ b1 b2 one two w h hok h1 h2 hy1 hy2 rfl rfl
end Go.Proofs.Ytkbboepopcebaaa
