/- ContainerCuts: the walk. -/
import Derived.Test.YtkbboepopcebaaaCD
namespace Go.Proofs.Ytkbboepopcebaaa
open Go.RowKit

theorem tmod_facts (a : Int) (N : Nat) (hN : 0 < N) : -(N : Int) < a.tmod N ∧ a.tmod N < N := by
  have h1 := Int.tmod_lt_of_pos a (show (0 : Int) < N by omega)
  have h2 := Int.lt_tmod_of_pos a (show (0 : Int) < N by omega)
  exact ⟨h2, h1⟩
set_option maxRecDepth 100000 in
set_option maxHeartbeats 16000000 in
theorem cuts_any (v : Value) (c : Cont) (at_ : Int) (B : Option Addr) (m cb : Nat) (tail : List Int) (w : World) (h : ContV w v c) (hok : ContOk c) (ht : NumsV w .u8 (.slice B m cb) tail) (hty : Byt tail) (hm : tail.length = m) :
    Calls Try.prog 8 #[v, .int .i64 at_, .slice B m cb] w (TruePost w) := by
  obtain ⟨vt, vc, vs, vd, rfl, ⟨A0, c0, rfl, i1, i2, hr0, ht⟩, ⟨A1, c1, rfl, j1, j2, hc⟩, ⟨A2, c2, rfl, k1, k2, hs⟩, ⟨A3, c3, rfl, l1, l2, hd⟩⟩ := h
  have hcv : ContV w (.agg #[.slice A0 c.types.length c0, .slice A1 c.codes.length c1, .slice A2 c.subs.length c2, .slice A3 c.data.length c3, .int .i64 c.size]) c := ⟨_, _, _, _, rfl, ⟨A0, c0, rfl, i1, i2, hr0, ht⟩, ⟨A1, c1, rfl, j1, j2, hc⟩, ⟨A2, c2, rfl, k1, k2, hs⟩, ⟨A3, c3, rfl, l1, l2, hd⟩⟩
  clear i1 i2 hr0 ht j1 j2 hc k1 k2 hs l1 l2 hd
  obtain ⟨n0, h0⟩ : ∃ n0, n0 = c.types.length := ⟨_, rfl⟩
  obtain ⟨n1, h1⟩ : ∃ n1, n1 = c.codes.length := ⟨_, rfl⟩
  obtain ⟨n2, h2⟩ : ∃ n2, n2 = c.subs.length := ⟨_, rfl⟩
  obtain ⟨n3, h3⟩ : ∃ n3, n3 = c.data.length := ⟨_, rfl⟩
  obtain ⟨s, h4⟩ : ∃ s, s = c.size := ⟨_, rfl⟩
  rw [← h0, ← h1, ← h2, ← h3, ← h4] at hcv ⊢
  have HN0 := Lib.hid h0
  have HN1 := Lib.hid h1
  have HN2 := Lib.hid h2
  have HN3 := Lib.hid h3
  have HSZ := Lib.hid h4
  have HCV0 := Lib.hid hcv
  have HOK := Lib.hid hok
  clear h0 h1 h2 h3 h4 hcv hok
  have HTL := Lib.hid ht
  have HTY := Lib.hid hty
  have HMT := Lib.hid hm
  clear ht hty hm
  go_enter Try.func8, Try.ntmps8
  have hkb := kc_new w (.slice A0 n0 c0) (.slice A1 n1 c1) (.slice A2 n2 c2) (.slice A3 n3 c3) (.int .i64 s)
  have hzb : Below w.heap.size w (w.alloc (.cells #[.slice A0 n0 c0, .slice A1 n1 c1, .slice A2 n2 c2, .slice A3 n3 c3, .int .i64 s] 28)) := below_alloc _ _
  obtain ⟨y0, hy0⟩ : ∃ y0, y0 = (w.alloc (.cells #[.slice A0 n0 c0, .slice A1 n1 c1, .slice A2 n2 c2, .slice A3 n3 c3, .int .i64 s] 28)) := ⟨_, rfl⟩
  obtain ⟨X0, hX0⟩ : ∃ X0, X0 = w.heap.size := ⟨_, rfl⟩
  rw [← hy0, ← hX0] at hkb
  rw [← hy0] at hzb
  have HK0 := Lib.hid hkb
  have HZ0 := Lib.hid hzb
  have HCV := Lib.hid (HCV0.out.mono hzb)
  clear hkb hzb HCV0
  go_wp2_with fail
  rw [← hy0, ← hX0]
  clear hy0 hX0
  refine (weight_any _ c _ HCV.out).mono ?_
  rintro e w1 ⟨r, rfl, hr, hb⟩
  have HSw1 := Lib.hid hb
  have HR := Lib.hid hr
  clear hb hr
  by_cases hq : (2097152 : Int) < r
  · clear HR
    obtain ⟨k00, k01, k02, k03, k04⟩ := HK0.out.below HSw1.out
    go_wp2
    go_ret
    exact ⟨rfl, (below_step HZ0.out HSw1.out)⟩
  have HSM : Hid (Small c) := Lib.hid (HR.out (by omega))
  clear HR
  by_cases hm2 : 2097152 < m
  · have q1 : decide ((2097152 : Int) < (m : Int)) = true := by simp; omega
    have q2 : decide (2097152 < m) = true := by simp; omega
    obtain ⟨k00, k01, k02, k03, k04⟩ := HK0.out.below HSw1.out
    go_wp2
    go_ret
    exact ⟨rfl, (below_step HZ0.out HSw1.out)⟩
  have q1 : decide ((2097152 : Int) < (m : Int)) = false := by simp; omega
  have q2 : decide (2097152 < m) = false := by simp; omega
  have HM2 := Lib.hid hm2
  clear hm2
  have HABLE : ∀ W, Calls Try.prog 14 #[] W (TruePost W) := able_any
  have HAB := Lib.hid HABLE
  clear HABLE
  go_wp2_with fail
  refine (HAB.out _).mono ?_
  rintro e w2 ⟨rfl, hb⟩
  have HSw2 := Lib.hid hb
  clear hb
  clear q1 q2 hq
  obtain ⟨k00, k01, k02, k03, k04⟩ := HK0.out.below (below_step HSw1.out HSw2.out)
  go_wp2_with fail
  refine (may_any _ c _ (HCV.out.mono (below_step HSw1.out HSw2.out))).mono ?_
  rintro e w3 ⟨rfl, hb⟩
  have HSw3 := Lib.hid hb
  clear hb
  clear k00 k01 k02 k03 k04
  by_cases hmay : ¬ checkErr c = 0
  · have q1 : decide (checkErr c = 0) = false := by simp [hmay]
    rw [q1]
    clear q1 hmay
    go_wp2
    go_ret
    exact ⟨rfl, (below_step (below_step (below_step HZ0.out HSw1.out) HSw2.out) HSw3.out)⟩
  have q1 : decide (checkErr c = 0) = true := by simpa using hmay
  rw [q1]
  have HMY : Hid (May c) := Lib.hid (may_of c (by simpa using hmay))
  clear q1 hmay
  obtain ⟨k00, k01, k02, k03, k04⟩ := HK0.out.below (below_step (below_step HSw1.out HSw2.out) HSw3.out)
  by_cases hd : ¬ (n3 : Int) = s
  · have q1 : (!((n3 : Int) == s)) = true := by simp [hd]
    have q1b : ((n3 : Int) != s) = true := by simp [hd]
    clear hd
    go_wp2
    go_ret
    exact ⟨rfl, (below_step (below_step (below_step HZ0.out HSw1.out) HSw2.out) HSw3.out)⟩
  have q1 : (!((n3 : Int) == s)) = false := by simpa using hd
  have q1b : ((n3 : Int) != s) = false := by simpa using hd
  have HD : Hid ((c.data.length : Int) = c.size) := Lib.hid (by rw [← HN3.out, ← HSZ.out]; simpa using hd)
  clear hd
  obtain ⟨b, hb⟩ : ∃ b, b = serB c := ⟨_, rfl⟩
  obtain ⟨N, hN⟩ : ∃ N, N = b.length := ⟨_, rfl⟩
  have h20 : 20 ≤ N := by rw [hN, hb]; exact ser_20 HMY.out
  have hbig : N ≤ 2200000 := by rw [hN, hb]; exact small_len HMY.out HSM.out
  have hcut : ∀ p, p < N → parse (b.take p) false = .error (50, (p : Int)) := fun p hp => by rw [hb]; exact parse_cut HMY.out HD.out p (by rw [← hb, ← hN]; exact hp)
  have htl : ∀ o, 0 < m → parse (b ++ tail) o = .error (58, (N : Int)) := fun o h => by rw [hN, hb]; exact parse_tail HMY.out HD.out o tail (by rw [HMT.out]; exact h)
  have hyb : Byt b := by rw [hb]; exact byt_ser HOK.out
  have HSERC : Hid (∀ W v, ContV W v c → Calls Try.prog 25 #[v] W (SerC b N W)) := Lib.hid fun W v h => by
    have := ser_c v c N W h HMY.out (by rw [hN, hb]) (by unfold reach; omega)
    rwa [← hb] at this
  have HCUT := Lib.hid hcut
  have HTAIL := Lib.hid htl
  have HYB := Lib.hid hyb
  have HNB := Lib.hid hN
  have HF : Hid (Fits c) := Lib.hid HSM.out.fits
  clear hb hcut htl hyb hN
  go_wp2_with fail
  refine (twin_c _ c _ (HCV.out.mono (below_step (below_step HSw1.out HSw2.out) HSw3.out)) HF.out).mono ?_
  rintro e w4 ⟨v3, rfl, hv3, hb⟩
  have HSw4 := Lib.hid hb
  clear hb
  have HV3 := Lib.hid hv3
  clear hv3 q1 q1b
  clear k00 k01 k02 k03 k04
  go_wp2_with fail
  refine (HSERC.out _ _ HV3.out).mono ?_
  rintro e w5 ⟨A4, c4, rfl, hn4, hb⟩
  have HSw5 := Lib.hid hb
  clear hb
  have HN4 := Lib.hid hn4
  have hnc : N ≤ c4 := by obtain ⟨_, _, e, h1, _⟩ := hn4; injection e with e1 e2 e3; have := HNB.out; omega
  clear hn4
  have g1 : decide ((N : Int) < 20) = false := by simp; omega
  have g2 : decide (N < 20) = false := by simp; omega
  have hnz : ¬ (N : Int) = 0 := by omega
  have hnz2 : ((N : Int) == 0) = false := by simp; omega
  obtain ⟨r1, r2⟩ := tmod_facts at_ N (by omega)
  have hw : IntKind.i64.wrap (at_.tmod (N : Int)) = at_.tmod (N : Int) := IntWalk.i64_in _ (by omega)
  obtain ⟨rm, hrm⟩ : ∃ rm, rm = at_.tmod (N : Int) := ⟨_, rfl⟩
  rw [← hrm] at r1 r2
  go_upto_if 53 with (fail)
  rw [← hrm]
  clear hrm hw g1 g2
  go_cut [1] (fun v wx => ∃ p : Nat, p < N ∧ v = .int .i64 p ∧ wx = w5)
  case first =>
    by_cases hneg : rm < 0
    · have q1 : decide (rm < 0) = true := by simp [hneg]
      obtain ⟨p, hp⟩ : ∃ p : Nat, rm + (N : Int) = p := ⟨(rm + N).toNat, by omega⟩
      have hw : IntKind.i64.wrap (rm + (N : Int)) = (p : Int) := by rw [IntWalk.i64_in _ (by omega)]; exact hp
      have hpN : p < N := by omega
      clear hp r1 r2
      go_wp2_with fail
      go_meet
      exact ⟨p, hpN, rfl, rfl⟩
    · have q1 : decide (rm < 0) = false := by simp; omega
      obtain ⟨p, hp⟩ : ∃ p : Nat, rm = p := ⟨rm.toNat, by omega⟩
      subst hp
      have hpN : p < N := by omega
      have hneg2 : (0 : Int) ≤ p := by omega
      clear hneg r1 r2
      go_wp2_with fail
      go_meet
      exact ⟨p, hpN, rfl, rfl⟩
  case rest =>
    obtain ⟨p, hp, rfl, rfl⟩ := hcut
    clear r1 r2 hnz hnz2
    have hpc : p ≤ c4 := by omega
    have HPN := Lib.hid hp
    have hpl : (b.take p).length = p := by simp; have := HNB.out; omega
    have HPL := Lib.hid hpl
    have HPC : Hid (∀ W A' c', NumsV W .u8 (.slice A' p c') (b.take p) → Calls Try.prog 29 #[.slice A' p c', .bool false] W (NoPost 50 p W)) := Lib.hid fun W A' c' h => parse_noc (HCUT.out p HPN.out) A' p c' W h (byt_take HYB.out p) HPL.out
    have HBIG : Hid (N ≤ 2200000) := Lib.hid hbig
    clear hp h20 hbig hpl hnc
    go_wp2_with fail
    refine (own_sl _ (b.take p) p _ (nums_take HN4.out HNB.out.symm p (Nat.le_of_lt HPN.out)) HPL.out).mono ?_
    rintro e w6 ⟨A5, c5, rfl, hn5, hb⟩
    have HSw6 := Lib.hid hb
    clear hb
    have HN5 := Lib.hid hn5
    clear hn5 hpc
    go_wp2_with fail
    refine (HPC.out _ _ _ HN5.out).mono ?_
    rintro e w7 ⟨rfl, hb⟩
    have HSw7 := Lib.hid hb
    clear hb
    have hzz : (w7.alloc (.cells #[.slice none 0 0, .slice none 0 0, .slice none 0 0, .slice none 0 0, .int .i64 0] 28)).heap.size = w7.heap.size + 1 := by simp
    have hke := ke_new (w7.alloc (.cells #[.slice none 0 0, .slice none 0 0, .slice none 0 0, .slice none 0 0, .int .i64 0] 28)) 50 p
    rw [hzz] at hke
    have hzb : Below w7.heap.size w7 ((w7.alloc (.cells #[.slice none 0 0, .slice none 0 0, .slice none 0 0, .slice none 0 0, .int .i64 0] 28)).alloc (.cells #[.int .i64 50, .slice none 0 0, .int .i64 0, .int .i64 p] 43)) := below_step (below_alloc _ _) (below_alloc _ _)
    obtain ⟨y1, hy1⟩ : ∃ y1, y1 = ((w7.alloc (.cells #[.slice none 0 0, .slice none 0 0, .slice none 0 0, .slice none 0 0, .int .i64 0] 28)).alloc (.cells #[.int .i64 50, .slice none 0 0, .int .i64 0, .int .i64 p] 43)) := ⟨_, rfl⟩
    obtain ⟨X1, hX1⟩ : ∃ X1, X1 = w7.heap.size := ⟨_, rfl⟩
    obtain ⟨Y1, hY1⟩ : ∃ Y1, Y1 = X1 + 1 := ⟨_, rfl⟩
    have hyw : w.heap.size ≤ Y1 := by rw [hY1, hX1]; have := (below_step (below_step (below_step (below_step (below_step (below_step (below_step HZ0.out HSw1.out) HSw2.out) HSw3.out) HSw4.out) HSw5.out) HSw6.out) HSw7.out).size; omega
    rw [← hy1, ← hX1, ← hY1] at hke
    rw [← hy1] at hzb
    have HKE := Lib.hid hke
    have HYW := Lib.hid hyw
    have HZ1 := Lib.hid hzb
    clear hke hzb hzz hyw
    go_upto_region 14 with (fail)
    rw [← hy1, ← hX1, ← hY1]
    clear hy1 hX1 hY1
    obtain ⟨e0, e1, e2, e3, fE⟩ := HKE.out
    by_cases hm0 : m = 0
    · subst hm0
      go_wp2
      go_ret
      exact ⟨rfl, (below_step (below_step (below_step (below_step (below_step (below_step (below_step (below_step HZ0.out HSw1.out) HSw2.out) HSw3.out) HSw4.out) HSw5.out) HSw6.out) HSw7.out) HZ1.out)⟩
    have hm1 : ((m : Int) == 0) = false := by simp; omega
    have HM0 : Hid (0 < m) := Lib.hid (by omega)
    clear hm0
    go_wp2_with fail
    refine (own_any _ b _ (HN4.out.mono (below_step (below_step HSw6.out HSw7.out) HZ1.out))).mono ?_
    rintro e w8 ⟨v6, rfl, ho6, hb⟩
    have HSw8 := Lib.hid hb
    clear hb
    clear e0 e1 e2 e3 fE hm1
    have HO6 : Hid (Own8 w8 y1.heap.size v6 b) := Lib.hid ho6
    have HTL6 : Hid (NumsV w8 .u8 (.slice B m cb) tail) := Lib.hid (HTL.out.mono (below_step (below_step (below_step (below_step (below_step (below_step (below_step (below_step (below_step HZ0.out HSw1.out) HSw2.out) HSw3.out) HSw4.out) HSw5.out) HSw6.out) HSw7.out) HZ1.out) HSw8.out))
    have HRM : Hid (b.length + tail.length ≤ reach) := Lib.hid (by have := HNB.out; have := HMT.out; have := HBIG.out; have := HM2.out; unfold reach; omega)
    have hsz6 := HSw8.out.size
    clear ho6
    go_wp2_with (at_builtin; refine app_list (.tmp 79) (.tmp 80) rfl rfl _ _ _ b tail rfl HO6 rfl HTL6 hsz6 HRM ?_)
    intro v7 wz ho7 hb7
    obtain ⟨A7, c7, rfl, _⟩ := own_shape ho7
    have hlen : (b ++ tail).length = N + m := by rw [List.length_append, ← HNB.out, HMT.out]
    have HSwz : Hid (Below y1.heap.size y1 wz) := Lib.hid (HSw8.out.trans hb7)
    have HY7 : Hid (Y1 < y1.heap.size) := Lib.hid HKE.out.lt
    obtain ⟨M, hM⟩ : ∃ M, M = N + m := ⟨_, rfl⟩
    rw [hlen, ← hM]
    have HO7 : Hid (wz.ownsRow y1.heap.size 5 1 (.slice A7 M c7) M (nums .u8 (b ++ tail))) := Lib.hid (by unfold Own8 at ho7; rw [hlen, ← hM] at ho7; exact ho7)
    have HLEN : Hid ((b ++ tail).length = M) := Lib.hid (by rw [hlen, hM])
    have HRE : Hid ((b ++ tail).length ≤ reach) := Lib.hid (by rw [List.length_append]; exact HRM.out)
    have HBT : Hid (Byt (b ++ tail)) := Lib.hid (byt_app HYB.out HTY.out)
    have HPT : Hid (∀ o W A' c', NumsV W .u8 (.slice A' M c') (b ++ tail) → Calls Try.prog 29 #[.slice A' M c', .bool o] W (NoPost 58 N W)) := Lib.hid fun o W A' c' h => parse_noc (HTAIL.out o HM0.out) A' M c' W h HBT.out HLEN.out
    clear ho7 hb7 hlen hM hsz6
    have nums_row : ∀ W A c, W.ownsRow y1.heap.size 5 1 (.slice A M c) M (nums .u8 (b ++ tail)) → NumsV W .u8 (.slice A M c) (b ++ tail) := fun W A c h => by
      have := HLEN.out
      rw [← this] at h ⊢
      exact own_nums h HRE.out
    have HNR := Lib.hid nums_row
    clear nums_row
    go_wp2_with fail
    refine (own_sl _ (b ++ tail) M _ (HNR.out _ _ _ HO7.out) HLEN.out).mono ?_
    rintro e w9 ⟨A8, c8, rfl, hn8, hb⟩
    have HSw9 := Lib.hid hb
    clear hb
    have HN8 := Lib.hid hn8
    clear hn8
    go_wp2_with fail
    refine (HPT.out false _ _ _ HN8.out).mono ?_
    rintro e w10 ⟨rfl, hb⟩
    have HSw10 := Lib.hid hb
    clear hb
    have HKE2 := Lib.hid (HKE.out.below (below_step (below_step HSwz.out HSw9.out) HSw10.out))
    have HBW := Lib.hid (below_step (below_step (below_step (below_step (below_step (below_step (below_step (below_step (below_step (below_step (below_step HZ0.out HSw1.out) HSw2.out) HSw3.out) HSw4.out) HSw5.out) HSw6.out) HSw7.out) HZ1.out) HSwz.out) HSw9.out) HSw10.out)
    have HO8 := Lib.hid (own_below HO7.out (below_step HSw9.out HSw10.out))
    obtain ⟨e0, e1, e2, e3, fE⟩ := HKE2.out
    obtain ⟨y2, hy2⟩ : ∃ y2, y2 = ((((w10.setCell ⟨Y1, 0, none⟩ (.int .i64 58)).setCell ⟨Y1, 1, none⟩ (.slice none 0 0)).setCell ⟨Y1, 2, none⟩ (.int .i64 0)).setCell ⟨Y1, 3, none⟩ (.int .i64 N)) := ⟨_, rfl⟩
    have hke := HKE2.out.set 58 (N : Int)
    have hgr := grown_setE w10 Y1 (.int .i64 58) (.slice none 0 0) (.int .i64 0) (.int .i64 N)
    have hE2 : y2 = setE w10 Y1 (.int .i64 58) (.slice none 0 0) (.int .i64 0) (.int .i64 N) := hy2
    rw [← hE2] at hke hgr
    have HKE3 := Lib.hid hke
    have HBW2 : Hid (Below w.heap.size w y2) := Lib.hid (HBW.out.grown hgr HBW.out.size (by rintro k ⟨⟩; exact HYW.out))
    have HO9 : Hid (y2.ownsRow y1.heap.size 5 1 (.slice A7 M c7) M (nums .u8 (b ++ tail))) := Lib.hid (own_other HO8.out hgr (.inr fun e => by have := own_ge HO8.out _ e; have := HY7.out; omega))
    clear hke hgr hE2 HKE HKE2 HBW HO8
    go_wp2_with fail
    rw [← hy2]
    clear hy2 e0 e1 e2 e3 fE
    refine (own_sl _ (b ++ tail) M _ (HNR.out _ _ _ HO9.out) HLEN.out).mono ?_
    rintro e w11 ⟨A9, c9, rfl, hn9, hb⟩
    have HSw11 := Lib.hid hb
    have HN9 := Lib.hid hn9
    clear hb hn9
    go_wp2_with fail
    refine (HPT.out true _ _ _ HN9.out).mono ?_
    rintro e w12 ⟨rfl, hb⟩
    have HSw12 := Lib.hid hb
    clear hb
    have hkb := kb_new w12 (.slice none 0 0) (.slice none 0 0) (.slice none 0 0) (.slice none 0 0) (.int .i64 0) 58 N
    have hzb : Below w12.heap.size w12 ((w12.alloc (.cells #[.slice none 0 0, .slice none 0 0, .slice none 0 0, .slice none 0 0, .int .i64 0] 28)).alloc (.cells #[.int .i64 58, .slice none 0 0, .int .i64 0, .int .i64 N] 43)) := below_step (below_alloc _ _) (below_alloc _ _)
    obtain ⟨y3, hy3⟩ : ∃ y3, y3 = ((w12.alloc (.cells #[.slice none 0 0, .slice none 0 0, .slice none 0 0, .slice none 0 0, .int .i64 0] 28)).alloc (.cells #[.int .i64 58, .slice none 0 0, .int .i64 0, .int .i64 N] 43)) := ⟨_, rfl⟩
    obtain ⟨X3, hX3⟩ : ∃ X3, X3 = w12.heap.size := ⟨_, rfl⟩
    obtain ⟨Y3, hY3⟩ : ∃ Y3, Y3 = X3 + 1 := ⟨_, rfl⟩
    rw [← hy3, ← hX3, ← hY3] at hkb
    rw [← hy3] at hzb
    have HK3 := Lib.hid hkb
    have HZ3 := Lib.hid hzb
    clear hkb hzb
    go_upto_region 21 with (fail)
    rw [← hy3, ← hX3, ← hY3]
    clear hy3 hX3 hY3
    obtain ⟨e0, e1, e2, e3, fE⟩ := HKE3.out.below (below_step (below_step HSw11.out HSw12.out) HZ3.out)
    obtain ⟨_, _, _, _, _, l0, l1, l2, l3⟩ := HK3.out
    go_wp2
    go_ret
    exact ⟨rfl, (below_step (below_step (below_step HBW2.out HSw11.out) HSw12.out) HZ3.out)⟩
theorem cuts_law (v : Value) (c : Cont) (at_ : Int) (v2 : Value) (tail : List Int) (w : World) (h : ContV w v c) (hok : ContOk c) {P : Prop} (_ha : P) (ht : NumsV w .u8 v2 tail) (hty : Byt tail) : Calls Try.prog 8 #[v, .int .i64 at_, v2] w (TruePost w) := by
  have ht' := ht
  obtain ⟨B, cb, rfl, _⟩ := ht'
  exact cuts_any v c at_ B _ cb tail w h hok ht hty rfl
end Go.Proofs.Ytkbboepopcebaaa
