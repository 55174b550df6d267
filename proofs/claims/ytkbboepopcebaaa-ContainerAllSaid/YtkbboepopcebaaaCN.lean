/- Lay: the walk. -/
import Derived.Test.YtkbboepopcebaaaCQ
namespace Go.Proofs.Ytkbboepopcebaaa
open Go.RowKit

set_option maxRecDepth 100000 in
set_option maxHeartbeats 16000000 in
theorem lay_any (v : Value) (c : Cont) (A4 : Option Addr) (m c4 : Nat) (bh : List Int) (w : World) (h : ContV w v c) (hb : NumsV w .u8 (.slice A4 m c4) bh) (hm : bh.length = m) (hc1 : c.data.length ≤ 268435456) (hm1 : m ≤ 268435456) (hfits : Fits c) :
    Calls Try.prog 32 #[v, .slice A4 m c4] w (LayPost c bh w) := by
  have HCH : Hid (∀ W, Below w.heap.size w W → Calls Try.prog 18 #[v] W fun e w' => e = .returned (.int .i64 (checkErr c)) ∧ Below W.heap.size W w') := Lib.hid fun W hW => check_any v c W (h.mono hW)
  have HV := Lib.hid h
  have HF := Lib.hid hfits
  clear hfits
  obtain ⟨vt, vc, vs, vd, rfl, ⟨A0, c0, rfl, i1, i2, hr0, ht⟩, ⟨A1, c1, rfl, _, _, hc⟩, ⟨A2, c2, rfl, _, _, hs⟩, ⟨A3, c3, rfl, k1, k2, hd⟩⟩ := h
  have HD : Hid (NumsV w .u8 (.slice A3 c.data.length c3) c.data) := Lib.hid ⟨A3, c3, rfl, k1, k2, hd⟩
  have HT : Hid (TypesV w (.slice A0 c.types.length c0) c.types) := Lib.hid ⟨A0, c0, rfl, i1, i2, hr0, ht⟩
  have HC := Lib.hid hc
  have HS := Lib.hid hs
  have HBH := Lib.hid hb
  have HM := Lib.hid hm
  have hcc := kx_new w (.slice A0 c.types.length c0) (.slice A1 c.codes.length c1) (.slice A2 c.subs.length c2) (.slice A3 c.data.length c3) (.int .i64 c.size)
  have hb1 := below_alloc w (.cells #[.slice A0 c.types.length c0, .slice A1 c.codes.length c1, .slice A2 c.subs.length c2, .slice A3 c.data.length c3, .int .i64 c.size] 28)
  have hz : (w.alloc (.cells #[.slice A0 c.types.length c0, .slice A1 c.codes.length c1, .slice A2 c.subs.length c2, .slice A3 c.data.length c3, .int .i64 c.size] 28)).heap.size = w.heap.size + 1 := by simp
  obtain ⟨W1, hW1⟩ : ∃ W1, W1 = w.alloc (.cells #[.slice A0 c.types.length c0, .slice A1 c.codes.length c1, .slice A2 c.subs.length c2, .slice A3 c.data.length c3, .int .i64 c.size] 28) := ⟨_, rfl⟩
  rw [← hW1] at hcc hb1 hz
  have hcr := kx_new W1 (.slice none 0 0) (.slice none 0 0) (.slice none 0 0) (.slice none 0 0) (.int .i64 0)
  have hb2 := below_alloc W1 (.cells #[.slice none 0 0, .slice none 0 0, .slice none 0 0, .slice none 0 0, .int .i64 0] 28)
  obtain ⟨W, hW⟩ : ∃ W, W = W1.alloc (.cells #[.slice none 0 0, .slice none 0 0, .slice none 0 0, .slice none 0 0, .int .i64 0] 28) := ⟨_, rfl⟩
  rw [← hW] at hcr hb2
  obtain ⟨T, hT⟩ : ∃ T, T = w.heap.size := ⟨_, rfl⟩
  obtain ⟨C, hC⟩ : ∃ C, C = T + 1 := ⟨_, rfl⟩
  rw [hz, ← hT, ← hC] at hcr
  rw [← hT] at hcc
  have HCT := Lib.hid (hcc.of_block (hb2.block T hcc.lt))
  have HCR := Lib.hid hcr
  have HBW : Hid (Below w.heap.size w W) := Lib.hid (below_step hb1 hb2)
  have HTC : Hid (T < C) := Lib.hid (by omega)
  have HTW : Hid (w.heap.size ≤ C) := Lib.hid (by omega)
  clear hcc hcr hb1 hb2 hz ht hc hs hd hb hm i1 i2 k1 k2 hr0
  go_enter Try.func32, Try.ntmps32
  go_wp2_with fail
  rw [← hW1, ← hW, ← hT, ← hC]
  clear hW1 hW hT hC
  refine (HCH.out W HBW.out).mono ?_
  rintro e w1 ⟨rfl, hb1⟩
  have HB1 := Lib.hid hb1
  have HCT1 := Lib.hid (HCT.out.of_block (hb1.block T HCT.out.lt))
  have HCR1 := Lib.hid (HCR.out.of_block (hb1.block C HCR.out.lt))
  clear hb1 HCT HCR
  have HDL : Hid (c.data.length ≤ 268435456) := Lib.hid hc1
  have hno := fun er (h : lay c bh = (er, ⟨[], [], [], [], 0⟩)) w' (hb : Below w.heap.size w w') => layP_no (w := w) (w' := w') h hb
  have HNO := Lib.hid hno
  obtain ⟨k0, k1, k2, k3, k4, fC⟩ := HCR1.out
  obtain ⟨t0, t1, t2, t3, t4, _⟩ := HCT1.out
  obtain ⟨n0, hn0⟩ : ∃ n0, n0 = c.types.length := ⟨_, rfl⟩
  obtain ⟨n1, hn1⟩ : ∃ n1, n1 = c.codes.length := ⟨_, rfl⟩
  obtain ⟨n2, hn2⟩ : ∃ n2, n2 = c.subs.length := ⟨_, rfl⟩
  obtain ⟨n3, hn3⟩ : ∃ n3, n3 = c.data.length := ⟨_, rfl⟩
  obtain ⟨sz, hsz⟩ : ∃ sz, sz = c.size := ⟨_, rfl⟩
  obtain ⟨e1, he1⟩ : ∃ e1, e1 = checkErr c := ⟨_, rfl⟩
  rw [← hn0] at t0
  rw [← hn1] at t1
  rw [← hn2] at t2
  rw [← hn3] at t3
  rw [← hsz] at t4
  rw [← hn3] at hc1
  rw [← hn0, ← hn1, ← hn2, ← hn3, ← hsz, ← he1]
  have HN0 := Lib.hid hn0
  have HN1 := Lib.hid hn1
  have HN2 := Lib.hid hn2
  have HN3 := Lib.hid hn3
  have HSZ := Lib.hid hsz
  have HE := Lib.hid he1
  clear hno hn0 hn1 hn2 hn3 hsz he1 HCH
  have HB2 : Hid (Below w.heap.size w w1) := Lib.hid (below_step HBW.out HB1.out)
  by_cases g : e1 = 0
  · have HG := Lib.hid g
    have HE0 : Hid (checkErr c = 0) := Lib.hid (by rw [← HE.out]; exact g)
    subst g
    obtain ⟨z, hz⟩ : ∃ z : Nat, z = n3 + m := ⟨_, rfl⟩
    have hw : IntKind.i64.wrap ((n3 : Int) + (m : Int)) = (z : Int) := by rw [IntWalk.i64_in _ (by omega)]; omega
    have HZ : Hid ((c.data.length : Int) + bh.length = (z : Int)) := Lib.hid (by rw [HM.out, ← HN3.out]; omega)
    clear hz
    by_cases g1 : (z : Int) < sz
    · have q1 : decide ((z : Int) < sz) = true := by simpa using g1
      have HPP : Hid (lay c bh = (50, ⟨[], [], [], [], 0⟩)) := Lib.hid (lay_short HE0.out (by rw [HZ.out, ← HSZ.out]; exact g1))
      clear g1
      go_wp2
      exact lay_bad rfl rfl HCR1.out HB2.out HTW.out HPP.out
    · have q1 : decide ((z : Int) < sz) = false := by simpa using g1
      have G1 := Lib.hid g1
      clear g1
      by_cases g2 : 65535 < z
      · have q2 : decide ((65535 : Int) < (z : Int)) = true := by simp; omega
        have q3 : decide (65535 < z) = true := by simp; omega
        have HPP : Hid (lay c bh = (2, ⟨[], [], [], [], 0⟩)) := Lib.hid (lay_long HE0.out (by rw [HZ.out, ← HSZ.out]; exact G1.out) (by rw [HZ.out]; omega))
        clear g2
        go_wp2
        exact lay_bad rfl rfl HCR1.out HB2.out HTW.out HPP.out
      · have q2 : decide ((65535 : Int) < (z : Int)) = false := by simp; omega
        have q3 : decide (65535 < z) = false := by simp; omega
        have HPP := Lib.hid (lay_yes (c := c) (bh := bh) HE0.out (by rw [HZ.out, ← HSZ.out]; exact G1.out) (by rw [HZ.out]; omega))
        have G2 := Lib.hid g2
        clear g2
        have HKT : Hid (∀ W, Below w.heap.size w W → Calls Try.prog 59 #[.slice A0 n0 c0] W fun e w' => ∃ v', e = .returned v' ∧ w'.ownsRow W.heap.size 69 3 v' n0 (tysOf c.types) ∧ Below W.heap.size W w') := by
          rw [HN0.out]
          exact Lib.hid fun W hW => tclone_any _ c.types W (HT.out.mono hW) (by have := HF.out; unfold Fits at this; omega)
        have HKC : Hid (∀ W, Below w.heap.size w W → Calls Try.prog 60 #[.slice A1 n1 c1] W fun e w' => ∃ v', e = .returned v' ∧ PartsO w' W.heap.size v' c.codes ∧ Below W.heap.size W w') := Lib.hid fun W hW => clones_at A1 c1 n1 c.codes W HN1.out.symm HF.out.few.1 (HC.out.mono hW)
        have HKS : Hid (∀ W, Below w.heap.size w W → Calls Try.prog 60 #[.slice A2 n2 c2] W fun e w' => ∃ v', e = .returned v' ∧ PartsO w' W.heap.size v' c.subs ∧ Below W.heap.size W w') := Lib.hid fun W hW => clones_at A2 c2 n2 c.subs W HN2.out.symm HF.out.few.2 (HS.out.mono hW)
        have hSS : ∀ w', Below w1.heap.size w1 w' → w'.cell? ⟨T, 0, none⟩ = some (.slice A0 n0 c0) ∧ w'.cell? ⟨T, 1, none⟩ = some (.slice A1 n1 c1) ∧ w'.cell? ⟨T, 2, none⟩ = some (.slice A2 n2 c2) ∧ w'.cell? ⟨T, 3, none⟩ = some (.slice A3 n3 c3) ∧ w'.cell? ⟨T, 4, none⟩ = some (.int .i64 sz) :=
          fun w' h => ⟨cell_keep h t0, cell_keep h t1, cell_keep h t2, cell_keep h t3, cell_keep h t4⟩
        have HSS := Lib.hid hSS
        clear hSS
        go_upto_region 9 with (fail)
        clear t0 t1 t2 t3 t4
        go_cut [8] (fun v wx => ∃ X A0' d0 A1' d1 A2' d2, v = .pointer (some ⟨X, 0, none⟩) ∧ LSt w1 wx X n0 (.slice A0' n0 d0) (.slice A1' n1 d1) (.slice A2' n2 d2) (.slice none 0 0) c z)
        case first =>
          go_region_held3 (fun w' => w'.cell? ⟨T, 0, none⟩ = some (.slice A0 n0 c0) ∧ w'.cell? ⟨T, 1, none⟩ = some (.slice A1 n1 c1) ∧ w'.cell? ⟨T, 2, none⟩ = some (.slice A2 n2 c2) ∧ w'.cell? ⟨T, 3, none⟩ = some (.slice A3 n3 c3) ∧ w'.cell? ⟨T, 4, none⟩ = some (.int .i64 sz))
            (first | (with_reducible exact HSS.out _ (lst_old HXs.out HOts.out HOcs.out HOs.out HBs.out (by have a0 := HBt.out.size; have a1 := HBc.out.size; have a2 := HBs.out.size; first | exact Nat.le_refl _ | omega | (simp only [drew_size]; omega) | (simp; omega) | (simp [drew_size]; omega) | (simp [drew_size]))).below) | exact HSS.out _ (by with_reducible first | exact HBs.out | exact below_step HBs.out (below_step (Below.refl _ _) (below_alloc _ _)) | exact below_step HBs.out (Below.refl _ _).drew | exact below_step HBs.out (below_step (Below.refl _ _) (below_alloc _ _)).drew | exact below_step HBs.out (below_step (Below.refl _ _).drew (below_alloc _ _)) | exact HBc.out | exact below_step HBc.out (below_step (Below.refl _ _) (below_alloc _ _)) | exact below_step HBc.out (Below.refl _ _).drew | exact below_step HBc.out (below_step (Below.refl _ _) (below_alloc _ _)).drew | exact below_step HBc.out (below_step (Below.refl _ _).drew (below_alloc _ _)) | exact HBt.out | exact below_step HBt.out (below_step (Below.refl _ _) (below_alloc _ _)) | exact below_step HBt.out (Below.refl _ _).drew | exact below_step HBt.out (below_step (Below.refl _ _) (below_alloc _ _)).drew | exact below_step HBt.out (below_step (Below.refl _ _).drew (below_alloc _ _)) | exact (Below.refl _ _) | exact (below_step (Below.refl _ _) (below_alloc _ _)) | exact (Below.refl _ _).drew | exact (below_step (Below.refl _ _) (below_alloc _ _)).drew | exact (below_step (Below.refl _ _).drew (below_alloc _ _))))
            ((first
              | (go_at_call 59; (with_reducible refine (HKT.out _ (below_step HB2.out (by with_reducible first | exact (Below.refl _ _) | exact (below_step (Below.refl _ _) (below_alloc _ _)) | exact (Below.refl _ _).drew | exact (below_step (Below.refl _ _) (below_alloc _ _)).drew | exact (below_step (Below.refl _ _).drew (below_alloc _ _))))).mono ?_); rintro e wt ⟨vt, rfl, ho, hb⟩; have HBt : Hid (Below w1.heap.size w1 wt) := Lib.hid (below_step (by with_reducible first | exact (Below.refl _ _) | exact (below_step (Below.refl _ _) (below_alloc _ _)) | exact (Below.refl _ _).drew | exact (below_step (Below.refl _ _) (below_alloc _ _)).drew | exact (below_step (Below.refl _ _).drew (below_alloc _ _))) hb); (first | (with_reducible have hxx := (hbx_new _ (.slice none 0 0) (.slice none 0 0) (.slice none 0 0) (.slice none 0 0) (.int .i64 0)).below hb; have HXt := Lib.hid hxx; clear hxx) | (with_reducible have hxx := ((hbx_new _ (.slice none 0 0) (.slice none 0 0) (.slice none 0 0) (.slice none 0 0) (.int .i64 0)).below (Below.refl _ _).drew).below hb; have HXt := Lib.hid hxx; clear hxx) | skip); obtain ⟨At, ct, rfl, _⟩ := own_shape ho; have ho2 := own_base ho (b := w1.heap.size) (by first | exact Nat.le_refl _ | omega | (simp only [drew_size]; omega) | (simp; omega) | (simp [drew_size]; omega) | (simp [drew_size])); have HOt := Lib.hid ho2; clear ho hb ho2)
              | (go_at_call 60; (with_reducible refine (HKC.out _ (below_step HB2.out (by with_reducible first | exact below_step HBt.out (Below.refl _ _) | exact below_step HBt.out (below_step (Below.refl _ _) (below_alloc _ _)) | exact below_step HBt.out (Below.refl _ _).drew | exact below_step HBt.out (below_step (Below.refl _ _) (below_alloc _ _)).drew | exact below_step HBt.out (below_step (Below.refl _ _).drew (below_alloc _ _))))).mono ?_); rintro e wc ⟨vc, rfl, ho, hb⟩; have HBc : Hid (Below w1.heap.size w1 wc) := Lib.hid (below_step (by with_reducible first | exact below_step HBt.out (Below.refl _ _) | exact below_step HBt.out (below_step (Below.refl _ _) (below_alloc _ _)) | exact below_step HBt.out (Below.refl _ _).drew | exact below_step HBt.out (below_step (Below.refl _ _) (below_alloc _ _)).drew | exact below_step HBt.out (below_step (Below.refl _ _).drew (below_alloc _ _))) hb); (first | (with_reducible have hxx := HXt.out.below (below_step (Below.refl _ _) hb); have HXc := Lib.hid hxx; clear hxx) | (with_reducible have hxx := HXt.out.below (below_step (Below.refl _ _).drew hb); have HXc := Lib.hid hxx; clear hxx) | (with_reducible have hxx := (hbx_new _ (.slice none 0 0) (.slice none 0 0) (.slice none 0 0) (.slice none 0 0) (.int .i64 0)).below hb; have HXc := Lib.hid hxx; clear hxx) | (with_reducible have hxx := ((hbx_new _ (.slice none 0 0) (.slice none 0 0) (.slice none 0 0) (.slice none 0 0) (.int .i64 0)).below (Below.refl _ _).drew).below hb; have HXc := Lib.hid hxx; clear hxx) | skip); have ht2 := own_below HOt.out (below_step (by with_reducible first | exact (Below.refl _ _) | exact (below_step (Below.refl _ _) (below_alloc _ _)) | exact (Below.refl _ _).drew | exact (below_step (Below.refl _ _) (below_alloc _ _)).drew | exact (below_step (Below.refl _ _).drew (below_alloc _ _))) hb); have HOtc := Lib.hid ht2; obtain ⟨Ac, cc, rfl⟩ := (show ∃ A d, vc = Value.slice A n1 d from by rw [HN1.out]; exact ho.shape); have ho2 := ho.base (B' := w1.heap.size) (by have a0 := HBt.out.size; first | exact Nat.le_refl _ | omega | (simp only [drew_size]; omega) | (simp; omega) | (simp [drew_size]; omega) | (simp [drew_size])); have HOc := Lib.hid ho2; clear ho hb ho2 ht2)
              | (go_at_call 60; (with_reducible refine (HKS.out _ (below_step HB2.out (by with_reducible first | exact below_step HBc.out (Below.refl _ _) | exact below_step HBc.out (below_step (Below.refl _ _) (below_alloc _ _)) | exact below_step HBc.out (Below.refl _ _).drew | exact below_step HBc.out (below_step (Below.refl _ _) (below_alloc _ _)).drew | exact below_step HBc.out (below_step (Below.refl _ _).drew (below_alloc _ _))))).mono ?_); rintro e ws ⟨vs, rfl, ho, hb⟩; have HBs : Hid (Below w1.heap.size w1 ws) := Lib.hid (below_step (by with_reducible first | exact below_step HBc.out (Below.refl _ _) | exact below_step HBc.out (below_step (Below.refl _ _) (below_alloc _ _)) | exact below_step HBc.out (Below.refl _ _).drew | exact below_step HBc.out (below_step (Below.refl _ _) (below_alloc _ _)).drew | exact below_step HBc.out (below_step (Below.refl _ _).drew (below_alloc _ _))) hb); (first | (with_reducible have hxx := HXc.out.below (below_step (Below.refl _ _) hb); have HXs := Lib.hid hxx; clear hxx) | (with_reducible have hxx := HXc.out.below (below_step (Below.refl _ _).drew hb); have HXs := Lib.hid hxx; clear hxx) | (with_reducible have hxx := (hbx_new _ (.slice none 0 0) (.slice none 0 0) (.slice none 0 0) (.slice none 0 0) (.int .i64 0)).below hb; have HXs := Lib.hid hxx; clear hxx) | (with_reducible have hxx := ((hbx_new _ (.slice none 0 0) (.slice none 0 0) (.slice none 0 0) (.slice none 0 0) (.int .i64 0)).below (Below.refl _ _).drew).below hb; have HXs := Lib.hid hxx; clear hxx) | skip); have ht2 := own_below HOtc.out (below_step (by with_reducible first | exact (Below.refl _ _) | exact (below_step (Below.refl _ _) (below_alloc _ _)) | exact (Below.refl _ _).drew | exact (below_step (Below.refl _ _) (below_alloc _ _)).drew | exact (below_step (Below.refl _ _).drew (below_alloc _ _))) hb); have HOts := Lib.hid ht2; have hc2 := HOc.out.below (below_step (by with_reducible first | exact (Below.refl _ _) | exact (below_step (Below.refl _ _) (below_alloc _ _)) | exact (Below.refl _ _).drew | exact (below_step (Below.refl _ _) (below_alloc _ _)).drew | exact (below_step (Below.refl _ _).drew (below_alloc _ _))) hb); have HOcs := Lib.hid hc2; obtain ⟨As, cs, rfl⟩ := (show ∃ A d, vs = Value.slice A n2 d from by rw [HN2.out]; exact ho.shape); have ho2 := ho.base (B' := w1.heap.size) (by have a0 := HBt.out.size; have a1 := HBc.out.size; first | exact Nat.le_refl _ | omega | (simp only [drew_size]; omega) | (simp; omega) | (simp [drew_size]; omega) | (simp [drew_size])); have HOs := Lib.hid ho2; (first | (obtain ⟨x0, x1, x2, x3, x4, fx⟩ := HXs.out.kx) | skip); clear ho hb ho2 ht2 hc2)))
          all_goals (go_wp2_with fail; go_meet; exact ⟨_, _, _, _, _, _, _, rfl, by first | exact lst_old HXs.out HOts.out HOcs.out HOs.out HBs.out (by have a0 := HBt.out.size; have a1 := HBc.out.size; have a2 := HBs.out.size; first | exact Nat.le_refl _ | omega | (simp only [drew_size]; omega) | (simp; omega) | (simp [drew_size]; omega) | (simp [drew_size])) | exact lst_new HOts.out HOcs.out HOs.out HBs.out⟩)
        case rest =>
          obtain ⟨X, At, dt, Ac, dc, As, ds, rfl, hl⟩ := hcut
          have HL := Lib.hid hl
          have HND : Hid (∀ W, Below wc.heap.size wc W → NumsV W .u8 (.slice A3 n3 c3) c.data) := Lib.hid fun W hW => by
            have hh := HD.out.mono (below_step (below_step HB2.out hl.below) hW)
            rw [← HN3.out] at hh
            exact hh
          have HNB : Hid (∀ W, Below wc.heap.size wc W → NumsV W .u8 (.slice A4 m c4) bh) := Lib.hid fun W hW => HBH.out.mono (below_step (below_step HB2.out hl.below) hW)
          have HZB : Hid (z ≤ 65535) := Lib.hid (by have := G2.out; omega)
          have HR1 : Hid (([] : List Int).length + c.data.length ≤ reach) := Lib.hid (by have := HZ.out; have := HZB.out; unfold reach; simp; omega)
          have HR2 : Hid ((([] : List Int) ++ c.data).length + bh.length ≤ reach) := Lib.hid (by have := HZ.out; have := HZB.out; unfold reach; simp; omega)
          obtain ⟨_, _, _, t3, _⟩ := HSS.out wc hl.below
          obtain ⟨cz, hmk, hom⟩ := mk_facts z (by have := HZB.out; omega)
          have HOM := Lib.hid hom
          have t3m := cell_keep (below_alloc wc (.cells cz 5)) t3
          clear hom
          clear hl
          go_upto_region 10 with (fail)
          go_cut [8] (fun v wx => v = .pointer (some ⟨X, 0, none⟩) ∧ ∃ Ad m3 dd, LSt w1 wx X n0 (.slice At n0 dt) (.slice Ac n1 dc) (.slice As n2 ds) (.slice Ad m3 dd) c z ∧ Own8 wx w1.heap.size (.slice Ad m3 dd) (c.data ++ bh))
          case first =>
            go_region_law
              ((first
                | (refine step_list (.tmp 43) (.tmp 45) rfl rfl (Lib.hid (HOM.out _)) rfl rfl (HND.out _ (by with_reducible first | exact (Below.refl _ _) | exact (below_step (Below.refl _ _) (below_alloc _ _)) | exact (Below.refl _ _).drew | exact (below_step (Below.refl _ _) (below_alloc _ _)).drew | exact (below_step (Below.refl _ _).drew (below_alloc _ _)))) HR1 (by simp) (by with_reducible first | exact (Below.refl _ _) | exact (Below.refl _ _).drew) ?_; intro vp wp ho hb; have HBp : Hid (Below wc.heap.size wc wp) := Lib.hid (Below.trans (by with_reducible first | exact (Below.refl _ _) | exact (below_step (Below.refl _ _) (below_alloc _ _)) | exact (Below.refl _ _).drew | exact (below_step (Below.refl _ _) (below_alloc _ _)).drew | exact (below_step (Below.refl _ _).drew (below_alloc _ _))) hb); have HOp := Lib.hid ho; clear ho hb)
                | (refine step_list (.tmp 46) (.tmp 47) rfl rfl HOp rfl rfl (HNB.out _ (by with_reducible first | exact HBp.out | exact below_step HBp.out (Below.refl _ _).drew)) HR2 HBp.out.size (by with_reducible first | exact (Below.refl _ _) | exact (Below.refl _ _).drew) ?_; intro vq wq ho hb; have HBq : Hid (Below wc.heap.size wc wq) := Lib.hid (Below.trans (by with_reducible first | exact HBp.out | exact below_step HBp.out (Below.refl _ _).drew) hb); have HOq : Hid (Own8 wq wc.heap.size vq (c.data ++ bh)) := Lib.hid ho; obtain ⟨x0, x1, x2, x3, x4, fx⟩ := (HL.out.box.below HBq.out).kx; obtain ⟨Ad, dd, e3⟩ : ∃ A d, vq = Value.slice A (c.data.length + bh.length) d := (by obtain ⟨A, d, e, _⟩ := own_shape HOq.out; exact ⟨A, d, by rw [e, List.length_append]⟩); subst e3; clear ho hb)))
            all_goals (go_wp2_with fail; go_meet; exact ⟨rfl, _, _, _, (HL.out.data HBq.out HOq.out).1, (HL.out.data HBq.out HOq.out).2⟩)
          case rest =>
            obtain ⟨rfl, Ad, m3, dd, hl, ho⟩ := hcut
            have HL2 := Lib.hid hl
            have HO2 := Lib.hid ho
            clear ho t3 t3m hmk
            obtain ⟨x0, x1, x2, x3, x4, fx⟩ := HL2.out.box.kx
            obtain ⟨k0, k1, k2, k3, k4, fC⟩ := HCR1.out.below hl.below
            clear hl
            go_wp2
            exact lay_good rfl rfl (HCR1.out.below HL2.out.below) HL2.out HO2.out HN0.out HZ.out HCR1.out.lt HB2.out HTW.out HPP.out
  · have q1 : (!(e1 == 0)) = true := by simp [g]
    have q2 : (e1 == 0) = false := by simp [g]
    have HPP : Hid (lay c bh = (e1, ⟨[], [], [], [], 0⟩)) := Lib.hid (by rw [HE.out]; exact lay_check (by rw [← HE.out]; exact g))
    clear g
    go_wp2
    exact lay_bad rfl rfl HCR1.out HB2.out HTW.out HPP.out
end Go.Proofs.Ytkbboepopcebaaa
