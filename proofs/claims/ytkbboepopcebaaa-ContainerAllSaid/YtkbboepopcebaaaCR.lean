/- The reference's Lay: the walk. -/
import Derived.Test.YtkbboepopcebaaaCQ
namespace Go.Proofs.Ytkbboepopcebaaa
open Go.RowKit

/-- Where the reference's Lay stands behind its region 9. -/
structure R9 (w1 wx : World) (X : Nat) (V1 V2 : Value) (c : Cont) (z : Nat) : Prop where
  box : HBx wx X (.slice none 0 0) V1 V2 (.slice none 0 0) (.int .i64 z)
  cd : PartsO wx w1.heap.size V1 c.codes
  sb : PartsO wx w1.heap.size V2 c.subs
  below : Below w1.heap.size w1 wx
  ge : w1.heap.size ≤ X
theorem r9_old {w1 ws : World} {X : Nat} {V1 V2 u0 u1 u2 u3 u4 : Value} {c : Cont} {z : Nat} (hx : HBx ws X u0 u1 u2 u3 u4) (hc : PartsO ws w1.heap.size V1 c.codes) (hs : PartsO ws w1.heap.size V2 c.subs) (hb : Below w1.heap.size w1 ws) (hX : w1.heap.size ≤ X) :
    R9 w1 (setX ws X (.slice none 0 0) V1 V2 (.slice none 0 0) (.int .i64 z)) X V1 V2 c z := by
  have hg := grown_setX ws X (.slice none 0 0) V1 V2 (.slice none 0 0) (.int .i64 z)
  exact ⟨hx.set _ _ _ _ _, hc.box hx hg, hs.box hx hg, hb.grown hg hb.size (by rintro k ⟨⟩; exact hX), hX⟩
theorem r9_new {w1 ws : World} {V1 V2 : Value} {c : Cont} {z : Nat} (hc : PartsO ws w1.heap.size V1 c.codes) (hs : PartsO ws w1.heap.size V2 c.subs) (hb : Below w1.heap.size w1 ws) :
    R9 w1 (ws.alloc (.cells #[.slice none 0 0, V1, V2, .slice none 0 0, .int .i64 z] 28)) ws.heap.size V1 V2 c z := by
  have ha := below_alloc ws (.cells #[.slice none 0 0, V1, V2, .slice none 0 0, .int .i64 z] 28)
  exact ⟨hbx_new _ _ _ _ _ _, hc.below ha, hs.below ha, below_step hb ha, hb.size⟩
set_option maxRecDepth 100000 in
set_option maxHeartbeats 16000000 in
theorem rlay_any (v : Value) (c : Cont) (A4 : Option Addr) (m c4 : Nat) (bh : List Int) (w : World) (h : ContV w v c) (hb : NumsV w .u8 (.slice A4 m c4) bh) (hm : bh.length = m) (hc1 : c.data.length ≤ 268435456) (hm1 : m ≤ 268435456) (hfits : Fits c) :
    Calls Try.prog 33 #[v, .slice A4 m c4] w (LayPost c bh w) := by
  have HCH : Hid (∀ W, Below w.heap.size w W → Calls Try.prog 19 #[v] W fun e w' => e = .returned (.int .i64 (checkErr c)) ∧ Below W.heap.size W w') := Lib.hid fun W hW => refCheck_any v c W (h.mono hW)
  have HV := Lib.hid h
  have HF := Lib.hid hfits
  clear hfits
  obtain ⟨vt, vc, vs, vd, rfl, ⟨A0, c0, rfl, i1, i2, hr0, ht⟩, ⟨A1, c1, rfl, _, _, hc⟩, ⟨A2, c2, rfl, _, _, hs⟩, ⟨A3, c3, rfl, k1, k2, hd⟩⟩ := h
  have HD : Hid (NumsV w .u8 (.slice A3 c.data.length c3) c.data) := Lib.hid ⟨A3, c3, rfl, k1, k2, hd⟩
  have HT : Hid (TypesV w (.slice A0 c.types.length c0) c.types) := Lib.hid ⟨A0, c0, rfl, i1, i2, hr0, ht⟩
  have HC := Lib.hid hc
  have HS := Lib.hid hs
  have HBH := Lib.hid hb
  have HM := Lib.hid hm
  have hcc := kx_new w (.slice A0 c.types.length c0) (.slice A1 c.codes.length c1) (.slice A2 c.subs.length c2) (.slice A3 c.data.length c3) (.int .i64 c.size)
  have hb1 := below_alloc w (.cells #[.slice A0 c.types.length c0, .slice A1 c.codes.length c1, .slice A2 c.subs.length c2, .slice A3 c.data.length c3, .int .i64 c.size] 28)
  have hz : (w.alloc (.cells #[.slice A0 c.types.length c0, .slice A1 c.codes.length c1, .slice A2 c.subs.length c2, .slice A3 c.data.length c3, .int .i64 c.size] 28)).heap.size = w.heap.size + 1 := by simp
  obtain ⟨W1, hW1⟩ : ∃ W1, W1 = w.alloc (.cells #[.slice A0 c.types.length c0, .slice A1 c.codes.length c1, .slice A2 c.subs.length c2, .slice A3 c.data.length c3, .int .i64 c.size] 28) := ⟨_, rfl⟩
  rw [← hW1] at hcc hb1 hz
  have hcr := kx_new W1 (.slice none 0 0) (.slice none 0 0) (.slice none 0 0) (.slice none 0 0) (.int .i64 0)
  have hb2 := below_alloc W1 (.cells #[.slice none 0 0, .slice none 0 0, .slice none 0 0, .slice none 0 0, .int .i64 0] 28)
  obtain ⟨W, hW⟩ : ∃ W, W = W1.alloc (.cells #[.slice none 0 0, .slice none 0 0, .slice none 0 0, .slice none 0 0, .int .i64 0] 28) := ⟨_, rfl⟩
  rw [← hW] at hcr hb2
  obtain ⟨T, hT⟩ : ∃ T, T = w.heap.size := ⟨_, rfl⟩
  obtain ⟨C, hC⟩ : ∃ C, C = T + 1 := ⟨_, rfl⟩
  rw [hz, ← hT, ← hC] at hcr
  rw [← hT] at hcc
  have HCT := Lib.hid (hcc.of_block (hb2.block T hcc.lt))
  have HCR := Lib.hid hcr
  have HBW : Hid (Below w.heap.size w W) := Lib.hid (below_step hb1 hb2)
  have HTC : Hid (T < C) := Lib.hid (by omega)
  have HTW : Hid (w.heap.size ≤ C) := Lib.hid (by omega)
  clear hcc hcr hb1 hb2 hz ht hc hs hd hb hm i1 i2 k1 k2 hr0
  go_enter Try.func33, Try.ntmps33
  go_wp2_with fail
  rw [← hW1, ← hW, ← hT, ← hC]
  clear hW1 hW hT hC
  refine (HCH.out W HBW.out).mono ?_
  rintro e w1 ⟨rfl, hb1⟩
  have HB1 := Lib.hid hb1
  have HCT1 := Lib.hid (HCT.out.of_block (hb1.block T HCT.out.lt))
  have HCR1 := Lib.hid (HCR.out.of_block (hb1.block C HCR.out.lt))
  clear hb1 HCT HCR
  have HDL : Hid (c.data.length ≤ 268435456) := Lib.hid hc1
  have hno := fun er (h : lay c bh = (er, ⟨[], [], [], [], 0⟩)) w' (hb : Below w.heap.size w w') => layP_no (w := w) (w' := w') h hb
  have HNO := Lib.hid hno
  obtain ⟨k0, k1, k2, k3, k4, fC⟩ := HCR1.out
  obtain ⟨t0, t1, t2, t3, t4, _⟩ := HCT1.out
  obtain ⟨n0, hn0⟩ : ∃ n0, n0 = c.types.length := ⟨_, rfl⟩
  obtain ⟨n1, hn1⟩ : ∃ n1, n1 = c.codes.length := ⟨_, rfl⟩
  obtain ⟨n2, hn2⟩ : ∃ n2, n2 = c.subs.length := ⟨_, rfl⟩
  obtain ⟨n3, hn3⟩ : ∃ n3, n3 = c.data.length := ⟨_, rfl⟩
  obtain ⟨sz, hsz⟩ : ∃ sz, sz = c.size := ⟨_, rfl⟩
  obtain ⟨e1, he1⟩ : ∃ e1, e1 = checkErr c := ⟨_, rfl⟩
  rw [← hn0] at t0
  rw [← hn1] at t1
  rw [← hn2] at t2
  rw [← hn3] at t3
  rw [← hsz] at t4
  rw [← hn3] at hc1
  rw [← hn0, ← hn1, ← hn2, ← hn3, ← hsz, ← he1]
  have HN0 := Lib.hid hn0
  have HN1 := Lib.hid hn1
  have HN2 := Lib.hid hn2
  have HN3 := Lib.hid hn3
  have HSZ := Lib.hid hsz
  have HE := Lib.hid he1
  clear hno hn0 hn1 hn2 hn3 hsz he1 HCH
  have HB2 : Hid (Below w.heap.size w w1) := Lib.hid (below_step HBW.out HB1.out)
  by_cases g : e1 = 0
  · have HG := Lib.hid g
    have HE0 : Hid (checkErr c = 0) := Lib.hid (by rw [← HE.out]; exact g)
    subst g
    obtain ⟨z, hz⟩ : ∃ z : Nat, z = n3 + m := ⟨_, rfl⟩
    have hw : IntKind.i64.wrap ((n3 : Int) + (m : Int)) = (z : Int) := by rw [IntWalk.i64_in _ (by omega)]; omega
    have HZ : Hid ((c.data.length : Int) + bh.length = (z : Int)) := Lib.hid (by rw [HM.out, ← HN3.out]; omega)
    clear hz
    by_cases g1 : (z : Int) < sz
    · have q1 : decide ((z : Int) < sz) = true := by simpa using g1
      have HPP : Hid (lay c bh = (50, ⟨[], [], [], [], 0⟩)) := Lib.hid (lay_short HE0.out (by rw [HZ.out, ← HSZ.out]; exact g1))
      clear g1
      go_wp2
      exact rlay_bad rfl rfl HCR1.out HB2.out HTW.out HPP.out
    · have q1 : decide ((z : Int) < sz) = false := by simpa using g1
      have G1 := Lib.hid g1
      clear g1
      by_cases g2 : 65535 < z
      · have q2 : decide ((65535 : Int) < (z : Int)) = true := by simp; omega
        have q3 : decide (65535 < z) = true := by simp; omega
        have HPP : Hid (lay c bh = (2, ⟨[], [], [], [], 0⟩)) := Lib.hid (lay_long HE0.out (by rw [HZ.out, ← HSZ.out]; exact G1.out) (by rw [HZ.out]; omega))
        clear g2
        go_wp2
        exact rlay_bad rfl rfl HCR1.out HB2.out HTW.out HPP.out
      · have q2 : decide ((65535 : Int) < (z : Int)) = false := by simp; omega
        have q3 : decide (65535 < z) = false := by simp; omega
        have HPP := Lib.hid (lay_yes (c := c) (bh := bh) HE0.out (by rw [HZ.out, ← HSZ.out]; exact G1.out) (by rw [HZ.out]; omega))
        have G2 := Lib.hid g2
        clear g2
        have HFC : Hid (c.codes.length ≤ 1048576 ∧ c.subs.length ≤ 1048576) := Lib.hid (by have h1 := (may_of c HE0.out).codes2; have h2 := (may_of c HE0.out).subs; omega)
        have HKC : Hid (∀ W, Below w.heap.size w W → Calls Try.prog 61 #[.slice A1 n1 c1] W fun e w' => ∃ v', e = .returned v' ∧ PartsO w' W.heap.size v' c.codes ∧ Below W.heap.size W w') := Lib.hid fun W hW => copied_any A1 c1 n1 c.codes W HN1.out.symm (by rw [HN1.out]; exact HFC.out.1) (HC.out.mono hW)
        have HKS : Hid (∀ W, Below w.heap.size w W → Calls Try.prog 61 #[.slice A2 n2 c2] W fun e w' => ∃ v', e = .returned v' ∧ PartsO w' W.heap.size v' c.subs ∧ Below W.heap.size W w') := Lib.hid fun W hW => copied_any A2 c2 n2 c.subs W HN2.out.symm (by rw [HN2.out]; exact HFC.out.2) (HS.out.mono hW)
        have hSS : ∀ w', Below w1.heap.size w1 w' → w'.cell? ⟨T, 0, none⟩ = some (.slice A0 n0 c0) ∧ w'.cell? ⟨T, 1, none⟩ = some (.slice A1 n1 c1) ∧ w'.cell? ⟨T, 2, none⟩ = some (.slice A2 n2 c2) ∧ w'.cell? ⟨T, 3, none⟩ = some (.slice A3 n3 c3) ∧ w'.cell? ⟨T, 4, none⟩ = some (.int .i64 sz) :=
          fun w' h => ⟨cell_keep h t0, cell_keep h t1, cell_keep h t2, cell_keep h t3, cell_keep h t4⟩
        have HSS := Lib.hid hSS
        clear hSS
        go_upto_region 9 with (fail)
        clear t0 t1 t2 t3 t4
        go_cut [8] (fun v wx => ∃ X Ac dc As ds, v = .pointer (some ⟨X, 0, none⟩) ∧ R9 w1 wx X (.slice Ac n1 dc) (.slice As n2 ds) c z)
        case first =>
          go_region_held3 (fun w' => w'.cell? ⟨T, 0, none⟩ = some (.slice A0 n0 c0) ∧ w'.cell? ⟨T, 1, none⟩ = some (.slice A1 n1 c1) ∧ w'.cell? ⟨T, 2, none⟩ = some (.slice A2 n2 c2) ∧ w'.cell? ⟨T, 3, none⟩ = some (.slice A3 n3 c3) ∧ w'.cell? ⟨T, 4, none⟩ = some (.int .i64 sz))
            (first | (with_reducible exact HSS.out _ (r9_old HXs.out HOcs.out HOs.out HBs.out (by have a1 := HBc.out.size; have a2 := HBs.out.size; first | exact Nat.le_refl _ | omega | (simp only [drew_size]; omega) | (simp; omega) | (simp [drew_size]; omega) | (simp [drew_size]))).below) | exact HSS.out _ (by with_reducible first | exact HBs.out | exact below_step HBs.out (below_step (Below.refl _ _) (below_alloc _ _)) | exact below_step HBs.out (Below.refl _ _).drew | exact below_step HBs.out (below_step (Below.refl _ _) (below_alloc _ _)).drew | exact below_step HBs.out (below_step (Below.refl _ _).drew (below_alloc _ _)) | exact HBc.out | exact below_step HBc.out (below_step (Below.refl _ _) (below_alloc _ _)) | exact below_step HBc.out (Below.refl _ _).drew | exact below_step HBc.out (below_step (Below.refl _ _) (below_alloc _ _)).drew | exact below_step HBc.out (below_step (Below.refl _ _).drew (below_alloc _ _)) | exact (Below.refl _ _) | exact (below_step (Below.refl _ _) (below_alloc _ _)) | exact (Below.refl _ _).drew | exact (below_step (Below.refl _ _) (below_alloc _ _)).drew | exact (below_step (Below.refl _ _).drew (below_alloc _ _))))
            ((first
              | (go_at_call 61; (with_reducible refine (HKC.out _ (below_step HB2.out (by with_reducible first | exact (Below.refl _ _) | exact (below_step (Below.refl _ _) (below_alloc _ _)) | exact (Below.refl _ _).drew | exact (below_step (Below.refl _ _) (below_alloc _ _)).drew | exact (below_step (Below.refl _ _).drew (below_alloc _ _))))).mono ?_); rintro e wc ⟨vc, rfl, ho, hb⟩; have HBc : Hid (Below w1.heap.size w1 wc) := Lib.hid (below_step (by with_reducible first | exact (Below.refl _ _) | exact (below_step (Below.refl _ _) (below_alloc _ _)) | exact (Below.refl _ _).drew | exact (below_step (Below.refl _ _) (below_alloc _ _)).drew | exact (below_step (Below.refl _ _).drew (below_alloc _ _))) hb); (first | (with_reducible have hxx := (hbx_new _ (.slice none 0 0) (.slice none 0 0) (.slice none 0 0) (.slice none 0 0) (.int .i64 0)).below hb; have HXc := Lib.hid hxx; clear hxx) | (with_reducible have hxx := ((hbx_new _ (.slice none 0 0) (.slice none 0 0) (.slice none 0 0) (.slice none 0 0) (.int .i64 0)).below (Below.refl _ _).drew).below hb; have HXc := Lib.hid hxx; clear hxx) | skip); obtain ⟨Ac, cc, rfl⟩ := (show ∃ A d, vc = Value.slice A n1 d from by rw [HN1.out]; exact ho.shape); have ho2 := ho.base (B' := w1.heap.size) (by first | exact Nat.le_refl _ | omega | (simp only [drew_size]; omega) | (simp; omega) | (simp [drew_size]; omega) | (simp [drew_size])); have HOc := Lib.hid ho2; clear ho hb ho2)
              | (go_at_call 61; (with_reducible refine (HKS.out _ (below_step HB2.out (by with_reducible first | exact below_step HBc.out (Below.refl _ _) | exact below_step HBc.out (below_step (Below.refl _ _) (below_alloc _ _)) | exact below_step HBc.out (Below.refl _ _).drew | exact below_step HBc.out (below_step (Below.refl _ _) (below_alloc _ _)).drew | exact below_step HBc.out (below_step (Below.refl _ _).drew (below_alloc _ _))))).mono ?_); rintro e ws ⟨vs, rfl, ho, hb⟩; have HBs : Hid (Below w1.heap.size w1 ws) := Lib.hid (below_step (by with_reducible first | exact below_step HBc.out (Below.refl _ _) | exact below_step HBc.out (below_step (Below.refl _ _) (below_alloc _ _)) | exact below_step HBc.out (Below.refl _ _).drew | exact below_step HBc.out (below_step (Below.refl _ _) (below_alloc _ _)).drew | exact below_step HBc.out (below_step (Below.refl _ _).drew (below_alloc _ _))) hb); (first | (with_reducible have hxx := HXc.out.below (below_step (Below.refl _ _) hb); have HXs := Lib.hid hxx; clear hxx) | (with_reducible have hxx := HXc.out.below (below_step (Below.refl _ _).drew hb); have HXs := Lib.hid hxx; clear hxx) | (with_reducible have hxx := (hbx_new _ (.slice none 0 0) (.slice none 0 0) (.slice none 0 0) (.slice none 0 0) (.int .i64 0)).below hb; have HXs := Lib.hid hxx; clear hxx) | (with_reducible have hxx := ((hbx_new _ (.slice none 0 0) (.slice none 0 0) (.slice none 0 0) (.slice none 0 0) (.int .i64 0)).below (Below.refl _ _).drew).below hb; have HXs := Lib.hid hxx; clear hxx) | skip); have hc2 := HOc.out.below (below_step (by with_reducible first | exact (Below.refl _ _) | exact (below_step (Below.refl _ _) (below_alloc _ _)) | exact (Below.refl _ _).drew | exact (below_step (Below.refl _ _) (below_alloc _ _)).drew | exact (below_step (Below.refl _ _).drew (below_alloc _ _))) hb); have HOcs := Lib.hid hc2; obtain ⟨As, cs, rfl⟩ := (show ∃ A d, vs = Value.slice A n2 d from by rw [HN2.out]; exact ho.shape); have ho2 := ho.base (B' := w1.heap.size) (by have a0 := HBc.out.size; first | exact Nat.le_refl _ | omega | (simp only [drew_size]; omega) | (simp; omega) | (simp [drew_size]; omega) | (simp [drew_size])); have HOs := Lib.hid ho2; (first | (obtain ⟨x0, x1, x2, x3, x4, fx⟩ := HXs.out.kx) | skip); clear ho hb ho2 hc2)))
          all_goals (go_wp2_with fail; go_meet; exact ⟨_, _, _, _, _, rfl, by first | exact r9_old HXs.out HOcs.out HOs.out HBs.out (by have a1 := HBc.out.size; have a2 := HBs.out.size; first | exact Nat.le_refl _ | omega | (simp only [drew_size]; omega) | (simp; omega) | (simp [drew_size]; omega) | (simp [drew_size])) | exact r9_new HOcs.out HOs.out HBs.out⟩)
        case rest =>
          obtain ⟨X, Ac, dc, As, ds, rfl, h9⟩ := hcut
          obtain ⟨y9, hy9⟩ : ∃ y9, y9 = wc := ⟨_, rfl⟩
          rw [← hy9] at h9 ⊢
          clear hy9
          have H9 := Lib.hid h9
          have HTX : Hid (T ≠ X) := Lib.hid (by have := HCT1.out.lt; have := h9.ge; omega)
          have HCX : Hid (C ≠ X) := Lib.hid (by have := HCR1.out.lt; have := h9.ge; omega)
          have HWX : Hid (w.heap.size ≤ X) := Lib.hid (by have := HB2.out.size; have := h9.ge; omega)
          have HB9 : Hid (Below w.heap.size w y9) := Lib.hid (below_step HB2.out h9.below)
          obtain ⟨s0, s1, s2, s3, s4⟩ := HSS.out y9 h9.below
          have HS9 := Lib.hid (And.intro s0 s3)
          have HZB : Hid (z ≤ 65535) := Lib.hid (by have := G2.out; omega)
          have HN0L : Hid (n0 ≤ 67108864) := Lib.hid (by have h1 := HF.out; have := HN0.out; unfold Fits at h1; omega)
          have hn0l := HN0L.out
          clear s1 s2 s4 s0 s3 h9
          go_wp2
          go_loopw [9] (fun i wr => ∃ k : Nat, k ≤ n0 ∧ i = .int .i64 k ∧ ∃ V0, RInv y9 wr X V0 (.slice Ac n1 dc) (.slice As n2 ds) (.slice none 0 0) z (c.types.take k) []) (fun i _ => n0 - (intOf i).toNat)
          case atStart => exact ⟨0, Nat.zero_le _, rfl, _, ⟨grown_refl _ _, H9.out.box, World.ownsRow_nil _ _ _ _, World.ownsRow_nil _ _ _ _⟩⟩
          case round =>
            obtain ⟨k, hk, rfl, V0, hr⟩ := hrel
            have HR := Lib.hid hr
            have s0 := hr.cell HTX.out HS9.out.1
            obtain ⟨x0, x1, x2, x3, x4, fx⟩ := hr.box.kx
            clear hr
            by_cases hlt : k < n0
            · have hk2 : k < c.types.length := by have := HN0.out; omega
              have hst := take_snoc' c.types k ty0 hk2
              obtain ⟨A0', c0', e0, _, _, _, hcells⟩ := HT.out.mono (HR.out.below HB9.out HWX.out)
              injection e0 with e1 e2 e3
              subst e1
              obtain ⟨b1, o1, hA0, j1, j2, j3⟩ := types_at hcells k hk2
              obtain ⟨x, hxx⟩ : ∃ x, x = c.types.getD k ty0 := ⟨_, rfl⟩
              rw [← hxx] at j1 j2 j3 hst
              obtain ⟨p1, p2, p3⟩ := x
              have HST := Lib.hid hst
              have HTL : Hid ((c.types.take k).length + 1 ≤ 4294967296) := Lib.hid (by rw [List.length_take]; have := HN0L.out; omega)
              have HY9 : Hid (y9.heap.size ≤ wr.heap.size) := Lib.hid HR.out.grown.size
              obtain ⟨nl, hnl⟩ : ∃ nl, nl = (c.types.take k).length + 1 := ⟨_, rfl⟩
              have HNL := Lib.hid hnl
              clear hnl
              have HE : Hid (tysOf (c.types.take k ++ [⟨p1, p2, p3⟩]) = tysOf (c.types.take k) ++ [.int .i64 p1, .int .i64 p2, .int .i64 p3]) := Lib.hid (by rw [tysOf_append]; rfl)
              subst hA0
              clear hxx hst hcells e2 e3
              simp only at j1 j2 j3
              have x0a := cell_keep (below_alloc wr (.cells #[.int .i64 p1, .int .i64 p2, .int .i64 p3] 69)) x0
              go_upto_region 13 with (fail)
              go_region_law
                ((first
                  | (refine step_ty p1 p2 p3 (.tmp 47) (.tmp 53) rfl rfl _ (Lib.hid HR.out.t) rfl rfl HTL.out HY9.out (by with_reducible first | exact (Below.refl _ _) | exact (below_step (Below.refl _ _) (below_alloc _ _)) | exact (Below.refl _ _).drew | exact (below_step (Below.refl _ _) (below_alloc _ _)).drew | exact (below_step (Below.refl _ _).drew (below_alloc _ _))) (by with_reducible first | exact (box_new' _ _ _ (by first | rfl | simp)) | exact (box_dr (box_new' _ _ _ (by first | rfl | simp)))) ?_; intro v4 w4 ho hg; obtain ⟨A4, c4', e4⟩ : ∃ A d, v4 = Value.slice A nl d := (by obtain ⟨A, d, e, _⟩ := own_shape ho; exact ⟨A, d, by rw [e, HNL.out]⟩); subst e4; have HI := Lib.hid (HR.out.ty (t := ⟨p1, p2, p3⟩) (by with_reducible first | exact (Below.refl _ _) | exact (below_step (Below.refl _ _) (below_alloc _ _)) | exact (Below.refl _ _).drew | exact (below_step (Below.refl _ _) (below_alloc _ _)).drew | exact (below_step (Below.refl _ _).drew (below_alloc _ _))) hg (by rw [HE.out]; exact ho)); obtain ⟨z0, z1, z2, z3, z4, fz⟩ := HI.out.1.kx; clear ho hg)))
              all_goals (go_wp2_with fail; go_roundw)
              all_goals first
                | exact ⟨k + 1, by omega, by go_num, _, by rw [HST.out]; first | exact HI.out.2 | exact HI.out.2.drew⟩
                | (simp [intOf]; omega)
            · obtain rfl : n0 = k := by omega
              clear hlt
              have hfull : c.types.take n0 = c.types := List.take_of_length_le (by have := HN0.out; omega)
              rw [hfull] at HR
              clear hfull x0 x1 x2 x3 x4 fx
              have hzb := HZB.out
              have hzn : n3 ≤ z := by have := HZ.out; have := HN3.out; omega
              go_wp2
              obtain ⟨w8, rfl⟩ : ∃ w8, w8 = wr := ⟨_, rfl⟩
              go_loopw [10] (fun i wr => ∃ k : Nat, k ≤ z ∧ i = .int .i64 k ∧ ∃ V3, RInv y9 wr X V0 (.slice Ac n1 dc) (.slice As n2 ds) V3 z c.types ((c.data ++ bh).take k)) (fun i _ => z - (intOf i).toNat)
              case atStart => exact ⟨0, Nat.zero_le _, rfl, _, HR.out⟩
              case round =>
                obtain ⟨k, hk, rfl, V3, hr⟩ := hrel
                have HQ := Lib.hid hr
                have s3 := hr.cell HTX.out HS9.out.2
                obtain ⟨x0, x1, x2, x3, x4, fx⟩ := hr.box.kx
                clear hr s0
                by_cases hlt : k < z
                · have HLT := Lib.hid hlt
                  have hkl : k < (c.data ++ bh).length := by rw [List.length_append]; have := HZ.out; omega
                  have hst := take_snoc' (c.data ++ bh) k 0 hkl
                  have HY9 : Hid (y9.heap.size ≤ wr.heap.size) := Lib.hid HQ.out.grown.size
                  have HRL : Hid (((c.data ++ bh).take k).length + 1 ≤ reach) := Lib.hid (by rw [List.length_take]; have := HZB.out; unfold reach; omega)
                  obtain ⟨nl, hnl⟩ : ∃ nl, nl = ((c.data ++ bh).take k).length + 1 := ⟨_, rfl⟩
                  have HNL := Lib.hid hnl
                  clear hnl
                  by_cases hlo : k < n3
                  · have hkd : k < c.data.length := by have := HN3.out; omega
                    have hyy : (c.data ++ bh).getD k 0 = c.data.getD k 0 := by simp [List.getD_eq_getElem?_getD, List.getElem?_append, hkd]
                    rw [hyy] at hst
                    obtain ⟨A3', c3', e0, _, _, hnr⟩ := HD.out.mono (HQ.out.below HB9.out HWX.out)
                    injection e0 with e1 e2 e3
                    subst e1
                    obtain ⟨b1, o1, hA3, hcells⟩ := hnr.2 (by omega)
                    have j1 := hcells k hkd
                    obtain ⟨y, hy⟩ : ∃ y, y = c.data.getD k 0 := ⟨_, rfl⟩
                    rw [← hy] at hst j1
                    have HST := Lib.hid hst
                    subst hA3
                    clear hy hst hcells hnr e2 e3 hyy hkl
                    have x3a := cell_keep (below_alloc wr (.cells #[.int .u8 y] 5)) x3
                    go_upto_region 18 with (fail)
                    go_region_law
                      ((first
                        | (refine step_dat y (.tmp 67) (.tmp 73) rfl rfl _ (Lib.hid HQ.out.d) rfl rfl HRL HY9.out (by with_reducible first | exact (Below.refl _ _) | exact (below_step (Below.refl _ _) (below_alloc _ _)) | exact (Below.refl _ _).drew | exact (below_step (Below.refl _ _) (below_alloc _ _)).drew | exact (below_step (Below.refl _ _).drew (below_alloc _ _))) (by with_reducible first | exact (box_new' _ _ _ (by first | rfl | simp)) | exact (box_dr (box_new' _ _ _ (by first | rfl | simp)))) ?_; intro v4 w4 ho hg; obtain ⟨A4', c4', e4⟩ : ∃ A d, v4 = Value.slice A nl d := (by obtain ⟨A, d, e, _⟩ := own_shape ho; exact ⟨A, d, by rw [e, List.length_append, List.length_singleton, HNL.out]⟩); subst e4; have HI := Lib.hid (HQ.out.dt (by with_reducible first | exact (Below.refl _ _) | exact (below_step (Below.refl _ _) (below_alloc _ _)) | exact (Below.refl _ _).drew | exact (below_step (Below.refl _ _) (below_alloc _ _)).drew | exact (below_step (Below.refl _ _).drew (below_alloc _ _))) hg ho); obtain ⟨z0, z1, z2, z3, z4, fz⟩ := HI.out.1.kx; clear ho hg)))
                    all_goals (go_wp2_with fail; go_roundw)
                    all_goals first
                      | exact ⟨k + 1, by have := HLT.out; omega, by go_num, _, by rw [HST.out]; first | exact HI.out.2 | exact HI.out.2.drew⟩
                      | (simp [intOf]; have := HLT.out; omega)
                  · have hlo2 : n3 ≤ k := by omega
                    have hw : IntKind.i64.wrap ((k : Int) - (n3 : Int)) = ((k - n3 : Nat) : Int) := by rw [IntWalk.i64_in _ (by omega)]; omega
                    have hqm : k - n3 < m := by have := HZ.out; have := HM.out; have := HN3.out; omega
                    have hqb : k - n3 < bh.length := by have := HM.out; omega
                    have hyy : (c.data ++ bh).getD k 0 = bh.getD (k - n3) 0 := by
                      have h1 : ¬ k < c.data.length := by have := HN3.out; omega
                      have h2 : k - c.data.length = k - n3 := by have := HN3.out; omega
                      simp [List.getD_eq_getElem?_getD, List.getElem?_append, h1, h2]
                    rw [hyy] at hst
                    obtain ⟨A4', c4', e0, _, _, hnr⟩ := HBH.out.mono (HQ.out.below HB9.out HWX.out)
                    injection e0 with e1 e2 e3
                    subst e1
                    obtain ⟨b1, o1, hA4, hcells⟩ := hnr.2 (by omega)
                    have j1 := hcells (k - n3) hqb
                    obtain ⟨y, hy⟩ : ∃ y, y = bh.getD (k - n3) 0 := ⟨_, rfl⟩
                    rw [← hy] at hst j1
                    have HST := Lib.hid hst
                    subst hA4
                    clear hy hst hcells hnr e2 e3 hyy hkl
                    have x3a := cell_keep (below_alloc wr (.cells #[.int .u8 y] 5)) x3
                    go_upto_region 19 with (fail)
                    go_region_law
                      ((first
                        | (refine step_dat y (.tmp 77) (.tmp 86) rfl rfl _ (Lib.hid HQ.out.d) rfl rfl HRL HY9.out (by with_reducible first | exact (Below.refl _ _) | exact (below_step (Below.refl _ _) (below_alloc _ _)) | exact (Below.refl _ _).drew | exact (below_step (Below.refl _ _) (below_alloc _ _)).drew | exact (below_step (Below.refl _ _).drew (below_alloc _ _))) (by with_reducible first | exact (box_new' _ _ _ (by first | rfl | simp)) | exact (box_dr (box_new' _ _ _ (by first | rfl | simp)))) ?_; intro v4 w4 ho hg; obtain ⟨A4', c4', e4⟩ : ∃ A d, v4 = Value.slice A nl d := (by obtain ⟨A, d, e, _⟩ := own_shape ho; exact ⟨A, d, by rw [e, List.length_append, List.length_singleton, HNL.out]⟩); subst e4; have HI := Lib.hid (HQ.out.dt (by with_reducible first | exact (Below.refl _ _) | exact (below_step (Below.refl _ _) (below_alloc _ _)) | exact (Below.refl _ _).drew | exact (below_step (Below.refl _ _) (below_alloc _ _)).drew | exact (below_step (Below.refl _ _).drew (below_alloc _ _))) hg ho); obtain ⟨z0, z1, z2, z3, z4, fz⟩ := HI.out.1.kx; clear ho hg)))
                    all_goals (go_wp2_with fail; go_roundw)
                    all_goals first
                      | exact ⟨k + 1, by have := HLT.out; omega, by go_num, _, by rw [HST.out]; first | exact HI.out.2 | exact HI.out.2.drew⟩
                      | (simp [intOf]; have := HLT.out; omega)
                · obtain rfl : z = k := by omega
                  clear hlt s3
                  have hfull : (c.data ++ bh).take z = c.data ++ bh := List.take_of_length_le (by rw [List.length_append]; have := HZ.out; omega)
                  rw [hfull] at HQ
                  clear hfull
                  obtain ⟨nt, hnt⟩ : ∃ nt, nt = c.types.length := ⟨_, rfl⟩
                  obtain ⟨nd, hnd⟩ : ∃ nd, nd = (c.data ++ bh).length := ⟨_, rfl⟩
                  obtain ⟨At, dt, hV0, _⟩ := own_shape HQ.out.t
                  obtain ⟨Ad, dd, hV3, _⟩ := own_shape HQ.out.d
                  rw [← hnt] at hV0
                  rw [← hnd] at hV3
                  clear hnt hnd
                  subst hV0
                  subst hV3
                  have hkc := (HCR1.out.below H9.out.below).of_block (HQ.out.grown.block C (by have := HCR1.out.lt; have := H9.out.below.size; omega) (by simpa using HCX.out))
                  have HKC2 := Lib.hid hkc
                  obtain ⟨k0, k1, k2, k3, k4, fC⟩ := hkc
                  go_wp2
                  exact rlay_good rfl rfl HKC2.out HQ.out H9.out.box H9.out.cd H9.out.sb HZ.out HCR1.out.lt HB2.out H9.out.below H9.out.ge HTW.out HPP.out
  · have q1 : (!(e1 == 0)) = true := by simp [g]
    have q2 : (e1 == 0) = false := by simp [g]
    have HPP : Hid (lay c bh = (e1, ⟨[], [], [], [], 0⟩)) := Lib.hid (by rw [HE.out]; exact lay_check (by rw [← HE.out]; exact g))
    clear g
    go_wp2
    exact rlay_bad rfl rfl HCR1.out HB2.out HTW.out HPP.out
end Go.Proofs.Ytkbboepopcebaaa
