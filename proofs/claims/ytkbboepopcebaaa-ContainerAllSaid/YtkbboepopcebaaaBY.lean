/- may: whether a container may be; the walk. -/
import Derived.Test.YtkbboepopcebaaaBX
import Derived.Test.YtkbboepopcebaaaU
import Derived.Test.YtkbboepopcebaaaH
namespace Go.Proofs.Ytkbboepopcebaaa
open Go.RowKit

theorem not_may {c : Cont} (h : ¬ May c) : decide (checkErr c = 0) = false := by
  simp only [decide_eq_false_iff_not]; exact fun e => h (may_of c e)
theorem yes_may {c : Cont} (h : May c) : decide (checkErr c = 0) = true := by simp only [decide_eq_true_eq]; exact of_may h
/-- The ranges of a section's type. -/
def InR (t : Ty) : Prop := (0 ≤ t.i ∧ t.i ≤ 127) ∧ (0 ≤ t.o ∧ t.o ≤ 128) ∧ 0 ≤ t.m ∧ t.m ≤ 1023
theorem tysOk_rest : ∀ (ts : List Ty), (∀ t ∈ ts, InR t) → tysOk false ts = true
  | [], _ => rfl
  | t :: r, h => by
    have h1 := h t (by simp)
    unfold InR at h1
    rw [tysOk, tysOk_rest r fun x hx => h x (by simp [hx])]
    simp [tyOk, fitsIn, fitsOut, fitsMost, h1]
theorem tysOk_of {ts : List Ty} (h : ∀ t ∈ ts, InR t) (h0 : (ts.getD 0 ty0).i = 0 ∧ (ts.getD 0 ty0).o = 128) : tysOk true ts = true := by
  cases ts with
  | nil => rfl
  | cons t r =>
    have h1 := h t (by simp)
    unfold InR at h1
    simp only [List.getD_cons_zero] at h0
    rw [tysOk, tysOk_rest r fun x hx => h x (by simp [hx])]
    simp [tyOk, fitsIn, fitsOut, fitsMost, h1, h0]
theorem tysOk_first {ts : List Ty} (h : tysOk true ts = true) (hn : 0 < ts.length) : (ts.getD 0 ty0).i = 0 ∧ (ts.getD 0 ty0).o = 128 := by
  cases ts with
  | nil => simp at hn
  | cons t r =>
    rw [tysOk, Bool.and_eq_true] at h
    have h1 := h.1
    simp only [tyOk, fitsIn, fitsOut, fitsMost, Bool.and_eq_true, decide_eq_true_eq] at h1
    simp only [List.getD_cons_zero]
    simp at h1
    omega
theorem may_code {c : Cont} (h : May c) (k : Nat) (hk : k < c.codes.length) : 0 < (c.codes.getD k []).length ∧ (c.codes.getD k []).length ≤ 65535 := by
  rw [show c.codes.getD k [] = c.codes[k] by simp [List.getD_eq_getElem?_getD, hk]]; exact h.code _ (List.getElem_mem _)
theorem may_sub {c : Cont} (h : May c) (k : Nat) (hk : k < c.subs.length) : 0 < (c.subs.getD k []).length ∧ (c.subs.getD k []).length ≤ 4294967295 := by
  rw [show c.subs.getD k [] = c.subs[k] by simp [List.getD_eq_getElem?_getD, hk]]; exact h.sub _ (List.getElem_mem _)
theorem may_ty {c : Cont} (h : May c) (k : Nat) (hk : k < c.types.length) : InR (c.types.getD k ty0) := tysOk_all c.types true h.tys k hk
theorem all_get {α : Type} {P : α → Prop} {l : List α} {d : α} (h : ∀ k, k < l.length → P (l.getD k d)) : ∀ x ∈ l, P x := fun x hx => by
  obtain ⟨k, hk, rfl⟩ := List.getElem_of_mem hx
  have := h k hk
  rwa [show l.getD k d = l[k] by simp [List.getD_eq_getElem?_getD, hk]] at this
def MayPost (c : Cont) (w : World) (e : Ending) (w' : World) : Prop := e = .returned (.bool (decide (checkErr c = 0))) ∧ Below w.heap.size w w'
theorem mayP_no {c : Cont} {w w' : World} (h : ¬ May c) (hb : Below w.heap.size w w') : MayPost c w (.returned (.bool false)) w' := ⟨by rw [not_may h], hb⟩
theorem mayP_yes {c : Cont} {w w' : World} (h : May c) (hb : Below w.heap.size w w') : MayPost c w (.returned (.bool true)) w' := ⟨by rw [yes_may h], hb⟩

set_option maxRecDepth 100000 in
set_option maxHeartbeats 4000000 in
theorem may_any (v : Value) (c : Cont) (w : World) (h : ContV w v c) : Calls Try.prog 24 #[v] w (MayPost c w) := by
  obtain ⟨vt, vc, vs, vd, rfl, ⟨A0, c0, rfl, i1, i2, hr0, ht⟩, ⟨A1, c1, rfl, _, _, hc⟩, ⟨A2, c2, rfl, _, _, hs⟩, ⟨A3, c3, rfl, _, _, hd⟩⟩ := h
  have HT := Lib.hid ht
  have HC := Lib.hid hc
  have HS := Lib.hid hs
  have hr1 := hc.1
  have hr2 := hs.1
  have hr3 := hd.1
  unfold reach at hr0 hr1 hr2 hr3
  obtain ⟨n0, hn0⟩ : ∃ n0, n0 = c.types.length := ⟨_, rfl⟩
  obtain ⟨n1, hn1⟩ : ∃ n1, n1 = c.codes.length := ⟨_, rfl⟩
  obtain ⟨n2, hn2⟩ : ∃ n2, n2 = c.subs.length := ⟨_, rfl⟩
  obtain ⟨n3, hn3⟩ : ∃ n3, n3 = c.data.length := ⟨_, rfl⟩
  obtain ⟨sz, hsz⟩ : ∃ sz, sz = c.size := ⟨_, rfl⟩
  rw [← hn0, ← hn1, ← hn2, ← hn3, ← hsz]
  rw [← hn0] at hr0
  rw [← hn1] at hr1
  rw [← hn2] at hr2
  rw [← hn3] at hr3
  have HN0 := Lib.hid hn0
  have HN1 := Lib.hid hn1
  have HN2 := Lib.hid hn2
  have HN3 := Lib.hid hn3
  have HSZ := Lib.hid hsz
  clear hn0 hn1 hn2 hn3 hsz ht hc hs hd i1 i2
  obtain ⟨w1, hw1⟩ : ∃ w1, w1 = w.alloc (.cells #[.slice A0 n0 c0, .slice A1 n1 c1, .slice A2 n2 c2, .slice A3 n3 c3, .int .i64 sz] 28) := ⟨_, rfl⟩
  obtain ⟨T, hT⟩ : ∃ T, T = w.heap.size := ⟨_, rfl⟩
  have hb := below_alloc w (.cells #[.slice A0 n0 c0, .slice A1 n1 c1, .slice A2 n2 c2, .slice A3 n3 c3, .int .i64 sz] 28)
  have x0 : (w.alloc (.cells #[.slice A0 n0 c0, .slice A1 n1 c1, .slice A2 n2 c2, .slice A3 n3 c3, .int .i64 sz] 28)).cell? ⟨w.heap.size, 0, none⟩ = some (.slice A0 n0 c0) := box1_at w _ 28 0 _ rfl
  have x1 : (w.alloc (.cells #[.slice A0 n0 c0, .slice A1 n1 c1, .slice A2 n2 c2, .slice A3 n3 c3, .int .i64 sz] 28)).cell? ⟨w.heap.size, 1, none⟩ = some (.slice A1 n1 c1) := box1_at w _ 28 1 _ rfl
  have x2 : (w.alloc (.cells #[.slice A0 n0 c0, .slice A1 n1 c1, .slice A2 n2 c2, .slice A3 n3 c3, .int .i64 sz] 28)).cell? ⟨w.heap.size, 2, none⟩ = some (.slice A2 n2 c2) := box1_at w _ 28 2 _ rfl
  have x3 : (w.alloc (.cells #[.slice A0 n0 c0, .slice A1 n1 c1, .slice A2 n2 c2, .slice A3 n3 c3, .int .i64 sz] 28)).cell? ⟨w.heap.size, 3, none⟩ = some (.slice A3 n3 c3) := box1_at w _ 28 3 _ rfl
  have x4 : (w.alloc (.cells #[.slice A0 n0 c0, .slice A1 n1 c1, .slice A2 n2 c2, .slice A3 n3 c3, .int .i64 sz] 28)).cell? ⟨w.heap.size, 4, none⟩ = some (.int .i64 sz) := box1_at w _ 28 4 _ rfl
  rw [← hw1] at hb x0 x1 x2 x3 x4
  rw [← hT] at x0 x1 x2 x3 x4
  have HB := Lib.hid hb
  clear hb
  go_enter Try.func24, Try.ntmps24
  go_upto_region 1 with (fail)
  rw [← hw1, ← hT]
  clear hw1 hT
  by_cases g0 : n1 < 1
  · have q : ¬ May c := fun m => by have := HN1.out; have := m.codes1; omega
    have Q := Lib.hid q
    clear q
    go_wp2
    go_ret
    exact mayP_no Q.out HB.out
  by_cases g1 : 1024 < n1
  · have q : ¬ May c := fun m => by have := HN1.out; have := m.codes2; omega
    have Q := Lib.hid q
    clear q
    go_wp2
    go_ret
    exact mayP_no Q.out HB.out
  by_cases g2 : ¬ n0 = n1
  · have q : ¬ May c := fun m => by have := HN0.out; have := HN1.out; have := m.types; omega
    have Q := Lib.hid q
    clear q
    have hq : (!((n0 : Int) == (n1 : Int))) = true := by simp; omega
    go_wp2
    go_ret
    exact mayP_no Q.out HB.out
  have g2x : n0 = n1 := by omega
  subst g2x
  clear g2
  by_cases g3 : 256 < n2
  · have q : ¬ May c := fun m => by have := HN2.out; have := m.subs; omega
    have Q := Lib.hid q
    clear q
    go_wp2
    go_ret
    exact mayP_no Q.out HB.out
  by_cases g4 : sz < (n3 : Int)
  · have q : ¬ May c := fun m => by have := HN3.out; have := HSZ.out; have := m.data; omega
    have Q := Lib.hid q
    clear q
    go_wp2
    go_ret
    exact mayP_no Q.out HB.out
  by_cases g5 : 65535 < sz
  · have q : ¬ May c := fun m => by have := HSZ.out; have := m.size; omega
    have Q := Lib.hid q
    clear q
    go_wp2
    go_ret
    exact mayP_no Q.out HB.out
  have G0 : Hid (0 < n0 ∧ n0 ≤ 1024 ∧ n2 ≤ 256 ∧ (n3 : Int) ≤ sz ∧ sz ≤ 65535) := Lib.hid (by omega)
  go_upto_region 3 with (fail)
  have HX2 := Lib.hid x2
  clear g0 g1 g3 g4 g5 x2 x3 x4
  go_wp2
  go_loopw [3, 4] (fun i _ wr => ∃ k : Nat, k ≤ n0 ∧ i = .int .i64 k ∧ (∀ j, j < k → (0 < (c.codes.getD j []).length ∧ (c.codes.getD j []).length ≤ 65535) ∧ InR (c.types.getD j ty0)) ∧ Below w1.heap.size w1 wr) (fun i _ _ => n0 - (intOf i).toNat)
  case atStart => exact ⟨0, Nat.zero_le _, rfl, fun j hj => absurd hj (Nat.not_lt_zero j), Below.refl _ _⟩
  case round =>
    obtain ⟨k, hk, rfl, hg, hb⟩ := hrel
    obtain ⟨w2, rfl⟩ : ∃ w2, w2 = wr := ⟨_, rfl⟩
    have HGD := Lib.hid hg
    have HB2 := Lib.hid hb
    have hbw := Lib.hid (below_step HB.out hb)
    have y0 := cell_keep hb x0
    have y1 := cell_keep hb x1
    by_cases hlt : k < n0
    · clear hg hb
      obtain ⟨b1, o1, rfl, i1, i2, i3⟩ := types_at (HT.out.mono hbw.out) k (by have := HN0.out; omega)
      obtain ⟨b2, o2, rfl, hcc⟩ := (HC.out.mono hbw.out).2 (by have := HN1.out; omega)
      obtain ⟨p, hcell, B1, d1, rfl, _, _, _⟩ := hcc k (by have := HN1.out; omega)
      have hgt : ∀ hm : May c, InR (c.types.getD k ty0) := fun hm => may_ty hm k (by have := HN0.out; omega)
      have hgc : ∀ hm : May c, 0 < (c.codes.getD k []).length ∧ (c.codes.getD k []).length ≤ 65535 := fun hm => may_code hm k (by have := HN1.out; omega)
      obtain ⟨x, hx⟩ : ∃ x, x = c.types.getD k ty0 := ⟨_, rfl⟩
      obtain ⟨m, hm⟩ : ∃ m, m = (c.codes.getD k []).length := ⟨_, rfl⟩
      rw [← hx] at i1 i2 i3 hgt
      rw [← hm] at hcell hgc
      have HXX := Lib.hid hx
      have HMM := Lib.hid hm
      have HGT := Lib.hid hgt
      have HGC := Lib.hid hgc
      clear hx hm hcc hgt hgc
      obtain ⟨t1, t2, t3⟩ := x
      unfold InR at HGT
      simp only at HGT
      go_upto_region 7 with (fail)
      have z0 := box1_at w2 #[.int .i64 t1, .int .i64 t2, .int .i64 t3] 69 0 _ rfl
      have z1 := box1_at w2 #[.int .i64 t1, .int .i64 t2, .int .i64 t3] 69 1 _ rfl
      have z2 := box1_at w2 #[.int .i64 t1, .int .i64 t2, .int .i64 t3] 69 2 _ rfl
      have hb3 := below_alloc w2 (.cells #[.int .i64 t1, .int .i64 t2, .int .i64 t3] 69)
      have u0 := cell_keep hb3 y0
      have u1 := cell_keep hb3 y1
      have u2 := cell_keep hb3 hcell
      clear i1 i2 i3 y0 y1 hcell
      obtain ⟨w3, hw3⟩ : ∃ w3, w3 = w2.alloc (.cells #[.int .i64 t1, .int .i64 t2, .int .i64 t3] 69) := ⟨_, rfl⟩
      obtain ⟨X, hX⟩ : ∃ X, X = w2.heap.size := ⟨_, rfl⟩
      rw [← hw3] at z0 z1 z2 hb3 u0 u1 u2 ⊢
      rw [← hX] at z0 z1 z2 ⊢
      have HB3 := Lib.hid (below_step HB2.out hb3)
      have HBW3 := Lib.hid (below_step HB.out HB3.out)
      clear hw3 hX hb3
      by_cases g0 : m < 1
      · have Q : Hid (¬ May c) := Lib.hid fun q => by have := HGC.out q; omega
        clear HGC HGT HXX HMM
        go_wp2
        go_ret
        exact mayP_no Q.out HBW3.out
      by_cases g1 : 65535 < m
      · have Q : Hid (¬ May c) := Lib.hid fun q => by have := HGC.out q; omega
        clear HGC HGT HXX HMM
        go_wp2
        go_ret
        exact mayP_no Q.out HBW3.out
      by_cases g2 : t1 < 0
      · have Q : Hid (¬ May c) := Lib.hid fun q => by have := HGT.out q; omega
        clear HGC HGT HXX HMM
        go_wp2
        go_ret
        exact mayP_no Q.out HBW3.out
      by_cases g3 : 127 < t1
      · have Q : Hid (¬ May c) := Lib.hid fun q => by have := HGT.out q; omega
        clear HGC HGT HXX HMM
        go_wp2
        go_ret
        exact mayP_no Q.out HBW3.out
      by_cases g4 : t2 < 0
      · have Q : Hid (¬ May c) := Lib.hid fun q => by have := HGT.out q; omega
        clear HGC HGT HXX HMM
        go_wp2
        go_ret
        exact mayP_no Q.out HBW3.out
      by_cases g5 : 128 < t2
      · have Q : Hid (¬ May c) := Lib.hid fun q => by have := HGT.out q; omega
        clear HGC HGT HXX HMM
        go_wp2
        go_ret
        exact mayP_no Q.out HBW3.out
      by_cases g6 : t3 < 0
      · have Q : Hid (¬ May c) := Lib.hid fun q => by have := HGT.out q; omega
        clear HGC HGT HXX HMM
        go_wp2
        go_ret
        exact mayP_no Q.out HBW3.out
      by_cases g7 : 1023 < t3
      · have Q : Hid (¬ May c) := Lib.hid fun q => by have := HGT.out q; omega
        clear HGC HGT HXX HMM
        go_wp2
        go_ret
        exact mayP_no Q.out HBW3.out
      have HG : Hid ((0 < m ∧ m ≤ 65535) ∧ InR ⟨t1, t2, t3⟩) := Lib.hid (by unfold InR; simp only; omega)
      go_wp2
      go_roundw
      case rel =>
        refine ⟨k + 1, by omega, by go_num, fun j hj => ?_, HB3.out⟩
        by_cases hj2 : j < k
        · exact HGD.out j hj2
        · obtain rfl : j = k := by omega
          rw [← HXX.out, ← HMM.out]
          exact HG.out
      case measure => simp [intOf]; omega
    · obtain rfl : n0 = k := by omega
      clear hlt
      go_wp2
      clear y0 y1 x1
      have x2 := cell_keep hb HX2.out
      clear hg hb
      go_loopw [5] (fun i wr => ∃ k : Nat, k ≤ n2 ∧ i = .int .i64 k ∧ (∀ j, j < k → (0 < (c.subs.getD j []).length ∧ (c.subs.getD j []).length ≤ 4294967295)) ∧ wr = w2) (fun i _ => n2 - (intOf i).toNat)
      case atStart => exact ⟨0, Nat.zero_le _, rfl, fun j hj => absurd hj (Nat.not_lt_zero j), rfl⟩
      case round =>
        obtain ⟨k, hk, rfl, hg, rfl⟩ := hrel
        have HGS := Lib.hid hg
        clear hg
        by_cases hlt : k < n2
        · obtain ⟨b2, o2, rfl, hcc⟩ := (HS.out.mono hbw.out).2 (by have := HN2.out; omega)
          obtain ⟨p, hcell, B1, d1, rfl, _, _, _⟩ := hcc k (by have := HN2.out; omega)
          have hgc : ∀ hm : May c, 0 < (c.subs.getD k []).length ∧ (c.subs.getD k []).length ≤ 4294967295 := fun hm => may_sub hm k (by have := HN2.out; omega)
          obtain ⟨m, hm⟩ : ∃ m, m = (c.subs.getD k []).length := ⟨_, rfl⟩
          rw [← hm] at hcell hgc
          have HMM := Lib.hid hm
          have HGC := Lib.hid hgc
          clear hm hcc hgc
          by_cases g0 : m < 1
          · have Q : Hid (¬ May c) := Lib.hid fun q => by have := HGC.out q; omega
            clear HGC HMM
            go_wp2
            go_ret
            exact mayP_no Q.out hbw.out
          by_cases g1 : 4294967295 < m
          · have Q : Hid (¬ May c) := Lib.hid fun q => by have := HGC.out q; omega
            clear HGC HMM
            go_wp2
            go_ret
            exact mayP_no Q.out hbw.out
          have HG : Hid (0 < m ∧ m ≤ 4294967295) := Lib.hid (by omega)
          go_wp2
          go_roundw
          case rel =>
            refine ⟨k + 1, by omega, by go_num, fun j hj => ?_, by first | rfl | trivial⟩
            by_cases hj2 : j < k
            · exact HGS.out j hj2
            · obtain rfl : j = k := by omega
              rw [← HMM.out]
              exact HG.out
          case measure => simp [intOf]; omega
        · obtain rfl : n2 = k := by omega
          clear hlt
          have x0 := cell_keep HB2.out x0
          obtain ⟨b1, o1, rfl, i1, i2, i3⟩ := types_at (HT.out.mono hbw.out) 0 (by have := HN0.out; have := G0.out; omega)
          simp only [Nat.zero_mul, Nat.add_zero] at i1 i2 i3
          obtain ⟨x, hx⟩ : ∃ x, x = c.types.getD 0 ty0 := ⟨_, rfl⟩
          rw [← hx] at i1 i2 i3
          have HXX := Lib.hid hx
          clear hx
          obtain ⟨t1, t2, t3⟩ := x
          have h0 : 0 < n0 := G0.out.1
          by_cases g0 : t1 = 0
          · have q0 : (t1 == 0) = true := by simp [g0]
            have HG0 := Lib.hid g0
            clear g0
            by_cases g1 : t2 = 128
            · have q1 : (t2 == 128) = true := by simp [g1]
              have HG1 := Lib.hid g1
              clear g1
              go_wp2
              go_ret
              refine mayP_yes ⟨by have := G0.out; have := HN1.out; omega, by have := G0.out; have := HN1.out; omega, by have := HN0.out; have := HN1.out; omega, all_get fun j hj => (HGD.out j (by have := HN1.out; omega)).1, by have := G0.out; have := HN2.out; omega, all_get fun j hj => HGS.out j (by have := HN2.out; omega), by have := G0.out; have := HSZ.out; omega, by have := G0.out; have := HSZ.out; have := HN3.out; omega, tysOk_of (all_get fun j hj => (HGD.out j (by have := HN0.out; omega)).2) ?_⟩ hbw.out
              rw [← HXX.out]
              exact ⟨HG0.out, HG1.out⟩
            · have q1 : (t2 == 128) = false := by simp [g1]
              have Q : Hid (¬ May c) := Lib.hid fun q => g1 (by have := tysOk_first q.tys (by have := HN0.out; omega); rw [← HXX.out] at this; exact this.2)
              clear g1
              go_wp2
              go_ret
              exact mayP_no Q.out hbw.out
          · have q0 : (t1 == 0) = false := by simp [g0]
            have Q : Hid (¬ May c) := Lib.hid fun q => g0 (by have := tysOk_first q.tys (by have := HN0.out; omega); rw [← HXX.out] at this; exact this.1)
            clear g0
            go_wp2
            go_ret
            exact mayP_no Q.out hbw.out
end Go.Proofs.Ytkbboepopcebaaa
