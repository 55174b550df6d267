/- least, able. -/
import Derived.Test.YtkbboepopcebaaaAI
import Derived.Test.YtkbboepopcebaaaU
import Derived.Test.YtkbboepopcebaaaH
import Derived.Test.YtkbboepopcebaaaL
namespace Go.Proofs.Ytkbboepopcebaaa
open Go.RowKit

def leastC : Cont := ⟨[⟨0, 128, 0⟩], [[0]], [], [], 0⟩
def LPost (w : World) (e : Ending) (w' : World) : Prop := ∃ v, e = .returned v ∧ ContV w' v leastC ∧ Below w.heap.size w w'
/-- A new block of one row reads. -/
theorem row_new (w : World) (va : Array Value) (t : TypeId) : ∀ (j : Nat) (v : Value), va[j]? = some v → (w.alloc (.cells va t)).cell? ⟨w.heap.size, j, none⟩ = some v := fun j v h => box1_at w va t j v h
theorem nums_new (w : World) (k : IntKind) (l : List Int) (t : TypeId) (hr : l.length ≤ reach) (g : Nat) (hg : g = w.heap.size) : NumsV (w.alloc (.cells (nums k l).toArray t)) k (.slice (some ⟨g, 0, none⟩) l.length l.length) l := by
  subst hg
  refine ⟨_, _, rfl, Nat.le_refl _, by simp, hr, fun hn => ⟨_, 0, rfl, fun j hj => ?_⟩⟩
  refine row_new w _ t (0 + j) _ ?_
  simp [nums, List.getD_eq_getElem?_getD, hj]

set_option maxRecDepth 100000 in
set_option maxHeartbeats 2000000 in
theorem least_any (w : World) : Calls Try.prog 35 #[] w (LPost w) := by
  go_enter Try.func35, Try.ntmps35
  go_wp2
  refine bodyPost_ret (v := .agg #[.slice (some ⟨w.heap.size + 1, 0, none⟩) 1 1, .slice (some ⟨w.heap.size + 1 + 1 + 1, 0, none⟩) 1 1, .slice none 0 0, .slice none 0 0, .int .i64 0]) (by simp [results, Try.results35, go_sem]) rfl ⟨_, rfl, ?_, ?_⟩
  · refine ⟨_, _, _, _, rfl, ⟨_, _, rfl, Nat.le_refl _, by simp, by simp [leastC, reach], fun _ => ⟨_, 0, rfl, fun j v hj => ?_⟩⟩, ⟨_, _, rfl, Nat.le_refl _, by simp, by simp [leastC, reach], fun _ => ⟨_, 0, rfl, fun j hj => ?_⟩⟩, ⟨none, 0, rfl, Nat.le_refl _, by simp, by simp [leastC, reach], fun h => absurd h (by simp [leastC])⟩, NumsV.nil _ _⟩
    · refine cell_keep (below_step (below_alloc _ _) (below_alloc _ _)) ?_
      have := row_new (w.alloc (.cells #[.slice (some ⟨w.heap.size + 1, 0, none⟩) 1 1, .slice (some ⟨w.heap.size + 1 + 1 + 1, 0, none⟩) 1 1, .slice none 0 0, .slice none 0 0, .int .i64 0] 28)) #[.int .i64 0, .int .i64 128, .int .i64 0] 69 (0 + j) v (by simpa [leastC, tysOf, tyCells] using hj)
      simpa using this
    · have hj0 : j = 0 := by simp [leastC] at hj; omega
      subst hj0
      refine ⟨.slice (some ⟨w.heap.size + 1 + 1, 0, none⟩) 1 1, ?_, ?_⟩
      · have := row_new (((w.alloc (.cells #[.slice (some ⟨w.heap.size + 1, 0, none⟩) 1 1, .slice (some ⟨w.heap.size + 1 + 1 + 1, 0, none⟩) 1 1, .slice none 0 0, .slice none 0 0, .int .i64 0] 28)).alloc (.cells #[.int .i64 0, .int .i64 128, .int .i64 0] 69)).alloc (.cells #[.int .u8 0] 5)) #[.slice (some ⟨w.heap.size + 1 + 1, 0, none⟩) 1 1] 22 0 _ rfl
        simpa using this
      · refine NumsV.mono ?_ (below_alloc _ _)
        exact nums_new _ .u8 [0] 5 (by simp [reach]) _ (by simp)
  · exact below_step (below_alloc _ _) (below_step (below_alloc _ _) (below_step (below_alloc _ _) (below_alloc _ _)))

def ableB : List Int := [239, 0, 1, 1, 0, 4, 2, 0, 1, 0, 1, 255, 0, 0, 0, 0, 128, 0, 0, 0]
theorem able_parse : parse ableB false = .ok leastC := by rfl
theorem able_check : checkErr leastC = 0 := by decide
theorem able_ser : serR leastC = ableB := by decide
theorem able_byt : Byt ableB := by unfold Byt ableB; decide
theorem PContV.reads {w : World} {B : Nat} {v : Value} {c : Cont} (h : PContV w B v c) (h0 : c.types.length ≤ reach) (h1 : c.codes.length ≤ reach) (h2 : ∀ l ∈ c.codes, l.length ≤ reach) (h3 : c.subs.length ≤ reach) (h4 : ∀ l ∈ c.subs, l.length ≤ reach) (h5 : c.data.length ≤ reach) : ContV w v c := by
  obtain ⟨T, C, S, D, rfl, hT, hC, hS, hD⟩ := h.form
  obtain ⟨A, cc, rfl, k1, k2, k3⟩ := own_cells hT
  exact ⟨_, _, _, _, rfl, ⟨A, cc, rfl, k1, k2, h0, k3⟩, hC.reads h1 h2, hS.reads h3 h4, own_nums hD h5⟩
def TruePost (w : World) (e : Ending) (w' : World) : Prop := e = .returned (.bool true) ∧ Below w.heap.size w w'
set_option maxRecDepth 100000 in
set_option maxHeartbeats 4000000 in
theorem able_any (w : World) : Calls Try.prog 14 #[] w (TruePost w) := by
  go_enter Try.func14, Try.ntmps14
  go_wp2_with fail
  obtain ⟨w1, hw1⟩ : ∃ w1, w1 = w.alloc (.cells #[.int .u8 239, .int .u8 0, .int .u8 1, .int .u8 1, .int .u8 0, .int .u8 4, .int .u8 2, .int .u8 0, .int .u8 1, .int .u8 0, .int .u8 1, .int .u8 255, .int .u8 0, .int .u8 0, .int .u8 0, .int .u8 0, .int .u8 128, .int .u8 0, .int .u8 0, .int .u8 0] 5) := ⟨_, rfl⟩
  have hN1 : NumsV w1 .u8 (.slice (some ⟨w.heap.size, 0, none⟩) 20 20) ableB := by rw [hw1]; exact nums_new w .u8 ableB 5 (by simp [reach, ableB]) _ rfl
  have hB1 : Below w.heap.size w w1 := by rw [hw1]; exact below_alloc _ _
  rw [← hw1]
  have HN1 := Lib.hid hN1
  have HB1 := Lib.hid hB1
  clear hN1 hB1 hw1
  refine (own_any _ _ _ HN1.out).mono ?_
  rintro e w2 ⟨v2, rfl, ho, hb⟩
  have HN2 := Lib.hid (HN1.out.mono hb)
  have HB2 := Lib.hid (below_step HB1.out hb)
  have hn2 := own_nums ho (by simp [reach, ableB])
  obtain ⟨A2, c2, rfl, hc2, _, hr2⟩ := hn2
  have HR2 := Lib.hid hr2
  have HC2 := Lib.hid hc2
  clear HN1 HB1 hb ho hr2 hc2
  go_wp2_with fail
  refine (parse_any A2 _ c2 false ableB w2 HR2.out able_byt rfl HC2.out).mono ?_
  rintro e w3 ⟨hb, hpost⟩
  rw [able_parse] at hpost
  obtain ⟨v3, rfl, hP⟩ := hpost
  have hR := hP.reads (by simp [reach, leastC]) (by simp [reach, leastC]) (by simp [reach, leastC]) (by simp [reach, leastC]) (by simp [reach, leastC]) (by simp [reach, leastC])
  obtain ⟨vt, vc, vs, vd, rfl, ⟨A4, c4, rfl, hh⟩, ⟨A5, c5, rfl, hh2⟩, ⟨A6, c6, rfl, hh3⟩, ⟨A7, c7, rfl, hh4⟩⟩ := hR
  have HN3 := Lib.hid (HN2.out.mono hb)
  have HB3 := Lib.hid (below_step HB2.out hb)
  have HCV : Hid (ContV w3 (.agg #[.slice A4 leastC.types.length c4, .slice A5 leastC.codes.length c5, .slice A6 leastC.subs.length c6, .slice A7 leastC.data.length c7, .int .i64 leastC.size]) leastC) := Lib.hid ⟨_, _, _, _, rfl, ⟨A4, c4, rfl, hh⟩, ⟨A5, c5, rfl, hh2⟩, ⟨A6, c6, rfl, hh3⟩, ⟨A7, c7, rfl, hh4⟩⟩
  clear hh hh2 hh3 hh4 hP hb HN2 HB2 HR2 HC2
  unfold rejV
  obtain ⟨n4, h4⟩ : ∃ n, n = leastC.types.length := ⟨_, rfl⟩
  obtain ⟨n5, h5⟩ : ∃ n, n = leastC.codes.length := ⟨_, rfl⟩
  obtain ⟨n6, h6⟩ : ∃ n, n = leastC.subs.length := ⟨_, rfl⟩
  obtain ⟨n7, h7⟩ : ∃ n, n = leastC.data.length := ⟨_, rfl⟩
  obtain ⟨n8, h8⟩ : ∃ n, n = leastC.size := ⟨_, rfl⟩
  have hcv := HCV.out
  rw [← h4, ← h5, ← h6, ← h7, ← h8] at hcv ⊢
  have HCW := Lib.hid hcv
  clear hcv h4 h5 h6 h7 h8 HCV
  go_upto_region 3 with (fail)
  obtain ⟨W, hW⟩ : ∃ W, W = (w3.alloc (.cells #[.slice A4 n4 c4, .slice A5 n5 c5, .slice A6 n6 c6, .slice A7 n7 c7, .int .i64 n8] 28)).alloc (.cells #[.int .i64 0, .slice none 0 0, .int .i64 0, .int .i64 0] 43) := ⟨_, rfl⟩
  obtain ⟨T, hT⟩ : ∃ T, T = w3.heap.size := ⟨_, rfl⟩
  obtain ⟨E, hE⟩ : ∃ E, E = T + 1 := ⟨_, rfl⟩
  have hbW : Below w3.heap.size w3 W := by rw [hW]; exact below_step (below_alloc _ _) (below_alloc _ _)
  have t0 : W.cell? ⟨T, 0, none⟩ = some (.slice A4 n4 c4) := by rw [hW, hT]; exact cell_keep (below_alloc _ _) (box1_at _ _ _ _ _ rfl)
  have t1 : W.cell? ⟨T, 1, none⟩ = some (.slice A5 n5 c5) := by rw [hW, hT]; exact cell_keep (below_alloc _ _) (box1_at _ _ _ _ _ rfl)
  have t2 : W.cell? ⟨T, 2, none⟩ = some (.slice A6 n6 c6) := by rw [hW, hT]; exact cell_keep (below_alloc _ _) (box1_at _ _ _ _ _ rfl)
  have t3 : W.cell? ⟨T, 3, none⟩ = some (.slice A7 n7 c7) := by rw [hW, hT]; exact cell_keep (below_alloc _ _) (box1_at _ _ _ _ _ rfl)
  have t4 : W.cell? ⟨T, 4, none⟩ = some (.int .i64 n8) := by rw [hW, hT]; exact cell_keep (below_alloc _ _) (box1_at _ _ _ _ _ rfl)
  have e0 : W.cell? ⟨E, 0, none⟩ = some (.int .i64 0) := by
    have := box1_at (w3.alloc (.cells #[.slice A4 n4 c4, .slice A5 n5 c5, .slice A6 n6 c6, .slice A7 n7 c7, .int .i64 n8] 28)) #[.int .i64 0, .slice none 0 0, .int .i64 0, .int .i64 0] 43 0 _ rfl
    rw [hW, hE, hT]; simp at this ⊢
  have hNW := HN3.out.mono hbW
  have hCW := HCW.out.mono hbW
  rw [← hT, ← hE, ← hW]
  have HBW := Lib.hid hbW
  have HNW := Lib.hid hNW
  have HCX := Lib.hid hCW
  have hSS : ∀ w', Below W.heap.size W w' → w'.cell? ⟨T, 0, none⟩ = some (.slice A4 n4 c4) ∧ w'.cell? ⟨T, 1, none⟩ = some (.slice A5 n5 c5) ∧ w'.cell? ⟨T, 2, none⟩ = some (.slice A6 n6 c6) ∧ w'.cell? ⟨T, 3, none⟩ = some (.slice A7 n7 c7) ∧ w'.cell? ⟨T, 4, none⟩ = some (.int .i64 n8) ∧ w'.cell? ⟨E, 0, none⟩ = some (.int .i64 0) :=
    fun w' h => ⟨cell_keep h t0, cell_keep h t1, cell_keep h t2, cell_keep h t3, cell_keep h t4, cell_keep h e0⟩
  have HSS := Lib.hid hSS
  clear hbW hW hT hE hSS hNW hCW HN3 HCW t0 t1 t2 t3 t4 e0
  go_cut [21] (fun v wx => v = .bool false ∧ Below W.heap.size W wx)
  case first =>
    go_region_held3 (fun w' => w'.cell? ⟨T, 0, none⟩ = some (.slice A4 n4 c4) ∧ w'.cell? ⟨T, 1, none⟩ = some (.slice A5 n5 c5) ∧ w'.cell? ⟨T, 2, none⟩ = some (.slice A6 n6 c6) ∧ w'.cell? ⟨T, 3, none⟩ = some (.slice A7 n7 c7) ∧ w'.cell? ⟨T, 4, none⟩ = some (.int .i64 n8) ∧ w'.cell? ⟨E, 0, none⟩ = some (.int .i64 0))
      (first | exact HSS.out _ (Below.refl _ _).drew | exact HSS.out _ HB4.out | exact HSS.out _ HB5.out | go_keep)
      ((first
        | (go_at_call 35; (with_reducible refine (least_any _).mono ?_); rintro e w4 ⟨v4, rfl, hc, hb⟩; have HB4 := Lib.hid (below_step (Below.refl _ _).drew hb); have HC4 := Lib.hid hc; clear hc hb)
        | (go_at_call 20; (with_reducible refine (same_any _ _ leastC leastC _ (HCX.out.mono HB4.out) HC4.out).mono ?_); rintro e w5 ⟨rfl, hb⟩; have HB5 := Lib.hid (below_step HB4.out hb); clear hb)))
    all_goals (go_wp2_with fail; go_meet; exact ⟨by simp, HB5.out⟩)
  case rest =>
    obtain ⟨rfl, hb⟩ := hcut
    have HBc := Lib.hid (below_step HBW.out hb)
    have HBC := Lib.hid (below_trans HB3.out HB3.out.size HBc.out)
    have HNC := Lib.hid (HNW.out.mono hb)
    clear hb HBc HCX HSS HNW HBW HB3
    go_wp2_with fail
    refine (least_any _).mono ?_
    rintro e w4 ⟨v4, rfl, hc, hb⟩
    have HC4 := Lib.hid hc
    have HB4 := Lib.hid (below_step HBC.out hb)
    have HN4 := Lib.hid (HNC.out.mono hb)
    clear hc hb HBC HNC
    go_wp2_with fail
    have hs := ser_any v4 leastC w4 HC4.out
    rw [able_check, able_ser] at hs
    refine hs.mono ?_
    clear hs
    rintro e w5 ⟨v5, rfl, ho, hb⟩
    have HB5 := Lib.hid (below_step HB4.out hb)
    have hn := ho.reads (by simp [ableB, reach])
    obtain ⟨A8, c8, rfl, _, _, hr⟩ := hn
    obtain ⟨A9, c9, hA9, _, _, hr9⟩ := HN4.out.mono hb
    have HR8 := Lib.hid hr
    have HR9 := Lib.hid hr9
    injection hA9 with hA9 _ hc9
    subst hA9
    clear ho hb hr hr9 hc9
    go_wp2_with fail
    refine (sameBytes_any _ _ _ _ ableB ableB _ _ _ rfl (by rfl) HR8.out HR9.out).mono ?_
    rintro e w6 ⟨rfl, k, rfl⟩
    go_wp2
    go_ret
    exact ⟨by simp, below_drewN HB5.out _⟩
end Go.Proofs.Ytkbboepopcebaaa
