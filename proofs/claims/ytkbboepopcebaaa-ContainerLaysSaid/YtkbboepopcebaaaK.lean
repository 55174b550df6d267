/- container.Check: every way. -/
import Derived.Test.YtkbboepopcebaaaJ
namespace Go.Proofs.Ytkbboepopcebaaa
open Go.RowKit
section
variable (A0 A1 A2 A3 : Option Addr) (n0 n1 n2 n3 c0 c1 c2 c3 : Nat) (sz : Int) (w : World)

set_option maxRecDepth 100000 in
theorem check_none (g1 : n1 = 0) :
    Calls Try.prog 18 #[.agg #[.slice A0 n0 c0, .slice A1 n1 c1, .slice A2 n2 c2, .slice A3 n3 c3, .int .i64 sz]] w fun e w' => e = .returned (.int .i64 55) ∧ Below w.heap.size w w' := by
  subst g1
  go_enter Try.func18, Try.ntmps18
  go_wp2
  go_ret
  exact ⟨rfl, below_alloc _ _⟩

set_option maxRecDepth 100000 in
theorem check_many (g1 : 1024 < n1) :
    Calls Try.prog 18 #[.agg #[.slice A0 n0 c0, .slice A1 n1 c1, .slice A2 n2 c2, .slice A3 n3 c3, .int .i64 sz]] w fun e w' => e = .returned (.int .i64 55) ∧ Below w.heap.size w w' := by
  have hz : ((n1 : Int) == 0) = false := by simp; omega
  go_enter Try.func18, Try.ntmps18
  go_wp2
  go_ret
  exact ⟨rfl, below_alloc _ _⟩

set_option maxRecDepth 100000 in
theorem check_types (g1 : 0 < n1) (g2 : n1 ≤ 1024) (g3 : ¬ (n0 : Int) = (n1 : Int)) :
    Calls Try.prog 18 #[.agg #[.slice A0 n0 c0, .slice A1 n1 c1, .slice A2 n2 c2, .slice A3 n3 c3, .int .i64 sz]] w fun e w' => e = .returned (.int .i64 54) ∧ Below w.heap.size w w' := by
  have hz : ((n1 : Int) == 0) = false := by simp; omega
  have hq : (!((n0 : Int) == (n1 : Int))) = true := by simp; omega
  go_enter Try.func18, Try.ntmps18
  go_wp2
  go_ret
  exact ⟨rfl, below_alloc _ _⟩

set_option maxRecDepth 100000 in
theorem check_codes (g1 : 0 < n1) (g2 : n1 ≤ 1024) (g3 : (n0 : Int) = (n1 : Int)) (e1 : Int) (k1 : ¬ e1 = 0) (h1 : Calls Try.prog 45 #[.slice A1 n1 c1, .int .i64 65535] (w.alloc (.cells #[.slice A0 n0 c0, .slice A1 n1 c1, .slice A2 n2 c2, .slice A3 n3 c3, .int .i64 sz] 28)) fun e w' => e = .returned (.int .i64 e1) ∧ (w.alloc (.cells #[.slice A0 n0 c0, .slice A1 n1 c1, .slice A2 n2 c2, .slice A3 n3 c3, .int .i64 sz] 28)) = w') :
    Calls Try.prog 18 #[.agg #[.slice A0 n0 c0, .slice A1 n1 c1, .slice A2 n2 c2, .slice A3 n3 c3, .int .i64 sz]] w fun e w' => e = .returned (.int .i64 e1) ∧ Below w.heap.size w w' := by
  obtain rfl : n0 = n1 := by omega
  clear g3
  have H1 := Lib.hid h1; clear h1
  have hz : ((n0 : Int) == 0) = false := by simp; omega
  have hk1 : (!(e1 == 0)) = true := by simp [k1]
  go_enter Try.func18, Try.ntmps18
  go_wp2_with fail
  refine H1.out.mono ?_
  rintro e w1 ⟨rfl, rfl⟩
  go_wp2
  go_ret
  exact ⟨rfl, below_alloc _ _⟩

set_option maxRecDepth 100000 in
theorem check_subs (g1 : 0 < n1) (g2 : n1 ≤ 1024) (g3 : (n0 : Int) = (n1 : Int)) (g4 : 256 < n2) (h1 : Calls Try.prog 45 #[.slice A1 n1 c1, .int .i64 65535] (w.alloc (.cells #[.slice A0 n0 c0, .slice A1 n1 c1, .slice A2 n2 c2, .slice A3 n3 c3, .int .i64 sz] 28)) fun e w' => e = .returned (.int .i64 0) ∧ (w.alloc (.cells #[.slice A0 n0 c0, .slice A1 n1 c1, .slice A2 n2 c2, .slice A3 n3 c3, .int .i64 sz] 28)) = w') :
    Calls Try.prog 18 #[.agg #[.slice A0 n0 c0, .slice A1 n1 c1, .slice A2 n2 c2, .slice A3 n3 c3, .int .i64 sz]] w fun e w' => e = .returned (.int .i64 57) ∧ Below w.heap.size w w' := by
  obtain rfl : n0 = n1 := by omega
  clear g3
  have H1 := Lib.hid h1; clear h1
  have hz : ((n0 : Int) == 0) = false := by simp; omega
  go_enter Try.func18, Try.ntmps18
  go_wp2_with fail
  refine H1.out.mono ?_
  rintro e w1 ⟨rfl, rfl⟩
  go_wp2
  go_ret
  exact ⟨rfl, below_alloc _ _⟩

set_option maxRecDepth 100000 in
theorem check_subs2 (g1 : 0 < n1) (g2 : n1 ≤ 1024) (g3 : (n0 : Int) = (n1 : Int)) (g4 : n2 ≤ 256) (e1 : Int) (k1 : ¬ e1 = 0) (h1 : Calls Try.prog 45 #[.slice A1 n1 c1, .int .i64 65535] (w.alloc (.cells #[.slice A0 n0 c0, .slice A1 n1 c1, .slice A2 n2 c2, .slice A3 n3 c3, .int .i64 sz] 28)) fun e w' => e = .returned (.int .i64 0) ∧ (w.alloc (.cells #[.slice A0 n0 c0, .slice A1 n1 c1, .slice A2 n2 c2, .slice A3 n3 c3, .int .i64 sz] 28)) = w') (h2 : Calls Try.prog 45 #[.slice A2 n2 c2, .int .i64 4294967295] (w.alloc (.cells #[.slice A0 n0 c0, .slice A1 n1 c1, .slice A2 n2 c2, .slice A3 n3 c3, .int .i64 sz] 28)) fun e w' => e = .returned (.int .i64 e1) ∧ (w.alloc (.cells #[.slice A0 n0 c0, .slice A1 n1 c1, .slice A2 n2 c2, .slice A3 n3 c3, .int .i64 sz] 28)) = w') :
    Calls Try.prog 18 #[.agg #[.slice A0 n0 c0, .slice A1 n1 c1, .slice A2 n2 c2, .slice A3 n3 c3, .int .i64 sz]] w fun e w' => e = .returned (.int .i64 e1) ∧ Below w.heap.size w w' := by
  obtain rfl : n0 = n1 := by omega
  clear g3
  have H1 := Lib.hid h1; clear h1
  have H2 := Lib.hid h2; clear h2
  have hz : ((n0 : Int) == 0) = false := by simp; omega
  have hk1 : (!(e1 == 0)) = true := by simp [k1]
  go_enter Try.func18, Try.ntmps18
  go_wp2_with fail
  refine H1.out.mono ?_
  rintro e w1 ⟨rfl, rfl⟩
  go_wp2_with fail
  refine H2.out.mono ?_
  rintro e w2 ⟨rfl, rfl⟩
  go_wp2
  go_ret
  exact ⟨rfl, below_alloc _ _⟩

set_option maxRecDepth 100000 in
theorem check_long (g1 : 0 < n1) (g2 : n1 ≤ 1024) (g3 : (n0 : Int) = (n1 : Int)) (g4 : n2 ≤ 256) (g5 : 65535 < sz) (h1 : Calls Try.prog 45 #[.slice A1 n1 c1, .int .i64 65535] (w.alloc (.cells #[.slice A0 n0 c0, .slice A1 n1 c1, .slice A2 n2 c2, .slice A3 n3 c3, .int .i64 sz] 28)) fun e w' => e = .returned (.int .i64 0) ∧ (w.alloc (.cells #[.slice A0 n0 c0, .slice A1 n1 c1, .slice A2 n2 c2, .slice A3 n3 c3, .int .i64 sz] 28)) = w') (h2 : Calls Try.prog 45 #[.slice A2 n2 c2, .int .i64 4294967295] (w.alloc (.cells #[.slice A0 n0 c0, .slice A1 n1 c1, .slice A2 n2 c2, .slice A3 n3 c3, .int .i64 sz] 28)) fun e w' => e = .returned (.int .i64 0) ∧ (w.alloc (.cells #[.slice A0 n0 c0, .slice A1 n1 c1, .slice A2 n2 c2, .slice A3 n3 c3, .int .i64 sz] 28)) = w') :
    Calls Try.prog 18 #[.agg #[.slice A0 n0 c0, .slice A1 n1 c1, .slice A2 n2 c2, .slice A3 n3 c3, .int .i64 sz]] w fun e w' => e = .returned (.int .i64 2) ∧ Below w.heap.size w w' := by
  obtain rfl : n0 = n1 := by omega
  clear g3
  have H1 := Lib.hid h1; clear h1
  have H2 := Lib.hid h2; clear h2
  have hz : ((n0 : Int) == 0) = false := by simp; omega
  go_enter Try.func18, Try.ntmps18
  go_wp2_with fail
  refine H1.out.mono ?_
  rintro e w1 ⟨rfl, rfl⟩
  go_wp2_with fail
  refine H2.out.mono ?_
  rintro e w2 ⟨rfl, rfl⟩
  go_wp2
  go_ret
  exact ⟨rfl, below_alloc _ _⟩

set_option maxRecDepth 100000 in
theorem check_arg (g1 : 0 < n1) (g2 : n1 ≤ 1024) (g3 : (n0 : Int) = (n1 : Int)) (g4 : n2 ≤ 256) (g5 : sz ≤ 65535) (g6 : sz < (n3 : Int)) (h1 : Calls Try.prog 45 #[.slice A1 n1 c1, .int .i64 65535] (w.alloc (.cells #[.slice A0 n0 c0, .slice A1 n1 c1, .slice A2 n2 c2, .slice A3 n3 c3, .int .i64 sz] 28)) fun e w' => e = .returned (.int .i64 0) ∧ (w.alloc (.cells #[.slice A0 n0 c0, .slice A1 n1 c1, .slice A2 n2 c2, .slice A3 n3 c3, .int .i64 sz] 28)) = w') (h2 : Calls Try.prog 45 #[.slice A2 n2 c2, .int .i64 4294967295] (w.alloc (.cells #[.slice A0 n0 c0, .slice A1 n1 c1, .slice A2 n2 c2, .slice A3 n3 c3, .int .i64 sz] 28)) fun e w' => e = .returned (.int .i64 0) ∧ (w.alloc (.cells #[.slice A0 n0 c0, .slice A1 n1 c1, .slice A2 n2 c2, .slice A3 n3 c3, .int .i64 sz] 28)) = w') :
    Calls Try.prog 18 #[.agg #[.slice A0 n0 c0, .slice A1 n1 c1, .slice A2 n2 c2, .slice A3 n3 c3, .int .i64 sz]] w fun e w' => e = .returned (.int .i64 1) ∧ Below w.heap.size w w' := by
  obtain rfl : n0 = n1 := by omega
  clear g3
  have H1 := Lib.hid h1; clear h1
  have H2 := Lib.hid h2; clear h2
  have hz : ((n0 : Int) == 0) = false := by simp; omega
  go_enter Try.func18, Try.ntmps18
  go_wp2_with fail
  refine H1.out.mono ?_
  rintro e w1 ⟨rfl, rfl⟩
  go_wp2_with fail
  refine H2.out.mono ?_
  rintro e w2 ⟨rfl, rfl⟩
  go_wp2
  go_ret
  exact ⟨rfl, below_alloc _ _⟩

end

/-- Check. -/
theorem check_any (v : Value) (c : Cont) (w : World) (h : ContV w v c) :
    Calls Try.prog 18 #[v] w fun e w' => e = .returned (.int .i64 (checkErr c)) ∧ Below w.heap.size w w' := by
  obtain ⟨vt, vc, vs, vd, rfl, ⟨A0, c0, rfl, _, _, hr0, ht⟩, ⟨A1, c1, rfl, _, _, hc⟩, ⟨A2, c2, rfl, _, _, hs⟩, ⟨A3, c3, rfl, _, _, hd⟩⟩ := h
  have h1 := fun va => parts_any A1 c1 _ 65535 c.codes _ rfl (hc.mono (below_alloc w (.cells va 28)))
  have h2 := fun va => parts_any A2 c2 _ 4294967295 c.subs _ rfl (hs.mono (below_alloc w (.cells va 28)))
  unfold checkErr
  by_cases g1 : c.codes.length = 0
  · rw [if_pos (.inl g1)]
    exact check_none A0 A1 A2 A3 _ _ _ _ c0 c1 c2 c3 _ w g1
  by_cases g2 : 1024 < c.codes.length
  · rw [if_pos (.inr g2)]
    exact check_many A0 A1 A2 A3 _ _ _ _ c0 c1 c2 c3 _ w g2
  rw [if_neg (by omega)]
  by_cases g3 : c.types.length = c.codes.length
  case neg =>
    rw [if_pos g3]
    exact check_types A0 A1 A2 A3 _ _ _ _ c0 c1 c2 c3 _ w (by omega) (by omega) (by omega)
  rw [if_neg (by omega)]
  by_cases e1 : partsErr 65535 c.codes = 0
  case neg =>
    rw [if_pos e1]
    exact check_codes A0 A1 A2 A3 _ _ _ _ c0 c1 c2 c3 _ w (by omega) (by omega) (by omega) _ e1 (h1 _)
  rw [if_neg (by simpa using e1)]
  simp only [e1] at h1
  by_cases g4 : 256 < c.subs.length
  · rw [if_pos g4]
    exact check_subs A0 A1 A2 A3 _ _ _ _ c0 c1 c2 c3 _ w (by omega) (by omega) (by omega) g4 (h1 _)
  rw [if_neg g4]
  by_cases e2 : partsErr 4294967295 c.subs = 0
  case neg =>
    rw [if_pos e2]
    exact check_subs2 A0 A1 A2 A3 _ _ _ _ c0 c1 c2 c3 _ w (by omega) (by omega) (by omega) (by omega) _ e2 (h1 _) (h2 _)
  rw [if_neg (by simpa using e2)]
  simp only [e2] at h2
  by_cases g5 : 65535 < c.size
  · rw [if_pos g5]
    exact check_long A0 A1 A2 A3 _ _ _ _ c0 c1 c2 c3 _ w (by omega) (by omega) (by omega) (by omega) g5 (h1 _) (h2 _)
  rw [if_neg g5]
  by_cases g6 : c.size < (c.data.length : Int)
  · rw [if_pos g6]
    exact check_arg A0 A1 A2 A3 _ _ _ _ c0 c1 c2 c3 _ w (by omega) (by omega) (by omega) (by omega) (by omega) g6 (h1 _) (h2 _)
  rw [if_neg g6]
  exact check_loop A0 A1 A2 A3 _ _ _ _ c0 c1 c2 c3 _ w c.types rfl ht hr0 (by omega) (by omega) (by omega) (by omega) (by omega) (by omega) (h1 _) (h2 _)
end Go.Proofs.Ytkbboepopcebaaa
