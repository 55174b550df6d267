/- The reference's at, unless, wrong, sum. -/
import Derived.Test.YtkbboepopcebaaaAV
namespace Go.Proofs.Ytkbboepopcebaaa
open Go.RowKit

set_option maxRecDepth 100000 in
theorem at_any (A : Option Addr) (c n : Nat) (a s : Int) (b : List Int) (w : World) (hb : NumsR w .u8 A b) (hy : Byt b) (hn : b.length = n) (h0 : 0 ≤ a) (h1 : 0 ≤ s) (h2 : s ≤ 4) (h3 : a + s ≤ n) :
    Calls Try.prog 66 #[.slice A n c, .int .i64 a, .int .i64 s] w fun e w' => e = .returned (.int .i64 (num b a.toNat s.toNat)) ∧ w = w' := by
  have hmx : n ≤ 140737488351232 := by have := hb.1; unfold reach at *; omega
  have hmx2 : (n : Int) ≤ 140737488351232 := by omega
  have HB := Lib.hid hb; clear hb
  have HY := Lib.hid hy; clear hy
  have HN := Lib.hid hn; clear hn
  go_enter Try.func66, Try.ntmps66
  go_wp2
  go_loop [7, 8] (fun v i => ∃ (t : Nat) (x : Int), (t : Int) ≤ s ∧ i = .int .i64 t ∧ v = .int .i64 x ∧ 0 ≤ x ∧ x < 256 ^ t ∧ Hid (x = num b a.toNat t)) (fun _ i => (s - intOf i).toNat)
  case atStart => exact ⟨0, 0, by omega, rfl, rfl, by omega, by simp, Lib.hid rfl⟩
  case round =>
    obtain ⟨t, x, ht, rfl, rfl, x0, x1, hx⟩ := hrel
    by_cases hlt : (t : Int) < s
    · have hlen : (a + t).toNat < b.length := by have := HN.out; omega
      obtain ⟨b1, o1, hA, hc⟩ := HB.out.2 (by omega)
      subst hA
      have hcell := hc (a + t).toNat hlen
      clear hc
      have hy := byt_get HY.out (a + t).toNat
      obtain ⟨y, hyy⟩ : ∃ y, y = b.getD (a + t).toNat 0 := ⟨_, rfl⟩
      rw [← hyy] at hcell hy
      obtain ⟨y0, y1⟩ := hy
      have HYY := Lib.hid hyy
      have i0 : 0 ≤ a + (t : Int) := by omega
      have i1 : a + (t : Int) < (n : Int) := by omega
      have x2 : x < 16777216 := by
        have : (256 : Int) ^ t ≤ 256 ^ 3 := by
          have ht3 : t ≤ 3 := by omega
          rcases (show t = 0 ∨ t = 1 ∨ t = 2 ∨ t = 3 by omega) with rfl | rfl | rfl | rfl <;> decide
        omega
      have hw1 : IntKind.i64.wrap (256 * x) = 256 * x := IntWalk.i64_in _ (by omega)
      have hw2 : IntKind.i64.wrap (256 * x + y) = 256 * x + y := IntWalk.i64_in _ (by omega)
      have hw3 : IntKind.i64.wrap (a + (t : Int)) = a + (t : Int) := IntWalk.i64_in _ (by omega)
      have hw4 : IntKind.i64.wrap y = y := IntWalk.i64_in _ (by omega)
      have HX1 := Lib.hid x1
      clear hyy x1
      go_wp2
      go_round
      case rel =>
        refine ⟨t + 1, 256 * x + y, by omega, by go_num, rfl, by omega, ?_, Lib.hid ?_⟩
        · have := HX1.out
          rw [Int.pow_succ]; omega
        · rw [num, ← hx.out, HYY.out, show (a + (t : Int)).toNat = a.toNat + t by omega, Int.mul_comm 256 x]
      case measure => simp [intOf]; omega
    · obtain rfl : s = (t : Int) := by omega
      go_wp2
      go_ret
      exact ⟨by rw [hx.out]; simp, rfl⟩
set_option maxRecDepth 100000 in
theorem unless_yes (e : Int) (w : World) : Calls Try.prog 80 #[.bool true, .int .i64 e] w fun q w' => q = .returned (.int .i64 0) ∧ w = w' := by
  go_enter Try.func80, Try.ntmps80
  go_wp2
  go_ret
  exact ⟨rfl, rfl⟩
set_option maxRecDepth 100000 in
theorem unless_no (e : Int) (w : World) : Calls Try.prog 80 #[.bool false, .int .i64 e] w fun q w' => q = .returned (.int .i64 e) ∧ w = w' := by
  go_enter Try.func80, Try.ntmps80
  go_wp2
  go_ret
  exact ⟨rfl, rfl⟩
/-- Is v, at a field of that kind, not right, and why? -/
def wrongF (what v types : Int) : Int := if what = 1 then (if v = 239 then 0 else 51) else if what = 2 then (if v = 0 then 0 else 51) else if what = 3 then (if v = 1 then 0 else 52) else if what = 4 then (if v = 1 then 0 else 53) else if what = 5 then (if 0 < v ∧ v % 4 = 0 ∧ v ≤ 4096 then 0 else 54) else if what = 6 then (if v = 2 then 0 else 53) else if what = 7 then (if 4 * v = types then 0 else 55) else if what = 8 then (if 0 < v then 0 else 56) else if what = 9 then (if v = 3 ∨ v = 255 then 0 else 53) else if what = 10 then (if 0 < v ∧ v ≤ 256 then 0 else 57) else if what = 11 then (if 0 < v then 0 else 56) else if what = 12 then (if v = 255 then 0 else 53) else if what = 14 then (if v = 0 then 0 else 53) else 0

set_option maxRecDepth 100000 in
theorem wrong_1 (v types : Int) (w : World) (h0 : 0 ≤ v) (h1 : v ≤ 4294967295) : Calls Try.prog 78 #[.int .i64 1, .int .i64 v, .int .i64 types] w fun e w' => e = .returned (.int .i64 (wrongF 1 v types)) ∧ w = w' := by
  by_cases h : v = 239
  · have H : Hid ((0 : Int) = wrongF 1 v types) := Lib.hid (by simp [wrongF, h])
    have hq : ((v : Int) == 239) = true := by simp [h]
    clear h
    go_enter Try.func78, Try.ntmps78
    go_wp2_with (first | (go_at_call 80; (with_reducible refine (unless_yes _ _).mono ?_); rintro e w1 ⟨rfl, rfl⟩) | (go_at_call 80; (with_reducible refine (unless_no _ _).mono ?_); rintro e w1 ⟨rfl, rfl⟩))
    go_ret
    exact ⟨ret_int H.out, rfl⟩
  · have H : Hid ((51 : Int) = wrongF 1 v types) := Lib.hid (by simp [wrongF, h])
    have hq : ((v : Int) == 239) = false := by simp [h]
    clear h
    go_enter Try.func78, Try.ntmps78
    go_wp2_with (first | (go_at_call 80; (with_reducible refine (unless_yes _ _).mono ?_); rintro e w1 ⟨rfl, rfl⟩) | (go_at_call 80; (with_reducible refine (unless_no _ _).mono ?_); rintro e w1 ⟨rfl, rfl⟩))
    go_ret
    exact ⟨ret_int H.out, rfl⟩

set_option maxRecDepth 100000 in
theorem wrong_2 (v types : Int) (w : World) (h0 : 0 ≤ v) (h1 : v ≤ 4294967295) : Calls Try.prog 78 #[.int .i64 2, .int .i64 v, .int .i64 types] w fun e w' => e = .returned (.int .i64 (wrongF 2 v types)) ∧ w = w' := by
  by_cases h : v = 0
  · have H : Hid ((0 : Int) = wrongF 2 v types) := Lib.hid (by simp [wrongF, h])
    have hq : ((v : Int) == 0) = true := by simp [h]
    clear h
    go_enter Try.func78, Try.ntmps78
    go_wp2_with (first | (go_at_call 80; (with_reducible refine (unless_yes _ _).mono ?_); rintro e w1 ⟨rfl, rfl⟩) | (go_at_call 80; (with_reducible refine (unless_no _ _).mono ?_); rintro e w1 ⟨rfl, rfl⟩))
    go_ret
    exact ⟨ret_int H.out, rfl⟩
  · have H : Hid ((51 : Int) = wrongF 2 v types) := Lib.hid (by simp [wrongF, h])
    have hq : ((v : Int) == 0) = false := by simp [h]
    clear h
    go_enter Try.func78, Try.ntmps78
    go_wp2_with (first | (go_at_call 80; (with_reducible refine (unless_yes _ _).mono ?_); rintro e w1 ⟨rfl, rfl⟩) | (go_at_call 80; (with_reducible refine (unless_no _ _).mono ?_); rintro e w1 ⟨rfl, rfl⟩))
    go_ret
    exact ⟨ret_int H.out, rfl⟩

set_option maxRecDepth 100000 in
theorem wrong_3 (v types : Int) (w : World) (h0 : 0 ≤ v) (h1 : v ≤ 4294967295) : Calls Try.prog 78 #[.int .i64 3, .int .i64 v, .int .i64 types] w fun e w' => e = .returned (.int .i64 (wrongF 3 v types)) ∧ w = w' := by
  by_cases h : v = 1
  · have H : Hid ((0 : Int) = wrongF 3 v types) := Lib.hid (by simp [wrongF, h])
    have hq : ((v : Int) == 1) = true := by simp [h]
    clear h
    go_enter Try.func78, Try.ntmps78
    go_wp2_with (first | (go_at_call 80; (with_reducible refine (unless_yes _ _).mono ?_); rintro e w1 ⟨rfl, rfl⟩) | (go_at_call 80; (with_reducible refine (unless_no _ _).mono ?_); rintro e w1 ⟨rfl, rfl⟩))
    go_ret
    exact ⟨ret_int H.out, rfl⟩
  · have H : Hid ((52 : Int) = wrongF 3 v types) := Lib.hid (by simp [wrongF, h])
    have hq : ((v : Int) == 1) = false := by simp [h]
    clear h
    go_enter Try.func78, Try.ntmps78
    go_wp2_with (first | (go_at_call 80; (with_reducible refine (unless_yes _ _).mono ?_); rintro e w1 ⟨rfl, rfl⟩) | (go_at_call 80; (with_reducible refine (unless_no _ _).mono ?_); rintro e w1 ⟨rfl, rfl⟩))
    go_ret
    exact ⟨ret_int H.out, rfl⟩

set_option maxRecDepth 100000 in
theorem wrong_4 (v types : Int) (w : World) (h0 : 0 ≤ v) (h1 : v ≤ 4294967295) : Calls Try.prog 78 #[.int .i64 4, .int .i64 v, .int .i64 types] w fun e w' => e = .returned (.int .i64 (wrongF 4 v types)) ∧ w = w' := by
  by_cases h : v = 1
  · have H : Hid ((0 : Int) = wrongF 4 v types) := Lib.hid (by simp [wrongF, h])
    have hq : ((v : Int) == 1) = true := by simp [h]
    clear h
    go_enter Try.func78, Try.ntmps78
    go_wp2_with (first | (go_at_call 80; (with_reducible refine (unless_yes _ _).mono ?_); rintro e w1 ⟨rfl, rfl⟩) | (go_at_call 80; (with_reducible refine (unless_no _ _).mono ?_); rintro e w1 ⟨rfl, rfl⟩))
    go_ret
    exact ⟨ret_int H.out, rfl⟩
  · have H : Hid ((53 : Int) = wrongF 4 v types) := Lib.hid (by simp [wrongF, h])
    have hq : ((v : Int) == 1) = false := by simp [h]
    clear h
    go_enter Try.func78, Try.ntmps78
    go_wp2_with (first | (go_at_call 80; (with_reducible refine (unless_yes _ _).mono ?_); rintro e w1 ⟨rfl, rfl⟩) | (go_at_call 80; (with_reducible refine (unless_no _ _).mono ?_); rintro e w1 ⟨rfl, rfl⟩))
    go_ret
    exact ⟨ret_int H.out, rfl⟩

set_option maxRecDepth 100000 in
theorem wrong_5 (v types : Int) (w : World) (h0 : 0 ≤ v) (h1 : v ≤ 4294967295) : Calls Try.prog 78 #[.int .i64 5, .int .i64 v, .int .i64 types] w fun e w' => e = .returned (.int .i64 (wrongF 5 v types)) ∧ w = w' := by
  by_cases h : 0 < v
  · have hq : decide (0 < v) = true := by simp [h]
    by_cases h2 : v % 4 = 0
    · have q2 : Int.tmod v 4 = 0 := by rw [Int.tmod_eq_emod_of_nonneg h0]; exact h2
      by_cases h' : v ≤ 4096
      · have H : Hid ((0 : Int) = wrongF 5 v types) := Lib.hid (by simp only [wrongF]; simp [h, h2, h'])
        have hq' : decide (v ≤ 4096) = true := by simp [h']
        clear h2 h' h0 h1
        go_enter Try.func78, Try.ntmps78
        go_wp2_with (first | (go_at_call 80; (with_reducible refine (unless_yes _ _).mono ?_); rintro e w1 ⟨rfl, rfl⟩) | (go_at_call 80; (with_reducible refine (unless_no _ _).mono ?_); rintro e w1 ⟨rfl, rfl⟩))
        go_ret
        exact ⟨ret_int H.out, rfl⟩
      · have H : Hid ((54 : Int) = wrongF 5 v types) := Lib.hid (by simp only [wrongF]; simp [h, h2, h'])
        have hq' : decide (v ≤ 4096) = false := by simp; omega
        clear h2 h' h0 h1
        go_enter Try.func78, Try.ntmps78
        go_wp2_with (first | (go_at_call 80; (with_reducible refine (unless_yes _ _).mono ?_); rintro e w1 ⟨rfl, rfl⟩) | (go_at_call 80; (with_reducible refine (unless_no _ _).mono ?_); rintro e w1 ⟨rfl, rfl⟩))
        go_ret
        exact ⟨ret_int H.out, rfl⟩
    · have q2 : ¬ Int.tmod v 4 = 0 := by rw [Int.tmod_eq_emod_of_nonneg h0]; exact h2
      have q3 : (Int.tmod v 4 == 0) = false := by simp [q2]
      have H : Hid ((54 : Int) = wrongF 5 v types) := Lib.hid (by simp only [wrongF]; simp [h, h2])
      have q4 : (v % 4 == 0) = false := by simp [h2]
      clear h2 h0 h1
      go_enter Try.func78, Try.ntmps78
      go_wp2_with (first | (go_at_call 80; (with_reducible refine (unless_yes _ _).mono ?_); rintro e w1 ⟨rfl, rfl⟩) | (go_at_call 80; (with_reducible refine (unless_no _ _).mono ?_); rintro e w1 ⟨rfl, rfl⟩))
      go_ret
      exact ⟨ret_int H.out, rfl⟩
  · have H : Hid ((54 : Int) = wrongF 5 v types) := Lib.hid (by simp [wrongF, h])
    have hq : decide (0 < v) = false := by simp; omega
    go_enter Try.func78, Try.ntmps78
    go_wp2_with (first | (go_at_call 80; (with_reducible refine (unless_yes _ _).mono ?_); rintro e w1 ⟨rfl, rfl⟩) | (go_at_call 80; (with_reducible refine (unless_no _ _).mono ?_); rintro e w1 ⟨rfl, rfl⟩))
    go_ret
    exact ⟨ret_int H.out, rfl⟩

set_option maxRecDepth 100000 in
theorem wrong_6 (v types : Int) (w : World) (h0 : 0 ≤ v) (h1 : v ≤ 4294967295) : Calls Try.prog 78 #[.int .i64 6, .int .i64 v, .int .i64 types] w fun e w' => e = .returned (.int .i64 (wrongF 6 v types)) ∧ w = w' := by
  by_cases h : v = 2
  · have H : Hid ((0 : Int) = wrongF 6 v types) := Lib.hid (by simp [wrongF, h])
    have hq : ((v : Int) == 2) = true := by simp [h]
    clear h
    go_enter Try.func78, Try.ntmps78
    go_wp2_with (first | (go_at_call 80; (with_reducible refine (unless_yes _ _).mono ?_); rintro e w1 ⟨rfl, rfl⟩) | (go_at_call 80; (with_reducible refine (unless_no _ _).mono ?_); rintro e w1 ⟨rfl, rfl⟩))
    go_ret
    exact ⟨ret_int H.out, rfl⟩
  · have H : Hid ((53 : Int) = wrongF 6 v types) := Lib.hid (by simp [wrongF, h])
    have hq : ((v : Int) == 2) = false := by simp [h]
    clear h
    go_enter Try.func78, Try.ntmps78
    go_wp2_with (first | (go_at_call 80; (with_reducible refine (unless_yes _ _).mono ?_); rintro e w1 ⟨rfl, rfl⟩) | (go_at_call 80; (with_reducible refine (unless_no _ _).mono ?_); rintro e w1 ⟨rfl, rfl⟩))
    go_ret
    exact ⟨ret_int H.out, rfl⟩

set_option maxRecDepth 100000 in
theorem wrong_7 (v types : Int) (w : World) (h0 : 0 ≤ v) (h1 : v ≤ 4294967295) : Calls Try.prog 78 #[.int .i64 7, .int .i64 v, .int .i64 types] w fun e w' => e = .returned (.int .i64 (wrongF 7 v types)) ∧ w = w' := by
  have hw : IntKind.i64.wrap (4 * v) = 4 * v := IntWalk.i64_in _ (by omega)
  by_cases h : 4 * v = types
  · have H : Hid ((0 : Int) = wrongF 7 v types) := Lib.hid (by simp [wrongF, h])
    have hq : ((4 * v : Int) == types) = true := by simp [h]
    clear h
    go_enter Try.func78, Try.ntmps78
    go_wp2_with (first | (go_at_call 80; (with_reducible refine (unless_yes _ _).mono ?_); rintro e w1 ⟨rfl, rfl⟩) | (go_at_call 80; (with_reducible refine (unless_no _ _).mono ?_); rintro e w1 ⟨rfl, rfl⟩))
    go_ret
    exact ⟨ret_int H.out, rfl⟩
  · have H : Hid ((55 : Int) = wrongF 7 v types) := Lib.hid (by simp [wrongF, h])
    have hq : ((4 * v : Int) == types) = false := by simp [h]
    clear h
    go_enter Try.func78, Try.ntmps78
    go_wp2_with (first | (go_at_call 80; (with_reducible refine (unless_yes _ _).mono ?_); rintro e w1 ⟨rfl, rfl⟩) | (go_at_call 80; (with_reducible refine (unless_no _ _).mono ?_); rintro e w1 ⟨rfl, rfl⟩))
    go_ret
    exact ⟨ret_int H.out, rfl⟩

set_option maxRecDepth 100000 in
theorem wrong_8 (v types : Int) (w : World) (h0 : 0 ≤ v) (h1 : v ≤ 4294967295) : Calls Try.prog 78 #[.int .i64 8, .int .i64 v, .int .i64 types] w fun e w' => e = .returned (.int .i64 (wrongF 8 v types)) ∧ w = w' := by
  by_cases h : 0 < v
  · have H : Hid ((0 : Int) = wrongF 8 v types) := Lib.hid (by simp [wrongF, h])
    have hq : decide (0 < v) = true := by simp [h]
    go_enter Try.func78, Try.ntmps78
    go_wp2_with (first | (go_at_call 80; (with_reducible refine (unless_yes _ _).mono ?_); rintro e w1 ⟨rfl, rfl⟩) | (go_at_call 80; (with_reducible refine (unless_no _ _).mono ?_); rintro e w1 ⟨rfl, rfl⟩))
    go_ret
    exact ⟨ret_int H.out, rfl⟩
  · have H : Hid ((56 : Int) = wrongF 8 v types) := Lib.hid (by simp [wrongF, h])
    have hq : decide (0 < v) = false := by simp; omega
    go_enter Try.func78, Try.ntmps78
    go_wp2_with (first | (go_at_call 80; (with_reducible refine (unless_yes _ _).mono ?_); rintro e w1 ⟨rfl, rfl⟩) | (go_at_call 80; (with_reducible refine (unless_no _ _).mono ?_); rintro e w1 ⟨rfl, rfl⟩))
    go_ret
    exact ⟨ret_int H.out, rfl⟩

set_option maxRecDepth 100000 in
theorem wrong_9 (v types : Int) (w : World) (h0 : 0 ≤ v) (h1 : v ≤ 4294967295) : Calls Try.prog 78 #[.int .i64 9, .int .i64 v, .int .i64 types] w fun e w' => e = .returned (.int .i64 (wrongF 9 v types)) ∧ w = w' := by
  by_cases h : v = 3
  · subst h
    have H : Hid ((0 : Int) = wrongF 9 3 types) := Lib.hid (by simp [wrongF])
    go_enter Try.func78, Try.ntmps78
    go_wp2_with (first | (go_at_call 80; (with_reducible refine (unless_yes _ _).mono ?_); rintro e w1 ⟨rfl, rfl⟩) | (go_at_call 80; (with_reducible refine (unless_no _ _).mono ?_); rintro e w1 ⟨rfl, rfl⟩))
    go_ret
    exact ⟨ret_int H.out, rfl⟩
  by_cases h' : v = 255
  · subst h'
    have H : Hid ((0 : Int) = wrongF 9 255 types) := Lib.hid (by simp [wrongF])
    go_enter Try.func78, Try.ntmps78
    go_wp2_with (first | (go_at_call 80; (with_reducible refine (unless_yes _ _).mono ?_); rintro e w1 ⟨rfl, rfl⟩) | (go_at_call 80; (with_reducible refine (unless_no _ _).mono ?_); rintro e w1 ⟨rfl, rfl⟩))
    go_ret
    exact ⟨ret_int H.out, rfl⟩
  · have H : Hid ((53 : Int) = wrongF 9 v types) := Lib.hid (by simp [wrongF, h, h'])
    have hq : ((v : Int) == 3) = false := by simp [h]
    have hq' : ((v : Int) == 255) = false := by simp [h']
    clear h h'
    go_enter Try.func78, Try.ntmps78
    go_wp2_with (first | (go_at_call 80; (with_reducible refine (unless_yes _ _).mono ?_); rintro e w1 ⟨rfl, rfl⟩) | (go_at_call 80; (with_reducible refine (unless_no _ _).mono ?_); rintro e w1 ⟨rfl, rfl⟩))
    go_ret
    exact ⟨ret_int H.out, rfl⟩

set_option maxRecDepth 100000 in
theorem wrong_10 (v types : Int) (w : World) (h0 : 0 ≤ v) (h1 : v ≤ 4294967295) : Calls Try.prog 78 #[.int .i64 10, .int .i64 v, .int .i64 types] w fun e w' => e = .returned (.int .i64 (wrongF 10 v types)) ∧ w = w' := by
  by_cases h : 0 < v
  · have hq : decide (0 < v) = true := by simp [h]
    by_cases h' : v ≤ 256
    · have H : Hid ((0 : Int) = wrongF 10 v types) := Lib.hid (by simp [wrongF, h, h'])
      have hq' : decide (v ≤ 256) = true := by simp [h']
      go_enter Try.func78, Try.ntmps78
      go_wp2_with (first | (go_at_call 80; (with_reducible refine (unless_yes _ _).mono ?_); rintro e w1 ⟨rfl, rfl⟩) | (go_at_call 80; (with_reducible refine (unless_no _ _).mono ?_); rintro e w1 ⟨rfl, rfl⟩))
      go_ret
      exact ⟨ret_int H.out, rfl⟩
    · have H : Hid ((57 : Int) = wrongF 10 v types) := Lib.hid (by simp [wrongF, h, h'])
      have hq' : decide (v ≤ 256) = false := by simp; omega
      clear h'
      go_enter Try.func78, Try.ntmps78
      go_wp2_with (first | (go_at_call 80; (with_reducible refine (unless_yes _ _).mono ?_); rintro e w1 ⟨rfl, rfl⟩) | (go_at_call 80; (with_reducible refine (unless_no _ _).mono ?_); rintro e w1 ⟨rfl, rfl⟩))
      go_ret
      exact ⟨ret_int H.out, rfl⟩
  · have H : Hid ((57 : Int) = wrongF 10 v types) := Lib.hid (by simp [wrongF, h])
    have hq : decide (0 < v) = false := by simp; omega
    go_enter Try.func78, Try.ntmps78
    go_wp2_with (first | (go_at_call 80; (with_reducible refine (unless_yes _ _).mono ?_); rintro e w1 ⟨rfl, rfl⟩) | (go_at_call 80; (with_reducible refine (unless_no _ _).mono ?_); rintro e w1 ⟨rfl, rfl⟩))
    go_ret
    exact ⟨ret_int H.out, rfl⟩

set_option maxRecDepth 100000 in
theorem wrong_11 (v types : Int) (w : World) (h0 : 0 ≤ v) (h1 : v ≤ 4294967295) : Calls Try.prog 78 #[.int .i64 11, .int .i64 v, .int .i64 types] w fun e w' => e = .returned (.int .i64 (wrongF 11 v types)) ∧ w = w' := by
  by_cases h : 0 < v
  · have H : Hid ((0 : Int) = wrongF 11 v types) := Lib.hid (by simp [wrongF, h])
    have hq : decide (0 < v) = true := by simp [h]
    go_enter Try.func78, Try.ntmps78
    go_wp2_with (first | (go_at_call 80; (with_reducible refine (unless_yes _ _).mono ?_); rintro e w1 ⟨rfl, rfl⟩) | (go_at_call 80; (with_reducible refine (unless_no _ _).mono ?_); rintro e w1 ⟨rfl, rfl⟩))
    go_ret
    exact ⟨ret_int H.out, rfl⟩
  · have H : Hid ((56 : Int) = wrongF 11 v types) := Lib.hid (by simp [wrongF, h])
    have hq : decide (0 < v) = false := by simp; omega
    go_enter Try.func78, Try.ntmps78
    go_wp2_with (first | (go_at_call 80; (with_reducible refine (unless_yes _ _).mono ?_); rintro e w1 ⟨rfl, rfl⟩) | (go_at_call 80; (with_reducible refine (unless_no _ _).mono ?_); rintro e w1 ⟨rfl, rfl⟩))
    go_ret
    exact ⟨ret_int H.out, rfl⟩

set_option maxRecDepth 100000 in
theorem wrong_12 (v types : Int) (w : World) (h0 : 0 ≤ v) (h1 : v ≤ 4294967295) : Calls Try.prog 78 #[.int .i64 12, .int .i64 v, .int .i64 types] w fun e w' => e = .returned (.int .i64 (wrongF 12 v types)) ∧ w = w' := by
  by_cases h : v = 255
  · have H : Hid ((0 : Int) = wrongF 12 v types) := Lib.hid (by simp [wrongF, h])
    have hq : ((v : Int) == 255) = true := by simp [h]
    clear h
    go_enter Try.func78, Try.ntmps78
    go_wp2_with (first | (go_at_call 80; (with_reducible refine (unless_yes _ _).mono ?_); rintro e w1 ⟨rfl, rfl⟩) | (go_at_call 80; (with_reducible refine (unless_no _ _).mono ?_); rintro e w1 ⟨rfl, rfl⟩))
    go_ret
    exact ⟨ret_int H.out, rfl⟩
  · have H : Hid ((53 : Int) = wrongF 12 v types) := Lib.hid (by simp [wrongF, h])
    have hq : ((v : Int) == 255) = false := by simp [h]
    clear h
    go_enter Try.func78, Try.ntmps78
    go_wp2_with (first | (go_at_call 80; (with_reducible refine (unless_yes _ _).mono ?_); rintro e w1 ⟨rfl, rfl⟩) | (go_at_call 80; (with_reducible refine (unless_no _ _).mono ?_); rintro e w1 ⟨rfl, rfl⟩))
    go_ret
    exact ⟨ret_int H.out, rfl⟩

set_option maxRecDepth 100000 in
theorem wrong_14 (v types : Int) (w : World) (h0 : 0 ≤ v) (h1 : v ≤ 4294967295) : Calls Try.prog 78 #[.int .i64 14, .int .i64 v, .int .i64 types] w fun e w' => e = .returned (.int .i64 (wrongF 14 v types)) ∧ w = w' := by
  by_cases h : v = 0
  · have H : Hid ((0 : Int) = wrongF 14 v types) := Lib.hid (by simp [wrongF, h])
    have hq : ((v : Int) == 0) = true := by simp [h]
    clear h
    go_enter Try.func78, Try.ntmps78
    go_wp2_with (first | (go_at_call 80; (with_reducible refine (unless_yes _ _).mono ?_); rintro e w1 ⟨rfl, rfl⟩) | (go_at_call 80; (with_reducible refine (unless_no _ _).mono ?_); rintro e w1 ⟨rfl, rfl⟩))
    go_ret
    exact ⟨ret_int H.out, rfl⟩
  · have H : Hid ((53 : Int) = wrongF 14 v types) := Lib.hid (by simp [wrongF, h])
    have hq : ((v : Int) == 0) = false := by simp [h]
    clear h
    go_enter Try.func78, Try.ntmps78
    go_wp2_with (first | (go_at_call 80; (with_reducible refine (unless_yes _ _).mono ?_); rintro e w1 ⟨rfl, rfl⟩) | (go_at_call 80; (with_reducible refine (unless_no _ _).mono ?_); rintro e w1 ⟨rfl, rfl⟩))
    go_ret
    exact ⟨ret_int H.out, rfl⟩

set_option maxRecDepth 100000 in
theorem wrong_13 (v types : Int) (w : World) : Calls Try.prog 78 #[.int .i64 13, .int .i64 v, .int .i64 types] w fun e w' => e = .returned (.int .i64 (wrongF 13 v types)) ∧ w = w' := by
  go_enter Try.func78, Try.ntmps78
  go_wp2
  go_ret
  exact ⟨rfl, rfl⟩
theorem sum_take (l : List Int) (k : Nat) (h : k < l.length) : (l.take (k + 1)).sum = (l.take k).sum + l.getD k 0 := by rw [take_snoc' l k 0 h]; simp
set_option maxRecDepth 100000 in
theorem sum_any (A : Option Addr) (c n : Nat) (l : List Int) (w : World) (h : NumsR w .i64 A l) (hn : l.length = n) (hp : ∀ x ∈ l, 1 ≤ x) (hs : l.sum ≤ 1099511627776) :
    Calls Try.prog 64 #[.slice A n c] w fun e w' => e = .returned (.int .i64 l.sum) ∧ w = w' := by
  have hmx : n ≤ 140737488351232 := by have := h.1; unfold reach at *; omega
  have HN := Lib.hid hn; clear hn
  have HP := Lib.hid hp; clear hp
  have HS := Lib.hid hs; clear hs
  have HH := Lib.hid h; clear h
  go_enter Try.func64, Try.ntmps64
  go_wp2
  go_loop [3, 4] (fun v i => ∃ (k : Nat) (x : Int), k ≤ n ∧ i = .int .i64 k ∧ v = .int .i64 x ∧ Hid (x = (l.take k).sum)) (fun _ i => n - (intOf i).toNat)
  case atStart => exact ⟨0, 0, Nat.zero_le _, rfl, rfl, Lib.hid (by simp)⟩
  case round =>
    obtain ⟨k, x, hk, rfl, rfl, hx⟩ := hrel
    by_cases hlt : k < n
    · have hk2 : k < l.length := by have := HN.out; omega
      obtain ⟨b1, o1, hA, hc⟩ := HH.out.2 (by omega)
      subst hA
      have hcell := hc k hk2
      clear hc
      have hs := sum_take l k hk2
      have h1 := sum_take_le l HP.out k
      have h2 := sum_take_le l HP.out (k + 1)
      have h3 := sum_nonneg (l.take k) fun y hy => HP.out y (List.mem_of_mem_take hy)
      obtain ⟨y, hy⟩ : ∃ y, y = l.getD k 0 := ⟨_, rfl⟩
      have hy1 : 1 ≤ y := by rw [hy]; exact HP.out _ (getD_mem l k hk2)
      rw [← hy] at hcell hs
      have hw : IntKind.i64.wrap (x + y) = x + y := IntWalk.i64_in _ (by have := hx.out; have := HS.out; omega)
      have HSS := Lib.hid hs
      clear hs h1 h2 h3 hy
      go_wp2
      go_round
      case rel => exact ⟨k + 1, x + y, by omega, by go_num, rfl, Lib.hid (by rw [HSS.out, hx.out])⟩
      case measure => simp [intOf]; omega
    · obtain rfl : k = n := by omega
      go_wp2
      go_ret
      have h5 := hx.out
      rw [List.take_of_length_le (by have := HN.out; omega)] at h5
      exact ⟨ret_int h5, rfl⟩
end Go.Proofs.Ytkbboepopcebaaa
