/- same: are two containers the same? -/
import Derived.Test.YtkbboepopcebaaaF
namespace Go.Proofs.Ytkbboepopcebaaa
open Go.RowKit

def boxed (w : World) (va vb : Array Value) : World := (w.alloc (.cells va 28)).alloc (.cells vb 28)
theorem below_boxed (w : World) (va vb : Array Value) : Below w.heap.size w ((w.alloc (.cells va 28)).alloc (.cells vb 28)) := below_step (below_alloc _ _) (below_alloc _ _)

section
variable (A0 A1 A2 A3 B0 B1 B2 B3 : Option Addr) (n0 n1 n2 n3 m0 m1 m2 m3 c0 c1 c2 c3 d0 d1 d2 d3 : Nat) (sa sb : Int) (w : World)

set_option maxRecDepth 100000 in
theorem same_len (hl : ¬ (n0 : Int) = (m0 : Int)) :
    Calls Try.prog 20 #[.agg #[.slice A0 n0 c0, .slice A1 n1 c1, .slice A2 n2 c2, .slice A3 n3 c3, .int .i64 sa], .agg #[.slice B0 m0 d0, .slice B1 m1 d1, .slice B2 m2 d2, .slice B3 m3 d3, .int .i64 sb]] w fun e w' => e = .returned (.bool false) ∧ Below w.heap.size w w' := by
  go_enter Try.func20, Try.ntmps20
  go_wp2
  go_ret
  exact ⟨rfl, by first | exact below_boxed _ _ _ | (repeat (first | exact below_boxed _ _ _ | apply below_drewN))⟩

set_option maxRecDepth 100000 in
theorem same_size (hl : (n0 : Int) = (m0 : Int)) (hs : ¬ sa = sb) :
    Calls Try.prog 20 #[.agg #[.slice A0 n0 c0, .slice A1 n1 c1, .slice A2 n2 c2, .slice A3 n3 c3, .int .i64 sa], .agg #[.slice B0 m0 d0, .slice B1 m1 d1, .slice B2 m2 d2, .slice B3 m3 d3, .int .i64 sb]] w fun e w' => e = .returned (.bool false) ∧ Below w.heap.size w w' := by
  obtain rfl : n0 = m0 := by omega
  clear hl
  go_enter Try.func20, Try.ntmps20
  go_wp2
  go_ret
  exact ⟨rfl, by first | exact below_boxed _ _ _ | (repeat (first | exact below_boxed _ _ _ | apply below_drewN))⟩

set_option maxRecDepth 100000 in
theorem same_codes (hl : (n0 : Int) = (m0 : Int)) (hs : sa = sb) (h1 : Calls Try.prog 48 #[.slice A1 n1 c1, .slice B1 m1 d1] ((w.alloc (.cells #[.slice A0 n0 c0, .slice A1 n1 c1, .slice A2 n2 c2, .slice A3 n3 c3, .int .i64 sa] 28)).alloc (.cells #[.slice B0 m0 d0, .slice B1 m1 d1, .slice B2 m2 d2, .slice B3 m3 d3, .int .i64 sb] 28)) fun e w' => e = .returned (.bool false) ∧ ∃ k, w' = ((w.alloc (.cells #[.slice A0 n0 c0, .slice A1 n1 c1, .slice A2 n2 c2, .slice A3 n3 c3, .int .i64 sa] 28)).alloc (.cells #[.slice B0 m0 d0, .slice B1 m1 d1, .slice B2 m2 d2, .slice B3 m3 d3, .int .i64 sb] 28)).drewN k) :
    Calls Try.prog 20 #[.agg #[.slice A0 n0 c0, .slice A1 n1 c1, .slice A2 n2 c2, .slice A3 n3 c3, .int .i64 sa], .agg #[.slice B0 m0 d0, .slice B1 m1 d1, .slice B2 m2 d2, .slice B3 m3 d3, .int .i64 sb]] w fun e w' => e = .returned (.bool false) ∧ Below w.heap.size w w' := by
  have H1 := Lib.hid h1; clear h1
  obtain rfl : n0 = m0 := by omega
  clear hl
  subst hs
  go_enter Try.func20, Try.ntmps20
  go_wp2_with fail
  refine (H1.out).mono ?_
  rintro e w1 ⟨rfl, k1, rfl⟩
  go_wp2
  go_ret
  exact ⟨rfl, by first | exact below_boxed _ _ _ | (repeat (first | exact below_boxed _ _ _ | apply below_drewN))⟩

set_option maxRecDepth 100000 in
theorem same_subs (hl : (n0 : Int) = (m0 : Int)) (hs : sa = sb) (h1 : Calls Try.prog 48 #[.slice A1 n1 c1, .slice B1 m1 d1] ((w.alloc (.cells #[.slice A0 n0 c0, .slice A1 n1 c1, .slice A2 n2 c2, .slice A3 n3 c3, .int .i64 sa] 28)).alloc (.cells #[.slice B0 m0 d0, .slice B1 m1 d1, .slice B2 m2 d2, .slice B3 m3 d3, .int .i64 sb] 28)) fun e w' => e = .returned (.bool true) ∧ ∃ k, w' = ((w.alloc (.cells #[.slice A0 n0 c0, .slice A1 n1 c1, .slice A2 n2 c2, .slice A3 n3 c3, .int .i64 sa] 28)).alloc (.cells #[.slice B0 m0 d0, .slice B1 m1 d1, .slice B2 m2 d2, .slice B3 m3 d3, .int .i64 sb] 28)).drewN k) (h2 : ∀ n, Calls Try.prog 48 #[.slice A2 n2 c2, .slice B2 m2 d2] (((w.alloc (.cells #[.slice A0 n0 c0, .slice A1 n1 c1, .slice A2 n2 c2, .slice A3 n3 c3, .int .i64 sa] 28)).alloc (.cells #[.slice B0 m0 d0, .slice B1 m1 d1, .slice B2 m2 d2, .slice B3 m3 d3, .int .i64 sb] 28)).drewN n) fun e w' => e = .returned (.bool false) ∧ ∃ k, w' = (((w.alloc (.cells #[.slice A0 n0 c0, .slice A1 n1 c1, .slice A2 n2 c2, .slice A3 n3 c3, .int .i64 sa] 28)).alloc (.cells #[.slice B0 m0 d0, .slice B1 m1 d1, .slice B2 m2 d2, .slice B3 m3 d3, .int .i64 sb] 28)).drewN n).drewN k) :
    Calls Try.prog 20 #[.agg #[.slice A0 n0 c0, .slice A1 n1 c1, .slice A2 n2 c2, .slice A3 n3 c3, .int .i64 sa], .agg #[.slice B0 m0 d0, .slice B1 m1 d1, .slice B2 m2 d2, .slice B3 m3 d3, .int .i64 sb]] w fun e w' => e = .returned (.bool false) ∧ Below w.heap.size w w' := by
  have H1 := Lib.hid h1; clear h1
  have H2 := Lib.hid h2; clear h2
  obtain rfl : n0 = m0 := by omega
  clear hl
  subst hs
  go_enter Try.func20, Try.ntmps20
  go_wp2_with fail
  refine (H1.out).mono ?_
  rintro e w1 ⟨rfl, k1, rfl⟩
  go_wp2_with fail
  refine (H2.out _).mono ?_
  rintro e w2 ⟨rfl, k2, rfl⟩
  go_wp2
  go_ret
  exact ⟨rfl, by first | exact below_boxed _ _ _ | (repeat (first | exact below_boxed _ _ _ | apply below_drewN))⟩

set_option maxRecDepth 100000 in
theorem same_data (hl : (n0 : Int) = (m0 : Int)) (hs : sa = sb) (h1 : Calls Try.prog 48 #[.slice A1 n1 c1, .slice B1 m1 d1] ((w.alloc (.cells #[.slice A0 n0 c0, .slice A1 n1 c1, .slice A2 n2 c2, .slice A3 n3 c3, .int .i64 sa] 28)).alloc (.cells #[.slice B0 m0 d0, .slice B1 m1 d1, .slice B2 m2 d2, .slice B3 m3 d3, .int .i64 sb] 28)) fun e w' => e = .returned (.bool true) ∧ ∃ k, w' = ((w.alloc (.cells #[.slice A0 n0 c0, .slice A1 n1 c1, .slice A2 n2 c2, .slice A3 n3 c3, .int .i64 sa] 28)).alloc (.cells #[.slice B0 m0 d0, .slice B1 m1 d1, .slice B2 m2 d2, .slice B3 m3 d3, .int .i64 sb] 28)).drewN k) (h2 : ∀ n, Calls Try.prog 48 #[.slice A2 n2 c2, .slice B2 m2 d2] (((w.alloc (.cells #[.slice A0 n0 c0, .slice A1 n1 c1, .slice A2 n2 c2, .slice A3 n3 c3, .int .i64 sa] 28)).alloc (.cells #[.slice B0 m0 d0, .slice B1 m1 d1, .slice B2 m2 d2, .slice B3 m3 d3, .int .i64 sb] 28)).drewN n) fun e w' => e = .returned (.bool true) ∧ ∃ k, w' = (((w.alloc (.cells #[.slice A0 n0 c0, .slice A1 n1 c1, .slice A2 n2 c2, .slice A3 n3 c3, .int .i64 sa] 28)).alloc (.cells #[.slice B0 m0 d0, .slice B1 m1 d1, .slice B2 m2 d2, .slice B3 m3 d3, .int .i64 sb] 28)).drewN n).drewN k) (h3 : ∀ n, Calls Try.prog 27 #[.slice A3 n3 c3, .slice B3 m3 d3] (((w.alloc (.cells #[.slice A0 n0 c0, .slice A1 n1 c1, .slice A2 n2 c2, .slice A3 n3 c3, .int .i64 sa] 28)).alloc (.cells #[.slice B0 m0 d0, .slice B1 m1 d1, .slice B2 m2 d2, .slice B3 m3 d3, .int .i64 sb] 28)).drewN n) fun e w' => e = .returned (.bool false) ∧ ∃ k, w' = (((w.alloc (.cells #[.slice A0 n0 c0, .slice A1 n1 c1, .slice A2 n2 c2, .slice A3 n3 c3, .int .i64 sa] 28)).alloc (.cells #[.slice B0 m0 d0, .slice B1 m1 d1, .slice B2 m2 d2, .slice B3 m3 d3, .int .i64 sb] 28)).drewN n).drewN k) :
    Calls Try.prog 20 #[.agg #[.slice A0 n0 c0, .slice A1 n1 c1, .slice A2 n2 c2, .slice A3 n3 c3, .int .i64 sa], .agg #[.slice B0 m0 d0, .slice B1 m1 d1, .slice B2 m2 d2, .slice B3 m3 d3, .int .i64 sb]] w fun e w' => e = .returned (.bool false) ∧ Below w.heap.size w w' := by
  have H1 := Lib.hid h1; clear h1
  have H2 := Lib.hid h2; clear h2
  have H3 := Lib.hid h3; clear h3
  obtain rfl : n0 = m0 := by omega
  clear hl
  subst hs
  go_enter Try.func20, Try.ntmps20
  go_wp2_with fail
  refine (H1.out).mono ?_
  rintro e w1 ⟨rfl, k1, rfl⟩
  go_wp2_with fail
  refine (H2.out _).mono ?_
  rintro e w2 ⟨rfl, k2, rfl⟩
  go_wp2_with fail
  refine (H3.out _).mono ?_
  rintro e w3 ⟨rfl, k3, rfl⟩
  go_wp2
  go_ret
  exact ⟨rfl, by first | exact below_boxed _ _ _ | (repeat (first | exact below_boxed _ _ _ | apply below_drewN))⟩

end
end Go.Proofs.Ytkbboepopcebaaa
