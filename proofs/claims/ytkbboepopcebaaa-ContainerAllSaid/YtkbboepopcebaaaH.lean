/- same: are two containers the same? -/
import Derived.Test.YtkbboepopcebaaaF
namespace Go.Proofs.Ytkbboepopcebaaa
open Go.RowKit

def boxed (w : World) (va vb : Array Value) : World := (w.alloc (.cells va 28)).alloc (.cells vb 28)
theorem below_boxed (w : World) (va vb : Array Value) : Below w.heap.size w ((w.alloc (.cells va 28)).alloc (.cells vb 28)) := below_step (below_alloc _ _) (below_alloc _ _)

section
variable (A0 A1 A2 A3 B0 B1 B2 B3 : Option Addr) (n0 n1 n2 n3 m0 m1 m2 m3 c0 c1 c2 c3 d0 d1 d2 d3 : Nat) (sa sb : Int) (w : World)

set_option maxRecDepth 100000 in
theorem same_len (hl : ¬ (n0 : Int) = (m0 : Int)) :
    Calls Try.prog 20 #[.agg #[.slice A0 n0 c0, .slice A1 n1 c1, .slice A2 n2 c2, .slice A3 n3 c3, .int .i64 sa], .agg #[.slice B0 m0 d0, .slice B1 m1 d1, .slice B2 m2 d2, .slice B3 m3 d3, .int .i64 sb]] w fun e w' => e = .returned (.bool false) ∧ Below w.heap.size w w' := by
  go_enter Try.func20, Try.ntmps20
  go_wp2
  go_ret
  exact ⟨rfl, by first | exact below_boxed _ _ _ | (repeat (first | exact below_boxed _ _ _ | apply below_drewN))⟩

set_option maxRecDepth 100000 in
theorem same_size (hl : (n0 : Int) = (m0 : Int)) (hs : ¬ sa = sb) :
    Calls Try.prog 20 #[.agg #[.slice A0 n0 c0, .slice A1 n1 c1, .slice A2 n2 c2, .slice A3 n3 c3, .int .i64 sa], .agg #[.slice B0 m0 d0, .slice B1 m1 d1, .slice B2 m2 d2, .slice B3 m3 d3, .int .i64 sb]] w fun e w' => e = .returned (.bool false) ∧ Below w.heap.size w w' := by
  obtain rfl : n0 = m0 := by omega
  clear hl
  go_enter Try.func20, Try.ntmps20
  go_wp2
  go_ret
  exact ⟨rfl, by first | exact below_boxed _ _ _ | (repeat (first | exact below_boxed _ _ _ | apply below_drewN))⟩

set_option maxRecDepth 100000 in
theorem same_codes (hl : (n0 : Int) = (m0 : Int)) (hs : sa = sb) (h1 : Calls Try.prog 48 #[.slice A1 n1 c1, .slice B1 m1 d1] ((w.alloc (.cells #[.slice A0 n0 c0, .slice A1 n1 c1, .slice A2 n2 c2, .slice A3 n3 c3, .int .i64 sa] 28)).alloc (.cells #[.slice B0 m0 d0, .slice B1 m1 d1, .slice B2 m2 d2, .slice B3 m3 d3, .int .i64 sb] 28)) fun e w' => e = .returned (.bool false) ∧ ∃ k, w' = ((w.alloc (.cells #[.slice A0 n0 c0, .slice A1 n1 c1, .slice A2 n2 c2, .slice A3 n3 c3, .int .i64 sa] 28)).alloc (.cells #[.slice B0 m0 d0, .slice B1 m1 d1, .slice B2 m2 d2, .slice B3 m3 d3, .int .i64 sb] 28)).drewN k) :
    Calls Try.prog 20 #[.agg #[.slice A0 n0 c0, .slice A1 n1 c1, .slice A2 n2 c2, .slice A3 n3 c3, .int .i64 sa], .agg #[.slice B0 m0 d0, .slice B1 m1 d1, .slice B2 m2 d2, .slice B3 m3 d3, .int .i64 sb]] w fun e w' => e = .returned (.bool false) ∧ Below w.heap.size w w' := by
  have H1 := Lib.hid h1; clear h1
  obtain rfl : n0 = m0 := by omega
  clear hl
  subst hs
  go_enter Try.func20, Try.ntmps20
  go_wp2_with fail
  refine (H1.out).mono ?_
  rintro e w1 ⟨rfl, k1, rfl⟩
  go_wp2
  go_ret
  exact ⟨rfl, by first | exact below_boxed _ _ _ | (repeat (first | exact below_boxed _ _ _ | apply below_drewN))⟩

set_option maxRecDepth 100000 in
theorem same_subs (hl : (n0 : Int) = (m0 : Int)) (hs : sa = sb) (h1 : Calls Try.prog 48 #[.slice A1 n1 c1, .slice B1 m1 d1] ((w.alloc (.cells #[.slice A0 n0 c0, .slice A1 n1 c1, .slice A2 n2 c2, .slice A3 n3 c3, .int .i64 sa] 28)).alloc (.cells #[.slice B0 m0 d0, .slice B1 m1 d1, .slice B2 m2 d2, .slice B3 m3 d3, .int .i64 sb] 28)) fun e w' => e = .returned (.bool true) ∧ ∃ k, w' = ((w.alloc (.cells #[.slice A0 n0 c0, .slice A1 n1 c1, .slice A2 n2 c2, .slice A3 n3 c3, .int .i64 sa] 28)).alloc (.cells #[.slice B0 m0 d0, .slice B1 m1 d1, .slice B2 m2 d2, .slice B3 m3 d3, .int .i64 sb] 28)).drewN k) (h2 : ∀ n, Calls Try.prog 48 #[.slice A2 n2 c2, .slice B2 m2 d2] (((w.alloc (.cells #[.slice A0 n0 c0, .slice A1 n1 c1, .slice A2 n2 c2, .slice A3 n3 c3, .int .i64 sa] 28)).alloc (.cells #[.slice B0 m0 d0, .slice B1 m1 d1, .slice B2 m2 d2, .slice B3 m3 d3, .int .i64 sb] 28)).drewN n) fun e w' => e = .returned (.bool false) ∧ ∃ k, w' = (((w.alloc (.cells #[.slice A0 n0 c0, .slice A1 n1 c1, .slice A2 n2 c2, .slice A3 n3 c3, .int .i64 sa] 28)).alloc (.cells #[.slice B0 m0 d0, .slice B1 m1 d1, .slice B2 m2 d2, .slice B3 m3 d3, .int .i64 sb] 28)).drewN n).drewN k) :
    Calls Try.prog 20 #[.agg #[.slice A0 n0 c0, .slice A1 n1 c1, .slice A2 n2 c2, .slice A3 n3 c3, .int .i64 sa], .agg #[.slice B0 m0 d0, .slice B1 m1 d1, .slice B2 m2 d2, .slice B3 m3 d3, .int .i64 sb]] w fun e w' => e = .returned (.bool false) ∧ Below w.heap.size w w' := by
  have H1 := Lib.hid h1; clear h1
  have H2 := Lib.hid h2; clear h2
  obtain rfl : n0 = m0 := by omega
  clear hl
  subst hs
  go_enter Try.func20, Try.ntmps20
  go_wp2_with fail
  refine (H1.out).mono ?_
  rintro e w1 ⟨rfl, k1, rfl⟩
  go_wp2_with fail
  refine (H2.out _).mono ?_
  rintro e w2 ⟨rfl, k2, rfl⟩
  go_wp2
  go_ret
  exact ⟨rfl, by first | exact below_boxed _ _ _ | (repeat (first | exact below_boxed _ _ _ | apply below_drewN))⟩

set_option maxRecDepth 100000 in
theorem same_data (hl : (n0 : Int) = (m0 : Int)) (hs : sa = sb) (h1 : Calls Try.prog 48 #[.slice A1 n1 c1, .slice B1 m1 d1] ((w.alloc (.cells #[.slice A0 n0 c0, .slice A1 n1 c1, .slice A2 n2 c2, .slice A3 n3 c3, .int .i64 sa] 28)).alloc (.cells #[.slice B0 m0 d0, .slice B1 m1 d1, .slice B2 m2 d2, .slice B3 m3 d3, .int .i64 sb] 28)) fun e w' => e = .returned (.bool true) ∧ ∃ k, w' = ((w.alloc (.cells #[.slice A0 n0 c0, .slice A1 n1 c1, .slice A2 n2 c2, .slice A3 n3 c3, .int .i64 sa] 28)).alloc (.cells #[.slice B0 m0 d0, .slice B1 m1 d1, .slice B2 m2 d2, .slice B3 m3 d3, .int .i64 sb] 28)).drewN k) (h2 : ∀ n, Calls Try.prog 48 #[.slice A2 n2 c2, .slice B2 m2 d2] (((w.alloc (.cells #[.slice A0 n0 c0, .slice A1 n1 c1, .slice A2 n2 c2, .slice A3 n3 c3, .int .i64 sa] 28)).alloc (.cells #[.slice B0 m0 d0, .slice B1 m1 d1, .slice B2 m2 d2, .slice B3 m3 d3, .int .i64 sb] 28)).drewN n) fun e w' => e = .returned (.bool true) ∧ ∃ k, w' = (((w.alloc (.cells #[.slice A0 n0 c0, .slice A1 n1 c1, .slice A2 n2 c2, .slice A3 n3 c3, .int .i64 sa] 28)).alloc (.cells #[.slice B0 m0 d0, .slice B1 m1 d1, .slice B2 m2 d2, .slice B3 m3 d3, .int .i64 sb] 28)).drewN n).drewN k) (h3 : ∀ n, Calls Try.prog 27 #[.slice A3 n3 c3, .slice B3 m3 d3] (((w.alloc (.cells #[.slice A0 n0 c0, .slice A1 n1 c1, .slice A2 n2 c2, .slice A3 n3 c3, .int .i64 sa] 28)).alloc (.cells #[.slice B0 m0 d0, .slice B1 m1 d1, .slice B2 m2 d2, .slice B3 m3 d3, .int .i64 sb] 28)).drewN n) fun e w' => e = .returned (.bool false) ∧ ∃ k, w' = (((w.alloc (.cells #[.slice A0 n0 c0, .slice A1 n1 c1, .slice A2 n2 c2, .slice A3 n3 c3, .int .i64 sa] 28)).alloc (.cells #[.slice B0 m0 d0, .slice B1 m1 d1, .slice B2 m2 d2, .slice B3 m3 d3, .int .i64 sb] 28)).drewN n).drewN k) :
    Calls Try.prog 20 #[.agg #[.slice A0 n0 c0, .slice A1 n1 c1, .slice A2 n2 c2, .slice A3 n3 c3, .int .i64 sa], .agg #[.slice B0 m0 d0, .slice B1 m1 d1, .slice B2 m2 d2, .slice B3 m3 d3, .int .i64 sb]] w fun e w' => e = .returned (.bool false) ∧ Below w.heap.size w w' := by
  have H1 := Lib.hid h1; clear h1
  have H2 := Lib.hid h2; clear h2
  have H3 := Lib.hid h3; clear h3
  obtain rfl : n0 = m0 := by omega
  clear hl
  subst hs
  go_enter Try.func20, Try.ntmps20
  go_wp2_with fail
  refine (H1.out).mono ?_
  rintro e w1 ⟨rfl, k1, rfl⟩
  go_wp2_with fail
  refine (H2.out _).mono ?_
  rintro e w2 ⟨rfl, k2, rfl⟩
  go_wp2_with fail
  refine (H3.out _).mono ?_
  rintro e w3 ⟨rfl, k3, rfl⟩
  go_wp2
  go_ret
  exact ⟨rfl, by first | exact below_boxed _ _ _ | (repeat (first | exact below_boxed _ _ _ | apply below_drewN))⟩

end
end Go.Proofs.Ytkbboepopcebaaa
namespace Go.Proofs.Ytkbboepopcebaaa
open Go.RowKit

theorem eqt_step (la lb : List Ty) (h : la.length = lb.length) (k : Nat) (hk : k < la.length) (he : la.take k = lb.take k) : (la.take (k+1) = lb.take (k+1)) ↔ la.getD k ty0 = lb.getD k ty0 := by
  have hk2 : k < lb.length := by omega
  have e1 := List.take_succ_eq_append_getElem hk
  have e2 := List.take_succ_eq_append_getElem hk2
  rw [e1, e2, he, List.append_right_inj]
  simp [List.getD_eq_getElem?_getD, hk, hk2]

theorem run_neq_ty (x1 x2 x3 y1 y2 y3 : Int) (wx : World) : (binOp .neq 69 (.agg #[.int .i64 x1, .int .i64 x2, .int .i64 x3]) (.agg #[.int .i64 y1, .int .i64 y2, .int .i64 y3])).run Try.prog wx = .ok (.bool (!(x1 == y1 && (x2 == y2 && x3 == y3)))) wx := by
  by_cases h1 : x1 = y1
  · subst h1
    by_cases h2 : x2 = y2
    · subst h2
      by_cases h3 : x3 = y3
      · subst h3
        simp [go_sem]
      · simp [go_sem, h3]
    · simp [go_sem, h2]
  · simp [go_sem, h1]
theorem box_at (w : World) (va vb : Array Value) (m j : Nat) (v : Value) (h : va[j]? = some v) : (((w.alloc (.cells va 28)).alloc (.cells vb 28)).drewN m).cell? ⟨w.heap.size, j, none⟩ = some v := by
  have h1 : (w.alloc (.cells va 28)).cell? ⟨w.heap.size, j, none⟩ = some v := by
    rw [cell_of_row _ w.heap.size j va 28 (0, 0) (heap_alloc_new w _)]
    exact h
  have h2 := cell_keep (below_alloc _ (.cells vb 28)) h1
  exact cell_keep (below_drewN (Below.refl _ _) m) h2
theorem box_at2 (w : World) (va vb : Array Value) (m j : Nat) (v : Value) (h : vb[j]? = some v) : (((w.alloc (.cells va 28)).alloc (.cells vb 28)).drewN m).cell? ⟨w.heap.size + 1, j, none⟩ = some v := by
  have e : w.heap.size + 1 = (w.alloc (.cells va 28)).heap.size := by simp
  have h1 : ((w.alloc (.cells va 28)).alloc (.cells vb 28)).cell? ⟨w.heap.size + 1, j, none⟩ = some v := by
    rw [e, cell_of_row _ _ j vb 28 (0, 0) (heap_alloc_new _ _)]
    exact h
  exact cell_keep (below_drewN (Below.refl _ _) m) h1

set_option maxRecDepth 100000 in
theorem same_loop (A0 A1 A2 A3 B0 B1 B2 B3 : Option Addr) (n0 n1 n2 n3 m1 m2 m3 c0 c1 c2 c3 d0 d1 d2 d3 : Nat) (sa : Int) (w : World) (ta tb : List Ty) (hn0 : n0 ≤ reach)
  (hla : ta.length = n0) (hlb : tb.length = n0) (ha : CellsR w A0 (tysOf ta)) (hb : CellsR w B0 (tysOf tb))
  (h1 : Calls Try.prog 48 #[.slice A1 n1 c1, .slice B1 m1 d1] ((w.alloc (.cells #[.slice A0 n0 c0, .slice A1 n1 c1, .slice A2 n2 c2, .slice A3 n3 c3, .int .i64 sa] 28)).alloc (.cells #[.slice B0 n0 d0, .slice B1 m1 d1, .slice B2 m2 d2, .slice B3 m3 d3, .int .i64 sa] 28)) fun e w' => e = .returned (.bool true) ∧ ∃ k, w' = ((w.alloc (.cells #[.slice A0 n0 c0, .slice A1 n1 c1, .slice A2 n2 c2, .slice A3 n3 c3, .int .i64 sa] 28)).alloc (.cells #[.slice B0 n0 d0, .slice B1 m1 d1, .slice B2 m2 d2, .slice B3 m3 d3, .int .i64 sa] 28)).drewN k)
  (h2 : ∀ n, Calls Try.prog 48 #[.slice A2 n2 c2, .slice B2 m2 d2] (((w.alloc (.cells #[.slice A0 n0 c0, .slice A1 n1 c1, .slice A2 n2 c2, .slice A3 n3 c3, .int .i64 sa] 28)).alloc (.cells #[.slice B0 n0 d0, .slice B1 m1 d1, .slice B2 m2 d2, .slice B3 m3 d3, .int .i64 sa] 28)).drewN n) fun e w' => e = .returned (.bool true) ∧ ∃ k, w' = (((w.alloc (.cells #[.slice A0 n0 c0, .slice A1 n1 c1, .slice A2 n2 c2, .slice A3 n3 c3, .int .i64 sa] 28)).alloc (.cells #[.slice B0 n0 d0, .slice B1 m1 d1, .slice B2 m2 d2, .slice B3 m3 d3, .int .i64 sa] 28)).drewN n).drewN k)
  (h3 : ∀ n, Calls Try.prog 27 #[.slice A3 n3 c3, .slice B3 m3 d3] (((w.alloc (.cells #[.slice A0 n0 c0, .slice A1 n1 c1, .slice A2 n2 c2, .slice A3 n3 c3, .int .i64 sa] 28)).alloc (.cells #[.slice B0 n0 d0, .slice B1 m1 d1, .slice B2 m2 d2, .slice B3 m3 d3, .int .i64 sa] 28)).drewN n) fun e w' => e = .returned (.bool true) ∧ ∃ k, w' = (((w.alloc (.cells #[.slice A0 n0 c0, .slice A1 n1 c1, .slice A2 n2 c2, .slice A3 n3 c3, .int .i64 sa] 28)).alloc (.cells #[.slice B0 n0 d0, .slice B1 m1 d1, .slice B2 m2 d2, .slice B3 m3 d3, .int .i64 sa] 28)).drewN n).drewN k) :
    Calls Try.prog 20 #[.agg #[.slice A0 n0 c0, .slice A1 n1 c1, .slice A2 n2 c2, .slice A3 n3 c3, .int .i64 sa], .agg #[.slice B0 n0 d0, .slice B1 m1 d1, .slice B2 m2 d2, .slice B3 m3 d3, .int .i64 sa]] w fun e w' => e = .returned (.bool (decide (ta = tb))) ∧ Below w.heap.size w w' := by
  have H1 := Lib.hid h1; clear h1
  have H2 := Lib.hid h2; clear h2
  have H3 := Lib.hid h3; clear h3
  have HLA := Lib.hid hla; clear hla
  have HLB := Lib.hid hlb; clear hlb
  have HA := Lib.hid ha; clear ha
  have HB := Lib.hid hb; clear hb
  have hmx : n0 ≤ 9223372036854775807 := by unfold reach at hn0; omega
  have HN := Lib.hid hn0; clear hn0
  go_enter Try.func20, Try.ntmps20
  go_wp2_with fail
  refine (H1.out).mono ?_
  rintro e w1 ⟨rfl, k1, rfl⟩
  go_wp2_with fail
  refine (H2.out _).mono ?_
  rintro e w2 ⟨rfl, k2, rfl⟩
  go_wp2_with fail
  refine (H3.out _).mono ?_
  rintro e w3 ⟨rfl, k3, rfl⟩
  go_wp2
  go_loopw [5] (fun i wr => ∃ k : Nat, k ≤ n0 ∧ i = .int .i64 k ∧ ta.take k = tb.take k ∧ ∃ m, wr = ((w.alloc (.cells #[.slice A0 n0 c0, .slice A1 n1 c1, .slice A2 n2 c2, .slice A3 n3 c3, .int .i64 sa] 28)).alloc (.cells #[.slice B0 n0 d0, .slice B1 m1 d1, .slice B2 m2 d2, .slice B3 m3 d3, .int .i64 sa] 28)).drewN m) (fun i _ => n0 - (intOf i).toNat)
  case atStart => exact ⟨0, Nat.zero_le _, rfl, rfl, _, by first | rfl | (simp only [World.drewN_drewN]) | (simp only [World.drewN_drewN]; rfl)⟩
  case round =>
    obtain ⟨k, hk, rfl, he, hm⟩ := hrel
    have he' := Lib.hid he; clear he
    have hbw : Below w.heap.size w wr := by obtain ⟨m, rfl⟩ := hm; exact below_drewN (below_boxed _ _ _) _
    have hx0 : wr.cell? ⟨w.heap.size, 0, none⟩ = some (.slice A0 n0 c0) := by obtain ⟨m, rfl⟩ := hm; exact box_at _ _ _ _ _ _ rfl
    have hy0 : wr.cell? ⟨w.heap.size + 1, 0, none⟩ = some (.slice B0 n0 d0) := by obtain ⟨m, rfl⟩ := hm; exact box_at2 _ _ _ _ _ _ rfl
    have HM := Lib.hid hm; clear hm
    have Ha' := Lib.hid (HA.out.mono hbw)
    have Hb' := Lib.hid (HB.out.mono hbw)
    have HBW := Lib.hid hbw
    clear hbw HA HB H1 H2 H3
    by_cases hlt : k < n0
    · have hst := Lib.hid (eqt_step ta tb (by have := HLA.out; have := HLB.out; omega) k (by have := HLA.out; omega) he'.out)
      obtain ⟨b1, o1, rfl, i1, i2, i3⟩ := types_at Ha'.out k (by have := HLA.out; omega)
      obtain ⟨b2, o2, rfl, j1, j2, j3⟩ := types_at Hb'.out k (by have := HLB.out; omega)
      obtain ⟨x, hx⟩ : ∃ x, x = ta.getD k ty0 := ⟨_, rfl⟩
      obtain ⟨y, hy⟩ : ∃ y, y = tb.getD k ty0 := ⟨_, rfl⟩
      rw [← hx] at i1 i2 i3 hst
      rw [← hy] at j1 j2 j3 hst
      clear hx hy
      obtain ⟨x1, x2, x3⟩ := x
      obtain ⟨y1, y2, y3⟩ := y
      by_cases hxy : x1 = y1 ∧ x2 = y2 ∧ x3 = y3
      · obtain ⟨rfl, rfl, rfl⟩ := hxy
        go_wp2
        go_quiet (fail)
        go_wp2
        go_roundw
        case rel =>
          obtain ⟨m, rfl⟩ := HM.out
          exact ⟨k + 1, by omega, by go_num, hst.out.2 (by first | rfl | trivial), _, World.drewN_drewN ..⟩
        case measure => simp [intOf]; omega
      · have hq : ∀ wx, (binOp .neq 69 (.agg #[.int .i64 x1, .int .i64 x2, .int .i64 x3]) (.agg #[.int .i64 y1, .int .i64 y2, .int .i64 y3])).run Try.prog wx = .ok (.bool true) wx := by
          intro wx
          rw [run_neq_ty]
          have : (x1 == y1 && (x2 == y2 && x3 == y3)) = false := by
            cases hb : (x1 == y1 && (x2 == y2 && x3 == y3)) with
            | false => rfl
            | true => exact absurd (by simpa using hb) hxy
          rw [this]
          rfl
        have HXY := Lib.hid hxy
        clear hxy
        go_wp2
        go_quiet (fail)
        go_wp2
        go_ret
        refine ⟨ret_bool ?_, below_step HBW.out (below_drewN (Below.refl _ _) _)⟩
        symm
        simp only [decide_eq_false_iff_not]
        intro e
        have h5 := hst.out.1 (by rw [e])
        injection h5 with e1 e2 e3
        exact HXY.out ⟨e1, e2, e3⟩
    · go_wp2
      go_ret
      have : k = n0 := by omega
      subst this
      obtain ⟨m, rfl⟩ := HM.out
      refine ⟨ret_bool ?_, HBW.out⟩
      have h2 := he'.out
      rw [List.take_of_length_le (by have := HLA.out; omega), List.take_of_length_le (by have := HLB.out; omega)] at h2
      simp [h2]

/-- same: are two containers the same? -/
theorem same_any (va vb : Value) (ca cb : Cont) (w : World) (ha : ContV w va ca) (hb : ContV w vb cb) :
    Calls Try.prog 20 #[va, vb] w fun e w' => e = .returned (.bool (decide (ca = cb))) ∧ Below w.heap.size w w' := by
  obtain ⟨vt, vc, vs, vd, rfl, ⟨A0, c0, rfl, _, _, hr0, ht⟩, ⟨A1, c1, rfl, _, _, hc⟩, ⟨A2, c2, rfl, _, _, hs⟩, ⟨A3, c3, rfl, _, _, hd⟩⟩ := ha
  obtain ⟨ut, uc, us, ud, rfl, ⟨B0, d0, rfl, _, _, gr0, gt⟩, ⟨B1, d1, rfl, _, _, gc⟩, ⟨B2, d2, rfl, _, _, gs⟩, ⟨B3, d3, rfl, _, _, gd⟩⟩ := hb
  have hB : ∀ (xs ys : Array Value) (m : Nat), Below w.heap.size w (((w.alloc (.cells xs 28)).alloc (.cells ys 28)).drewN m) := fun xs ys m => below_drewN (below_boxed _ _ _) _
  have hB0 : ∀ (xs ys : Array Value), Below w.heap.size w ((w.alloc (.cells xs 28)).alloc (.cells ys 28)) := fun xs ys => below_boxed _ _ _
  have h1 := fun xs ys => sameParts_any A1 B1 c1 d1 ca.codes cb.codes _ _ _ rfl rfl (hc.mono (hB0 xs ys)) (gc.mono (hB0 xs ys))
  have h2 := fun xs ys m => sameParts_any A2 B2 c2 d2 ca.subs cb.subs _ _ _ rfl rfl (hs.mono (hB xs ys m)) (gs.mono (hB xs ys m))
  have h3 := fun xs ys m => sameBytes_any A3 B3 c3 d3 ca.data cb.data _ _ _ rfl rfl (hd.mono (hB xs ys m)) (gd.mono (hB xs ys m))
  by_cases e0 : ca.types.length = cb.types.length
  · by_cases e4 : ca.size = cb.size
    · by_cases e1 : ca.codes = cb.codes
      · by_cases e2 : ca.subs = cb.subs
        · by_cases e3 : ca.data = cb.data
          · simp only [e1, decide_true] at h1
            simp only [e2, decide_true] at h2
            simp only [e3, decide_true] at h3
            rw [← e0, ← e4, e1, e2, e3]
            refine (same_loop A0 A1 A2 A3 B0 B1 B2 B3 _ _ _ _ _ _ _ c0 c1 c2 c3 d0 d1 d2 d3 _ w ca.types cb.types hr0 rfl e0.symm ht gt (h1 _ _) (h2 _ _) (h3 _ _)).mono ?_
            rintro e w' ⟨rfl, h⟩
            refine ⟨ret_bool ?_, h⟩
            by_cases e5 : ca.types = cb.types
            · have : ca = cb := by cases ca; cases cb; simp_all
              simp [this]
            · have : ca ≠ cb := fun h => e5 (by rw [h])
              simp [e5, this]
          · have hne : ca ≠ cb := fun h => e3 (by rw [h])
            simp only [e1, decide_true] at h1
            simp only [e2, decide_true] at h2
            simp only [e3, decide_false] at h3
            simp only [hne, decide_false]
            rw [e1, e2]
            exact same_data A0 A1 A2 A3 B0 B1 B2 B3 _ _ _ _ _ _ _ _ c0 c1 c2 c3 d0 d1 d2 d3 _ _ w (by omega) e4 (h1 _ _) (h2 _ _) (h3 _ _)
        · have hne : ca ≠ cb := fun h => e2 (by rw [h])
          simp only [e1, decide_true] at h1
          simp only [e2, decide_false] at h2
          simp only [hne, decide_false]
          rw [e1]
          exact same_subs A0 A1 A2 A3 B0 B1 B2 B3 _ _ _ _ _ _ _ _ c0 c1 c2 c3 d0 d1 d2 d3 _ _ w (by omega) e4 (h1 _ _) (h2 _ _)
      · have hne : ca ≠ cb := fun h => e1 (by rw [h])
        simp only [e1, decide_false] at h1
        simp only [hne, decide_false]
        exact same_codes A0 A1 A2 A3 B0 B1 B2 B3 _ _ _ _ _ _ _ _ c0 c1 c2 c3 d0 d1 d2 d3 _ _ w (by omega) e4 (h1 _ _)
    · have hne : ca ≠ cb := fun h => e4 (by rw [h])
      simp only [hne, decide_false]
      exact same_size A0 A1 A2 A3 B0 B1 B2 B3 _ _ _ _ _ _ _ _ c0 c1 c2 c3 d0 d1 d2 d3 _ _ w (by omega) e4
  · have hne : ca ≠ cb := fun h => e0 (by rw [h])
    simp only [hne, decide_false]
    exact same_len A0 A1 A2 A3 B0 B1 B2 B3 _ _ _ _ _ _ _ _ c0 c1 c2 c3 d0 d1 d2 d3 _ _ w (by omega)
end Go.Proofs.Ytkbboepopcebaaa
