/- container.Check: its loop over the types. -/
import Derived.Test.YtkbboepopcebaaaN
namespace Go.Proofs.Ytkbboepopcebaaa
open Go.RowKit

theorem box1_at (w : World) (va : Array Value) (t : TypeId) (j : Nat) (v : Value) (h : va[j]? = some v) : (w.alloc (.cells va t)).cell? ⟨w.heap.size, j, none⟩ = some v := by
  rw [cell_of_row _ w.heap.size j va t (0, 0) (heap_alloc_new w _)]
  exact h

def okUpto (j : Nat) (f : Bool) (t : Ty) : Bool := match j with | 0 => true | 1 => fitsIn f t.i | 2 => fitsIn f t.i && fitsOut f t.o | _ => tyOk f t

set_option maxRecDepth 100000 in
set_option maxHeartbeats 1000000 in
theorem check_loop (A0 A1 A2 A3 : Option Addr) (n0 n1 n2 n3 c0 c1 c2 c3 : Nat) (sz : Int) (w : World) (ts : List Ty) (hl : ts.length = n0) (ha : CellsR w A0 (tysOf ts)) (hn0 : n0 ≤ reach)
    (g1 : 0 < n1) (g2 : n1 ≤ 1024) (g3 : (n0 : Int) = (n1 : Int)) (g4 : n2 ≤ 256) (g5 : sz ≤ 65535) (g6 : (n3 : Int) ≤ sz)
    (h1 : Calls Try.prog 45 #[.slice A1 n1 c1, .int .i64 65535] (w.alloc (.cells #[.slice A0 n0 c0, .slice A1 n1 c1, .slice A2 n2 c2, .slice A3 n3 c3, .int .i64 sz] 28)) fun e w' => e = .returned (.int .i64 0) ∧ (w.alloc (.cells #[.slice A0 n0 c0, .slice A1 n1 c1, .slice A2 n2 c2, .slice A3 n3 c3, .int .i64 sz] 28)) = w')
    (h2 : Calls Try.prog 45 #[.slice A2 n2 c2, .int .i64 4294967295] (w.alloc (.cells #[.slice A0 n0 c0, .slice A1 n1 c1, .slice A2 n2 c2, .slice A3 n3 c3, .int .i64 sz] 28)) fun e w' => e = .returned (.int .i64 0) ∧ (w.alloc (.cells #[.slice A0 n0 c0, .slice A1 n1 c1, .slice A2 n2 c2, .slice A3 n3 c3, .int .i64 sz] 28)) = w') :
    Calls Try.prog 18 #[.agg #[.slice A0 n0 c0, .slice A1 n1 c1, .slice A2 n2 c2, .slice A3 n3 c3, .int .i64 sz]] w fun e w' => e = .returned (.int .i64 (tysErr ts)) ∧ Below w.heap.size w w' := by
  obtain rfl : n0 = n1 := by omega
  clear g3
  have hz : ((n0 : Int) == 0) = false := by simp; omega
  have H1 := Lib.hid h1; clear h1
  have H2 := Lib.hid h2; clear h2
  have HL := Lib.hid hl; clear hl
  have HA := Lib.hid ha; clear ha
  have HN := Lib.hid hn0; clear hn0
  go_enter Try.func18, Try.ntmps18
  go_wp2_with fail
  refine H1.out.mono ?_
  rintro e w1 ⟨rfl, rfl⟩
  go_wp2_with fail
  refine H2.out.mono ?_
  rintro e w1 ⟨rfl, rfl⟩
  go_wp2
  go_loopw [5, 6, 8, 58, 66, 67] (fun _ _ _ i _ _ wr => ∃ k : Nat, k ≤ n0 ∧ i = .int .i64 k ∧ tysOk ((k : Int) == 0) (ts.drop k) = tysOk true ts ∧ Below w.heap.size w wr ∧ w.heap.size < wr.heap.size ∧ wr.cell? ⟨w.heap.size, 0, none⟩ = some (.slice A0 n0 c0)) (fun _ _ _ i _ _ _ => n0 - (intOf i).toNat)
  case atStart => exact ⟨0, Nat.zero_le _, rfl, rfl, below_alloc _ _, by simp, box1_at _ _ _ _ _ rfl⟩
  case round =>
    obtain ⟨k, hk, rfl, he, hb, hz1, hbox⟩ := hrel
    obtain ⟨wo, rfl⟩ : ∃ wo : World, wo = wr := ⟨_, rfl⟩
    have HE := Lib.hid he
    have HB := Lib.hid hb
    clear he hb H1 H2
    by_cases hlt : k < n0
    · have hk2 : k < ts.length := by have := HL.out; omega
      obtain ⟨b1, o1, rfl, i1, i2, i3⟩ := types_at (HA.out.mono HB.out) k hk2
      have hd := drop_get ts k ty0 hk2
      obtain ⟨x, hx⟩ : ∃ x, x = ts.getD k ty0 := ⟨_, rfl⟩
      rw [← hx] at i1 i2 i3 hd
      have HD := Lib.hid hd
      clear hx hd
      obtain ⟨x1, x2, x3⟩ := x
      obtain ⟨f, hf⟩ : ∃ f, ((k : Int) == 0) = f := ⟨_, rfl⟩
      have HF := Lib.hid hf
      go_wp2_with fail
      refine (bounds_any _).mono ?_
      rintro e w2 ⟨rfl, hb2⟩
      have q1 : w2.cell? ⟨wo.heap.size, 0, none⟩ = some (.int .i64 x1) := cell_keep hb2 (box1_at _ _ _ _ _ rfl)
      have q2 : w2.cell? ⟨wo.heap.size, 1, none⟩ = some (.int .i64 x2) := cell_keep hb2 (box1_at _ _ _ _ _ rfl)
      have q3 : w2.cell? ⟨wo.heap.size, 2, none⟩ = some (.int .i64 x3) := cell_keep hb2 (box1_at _ _ _ _ _ rfl)
      have HB2 := Lib.hid (below_step (below_alloc _ _) hb2)
      have hsz : wo.heap.size < w2.heap.size := by have := hb2.size; simp at this; omega
      clear hb2 i1 i2 i3
      have j0 : ∀ w, (Instr.index 74 boundsV (.int .i64 0)).run Try.prog w = .ok (.agg #[.int .i64 1, .func (.func 72) #[] #[], .func (.func 73) #[] #[]]) w := fun _ => by kernel_rfl
      have j1 : ∀ w, (Instr.index 74 boundsV (.int .i64 1)).run Try.prog w = .ok (.agg #[.int .i64 1, .func (.func 74) #[] #[], .func (.func 75) #[] #[]]) w := fun _ => by kernel_rfl
      have j2 : ∀ w, (Instr.index 74 boundsV (.int .i64 2)).run Try.prog w = .ok (.agg #[.int .i64 2, .func (.func 76) #[] #[], .func (.func 77) #[] #[]]) w := fun _ => by kernel_rfl
      go_wp2
      go_loopw [8, 67] (fun _ j wq => ∃ (m : Nat) (z : Int), m ≤ 3 ∧ z = m ∧ j = .int .i64 z ∧ okUpto m f ⟨x1, x2, x3⟩ = true ∧ Below w2.heap.size w2 wq) (fun _ j _ => 3 - (intOf j).toNat)
      case atStart => exact ⟨0, 0, by omega, rfl, rfl, rfl, Below.refl _ _⟩
      case round =>
        obtain ⟨m, z, hm, hz, rfl, ho, hbq⟩ := hrel
        have p1 := cell_keep hbq q1
        have p2 := cell_keep hbq q2
        have p3 := cell_keep hbq q3
        have HBQ := Lib.hid hbq
        have hszq : wo.heap.size < wr.heap.size := by have := hbq.size; omega
        have HO := Lib.hid ho
        clear hbq q1 q2 q3 ho
        have hcases : m = 0 ∨ m = 1 ∨ m = 2 ∨ m = 3 := by omega
        rcases hcases with rfl | rfl | rfl | rfl
        · obtain rfl : z = 0 := by simpa using hz
          clear hz
          obtain ⟨q, hq⟩ : ∃ q, q = fitsIn f x1 := ⟨_, rfl⟩
          have hcv : ∀ n, Calls Try.prog 73 #[.pointer (some ⟨wo.heap.size, 0, none⟩)] ((wr.alloc (.cells #[.int .i64 1, .func (.func 72) #[] #[], .func (.func 73) #[] #[]] 73)).drewN n) fun e w'' => e = .returned (.pointer (some ⟨wo.heap.size, 0, none⟩)) ∧ ∃ m, w'' = (wr.alloc (.cells #[.int .i64 1, .func (.func 72) #[] #[], .func (.func 73) #[] #[]] 73)).drewN m :=
            fun n => (value_in _ _).mono fun _ _ h => ⟨h.1, n, h.2.symm⟩
          have hcf : ∀ n, Calls Try.prog 72 #[.bool f, .int .i64 x1] ((wr.alloc (.cells #[.int .i64 1, .func (.func 72) #[] #[], .func (.func 73) #[] #[]] 73)).drewN n) fun e w'' => e = .returned (.bool q) ∧ ∃ m, w'' = (wr.alloc (.cells #[.int .i64 1, .func (.func 72) #[] #[], .func (.func 73) #[] #[]] 73)).drewN m :=
            fun n => (fits_in _ _ _).mono fun _ _ h => ⟨by rw [hq]; exact h.1, n, h.2.symm⟩
          have HQ := Lib.hid hq
          have HCV := Lib.hid hcv
          have HCF := Lib.hid hcf
          clear hq hcv hcf
          cases q
          · go_wp2
            go_quiet ((first | (go_at_call 73; exact HCV.out _) | (go_at_call 72; exact HCF.out _)))
            go_wp2
            go_ret
            refine ⟨ret_int ?_, below_step HB.out (below_step HB2.out (below_step HBQ.out (below_drewN (below_alloc _ _) _)))⟩
            have h9 : tysOk true ts = false := by
              rw [← HE.out, HD.out, HF.out, tysOk]
              have := HQ.out
              simp [tyOk, ← this]
            rw [tysErr, h9]; rfl
          · go_wp2
            go_quiet ((first | (go_at_call 73; exact HCV.out _) | (go_at_call 72; exact HCF.out _)))
            go_wp2
            go_roundw
            case rel =>
              refine ⟨1, 1, by omega, rfl, by first | rfl | go_num, ?_, below_step HBQ.out (below_drewN (below_alloc _ _) _)⟩
              have h1 := HO.out
              have h2 := HQ.out
              simp [okUpto, tyOk] at h1 ⊢
              simp [← h2, h1]
            case measure => simp [intOf]
        · obtain rfl : z = 1 := by simpa using hz
          clear hz
          obtain ⟨q, hq⟩ : ∃ q, q = fitsOut f x2 := ⟨_, rfl⟩
          have hcv : ∀ n, Calls Try.prog 75 #[.pointer (some ⟨wo.heap.size, 0, none⟩)] ((wr.alloc (.cells #[.int .i64 1, .func (.func 74) #[] #[], .func (.func 75) #[] #[]] 73)).drewN n) fun e w'' => e = .returned (.pointer (some ⟨wo.heap.size, 1, none⟩)) ∧ ∃ m, w'' = (wr.alloc (.cells #[.int .i64 1, .func (.func 74) #[] #[], .func (.func 75) #[] #[]] 73)).drewN m :=
            fun n => (value_out _ _).mono fun _ _ h => ⟨h.1, n, h.2.symm⟩
          have hcf : ∀ n, Calls Try.prog 74 #[.bool f, .int .i64 x2] ((wr.alloc (.cells #[.int .i64 1, .func (.func 74) #[] #[], .func (.func 75) #[] #[]] 73)).drewN n) fun e w'' => e = .returned (.bool q) ∧ ∃ m, w'' = (wr.alloc (.cells #[.int .i64 1, .func (.func 74) #[] #[], .func (.func 75) #[] #[]] 73)).drewN m :=
            fun n => (fits_out _ _ _).mono fun _ _ h => ⟨by rw [hq]; exact h.1, n, h.2.symm⟩
          have HQ := Lib.hid hq
          have HCV := Lib.hid hcv
          have HCF := Lib.hid hcf
          clear hq hcv hcf
          cases q
          · go_wp2
            go_quiet ((first | (go_at_call 75; exact HCV.out _) | (go_at_call 74; exact HCF.out _)))
            go_wp2
            go_ret
            refine ⟨ret_int ?_, below_step HB.out (below_step HB2.out (below_step HBQ.out (below_drewN (below_alloc _ _) _)))⟩
            have h9 : tysOk true ts = false := by
              rw [← HE.out, HD.out, HF.out, tysOk]
              have := HQ.out
              simp [tyOk, ← this]
            rw [tysErr, h9]; rfl
          · go_wp2
            go_quiet ((first | (go_at_call 75; exact HCV.out _) | (go_at_call 74; exact HCF.out _)))
            go_wp2
            go_roundw
            case rel =>
              refine ⟨2, 2, by omega, rfl, by first | rfl | go_num, ?_, below_step HBQ.out (below_drewN (below_alloc _ _) _)⟩
              have h1 := HO.out
              have h2 := HQ.out
              simp [okUpto, tyOk] at h1 ⊢
              simp [← h2, h1]
            case measure => simp [intOf]
        · obtain rfl : z = 2 := by simpa using hz
          clear hz
          obtain ⟨q, hq⟩ : ∃ q, q = fitsMost x3 := ⟨_, rfl⟩
          have hcv : ∀ n, Calls Try.prog 77 #[.pointer (some ⟨wo.heap.size, 0, none⟩)] ((wr.alloc (.cells #[.int .i64 2, .func (.func 76) #[] #[], .func (.func 77) #[] #[]] 73)).drewN n) fun e w'' => e = .returned (.pointer (some ⟨wo.heap.size, 2, none⟩)) ∧ ∃ m, w'' = (wr.alloc (.cells #[.int .i64 2, .func (.func 76) #[] #[], .func (.func 77) #[] #[]] 73)).drewN m :=
            fun n => (value_most _ _).mono fun _ _ h => ⟨h.1, n, h.2.symm⟩
          have hcf : ∀ n, Calls Try.prog 76 #[.bool f, .int .i64 x3] ((wr.alloc (.cells #[.int .i64 2, .func (.func 76) #[] #[], .func (.func 77) #[] #[]] 73)).drewN n) fun e w'' => e = .returned (.bool q) ∧ ∃ m, w'' = (wr.alloc (.cells #[.int .i64 2, .func (.func 76) #[] #[], .func (.func 77) #[] #[]] 73)).drewN m :=
            fun n => (fits_most _ _ _).mono fun _ _ h => ⟨by rw [hq]; exact h.1, n, h.2.symm⟩
          have HQ := Lib.hid hq
          have HCV := Lib.hid hcv
          have HCF := Lib.hid hcf
          clear hq hcv hcf
          cases q
          · go_wp2
            go_quiet ((first | (go_at_call 77; exact HCV.out _) | (go_at_call 76; exact HCF.out _)))
            go_wp2
            go_ret
            refine ⟨ret_int ?_, below_step HB.out (below_step HB2.out (below_step HBQ.out (below_drewN (below_alloc _ _) _)))⟩
            have h9 : tysOk true ts = false := by
              rw [← HE.out, HD.out, HF.out, tysOk]
              have := HQ.out
              simp [tyOk, ← this]
            rw [tysErr, h9]; rfl
          · go_wp2
            go_quiet ((first | (go_at_call 77; exact HCV.out _) | (go_at_call 76; exact HCF.out _)))
            go_wp2
            go_roundw
            case rel =>
              refine ⟨3, 3, by omega, rfl, by first | rfl | go_num, ?_, below_step HBQ.out (below_drewN (below_alloc _ _) _)⟩
              have h1 := HO.out
              have h2 := HQ.out
              simp [okUpto, tyOk] at h1 ⊢
              simp [← h2, h1]
            case measure => simp [intOf]
        · obtain rfl : z = 3 := by simpa using hz
          clear hz
          go_wp2
          go_roundw
          case rel =>
            refine ⟨k + 1, by omega, by go_num, ?_, below_step HB.out (below_step HB2.out HBQ.out), by omega, ?_⟩
            · rw [← HE.out, HD.out, HF.out, tysOk]
              have h1 : tyOk f ⟨x1, x2, x3⟩ = true := HO.out
              rw [h1, Bool.true_and]
              have : (((k + 1 : Nat) : Int) == 0) = false := by simp; omega
              rw [this]
            · exact cell_keep HBQ.out (cell_keep HB2.out hbox)
          case measure => simp [intOf]; omega
    · go_wp2
      go_ret
      refine ⟨ret_int ?_, HB.out⟩
      rw [tysErr, ← HE.out, List.drop_of_length_le (by have := HL.out; omega)]
      rfl
end Go.Proofs.Ytkbboepopcebaaa
