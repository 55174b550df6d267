/- The reference's Check. -/
import Derived.Test.YtkbboepopcebaaaJ
import Derived.Test.YtkbboepopcebaaaBX
import Derived.Deep.RegionHeld3
namespace Go.Proofs.Ytkbboepopcebaaa
open Go.RowKit

def tWrong (f : Bool) (t : Ty) : Int := if fitsIn f t.i then (if fitsOut f t.o then (if fitsMost t.m then 3 else 2) else 1) else 0
def TWr (i x1 x2 x3 : Int) (w : World) (e : Ending) (w' : World) : Prop := ∃ r, e = .returned (.int .i64 r) ∧ w' = w.alloc (.cells #[.int .i64 x1, .int .i64 x2, .int .i64 x3] 69) ∧ r = tWrong (i == 0) ⟨x1, x2, x3⟩

set_option maxRecDepth 100000 in
set_option maxHeartbeats 2000000 in
theorem typeWrong_any (i x1 x2 x3 : Int) (w : World) : Calls Try.prog 67 #[.int .i64 i, .agg #[.int .i64 x1, .int .i64 x2, .int .i64 x3]] w (TWr i x1 x2 x3 w) := by
  go_enter Try.func67, Try.ntmps67
  go_wp2
  all_goals go_ret
  all_goals refine ⟨_, rfl, rfl, ?_⟩

  all_goals (grind [tWrong, fitsIn, fitsOut, fitsMost])

theorem tWrong_lt (f : Bool) (t : Ty) : (tWrong f t < 3 ↔ tyOk f t = false) ∧ tWrong f t ≤ 3 := by
  unfold tWrong tyOk
  cases fitsIn f t.i <;> cases fitsOut f t.o <;> cases fitsMost t.m <;> simp
theorem tWrong_ok (f : Bool) (t : Ty) : tWrong f t < 3 ∨ (tWrong f t = 3 ∧ tyOk f t = true) := by
  unfold tWrong tyOk
  cases fitsIn f t.i <;> cases fitsOut f t.o <;> cases fitsMost t.m <;> simp
section
variable (A0 A1 A2 A3 : Option Addr) (n0 n1 n2 n3 c0 c1 c2 c3 : Nat) (sz : Int) (w : World)

set_option maxRecDepth 100000 in
theorem rcheck_none (g1 : n1 = 0) :
    Calls Try.prog 47 #[.agg #[.slice A0 n0 c0, .slice A1 n1 c1, .slice A2 n2 c2, .slice A3 n3 c3, .int .i64 sz]] w fun e w' => e = .returned (.int .i64 55) ∧ Below w.heap.size w w' := by
  subst g1
  go_enter Try.func47, Try.ntmps47
  go_wp2
  go_ret
  exact ⟨rfl, below_alloc _ _⟩

set_option maxRecDepth 100000 in
theorem rcheck_many (g1 : 1024 < n1) :
    Calls Try.prog 47 #[.agg #[.slice A0 n0 c0, .slice A1 n1 c1, .slice A2 n2 c2, .slice A3 n3 c3, .int .i64 sz]] w fun e w' => e = .returned (.int .i64 55) ∧ Below w.heap.size w w' := by
  have hq : ¬ (n1 : Int) < 1 := by omega
  go_enter Try.func47, Try.ntmps47
  go_wp2
  go_ret
  exact ⟨rfl, below_alloc _ _⟩

set_option maxRecDepth 100000 in
theorem rcheck_types (g1 : 0 < n1) (g2 : n1 ≤ 1024) (g3 : ¬ (n0 : Int) = (n1 : Int)) :
    Calls Try.prog 47 #[.agg #[.slice A0 n0 c0, .slice A1 n1 c1, .slice A2 n2 c2, .slice A3 n3 c3, .int .i64 sz]] w fun e w' => e = .returned (.int .i64 54) ∧ Below w.heap.size w w' := by
  have hq : ¬ (n1 : Int) < 1 := by omega
  have hz : (!((n0 : Int) == (n1 : Int))) = true := by simp; omega
  go_enter Try.func47, Try.ntmps47
  go_wp2
  go_ret
  exact ⟨rfl, below_alloc _ _⟩

def RErr (ts : List Ty) (codes subs : List (List Int)) (n3 : Nat) (sz : Int) : Int :=
  if partsErr 65535 codes ≠ 0 then partsErr 65535 codes
  else if 256 < subs.length then 57
  else if partsErr 4294967295 subs ≠ 0 then partsErr 4294967295 subs
  else if 65535 < sz then 2
  else if sz < (n3 : Int) then 1
  else tysErr ts

set_option maxRecDepth 100000 in
set_option maxHeartbeats 4000000 in
theorem rcheck_rest (ts : List Ty) (codes subs : List (List Int)) (hl0 : ts.length = n0) (hl1 : codes.length = n0) (hl2 : subs.length = n2) (g1 : 0 < n0) (g2 : n0 ≤ 1024)
    (ha : CellsR (w.alloc (.cells #[.slice A0 n0 c0, .slice A1 n0 c1, .slice A2 n2 c2, .slice A3 n3 c3, .int .i64 sz] 28)) A0 (tysOf ts)) (hc : PartsR (w.alloc (.cells #[.slice A0 n0 c0, .slice A1 n0 c1, .slice A2 n2 c2, .slice A3 n3 c3, .int .i64 sz] 28)) A1 codes) (hs : PartsR (w.alloc (.cells #[.slice A0 n0 c0, .slice A1 n0 c1, .slice A2 n2 c2, .slice A3 n3 c3, .int .i64 sz] 28)) A2 subs) :
    Calls Try.prog 47 #[.agg #[.slice A0 n0 c0, .slice A1 n0 c1, .slice A2 n2 c2, .slice A3 n3 c3, .int .i64 sz]] w fun e w' => e = .returned (.int .i64 (RErr ts codes subs n3 sz)) ∧ Below w.heap.size w w' := by
  have HA := Lib.hid ha; clear ha
  have HC := Lib.hid hc; clear hc
  have HS := Lib.hid hs; clear hs
  have HL0 := Lib.hid hl0; clear hl0
  have HL1 := Lib.hid hl1; clear hl1
  have HL2 := Lib.hid hl2; clear hl2
  have hq : ¬ (n0 : Int) < 1 := by omega
  generalize hR : RErr ts codes subs n3 sz = R
  have HR := Lib.hid hR; clear hR
  go_enter Try.func47, Try.ntmps47
  go_wp2
  go_loop [3] (fun i => ∃ k : Nat, k ≤ n0 ∧ i = .int .i64 k ∧ partsErr 65535 (codes.drop k) = partsErr 65535 codes) (fun i => n0 - (intOf i).toNat)
  case atStart => exact ⟨0, Nat.zero_le _, rfl, rfl⟩
  case round =>
    obtain ⟨k, hk, rfl, he⟩ := hrel
    have HE := Lib.hid he; clear he
    by_cases hlt : k < n0
    · have hk2 : k < codes.length := by have := HL1.out; omega
      obtain ⟨b1, o1, rfl, hc⟩ := HC.out.2 (by omega)
      obtain ⟨v, hcell, B1, d1, rfl, _, _, _⟩ := hc k hk2
      have hd := drop_get codes k [] hk2
      obtain ⟨l, hl⟩ : ∃ l, l = codes.getD k [] := ⟨_, rfl⟩
      rw [← hl] at hcell hd
      have HD := Lib.hid hd
      obtain ⟨m, hm⟩ : ∃ m, m = l.length := ⟨_, rfl⟩
      rw [← hm] at hcell
      have HM := Lib.hid hm
      clear hc hl hd hm
      by_cases h0 : m = 0
      · have h1 : ((m : Int) == 0) = true := by simp [h0]
        have H0 := Lib.hid h0
        clear h0
        go_wp2
        go_ret
        refine ⟨ret_int ?_, below_alloc _ _⟩
        have h9 : partsErr 65535 codes = 56 := by rw [← HE.out, HD.out, partsErr, if_pos (by have := HM.out; have := H0.out; omega)]
        rw [← HR.out, RErr, h9, if_pos (by decide)]
      · have h1 : ((m : Int) == 0) = false := by simp; omega
        by_cases h2 : 65535 < (m : Int)
        · go_wp2
          go_ret
          refine ⟨ret_int ?_, below_alloc _ _⟩
          have h9 : partsErr 65535 codes = 2 := by rw [← HE.out, HD.out, partsErr, if_neg (by have := HM.out; omega), if_pos (by have := HM.out; omega)]
          rw [← HR.out, RErr, h9, if_pos (by decide)]
        · go_wp2
          go_round
          case rel =>
            refine ⟨k + 1, by omega, by go_num, ?_⟩
            rw [← HE.out, HD.out, partsErr, if_neg (by have := HM.out; omega), if_neg (by have := HM.out; omega)]
          case measure => simp [intOf]; omega
    · have h8 := Lib.hid (show partsErr 65535 codes = 0 by rw [← HE.out, List.drop_of_length_le (by have := HL1.out; omega)]; rfl)
      clear HE
      have H1 := Lib.hid h8.out
      clear h8
      by_cases g4 : 256 < n2
      · go_wp2
        go_ret
        refine ⟨ret_int ?_, below_alloc _ _⟩
        rw [← HR.out, RErr, H1.out, if_neg (by decide), if_pos (by have := HL2.out; omega)]
      go_wp2
      go_loop [4] (fun i => ∃ k : Nat, k ≤ n2 ∧ i = .int .i64 k ∧ partsErr 4294967295 (subs.drop k) = partsErr 4294967295 subs) (fun i => n2 - (intOf i).toNat)
      case atStart => exact ⟨0, Nat.zero_le _, rfl, rfl⟩
      case round =>
        obtain ⟨k, hk, rfl, he⟩ := hrel
        have HE := Lib.hid he; clear he
        by_cases hlt : k < n2
        · have hk2 : k < subs.length := by have := HL2.out; omega
          obtain ⟨b1, o1, rfl, hc⟩ := HS.out.2 (by omega)
          obtain ⟨v, hcell, B1, d1, rfl, _, _, _⟩ := hc k hk2
          have hd := drop_get subs k [] hk2
          obtain ⟨l, hl⟩ : ∃ l, l = subs.getD k [] := ⟨_, rfl⟩
          rw [← hl] at hcell hd
          have HD := Lib.hid hd
          obtain ⟨m, hm⟩ : ∃ m, m = l.length := ⟨_, rfl⟩
          rw [← hm] at hcell
          have HM := Lib.hid hm
          clear hc hl hd hm
          by_cases h0 : m = 0
          · have h1 : ((m : Int) == 0) = true := by simp [h0]
            have H0 := Lib.hid h0
            clear h0
            go_wp2
            go_ret
            refine ⟨ret_int ?_, below_alloc _ _⟩
            have h9 : partsErr 4294967295 subs = 56 := by rw [← HE.out, HD.out, partsErr, if_pos (by have := HM.out; have := H0.out; omega)]
            rw [← HR.out, RErr, H1.out, if_neg (by decide), if_neg (by have := HL2.out; omega), h9, if_pos (by decide)]
          · have h1 : ((m : Int) == 0) = false := by simp; omega
            by_cases h2 : 4294967295 < (m : Int)
            · go_wp2
              go_ret
              refine ⟨ret_int ?_, below_alloc _ _⟩
              have h9 : partsErr 4294967295 subs = 2 := by rw [← HE.out, HD.out, partsErr, if_neg (by have := HM.out; omega), if_pos (by have := HM.out; omega)]
              rw [← HR.out, RErr, H1.out, if_neg (by decide), if_neg (by have := HL2.out; omega), h9, if_pos (by decide)]
            · go_wp2
              go_round
              case rel =>
                refine ⟨k + 1, by omega, by go_num, ?_⟩
                rw [← HE.out, HD.out, partsErr, if_neg (by have := HM.out; omega), if_neg (by have := HM.out; omega)]
              case measure => simp [intOf]; omega
        · have h8 := Lib.hid (show partsErr 4294967295 subs = 0 by rw [← HE.out, List.drop_of_length_le (by have := HL2.out; omega)]; rfl)
          clear HE

          by_cases g5 : 65535 < sz
          · go_wp2
            go_ret
            refine ⟨ret_int ?_, below_alloc _ _⟩
            rw [← HR.out, RErr, H1.out, if_neg (by decide), if_neg (by have := HL2.out; omega), h8.out, if_neg (by decide), if_pos (by omega)]
          by_cases g6 : sz < (n3 : Int)
          · go_wp2
            go_ret
            refine ⟨ret_int ?_, below_alloc _ _⟩
            rw [← HR.out, RErr, H1.out, if_neg (by decide), if_neg (by have := HL2.out; omega), h8.out, if_neg (by decide), if_neg (by omega), if_pos (by omega)]
          have HR2 := Lib.hid (show tysErr ts = R by rw [← HR.out, RErr, H1.out, if_neg (by decide), if_neg (by have := HL2.out; omega), h8.out, if_neg (by decide), if_neg g5, if_neg g6])
          clear HR h8 H1 HC HS
          go_wp2
          go_loopw [5] (fun i wr => ∃ k : Nat, k ≤ n0 ∧ i = .int .i64 k ∧ tysOk ((k : Int) == 0) (ts.drop k) = tysOk true ts ∧ Below (w.heap.size + 1) (w.alloc (.cells #[.slice A0 n0 c0, .slice A1 n0 c1, .slice A2 n2 c2, .slice A3 n3 c3, .int .i64 sz] 28)) wr ∧ wr.cell? ⟨w.heap.size, 0, none⟩ = some (.slice A0 n0 c0)) (fun i _ => n0 - (intOf i).toNat)
          case atStart => exact ⟨0, Nat.zero_le _, rfl, rfl, Below.refl _ _, box1_at _ _ _ _ _ rfl⟩
          case round =>
            obtain ⟨k, hk, rfl, he, hb, hbox⟩ := hrel
            have HE := Lib.hid he
            have HB := Lib.hid (show Below (w.alloc (.cells #[.slice A0 n0 c0, .slice A1 n0 c1, .slice A2 n2 c2, .slice A3 n3 c3, .int .i64 sz] 28)).heap.size (w.alloc (.cells #[.slice A0 n0 c0, .slice A1 n0 c1, .slice A2 n2 c2, .slice A3 n3 c3, .int .i64 sz] 28)) wr by simpa using hb)
            clear he hb
            by_cases hlt : k < n0
            · have hk2 : k < ts.length := by have := HL0.out; omega
              obtain ⟨b1, o1, rfl, i1, i2, i3⟩ := types_at (HA.out.mono HB.out) k hk2
              have hd := drop_get ts k ty0 hk2
              obtain ⟨x, hx⟩ : ∃ x, x = ts.getD k ty0 := ⟨_, rfl⟩
              rw [← hx] at i1 i2 i3 hd
              have HD := Lib.hid hd
              clear hx hd
              obtain ⟨x1, x2, x3⟩ := x
              go_wp2_with fail
              refine (typeWrong_any _ _ _ _ _).mono ?_
              rintro e w2 ⟨r, rfl, rfl, hr⟩
              have ht := tWrong_ok ((k : Int) == 0) ⟨x1, x2, x3⟩
              rw [← hr] at ht
              have HR3 := Lib.hid hr
              clear hr
              by_cases h3 : r < 3
              · have HT : Hid (tyOk ((k : Int) == 0) ⟨x1, x2, x3⟩ = false) := by
                  have := (tWrong_lt ((k : Int) == 0) ⟨x1, x2, x3⟩).1
                  rw [← HR3.out] at this
                  exact this.1 h3
                clear ht
                go_wp2
                go_ret
                refine ⟨ret_int ?_, below_step (below_alloc _ _) (below_step HB.out (below_alloc _ _))⟩
                have h9 : tysOk true ts = false := by
                  rw [← HE.out, HD.out, tysOk, HT.out]; rfl
                rw [← HR2.out, tysErr, h9]; rfl
              · have HT : Hid (tyOk ((k : Int) == 0) ⟨x1, x2, x3⟩ = true) := by
                  rcases ht with h | h
                  · exact absurd h h3
                  · exact h.2
                clear ht
                go_wp2
                go_roundw
                case rel =>
                  refine ⟨k + 1, by omega, by go_num, ?_, ?_, cell_keep (below_alloc _ _) hbox⟩
                  · rw [← HE.out, HD.out, tysOk, HT.out, Bool.true_and]
                    have : (((k + 1 : Nat) : Int) == 0) = false := by simp; omega
                    rw [this]
                  · have := below_step HB.out (below_alloc wr (.cells #[.int .i64 x1, .int .i64 x2, .int .i64 x3] 69))
                    simpa using this
                case measure => simp [intOf]; omega
            · go_wp2
              go_ret
              refine ⟨ret_int ?_, below_step (below_alloc _ _) HB.out⟩
              rw [← HR2.out, tysErr, ← HE.out, List.drop_of_length_le (by have := HL0.out; omega)]
              rfl

end

/-- The reference's check. -/
theorem rcheck_any (v : Value) (c : Cont) (w : World) (h : ContV w v c) :
    Calls Try.prog 47 #[v] w fun e w' => e = .returned (.int .i64 (checkErr c)) ∧ Below w.heap.size w w' := by
  obtain ⟨vt, vc, vs, vd, rfl, ⟨A0, c0, rfl, _, _, hr0, ht⟩, ⟨A1, c1, rfl, _, _, hc⟩, ⟨A2, c2, rfl, _, _, hs⟩, ⟨A3, c3, rfl, _, _, hd⟩⟩ := h
  unfold checkErr
  by_cases g1 : c.codes.length = 0
  · rw [if_pos (.inl g1)]
    exact rcheck_none A0 A1 A2 A3 _ _ _ _ c0 c1 c2 c3 _ w g1
  by_cases g2 : 1024 < c.codes.length
  · rw [if_pos (.inr g2)]
    exact rcheck_many A0 A1 A2 A3 _ _ _ _ c0 c1 c2 c3 _ w g2
  rw [if_neg (by omega)]
  by_cases g3 : c.types.length = c.codes.length
  case neg =>
    rw [if_pos g3]
    exact rcheck_types A0 A1 A2 A3 _ _ _ _ c0 c1 c2 c3 _ w (by omega) (by omega) (by omega)
  rw [if_neg (by omega)]
  rw [← g3]
  exact rcheck_rest A0 A1 A2 A3 _ _ _ c0 c1 c2 c3 _ w c.types c.codes c.subs rfl g3.symm rfl (by omega) (by omega) (ht.mono (below_alloc _ _)) (hc.mono (below_alloc _ _)) (hs.mono (below_alloc _ _))

set_option maxRecDepth 100000 in
theorem refCheck_any (v : Value) (c : Cont) (w : World) (h : ContV w v c) :
    Calls Try.prog 19 #[v] w fun e w' => e = .returned (.int .i64 (checkErr c)) ∧ Below w.heap.size w w' := by
  have h' := fun va : Array Value => h.mono (below_alloc w (.cells va 28))
  obtain ⟨vt, vc, vs, vd, rfl, ⟨A0, c0, rfl, _⟩, ⟨A1, c1, rfl, _⟩, ⟨A2, c2, rfl, _⟩, ⟨A3, c3, rfl, _⟩⟩ := h
  have hc := fun va => rcheck_any _ _ _ (h' va)
  have HC := Lib.hid hc
  generalize checkErr c = R at *
  clear hc h'
  go_enter Try.func19, Try.ntmps19
  go_wp2_with fail
  refine (HC.out _).mono ?_
  rintro e w1 ⟨rfl, hb⟩
  have HB := Lib.hid (below_step (below_alloc _ _) hb)
  clear hb
  go_wp2
  go_ret
  exact ⟨rfl, HB.out⟩
end Go.Proofs.Ytkbboepopcebaaa
namespace Go.Proofs.Ytkbboepopcebaaa
open Go.RowKit

def bs (w : World) (va : Array Value) : Nat := (w.alloc (.cells va 28)).heap.size
def Since (w : World) (va : Array Value) (w1 : World) : Prop := Below (bs w va) (w.alloc (.cells va 28)) w1
theorem since_refl (w : World) (va : Array Value) : Since w va (w.alloc (.cells va 28)) := Below.refl _ _
theorem since_cell {w w1 : World} {va : Array Value} (h : Since w va w1) (j : Nat) (v : Value) (hj : va[j]? = some v) : w1.cell? ⟨w.heap.size, j, none⟩ = some v := cell_keep h (box1_at w va 28 j v hj)
theorem since_below {w w1 : World} {va : Array Value} (h : Since w va w1) : Below w.heap.size w w1 := below_step (below_alloc _ _) h
theorem since_drew {w w1 : World} {va : Array Value} (h : Since w va w1) : Since w va w1.drew := Below.drew h
theorem since_size {w w1 : World} {va : Array Value} (h : Since w va w1) : bs w va ≤ w1.heap.size := h.size
theorem since_step {w w1 w2 : World} {va : Array Value} (h : Since w va w1) (k : Below w1.heap.size w1 w2) : Since w va w2 := below_trans h h.size k
theorem since_trans {w w1 w2 : World} {va : Array Value} (h : Since w va w1) (k : Below (bs w va) w1 w2) : Since w va w2 := Below.trans h k
theorem since_alloc {w w1 : World} {va : Array Value} (h : Since w va w1) (o : Obj) : Since w va (w1.alloc o) := since_step h (below_alloc _ _)

theorem tysOk_all (ts : List Ty) : ∀ (f : Bool), tysOk f ts = true → ∀ k, k < ts.length → (0 ≤ (ts.getD k ty0).i ∧ (ts.getD k ty0).i ≤ 127) ∧ (0 ≤ (ts.getD k ty0).o ∧ (ts.getD k ty0).o ≤ 128) ∧ 0 ≤ (ts.getD k ty0).m ∧ (ts.getD k ty0).m ≤ 1023 := by
  induction ts with
  | nil => intro f _ k hk; simp at hk
  | cons t r ih =>
    intro f h k hk
    rw [tysOk, Bool.and_eq_true] at h
    cases k with
    | zero =>
      have h1 := h.1
      simp only [tyOk, fitsIn, fitsOut, fitsMost, Bool.and_eq_true, decide_eq_true_eq] at h1
      simp only [List.getD_cons_zero]
      omega
    | succ k =>
      simp only [List.getD_cons_succ]
      exact ih false h.2 k (by simpa using hk)
theorem tysB_snoc (ts : List Ty) (k : Nat) (h : k < ts.length) : (ts.take (k + 1)).flatMap tyB = (ts.take k).flatMap tyB ++ tyB (ts.getD k ty0) := by
  rw [take_snoc' ts k ty0 h]; simp
theorem flatten_snoc (ll : List (List Int)) (k : Nat) (h : k < ll.length) : (ll.take (k + 1)).flatten = (ll.take k).flatten ++ ll.getD k [] := by
  rw [take_snoc' ll k [] h]; simp

def IntsV (w : World) (v : Value) (l : List Int) : Prop := NumsV w .i64 v l
def serR (c : Cont) : List Int := if checkErr c = 0 then serB c else []

set_option maxRecDepth 100000 in
theorem rser_no (e1 : Int) (k1 : ¬ e1 = 0) (A0 A1 A2 A3 : Option Addr) (n0 n1 n2 n3 c0 c1 c2 c3 : Nat) (sz : Int) (w : World)
    (h1 : Calls Try.prog 19 #[.agg #[.slice A0 n0 c0, .slice A1 n1 c1, .slice A2 n2 c2, .slice A3 n3 c3, .int .i64 sz]] (w.alloc (.cells #[.slice A0 n0 c0, .slice A1 n1 c1, .slice A2 n2 c2, .slice A3 n3 c3, .int .i64 sz] 28)) fun e w' => e = .returned (.int .i64 e1) ∧ Below (w.alloc (.cells #[.slice A0 n0 c0, .slice A1 n1 c1, .slice A2 n2 c2, .slice A3 n3 c3, .int .i64 sz] 28)).heap.size (w.alloc (.cells #[.slice A0 n0 c0, .slice A1 n1 c1, .slice A2 n2 c2, .slice A3 n3 c3, .int .i64 sz] 28)) w') :
    Calls Try.prog 38 #[.agg #[.slice A0 n0 c0, .slice A1 n1 c1, .slice A2 n2 c2, .slice A3 n3 c3, .int .i64 sz]] w fun e w' => e = .returned (.tuple #[.slice none 0 0, .int .i64 e1]) ∧ Below w.heap.size w w' := by
  have H1 := Lib.hid h1; clear h1
  have hk1 : (!(e1 == 0)) = true := by simp [k1]
  go_enter Try.func38, Try.ntmps38
  go_wp2_with fail
  refine H1.out.mono ?_
  rintro e w1 ⟨rfl, hb⟩
  have HB := Lib.hid (below_step (below_alloc _ _) hb)
  clear hb
  go_wp2
  go_ret2
  exact ⟨rfl, HB.out⟩

set_option maxRecDepth 100000 in
set_option maxHeartbeats 4000000 in
theorem rser_yes (A0 A1 A2 A3 : Option Addr) (n0 n1 n2 n3 c0 c1 c2 c3 : Nat) (c : Cont) (w : World) (sz : Int) (hsz : c.size = sz) (hl0 : c.types.length = n0) (hl1 : c.codes.length = n1) (hl2 : c.subs.length = n2) (hl3 : c.data.length = n3) (hm : May c)
    (ht : CellsR w A0 (tysOf c.types)) (hc : PartsR w A1 c.codes) (hs : PartsR w A2 c.subs) (hd : NumsV w .u8 (.slice A3 n3 c3) c.data)
    (h1 : Calls Try.prog 19 #[.agg #[.slice A0 n0 c0, .slice A1 n1 c1, .slice A2 n2 c2, .slice A3 n3 c3, .int .i64 sz]] (w.alloc (.cells #[.slice A0 n0 c0, .slice A1 n1 c1, .slice A2 n2 c2, .slice A3 n3 c3, .int .i64 sz] 28)) fun e w' => e = .returned (.int .i64 0) ∧ Below (w.alloc (.cells #[.slice A0 n0 c0, .slice A1 n1 c1, .slice A2 n2 c2, .slice A3 n3 c3, .int .i64 sz] 28)).heap.size (w.alloc (.cells #[.slice A0 n0 c0, .slice A1 n1 c1, .slice A2 n2 c2, .slice A3 n3 c3, .int .i64 sz] 28)) w') :
    Calls Try.prog 38 #[.agg #[.slice A0 n0 c0, .slice A1 n1 c1, .slice A2 n2 c2, .slice A3 n3 c3, .int .i64 sz]] w fun e w' => ∃ v, e = .returned (.tuple #[v, .int .i64 0]) ∧ Own8 w' (bs w #[.slice A0 n0 c0, .slice A1 n1 c1, .slice A2 n2 c2, .slice A3 n3 c3, .int .i64 sz]) v (serB c) ∧ Below w.heap.size w w' := by
  have H1 := Lib.hid h1; clear h1
  have HSZ := Lib.hid hsz; clear hsz
  have HL0 := Lib.hid hl0; clear hl0
  have HL1 := Lib.hid hl1; clear hl1
  have HL2 := Lib.hid hl2; clear hl2
  have HL3 := Lib.hid hl3; clear hl3
  have HM := Lib.hid hm; clear hm
  have HT := Lib.hid ht; clear ht
  have HC := Lib.hid hc; clear hc
  have HS := Lib.hid hs; clear hs
  have HD := Lib.hid hd; clear hd
  have gs : 0 ≤ sz := by have := HM.out.data; have := HSZ.out; omega
  have gs1 : sz ≤ 65535 := by have := HM.out.size; have := HSZ.out; omega
  have gn1 : n1 ≤ 1024 := by have := HM.out.codes2; have := HL1.out; omega
  have gn0 : n0 ≤ 1024 := by have := HM.out.codes2; have := HM.out.types; have := HL0.out; omega
  have gn2 : n2 ≤ 256 := by have := HM.out.subs; have := HL2.out; omega
  have gn3 : n3 ≤ 65535 := by have := HM.out.data; have := HL3.out; have := HSZ.out; omega
  have C1 : Hid (∀ W, Since w #[.slice A0 n0 c0, .slice A1 n1 c1, .slice A2 n2 c2, .slice A3 n3 c3, .int .i64 sz] W → Calls Try.prog 69 #[.slice A1 n1 c1] W fun e w' => ∃ v', e = .returned v' ∧ IntsV w' v' (lens c.codes) ∧ Below W.heap.size W w') := Lib.hid fun W hW =>
    (lengths_any A1 c1 n1 c.codes W HL1.out (by omega) (HC.out.mono (since_below hW))).mono fun _ _ ⟨v', e, ho, hb⟩ => ⟨v', e, by
      have h2 : (lens c.codes).length = n1 := by rw [lens_length]; exact HL1.out
      exact own_nums (n := n1) ho (by rw [h2]; unfold reach; omega), hb⟩
  have C2 : Hid (∀ W, Since w #[.slice A0 n0 c0, .slice A1 n1 c1, .slice A2 n2 c2, .slice A3 n3 c3, .int .i64 sz] W → Calls Try.prog 69 #[.slice A2 n2 c2] W fun e w' => ∃ v', e = .returned v' ∧ IntsV w' v' (lens c.subs) ∧ Below W.heap.size W w') := Lib.hid fun W hW =>
    (lengths_any A2 c2 n2 c.subs W HL2.out (by omega) (HS.out.mono (since_below hW))).mono fun _ _ ⟨v', e, ho, hb⟩ => ⟨v', e, by
      have h2 : (lens c.subs).length = n2 := by rw [lens_length]; exact HL2.out
      exact own_nums (n := n2) ho (by rw [h2]; unfold reach; omega), hb⟩
  have C3 : Hid (∀ W v1 v2, Since w #[.slice A0 n0 c0, .slice A1 n1 c1, .slice A2 n2 c2, .slice A3 n3 c3, .int .i64 sz] W → IntsV W v1 (lens c.codes) → IntsV W v2 (lens c.subs) → Calls Try.prog 68 #[v1, v2, .int .i64 sz] W fun e w' => ∃ v', e = .returned v' ∧ Own8 w' (bs w #[.slice A0 n0 c0, .slice A1 n1 c1, .slice A2 n2 c2, .slice A3 n3 c3, .int .i64 sz]) v' (headB (lens c.codes) (lens c.subs) sz) ∧ Below (bs w #[.slice A0 n0 c0, .slice A1 n1 c1, .slice A2 n2 c2, .slice A3 n3 c3, .int .i64 sz]) W w') := Lib.hid fun W v1 v2 hW hv1 hv2 => by
    obtain ⟨B1, d1, rfl, _, _, k1⟩ := hv1
    obtain ⟨B2, d2, rfl, _, _, k2⟩ := hv2
    refine (head_any B1 B2 d1 d2 _ _ (lens c.codes) (lens c.subs) sz W rfl rfl (by rw [lens_length]; have := HL1.out; omega) (by rw [lens_length]; have := HL2.out; omega) gs gs1 ?_ ?_ k1 k2).mono fun _ _ ⟨v', e, ho, hb⟩ => ⟨v', e, ho.base (since_size hW), hb.mono (since_size hW)⟩
    · intro k hk
      rw [lens_length] at hk
      rw [lens_get _ _ hk]
      have := HM.out.code (c.codes.getD k []) (by rw [show c.codes.getD k [] = c.codes[k] by simp [List.getD_eq_getElem?_getD, hk]]; exact List.getElem_mem _)
      omega
    · intro k hk
      rw [lens_length] at hk
      rw [lens_get _ _ hk]
      have := HM.out.sub (c.subs.getD k []) (by rw [show c.subs.getD k [] = c.subs[k] by simp [List.getD_eq_getElem?_getD, hk]]; exact List.getElem_mem _)
      omega
  go_enter Try.func38, Try.ntmps38
  go_wp2_with fail
  refine H1.out.mono ?_
  rintro e w1 ⟨rfl, hb⟩
  have HB1 : Hid (Since w #[.slice A0 n0 c0, .slice A1 n1 c1, .slice A2 n2 c2, .slice A3 n3 c3, .int .i64 sz] w1) := Lib.hid hb
  clear hb
  have x1 := since_cell HB1.out 1 _ rfl
  have x2 := since_cell HB1.out 2 _ rfl
  have x4 := since_cell HB1.out 4 _ rfl
  go_wp2_with fail
  go_region_held3 (fun w' => w'.cell? ⟨w.heap.size, 1, none⟩ = some (.slice A1 n1 c1) ∧ w'.cell? ⟨w.heap.size, 2, none⟩ = some (.slice A2 n2 c2) ∧ w'.cell? ⟨w.heap.size, 4, none⟩ = some (.int .i64 sz))
    (first | go_keep | (exact ⟨since_cell HB2.out 1 _ rfl, since_cell HB2.out 2 _ rfl, since_cell HB2.out 4 _ rfl⟩) | (exact ⟨since_cell HB3.out 1 _ rfl, since_cell HB3.out 2 _ rfl, since_cell HB3.out 4 _ rfl⟩) | (exact ⟨since_cell HB4.out 1 _ rfl, since_cell HB4.out 2 _ rfl, since_cell HB4.out 4 _ rfl⟩))
    ((first
      | (go_at_call 69; (with_reducible refine (C1.out _ (since_drew HB1.out)).mono ?_); rintro e w2 ⟨v2, rfl, ho, hb⟩; have HO2 := Lib.hid ho; have HB2 : Hid (Since w #[.slice A0 n0 c0, .slice A1 n1 c1, .slice A2 n2 c2, .slice A3 n3 c3, .int .i64 sz] w2) := Lib.hid (since_step (since_drew HB1.out) hb); clear ho hb)
      | (go_at_call 69; (with_reducible refine (C2.out _ HB2.out).mono ?_); rintro e w3 ⟨v3, rfl, ho, hb⟩; have HO3 := Lib.hid ho; have HO2b : Hid (IntsV w3 v2 (lens c.codes)) := Lib.hid (NumsV.mono HO2.out hb); have HB3 : Hid (Since w #[.slice A0 n0 c0, .slice A1 n1 c1, .slice A2 n2 c2, .slice A3 n3 c3, .int .i64 sz] w3) := Lib.hid (since_step HB2.out hb); clear ho hb)
      | (go_at_call 68; (with_reducible refine (C3.out _ _ _ HB3.out HO2b.out HO3.out).mono ?_); rintro e w4 ⟨v4, rfl, ho, hb⟩; have HO4 := Lib.hid ho; have HB4 : Hid (Since w #[.slice A0 n0 c0, .slice A1 n1 c1, .slice A2 n2 c2, .slice A3 n3 c3, .int .i64 sz] w4) := Lib.hid (since_trans HB3.out hb); clear ho hb)))
  clear C1 C2 C3 HO2 HO2b HO3 x1 x2 x4
  go_wp2
  go_loopw [5, 6] (fun v i wr => ∃ k : Nat, k ≤ n0 ∧ i = .int .i64 k ∧ Own8 wr (bs w #[.slice A0 n0 c0, .slice A1 n1 c1, .slice A2 n2 c2, .slice A3 n3 c3, .int .i64 sz]) v (headB (lens c.codes) (lens c.subs) sz ++ (c.types.take k).flatMap tyB) ∧ Since w #[.slice A0 n0 c0, .slice A1 n1 c1, .slice A2 n2 c2, .slice A3 n3 c3, .int .i64 sz] wr) (fun _ i _ => n0 - (intOf i).toNat)
  case atStart => exact ⟨0, Nat.zero_le _, rfl, by have := HO4.out; simpa using this, HB4.out⟩
  case round =>
    obtain ⟨k, hk, rfl, ho, hb⟩ := hrel
    have HO5 := Lib.hid ho
    have HB5 := Lib.hid hb
    clear ho hb HO4
    have x0 := since_cell HB5.out 0 _ rfl
    by_cases hlt : k < n0
    · have hk2 : k < c.types.length := by have := HL0.out; omega
      have hx := tysOk_all c.types true HM.out.tys k hk2
      have hst := tysB_snoc c.types k hk2
      obtain ⟨b1, o1, rfl, i1, i2, i3⟩ := types_at HT.out k hk2
      obtain ⟨x, hxx⟩ : ∃ x, x = c.types.getD k ty0 := ⟨_, rfl⟩
      rw [← hxx] at i1 i2 i3 hx hst
      have HST := Lib.hid hst
      clear hxx hst
      obtain ⟨y1, y2, y3⟩ := x
      have HI := Lib.hid (And.intro i1 (And.intro i2 i3))
      clear i1 i2 i3
      have i1 := cell_keep (since_below HB5.out) HI.out.1
      obtain ⟨⟨p1, q1⟩, ⟨p2, q2⟩, p3, q3⟩ := hx
      have HR5 : Hid ((headB (lens c.codes) (lens c.subs) sz ++ (c.types.take k).flatMap tyB).length + 8 ≤ reach) := Lib.hid (by
        simp only [List.length_append, headB_length, tysB_length, lens_length, List.length_take]
        have := HL1.out; have := HL2.out; have := HL0.out
        unfold reach
        split <;> omega)
      go_wp2_with fail
      refine (number1 _ _ _ _ _ p1 (by omega) (since_size HB5.out) HO5.out (by have := HR5.out; omega)).mono ?_
      rintro e w6 ⟨v6, rfl, ho, hb⟩
      have HO6 := Lib.hid ho
      have HB6 := Lib.hid (since_trans HB5.out hb)
      clear ho hb x0 i1
      have x0 := since_cell HB6.out 0 _ rfl
      have i1 := cell_keep (since_below HB6.out) HI.out.2.1
      go_wp2_with fail
      refine (number1 _ _ _ _ _ p2 (by omega) (since_size HB6.out) HO6.out (by have := HR5.out; simp only [List.length_append, be_length] at this ⊢; omega)).mono ?_
      rintro e w7 ⟨v7, rfl, ho, hb⟩
      have HO7 := Lib.hid ho
      have HB7 := Lib.hid (since_trans HB6.out hb)
      clear ho hb x0 i1
      have x0 := since_cell HB7.out 0 _ rfl
      have i1 := cell_keep (since_below HB7.out) HI.out.2.2
      go_wp2_with fail
      refine (number2 _ _ _ _ _ p3 (by omega) (since_size HB7.out) HO7.out (by have := HR5.out; simp only [List.length_append, be_length] at this ⊢; omega)).mono ?_
      rintro e w8 ⟨v8, rfl, ho, hb⟩
      have HO8 := Lib.hid ho
      have HB8 := Lib.hid (since_trans HB7.out hb)
      clear ho hb
      go_wp2
      go_roundw
      case rel => exact ⟨k + 1, by omega, by go_num, by have := HO8.out; rw [HST.out]; simpa only [tyB, List.append_assoc] using this, HB8.out⟩
      case measure => exact own_meas hlt
    · obtain rfl : n0 = k := by omega
      have ho6 := HO5.out
      rw [List.take_of_length_le (by have := HL0.out; omega)] at ho6
      have HO6 := Lib.hid ho6
      clear ho6 HO5
      have x1 := since_cell HB5.out 1 _ rfl
      go_wp2
      go_loopw [5, 7] (fun v i wr => ∃ j : Nat, j ≤ n1 ∧ i = .int .i64 j ∧ Own8 wr (bs w #[.slice A0 n0 c0, .slice A1 n1 c1, .slice A2 n2 c2, .slice A3 n3 c3, .int .i64 sz]) v (headB (lens c.codes) (lens c.subs) sz ++ c.types.flatMap tyB ++ (c.codes.take j).flatten) ∧ Since w #[.slice A0 n0 c0, .slice A1 n1 c1, .slice A2 n2 c2, .slice A3 n3 c3, .int .i64 sz] wr) (fun _ i _ => n1 - (intOf i).toNat)
      case atStart => exact ⟨0, Nat.zero_le _, rfl, by have := HO6.out; simpa using this, HB5.out⟩
      case round =>
        obtain ⟨j, hj, rfl, ho, hb⟩ := hrel
        have HO7 := Lib.hid ho
        have HB7 := Lib.hid hb
        clear ho hb HO6 x0 x1
        have x1 := since_cell HB7.out 1 _ rfl
        by_cases hlj : j < n1
        · have hk2 : j < c.codes.length := by have := HL1.out; omega
          have hst := flatten_snoc c.codes j hk2
          obtain ⟨b1, o1, rfl, hcc⟩ := (HC.out.mono (since_below HB7.out)).2 (by omega)
          obtain ⟨p, hcell, hp⟩ := hcc j hk2
          have hsum := sumL_snoc c.codes j hk2
          have hbd := sumL_take_le 65535 c.codes (j + 1) (fun l hl => (HM.out.code l hl).2)
          obtain ⟨l, hl⟩ : ∃ l, l = c.codes.getD j [] := ⟨_, rfl⟩
          rw [← hl] at hp hst hsum
          have HP := Lib.hid hp
          have HST := Lib.hid hst
          have HR7 : Hid ((headB (lens c.codes) (lens c.subs) sz ++ c.types.flatMap tyB ++ (c.codes.take j).flatten).length + l.length ≤ reach) := Lib.hid (by
            simp only [List.length_append, headB_length, tysB_length, lens_length]
            have := HL1.out; have := HL2.out; have := HL0.out
            have h8 : c.codes.length * 65535 ≤ 1024 * 65535 := Nat.mul_le_mul_right _ (by omega)
            unfold sumL at hsum hbd
            unfold reach
            split <;> omega)
          clear hl hst hsum hbd hp hcc
          go_wp2_with (at_builtin; refine app_list (.tmp 61) (.tmp 66) rfl rfl _ _ _ _ l rfl HO7 rfl HP (since_size HB7.out) HR7 ?_)
          intro v8 w8 ho hb
          have HO8 := Lib.hid ho
          have HB8 := Lib.hid (since_trans HB7.out hb)
          clear ho hb
          go_wp2
          go_roundw
          case rel => exact ⟨j + 1, by omega, by go_num, by have := HO8.out; rw [HST.out]; simpa only [List.append_assoc] using this, HB8.out⟩
          case measure => exact own_meas hlj
        · obtain rfl : n1 = j := by omega
          have ho8 := HO7.out
          rw [List.take_of_length_le (by have := HL1.out; omega)] at ho8
          have HO8 := Lib.hid ho8
          clear ho8 HO7
          have x2 := since_cell HB7.out 2 _ rfl
          go_wp2
          go_loopw [5, 8] (fun v i wr => ∃ i3 : Nat, i3 ≤ n2 ∧ i = .int .i64 i3 ∧ Own8 wr (bs w #[.slice A0 n0 c0, .slice A1 n1 c1, .slice A2 n2 c2, .slice A3 n3 c3, .int .i64 sz]) v (headB (lens c.codes) (lens c.subs) sz ++ c.types.flatMap tyB ++ c.codes.flatten ++ (c.subs.take i3).flatten) ∧ Since w #[.slice A0 n0 c0, .slice A1 n1 c1, .slice A2 n2 c2, .slice A3 n3 c3, .int .i64 sz] wr) (fun _ i _ => n2 - (intOf i).toNat)
          case atStart => exact ⟨0, Nat.zero_le _, rfl, by have := HO8.out; simpa using this, HB7.out⟩
          case round =>
            obtain ⟨i3, hj3, rfl, ho, hb⟩ := hrel
            have HO9 := Lib.hid ho
            have HB9 := Lib.hid hb
            clear ho hb HO8 x1 x2
            have x2 := since_cell HB9.out 2 _ rfl
            have hbc := sumL_le 65535 c.codes (fun l hl => (HM.out.code l hl).2)
            by_cases hl3 : i3 < n2
            · have hk2 : i3 < c.subs.length := by have := HL2.out; omega
              have hst := flatten_snoc c.subs i3 hk2
              obtain ⟨b1, o1, rfl, hcc⟩ := (HS.out.mono (since_below HB9.out)).2 (by omega)
              obtain ⟨p, hcell, hp⟩ := hcc i3 hk2
              have hsum := sumL_snoc c.subs i3 hk2
              have hbd := sumL_take_le 4294967295 c.subs (i3 + 1) (fun l hl => (HM.out.sub l hl).2)
              obtain ⟨l, hl⟩ : ∃ l, l = c.subs.getD i3 [] := ⟨_, rfl⟩
              rw [← hl] at hp hst hsum
              have HP := Lib.hid hp
              have HST := Lib.hid hst
              have HR9 : Hid ((headB (lens c.codes) (lens c.subs) sz ++ c.types.flatMap tyB ++ c.codes.flatten ++ (c.subs.take i3).flatten).length + l.length ≤ reach) := Lib.hid (by
                simp only [List.length_append, headB_length, tysB_length, lens_length]
                have := HL1.out; have := HL2.out; have := HL0.out
                have h8 : c.codes.length * 65535 ≤ 1024 * 65535 := Nat.mul_le_mul_right _ (by omega)
                have h7 : c.subs.length * 4294967295 ≤ 256 * 4294967295 := Nat.mul_le_mul_right _ (by omega)
                unfold sumL at hsum hbd hbc
                unfold reach
                split <;> omega)
              clear hl hst hsum hbd hp hcc hbc
              go_wp2_with (at_builtin; refine app_list (.tmp 75) (.tmp 80) rfl rfl _ _ _ _ l rfl HO9 rfl HP (since_size HB9.out) HR9 ?_)
              intro v10 w10 ho hb
              have HO10 := Lib.hid ho
              have HB10 := Lib.hid (since_trans HB9.out hb)
              clear ho hb
              go_wp2
              go_roundw
              case rel => exact ⟨i3 + 1, by omega, by go_num, by have := HO10.out; rw [HST.out]; simpa only [List.append_assoc] using this, HB10.out⟩
              case measure => exact own_meas hl3
            · obtain rfl : n2 = i3 := by omega
              have ho10 := HO9.out
              rw [List.take_of_length_le (by have := HL2.out; omega)] at ho10
              have HO10 := Lib.hid ho10
              clear ho10 HO9
              have x3 := since_cell HB9.out 3 _ rfl
              have HP := Lib.hid (HD.out.mono (since_below HB9.out))
              have HR10 : Hid ((headB (lens c.codes) (lens c.subs) sz ++ c.types.flatMap tyB ++ c.codes.flatten ++ c.subs.flatten).length + c.data.length ≤ reach) := Lib.hid (by
                simp only [List.length_append, headB_length, tysB_length, lens_length]
                have := HL1.out; have := HL2.out; have := HL0.out; have := HL3.out
                have h8 : c.codes.length * 65535 ≤ 1024 * 65535 := Nat.mul_le_mul_right _ (by omega)
                have h7 : c.subs.length * 4294967295 ≤ 256 * 4294967295 := Nat.mul_le_mul_right _ (by omega)
                have hbd := sumL_le 4294967295 c.subs (fun l hl => (HM.out.sub l hl).2)
                unfold sumL at hbd hbc
                unfold reach
                split <;> omega)
              clear hbc
              go_wp2_with (at_builtin; refine app_list (.tmp 82) (.tmp 84) rfl rfl _ _ _ _ c.data rfl HO10 rfl HP (since_size HB9.out) HR10 ?_)
              intro v11 w11 ho hb
              have HO11 := Lib.hid ho
              have HB11 := Lib.hid (since_trans HB9.out hb)
              clear ho hb
              go_wp2
              go_ret2
              refine ⟨v11, rfl, ?_, since_below HB11.out⟩
              have := HO11.out
              rw [serB, HSZ.out]
              simpa only [List.append_assoc] using this

/-- The reference's Serialize. -/
theorem rser_any (v : Value) (c : Cont) (w : World) (h : ContV w v c) :
    Calls Try.prog 38 #[v] w fun e w' => ∃ v', e = .returned (.tuple #[v', .int .i64 (checkErr c)]) ∧ Own8 w' w.heap.size v' (serR c) ∧ Below w.heap.size w w' := by
  have h' := fun va : Array Value => h.mono (below_alloc w (.cells va 28))
  obtain ⟨vt, vc, vs, vd, rfl, ⟨A0, c0, rfl, _, _, _, ht⟩, ⟨A1, c1, rfl, _, _, hc⟩, ⟨A2, c2, rfl, _, _, hs⟩, hd⟩ := h
  have hd' := hd
  obtain ⟨A3, c3, rfl, _⟩ := hd'
  have hk := fun va => refCheck_any _ _ _ (h' va)
  by_cases e0 : checkErr c = 0
  · have hm := may_of c e0
    simp only [serR, e0, if_true]
    simp only [e0] at hk
    refine (rser_yes A0 A1 A2 A3 _ _ _ _ c0 c1 c2 c3 c w _ rfl rfl rfl rfl rfl hm ht hc hs hd (hk _)).mono ?_
    rintro e w' ⟨v', he, ho, hb⟩
    exact ⟨v', he, ho.base (by simp [bs]), hb⟩
  · rw [serR, if_neg e0]
    refine (rser_no _ e0 A0 A1 A2 A3 _ _ _ _ c0 c1 c2 c3 _ w (hk _)).mono ?_
    rintro e w' ⟨he, hb⟩
    exact ⟨_, he, Own8.nil _ _, hb⟩

set_option maxRecDepth 100000 in
/-- The reference's Size. -/
theorem rsize_any (v : Value) (c : Cont) (w : World) (h : ContV w v c) :
    Calls Try.prog 39 #[v] w fun e w' => e = .returned (.tuple #[.int .i64 (sizeN c), .int .i64 (checkErr c)]) ∧ Below w.heap.size w w' := by
  have h' := fun va : Array Value => h.mono (below_alloc w (.cells va 28))
  obtain ⟨vt, vc, vs, vd, rfl, ⟨A0, c0, rfl, _⟩, ⟨A1, c1, rfl, _⟩, ⟨A2, c2, rfl, _⟩, ⟨A3, c3, rfl, _⟩⟩ := h
  have hk := fun va => rser_any _ _ _ (h' va)
  have hl : ((serR c).length : Int) = sizeN c := by
    unfold serR sizeN
    split <;> simp
  have HL := Lib.hid hl
  have HK := Lib.hid hk
  generalize hR : sizeN c = R at *
  have HR := Lib.hid hR
  generalize hE : checkErr c = E at *
  have HE := Lib.hid hE
  clear hk hl h' hR hE
  go_enter Try.func39, Try.ntmps39
  go_wp2_with fail
  refine (HK.out _).mono ?_
  rintro e w1 ⟨v', rfl, ho, hb⟩
  obtain ⟨A, cc, rfl, _⟩ := own_shape ho
  have HB := Lib.hid (below_step (below_alloc _ _) hb)
  clear ho hb
  obtain ⟨nn, hnn⟩ : ∃ nn, nn = (serR c).length := ⟨_, rfl⟩
  rw [← hnn] at HL ⊢
  clear hnn
  go_wp2
  go_ret2
  exact ⟨ret_two HL.out rfl, HB.out⟩
end Go.Proofs.Ytkbboepopcebaaa
