/- The reference's Check. -/
import Derived.Test.YtkbboepopcebaaaJ
namespace Go.Proofs.Ytkbboepopcebaaa
open Go.RowKit

def tWrong (f : Bool) (t : Ty) : Int := if fitsIn f t.i then (if fitsOut f t.o then (if fitsMost t.m then 3 else 2) else 1) else 0
def TWr (i x1 x2 x3 : Int) (w : World) (e : Ending) (w' : World) : Prop := ∃ r, e = .returned (.int .i64 r) ∧ w' = w.alloc (.cells #[.int .i64 x1, .int .i64 x2, .int .i64 x3] 69) ∧ r = tWrong (i == 0) ⟨x1, x2, x3⟩

set_option maxRecDepth 100000 in
set_option maxHeartbeats 2000000 in
theorem typeWrong_any (i x1 x2 x3 : Int) (w : World) : Calls Try.prog 67 #[.int .i64 i, .agg #[.int .i64 x1, .int .i64 x2, .int .i64 x3]] w (TWr i x1 x2 x3 w) := by
  go_enter Try.func67, Try.ntmps67
  go_wp2
  all_goals go_ret
  all_goals refine ⟨_, rfl, rfl, ?_⟩

  all_goals (grind [tWrong, fitsIn, fitsOut, fitsMost])

theorem tWrong_lt (f : Bool) (t : Ty) : (tWrong f t < 3 ↔ tyOk f t = false) ∧ tWrong f t ≤ 3 := by
  unfold tWrong tyOk
  cases fitsIn f t.i <;> cases fitsOut f t.o <;> cases fitsMost t.m <;> simp
theorem tWrong_ok (f : Bool) (t : Ty) : tWrong f t < 3 ∨ (tWrong f t = 3 ∧ tyOk f t = true) := by
  unfold tWrong tyOk
  cases fitsIn f t.i <;> cases fitsOut f t.o <;> cases fitsMost t.m <;> simp
section
variable (A0 A1 A2 A3 : Option Addr) (n0 n1 n2 n3 c0 c1 c2 c3 : Nat) (sz : Int) (w : World)

set_option maxRecDepth 100000 in
theorem rcheck_none (g1 : n1 = 0) :
    Calls Try.prog 47 #[.agg #[.slice A0 n0 c0, .slice A1 n1 c1, .slice A2 n2 c2, .slice A3 n3 c3, .int .i64 sz]] w fun e w' => e = .returned (.int .i64 55) ∧ Below w.heap.size w w' := by
  subst g1
  go_enter Try.func47, Try.ntmps47
  go_wp2
  go_ret
  exact ⟨rfl, below_alloc _ _⟩

set_option maxRecDepth 100000 in
theorem rcheck_many (g1 : 1024 < n1) :
    Calls Try.prog 47 #[.agg #[.slice A0 n0 c0, .slice A1 n1 c1, .slice A2 n2 c2, .slice A3 n3 c3, .int .i64 sz]] w fun e w' => e = .returned (.int .i64 55) ∧ Below w.heap.size w w' := by
  have hq : ¬ (n1 : Int) < 1 := by omega
  go_enter Try.func47, Try.ntmps47
  go_wp2
  go_ret
  exact ⟨rfl, below_alloc _ _⟩

set_option maxRecDepth 100000 in
theorem rcheck_types (g1 : 0 < n1) (g2 : n1 ≤ 1024) (g3 : ¬ (n0 : Int) = (n1 : Int)) :
    Calls Try.prog 47 #[.agg #[.slice A0 n0 c0, .slice A1 n1 c1, .slice A2 n2 c2, .slice A3 n3 c3, .int .i64 sz]] w fun e w' => e = .returned (.int .i64 54) ∧ Below w.heap.size w w' := by
  have hq : ¬ (n1 : Int) < 1 := by omega
  have hz : (!((n0 : Int) == (n1 : Int))) = true := by simp; omega
  go_enter Try.func47, Try.ntmps47
  go_wp2
  go_ret
  exact ⟨rfl, below_alloc _ _⟩

def RErr (ts : List Ty) (codes subs : List (List Int)) (n3 : Nat) (sz : Int) : Int :=
  if partsErr 65535 codes ≠ 0 then partsErr 65535 codes
  else if 256 < subs.length then 57
  else if partsErr 4294967295 subs ≠ 0 then partsErr 4294967295 subs
  else if 65535 < sz then 2
  else if sz < (n3 : Int) then 1
  else tysErr ts

set_option maxRecDepth 100000 in
set_option maxHeartbeats 4000000 in
theorem rcheck_rest (ts : List Ty) (codes subs : List (List Int)) (hl0 : ts.length = n0) (hl1 : codes.length = n0) (hl2 : subs.length = n2) (g1 : 0 < n0) (g2 : n0 ≤ 1024)
    (ha : CellsR (w.alloc (.cells #[.slice A0 n0 c0, .slice A1 n0 c1, .slice A2 n2 c2, .slice A3 n3 c3, .int .i64 sz] 28)) A0 (tysOf ts)) (hc : PartsR (w.alloc (.cells #[.slice A0 n0 c0, .slice A1 n0 c1, .slice A2 n2 c2, .slice A3 n3 c3, .int .i64 sz] 28)) A1 codes) (hs : PartsR (w.alloc (.cells #[.slice A0 n0 c0, .slice A1 n0 c1, .slice A2 n2 c2, .slice A3 n3 c3, .int .i64 sz] 28)) A2 subs) :
    Calls Try.prog 47 #[.agg #[.slice A0 n0 c0, .slice A1 n0 c1, .slice A2 n2 c2, .slice A3 n3 c3, .int .i64 sz]] w fun e w' => e = .returned (.int .i64 (RErr ts codes subs n3 sz)) ∧ Below w.heap.size w w' := by
  have HA := Lib.hid ha; clear ha
  have HC := Lib.hid hc; clear hc
  have HS := Lib.hid hs; clear hs
  have HL0 := Lib.hid hl0; clear hl0
  have HL1 := Lib.hid hl1; clear hl1
  have HL2 := Lib.hid hl2; clear hl2
  have hq : ¬ (n0 : Int) < 1 := by omega
  generalize hR : RErr ts codes subs n3 sz = R
  have HR := Lib.hid hR; clear hR
  go_enter Try.func47, Try.ntmps47
  go_wp2
  go_loop [3] (fun i => ∃ k : Nat, k ≤ n0 ∧ i = .int .i64 k ∧ partsErr 65535 (codes.drop k) = partsErr 65535 codes) (fun i => n0 - (intOf i).toNat)
  case atStart => exact ⟨0, Nat.zero_le _, rfl, rfl⟩
  case round =>
    obtain ⟨k, hk, rfl, he⟩ := hrel
    have HE := Lib.hid he; clear he
    by_cases hlt : k < n0
    · have hk2 : k < codes.length := by have := HL1.out; omega
      obtain ⟨b1, o1, rfl, hc⟩ := HC.out.2 (by omega)
      obtain ⟨v, hcell, B1, d1, rfl, _, _, _⟩ := hc k hk2
      have hd := drop_get codes k [] hk2
      obtain ⟨l, hl⟩ : ∃ l, l = codes.getD k [] := ⟨_, rfl⟩
      rw [← hl] at hcell hd
      have HD := Lib.hid hd
      obtain ⟨m, hm⟩ : ∃ m, m = l.length := ⟨_, rfl⟩
      rw [← hm] at hcell
      have HM := Lib.hid hm
      clear hc hl hd hm
      by_cases h0 : m = 0
      · have h1 : ((m : Int) == 0) = true := by simp [h0]
        have H0 := Lib.hid h0
        clear h0
        go_wp2
        go_ret
        refine ⟨ret_int ?_, below_alloc _ _⟩
        have h9 : partsErr 65535 codes = 56 := by rw [← HE.out, HD.out, partsErr, if_pos (by have := HM.out; have := H0.out; omega)]
        rw [← HR.out, RErr, h9, if_pos (by decide)]
      · have h1 : ((m : Int) == 0) = false := by simp; omega
        by_cases h2 : 65535 < (m : Int)
        · go_wp2
          go_ret
          refine ⟨ret_int ?_, below_alloc _ _⟩
          have h9 : partsErr 65535 codes = 2 := by rw [← HE.out, HD.out, partsErr, if_neg (by have := HM.out; omega), if_pos (by have := HM.out; omega)]
          rw [← HR.out, RErr, h9, if_pos (by decide)]
        · go_wp2
          go_round
          case rel =>
            refine ⟨k + 1, by omega, by go_num, ?_⟩
            rw [← HE.out, HD.out, partsErr, if_neg (by have := HM.out; omega), if_neg (by have := HM.out; omega)]
          case measure => simp [intOf]; omega
    · have h8 := Lib.hid (show partsErr 65535 codes = 0 by rw [← HE.out, List.drop_of_length_le (by have := HL1.out; omega)]; rfl)
      clear HE
      have H1 := Lib.hid h8.out
      clear h8
      by_cases g4 : 256 < n2
      · go_wp2
        go_ret
        refine ⟨ret_int ?_, below_alloc _ _⟩
        rw [← HR.out, RErr, H1.out, if_neg (by decide), if_pos (by have := HL2.out; omega)]
      go_wp2
      go_loop [4] (fun i => ∃ k : Nat, k ≤ n2 ∧ i = .int .i64 k ∧ partsErr 4294967295 (subs.drop k) = partsErr 4294967295 subs) (fun i => n2 - (intOf i).toNat)
      case atStart => exact ⟨0, Nat.zero_le _, rfl, rfl⟩
      case round =>
        obtain ⟨k, hk, rfl, he⟩ := hrel
        have HE := Lib.hid he; clear he
        by_cases hlt : k < n2
        · have hk2 : k < subs.length := by have := HL2.out; omega
          obtain ⟨b1, o1, rfl, hc⟩ := HS.out.2 (by omega)
          obtain ⟨v, hcell, B1, d1, rfl, _, _, _⟩ := hc k hk2
          have hd := drop_get subs k [] hk2
          obtain ⟨l, hl⟩ : ∃ l, l = subs.getD k [] := ⟨_, rfl⟩
          rw [← hl] at hcell hd
          have HD := Lib.hid hd
          obtain ⟨m, hm⟩ : ∃ m, m = l.length := ⟨_, rfl⟩
          rw [← hm] at hcell
          have HM := Lib.hid hm
          clear hc hl hd hm
          by_cases h0 : m = 0
          · have h1 : ((m : Int) == 0) = true := by simp [h0]
            have H0 := Lib.hid h0
            clear h0
            go_wp2
            go_ret
            refine ⟨ret_int ?_, below_alloc _ _⟩
            have h9 : partsErr 4294967295 subs = 56 := by rw [← HE.out, HD.out, partsErr, if_pos (by have := HM.out; have := H0.out; omega)]
            rw [← HR.out, RErr, H1.out, if_neg (by decide), if_neg (by have := HL2.out; omega), h9, if_pos (by decide)]
          · have h1 : ((m : Int) == 0) = false := by simp; omega
            by_cases h2 : 4294967295 < (m : Int)
            · go_wp2
              go_ret
              refine ⟨ret_int ?_, below_alloc _ _⟩
              have h9 : partsErr 4294967295 subs = 2 := by rw [← HE.out, HD.out, partsErr, if_neg (by have := HM.out; omega), if_pos (by have := HM.out; omega)]
              rw [← HR.out, RErr, H1.out, if_neg (by decide), if_neg (by have := HL2.out; omega), h9, if_pos (by decide)]
            · go_wp2
              go_round
              case rel =>
                refine ⟨k + 1, by omega, by go_num, ?_⟩
                rw [← HE.out, HD.out, partsErr, if_neg (by have := HM.out; omega), if_neg (by have := HM.out; omega)]
              case measure => simp [intOf]; omega
        · have h8 := Lib.hid (show partsErr 4294967295 subs = 0 by rw [← HE.out, List.drop_of_length_le (by have := HL2.out; omega)]; rfl)
          clear HE

          by_cases g5 : 65535 < sz
          · go_wp2
            go_ret
            refine ⟨ret_int ?_, below_alloc _ _⟩
            rw [← HR.out, RErr, H1.out, if_neg (by decide), if_neg (by have := HL2.out; omega), h8.out, if_neg (by decide), if_pos (by omega)]
          by_cases g6 : sz < (n3 : Int)
          · go_wp2
            go_ret
            refine ⟨ret_int ?_, below_alloc _ _⟩
            rw [← HR.out, RErr, H1.out, if_neg (by decide), if_neg (by have := HL2.out; omega), h8.out, if_neg (by decide), if_neg (by omega), if_pos (by omega)]
          have HR2 := Lib.hid (show tysErr ts = R by rw [← HR.out, RErr, H1.out, if_neg (by decide), if_neg (by have := HL2.out; omega), h8.out, if_neg (by decide), if_neg g5, if_neg g6])
          clear HR h8 H1 HC HS
          go_wp2
          go_loopw [5] (fun i wr => ∃ k : Nat, k ≤ n0 ∧ i = .int .i64 k ∧ tysOk ((k : Int) == 0) (ts.drop k) = tysOk true ts ∧ Below (w.heap.size + 1) (w.alloc (.cells #[.slice A0 n0 c0, .slice A1 n0 c1, .slice A2 n2 c2, .slice A3 n3 c3, .int .i64 sz] 28)) wr ∧ wr.cell? ⟨w.heap.size, 0, none⟩ = some (.slice A0 n0 c0)) (fun i _ => n0 - (intOf i).toNat)
          case atStart => exact ⟨0, Nat.zero_le _, rfl, rfl, Below.refl _ _, box1_at _ _ _ _ _ rfl⟩
          case round =>
            obtain ⟨k, hk, rfl, he, hb, hbox⟩ := hrel
            have HE := Lib.hid he
            have HB := Lib.hid (show Below (w.alloc (.cells #[.slice A0 n0 c0, .slice A1 n0 c1, .slice A2 n2 c2, .slice A3 n3 c3, .int .i64 sz] 28)).heap.size (w.alloc (.cells #[.slice A0 n0 c0, .slice A1 n0 c1, .slice A2 n2 c2, .slice A3 n3 c3, .int .i64 sz] 28)) wr by simpa using hb)
            clear he hb
            by_cases hlt : k < n0
            · have hk2 : k < ts.length := by have := HL0.out; omega
              obtain ⟨b1, o1, rfl, i1, i2, i3⟩ := types_at (HA.out.mono HB.out) k hk2
              have hd := drop_get ts k ty0 hk2
              obtain ⟨x, hx⟩ : ∃ x, x = ts.getD k ty0 := ⟨_, rfl⟩
              rw [← hx] at i1 i2 i3 hd
              have HD := Lib.hid hd
              clear hx hd
              obtain ⟨x1, x2, x3⟩ := x
              go_wp2_with fail
              refine (typeWrong_any _ _ _ _ _).mono ?_
              rintro e w2 ⟨r, rfl, rfl, hr⟩
              have ht := tWrong_ok ((k : Int) == 0) ⟨x1, x2, x3⟩
              rw [← hr] at ht
              have HR3 := Lib.hid hr
              clear hr
              by_cases h3 : r < 3
              · have HT : Hid (tyOk ((k : Int) == 0) ⟨x1, x2, x3⟩ = false) := by
                  have := (tWrong_lt ((k : Int) == 0) ⟨x1, x2, x3⟩).1
                  rw [← HR3.out] at this
                  exact this.1 h3
                clear ht
                go_wp2
                go_ret
                refine ⟨ret_int ?_, below_step (below_alloc _ _) (below_step HB.out (below_alloc _ _))⟩
                have h9 : tysOk true ts = false := by
                  rw [← HE.out, HD.out, tysOk, HT.out]; rfl
                rw [← HR2.out, tysErr, h9]; rfl
              · have HT : Hid (tyOk ((k : Int) == 0) ⟨x1, x2, x3⟩ = true) := by
                  rcases ht with h | h
                  · exact absurd h h3
                  · exact h.2
                clear ht
                go_wp2
                go_roundw
                case rel =>
                  refine ⟨k + 1, by omega, by go_num, ?_, ?_, cell_keep (below_alloc _ _) hbox⟩
                  · rw [← HE.out, HD.out, tysOk, HT.out, Bool.true_and]
                    have : (((k + 1 : Nat) : Int) == 0) = false := by simp; omega
                    rw [this]
                  · have := below_step HB.out (below_alloc wr (.cells #[.int .i64 x1, .int .i64 x2, .int .i64 x3] 69))
                    simpa using this
                case measure => simp [intOf]; omega
            · go_wp2
              go_ret
              refine ⟨ret_int ?_, below_step (below_alloc _ _) HB.out⟩
              rw [← HR2.out, tysErr, ← HE.out, List.drop_of_length_le (by have := HL0.out; omega)]
              rfl

end

/-- The reference's check. -/
theorem rcheck_any (v : Value) (c : Cont) (w : World) (h : ContV w v c) :
    Calls Try.prog 47 #[v] w fun e w' => e = .returned (.int .i64 (checkErr c)) ∧ Below w.heap.size w w' := by
  obtain ⟨vt, vc, vs, vd, rfl, ⟨A0, c0, rfl, _, _, hr0, ht⟩, ⟨A1, c1, rfl, _, _, hc⟩, ⟨A2, c2, rfl, _, _, hs⟩, ⟨A3, c3, rfl, _, _, hd⟩⟩ := h
  unfold checkErr
  by_cases g1 : c.codes.length = 0
  · rw [if_pos (.inl g1)]
    exact rcheck_none A0 A1 A2 A3 _ _ _ _ c0 c1 c2 c3 _ w g1
  by_cases g2 : 1024 < c.codes.length
  · rw [if_pos (.inr g2)]
    exact rcheck_many A0 A1 A2 A3 _ _ _ _ c0 c1 c2 c3 _ w g2
  rw [if_neg (by omega)]
  by_cases g3 : c.types.length = c.codes.length
  case neg =>
    rw [if_pos g3]
    exact rcheck_types A0 A1 A2 A3 _ _ _ _ c0 c1 c2 c3 _ w (by omega) (by omega) (by omega)
  rw [if_neg (by omega)]
  rw [← g3]
  exact rcheck_rest A0 A1 A2 A3 _ _ _ c0 c1 c2 c3 _ w c.types c.codes c.subs rfl g3.symm rfl (by omega) (by omega) (ht.mono (below_alloc _ _)) (hc.mono (below_alloc _ _)) (hs.mono (below_alloc _ _))

set_option maxRecDepth 100000 in
theorem refCheck_any (v : Value) (c : Cont) (w : World) (h : ContV w v c) :
    Calls Try.prog 19 #[v] w fun e w' => e = .returned (.int .i64 (checkErr c)) ∧ Below w.heap.size w w' := by
  have h' := fun va : Array Value => h.mono (below_alloc w (.cells va 28))
  obtain ⟨vt, vc, vs, vd, rfl, ⟨A0, c0, rfl, _⟩, ⟨A1, c1, rfl, _⟩, ⟨A2, c2, rfl, _⟩, ⟨A3, c3, rfl, _⟩⟩ := h
  have hc := fun va => rcheck_any _ _ _ (h' va)
  have HC := Lib.hid hc
  generalize checkErr c = R at *
  clear hc h'
  go_enter Try.func19, Try.ntmps19
  go_wp2_with fail
  refine (HC.out _).mono ?_
  rintro e w1 ⟨rfl, hb⟩
  have HB := Lib.hid (below_step (below_alloc _ _) hb)
  clear hb
  go_wp2
  go_ret
  exact ⟨rfl, HB.out⟩
end Go.Proofs.Ytkbboepopcebaaa
