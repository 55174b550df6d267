/- sameParts; copied. -/
import Derived.Test.YtkbboepopcebaaaC
namespace Go.Proofs.Ytkbboepopcebaaa
open Go.RowKit

set_option maxRecDepth 100000 in
theorem sameParts_ne (A B : Option Addr) (ca cb : Nat) (n m : Nat) (w : World) (hne : n ≠ m) : 
    Calls Try.prog 48 #[.slice A n ca, .slice B m cb] w fun e w' => e = .returned (.bool false) ∧ w = w' := by
  have h1 : (!(((n : Nat) : Int) == (m : Int))) = true := by simp; omega
  go_enter Try.func48, Try.ntmps48
  go_wp2
  go_ret
  exact ⟨rfl, rfl⟩

theorem eqp_step (la lb : List (List Int)) (h : la.length = lb.length) (k : Nat) (hk : k < la.length) (he : la.take k = lb.take k) : (la.take (k+1) = lb.take (k+1)) ↔ la.getD k [] = lb.getD k [] := by
  have hk2 : k < lb.length := by omega
  have e1 := List.take_succ_eq_append_getElem hk
  have e2 := List.take_succ_eq_append_getElem hk2
  rw [e1, e2, he, List.append_right_inj]
  simp [List.getD_eq_getElem?_getD, hk, hk2]

set_option maxRecDepth 100000 in
theorem sameParts_eq (A B : Option Addr) (ca cb : Nat) (la lb : List (List Int)) (w : World) (n : Nat) (hla : la.length = n) (hlb : lb.length = n) (ha : PartsR w A la) (hb : PartsR w B lb) :
    Calls Try.prog 48 #[.slice A n ca, .slice B n cb] w fun e w' => e = .returned (.bool (decide (la = lb))) ∧ ∃ k, w' = w.drewN k := by
  have h1 : (!(((n : Nat) : Int) == (n : Int))) = false := by simp
  have HA := Lib.hid hla; clear hla
  have HB := Lib.hid hlb; clear hlb
  have Ha := Lib.hid ha; clear ha
  have Hb := Lib.hid hb; clear hb
  go_enter Try.func48, Try.ntmps48
  go_wp2
  go_loopw [5] (fun i wr => ∃ k : Nat, k ≤ n ∧ i = .int .i64 k ∧ la.take k = lb.take k ∧ ∃ m, wr = w.drewN m) (fun i _ => n - (intOf i).toNat)
  case atStart => exact ⟨0, Nat.zero_le _, rfl, rfl, 0, rfl⟩
  case round =>
    obtain ⟨k, hk, rfl, he, hm⟩ := hrel
    have he' := Lib.hid he; clear he
    have hbw : Below w.heap.size w wr := by obtain ⟨m, rfl⟩ := hm; exact below_drewN (Below.refl _ _) _
    have HM := Lib.hid hm; clear hm
    have Ha' := Lib.hid (Ha.out.mono hbw)
    have Hb' := Lib.hid (Hb.out.mono hbw)
    clear hbw Ha Hb
    by_cases hlt : k < n
    · have hst := (eqp_step la lb (by have := HA.out; have := HB.out; omega) k (by have := HA.out; omega) he'.out)
      obtain ⟨b1, o1, rfl, hca⟩ := Ha'.out.2 (by have := HA.out; omega)
      obtain ⟨b2, o2, rfl, hcb⟩ := Hb'.out.2 (by have := HB.out; omega)
      obtain ⟨va, hra, hna⟩ := hca k (by have := HA.out; omega)
      obtain ⟨vb, hrb, hnb⟩ := hcb k (by have := HB.out; omega)
      clear hca hcb
      have hmx : n ≤ 9223372036854775807 := by have := Ha'.out.1; have := HA.out; unfold reach at *; omega
      obtain ⟨x, hx⟩ : ∃ x, x = la.getD k [] := ⟨_, rfl⟩
      obtain ⟨y, hy⟩ : ∃ y, y = lb.getD k [] := ⟨_, rfl⟩
      rw [← hx] at hna hst
      rw [← hy] at hnb hst
      have HST := Lib.hid hst
      have HX := Lib.hid hx
      have HY := Lib.hid hy
      obtain ⟨A1, c1, rfl, h1a, h1b, hna3⟩ := hna
      obtain ⟨A2, c2, rfl, h2a, h2b, hnb3⟩ := hnb
      have HNA := Lib.hid hna3
      have HNB := Lib.hid hnb3
      clear hx hy hna3 hnb3 hst h1a h1b h2a h2b
      have hcall : ∀ nn, Calls Try.prog 27 #[.slice A1 x.length c1, .slice A2 y.length c2] (wr.drewN nn) fun e w' => e = .returned (.bool (decide (x = y))) ∧ ∃ k, w' = (wr.drewN nn).drewN k := by
        intro nn
        exact sameBytes_any A1 A2 c1 c2 x y _ _ _ rfl rfl (HNA.out.mono (below_drewN (Below.refl _ _) _)) (HNB.out.mono (below_drewN (Below.refl _ _) _))
      have HCALL := Lib.hid hcall
      clear hcall
      obtain ⟨bq, hbq⟩ : ∃ bq, bq = decide (x = y) := ⟨_, rfl⟩
      rw [← hbq] at HCALL
      have HBQ := Lib.hid hbq
      clear hbq
      cases bq
      · go_wp2
        go_quiet ((go_at_call 27; exact Calls.quiet_of (HCALL.out _)))
        go_wp2
        go_ret
        obtain ⟨m, rfl⟩ := HM.out
        refine ⟨ret_bool ?_, _, World.drewN_drewN ..⟩
        symm
        simp only [decide_eq_false_iff_not]
        intro e
        have := HBQ.out
        symm at this
        simp only [decide_eq_false_iff_not] at this
        apply this
        rw [HX.out, HY.out, e]
      · go_wp2
        go_quiet ((go_at_call 27; exact Calls.quiet_of (HCALL.out _)))
        go_wp2
        go_roundw
        case rel =>
          obtain ⟨m, rfl⟩ := HM.out
          exact ⟨k + 1, by omega, by go_num, HST.out.2 (by have := HBQ.out; symm at this; simpa using this), _, World.drewN_drewN ..⟩
        case measure => simp [intOf]; omega
    · go_wp2
      go_ret
      have : k = n := by omega
      subst this
      obtain ⟨m, rfl⟩ := HM.out
      refine ⟨ret_bool ?_, _, rfl⟩
      have h2 := he'.out
      rw [List.take_of_length_le (by have := HA.out; omega), List.take_of_length_le (by have := HB.out; omega)] at h2
      simp [h2]

theorem sameParts_any (A B : Option Addr) (ca cb : Nat) (la lb : List (List Int)) (n m : Nat) (w : World) (hn : n = la.length) (hm : m = lb.length) (ha : PartsR w A la) (hb : PartsR w B lb) :
    Calls Try.prog 48 #[.slice A n ca, .slice B m cb] w fun e w' => e = .returned (.bool (decide (la = lb))) ∧ ∃ k, w' = w.drewN k := by
  by_cases h : n = m
  · subst h
    exact sameParts_eq A B ca cb la lb w n hn.symm hm.symm ha hb
  · refine (sameParts_ne A B ca cb n m w h).mono ?_
    rintro e w' ⟨rfl, rfl⟩
    refine ⟨ret_bool ?_, 0, rfl⟩
    symm
    simp only [decide_eq_false_iff_not]
    intro e
    apply h
    rw [hn, hm, e]
end Go.Proofs.Ytkbboepopcebaaa
