/- What Check says, as a plain function; container.parts. -/
import Derived.Test.YtkbboepopcebaaaF
namespace Go.Proofs.Ytkbboepopcebaaa
open Go.RowKit

def partsErr (most : Int) : List (List Int) → Int
  | [] => 0
  | p :: r => if p.length = 0 then 56 else if most < (p.length : Int) then 2 else partsErr most r
def tyOk (first : Bool) (t : Ty) : Bool := fitsIn first t.i && (fitsOut first t.o && fitsMost t.m)
def tysOk : Bool → List Ty → Bool
  | _, [] => true
  | f, t :: r => tyOk f t && tysOk false r
def tysErr (ts : List Ty) : Int := if tysOk true ts then 0 else 59
def checkErr (c : Cont) : Int :=
  if c.codes.length = 0 ∨ 1024 < c.codes.length then 55
  else if c.types.length ≠ c.codes.length then 54
  else if partsErr 65535 c.codes ≠ 0 then partsErr 65535 c.codes
  else if 256 < c.subs.length then 57
  else if partsErr 4294967295 c.subs ≠ 0 then partsErr 4294967295 c.subs
  else if 65535 < c.size then 2
  else if c.size < (c.data.length : Int) then 1
  else tysErr c.types

theorem drop_get {α : Type} (l : List α) (k : Nat) (d : α) (h : k < l.length) : l.drop k = l.getD k d :: l.drop (k + 1) := by
  rw [List.drop_eq_getElem_cons h]
  simp [List.getD_eq_getElem?_getD, h]
theorem ret_int {k : IntKind} {a b : Int} (h : a = b) : Ending.returned (.int k a) = .returned (.int k b) := by rw [h]

set_option maxRecDepth 100000 in
theorem parts_any (A : Option Addr) (c n : Nat) (most : Int) (ll : List (List Int)) (w : World) (hn : n = ll.length) (h : PartsR w A ll) :
    Calls Try.prog 45 #[.slice A n c, .int .i64 most] w fun e w' => e = .returned (.int .i64 (partsErr most ll)) ∧ w = w' := by
  have HN := Lib.hid hn
  have hmx : n ≤ 9223372036854775807 := by have := h.1; unfold reach at this; omega
  clear hn
  have HP := Lib.hid h; clear h
  go_enter Try.func45, Try.ntmps45
  go_wp2
  go_loop [6, 9] (fun _ i => ∃ k : Nat, k ≤ n ∧ i = .int .i64 k ∧ partsErr most (ll.drop k) = partsErr most ll) (fun _ i => n - (intOf i).toNat)
  case atStart => exact ⟨0, Nat.zero_le _, rfl, rfl⟩
  case round =>
    obtain ⟨k, hk, rfl, he⟩ := hrel
    have he' := Lib.hid he; clear he
    by_cases hlt : k < n
    · have hk2 : k < ll.length := by have := HN.out; omega
      obtain ⟨b1, o1, rfl, hc⟩ := HP.out.2 (by omega)
      obtain ⟨v, hcell, A1, c1, rfl, _, _, _⟩ := hc k hk2
      have hd := drop_get ll k [] hk2
      obtain ⟨l, hl⟩ : ∃ l, l = ll.getD k [] := ⟨_, rfl⟩
      rw [← hl] at hcell hd
      have HL := Lib.hid hl
      have HD := Lib.hid hd
      clear hc hl hd
      obtain ⟨m, hm⟩ : ∃ m, m = l.length := ⟨_, rfl⟩
      rw [← hm] at hcell
      have HM := Lib.hid hm
      clear hm
      by_cases h0 : m = 0
      · have h1 : ((m : Int) == 0) = true := by simp [h0]
        have H0 := Lib.hid h0
        clear h0
        go_wp2
        go_ret
        refine ⟨ret_int ?_, rfl⟩
        rw [← he'.out, HD.out, partsErr, if_pos (by have := HM.out; have := H0.out; omega)]
      · have h1 : ((m : Int) == 0) = false := by simp; omega
        by_cases h2 : most < (m : Int)
        · go_wp2
          go_ret
          refine ⟨ret_int ?_, rfl⟩
          rw [← he'.out, HD.out, partsErr, if_neg (by have := HM.out; omega), if_pos (by have := HM.out; omega)]
        · go_wp2
          go_round
          case rel =>
            refine ⟨k + 1, by omega, by go_num, ?_⟩
            rw [← he'.out, HD.out, partsErr, if_neg (by have := HM.out; omega), if_neg (by have := HM.out; omega)]
          case measure => simp [intOf]; omega
    · go_wp2
      go_ret
      refine ⟨ret_int ?_, rfl⟩
      rw [← he'.out, List.drop_of_length_le (by have := HN.out; omega)]
      rfl
end Go.Proofs.Ytkbboepopcebaaa
