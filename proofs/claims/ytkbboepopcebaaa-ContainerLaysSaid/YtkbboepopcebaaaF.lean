/- The bounds of a type's fields: the closures that container.bounds makes. -/
import Derived.Test.YtkbboepopcebaaaE
import Derived.Laws.EntriesVeiled
namespace Go.Proofs.Ytkbboepopcebaaa
open Go.RowKit

def fitsIn (first : Bool) (v : Int) : Bool := decide (0 ≤ v) && decide (v ≤ 127) && (!first || (v == 0))
def fitsOut (first : Bool) (v : Int) : Bool := decide (0 ≤ v) && decide (v ≤ 128) && (!first || (v == 128))
def fitsMost (v : Int) : Bool := decide (0 ≤ v) && decide (v ≤ 1023)

set_option maxRecDepth 100000 in
theorem fits_in (first : Bool) (v : Int) (w : World) : Calls Try.prog 72 #[.bool first, .int .i64 v] w fun e w' => e = .returned (.bool (fitsIn first v)) ∧ w = w' := by
  by_cases h1 : 0 ≤ v
  · by_cases h2 : v ≤ 127
    · cases first
      · go_enter Try.func72, Try.ntmps72
        go_wp2
        go_ret
        exact ⟨ret_bool (by simp [fitsIn, h1, h2]), rfl⟩
      · by_cases h3 : v = 0
        · have h4 : (v == 0) = true := by simp [h3]
          have H3 := Lib.hid h3; clear h3
          go_enter Try.func72, Try.ntmps72
          go_wp2
          go_ret
          exact ⟨ret_bool (by simp [fitsIn, h1, h2, h4]), rfl⟩
        · have h4 : (v == 0) = false := by simp [h3]
          clear h3
          go_enter Try.func72, Try.ntmps72
          go_wp2
          go_ret
          exact ⟨ret_bool (by simp [fitsIn, h4]), rfl⟩
    · go_enter Try.func72, Try.ntmps72
      go_wp2
      all_goals go_ret
      all_goals exact ⟨ret_bool (by simp [fitsIn]; intros; omega), rfl⟩
  · go_enter Try.func72, Try.ntmps72
    go_wp2
    all_goals go_ret
    all_goals exact ⟨ret_bool (by simp [fitsIn]; intros; omega), rfl⟩

set_option maxRecDepth 100000 in
theorem fits_out (first : Bool) (v : Int) (w : World) : Calls Try.prog 74 #[.bool first, .int .i64 v] w fun e w' => e = .returned (.bool (fitsOut first v)) ∧ w = w' := by
  by_cases h1 : 0 ≤ v
  · by_cases h2 : v ≤ 128
    · cases first
      · go_enter Try.func74, Try.ntmps74
        go_wp2
        go_ret
        exact ⟨ret_bool (by simp [fitsOut, h1, h2]), rfl⟩
      · by_cases h3 : v = 128
        · have h4 : (v == 128) = true := by simp [h3]
          have H3 := Lib.hid h3; clear h3
          go_enter Try.func74, Try.ntmps74
          go_wp2
          go_ret
          exact ⟨ret_bool (by simp [fitsOut, h1, h2, h4]), rfl⟩
        · have h4 : (v == 128) = false := by simp [h3]
          clear h3
          go_enter Try.func74, Try.ntmps74
          go_wp2
          go_ret
          exact ⟨ret_bool (by simp [fitsOut, h4]), rfl⟩
    · go_enter Try.func74, Try.ntmps74
      go_wp2
      all_goals go_ret
      all_goals exact ⟨ret_bool (by simp [fitsOut]; intros; omega), rfl⟩
  · go_enter Try.func74, Try.ntmps74
    go_wp2
    all_goals go_ret
    all_goals exact ⟨ret_bool (by simp [fitsOut]; intros; omega), rfl⟩

set_option maxRecDepth 100000 in
theorem fits_most (first : Bool) (v : Int) (w : World) : Calls Try.prog 76 #[.bool first, .int .i64 v] w fun e w' => e = .returned (.bool (fitsMost v)) ∧ w = w' := by
  by_cases h1 : 0 ≤ v
  · by_cases h2 : v ≤ 1023
    all_goals
      go_enter Try.func76, Try.ntmps76
      go_wp2
      go_ret
      exact ⟨ret_bool (by simp [fitsMost, h1]; try omega), rfl⟩
  · go_enter Try.func76, Try.ntmps76
    go_wp2
    all_goals go_ret
    all_goals exact ⟨ret_bool (by simp [fitsMost]; intros; omega), rfl⟩

set_option maxRecDepth 100000 in
theorem value_in (b : Nat) (w : World) : Calls Try.prog 73 #[.pointer (some ⟨b, 0, none⟩)] w fun e w' => e = .returned (.pointer (some ⟨b, 0, none⟩)) ∧ w = w' := by
  go_enter Try.func73, Try.ntmps73
  go_wp2
  go_ret
  exact ⟨rfl, rfl⟩

set_option maxRecDepth 100000 in
theorem value_out (b : Nat) (w : World) : Calls Try.prog 75 #[.pointer (some ⟨b, 0, none⟩)] w fun e w' => e = .returned (.pointer (some ⟨b, 1, none⟩)) ∧ w = w' := by
  go_enter Try.func75, Try.ntmps75
  go_wp2
  go_ret
  exact ⟨rfl, rfl⟩

set_option maxRecDepth 100000 in
theorem value_most (b : Nat) (w : World) : Calls Try.prog 77 #[.pointer (some ⟨b, 0, none⟩)] w fun e w' => e = .returned (.pointer (some ⟨b, 2, none⟩)) ∧ w = w' := by
  go_enter Try.func77, Try.ntmps77
  go_wp2
  go_ret
  exact ⟨rfl, rfl⟩
def boundsV : Value := .agg #[.int .i64 1, .func (.func 72) #[] #[], .func (.func 73) #[] #[], .int .i64 1, .func (.func 74) #[] #[], .func (.func 75) #[] #[], .int .i64 2, .func (.func 76) #[] #[], .func (.func 77) #[] #[]]
set_option maxRecDepth 100000 in
theorem bounds_any (w : World) : Calls Try.prog 46 #[] w fun e w' => e = .returned boundsV ∧ Below w.heap.size w w' := by
  go_enter Try.func46, Try.ntmps46
  go_wp2
  exact bodyPost_ret (v := boundsV) (by simp [results, Try.results46, go_sem]; rfl) rfl ⟨rfl, below_alloc _ _⟩
end Go.Proofs.Ytkbboepopcebaaa
