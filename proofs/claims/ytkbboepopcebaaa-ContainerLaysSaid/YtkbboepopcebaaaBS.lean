/- slices.Clone at types; the reference's copied. -/
import Derived.Test.YtkbboepopcebaaaAT
import Derived.Test.YtkbboepopcebaaaAA
namespace Go.Proofs.Ytkbboepopcebaaa
open Go.RowKit

set_option maxRecDepth 100000 in
theorem tclone_some (ad : Addr) (n c : Nat) (ts : List Ty) (w : World) (hx : ts.length = n) (h : ∀ j v, (tysOf ts)[j]? = some v → w.cell? (ad.add j) = some v) (hl : n ≤ 4294967296) :
    Calls Try.prog 59 #[.slice (some ad) n c] w fun e w' => ∃ v, e = .returned v ∧ w'.ownsRow w.heap.size 69 3 v n (tysOf ts) ∧ Below w.heap.size w w' := by
  obtain ⟨i0, hi, hz0, hz1, hz2⟩ := info_parts infoT
  have HX := Lib.hid hx; clear hx
  have HL := Lib.hid hl; clear hl
  have HC : Hid (∀ j v, (tysOf ts)[j]? = some v → (w.alloc (.cells #[] 69)).cell? (ad.add j) = some v) := Lib.hid fun j v hv => cell_keep (below_alloc _ _) (h j v hv)
  clear h
  have hn := fun (w : World) => Lib.run_eql_slice_nil (P := Try.prog) w 25 69 (some ad) n c 0 0 Try.underlying25
  have h1 := tysOf_one ts
  go_enter Try.func59, Try.ntmps59
  go_wp2_with (at_builtin; refine wpList_append_own _ rfl _ _ 25 rfl w.heap.size 69 i0 (.agg #[.int .i64 0, .int .i64 0, .int .i64 0]) 3 24 Try.underlying25 hi hz0 hz1 hz2 (by decide) (by decide) _ _ _ rfl (own_empty _ _ _) ad n c (tysOf ts) rfl ?c0 HC.out h1 ?c3 ?c4 ?c5 ?_)
  case c0 => rw [tysOf_length, HX.out]
  case c3 => have := HL.out; unfold maxLen; omega
  case c4 => have := HL.out; omega
  case c5 => simp
  intro v' w1 hown hg _
  have hown2 : w1.ownsRow w.heap.size 69 3 v' n (tysOf ts) := by simpa only [Nat.zero_add, List.nil_append] using hown
  clear hown
  go_wp2
  go_ret
  exact ⟨v', rfl, hown2, (below_alloc _ _).grown hg (by simp) (by simp [Value.ownBlock])⟩
set_option maxRecDepth 100000 in
theorem tclone_none (w : World) :
    Calls Try.prog 59 #[.slice none 0 0] w fun e w' => ∃ v, e = .returned v ∧ w'.ownsRow w.heap.size 69 3 v 0 [] ∧ Below w.heap.size w w' := by
  have hn := fun (w : World) => Lib.run_eql_slice_nil (P := Try.prog) w 25 69 none 0 0 0 0 Try.underlying25
  go_enter Try.func59, Try.ntmps59
  go_wp2
  go_ret
  exact ⟨_, rfl, World.ownsRow_nil _ _ _ _, Below.refl _ _⟩
/-- slices.Clone: the same types in new memory. -/
theorem tclone_any (v : Value) (ts : List Ty) (w : World) (h : TypesV w v ts) (hl : ts.length ≤ 4294967296) :
    Calls Try.prog 59 #[v] w fun e w' => ∃ v', e = .returned v' ∧ w'.ownsRow w.heap.size 69 3 v' ts.length (tysOf ts) ∧ Below w.heap.size w w' := by
  obtain ⟨A, c, rfl, h1, h2, h3, h4⟩ := h
  cases A with
  | some ad =>
    refine tclone_some ad _ c ts w rfl (fun j v hv => ?_) hl
    have hp : 0 < (tysOf ts).length := by
      rcases Nat.lt_or_ge j (tysOf ts).length with h0 | h0
      · omega
      · rw [List.getElem?_eq_none h0] at hv; cases hv
    obtain ⟨b, o, e, hc⟩ := h4 hp
    have e := Option.some.inj e
    subst e
    rw [Addr.add_lit]; exact hc j v hv
  | none =>
    obtain rfl := h2 rfl
    obtain rfl : ts = [] := List.eq_nil_of_length_eq_zero (by omega)
    exact tclone_none w
end Go.Proofs.Ytkbboepopcebaaa
