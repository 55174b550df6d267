/- every read of the container package answers as the document says: proved for every input. -/
import Derived.Test.YtkbboepopcebaaaAT
import Derived.Test.YtkbboepopcebaaaBQ
import Derived.ProofKit
namespace Go.Proofs.Ytkbboepopcebaaa.containerParse
open Go.ChangeShapes Go.WideShapes Go.ChangeAt Go.RowKit

set_option maxRecDepth 100000 in
theorem contract (H : Type) (enc : TypeId × Value → H) (W : World) (base : Nat) (args : Array Value) (ds gs : List (DataW H)) (before : List MemPlace)
    (hval : ∀ (j : Nat) t v, Try.f3.params[j]? = some t → args[j]? = some v → Value.okWide Try.prog W .any base t v)
    (hW : DataW.Whole enc Try.prog Try.f3.params.toList Rows.containerParseSpec.vars false W args.toList ds gs before)
    (hsz : (DataW.weightsEach Try.prog (Try.f3.params.toList ++ Rows.containerParseSpec.plain.varTypes Try.prog) (ds ++ gs)).all (· ≤ reachBytes) = true) :
    Calls Try.prog 3 args W fun e W' => ∃ v, e = .returned v ∧ Rows.containerParseSpec.post enc Try.prog Try.f3 false true false false W args v W' := by
  have hW0 := hW
  obtain ⟨p, q, hA0, hV, rfl, hfz, hnd⟩ := hW
  obtain ⟨rfl, rfl⟩ := trodVars_none hV
  have hp : Try.f3.params.toList = [22, 4] := by rw [Try.params3]
  have hA : DataW.TrodAll enc Try.prog W 0 (fun _ => true) true [22, 4] args.toList ds p := by rw [← hp]; exact hA0
  rw [Try.params3] at hval
  have hz : ∀ n ∈ DataW.weightsEach Try.prog [22, 4] ds, n ≤ reachBytes := fun n hn => by
    have h1 := List.all_eq_true.1 hsz n (by
      rw [hp, List.append_nil]
      have e : Rows.containerParseSpec.plain.varTypes Try.prog = [] := rfl
      rw [e, List.append_nil]
      exact hn)
    simpa using h1
  obtain ⟨v0, vs0, d0, ds0, p0, q0, ha0, rfl, rfl, h0, r0⟩ := trodAll_cons hA
  obtain ⟨v1, vs1, d1, ds1, p1, q1, ha1, rfl, rfl, h1, r1⟩ := trodAll_cons r0
  subst ha1
  obtain ⟨ha2, rfl, rfl⟩ := trodAll_nil r1
  subst ha2
  obtain rfl : args = #[v0, v1] := by rw [← Array.toArray_toList (xs := args), ha0]
  have hs0 : v0.cells = #[v0] := by
    obtain ⟨a, b, c, e⟩ := okWide_slice Try.underlying22 (hval 0 22 v0 rfl rfl)
    subst e
    rfl
  obtain ⟨fu0, hf0⟩ := h0
  rw [hs0] at hf0
  obtain ⟨y0, l0, e0, hx0, ho0⟩ := read_bytes hf0 fun n hn => hz n (DataW.weights_mem_each (j := 0) rfl rfl n hn)
  obtain rfl := (List.cons.inj e0).1
  obtain ⟨b1, rfl, _, _⟩ := open_bool Try.underlying4 (hval 1 4 v1 rfl rfl) h1
  exact law_post hW0 rfl rfl (fun t ht => by rw [hp] at ht; simp at ht; first | (subst ht; exact ⟨by kernel_rfl, of_decide_eq_true (by kernel_rfl)⟩) | (rcases ht with rfl | rfl <;> exact ⟨by kernel_rfl, of_decide_eq_true (by kernel_rfl)⟩)) rfl rfl rfl (parse_law_v v0 l0 b1 W hx0 ho0 )

set_option maxRecDepth 100000 in
theorem lifted (os : Os) (started : os.Started) (H : Type) (enc : TypeId × Value → H) :
    ReturnsInHanded {} Try.checked os 3 .any (Rows.containerParseSpec.pre6 enc Try.prog Try.f3 Rows.containerParseRow.domain false) (Rows.containerParseSpec.post enc Try.prog Try.f3 false true false false) := by
  refine returnsInHanded_of_change_sized (C := Try.checked) own_knob started (by kernel_rfl) Try.func3
    (ChangeSpec.witness6 (enc := enc) (C := Try.checked) (s := Rows.containerParseSpec) false ⟨#[], #[.slice none 0 0, .bool false], []⟩ 8 (by kernel_rfl) (by kernel_rfl) (by kernel_rfl) (by kernel_rfl)) ?_
  intro W base args ds gs before hval hW _ hsz _
  exact contract H enc W base args ds gs before hval hW hsz

set_option maxRecDepth 100000 in
theorem over : Rows.containerParseRow.holds Try.pinned (OpenSpec.ofChange Rows.containerParseSpec) :=
  OpenClaim.holds_of_wide 3 Try.f3 rfl rfl rfl rfl rfl rfl rfl ⟨rfl, rfl, rfl, rfl, rfl⟩ rfl rfl rfl rfl rfl (by kernel_rfl) Try.func3 (by kernel_rfl)
    (of_decide_eq_true (by kernel_rfl)) (by unfold Func.isWrapper; first | (rw [if_pos (by decide +kernel)]; kernel_rfl) | (rw [if_neg (by decide +kernel)]; exact ⟨rfl, rfl⟩))
    (fun os started H enc _ => lifted os started H enc)

theorem proved : Rows.ContainerParseSaid := over
end Go.Proofs.Ytkbboepopcebaaa.containerParse
