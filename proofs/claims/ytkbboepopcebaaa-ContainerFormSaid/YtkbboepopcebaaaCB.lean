/- whatever bytes Parse takes, the container may be and its bytes are just these: proved for every input. -/
import Derived.Test.YtkbboepopcebaaaAT
import Derived.Test.YtkbboepopcebaaaCA
import Derived.ProofKit
namespace Go.Proofs.Ytkbboepopcebaaa.containerForm
open Go.ChangeShapes Go.WideShapes Go.ChangeAt Go.RowKit

set_option maxRecDepth 100000 in
theorem contract (H : Type) (enc : TypeId × Value → H) (W : World) (base : Nat) (args : Array Value) (ds gs : List (DataW H)) (before : List MemPlace)
    (hval : ∀ (j : Nat) t v, Try.f7.params[j]? = some t → args[j]? = some v → Value.okWide Try.prog W .any base t v)
    (hW : DataW.Whole enc Try.prog Try.f7.params.toList Rows.containerFormSpec.vars false W args.toList ds gs before)
    (hsz : (DataW.weightsEach Try.prog (Try.f7.params.toList ++ Rows.containerFormSpec.plain.varTypes Try.prog) (ds ++ gs)).all (· ≤ reachBytes) = true) :
    Calls Try.prog 7 args W fun e W' => ∃ v, e = .returned v ∧ Rows.containerFormSpec.post enc Try.prog Try.f7 false true false false W args v W' := by
  have hW0 := hW
  obtain ⟨p, q, hA0, hV, rfl, hfz, hnd⟩ := hW
  obtain ⟨rfl, rfl⟩ := trodVars_none hV
  have hp : Try.f7.params.toList = [22] := by rw [Try.params7]
  have hA : DataW.TrodAll enc Try.prog W 0 (fun _ => true) true [22] args.toList ds p := by rw [← hp]; exact hA0
  rw [Try.params7] at hval
  have hz : ∀ n ∈ DataW.weightsEach Try.prog [22] ds, n ≤ reachBytes := fun n hn => by
    have h1 := List.all_eq_true.1 hsz n (by
      rw [hp, List.append_nil]
      have e : Rows.containerFormSpec.plain.varTypes Try.prog = [] := rfl
      rw [e, List.append_nil]
      exact hn)
    simpa using h1
  obtain ⟨v0, vs0, d0, ds0, p0, q0, ha0, rfl, rfl, h0, r0⟩ := trodAll_cons hA
  obtain ⟨ha1, rfl, rfl⟩ := trodAll_nil r0
  subst ha1
  obtain rfl : args = #[v0] := by rw [← Array.toArray_toList (xs := args), ha0]
  have hs0 : v0.cells = #[v0] := by
    obtain ⟨a, b, c, e⟩ := okWide_slice Try.underlying22 (hval 0 22 v0 rfl rfl)
    subst e
    rfl
  obtain ⟨fu0, hf0⟩ := h0
  rw [hs0] at hf0
  obtain ⟨y0, l0, e0, hx0, ho0⟩ := read_bytes hf0 fun n hn => hz n (DataW.weights_mem_each (j := 0) rfl rfl n hn)
  obtain rfl := (List.cons.inj e0).1
  exact law_post hW0 rfl rfl (fun t ht => by rw [hp] at ht; simp at ht; first | (subst ht; exact ⟨by kernel_rfl, of_decide_eq_true (by kernel_rfl)⟩) | (rcases ht with rfl <;> exact ⟨by kernel_rfl, of_decide_eq_true (by kernel_rfl)⟩)) rfl rfl rfl (form_law v0 l0 W hx0 ho0)

set_option maxRecDepth 100000 in
theorem lifted (os : Os) (started : os.Started) (H : Type) (enc : TypeId × Value → H) :
    ReturnsInHanded {} Try.checked os 7 .any (Rows.containerFormSpec.pre6 enc Try.prog Try.f7 Rows.containerFormRow.domain false) (Rows.containerFormSpec.post enc Try.prog Try.f7 false true false false) := by
  refine returnsInHanded_of_change_sized (C := Try.checked) own_knob started (by kernel_rfl) Try.func7
    (ChangeSpec.witness6 (enc := enc) (C := Try.checked) (s := Rows.containerFormSpec) false ⟨#[], #[.slice none 0 0], []⟩ 8 (by kernel_rfl) (by kernel_rfl) (by kernel_rfl) (by kernel_rfl)) ?_
  intro W base args ds gs before hval hW _ hsz _
  exact contract H enc W base args ds gs before hval hW hsz

set_option maxRecDepth 100000 in
theorem over : Rows.containerFormRow.holds Try.pinned (OpenSpec.ofChange Rows.containerFormSpec) :=
  OpenClaim.holds_of_wide 7 Try.f7 rfl rfl rfl rfl rfl rfl rfl ⟨rfl, rfl, rfl, rfl, rfl⟩ rfl rfl rfl rfl rfl (by kernel_rfl) Try.func7 (by kernel_rfl)
    (of_decide_eq_true (by kernel_rfl)) (by unfold Func.isWrapper; first | (rw [if_pos (by decide +kernel)]; kernel_rfl) | (rw [if_neg (by decide +kernel)]; exact ⟨rfl, rfl⟩))
    (fun os started H enc _ => lifted os started H enc)

theorem proved : Rows.ContainerFormSaid := over
end Go.Proofs.Ytkbboepopcebaaa.containerForm
