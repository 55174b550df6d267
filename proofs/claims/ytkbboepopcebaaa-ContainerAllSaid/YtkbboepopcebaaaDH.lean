/- every sequence of calls of the container package, each on what the ones ahead of it gave, answers as the document says: proved for every input. -/
import Derived.Test.YtkbboepopcebaaaAT
import Derived.Test.YtkbboepopcebaaaCX
import Derived.ProofKit
namespace Go.Proofs.Ytkbboepopcebaaa.containerAll
open Go.ChangeShapes Go.WideShapes Go.ChangeAt Go.RowKit

set_option maxRecDepth 100000 in
theorem contract (H : Type) (enc : TypeId × Value → H) (W : World) (base : Nat) (args : Array Value) (ds gs : List (DataW H)) (before : List MemPlace)
    (hval : ∀ (j : Nat) t v, Try.f11.params[j]? = some t → args[j]? = some v → Value.okWide Try.prog W .any base t v)
    (hW : DataW.Whole enc Try.prog Try.f11.params.toList Rows.containerAllSpec.vars false W args.toList ds gs before)
    (hsz : (DataW.weightsEach Try.prog (Try.f11.params.toList ++ Rows.containerAllSpec.plain.varTypes Try.prog) (ds ++ gs)).all (· ≤ reachBytes) = true) :
    Calls Try.prog 11 args W fun e W' => ∃ v, e = .returned v ∧ Rows.containerAllSpec.post enc Try.prog Try.f11 false true false false W args v W' := by
  have hW0 := hW
  obtain ⟨p, q, hA0, hV, rfl, hfz, hnd⟩ := hW
  obtain ⟨rfl, rfl⟩ := trodVars_none hV
  have hp : Try.f11.params.toList = [54] := by rw [Try.params11]
  have hA : DataW.TrodAll enc Try.prog W 0 (fun _ => true) true [54] args.toList ds p := by rw [← hp]; exact hA0
  rw [Try.params11] at hval
  have hz : ∀ n ∈ DataW.weightsEach Try.prog [54] ds, n ≤ reachBytes := fun n hn => by
    have h1 := List.all_eq_true.1 hsz n (by
      rw [hp, List.append_nil]
      have e : Rows.containerAllSpec.plain.varTypes Try.prog = [] := rfl
      rw [e, List.append_nil]
      exact hn)
    simpa using h1
  obtain ⟨v0, vs0, d0, ds0, p0, q0, ha0, rfl, rfl, h0, r0⟩ := trodAll_cons hA
  obtain ⟨ha1, rfl, rfl⟩ := trodAll_nil r0
  subst ha1
  obtain rfl : args = #[v0] := by rw [← Array.toArray_toList (xs := args), ha0]
  have hs0 : v0.cells = #[v0] := by
    obtain ⟨a, b, c, e⟩ := okWide_slice Try.underlying54 (hval 0 54 v0 rfl rfl)
    subst e
    rfl
  obtain ⟨fu0, hf0⟩ := h0
  rw [hs0] at hf0
  obtain ⟨y0, l0, e0, hx0, ho0⟩ := read_acts hf0 fun n hn => hz n (DataW.weights_mem_each (j := 0) rfl rfl n hn)
  obtain rfl := (List.cons.inj e0).1
  exact law_post hW0 rfl rfl (fun t ht => by rw [hp] at ht; simp at ht; first | (subst ht; exact ⟨by kernel_rfl, of_decide_eq_true (by kernel_rfl)⟩) | (rcases ht with rfl <;> exact ⟨by kernel_rfl, of_decide_eq_true (by kernel_rfl)⟩)) rfl rfl rfl (all_law v0 l0 W hx0 ho0)


set_option maxRecDepth 100000 in
theorem lifted (os : Os) (started : os.Started) (H : Type) (enc : TypeId × Value → H) :
    ReturnsInHanded {} Try.checked os 11 .any (Rows.containerAllSpec.pre6 enc Try.prog Try.f11 Rows.containerAllRow.domain false) (Rows.containerAllSpec.post enc Try.prog Try.f11 false true false false) := by
  refine returnsInHanded_of_change_sized (C := Try.checked) own_knob started (by kernel_rfl) Try.func11
    (ChangeSpec.witness6 (enc := enc) (C := Try.checked) (s := Rows.containerAllSpec) false ⟨#[], #[.slice none 0 0], []⟩ 8 (by kernel_rfl) (by kernel_rfl) (by kernel_rfl) (by kernel_rfl)) ?_
  intro W base args ds gs before hval hW _ hsz _
  exact contract H enc W base args ds gs before hval hW hsz

set_option maxRecDepth 100000 in
theorem over : Rows.containerAllRow.holds Try.pinned (OpenSpec.ofChange Rows.containerAllSpec) :=
  OpenClaim.holds_of_wide 11 Try.f11 rfl rfl rfl rfl rfl rfl rfl ⟨rfl, rfl, rfl, rfl, rfl⟩ rfl rfl rfl rfl rfl (by kernel_rfl) Try.func11 (by kernel_rfl)
    (of_decide_eq_true (by kernel_rfl)) (by unfold Func.isWrapper; first | (rw [if_pos (by decide +kernel)]; kernel_rfl) | (rw [if_neg (by decide +kernel)]; exact ⟨rfl, rfl⟩))
    (fun os started H enc _ => lifted os started H enc)

theorem proved : Rows.ContainerAllSaid := over
#print axioms proved
end Go.Proofs.Ytkbboepopcebaaa.containerAll
