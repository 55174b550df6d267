/- every Lay of the container package answers as the document says: proved for every input. -/
import Derived.Test.YtkbboepopcebaaaAT
import Derived.Test.YtkbboepopcebaaaCS
import Derived.ProofKit
namespace Go.Proofs.Ytkbboepopcebaaa.containerLays
open Go.ChangeShapes Go.WideShapes Go.ChangeAt Go.RowKit

set_option maxRecDepth 100000 in
theorem contract (H : Type) (enc : TypeId × Value → H) (W : World) (base : Nat) (args : Array Value) (ds gs : List (DataW H)) (before : List MemPlace)
    (hval : ∀ (j : Nat) t v, Try.f10.params[j]? = some t → args[j]? = some v → Value.okWide Try.prog W .any base t v)
    (hW : DataW.Whole enc Try.prog Try.f10.params.toList Rows.containerLaysSpec.vars false W args.toList ds gs before)
    (hsz : (DataW.weightsEach Try.prog (Try.f10.params.toList ++ Rows.containerLaysSpec.plain.varTypes Try.prog) (ds ++ gs)).all (· ≤ reachBytes) = true) :
    Calls Try.prog 10 args W fun e W' => ∃ v, e = .returned v ∧ Rows.containerLaysSpec.post enc Try.prog Try.f10 false true false false W args v W' := by
  have hW0 := hW
  obtain ⟨p, q, hA0, hV, rfl, hfz, hnd⟩ := hW
  obtain ⟨rfl, rfl⟩ := trodVars_none hV
  have hp : Try.f10.params.toList = [28, 22] := by rw [Try.params10]
  have hA : DataW.TrodAll enc Try.prog W 0 (fun _ => true) true [28, 22] args.toList ds p := by rw [← hp]; exact hA0
  rw [Try.params10] at hval
  have hz : ∀ n ∈ DataW.weightsEach Try.prog [28, 22] ds, n ≤ reachBytes := fun n hn => by
    have h1 := List.all_eq_true.1 hsz n (by
      rw [hp, List.append_nil]
      have e : Rows.containerLaysSpec.plain.varTypes Try.prog = [] := rfl
      rw [e, List.append_nil]
      exact hn)
    simpa using h1
  obtain ⟨v0, vs0, d0, ds0, p0, q0, ha0, rfl, rfl, h0, r0⟩ := trodAll_cons hA
  obtain ⟨v1, vs1, d1, ds1, p1, q1, ha1, rfl, rfl, h1, r1⟩ := trodAll_cons r0
  subst ha1
  obtain ⟨ha2, rfl, rfl⟩ := trodAll_nil r1
  subst ha2
  obtain rfl : args = #[v0, v1] := by rw [← Array.toArray_toList (xs := args), ha0]
  have hv0 : ∃ a, v0 = .agg a := by
    have := hval 0 28 v0 rfl rfl
    unfold Value.okWide at this
    rw [Try.underlying28] at this
    obtain ⟨a, e, _⟩ := this
    exact ⟨a, e⟩
  obtain ⟨x0, hx0, ho0⟩ := read_cont hv0 h0 fun n hn => hz n (DataW.weights_mem_each (j := 0) rfl rfl n hn)
  have hs1 : v1.cells = #[v1] := by
    obtain ⟨a, b, c, e⟩ := okWide_slice Try.underlying22 (hval 1 22 v1 rfl rfl)
    subst e
    rfl
  obtain ⟨fu1, hf1⟩ := h1
  rw [hs1] at hf1
  obtain ⟨y1, l1, e1, hx1, ho1⟩ := read_bytes hf1 fun n hn => hz n (DataW.weights_mem_each (j := 1) rfl rfl n hn)
  obtain rfl := (List.cons.inj e1).1
  exact law_post hW0 rfl rfl (fun t ht => by rw [hp] at ht; simp at ht; first | (subst ht; exact ⟨by kernel_rfl, of_decide_eq_true (by kernel_rfl)⟩) | (rcases ht with rfl | rfl <;> exact ⟨by kernel_rfl, of_decide_eq_true (by kernel_rfl)⟩)) rfl rfl rfl (lays_law v0 x0 v1 l1 W hx0 ho0 hx1 ho1)


set_option maxRecDepth 100000 in
theorem lifted (os : Os) (started : os.Started) (H : Type) (enc : TypeId × Value → H) :
    ReturnsInHanded {} Try.checked os 10 .any (Rows.containerLaysSpec.pre6 enc Try.prog Try.f10 Rows.containerLaysRow.domain false) (Rows.containerLaysSpec.post enc Try.prog Try.f10 false true false false) := by
  refine returnsInHanded_of_change_sized (C := Try.checked) own_knob started (by kernel_rfl) Try.func10
    (ChangeSpec.witness6 (enc := enc) (C := Try.checked) (s := Rows.containerLaysSpec) false ⟨#[], #[.agg #[.slice none 0 0, .slice none 0 0, .slice none 0 0, .slice none 0 0, .int .i64 0], .slice none 0 0], []⟩ 8 (by kernel_rfl) (by kernel_rfl) (by kernel_rfl) (by kernel_rfl)) ?_
  intro W base args ds gs before hval hW _ hsz _
  exact contract H enc W base args ds gs before hval hW hsz

set_option maxRecDepth 100000 in
theorem over : Rows.containerLaysRow.holds Try.pinned (OpenSpec.ofChange Rows.containerLaysSpec) :=
  OpenClaim.holds_of_wide 10 Try.f10 rfl rfl rfl rfl rfl rfl rfl ⟨rfl, rfl, rfl, rfl, rfl⟩ rfl rfl rfl rfl rfl (by kernel_rfl) Try.func10 (by kernel_rfl)
    (of_decide_eq_true (by kernel_rfl)) (by unfold Func.isWrapper; first | (rw [if_pos (by decide +kernel)]; kernel_rfl) | (rw [if_neg (by decide +kernel)]; exact ⟨rfl, rfl⟩))
    (fun os started H enc _ => lifted os started H enc)

theorem proved : Rows.ContainerLaysSaid := over
end Go.Proofs.Ytkbboepopcebaaa.containerLays
