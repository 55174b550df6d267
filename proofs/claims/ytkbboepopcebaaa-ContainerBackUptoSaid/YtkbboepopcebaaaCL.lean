/- ContainerBack: Check takes just what may be, its bytes are those of the document, and read again they are that container: proved where what the call reads is of bulk at most 1048576. -/
import Derived.Test.YtkbboepopcebaaaAT
import Derived.Test.YtkbboepopcebaaaCK
import Derived.ProofKit
import Derived.Deep.CondSized
namespace Go.Proofs.Ytkbboepopcebaaa.containerBack
open Go.ChangeShapes Go.WideShapes Go.ChangeAt Go.RowKit

set_option maxRecDepth 100000 in
theorem contract (H : Type) (enc : TypeId × Value → H) (W : World) (base : Nat) (args : Array Value) (ds gs : List (DataW H)) (before : List MemPlace)
    (hval : ∀ (j : Nat) t v, Try.f6.params[j]? = some t → args[j]? = some v → Value.okWide Try.prog W .any base t v)
    (hW : DataW.Whole enc Try.prog Try.f6.params.toList Rows.containerBackSpec.vars false W args.toList ds gs before)
    (hsz : (DataW.weightsEach Try.prog (Try.f6.params.toList ++ Rows.containerBackSpec.plain.varTypes Try.prog) (ds ++ gs)).all (· ≤ reachBytes) = true) :
    Calls Try.prog 6 args W fun e W' => ∃ v, e = .returned v ∧ Rows.containerBackSpec.post enc Try.prog Try.f6 false true false false W args v W' := by
  have hW0 := hW
  obtain ⟨p, q, hA0, hV, rfl, hfz, hnd⟩ := hW
  obtain ⟨rfl, rfl⟩ := trodVars_none hV
  have hp : Try.f6.params.toList = [28] := by rw [Try.params6]
  have hA : DataW.TrodAll enc Try.prog W 0 (fun _ => true) true [28] args.toList ds p := by rw [← hp]; exact hA0
  rw [Try.params6] at hval
  have hz : ∀ n ∈ DataW.weightsEach Try.prog [28] ds, n ≤ reachBytes := fun n hn => by
    have h1 := List.all_eq_true.1 hsz n (by
      rw [hp, List.append_nil]
      have e : Rows.containerBackSpec.plain.varTypes Try.prog = [] := rfl
      rw [e, List.append_nil]
      exact hn)
    simpa using h1
  obtain ⟨v0, vs0, d0, ds0, p0, q0, ha0, rfl, rfl, h0, r0⟩ := trodAll_cons hA
  obtain ⟨ha1, rfl, rfl⟩ := trodAll_nil r0
  subst ha1
  obtain rfl : args = #[v0] := by rw [← Array.toArray_toList (xs := args), ha0]
  have hv0 : ∃ a, v0 = .agg a := by
    have := hval 0 28 v0 rfl rfl
    unfold Value.okWide at this
    rw [Try.underlying28] at this
    obtain ⟨a, e, _⟩ := this
    exact ⟨a, e⟩
  obtain ⟨x0, hx0, ho0⟩ := read_cont hv0 h0 fun n hn => hz n (DataW.weights_mem_each (j := 0) rfl rfl n hn)
  exact law_post hW0 rfl rfl (fun t ht => by rw [hp] at ht; simp at ht; first | (subst ht; exact ⟨by kernel_rfl, of_decide_eq_true (by kernel_rfl)⟩) | (rcases ht with rfl <;> exact ⟨by kernel_rfl, of_decide_eq_true (by kernel_rfl)⟩)) rfl rfl rfl (back_law v0 x0 W hx0 ho0)


set_option maxRecDepth 100000 in
theorem lifted (os : Os) (started : os.Started) (H : Type) (enc : TypeId × Value → H) (F : Stop.Interp) :
    ReturnsInHanded {} Try.checked os 6 .any ((Rows.OpenSpec.upto Rows.containerBackSpec).pre6 enc Try.prog Try.f6 Rows.containerBackUptoRow.domain false) (((Rows.OpenSpec.upto Rows.containerBackSpec).at F).post enc Try.prog Try.f6 false true false false) := by
  refine returnsInHanded_of_cond_sized (C := Try.checked) (s := Rows.OpenSpec.upto Rows.containerBackSpec) (k := Rows.uptoSmall) rfl own_knob started (by kernel_rfl) Try.func6
    (OpenSpec.witness (enc := enc) (C := Try.checked) (s := Rows.OpenSpec.upto Rows.containerBackSpec) (k := Rows.uptoSmall) rfl false ⟨#[], #[.agg #[.slice none 0 0, .slice none 0 0, .slice none 0 0, .slice none 0 0, .int .i64 0]], []⟩ 8 (by kernel_rfl) (by kernel_rfl) (by kernel_rfl)
      (x := ([.agg [.nil, .nil, .nil, .nil, .lit (.int .i64 0)]], [], [])) (by kernel_rfl) rfl (by kernel_rfl)) ?_
  intro W base args ds gs before hval hW _ _ hsz _
  exact contract H enc W base args ds gs before hval hW hsz

set_option maxRecDepth 100000 in
theorem over : Rows.containerBackUptoRow.holds Try.pinned (Rows.OpenSpec.upto Rows.containerBackSpec) :=
  OpenClaim.holds_of_cond 6 Try.f6 rfl rfl rfl rfl rfl rfl rfl ⟨rfl, rfl, rfl, rfl, rfl⟩ rfl rfl rfl rfl rfl (by kernel_rfl) Try.func6 (by kernel_rfl)
    (of_decide_eq_true (by kernel_rfl)) (by unfold Func.isWrapper; first | (rw [if_pos (by decide +kernel)]; kernel_rfl) | (rw [if_neg (by decide +kernel)]; exact ⟨rfl, rfl⟩))
    (fun os started H enc _ F => lifted os started H enc F)

theorem proved : Rows.ContainerBackUptoSaid := over
end Go.Proofs.Ytkbboepopcebaaa.containerBack
