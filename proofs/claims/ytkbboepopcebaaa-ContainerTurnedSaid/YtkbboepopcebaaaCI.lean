/- one of the first three bytes, a kind or the closing zero turned: what was taken is refused: proved for every input. -/
import Derived.Test.YtkbboepopcebaaaAT
import Derived.Test.YtkbboepopcebaaaCH
import Derived.ProofKit
namespace Go.Proofs.Ytkbboepopcebaaa.containerTurned
open Go.ChangeShapes Go.WideShapes Go.ChangeAt Go.RowKit

set_option maxRecDepth 100000 in
theorem contract (H : Type) (enc : TypeId × Value → H) (W : World) (base : Nat) (args : Array Value) (ds gs : List (DataW H)) (before : List MemPlace)
    (hval : ∀ (j : Nat) t v, Try.f9.params[j]? = some t → args[j]? = some v → Value.okWide Try.prog W .any base t v)
    (hW : DataW.Whole enc Try.prog Try.f9.params.toList Rows.containerTurnedSpec.vars false W args.toList ds gs before)
    (hsz : (DataW.weightsEach Try.prog (Try.f9.params.toList ++ Rows.containerTurnedSpec.plain.varTypes Try.prog) (ds ++ gs)).all (· ≤ reachBytes) = true) :
    Calls Try.prog 9 args W fun e W' => ∃ v, e = .returned v ∧ Rows.containerTurnedSpec.post enc Try.prog Try.f9 false true false false W args v W' := by
  have hW0 := hW
  obtain ⟨p, q, hA0, hV, rfl, hfz, hnd⟩ := hW
  obtain ⟨rfl, rfl⟩ := trodVars_none hV
  have hp : Try.f9.params.toList = [28, 3, 5] := by rw [Try.params9]
  have hA : DataW.TrodAll enc Try.prog W 0 (fun _ => true) true [28, 3, 5] args.toList ds p := by rw [← hp]; exact hA0
  rw [Try.params9] at hval
  have hz : ∀ n ∈ DataW.weightsEach Try.prog [28, 3, 5] ds, n ≤ reachBytes := fun n hn => by
    have h1 := List.all_eq_true.1 hsz n (by
      rw [hp, List.append_nil]
      have e : Rows.containerTurnedSpec.plain.varTypes Try.prog = [] := rfl
      rw [e, List.append_nil]
      exact hn)
    simpa using h1
  obtain ⟨v0, vs0, d0, ds0, p0, q0, ha0, rfl, rfl, h0, r0⟩ := trodAll_cons hA
  obtain ⟨v1, vs1, d1, ds1, p1, q1, ha1, rfl, rfl, h1, r1⟩ := trodAll_cons r0
  subst ha1
  obtain ⟨v2, vs2, d2, ds2, p2, q2, ha2, rfl, rfl, h2, r2⟩ := trodAll_cons r1
  subst ha2
  obtain ⟨ha3, rfl, rfl⟩ := trodAll_nil r2
  subst ha3
  obtain rfl : args = #[v0, v1, v2] := by rw [← Array.toArray_toList (xs := args), ha0]
  have hv0 : ∃ a, v0 = .agg a := by
    have := hval 0 28 v0 rfl rfl
    unfold Value.okWide at this
    rw [Try.underlying28] at this
    obtain ⟨a, e, _⟩ := this
    exact ⟨a, e⟩
  obtain ⟨x0, hx0, ho0⟩ := read_cont hv0 h0 fun n hn => hz n (DataW.weights_mem_each (j := 0) rfl rfl n hn)
  obtain ⟨z1, rfl, _, _, wz1⟩ := open_int Try.underlying3 (hval 1 3 v1 rfl rfl) h1
  obtain ⟨z2, rfl, _, _, wz2⟩ := open_int Try.underlying5 (hval 2 5 v2 rfl rfl) h2
  exact law_post hW0 rfl rfl (fun t ht => by rw [hp] at ht; simp at ht; first | (subst ht; exact ⟨by kernel_rfl, of_decide_eq_true (by kernel_rfl)⟩) | (rcases ht with rfl | rfl | rfl <;> exact ⟨by kernel_rfl, of_decide_eq_true (by kernel_rfl)⟩)) rfl rfl rfl (turned_law v0 x0 z1 z2 W hx0 ho0 wz1 wz2)

set_option maxRecDepth 100000 in
theorem lifted (os : Os) (started : os.Started) (H : Type) (enc : TypeId × Value → H) :
    ReturnsInHanded {} Try.checked os 9 .any (Rows.containerTurnedSpec.pre6 enc Try.prog Try.f9 Rows.containerTurnedRow.domain false) (Rows.containerTurnedSpec.post enc Try.prog Try.f9 false true false false) := by
  refine returnsInHanded_of_change_sized (C := Try.checked) own_knob started (by kernel_rfl) Try.func9
    (ChangeSpec.witness6 (enc := enc) (C := Try.checked) (s := Rows.containerTurnedSpec) false ⟨#[], #[.agg #[.slice none 0 0, .slice none 0 0, .slice none 0 0, .slice none 0 0, .int .i64 0], .int .i64 0, .int .u8 0], []⟩ 8 (by kernel_rfl) (by kernel_rfl) (by kernel_rfl) (by kernel_rfl)) ?_
  intro W base args ds gs before hval hW _ hsz _
  exact contract H enc W base args ds gs before hval hW hsz

set_option maxRecDepth 100000 in
theorem over : Rows.containerTurnedRow.holds Try.pinned (OpenSpec.ofChange Rows.containerTurnedSpec) :=
  OpenClaim.holds_of_wide 9 Try.f9 rfl rfl rfl rfl rfl rfl rfl ⟨rfl, rfl, rfl, rfl, rfl⟩ rfl rfl rfl rfl rfl (by kernel_rfl) Try.func9 (by kernel_rfl)
    (of_decide_eq_true (by kernel_rfl)) (by unfold Func.isWrapper; first | (rw [if_pos (by decide +kernel)]; kernel_rfl) | (rw [if_neg (by decide +kernel)]; exact ⟨rfl, rfl⟩))
    (fun os started H enc _ => lifted os started H enc)

theorem proved : Rows.ContainerTurnedSaid := over
end Go.Proofs.Ytkbboepopcebaaa.containerTurned
