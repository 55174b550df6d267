/- A transaction that is handed in: its cells. -/
import Derived.Test.YtlafibjcmalkdaaP
namespace Go.Proofs.Ytlafibjcmalkdaa
open Go.RowKit Go.ChangeShapes Go.WideShapes Go.Deep

section
variable {H : Type} {enc : TypeId × Value → H} {W : World} {fuel : Nat} {cs : List Value} {x : DataW H × List MemPlace}
theorem read_bool (h : DataW.trod enc Try.prog W 0 (fun _ => true) true fuel 4 cs = some x) : ∃ b, cs = [.bool b] := by
  cases fuel with
  | zero => simp [DataW.trod] at h
  | succ fuel =>
    unfold DataW.trod at h
    rw [Try.underlying4] at h
    split at h <;> simp_all
theorem part_get {C : List Value} {a n : Nat} {l : List Value} (h : (C.drop a).take n = l) {j : Nat} (hj : j < n) : C[a + j]? = l[j]? := by
  rw [← h]
  simp [List.getElem?_take, hj, List.getElem?_drop]
theorem part_int {C : List Value} {a n : Nat} {k : IntKind} {l : List Int} (h : (C.drop a).take n = nums k l) (hl : l.length = n) {j : Nat} (hj : j < n) : KInt k C[a + j]? := ⟨_, (part_get h hj).trans (nums_get k l j (by omega))⟩
theorem part_one {C : List Value} {a : Nat} {v : Value} (h : (C.drop a).take 1 = [v]) : C[a]? = some v := (part_get h (j := 0) (by decide))
set_option maxRecDepth 100000 in
set_option maxHeartbeats 4000000 in
theorem read_tx {v : Value} {d : DataW H} {ps : List MemPlace} (hv : ∃ a, v = .agg a) (h : DataW.Trod enc Try.prog W 0 (fun _ => true) true 31 v d ps) (hw : ∀ n ∈ d.weights Try.prog 31, n ≤ reachBytes) :
    ∃ C t vi va vb vn, v = .agg C ∧ TxV W C t vi va vb vn ∧ Scal C := by
  obtain ⟨a, rfl⟩ := hv
  obtain ⟨fuel, h⟩ := h
  obtain ⟨xs, n, rfl, e, hl, hn, he⟩ := DataW.trod_struct Try.underlying31 h
  rw [show Try.prog.cellsOf 31 = 59 by kernel_rfl] at hl
  obtain ⟨rfl, rfl⟩ := Prod.mk.inj e
  have hxs : xs.length = 12 := by simpa using hn
  obtain ⟨L, hL⟩ : ∃ L, L = (Value.agg a).cells.toList := ⟨_, rfl⟩
  have hLa : L = a.toList := hL
  match xs, hxs with
  | [x0, x1, x2, x3, x4, x5, x6, x7, x8, x9, x10, x11], _ =>
    have h0 : DataW.trod enc Try.prog W 0 (fun _ => true) true n 23 ((L.drop 0).take 20) = some x0 := by
      have := he 0 _ rfl
      rw [← hL] at this
      exact this
    have h1 : DataW.trod enc Try.prog W 0 (fun _ => true) true n 24 ((L.drop 20).take 1) = some x1 := by
      have := he 1 _ rfl
      rw [← hL] at this
      exact this
    have h2 : DataW.trod enc Try.prog W 0 (fun _ => true) true n 26 ((L.drop 21).take 4) = some x2 := by
      have := he 2 _ rfl
      rw [← hL] at this
      exact this
    have h3 : DataW.trod enc Try.prog W 0 (fun _ => true) true n 24 ((L.drop 25).take 1) = some x3 := by
      have := he 3 _ rfl
      rw [← hL] at this
      exact this
    have h4 : DataW.trod enc Try.prog W 0 (fun _ => true) true n 23 ((L.drop 26).take 20) = some x4 := by
      have := he 4 _ rfl
      rw [← hL] at this
      exact this
    have h5 : DataW.trod enc Try.prog W 0 (fun _ => true) true n 26 ((L.drop 46).take 4) = some x5 := by
      have := he 5 _ rfl
      rw [← hL] at this
      exact this
    have h6 : DataW.trod enc Try.prog W 0 (fun _ => true) true n 27 ((L.drop 50).take 1) = some x6 := by
      have := he 6 _ rfl
      rw [← hL] at this
      exact this
    have h7 : DataW.trod enc Try.prog W 0 (fun _ => true) true n 28 ((L.drop 51).take 1) = some x7 := by
      have := he 7 _ rfl
      rw [← hL] at this
      exact this
    have h8 : DataW.trod enc Try.prog W 0 (fun _ => true) true n 29 ((L.drop 52).take 1) = some x8 := by
      have := he 8 _ rfl
      rw [← hL] at this
      exact this
    have h9 : DataW.trod enc Try.prog W 0 (fun _ => true) true n 4 ((L.drop 53).take 1) = some x9 := by
      have := he 9 _ rfl
      rw [← hL] at this
      exact this
    have h10 : DataW.trod enc Try.prog W 0 (fun _ => true) true n 27 ((L.drop 54).take 1) = some x10 := by
      have := he 10 _ rfl
      rw [← hL] at this
      exact this
    have h11 : DataW.trod enc Try.prog W 0 (fun _ => true) true n 26 ((L.drop 55).take 4) = some x11 := by
      have := he 11 _ rfl
      rw [← hL] at this
      exact this
    have hall : ∀ n ∈ DataW.weightsEach Try.prog [23, 24, 26, 24, 23, 26, 27, 28, 29, 4, 27, 26] [x0.1, x1.1, x2.1, x3.1, x4.1, x5.1, x6.1, x7.1, x8.1, x9.1, x10.1, x11.1], n ≤ reachBytes := fun n hn => hw n (by rw [DataW.weights, Try.underlying31]; exact hn)
    obtain ⟨l0, e0, n0⟩ := read_arr Try.underlying23 Try.underlying5 (by kernel_rfl) (by kernel_rfl) h0
    obtain ⟨z1, e1, _⟩ := read_int Try.underlying24 h1
    obtain ⟨l2, e2, n2⟩ := read_arr Try.underlying26 Try.underlying24 (by kernel_rfl) (by kernel_rfl) h2
    obtain ⟨z3, e3, _⟩ := read_int Try.underlying24 h3
    obtain ⟨l4, e4, n4⟩ := read_arr Try.underlying23 Try.underlying5 (by kernel_rfl) (by kernel_rfl) h4
    obtain ⟨l5, e5, n5⟩ := read_arr Try.underlying26 Try.underlying24 (by kernel_rfl) (by kernel_rfl) h5
    obtain ⟨v6, l6, e6, k6⟩ := read_bytes h6 fun n hn => hall n (DataW.weights_mem_each (j := 6) rfl rfl n hn)
    obtain ⟨v7, es, e7, k7⟩ := read_access h7 fun n hn => hall n (DataW.weights_mem_each (j := 7) rfl rfl n hn)
    obtain ⟨v8, nb, bc, e8, k8⟩ := read_rows Try.underlying29 Try.underlying48 Try.underlying5 (by kernel_rfl) (by kernel_rfl) (show Try.prog.bytesOf 48 = 32 by kernel_rfl) (by decide) (by decide) h8 fun n hn => hall n (DataW.weights_mem_each (j := 8) rfl rfl n hn)
    obtain ⟨mk, e9⟩ := read_bool h9
    obtain ⟨v10, l10, e10, k10⟩ := read_bytes h10 fun n hn => hall n (DataW.weights_mem_each (j := 10) rfl rfl n hn)
    obtain ⟨l11, e11, n11⟩ := read_arr Try.underlying26 Try.underlying24 (by kernel_rfl) (by kernel_rfl) h11
    have g : ∀ j, a[j]? = L[j]? := fun j => by rw [hLa, Array.getElem?_toList]
    have gone : a.all (·.oneCell') = true := by
      rw [Array.all_eq_true]
      intro j hj
      have hsz : a.size = 59 := by
        have : a.toList.length = 59 := by rw [← hLa, hL]; exact hl
        simpa using this
      have kk : ∀ {k : IntKind} {i : Nat}, KInt k L[i]? → ∃ u, L[i]? = some u ∧ u.oneCell' = true := fun ⟨z, hz⟩ => ⟨_, hz, rfl⟩
      have key : ∃ u, L[j]? = some u ∧ u.oneCell' = true := by
        rcases (by omega : j < 20 ∨ j = 20 ∨ (21 ≤ j ∧ j < 25) ∨ j = 25 ∨ (26 ≤ j ∧ j < 46) ∨ (46 ≤ j ∧ j < 50) ∨ j = 50 ∨ j = 51 ∨ j = 52 ∨ j = 53 ∨ j = 54 ∨ (55 ≤ j ∧ j < 59)) with hj2 | hj2 | hj2 | hj2 | hj2 | hj2 | hj2 | hj2 | hj2 | hj2 | hj2 | hj2
        · have := part_int e0 n0 hj2; rw [Nat.zero_add] at this; exact kk this
        · rw [hj2]; exact ⟨_, part_one e1, rfl⟩
        · have := part_int (j := j - 21) e2 n2 (by omega); rw [show 21 + (j - 21) = j by omega] at this; exact kk this
        · rw [hj2]; exact ⟨_, part_one e3, rfl⟩
        · have := part_int (j := j - 26) e4 n4 (by omega); rw [show 26 + (j - 26) = j by omega] at this; exact kk this
        · have := part_int (j := j - 46) e5 n5 (by omega); rw [show 46 + (j - 46) = j by omega] at this; exact kk this
        · rw [hj2]; obtain ⟨_, _, ev, _⟩ := k6; exact ⟨_, part_one e6, by rw [ev]; rfl⟩
        · rw [hj2]; obtain ⟨_, ⟨_, _, ev, _⟩, _⟩ := k7; exact ⟨_, part_one e7, by rw [ev]; rfl⟩
        · rw [hj2]; obtain ⟨_, _, ev, _⟩ := k8; exact ⟨_, part_one e8, by rw [ev]; rfl⟩
        · rw [hj2]; exact ⟨_, part_one e9, rfl⟩
        · rw [hj2]; obtain ⟨_, _, ev, _⟩ := k10; exact ⟨_, part_one e10, by rw [ev]; rfl⟩
        · have := part_int (j := j - 55) e11 n11 (by omega); rw [show 55 + (j - 55) = j by omega] at this; exact kk this
      obtain ⟨u, hu, h1⟩ := key
      rw [← g, Array.getElem?_eq_getElem hj] at hu
      rw [Option.some.inj hu]
      exact h1
    refine ⟨a, ⟨l6, es, nb, bc, mk, l10⟩, v6, v7, v8, v10, rfl, ⟨?_, gone, ?_, ?_, ?_, ?_, ?_, k6, k7, k8, k10⟩, ⟨?_, ?_, ?_, ?_, ?_, ?_, ?_⟩⟩
    · have : a.toList.length = 59 := by rw [← hLa, hL]; exact hl
      simpa using this
    · rw [g]; exact part_one e6
    · rw [g]; exact part_one e7
    · rw [g]; exact part_one e8
    · rw [g]; exact part_one e9
    · rw [g]; exact part_one e10
    · intro j hj; rw [g]; have := part_int e0 n0 hj; rwa [Nat.zero_add] at this
    · rw [g]; exact ⟨z1, part_one e1⟩
    · intro j hj; rw [g]; exact part_int e2 n2 hj
    · rw [g]; exact ⟨z3, part_one e3⟩
    · intro j hj; rw [g]; exact part_int e4 n4 hj
    · intro j hj; rw [g]; exact part_int e5 n5 hj
    · intro j hj; rw [g]; exact part_int e11 n11 hj
end
end Go.Proofs.Ytlafibjcmalkdaa
