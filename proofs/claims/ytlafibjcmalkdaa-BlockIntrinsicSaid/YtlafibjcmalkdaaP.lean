/- A transaction that is handed in, read as lists. -/
import Derived.Test.YtlafibjcmalkdaaF
import Derived.WalkLawsBesides
import Derived.ProofKit
import Derived.OpenShut
import Derived.SizedLaws
import Derived.Deep.Slices
import Derived.Test.YtlafibjcmalkdaaRows
import Derived.Below
import Derived.ChangeSame
namespace Go.Proofs.Ytlafibjcmalkdaa
open Go.RowKit Go.ChangeShapes Go.WideShapes Go.Deep

theorem reach_eq : reachBytes = reach := by decide
theorem addr_of_cell {w : World} {a : Addr} {v : Value} (h : w.cell? a = some v) : a = ⟨a.block, a.off, none⟩ := by
  cases a with
  | mk b o s =>
    cases s with
    | none => rfl
    | some s =>
      unfold World.cell? at h
      split at h <;> simp at h
theorem add_lit' {a : Addr} (h : a = ⟨a.block, a.off, none⟩) (j : Nat) : a.add j = ⟨a.block, a.off + j, none⟩ := by
  rw [h]; exact Addr.add_lit _ _ _
theorem addr_add {w : World} {a : Addr} {v : Value} (h : w.cell? (a.add 0) = some v) : a = ⟨a.block, a.off, none⟩ := by
  have h0 := addr_of_cell h
  cases a with
  | mk b o s =>
    cases s with
    | none => rfl
    | some s => simp [Addr.add] at h0
theorem weightsAll_mem {H : Type} {P : Program} {e : TypeId} : ∀ {r : List (DataW H)} {d : DataW H} {n : Nat}, d ∈ r → n ∈ d.weights P e → n ∈ DataW.weightsAll P e r
  | a :: r, d, n, hd, hn => by
    simp only [DataW.weightsAll, List.mem_append]
    rcases List.mem_cons.1 hd with rfl | hd
    · exact .inl hn
    · exact .inr (weightsAll_mem hd hn)
theorem choose_below {α : Type} {p : Nat → α → Prop} [Inhabited α] (n : Nat) (h : ∀ i, i < n → ∃ y, p i y) : ∃ f : Nat → α, ∀ i, i < n → p i (f i) := by
  classical
  exact ⟨fun i => if hi : i < n then Classical.choose (h i hi) else default, fun i hi => by simp only [hi, dif_pos]; exact Classical.choose_spec (h i hi)⟩
theorem flat_len {α : Type} (f : Nat → List α) (s : Nat) : ∀ n, (∀ i, i < n → (f i).length = s) → ((List.range n).flatMap f).length = n * s
  | 0, _ => by simp
  | n + 1, h => by
    rw [List.range_succ, List.flatMap_append, List.length_append, flat_len f s n fun i hi => h i (by omega)]
    simp [h n (by omega), Nat.succ_mul]
theorem flat_get {α : Type} (f : Nat → List α) (s : Nat) : ∀ n, (∀ i, i < n → (f i).length = s) → ∀ i r, i < n → r < s → ((List.range n).flatMap f)[i * s + r]? = (f i)[r]?
  | 0, _, i, _, hi, _ => by omega
  | n + 1, h, i, r, hi, hr => by
    have hl := flat_len f s n fun i hi => h i (by omega)
    rw [List.range_succ, List.flatMap_append]
    by_cases h2 : i < n
    · have h3 : i * s + r < n * s := by
        have : (i + 1) * s ≤ n * s := Nat.mul_le_mul_right s h2
        rw [Nat.succ_mul] at this
        omega
      rw [List.getElem?_append_left (by omega)]
      exact flat_get f s n (fun i hi => h i (by omega)) i r h2 hr
    · obtain rfl : i = n := by omega
      rw [List.getElem?_append_right (by omega), hl, Nat.add_sub_cancel_left]
      simp
section
variable {H : Type} {enc : TypeId × Value → H} {W : World} {fuel : Nat} {cs : List Value} {x : DataW H × List MemPlace}
theorem read_int {k : IntKind} {t : TypeId} (ht : Try.prog.underlying t = some (.int k)) (h : DataW.trod enc Try.prog W 0 (fun _ => true) true fuel t cs = some x) : ∃ n, cs = [.int k n] ∧ (Lit.int k n).wf = true := by
  cases fuel with
  | zero => simp [DataW.trod] at h
  | succ fuel =>
    unfold DataW.trod at h
    rw [ht] at h
    split at h <;> simp_all
/-- An array of numbers. -/
theorem read_arr {t e : TypeId} {n : Nat} {k : IntKind} (ht : Try.prog.underlying t = some (.array n e)) (he : Try.prog.underlying e = some (.int k)) (hc : Try.prog.cellsOf e = 1) (hn : Try.prog.cellsOf t = n)
    (h : DataW.trod enc Try.prog W 0 (fun _ => true) true fuel t cs = some x) : ∃ l : List Int, cs = nums k l ∧ l.length = n := by
  obtain ⟨xs, m, rfl, rfl, hl, hx, hi⟩ := DataW.trod_array ht h
  rw [hn] at hl
  obtain ⟨f, hf⟩ := choose_below (α := Int) (p := fun i z => cs[i]? = some (.int k z)) n (fun i hin => by
    have := hi i hin
    rw [hc, Nat.mul_one, List.getElem?_eq_getElem (by omega)] at this
    obtain ⟨z, hz, _⟩ := read_int he this
    refine ⟨z, ?_⟩
    have e := congrArg (fun l => l[0]?) hz
    simpa [List.getElem?_take, List.getElem?_drop] using e)
  refine ⟨(List.range n).map f, ?_, by simp⟩
  apply List.ext_getElem?
  intro i
  by_cases h2 : i < n
  · rw [hf i h2]
    simp [nums, h2]
  · rw [List.getElem?_eq_none (by omega), List.getElem?_eq_none (by simp [nums]; omega)]
/-- A row out of its elements' cells. -/
theorem rows_cells {a : Addr} {len cap s : Nat} {g : Nat → List Value} (hs : 0 < s) (hle : len ≤ cap) (hr : len ≤ reach) (hg : ∀ i, i < len → W.cells? 0 (a.add (i * s)) s = some (g i)) (hl : ∀ i, i < len → (g i).length = s) (h1 : ∀ i, i < len → ∀ u ∈ g i, u.oneCell' = true) :
    CellV W (.slice (some a) len cap) len s ((List.range len).flatMap g) := by
  refine ⟨some a, cap, rfl, hle, by simp, hr, flat_len g s len hl, fun u hu => ?_, fun hp => ?_⟩
  · obtain ⟨i, hi, hu⟩ := List.mem_flatMap.1 hu
    exact h1 i (List.mem_range.1 hi) u hu
  · have hlen : 0 < len := by
      rcases Nat.eq_zero_or_pos len with h0 | h0
      · subst h0; simp at hp
      · exact h0
    have h0 := (World.cells?_some (hg 0 hlen)).2.2 0 hs
    rw [Nat.zero_mul] at h0
    have hg0 : ∃ v, (g 0)[0]? = some v := ⟨(g 0)[0]'(by rw [hl 0 hlen]; exact hs), by simp⟩
    obtain ⟨v0, hv0⟩ := hg0
    have ha : a = ⟨a.block, a.off, none⟩ := by
      rw [hv0] at h0
      have h00 := addr_of_cell h0
      cases a with
      | mk b o q =>
        cases q with
        | none => rfl
        | some q => simp [Addr.add] at h00
    refine ⟨a.block, a.off, by rw [← ha], fun j v hv => ?_⟩
    have hj : j < len * s := by
      rcases Nat.lt_or_ge j (len * s) with h | h
      · exact h
      · rw [List.getElem?_eq_none (by rw [flat_len g s len hl]; exact h)] at hv; simp at hv
    have hk : j / s < len := Nat.div_lt_of_lt_mul (by rw [Nat.mul_comm]; exact hj)
    have hm : j % s < s := Nat.mod_lt _ hs
    have hjs : j / s * s + j % s = j := by rw [Nat.mul_comm]; exact Nat.div_add_mod j s
    have e := flat_get g s len hl (j / s) (j % s) hk hm
    rw [hjs, hv] at e
    have := (World.cells?_some (hg (j / s) hk)).2.2 (j % s) hm
    rw [← e] at this
    rw [← this]
    congr 1
    rw [add_lit' ha, Addr.add_lit]
    congr 1
    omega
theorem cellv_nil (w : World) (s : Nat) : CellV w (.slice none 0 0) 0 s [] := ⟨none, 0, rfl, Nat.le_refl _, fun _ => rfl, Nat.zero_le _, by simp, by simp, fun h => by simp at h⟩
/-- A slice of arrays of numbers. -/
theorem read_rows {S e b : TypeId} {s by_ : Nat} {k : IntKind} (hS : Try.prog.underlying S = some (.slice e)) (ht : Try.prog.underlying e = some (.array s b)) (he : Try.prog.underlying b = some (.int k)) (hc : Try.prog.cellsOf b = 1) (hn : Try.prog.cellsOf e = s) (hb : Try.prog.bytesOf e = by_) (hs : 0 < s) (hby : 0 < by_)
    (h : DataW.trod enc Try.prog W 0 (fun _ => true) true fuel S cs = some x) (hw : ∀ n ∈ x.1.weights Try.prog S, n ≤ reachBytes) : ∃ v n l, cs = [v] ∧ CellV W v n s (nums k l) := by
  rcases open_slice hS h with ⟨rfl, _⟩ | ⟨a, len, cap, m, n, D, Pl, rfl, _, hle, hm, hmm, rfl, hx⟩
  · exact ⟨_, 0, [], rfl, cellv_nil W s⟩
  · simp only [if_true] at hmm
    have hw1 := hw _ (by rw [DataW.weights, hS]; exact List.mem_cons_self)
    rw [hb, reach_eq] at hw1
    simp at hw1
    have hlen : len ≤ reach := by
      have h1 : len ≤ len + (m - len) := Nat.le_add_right _ _
      have h2 : (len + (m - len)) * 1 ≤ (len + (m - len)) * by_ := Nat.mul_le_mul_left _ hby
      omega
    obtain ⟨f, hf⟩ := choose_below (α := List Int) (p := fun i l => W.cells? 0 (a.add (i * s)) s = some (nums k l) ∧ l.length = s) len (fun i hi => by
      obtain ⟨cs', h1, h2⟩ := hx i (by omega)
      obtain ⟨l, rfl, hl⟩ := read_arr ht he hc hn h2
      rw [hn] at h1
      exact ⟨l, h1, hl⟩)
    refine ⟨_, len, (List.range len).flatMap f, rfl, ?_⟩
    have e : nums k ((List.range len).flatMap f) = (List.range len).flatMap fun i => nums k (f i) := by simp [nums, List.map_flatMap]
    rw [e]
    exact rows_cells hs hle hlen (fun i hi => (hf i hi).1) (fun i hi => by rw [nums_length]; exact (hf i hi).2) (fun i hi => nums_one _ _)
theorem read_bytes (h : DataW.trod enc Try.prog W 0 (fun _ => true) true fuel 27 cs = some x) (hw : ∀ n ∈ x.1.weights Try.prog 27, n ≤ reachBytes) : ∃ v l, cs = [v] ∧ NumsV W .u8 v l := by
  rcases open_ints Try.underlying27 Try.underlying5 (by kernel_rfl) h with ⟨rfl, _⟩ | ⟨a, len, cap, zs, rfl, _, hle, hm, hl, rfl, hc, hwf⟩
  · exact ⟨_, [], rfl, NumsV.nil W .u8⟩
  · simp only [if_true] at hl
    have hw1 := hw _ (by rw [DataW.weights, Try.underlying27]; exact List.mem_cons_self)
    rw [show Try.prog.bytesOf 5 = 1 by kernel_rfl, reach_eq] at hw1
    simp [lits] at hw1
    have hz : (zs.take len).length = len := by simp; omega
    refine ⟨_, zs.take len, rfl, some a, cap, by rw [hz], by omega, by simp, by rw [hz]; omega, fun hp => ?_⟩
    rw [hz] at hp
    have h0 := addr_of_cell (hc 0 (by omega))
    have ha : a = ⟨a.block, a.off, none⟩ := by
      cases a with
      | mk b o s =>
        cases s with
        | none => rfl
        | some s => simp [Addr.add] at h0
    refine ⟨a.block, a.off, by rw [← ha], fun j hj => ?_⟩
    rw [hz] at hj
    have := hc j (by omega)
    rw [add_lit' ha] at this
    rw [this]
    simp [List.getD_eq_getElem?_getD, List.getElem?_take, hj]
theorem accCells_map (E : Nat → AccE) (V : Nat → Value) : ∀ L : List Nat, accCells (L.map E) (L.map V) = L.flatMap fun i => nums .u8 (E i).ad ++ [V i]
  | [] => rfl
  | i :: L => by simp [accCells, accCells_map E V L]
set_option maxRecDepth 100000 in
theorem read_access (h : DataW.trod enc Try.prog W 0 (fun _ => true) true fuel 28 cs = some x) (hw : ∀ n ∈ x.1.weights Try.prog 28, n ≤ reachBytes) : ∃ v es, cs = [v] ∧ AccV W v es := by
  rcases open_slice Try.underlying28 h with ⟨rfl, _⟩ | ⟨a, len, cap, m, n, D, Pl, rfl, _, hle, hm, hmm, rfl, hx⟩
  · exact ⟨_, [], rfl, [], cellv_nil W 21, rfl, by simp, fun i hi => by simp at hi⟩
  · simp only [if_true] at hmm
    have hw1 := hw _ (by rw [DataW.weights, Try.underlying28]; exact List.mem_cons_self)
    rw [show Try.prog.bytesOf 39 = 48 by kernel_rfl, reach_eq] at hw1
    simp at hw1
    have hlen : len ≤ reach := by omega
    have hw2 : ∀ i, i < len → ∀ k ∈ (D i).weights Try.prog 39, k ≤ reachBytes := fun i hi k hk => hw k (by
      rw [DataW.weights, Try.underlying28]
      refine List.mem_cons_of_mem _ (List.mem_append.2 (.inl (weightsAll_mem (d := D i) ?_ hk)))
      exact List.mem_map.2 ⟨i, List.mem_range.2 hi, rfl⟩)
    have hc39 : Try.prog.cellsOf 39 = 21 := by kernel_rfl
    obtain ⟨f, hf⟩ := choose_below (α := AccE × Value) (p := fun i y => W.cells? 0 (a.add (i * 21)) 21 = some (nums .u8 y.1.ad ++ [y.2]) ∧ y.1.ad.length = 20 ∧ CellV W y.2 y.1.kn 4 (nums .u64 y.1.kc)) len (fun i hi => by
      obtain ⟨cs', h1, h2⟩ := hx i (by omega)
      have hw3 := hw2 i hi
      rw [hc39] at h1
      obtain ⟨xs, m2, rfl, e2, hl, hn2, he⟩ := DataW.trod_struct Try.underlying39 h2
      rw [hc39] at hl
      obtain ⟨eD, eP⟩ := Prod.mk.inj e2
      have hxs : xs.length = 2 := by simpa using hn2
      match xs, hxs with
      | [x0, x1], _ =>
        have h0 : DataW.trod enc Try.prog W 0 (fun _ => true) true m2 23 ((cs'.drop 0).take (Try.prog.cellsOf 23)) = some x0 := he 0 _ rfl
        have h1' : DataW.trod enc Try.prog W 0 (fun _ => true) true m2 37 ((cs'.drop 20).take (Try.prog.cellsOf 37)) = some x1 := he 1 _ rfl
        rw [show Try.prog.cellsOf 23 = 20 by kernel_rfl, List.drop_zero] at h0
        rw [show Try.prog.cellsOf 37 = 1 by kernel_rfl] at h1'
        obtain ⟨ad, e0, l0⟩ := read_arr Try.underlying23 Try.underlying5 (by kernel_rfl) (by kernel_rfl) h0
        have hall : ∀ n ∈ DataW.weightsEach Try.prog [23, 37] [x0.1, x1.1], n ≤ reachBytes := fun n hn => hw3 n (by rw [eD, DataW.weights, Try.underlying39]; exact hn)
        obtain ⟨kv, kn, kc, e1, hk⟩ := read_rows Try.underlying37 Try.underlying26 Try.underlying24 (by kernel_rfl) (by kernel_rfl) (show Try.prog.bytesOf 26 = 32 by kernel_rfl) (by decide) (by decide) h1' fun n hn => hall n (DataW.weights_mem_each (j := 1) rfl rfl n hn)
        refine ⟨(⟨ad, kn, kc⟩, kv), ?_, l0, hk⟩
        rw [h1]
        congr 1
        rw [← List.take_append_drop 20 cs', e0]
        congr 1
        rw [← e1]
        exact (List.take_of_length_le (by rw [List.length_drop]; omega)).symm)
    refine ⟨_, (List.range len).map fun i => (f i).1, rfl, (List.range len).map fun i => (f i).2, ?_, by simp, fun e he => ?_, fun i hi => ?_⟩
    · rw [accCells_map, List.length_map, List.length_range]
      exact rows_cells (by decide) hle hlen (fun i hi => (hf i hi).1) (fun i hi => by simp [nums_length, (hf i hi).2.1]) (fun i hi u hu => by
        rcases List.mem_append.1 hu with h | h
        · exact nums_one _ _ u h
        · obtain ⟨_, _, e, _⟩ := (hf i hi).2.2
          simp at h
          rw [h, e]
          rfl)
    · obtain ⟨i, hi, rfl⟩ := List.mem_map.1 he
      exact (hf i (List.mem_range.1 hi)).2.1
    · have hi2 : i < len := by simpa using hi
      have e1 : ((List.range len).map fun i => (f i).1).getD i default = (f i).1 := by simp [List.getD_eq_getElem?_getD, hi2]
      have e2 : ((List.range len).map fun i => (f i).2).getD i undef = (f i).2 := by simp [List.getD_eq_getElem?_getD, hi2]
      rw [e1, e2]
      exact (hf i hi2).2.2
end
end Go.Proofs.Ytlafibjcmalkdaa
