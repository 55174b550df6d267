/- Arguments that read as data read as plain lists. -/
import Derived.Test.YtkbboepopcebaaaX
import Derived.ProofKit
import Derived.OpenShut
import Derived.SizedLaws
import Derived.Deep.Slices
namespace Go.Proofs.Ytkbboepopcebaaa
open Go.RowKit Go.ChangeShapes Go.WideShapes Go.Deep

theorem cells5 : Try.prog.cellsOf 5 = 1 := by kernel_rfl
theorem cells22 : Try.prog.cellsOf 22 = 1 := by kernel_rfl
theorem cells25 : Try.prog.cellsOf 25 = 1 := by kernel_rfl
theorem cells26 : Try.prog.cellsOf 26 = 1 := by kernel_rfl
theorem cells3 : Try.prog.cellsOf 3 = 1 := by kernel_rfl
theorem cells69 : Try.prog.cellsOf 69 = 3 := by kernel_rfl
theorem cells28 : Try.prog.cellsOf 28 = 5 := by kernel_rfl
theorem bytes5 : Try.prog.bytesOf 5 = 1 := by kernel_rfl
theorem bytes22 : Try.prog.bytesOf 22 = 24 := by kernel_rfl
theorem bytes69 : Try.prog.bytesOf 69 = 24 := by kernel_rfl
theorem reach_eq : reachBytes = reach := by decide
theorem addr_of_cell {w : World} {a : Addr} {v : Value} (h : w.cell? a = some v) : a = ⟨a.block, a.off, none⟩ := by
  cases a with
  | mk b o s =>
    cases s with
    | none => rfl
    | some s =>
      unfold World.cell? at h
      split at h <;> simp at h
theorem add_lit' {a : Addr} (h : a = ⟨a.block, a.off, none⟩) (j : Nat) : a.add j = ⟨a.block, a.off + j, none⟩ := by
  rw [h]; exact Addr.add_lit _ _ _
section
variable {H : Type} {enc : TypeId × Value → H} {W : World} {fuel : Nat} {cs : List Value} {x : DataW H × List MemPlace}
theorem read_bytes (h : DataW.trod enc Try.prog W 0 (fun _ => true) true fuel 22 cs = some x) (hw : ∀ n ∈ x.1.weights Try.prog 22, n ≤ reachBytes) : ∃ v l, cs = [v] ∧ NumsV W .u8 v l ∧ Byt l := by
  rcases open_ints Try.underlying22 Try.underlying5 cells5 h with ⟨rfl, _⟩ | ⟨a, len, cap, zs, rfl, _, hle, hm, hl, rfl, hc, hwf⟩
  · exact ⟨_, [], rfl, NumsV.nil W .u8, by intro y hy; simp at hy⟩
  · simp only [if_true] at hl
    have hw1 := hw _ (by rw [DataW.weights, Try.underlying22]; exact List.mem_cons_self)
    rw [bytes5, reach_eq] at hw1
    simp [lits] at hw1
    have hz : (zs.take len).length = len := by simp; omega
    refine ⟨_, zs.take len, rfl, ⟨some a, cap, by rw [hz], by omega, by simp, by rw [hz]; omega, fun hp => ?_⟩, fun y hy => ?_⟩
    · rw [hz] at hp
      have h0 := addr_of_cell (hc 0 (by omega))
      have ha : a = ⟨a.block, a.off, none⟩ := by
        cases a with
        | mk b o s =>
          cases s with
          | none => rfl
          | some s => simp [Addr.add] at h0
      refine ⟨a.block, a.off, by rw [← ha], fun j hj => ?_⟩
      rw [hz] at hj
      have := hc j (by omega)
      rw [add_lit' ha] at this
      rw [this]
      simp [List.getD_eq_getElem?_getD, List.getElem?_take, hj]
    · have := hwf y (List.mem_of_mem_take hy)
      simp [Lit.wf, IntKind.min, IntKind.max, IntKind.signed, IntKind.bits] at this
      omega
theorem weightsAll_mem {P : Program} {e : TypeId} : ∀ {r : List (DataW H)} {d : DataW H} {n : Nat}, d ∈ r → n ∈ d.weights P e → n ∈ DataW.weightsAll P e r
  | a :: r, d, n, hd, hn => by
    simp only [DataW.weightsAll, List.mem_append]
    rcases List.mem_cons.1 hd with rfl | hd
    · exact .inl hn
    · exact .inr (weightsAll_mem hd hn)
theorem addr_add {w : World} {a : Addr} {v : Value} (h : w.cell? (a.add 0) = some v) : a = ⟨a.block, a.off, none⟩ := by
  have h0 := addr_of_cell h
  cases a with
  | mk b o s =>
    cases s with
    | none => rfl
    | some s => simp [Addr.add] at h0
theorem choose_below {α : Type} {p : Nat → α → Prop} [Inhabited α] (n : Nat) (h : ∀ i, i < n → ∃ y, p i y) : ∃ f : Nat → α, ∀ i, i < n → p i (f i) := by
  classical
  exact ⟨fun i => if hi : i < n then Classical.choose (h i hi) else default, fun i hi => by simp only [hi, dif_pos]; exact Classical.choose_spec (h i hi)⟩
theorem read_parts (h : DataW.trod enc Try.prog W 0 (fun _ => true) true fuel 26 cs = some x) (hw : ∀ n ∈ x.1.weights Try.prog 26, n ≤ reachBytes) : ∃ v ll, cs = [v] ∧ PartsV W v ll ∧ ∀ l ∈ ll, Byt l := by
  rcases open_slice1 Try.underlying26 cells22 h with ⟨rfl, _⟩ | ⟨a, len, cap, m, n, V, D, Pl, rfl, _, hle, hm, hmm, rfl, hx⟩
  · exact ⟨_, [], rfl, ⟨none, 0, rfl, Nat.le_refl _, fun _ => rfl, by simp [reach], fun hp => by simp at hp⟩, by simp⟩
  · simp only [if_true] at hmm
    have hw1 := hw _ (by rw [DataW.weights, Try.underlying26]; exact List.mem_cons_self)
    rw [bytes22, reach_eq] at hw1
    simp at hw1
    have hlen : len ≤ reach := by omega
    have hw2 : ∀ i, i < len → ∀ k ∈ (D i).weights Try.prog 22, k ≤ reachBytes := fun i hi k hk => hw k (by
      rw [DataW.weights, Try.underlying26]
      refine List.mem_cons_of_mem _ (List.mem_append.2 (.inl (weightsAll_mem (d := D i) ?_ hk)))
      exact List.mem_map.2 ⟨i, List.mem_range.2 hi, rfl⟩)
    obtain ⟨f, hf⟩ := choose_below (α := List Int) (p := fun i l => NumsV W .u8 (V i) l ∧ Byt l) len (fun i hi => by
      obtain ⟨_, h2⟩ := hx i (by omega)
      obtain ⟨v, l, e, h3, h4⟩ := read_bytes h2 (hw2 i hi)
      simp at e
      exact ⟨l, by rw [e]; exact h3, h4⟩)
    have hz : ((List.range len).map f).length = len := by simp
    refine ⟨_, (List.range len).map f, rfl, ⟨some a, cap, by rw [hz], by omega, by simp, by rw [hz]; exact hlen, fun hp => ?_⟩, fun l hl => ?_⟩
    · rw [hz] at hp
      have ha := addr_add (hx 0 (by omega)).1
      refine ⟨a.block, a.off, by rw [← ha], fun j hj => ⟨V j, ?_, ?_⟩⟩
      · rw [hz] at hj
        have := (hx j (by omega)).1
        rwa [add_lit' ha] at this
      · rw [hz] at hj
        have e : ((List.range len).map f).getD j [] = f j := by simp [List.getD_eq_getElem?_getD, hj]
        rw [e]
        exact (hf j hj).1
    · obtain ⟨i, hi, rfl⟩ := List.mem_map.1 hl
      exact (hf i (List.mem_range.1 hi)).2
theorem read_int {k : IntKind} {t : TypeId} (ht : Try.prog.underlying t = some (.int k)) (h : DataW.trod enc Try.prog W 0 (fun _ => true) true fuel t cs = some x) : ∃ n, cs = [.int k n] ∧ (Lit.int k n).wf = true := by
  cases fuel with
  | zero => simp [DataW.trod] at h
  | succ fuel =>
    unfold DataW.trod at h
    rw [ht] at h
    split at h <;> simp_all
def I64 (n : Int) : Prop := -9223372036854775808 ≤ n ∧ n ≤ 9223372036854775807
theorem i64_of {n : Int} (h : (Lit.int .i64 n).wf = true) : I64 n := by simp [Lit.wf, IntKind.min, IntKind.max, IntKind.signed, IntKind.bits] at h; exact h
def TyOk (t : Ty) : Prop := I64 t.i ∧ I64 t.o ∧ I64 t.m
set_option maxRecDepth 100000 in
theorem read_ty (h : DataW.trod enc Try.prog W 0 (fun _ => true) true fuel 69 cs = some x) : ∃ t, cs = tyCells t ∧ TyOk t := by
  obtain ⟨xs, n, rfl, rfl, hl, hn, he⟩ := DataW.trod_struct Try.underlying69 h
  rw [cells69] at hl
  match cs, hl with
  | [u0, u1, u2], _ =>
    have h0 := he 0 _ rfl
    have h1 := he 1 _ rfl
    have h2 := he 2 _ rfl
    have hx : xs.length = 3 := by simpa using hn
    match xs, hx with
    | [x0, x1, x2], _ =>
      simp [cells3] at h0 h1 h2
      obtain ⟨a, ea, wa⟩ := read_int Try.underlying3 h0
      obtain ⟨b, eb, wb⟩ := read_int Try.underlying3 h1
      obtain ⟨c, ec, wc⟩ := read_int Try.underlying3 h2
      simp at ea eb ec
      exact ⟨⟨a, b, c⟩, by simp [tyCells, ea, eb, ec], i64_of wa, i64_of wb, i64_of wc⟩
theorem tysOf_get (ts : List Ty) : ∀ k, k < ts.length → ∀ j, j < 3 → (tysOf ts)[k * 3 + j]? = (tyCells (ts.getD k ty0))[j]? := by
  intro k hk j hj
  obtain ⟨h1, h2, h3⟩ := tysOf_at ts k hk
  rcases (show j = 0 ∨ j = 1 ∨ j = 2 by omega) with rfl | rfl | rfl
  · rw [Nat.add_zero, h1]; rfl
  · rw [h2]; rfl
  · rw [h3]; rfl
instance : Inhabited Ty := ⟨ty0⟩
theorem read_types (h : DataW.trod enc Try.prog W 0 (fun _ => true) true fuel 25 cs = some x) (hw : ∀ n ∈ x.1.weights Try.prog 25, n ≤ reachBytes) : ∃ v ts, cs = [v] ∧ TypesV W v ts ∧ ∀ t ∈ ts, TyOk t := by
  rcases open_slice Try.underlying25 h with ⟨rfl, _⟩ | ⟨a, len, cap, m, n, D, Pl, rfl, _, hle, hm, hmm, rfl, hx⟩
  · exact ⟨_, [], rfl, ⟨none, 0, rfl, Nat.le_refl _, fun _ => rfl, by simp [reach], fun hp => by simp [tysOf] at hp⟩, by simp⟩
  · simp only [if_true] at hmm
    have hw1 := hw _ (by rw [DataW.weights, Try.underlying25]; exact List.mem_cons_self)
    rw [bytes69, reach_eq] at hw1
    simp at hw1
    obtain ⟨f, hf⟩ := choose_below (α := Ty) (p := fun i t => W.cells? 0 (a.add (i * 3)) 3 = some (tyCells t) ∧ TyOk t) len (fun i hi => by
      obtain ⟨cs', h1, h2⟩ := hx i (by omega)
      obtain ⟨t, rfl, ht⟩ := read_ty h2
      rw [cells69] at h1
      exact ⟨t, h1, ht⟩)
    have hz : ((List.range len).map f).length = len := by simp
    refine ⟨_, (List.range len).map f, rfl, ⟨some a, cap, by rw [hz], by omega, by simp, by rw [hz]; omega, fun hp => ?_⟩, fun t ht => ?_⟩
    · rw [tysOf_length, hz] at hp
      have h0 := (World.cells?_some (hf 0 (by omega)).1).2.2 0 (by omega)
      have ha := addr_add (a := a) (w := W) (v := .int .i64 (f 0).i) (by simpa [tyCells, Addr.add] using h0)
      refine ⟨a.block, a.off, by rw [← ha], fun j v hv => ?_⟩
      have hj : j < len * 3 := by
        rcases Nat.lt_or_ge j (len * 3) with h | h
        · exact h
        · rw [List.getElem?_eq_none (by rw [tysOf_length, hz]; exact h)] at hv; simp at hv
      have hk : j / 3 < len := by omega
      have hg := tysOf_get ((List.range len).map f) (j / 3) (by rw [hz]; exact hk) (j % 3) (by omega)
      rw [show j / 3 * 3 + j % 3 = j by omega, hv] at hg
      have e : ((List.range len).map f).getD (j / 3) ty0 = f (j / 3) := by simp [List.getD_eq_getElem?_getD, hk]
      rw [e] at hg
      have := (World.cells?_some (hf (j / 3) hk).1).2.2 (j % 3) (by omega)
      rw [← hg] at this
      rw [← this]
      congr 1
      rw [add_lit' ha, Addr.add_lit]
      congr 1
      omega
    · obtain ⟨i, hi, rfl⟩ := List.mem_map.1 ht
      exact (hf i (List.mem_range.1 hi)).2
/-- What a container that came in is good for. -/
structure ContOk (c : Cont) : Prop where
  types : ∀ t ∈ c.types, TyOk t
  codes : ∀ l ∈ c.codes, Byt l
  subs : ∀ l ∈ c.subs, Byt l
  data : Byt c.data
  size : I64 c.size
set_option maxRecDepth 100000 in
theorem read_cont {v : Value} {d : DataW H} {ps : List MemPlace} (hv : ∃ a, v = .agg a) (h : DataW.Trod enc Try.prog W 0 (fun _ => true) true 28 v d ps) (hw : ∀ n ∈ d.weights Try.prog 28, n ≤ reachBytes) : ∃ c, ContV W v c ∧ ContOk c := by
  obtain ⟨a, rfl⟩ := hv
  obtain ⟨fuel, h⟩ := h
  obtain ⟨xs, n, rfl, e, hl, hn, he⟩ := DataW.trod_struct Try.underlying28 h
  rw [cells28] at hl
  obtain ⟨rfl, rfl⟩ := Prod.mk.inj e
  have hxs : xs.length = 5 := by simpa using hn
  match xs, hxs with
  | [x0, x1, x2, x3, x4], _ =>
    have ha : ∃ u0 u1 u2 u3 u4, a = #[u0, u1, u2, u3, u4] := by
      have hs : a.toList.length = 5 := by simpa [Value.cells] using hl
      match h5 : a.toList, hs with
      | [u0, u1, u2, u3, u4], _ => exact ⟨u0, u1, u2, u3, u4, by rw [← Array.toArray_toList (xs := a), h5]⟩
    obtain ⟨u0, u1, u2, u3, u4, rfl⟩ := ha
    have h0 := he 0 _ rfl
    have h1 := he 1 _ rfl
    have h2 := he 2 _ rfl
    have h3 := he 3 _ rfl
    have h4 := he 4 _ rfl
    simp [cells25, cells26, cells22, cells3, Value.cells] at h0 h1 h2 h3 h4
    have hall : ∀ n ∈ DataW.weightsEach Try.prog [25, 26, 26, 22, 3] [x0.1, x1.1, x2.1, x3.1, x4.1], n ≤ reachBytes := fun n hn => hw n (by rw [DataW.weights, Try.underlying28]; exact hn)
    obtain ⟨vt, ts, e0, k0, o0⟩ := read_types h0 fun n hn => hall n (DataW.weights_mem_each (j := 0) rfl rfl n hn)
    obtain ⟨vc, cl, e1, k1, o1⟩ := read_parts h1 fun n hn => hall n (DataW.weights_mem_each (j := 1) rfl rfl n hn)
    obtain ⟨vs, sl, e2, k2, o2⟩ := read_parts h2 fun n hn => hall n (DataW.weights_mem_each (j := 2) rfl rfl n hn)
    obtain ⟨vd, dl, e3, k3, o3⟩ := read_bytes h3 fun n hn => hall n (DataW.weights_mem_each (j := 3) rfl rfl n hn)
    obtain ⟨z, e4, o4⟩ := read_int Try.underlying3 h4
    obtain rfl := (List.cons.inj e0).1
    obtain rfl := (List.cons.inj e1).1
    obtain rfl := (List.cons.inj e2).1
    obtain rfl := (List.cons.inj e3).1
    obtain rfl := (List.cons.inj e4).1
    exact ⟨⟨ts, cl, sl, dl, z⟩, ⟨_, _, _, _, rfl, k0, k1, k2, k3⟩, o0, o1, o2, o3, i64_of o4⟩
end
end Go.Proofs.Ytkbboepopcebaaa
