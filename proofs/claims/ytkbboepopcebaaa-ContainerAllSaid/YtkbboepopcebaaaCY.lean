/- A list of calls that came in, read. -/
import Derived.Test.YtkbboepopcebaaaAT
import Derived.Test.YtkbboepopcebaaaCR
namespace Go.Proofs.Ytkbboepopcebaaa
open Go.RowKit Go.ChangeShapes Go.WideShapes Go.Deep

/-- A call: its kind, its bytes, whether data may be short. -/
structure ActP where
  kind : Int
  b : List Int
  op : Bool
theorem cells4 : Try.prog.cellsOf 4 = 1 := by kernel_rfl
theorem cells58 : Try.prog.cellsOf 58 = 3 := by kernel_rfl
theorem bytes58 : Try.prog.bytesOf 58 = 40 := by kernel_rfl
/-- v reads as these calls. -/
def ActsV (w : World) (v : Value) (acts : List ActP) : Prop := ∃ A c, v = .slice A acts.length c ∧ acts.length ≤ reach ∧ ∀ j, (hj : j < acts.length) → ∃ b o vB, A = some ⟨b, o, none⟩ ∧
  w.cell? ⟨b, o + j * 3, none⟩ = some (.int .i64 acts[j].kind) ∧ w.cell? ⟨b, o + j * 3 + 1, none⟩ = some vB ∧ NumsV w .u8 vB acts[j].b ∧ w.cell? ⟨b, o + j * 3 + 2, none⟩ = some (.bool acts[j].op)
section
variable {H : Type} {enc : TypeId × Value → H} {W : World} {fuel : Nat} {cs : List Value} {x : DataW H × List MemPlace}
set_option maxRecDepth 100000 in
theorem read_bool (h : DataW.trod enc Try.prog W 0 (fun _ => true) true fuel 4 cs = some x) : ∃ b, cs = [.bool b] := by
  cases fuel with
  | zero => simp [DataW.trod] at h
  | succ fuel =>
    unfold DataW.trod at h
    rw [Try.underlying4] at h
    split at h <;> simp_all
set_option maxRecDepth 100000 in
theorem read_act (h : DataW.trod enc Try.prog W 0 (fun _ => true) true fuel 58 cs = some x) (hw : ∀ n ∈ x.1.weights Try.prog 58, n ≤ reachBytes) : ∃ (vB : Value) (a : ActP), cs = [.int .i64 a.kind, vB, .bool a.op] ∧ NumsV W .u8 vB a.b ∧ Byt a.b ∧ I64 a.kind := by
  obtain ⟨xs, n, rfl, rfl, hl, hn, he⟩ := DataW.trod_struct Try.underlying58 h
  rw [cells58] at hl
  match cs, hl with
  | [u0, u1, u2], _ =>
    have h0 := he 0 _ rfl
    have h1 := he 1 _ rfl
    have h2 := he 2 _ rfl
    have hx : xs.length = 3 := by simpa using hn
    match xs, hx with
    | [x0, x1, x2], _ =>
      simp [cells3, cells22, cells4] at h0 h1 h2
      have hall : ∀ n ∈ DataW.weightsEach Try.prog [3, 22, 4] [x0.1, x1.1, x2.1], n ≤ reachBytes := fun n hn => hw n (by rw [DataW.weights, Try.underlying58]; exact hn)
      obtain ⟨a, ea, wa⟩ := read_int Try.underlying3 h0
      obtain ⟨vB, l, eb, hb, hy⟩ := read_bytes h1 fun n hn => hall n (DataW.weights_mem_each (j := 1) rfl rfl n hn)
      obtain ⟨c, ec⟩ := read_bool h2
      simp at ea eb ec
      exact ⟨vB, ⟨a, l, c⟩, by simp [ea, eb, ec], hb, hy, i64_of wa⟩
instance : Inhabited ActP := ⟨⟨0, [], false⟩⟩
theorem read_acts (h : DataW.trod enc Try.prog W 0 (fun _ => true) true fuel 54 cs = some x) (hw : ∀ n ∈ x.1.weights Try.prog 54, n ≤ reachBytes) : ∃ v acts, cs = [v] ∧ ActsV W v acts ∧ ∀ a ∈ acts, Byt a.b ∧ I64 a.kind := by
  rcases open_slice Try.underlying54 h with ⟨rfl, _⟩ | ⟨a, len, cap, m, n, D, Pl, rfl, _, hle, hm, hmm, rfl, hx⟩
  · exact ⟨_, [], rfl, ⟨none, 0, rfl, by simp [reach], fun j hj => by simp at hj⟩, by simp⟩
  · simp only [if_true] at hmm
    have hw1 := hw _ (by rw [DataW.weights, Try.underlying54]; exact List.mem_cons_self)
    rw [bytes58, reach_eq] at hw1
    simp at hw1
    have hw2 : ∀ i, i < len → ∀ k ∈ (D i).weights Try.prog 58, k ≤ reachBytes := fun i hi k hk => hw k (by
      rw [DataW.weights, Try.underlying54]
      refine List.mem_cons_of_mem _ (List.mem_append.2 (.inl (weightsAll_mem (d := D i) ?_ hk)))
      exact List.mem_map.2 ⟨i, List.mem_range.2 hi, rfl⟩)
    obtain ⟨f, hf⟩ := choose_below (α := ActP) (p := fun i t => (∃ vB, W.cells? 0 (a.add (i * 3)) 3 = some [.int .i64 t.kind, vB, .bool t.op] ∧ NumsV W .u8 vB t.b) ∧ Byt t.b ∧ I64 t.kind) len (fun i hi => by
      obtain ⟨cs', h1, h2⟩ := hx i (by omega)
      obtain ⟨vB, t, rfl, h3, h4, h5⟩ := read_act h2 (hw2 i hi)
      rw [cells58] at h1
      exact ⟨t, ⟨vB, h1, h3⟩, h4, h5⟩)
    have hz : ((List.range len).map f).length = len := by simp
    refine ⟨_, (List.range len).map f, rfl, ⟨some a, cap, by rw [hz], by rw [hz]; omega, fun j hj => ?_⟩, fun t ht => ?_⟩
    · rw [hz] at hj
      obtain ⟨⟨vB, hc, hn⟩, _⟩ := hf j hj
      have e : ((List.range len).map f)[j]'(by rw [hz]; exact hj) = f j := by simp
      have h0 := (World.cells?_some hc).2.2 0 (by omega)
      have h1 := (World.cells?_some hc).2.2 1 (by omega)
      have h2 := (World.cells?_some hc).2.2 2 (by omega)
      have ha0 : a = ⟨a.block, a.off, none⟩ := by
        obtain ⟨⟨_, hc0, _⟩, _⟩ := hf 0 (by omega)
        have h00 := (World.cells?_some hc0).2.2 0 (by omega)
        exact addr_add (a := a) (w := W) (v := .int .i64 (f 0).kind) (by simpa [Addr.add] using h00)
      rw [add_lit' ha0] at h0 h1 h2
      rw [Addr.add_lit] at h0 h1 h2
      simp at h0 h1 h2
      refine ⟨a.block, a.off, vB, by rw [← ha0], ?_, ?_, ?_, ?_⟩
      · rw [e]; exact h0
      · exact h1
      · rw [e]; exact hn
      · rw [e]; exact h2
    · obtain ⟨i, hi, rfl⟩ := List.mem_map.1 ht
      exact (hf i (List.mem_range.1 hi)).2
end
end Go.Proofs.Ytkbboepopcebaaa
namespace Go.Proofs.Ytkbboepopcebaaa
open Go.RowKit

/-- The five values of a container. -/
structure U5 where
  t : Value
  c : Value
  s : Value
  d : Value
  z : Int
def U5.cells (u : U5) : List Value := [u.t, u.c, u.s, u.d, .int .i64 u.z]
def U5.agg (u : U5) : Value := .agg #[u.t, u.c, u.s, u.d, .int .i64 u.z]
def cellsU (us : List U5) : List Value := us.flatMap U5.cells
theorem cellsU_length (us : List U5) : (cellsU us).length = us.length * 5 := by
  induction us with
  | nil => rfl
  | cons u r ih => simp only [cellsU, List.flatMap_cons, List.length_append] at *; rw [ih]; simp [U5.cells]; omega
theorem cellsU_snoc (us : List U5) (u : U5) : cellsU (us ++ [u]) = cellsU us ++ u.cells := by simp [cellsU]
theorem cellsU_at : ∀ (us : List U5) (k : Nat) (h : k < us.length), (cellsU us)[k * 5]? = some us[k].t ∧ (cellsU us)[k * 5 + 1]? = some us[k].c ∧ (cellsU us)[k * 5 + 2]? = some us[k].s ∧ (cellsU us)[k * 5 + 3]? = some us[k].d ∧ (cellsU us)[k * 5 + 4]? = some (.int .i64 us[k].z)
  | [], k, h => by simp at h
  | u :: r, 0, _ => by simp [cellsU, U5.cells]
  | u :: r, k + 1, h => by
    have ih := cellsU_at r k (by simp at h; omega)
    have e : ∀ j, (cellsU (u :: r))[(k + 1) * 5 + j]? = (cellsU r)[k * 5 + j]? := fun j => by
      rw [show (k + 1) * 5 + j = 5 + (k * 5 + j) by omega]
      simp only [cellsU, List.flatMap_cons]
      rw [List.getElem?_append_right (by simp [U5.cells])]
      simp [U5.cells]
    have e0 := e 0
    simp only [Nat.add_zero] at e0
    rw [e0, e 1, e 2, e 3, e 4]
    simpa using ih
/-- Between the two worlds no block has turned but one of containers. -/
structure G28 (w w1 : World) : Prop where
  ex : ∃ r : Option Nat, w.grownBy w1 r ∧ ∀ X, r = some X → ∃ cs, w.heap[X]? = some (.cells cs 28 (0, 0))
theorem G28.below {w w1 : World} (h : Below w.heap.size w w1) : G28 w w1 := ⟨none, grown_of_below h _, fun X e => by cases e⟩
theorem G28.box {w w1 : World} {X : Nat} {v0 v1 v2 v3 v4 : Value} (h : HBx w X v0 v1 v2 v3 v4) (hg : w.grownBy w1 (some X)) : G28 w w1 := ⟨some X, hg, fun Y e => by cases e; exact ⟨_, h⟩⟩
theorem G28.row {w w1 : World} {B k n : Nat} {v : Value} {l : List Value} (h : w.ownsRow B 28 k v n l) (hg : w.grownBy w1 v.ownBlock) : G28 w w1 := by
  refine ⟨v.ownBlock, hg, fun X e => ?_⟩
  rcases h.2 with ⟨rfl, _⟩ | ⟨g, cap, cur, rfl, _, hh, _⟩
  · simp [Value.ownBlock] at e
  · have e2 : g = X := by simpa [Value.ownBlock] using e
    subst e2
    exact ⟨cur, hh⟩
theorem own_28 {w w1 : World} {B : Nat} {t : TypeId} {k n : Nat} {v : Value} {l : List Value} (ho : w.ownsRow B t k v n l) (ht : t ≠ 28) (g : G28 w w1) : w1.ownsRow B t k v n l := by
  obtain ⟨r, hg, hr⟩ := g.ex
  refine own_other ho hg ?_
  rcases ho.2 with ⟨rfl, _⟩ | ⟨b, cap, cur, rfl, _, hh, _⟩
  · exact .inl rfl
  · refine .inr fun e => ?_
    obtain ⟨cs, hc⟩ := hr b (by simpa [Value.ownBlock] using e.symm)
    rw [hh] at hc
    simp only [Option.some.injEq, Obj.cells.injEq] at hc
    exact ht hc.2.1
theorem PartsO.g28 {w w1 : World} {B : Nat} {v : Value} {ll : List (List Int)} (h : PartsO w B v ll) (g : G28 w w1) : PartsO w1 B v ll := by
  obtain ⟨vs, h1⟩ := h
  exact ⟨vs, h1.len, own_28 h1.own (by decide) g, fun j hj => own_28 (h1.each j hj) (by decide) g, h1.apart⟩
theorem PContV.g28 {w w1 : World} {B : Nat} {v : Value} {c : Cont} (h : PContV w B v c) (g : G28 w w1) : PContV w1 B v c := by
  obtain ⟨T, C, S, D, e, hT, hC, hS, hD⟩ := h.form
  exact ⟨T, C, S, D, e, own_28 hT (by decide) g, hC.g28 g, hS.g28 g, own_28 hD (by decide) g⟩
theorem PContV.baseK {w : World} {B B' : Nat} {v : Value} {c : Cont} (h : PContV w B v c) (hb : B' ≤ B) : PContV w B' v c := by
  obtain ⟨T, C, S, D, e, hT, hC, hS, hD⟩ := h.form
  exact ⟨T, C, S, D, e, own_base hT hb, hC.base hb, hS.base hb, own_base hD hb⟩
theorem PContV.five {w : World} {B : Nat} {v : Value} {c : Cont} (h : PContV w B v c) : ∃ u : U5, v = u.agg ∧ u.z = c.size ∧ ∀ x ∈ u.cells, x.oneCell' = true := by
  obtain ⟨T, C, S, D, e, hT, hC, hS, hD⟩ := h.form
  obtain ⟨A0, c0, rfl, _⟩ := own_shape hT
  obtain ⟨A1, c1, rfl⟩ := hC.shape
  obtain ⟨A2, c2, rfl⟩ := hS.shape
  obtain ⟨A3, c3, rfl, _⟩ := own_shape hD
  refine ⟨⟨_, _, _, _, c.size⟩, e, rfl, fun x hx => ?_⟩
  simp [U5.cells] at hx
  rcases hx with rfl | rfl | rfl | rfl | rfl <;> rfl
/-- A row of containers, each the call's own. -/
structure KRow (w : World) (B0 B : Nat) (v : Value) (us : List U5) (kl : List Cont) : Prop where
  row : w.ownsRow B 28 5 v us.length (cellsU us)
  len : us.length = kl.length
  each : ∀ j, (h1 : j < us.length) → (h2 : j < kl.length) → PContV w B0 us[j].agg kl[j]
theorem KRow.nil (w : World) (B0 B : Nat) : KRow w B0 B (.slice none 0 0) [] [] := ⟨World.ownsRow_nil _ _ _ _, rfl, fun j h => by simp at h⟩
theorem KRow.below {w w1 : World} {B0 B : Nat} {v : Value} {us : List U5} {kl : List Cont} (h : KRow w B0 B v us kl) (hb : Below w.heap.size w w1) : KRow w1 B0 B v us kl :=
  ⟨own_below h.row hb, h.len, fun j h1 h2 => (h.each j h1 h2).belowK hb⟩
/-- A box, or another row, has turned. -/
theorem KRow.other {w w1 : World} {B0 B : Nat} {v : Value} {us : List U5} {kl : List Cont} {r : Option Nat} (h : KRow w B0 B v us kl) (hg : w.grownBy w1 r) (hr : ∀ X, r = some X → ∃ cs, w.heap[X]? = some (.cells cs 28 (0, 0))) (hne : v.ownBlock = none ∨ v.ownBlock ≠ r) : KRow w1 B0 B v us kl :=
  ⟨own_other h.row hg hne, h.len, fun j h1 h2 => (h.each j h1 h2).g28 ⟨r, hg, hr⟩⟩
/-- One container more. -/
theorem KRow.snoc {w W w' : World} {B0 B : Nat} {v v' : Value} {us : List U5} {kl : List Cont} {u : U5} {c : Cont} (h : KRow w B0 B v us kl) (hb : Below w.heap.size w W) (hu : PContV W B0 u.agg c) (ho : w'.ownsRow B 28 5 v' (us.length + 1) (cellsU us ++ u.cells)) (hg : W.grownBy w' v.ownBlock) : KRow w' B0 B v' (us ++ [u]) (kl ++ [c]) := by
  have hW := h.below hb
  have g := G28.row hW.row hg
  refine ⟨by rw [cellsU_snoc]; simpa using ho, by simp [h.len], fun j h1 h2 => ?_⟩
  have hl := h.len
  by_cases hj : j < us.length
  · have e1 : (us ++ [u])[j] = us[j] := by simp [List.getElem_append, hj]
    have e2 : (kl ++ [c])[j] = kl[j]'(by omega) := by simp [List.getElem_append, show j < kl.length by omega]
    rw [e1, e2]
    exact (hW.each j hj (by omega)).g28 g
  · have hj2 : j = us.length := by simp at h1; omega
    subst hj2
    have e1 : (us ++ [u])[us.length] = u := by simp
    have e2 : (kl ++ [c])[us.length] = c := by simp [List.getElem_append, hl]
    rw [e1, e2]
    exact hu.g28 g
theorem infoC : (Try.prog.info? 28).map (fun i => (i.zero, i.size, i.bytes)) = some (some (.agg #[.slice none 0 0, .slice none 0 0, .slice none 0 0, .slice none 0 0, .int .i64 0]), 5, 104) := by kernel_rfl
/-- append(kept, c) at a step of a region that draws. -/
theorem step_cont {ops : Array Oper} {o : Oper} {a : Act} {Q : Exit → Act → World → Prop} {K : Act → World → Prop} {E : Prop} {W0 W : World} (u : U5) (s r : Operand) (hgd : o.guard = none) (ho : o.op = .call { callee := .builtin .append, args := #[s, r], argTypes := #[56, 56] })
    {B n : Nat} {v : Value} {vs : List Value} (g : Nat) (HO : Hid (W0.ownsRow B 28 5 v n vs)) (hs : a.eval s = v) (hx : a.eval r = .slice (some ⟨g, 0, none⟩) 1 1) (hn : n + 1 ≤ 1048576) (hB : B ≤ W0.heap.size) (hb : Below W0.heap.size W0 W) (hg : W.heap[g]? = some (.cells #[u.t, u.c, u.s, u.d, .int .i64 u.z] 28 (0, 0))) (hu : ∀ x ∈ u.cells, x.oneCell' = true)
    (h : ∀ v' w', w'.ownsRow B 28 5 v' (n + 1) (vs ++ u.cells) → W.grownBy w' v.ownBlock → (v'.ownBlock = v.ownBlock ∨ v'.ownBlock = some W.heap.size) → K (a.put o.dst v') w') :
    if Region.wanted o (yielded ops a.tmps) = true then Oper.wp Try.prog o a W K Q else E := by
  have hw : Region.wanted o (yielded ops a.tmps) = true := by simp [Region.wanted, hgd]
  rw [if_pos hw]
  obtain ⟨i0, hi, hz0, hz1, hz2⟩ := info_parts infoC
  obtain ⟨v', w', hr, hown, hg', _, hat⟩ := run_append_own_at (P := Try.prog) W B 56 o.type 28 i0 (.agg #[.slice none 0 0, .slice none 0 0, .slice none 0 0, .slice none 0 0, .int .i64 0]) 5 104 Try.underlying56 hi hz0 hz1 hz2 (by decide) (by decide) v n vs (own_below HO.out hb) ⟨g, 0, none⟩ 1 1 u.cells (by simp [U5.cells])
    (by
      have := World.news_of_block (w := W) (B := g) (cs := #[u.t, u.c, u.s, u.d, .int .i64 u.z]) (t := 28) (fr := (0, 0)) hg
      simpa [U5.cells] using this) hu (by unfold maxLen; omega) (by omega) (Nat.le_trans hB hb.size)
  unfold Oper.wp execOp
  simp only [ho, resolve, invoke, builtin, Sem.run_bind, Sem.run_pure, Result.andThen_ok, List.map_toArray, List.map_cons, List.map_nil, hs, hx, hr]
  exact h v' w' hown hg' hat
end Go.Proofs.Ytkbboepopcebaaa
namespace Go.Proofs.Ytkbboepopcebaaa
open Go.RowKit

/-- A container that the calls may have made. -/
def CInv (c : Cont) : Prop := May c ∧ (serB c).length ≤ c.data.length + 2097152
theorem CInv.fits {c : Cont} (h : CInv c) : Fits c := fits_of h.1 (by have := h.1.data; have := h.1.size; have := h.2; omega)
theorem CInv.len {c : Cont} (h : CInv c) : (serB c).length ≤ 2162687 := by have := h.1.data; have := h.1.size; have := h.2; omega
theorem cinv_parse {b : List Int} (hy : Byt b) {o : Bool} {c : Cont} (hb : b.length ≤ 2097152) (h : parse b o = .ok c) : CInv c := by
  obtain ⟨h1, h2⟩ := parse_inv hy h
  exact ⟨h1, by rw [h2]; omega⟩
theorem cinv_lay {c : Cont} {bh : List Int} (hc : CInv c) (h : (lay c bh).1 = 0) : CInv (lay c bh).2 := by
  unfold lay at h ⊢
  rw [if_neg (by simp [of_may hc.1])] at h ⊢
  split at h
  · simp at h
  · rw [if_neg (by assumption)]
    split at h
    · simp at h
    · rw [if_neg (by assumption)]
      rename_i h2 h3
      have hm := hc.1
      have hl := hc.2
      refine ⟨⟨hm.codes1, hm.codes2, hm.types, hm.code, hm.subs, hm.sub, by show (c.data.length : Int) + bh.length ≤ 65535; omega, by show ((c.data ++ bh).length : Int) ≤ (c.data.length : Int) + bh.length; rw [List.length_append]; omega, hm.tys⟩, ?_⟩
      rw [serB_length c hm.types] at hl
      rw [serB_length _ (by exact hm.types)]
      show 13 + 6 * c.codes.length + (c.data ++ bh).length + sumL c.codes + (if c.subs.length = 0 then 0 else 3 + 4 * c.subs.length) + sumL c.subs ≤ (c.data ++ bh).length + 2097152
      split at hl <;> rename_i g
      · rw [if_pos g]; omega
      · rw [if_neg g]; omega
theorem lay_codes {c : Cont} {bh : List Int} (hc : CInv c) : Fits (lay c bh).2 := by
  by_cases h : (lay c bh).1 = 0
  · exact (cinv_lay hc h).fits
  · unfold lay at h ⊢
    rw [if_neg (by simp [of_may hc.1])] at h ⊢
    split at h
    · rw [if_pos (by assumption)]; simp [Fits, wt]
    · rw [if_neg (by assumption)]
      split at h
      · rw [if_pos (by assumption)]; simp [Fits, wt]
      · simp at h
/-- Where ContainerAll stands: the two containers in their boxes, the kept ones in their rows. -/
structure AInv (w y wr : World) (X3 X4 : Nat) (u3 u4 : U5) (C : Cont) (vk vw : Value) (us ws : List U5) (kl : List Cont) : Prop where
  b3 : HBx wr X3 u3.t u3.c u3.s u3.d (.int .i64 u3.z)
  b4 : HBx wr X4 u4.t u4.c u4.s u4.d (.int .i64 u4.z)
  p3 : PContV wr w.heap.size u3.agg C
  p4 : PContV wr w.heap.size u4.agg C
  inv : CInv C
  kr : KRow wr w.heap.size y.heap.size vk us kl
  kw : KRow wr w.heap.size y.heap.size vw ws kl
  ap : ∀ X, vk.ownBlock = some X → vw.ownBlock ≠ some X
  few : kl.length ≤ 50
  kfit : ∀ j, (h : j < kl.length) → Fits kl[j]
  below : Below w.heap.size w wr
  ge : y.heap.size ≤ wr.heap.size
/-- The boxes' places. -/
structure Two34 (w y : World) (X3 X4 : Nat) : Prop where
  ne : X3 ≠ X4
  l3 : X3 < y.heap.size
  l4 : X4 < y.heap.size
  g3 : w.heap.size ≤ X3
  g4 : w.heap.size ≤ X4
theorem AInv.mono {w y wr W : World} {X3 X4 : Nat} {u3 u4 : U5} {C : Cont} {vk vw : Value} {us ws : List U5} {kl : List Cont} (h : AInv w y wr X3 X4 u3 u4 C vk vw us ws kl) (hb : Below wr.heap.size wr W) : AInv w y W X3 X4 u3 u4 C vk vw us ws kl :=
  ⟨h.b3.below hb, h.b4.below hb, h.p3.belowK hb, h.p4.belowK hb, h.inv, h.kr.below hb, h.kw.below hb, h.ap, h.few, h.kfit, below_step h.below hb, Nat.le_trans h.ge hb.size⟩
theorem row_ge_ne {w : World} {B X k n : Nat} {v : Value} {l : List Value} {t : TypeId} (h : w.ownsRow B t k v n l) (hX : X < B) : v.ownBlock = none ∨ v.ownBlock ≠ some X := by
  cases e : v.ownBlock with
  | none => exact .inl rfl
  | some b => exact .inr fun e2 => by have := own_ge h b e; cases e2; omega
/-- One box is written over by another container. -/
theorem AInv.set3 {w y W : World} {X3 X4 : Nat} {u3 u4 u : U5} {C C' : Cont} {vk vw : Value} {us ws : List U5} {kl : List Cont} (q : Two34 w y X3 X4) (b3 : HBx W X3 u3.t u3.c u3.s u3.d (.int .i64 u3.z)) (b4 : HBx W X4 u4.t u4.c u4.s u4.d (.int .i64 u4.z))
    (p3 : PContV W w.heap.size u.agg C') (p4 : PContV W w.heap.size u4.agg C') (hi : CInv C') (kr : KRow W w.heap.size y.heap.size vk us kl) (kw : KRow W w.heap.size y.heap.size vw ws kl) (ap : ∀ X, vk.ownBlock = some X → vw.ownBlock ≠ some X) (few : kl.length ≤ 50) (kfit : ∀ j, (h : j < kl.length) → Fits kl[j]) (hb : Below w.heap.size w W) (hge : y.heap.size ≤ W.heap.size) :
    AInv w y (setX W X3 u.t u.c u.s u.d (.int .i64 u.z)) X3 X4 u u4 C' vk vw us ws kl := by
  have hg := grown_setX W X3 u.t u.c u.s u.d (.int .i64 u.z)
  have g := G28.box b3 hg
  exact ⟨b3.set _ _ _ _ _, (hg.block X4 b4.lt (by simpa using q.ne.symm)).trans b4, p3.g28 g, p4.g28 g, hi, kr.other hg (fun X e => by cases e; exact ⟨_, b3⟩) (row_ge_ne kr.row q.l3), kw.other hg (fun X e => by cases e; exact ⟨_, b3⟩) (row_ge_ne kw.row q.l3), ap, few, kfit, hb.grown hg hb.size (by rintro k ⟨⟩; exact q.g3), Nat.le_trans hge hg.size⟩
/-- Both boxes are written over. -/
theorem AInv.put {w y W : World} {X3 X4 : Nat} {u3 u4 a3 a4 : U5} {C C' : Cont} {vk vw : Value} {us ws : List U5} {kl : List Cont} (q : Two34 w y X3 X4) (h : AInv w y W X3 X4 u3 u4 C vk vw us ws kl) (p3 : PContV W w.heap.size a3.agg C') (p4 : PContV W w.heap.size a4.agg C') (hi : CInv C') :
    AInv w y (setX (setX W X3 a3.t a3.c a3.s a3.d (.int .i64 a3.z)) X4 a4.t a4.c a4.s a4.d (.int .i64 a4.z)) X3 X4 a3 a4 C' vk vw us ws kl := by
  have hg := grown_setX W X3 a3.t a3.c a3.s a3.d (.int .i64 a3.z)
  have g := G28.box h.b3 hg
  have b3' := h.b3.set a3.t a3.c a3.s a3.d (.int .i64 a3.z)
  have b4' : HBx (setX W X3 a3.t a3.c a3.s a3.d (.int .i64 a3.z)) X4 u4.t u4.c u4.s u4.d (.int .i64 u4.z) := (hg.block X4 h.b4.lt (by simpa using q.ne.symm)).trans h.b4
  have kr' := h.kr.other hg (fun X e => by cases e; exact ⟨_, h.b3⟩) (row_ge_ne h.kr.row q.l3)
  have kw' := h.kw.other hg (fun X e => by cases e; exact ⟨_, h.b3⟩) (row_ge_ne h.kw.row q.l3)
  have hb' := h.below.grown hg h.below.size (by rintro k ⟨⟩; exact q.g3)
  have q3 := p3.g28 g
  have q4 := p4.g28 g
  have hs := hg.size
  obtain ⟨W', hW⟩ : ∃ W', W' = setX W X3 a3.t a3.c a3.s a3.d (.int .i64 a3.z) := ⟨_, rfl⟩
  rw [← hW] at b3' b4' kr' kw' hb' q3 q4 hs ⊢
  clear hW hg g
  have hg := grown_setX W' X4 a4.t a4.c a4.s a4.d (.int .i64 a4.z)
  have g := G28.box b4' hg
  exact ⟨(hg.block X3 b3'.lt (by simpa using q.ne)).trans b3', b4'.set _ _ _ _ _, q3.g28 g, q4.g28 g, hi, kr'.other hg (fun X e => by cases e; exact ⟨_, b4'⟩) (row_ge_ne kr'.row q.l4), kw'.other hg (fun X e => by cases e; exact ⟨_, b4'⟩) (row_ge_ne kw'.row q.l4), h.ap, h.few, h.kfit, hb'.grown hg hb'.size (by rintro k ⟨⟩; exact q.g4), Nat.le_trans (Nat.le_trans h.ge hs) hg.size⟩
theorem AInv.swap {w y wr : World} {X3 X4 : Nat} {u3 u4 : U5} {C : Cont} {vk vw : Value} {us ws : List U5} {kl : List Cont} (h : AInv w y wr X3 X4 u3 u4 C vk vw us ws kl) : AInv w y wr X4 X3 u4 u3 C vw vk ws us kl :=
  ⟨h.b4, h.b3, h.p4, h.p3, h.inv, h.kw, h.kr, fun X e e2 => h.ap X e2 e, h.few, h.kfit, h.below, h.ge⟩
theorem Two34.swap {w y : World} {X3 X4 : Nat} (q : Two34 w y X3 X4) : Two34 w y X4 X3 := ⟨q.ne.symm, q.l4, q.l3, q.g4, q.g3⟩
theorem row28 {w : World} {B k n : Nat} {v : Value} {l : List Value} (h : w.ownsRow B 28 k v n l) : ∀ X, v.ownBlock = some X → ∃ cs, w.heap[X]? = some (.cells cs 28 (0, 0)) := fun X e => by
  rcases h.2 with ⟨rfl, _⟩ | ⟨g, cap, cur, rfl, _, hh, _⟩
  · simp [Value.ownBlock] at e
  · have e2 : g = X := by simpa [Value.ownBlock] using e
    subst e2
    exact ⟨cur, hh⟩
theorem or_ne {v : Value} {r : Option Nat} (h : ∀ X, v.ownBlock = some X → r ≠ some X) : v.ownBlock = none ∨ v.ownBlock ≠ r := by
  cases e : v.ownBlock with
  | none => exact .inl rfl
  | some X => exact .inr fun e2 => h X e e2.symm
/-- One container more is kept, in both rows. -/
theorem AInv.keep {w y W0 W1 w2 W2 w3 : World} {X3 X4 : Nat} {u3 u4 a3 a4 : U5} {C d : Cont} {vk vw vk' vw' : Value} {us ws : List U5} {kl : List Cont} (q : Two34 w y X3 X4) (h : AInv w y W0 X3 X4 u3 u4 C vk vw us ws kl) (pa : PContV W0 w.heap.size a3.agg d) (pb : PContV W0 w.heap.size a4.agg d) (hf : Fits d) (hl : kl.length < 50)
    (hb1 : Below W0.heap.size W0 W1) (hk : W1.grownBy w2 vk.ownBlock) (ok : w2.ownsRow y.heap.size 28 5 vk' (us.length + 1) (cellsU us ++ a3.cells)) (atk : vk'.ownBlock = vk.ownBlock ∨ vk'.ownBlock = some W1.heap.size)
    (hb2 : Below w2.heap.size w2 W2) (hw : W2.grownBy w3 vw.ownBlock) (ow : w3.ownsRow y.heap.size 28 5 vw' (ws.length + 1) (cellsU ws ++ a4.cells)) (atw : vw'.ownBlock = vw.ownBlock ∨ vw'.ownBlock = some W2.heap.size) :
    AInv w y w3 X3 X4 u3 u4 C vk' vw' (us ++ [a3]) (ws ++ [a4]) (kl ++ [d]) := by
  have h1 := h.mono hb1
  have s1 := hb1.size
  have s2 := hk.size
  have s3 := hb2.size
  have s4 := hw.size
  have gk := G28.row h1.kr.row hk
  have kr2 := h.kr.snoc hb1 (pa.belowK hb1) ok hk
  have kw2 := (h1.kw.other hk (row28 h1.kr.row) (or_ne fun X e e2 => h.ap X e2 e)).below hb2
  have kr3 := kr2.below hb2
  have gw := G28.row kw2.row hw
  have g2 : G28 w2 W2 := G28.below hb2
  have lw : ∀ X, vw.ownBlock = some X → X < W0.heap.size := fun X e => own_lt h.kw.row X e
  have ne1 : ∀ X, vk'.ownBlock = some X → vw.ownBlock ≠ some X := fun X e e2 => by
    rcases atk with e3 | e3
    · rw [e3] at e; exact h.ap X e e2
    · rw [e3] at e; cases e; have := lw _ e2; omega
  have lk : ∀ X, vk'.ownBlock = some X → X < w2.heap.size := fun X e => own_lt ok X e
  have hbw : Below w.heap.size w w3 := by
    have e1 := h1.below.grown hk h1.below.size (fun k e => by have := own_ge h1.kr.row k e; have := q.g3; have := q.l3; omega)
    have e2 := below_step e1 hb2
    exact e2.grown hw e2.size (fun k e => by have := own_ge kw2.row k e; have := q.g3; have := q.l3; omega)
  have box : ∀ X v0 v1 v2 v3 v4, X < y.heap.size → HBx W0 X v0 v1 v2 v3 v4 → HBx w3 X v0 v1 v2 v3 v4 := fun X v0 v1 v2 v3 v4 hX hx => by
    have e1 := hx.below hb1
    have e2 : HBx w2 X v0 v1 v2 v3 v4 := (hk.block X e1.lt (fun e => by have := own_ge h1.kr.row X e.symm; omega)).trans e1
    have e3 := e2.below hb2
    exact (hw.block X e3.lt (fun e => by have := own_ge kw2.row X e.symm; omega)).trans e3
  refine ⟨box _ _ _ _ _ _ q.l3 h.b3, box _ _ _ _ _ _ q.l4 h.b4, ((h1.p3.g28 gk).belowK hb2).g28 gw, ((h1.p4.g28 gk).belowK hb2).g28 gw, h.inv, kr3.other hw (row28 kw2.row) (or_ne fun X e e2 => ne1 X e e2), kw2.snoc (Below.refl _ _) (((pb.belowK hb1).g28 gk).belowK hb2) ow hw, fun X e e2 => ?_, by simp; omega, fun j hj => ?_, hbw, by have := h.ge; omega⟩
  · rcases atw with e3 | e3
    · rw [e3] at e2; exact ne1 X e e2
    · rw [e3] at e2; cases e2; have := lk _ e; omega
  · by_cases hj2 : j < kl.length
    · rw [show (kl ++ [d])[j] = kl[j] by simp [List.getElem_append, hj2]]; exact h.kfit j hj2
    · have : j = kl.length := by simp at hj; omega
      subst this
      simpa using hf
end Go.Proofs.Ytkbboepopcebaaa
namespace Go.Proofs.Ytkbboepopcebaaa
open Go.RowKit

theorem own_blk {w : World} {B g : Nat} {t : TypeId} {k n : Nat} (cs : Array Value) (h : w.heap[g]? = some (.cells cs t (0, 0))) (hs : cs.size = n * k) (hB : B ≤ g) (hm : n ≤ maxLen) : w.ownsRow B t k (.slice (some ⟨g, 0, none⟩) n n) n cs.toList := by
  refine ⟨by simpa using hs, .inr ⟨g, n, cs, rfl, hB, h, Nat.le_refl _, hm, by simpa using hs, ?_⟩⟩
  rw [List.take_of_length_le (by simp [hs])]
theorem cinv_least : CInv leastC := ⟨may_of _ (by decide), by decide⟩
set_option maxRecDepth 100000 in
theorem least_own (w : World) : Calls Try.prog 35 #[] w fun e w' => (∃ A0 A1, e = .returned (.agg #[.slice A0 1 1, .slice A1 1 1, .slice none 0 0, .slice none 0 0, .int .i64 0]) ∧ PContV w' w.heap.size (.agg #[.slice A0 1 1, .slice A1 1 1, .slice none 0 0, .slice none 0 0, .int .i64 0]) leastC) ∧ Below w.heap.size w w' := by
  go_enter Try.func35, Try.ntmps35
  go_wp2
  obtain ⟨W1, h1⟩ : ∃ W1, W1 = w.alloc (.cells #[.slice (some ⟨w.heap.size + 1, 0, none⟩) 1 1, .slice (some ⟨w.heap.size + 1 + 1 + 1, 0, none⟩) 1 1, .slice none 0 0, .slice none 0 0, .int .i64 0] 28) := ⟨_, rfl⟩
  have b1 : Below w.heap.size w W1 := by rw [h1]; exact below_alloc _ _
  have z1 : W1.heap.size = w.heap.size + 1 := by rw [h1]; simp
  have x1 := hbx_new w (.slice (some ⟨w.heap.size + 1, 0, none⟩) 1 1) (.slice (some ⟨w.heap.size + 1 + 1 + 1, 0, none⟩) 1 1) (.slice none 0 0) (.slice none 0 0) (.int .i64 0)
  rw [← h1] at x1 ⊢
  have b2 := below_alloc W1 (.cells #[.int .i64 0, .int .i64 128, .int .i64 0] 69)
  have t2 := heap_alloc_new W1 (.cells #[.int .i64 0, .int .i64 128, .int .i64 0] 69)
  have z2 : (W1.alloc (.cells #[.int .i64 0, .int .i64 128, .int .i64 0] 69)).heap.size = W1.heap.size + 1 := by simp
  obtain ⟨W2, h2⟩ : ∃ W2, W2 = W1.alloc (.cells #[.int .i64 0, .int .i64 128, .int .i64 0] 69) := ⟨_, rfl⟩
  rw [← h2] at b2 t2 z2 ⊢
  have b3 := below_alloc W2 (.cells #[.int .u8 0] 5)
  have t3 := heap_alloc_new W2 (.cells #[.int .u8 0] 5)
  have z3 : (W2.alloc (.cells #[.int .u8 0] 5)).heap.size = W2.heap.size + 1 := by simp
  obtain ⟨W3, h3⟩ : ∃ W3, W3 = W2.alloc (.cells #[.int .u8 0] 5) := ⟨_, rfl⟩
  rw [← h3] at b3 t3 z3 ⊢
  have b4 := below_alloc W3 (.cells #[.slice (some ⟨w.heap.size + 1 + 1, 0, none⟩) 1 1] 22)
  have t4 := heap_alloc_new W3 (.cells #[.slice (some ⟨w.heap.size + 1 + 1, 0, none⟩) 1 1] 22)
  obtain ⟨W4, h4⟩ : ∃ W4, W4 = W3.alloc (.cells #[.slice (some ⟨w.heap.size + 1 + 1, 0, none⟩) 1 1] 22) := ⟨_, rfl⟩
  rw [← h4] at b4 t4 ⊢
  have x4 := (x1.below (below_step b2 (below_step b3 b4))).kx
  rw [z1] at t2
  rw [z2, z1] at t3
  rw [z3, z2, z1] at t4
  have s2 := own_below (own_blk (w := W2) (B := w.heap.size) (k := 3) (n := 1) _ t2 rfl (by omega) (by decide)) (below_step b3 b4)
  have s3 := own_below (own_blk (w := W3) (B := w.heap.size) (k := 1) (n := 1) _ t3 rfl (by omega) (by decide)) b4
  have s4 := own_blk (w := W4) (B := w.heap.size) (k := 1) (n := 1) _ t4 rfl (by omega) (by decide)
  obtain ⟨k0, k1, k2, k3, k4, _⟩ := x4
  clear h1 h2 h3 h4 x1
  refine bodyPost_ret (v := .agg #[.slice (some ⟨w.heap.size + 1, 0, none⟩) 1 1, .slice (some ⟨w.heap.size + 1 + 1 + 1, 0, none⟩) 1 1, .slice none 0 0, .slice none 0 0, .int .i64 0]) (by simp [results, Try.results35, go_sem, k0, k1, k2, k3, k4]) rfl ⟨⟨_, _, rfl, ?_⟩, below_step b1 (below_step b2 (below_step b3 b4))⟩
  · refine ⟨_, _, _, _, rfl, s2, ⟨[.slice (some ⟨w.heap.size + 1 + 1, 0, none⟩) 1 1], rfl, s4, fun j hj => ?_, fun i j hij hj => ?_⟩, PartsO.nil _ _, World.ownsRow_nil _ _ _ _⟩
    · have : j = 0 := by simp [leastC] at hj; omega
      subst this
      exact s3
    · simp at hj; omega
end Go.Proofs.Ytkbboepopcebaaa
