/- append onto a row of the call's own, and what becomes of all other memory; at a step of a region that draws its order too. -/
import Derived.Test.YtkbboepopcebaaaQ
import Derived.Deep.AppendLies
namespace Go.Proofs.Ytkbboepopcebaaa
open Go.RowKit

/-- Between the two worlds no block but v's has turned; v' lies where v lay, or in a new block. -/
structure Ext (w w' : World) (v v' : Value) : Prop where
  grown : w.grownBy w' v.ownBlock
  lies : v'.ownBlock = v.ownBlock ∨ ∃ b, v'.ownBlock = some b ∧ w.heap.size ≤ b
theorem grown_refl (w : World) (r : Option Nat) : w.grownBy w r := ⟨rfl, rfl, rfl, Nat.le_refl _, fun _ _ _ => rfl⟩
theorem Ext.refl (w : World) (v : Value) : Ext w w v v := ⟨grown_refl _ _, .inl rfl⟩
theorem Ext.trans {w w1 w2 : World} {v v1 v2 : Value} (h : Ext w w1 v v1) (k : Ext w1 w2 v1 v2) : Ext w w2 v v2 := by
  refine ⟨⟨k.grown.os.trans h.grown.os, k.grown.tape.trans h.grown.tape, k.grown.output.trans h.grown.output, Nat.le_trans h.grown.size k.grown.size, fun i hi hne => ?_⟩, ?_⟩
  · rw [k.grown.block i (Nat.lt_of_lt_of_le hi h.grown.size) ?_]
    · exact h.grown.block i hi hne
    · rcases h.lies with e | ⟨b, e, hb⟩
      · rw [e]; exact hne
      · rw [e]; intro he; have := Option.some.inj he; omega
  · rcases k.lies with e | ⟨b, e, hb⟩
    · rw [e]; exact h.lies
    · exact .inr ⟨b, e, Nat.le_trans h.grown.size hb⟩
theorem Ext.alloc (w : World) (o : Obj) (v : Value) : Ext w (w.alloc o) v v := ⟨World.grownBy_alloc _ _ _, .inl rfl⟩
theorem Ext.drew (w : World) (v : Value) : Ext w w.drew v v := ⟨⟨rfl, rfl, rfl, Nat.le_refl _, fun _ _ _ => rfl⟩, .inl rfl⟩
theorem Ext.cell {w w' : World} {v v' : Value} (h : Ext w w' v v') {a : Addr} {x : Value} (hc : w.cell? a = some x) (hne : some a.block ≠ v.ownBlock) : w'.cell? a = some x := h.grown.cell hc hne
theorem Ext.below {w w' : World} {v v' : Value} (h : Ext w w' v v') {B : Nat} {l : List Int} (ho : Own8 w B v l) (hB : B ≤ w.heap.size) : Below B w w' := (Below.refl _ _).grown h.grown hB (own_ge ho)
/-- A slice of the call's own has never lain in a block that was made later. -/
theorem own_ne {w : World} {B : Nat} {v : Value} {l : List Int} (ho : Own8 w B v l) {k : Nat} (hk : w.heap.size ≤ k) : some k ≠ v.ownBlock := by
  intro e
  have := own_lt ho k e.symm
  omega
theorem Ext.ne {w w' : World} {v v' : Value} (h : Ext w w' v v') {k : Nat} (hk : k < w.heap.size) (hne : some k ≠ v.ownBlock) : some k ≠ v'.ownBlock := by
  rcases h.lies with e | ⟨b, e, hb⟩
  · rw [e]; exact hne
  · rw [e]; intro he; have := Option.some.inj he; omega

section
variable {ops : Array Oper} {rest : List Oper} {o : Oper} {a : Act} {Q : Exit → Act → World → Prop} {K : Act → World → Prop} {E : Prop}
theorem wp_app_at {W : World} (s x : Operand) (ho : o.op = .call { callee := .builtin .append, args := #[s, x], argTypes := #[22, 22] })
    (B : Nat) (v : Value) (l new : List Int) (hs : a.eval s = v) (HO : Hid (Own8 W B v l)) (ad : Addr) (m c : Nat) (hx : a.eval x = .slice (some ad) m c) (hm : Hid (new.length = m))
    (hnew : Hid (∀ (j : Nat) (u : Value), (nums .u8 new)[j]? = some u → W.cell? (ad.add j) = some u)) (hB : B ≤ W.heap.size) (hl : Hid (l.length + new.length ≤ reach))
    (h : ∀ v' w', Own8 w' B v' (l ++ new) → Ext W w' v v' → K (a.put o.dst v') w') : Oper.wp Try.prog o a W K Q := by
  obtain ⟨i0, hi, hz0, hz1, hz2⟩ := info_parts infoB
  have h1 := HO.out
  have h2 := hm.out
  have h3 := hl.out
  unfold reach at h3
  obtain ⟨v', w', hr, hown, hg, h4, hat⟩ := run_append_own_at (P := Try.prog) W B 22 o.type 5 i0 (.int .u8 0) 1 1 Try.underlying22 hi hz0 hz1 hz2 rfl (by decide) v l.length (nums .u8 l) h1 ad m c (nums .u8 new) (by rw [nums_length, h2]; omega) hnew.out (nums_one _ _) (by unfold maxLen; omega) (by omega) hB
  unfold Oper.wp execOp
  simp only [ho, resolve, invoke, builtin, Sem.run_bind, Sem.run_pure, Result.andThen_ok, List.map_toArray, List.map_cons, List.map_nil, hs, hx, hr]
  refine h v' w' ?_ ⟨hg, hat.imp id fun e => ⟨_, e, Nat.le_refl _⟩⟩
  unfold Own8
  rw [List.length_append, nums_append, h2]
  exact hown
theorem box_news (W : World) (new : List Int) : ∀ (j : Nat) (u : Value), (nums .u8 new)[j]? = some u → (W.alloc (.cells (nums .u8 new).toArray 5)).cell? ((⟨W.heap.size, 0, none⟩ : Addr).add j) = some u := by
  have := World.news_of_block (w := (W.alloc (.cells (nums .u8 new).toArray 5))) (B := W.heap.size) (cs := (nums .u8 new).toArray) (t := 5) (fr := (0, 0)) (heap_alloc_new W _)
  simpa using this
/-- append(v, new...) in a plain region, the new bytes in the box that was just made. -/
theorem app_box {W : World} (s x : Operand) (hgd : o.guard = none) (ho : o.op = .call { callee := .builtin .append, args := #[s, x], argTypes := #[22, 22] })
    (B : Nat) (v : Value) (l new : List Int) (m : Nat) (hs : a.eval s = v) (HO : Hid (Own8 W B v l)) (hx : a.eval x = .slice (some ⟨W.heap.size, 0, none⟩) m m) (hm : Hid (new.length = m)) (hB : B ≤ W.heap.size) (hl : Hid (l.length + new.length ≤ reach))
    (h : ∀ v' w', Own8 w' B v' (l ++ new) → Ext W w' v v' → wpList Try.prog ops Q rest (a.put o.dst v') w') : wpList Try.prog ops Q (o :: rest) a (W.alloc (.cells (nums .u8 new).toArray 5)) :=
  wpList_plain hgd fun _ hK => wp_app_at s x ho B v l new hs (Lib.hid (HO.out.below (below_alloc _ _))) ⟨W.heap.size, 0, none⟩ m m hx hm (Lib.hid (box_news W new)) (by simp; omega) hl fun v' w' hown hb => hK _ _ (h v' w' hown ((Ext.alloc _ _ _).trans hb))
theorem appx_byte {W : World} {y : Int} (s x : Operand) (hgd : o.guard = none) (ho : o.op = .call { callee := .builtin .append, args := #[s, x], argTypes := #[22, 22] })
    (B : Nat) (v : Value) (l : List Int) (hs : a.eval s = v) (HO : Hid (Own8 W B v l)) (hx : a.eval x = .slice (some ⟨W.heap.size, 0, none⟩) 1 1) (hB : B ≤ W.heap.size) (hl : Hid (l.length + 1 ≤ reach))
    (h : ∀ v' w', Own8 w' B v' (l ++ [y]) → Ext W w' v v' → wpList Try.prog ops Q rest (a.put o.dst v') w') : wpList Try.prog ops Q (o :: rest) a (W.alloc (.cells #[.int .u8 y] 5)) :=
  app_box s x hgd ho B v l [y] 1 hs HO hx (Lib.hid rfl) hB (Lib.hid hl.out) h
/-- At a step of a region that draws its order: the box was made right behind the draw. -/
theorem step_app_d {W : World} (new : List Int) (s x : Operand) (hgd : o.guard = none) (ho : o.op = .call { callee := .builtin .append, args := #[s, x], argTypes := #[22, 22] })
    (B : Nat) (v : Value) (l : List Int) (m : Nat) (hs : a.eval s = v) (HO : Hid (Own8 W B v l)) (hx : a.eval x = .slice (some ⟨W.heap.size, 0, none⟩) m m) (hm : Hid (new.length = m)) (hB : B ≤ W.heap.size) (hl : Hid (l.length + new.length ≤ reach))
    (h : ∀ v' w', Own8 w' B v' (l ++ new) → Ext W w' v v' → K (a.put o.dst v') w') :
    if Region.wanted o (yielded ops a.tmps) = true then Oper.wp Try.prog o a (W.alloc (.cells (nums .u8 new).toArray 5)).drew K Q else E := by
  have hw : Region.wanted o (yielded ops a.tmps) = true := by simp [Region.wanted, hgd]
  rw [if_pos hw]
  have hb0 : Below W.heap.size W (W.alloc (.cells (nums .u8 new).toArray 5)).drew := (below_alloc _ _).drew
  refine wp_app_at s x ho B v l new hs (Lib.hid (HO.out.below hb0)) ⟨W.heap.size, 0, none⟩ m m hx hm (Lib.hid (box_news W new)) (by show B ≤ (W.alloc _).heap.size; simp; omega) hl ?_
  intro v' w' hown hb
  exact h v' w' hown (((Ext.alloc _ _ _).trans (Ext.drew _ _)).trans hb)
theorem step_app {W : World} (new : List Int) (s x : Operand) (hgd : o.guard = none) (ho : o.op = .call { callee := .builtin .append, args := #[s, x], argTypes := #[22, 22] })
    (B : Nat) (v : Value) (l : List Int) (m : Nat) (hs : a.eval s = v) (HO : Hid (Own8 W B v l)) (hx : a.eval x = .slice (some ⟨W.heap.size, 0, none⟩) m m) (hm : Hid (new.length = m)) (hB : B ≤ W.heap.size) (hl : Hid (l.length + new.length ≤ reach))
    (h : ∀ v' w', Own8 w' B v' (l ++ new) → Ext W w' v v' → K (a.put o.dst v') w') :
    if Region.wanted o (yielded ops a.tmps) = true then Oper.wp Try.prog o a (W.alloc (.cells (nums .u8 new).toArray 5)) K Q else E := by
  have hw : Region.wanted o (yielded ops a.tmps) = true := by simp [Region.wanted, hgd]
  rw [if_pos hw]
  refine wp_app_at s x ho B v l new hs (Lib.hid (HO.out.below (below_alloc _ _))) ⟨W.heap.size, 0, none⟩ m m hx hm (Lib.hid (box_news W new)) (by simp; omega) hl ?_
  intro v' w' hown hb
  exact h v' w' hown ((Ext.alloc _ _ _).trans hb)
theorem step1 {W : World} {y : Int} (s x : Operand) (hgd : o.guard = none) (ho : o.op = .call { callee := .builtin .append, args := #[s, x], argTypes := #[22, 22] })
    (B : Nat) (v : Value) (l : List Int) (hs : a.eval s = v) (HO : Hid (Own8 W B v l)) (hx : a.eval x = .slice (some ⟨W.heap.size, 0, none⟩) 1 1) (hB : B ≤ W.heap.size) (hl : Hid (l.length + 1 ≤ reach))
    (h : ∀ v' w', Own8 w' B v' (l ++ [y]) → Ext W w' v v' → K (a.put o.dst v') w') :
    if Region.wanted o (yielded ops a.tmps) = true then Oper.wp Try.prog o a (W.alloc (.cells #[.int .u8 y] 5)) K Q else E := step_app [y] s x hgd ho B v l 1 hs HO hx (Lib.hid rfl) hB (Lib.hid hl.out) h
theorem step2 {W : World} {y z : Int} (s x : Operand) (hgd : o.guard = none) (ho : o.op = .call { callee := .builtin .append, args := #[s, x], argTypes := #[22, 22] })
    (B : Nat) (v : Value) (l : List Int) (hs : a.eval s = v) (HO : Hid (Own8 W B v l)) (hx : a.eval x = .slice (some ⟨W.heap.size, 0, none⟩) 2 2) (hB : B ≤ W.heap.size) (hl : Hid (l.length + 2 ≤ reach))
    (h : ∀ v' w', Own8 w' B v' (l ++ [y, z]) → Ext W w' v v' → K (a.put o.dst v') w') :
    if Region.wanted o (yielded ops a.tmps) = true then Oper.wp Try.prog o a (W.alloc (.cells #[.int .u8 y, .int .u8 z] 5)) K Q else E := step_app [y, z] s x hgd ho B v l 2 hs HO hx (Lib.hid rfl) hB (Lib.hid hl.out) h
theorem step1_d {W : World} {y : Int} (s x : Operand) (hgd : o.guard = none) (ho : o.op = .call { callee := .builtin .append, args := #[s, x], argTypes := #[22, 22] })
    (B : Nat) (v : Value) (l : List Int) (hs : a.eval s = v) (HO : Hid (Own8 W B v l)) (hx : a.eval x = .slice (some ⟨W.heap.size, 0, none⟩) 1 1) (hB : B ≤ W.heap.size) (hl : Hid (l.length + 1 ≤ reach))
    (h : ∀ v' w', Own8 w' B v' (l ++ [y]) → Ext W w' v v' → K (a.put o.dst v') w') :
    if Region.wanted o (yielded ops a.tmps) = true then Oper.wp Try.prog o a (W.alloc (.cells #[.int .u8 y] 5)).drew K Q else E := step_app_d [y] s x hgd ho B v l 1 hs HO hx (Lib.hid rfl) hB (Lib.hid hl.out) h
theorem step2_d {W : World} {y z : Int} (s x : Operand) (hgd : o.guard = none) (ho : o.op = .call { callee := .builtin .append, args := #[s, x], argTypes := #[22, 22] })
    (B : Nat) (v : Value) (l : List Int) (hs : a.eval s = v) (HO : Hid (Own8 W B v l)) (hx : a.eval x = .slice (some ⟨W.heap.size, 0, none⟩) 2 2) (hB : B ≤ W.heap.size) (hl : Hid (l.length + 2 ≤ reach))
    (h : ∀ v' w', Own8 w' B v' (l ++ [y, z]) → Ext W w' v v' → K (a.put o.dst v') w') :
    if Region.wanted o (yielded ops a.tmps) = true then Oper.wp Try.prog o a (W.alloc (.cells #[.int .u8 y, .int .u8 z] 5)).drew K Q else E := step_app_d [y, z] s x hgd ho B v l 2 hs HO hx (Lib.hid rfl) hB (Lib.hid hl.out) h
end

theorem ext_of_below {w w' : World} (h : Below w.heap.size w w') (v : Value) : Ext w w' v v := ⟨grown_of_below h _, .inl rfl⟩
theorem Ext.box {w w' : World} {v v' : Value} (h : Ext w w' v v') {g : Nat} {x : Obj} (hg : w.heap[g]? = some x) (hne : some g ≠ v.ownBlock) : w'.heap[g]? = some x := by
  rw [h.grown.block g (Array.getElem?_eq_some_iff.1 hg).1 hne]; exact hg
theorem drew_size (w : World) : w.drew.heap.size = w.heap.size := rfl
theorem own_al {w : World} {B : Nat} {v : Value} {l : List Int} (o : Obj) (h : Own8 w B v l) : Own8 (w.alloc o) B v l := h.below (below_alloc _ _)
theorem own_dr {w : World} {B : Nat} {v : Value} {l : List Int} (h : Own8 w B v l) : Own8 w.drew B v l := h.below (Below.refl _ _).drew
theorem box_new' (w : World) (o : Obj) (g : Nat) (hg : g = w.heap.size) : (w.alloc o).heap[g]? = some o := by subst hg; exact heap_alloc_new w o
theorem box_al {w : World} {g : Nat} {x : Obj} (o : Obj) (h : w.heap[g]? = some x) : (w.alloc o).heap[g]? = some x := by
  rw [heap_alloc_old w o (Array.getElem?_eq_some_iff.1 h).1]; exact h
theorem box_dr {w : World} {g : Nat} {x : Obj} (h : w.heap[g]? = some x) : w.drew.heap[g]? = some x := h
theorem box_news_g (W : World) (g : Nat) (new : List Int) (hg : W.heap[g]? = some (.cells (nums .u8 new).toArray 5 (0, 0))) : ∀ (j : Nat) (u : Value), (nums .u8 new)[j]? = some u → W.cell? ((⟨g, 0, none⟩ : Addr).add j) = some u := by
  have := World.news_of_block (w := W) (B := g) (cs := (nums .u8 new).toArray) (t := 5) (fr := (0, 0)) hg
  simpa using this
/-- append(v, new...) at a step of a region that draws, the new bytes in a box that was made before. -/
theorem step_g {ops : Array Oper} {o : Oper} {a : Act} {Q : Exit → Act → World → Prop} {K : Act → World → Prop} {E : Prop} {W : World} (new : List Int) (m : Nat) (s x : Operand) (hgd : o.guard = none) (ho : o.op = .call { callee := .builtin .append, args := #[s, x], argTypes := #[22, 22] })
    (B : Nat) (v : Value) (l : List Int) (g : Nat) (hs : a.eval s = v) (hx : a.eval x = .slice (some ⟨g, 0, none⟩) m m) (hm : new.length = m) (hl : Hid (l.length + m ≤ reach)) (HO : Own8 W B v l) (hg : W.heap[g]? = some (.cells (nums .u8 new).toArray 5 (0, 0))) (hB : B ≤ W.heap.size)
    (h : ∀ v' w', Own8 w' B v' (l ++ new) → Ext W w' v v' → K (a.put o.dst v') w') :
    if Region.wanted o (yielded ops a.tmps) = true then Oper.wp Try.prog o a W K Q else E := by
  have hw : Region.wanted o (yielded ops a.tmps) = true := by simp [Region.wanted, hgd]
  rw [if_pos hw]
  exact wp_app_at s x ho B v l new hs (Lib.hid HO) ⟨g, 0, none⟩ m m hx (Lib.hid hm) (Lib.hid (box_news_g W g new hg)) hB (Lib.hid (by rw [hm]; exact hl.out)) h

theorem step_g1 {ops : Array Oper} {o : Oper} {a : Act} {Q : Exit → Act → World → Prop} {K : Act → World → Prop} {E : Prop} {W0 W : World} (y : Int) (s x : Operand) (hgd : o.guard = none) (ho : o.op = .call { callee := .builtin .append, args := #[s, x], argTypes := #[22, 22] })
    {B : Nat} {v : Value} {l : List Int} (g : Nat) (HO : Hid (Own8 W0 B v l)) (hs : a.eval s = v) (hx : a.eval x = .slice (some ⟨g, 0, none⟩) 1 1) (hl : Hid (l.length + 1 ≤ reach)) (hB : B ≤ W0.heap.size) (hb : Below W0.heap.size W0 W) (hg : W.heap[g]? = some (.cells #[.int .u8 y] 5 (0, 0)))
    (h : ∀ v' w', Own8 w' B v' (l ++ [y]) → Ext W0 w' v v' → Ext W w' v v' → K (a.put o.dst v') w') :
    if Region.wanted o (yielded ops a.tmps) = true then Oper.wp Try.prog o a W K Q else E :=
  step_g [y] 1 s x hgd ho B v l g hs hx rfl hl (HO.out.below hb) hg (Nat.le_trans hB hb.size) fun v' w' h1 h2 => h v' w' h1 ((ext_of_below hb v).trans h2) h2
theorem step_g2 {ops : Array Oper} {o : Oper} {a : Act} {Q : Exit → Act → World → Prop} {K : Act → World → Prop} {E : Prop} {W0 W : World} (y z : Int) (s x : Operand) (hgd : o.guard = none) (ho : o.op = .call { callee := .builtin .append, args := #[s, x], argTypes := #[22, 22] })
    {B : Nat} {v : Value} {l : List Int} (g : Nat) (HO : Hid (Own8 W0 B v l)) (hs : a.eval s = v) (hx : a.eval x = .slice (some ⟨g, 0, none⟩) 2 2) (hl : Hid (l.length + 2 ≤ reach)) (hB : B ≤ W0.heap.size) (hb : Below W0.heap.size W0 W) (hg : W.heap[g]? = some (.cells #[.int .u8 y, .int .u8 z] 5 (0, 0)))
    (h : ∀ v' w', Own8 w' B v' (l ++ [y, z]) → Ext W0 w' v v' → Ext W w' v v' → K (a.put o.dst v') w') :
    if Region.wanted o (yielded ops a.tmps) = true then Oper.wp Try.prog o a W K Q else E :=
  step_g [y, z] 2 s x hgd ho B v l g hs hx rfl hl (HO.out.below hb) hg (Nat.le_trans hB hb.size) fun v' w' h1 h2 => h v' w' h1 ((ext_of_below hb v).trans h2) h2

/-- Row or not. -/
theorem room1 {w : World} {B : Nat} {v : Value} {l : List Int} (_ : Hid (Own8 w B v l)) (hl : l.length + 1 ≤ reach) : Hid (l.length + 1 ≤ reach) := hl
theorem room2 {w : World} {B : Nat} {v : Value} {l : List Int} (_ : Hid (Own8 w B v l)) (hl : l.length + 2 ≤ reach) : Hid (l.length + 2 ≤ reach) := hl

set_option maxRecDepth 100000 in
theorem put2x (v : Value) (l : List Int) (x : Int) (B : Nat) (w : World) (h0 : 0 ≤ x) (h1 : x ≤ 4294967295) (hB : B ≤ w.heap.size) (hO : Own8 w B v l) (hl : l.length + 2 ≤ reach) :
    Calls Try.prog 49 #[v, .int .i64 x, .int .i64 2] w fun e w' => ∃ v', e = .returned v' ∧ Own8 w' B v' (l ++ be x 2) ∧ Ext w w' v v' := by
  have HO := Lib.hid hO; clear hO
  have HL := Lib.hid hl; clear hl
  go_enter Try.func49, Try.ntmps49
  go_wp2
  go_loopw [0, 2] (fun u i wr => ∃ (t : Nat) (z : Int), t ≤ 2 ∧ z = 1 - t ∧ i = .int .i64 z ∧ Own8 wr B u (l ++ (be x 2).take t) ∧ Ext w wr v u) (fun _ i _ => (intOf i + 1).toNat)
  case atStart => exact ⟨0, 1, by omega, by omega, rfl, by simpa using HO.out, Ext.refl _ _⟩
  case round =>
    obtain ⟨t, z, ht, hz, rfl, ho, hb⟩ := hrel
    have HO2 := Lib.hid ho
    have HB := Lib.hid hb
    have hsz : B ≤ wr.heap.size := by have := hb.grown.size; omega
    clear ho hb HO
    have hcases : t = 0 ∨ t = 1 ∨ t = 2 := by omega
    rcases hcases with rfl | rfl | rfl
    · obtain rfl : z = 1 := by omega
      clear hz
      have HR := room1 HO2 (by have := HL.out; simp [be_length]; omega)
      go_wp2_with (at_builtin; refine appx_byte (.tmp 13) (.tmp 19) rfl rfl B _ _ rfl HO2 rfl hsz HR ?_)
      intro v' w' hown hb2
      have HO3 := Lib.hid hown
      have HB3 := Lib.hid (HB.out.trans hb2)
      clear hown hb2
      go_wp2
      go_roundw
      case rel => exact ⟨1, 0, by omega, by omega, by first | rfl | go_num, by have := HO3.out; first | simpa [be, List.append_assoc] using this | (have e : x / 16777216 % 256 = x / 16777216 := (by omega); simpa [be, e, List.append_assoc] using this), HB3.out⟩
      case measure => simp [intOf]
    · obtain rfl : z = 0 := by omega
      clear hz
      have HR := room1 HO2 (by have := HL.out; simp [be_length]; omega)
      go_wp2_with (at_builtin; refine appx_byte (.tmp 13) (.tmp 19) rfl rfl B _ _ rfl HO2 rfl hsz HR ?_)
      intro v' w' hown hb2
      have HO3 := Lib.hid hown
      have HB3 := Lib.hid (HB.out.trans hb2)
      clear hown hb2
      go_wp2
      go_roundw
      case rel => exact ⟨2, -1, by omega, by omega, by first | rfl | go_num, by have := HO3.out; first | simpa [be, List.append_assoc] using this | (have e : x / 16777216 % 256 = x / 16777216 := (by omega); simpa [be, e, List.append_assoc] using this), HB3.out⟩
      case measure => simp [intOf]
    · obtain rfl : z = -1 := by omega
      clear hz
      go_wp2
      go_ret
      exact ⟨_, rfl, by have := HO2.out; simpa [be] using this, HB.out⟩

set_option maxRecDepth 100000 in
theorem put4x (v : Value) (l : List Int) (x : Int) (B : Nat) (w : World) (h0 : 0 ≤ x) (h1 : x ≤ 4294967295) (hB : B ≤ w.heap.size) (hO : Own8 w B v l) (hl : l.length + 4 ≤ reach) :
    Calls Try.prog 49 #[v, .int .i64 x, .int .i64 4] w fun e w' => ∃ v', e = .returned v' ∧ Own8 w' B v' (l ++ be x 4) ∧ Ext w w' v v' := by
  have HO := Lib.hid hO; clear hO
  have HL := Lib.hid hl; clear hl
  go_enter Try.func49, Try.ntmps49
  go_wp2
  go_loopw [0, 2] (fun u i wr => ∃ (t : Nat) (z : Int), t ≤ 4 ∧ z = 3 - t ∧ i = .int .i64 z ∧ Own8 wr B u (l ++ (be x 4).take t) ∧ Ext w wr v u) (fun _ i _ => (intOf i + 1).toNat)
  case atStart => exact ⟨0, 3, by omega, by omega, rfl, by simpa using HO.out, Ext.refl _ _⟩
  case round =>
    obtain ⟨t, z, ht, hz, rfl, ho, hb⟩ := hrel
    have HO2 := Lib.hid ho
    have HB := Lib.hid hb
    have hsz : B ≤ wr.heap.size := by have := hb.grown.size; omega
    clear ho hb HO
    have hcases : t = 0 ∨ t = 1 ∨ t = 2 ∨ t = 3 ∨ t = 4 := by omega
    rcases hcases with rfl | rfl | rfl | rfl | rfl
    · obtain rfl : z = 3 := by omega
      clear hz
      have HR := room1 HO2 (by have := HL.out; simp [be_length]; omega)
      go_wp2_with (at_builtin; refine appx_byte (.tmp 13) (.tmp 19) rfl rfl B _ _ rfl HO2 rfl hsz HR ?_)
      intro v' w' hown hb2
      have HO3 := Lib.hid hown
      have HB3 := Lib.hid (HB.out.trans hb2)
      clear hown hb2
      go_wp2
      go_roundw
      case rel => exact ⟨1, 2, by omega, by omega, by first | rfl | go_num, by have := HO3.out; first | simpa [be, List.append_assoc] using this | (have e : x / 16777216 % 256 = x / 16777216 := (by omega); simpa [be, e, List.append_assoc] using this), HB3.out⟩
      case measure => simp [intOf]
    · obtain rfl : z = 2 := by omega
      clear hz
      have HR := room1 HO2 (by have := HL.out; simp [be_length]; omega)
      go_wp2_with (at_builtin; refine appx_byte (.tmp 13) (.tmp 19) rfl rfl B _ _ rfl HO2 rfl hsz HR ?_)
      intro v' w' hown hb2
      have HO3 := Lib.hid hown
      have HB3 := Lib.hid (HB.out.trans hb2)
      clear hown hb2
      go_wp2
      go_roundw
      case rel => exact ⟨2, 1, by omega, by omega, by first | rfl | go_num, by have := HO3.out; first | simpa [be, List.append_assoc] using this | (have e : x / 16777216 % 256 = x / 16777216 := (by omega); simpa [be, e, List.append_assoc] using this), HB3.out⟩
      case measure => simp [intOf]
    · obtain rfl : z = 1 := by omega
      clear hz
      have HR := room1 HO2 (by have := HL.out; simp [be_length]; omega)
      go_wp2_with (at_builtin; refine appx_byte (.tmp 13) (.tmp 19) rfl rfl B _ _ rfl HO2 rfl hsz HR ?_)
      intro v' w' hown hb2
      have HO3 := Lib.hid hown
      have HB3 := Lib.hid (HB.out.trans hb2)
      clear hown hb2
      go_wp2
      go_roundw
      case rel => exact ⟨3, 0, by omega, by omega, by first | rfl | go_num, by have := HO3.out; first | simpa [be, List.append_assoc] using this | (have e : x / 16777216 % 256 = x / 16777216 := (by omega); simpa [be, e, List.append_assoc] using this), HB3.out⟩
      case measure => simp [intOf]
    · obtain rfl : z = 0 := by omega
      clear hz
      have HR := room1 HO2 (by have := HL.out; simp [be_length]; omega)
      go_wp2_with (at_builtin; refine appx_byte (.tmp 13) (.tmp 19) rfl rfl B _ _ rfl HO2 rfl hsz HR ?_)
      intro v' w' hown hb2
      have HO3 := Lib.hid hown
      have HB3 := Lib.hid (HB.out.trans hb2)
      clear hown hb2
      go_wp2
      go_roundw
      case rel => exact ⟨4, -1, by omega, by omega, by first | rfl | go_num, by have := HO3.out; first | simpa [be, List.append_assoc] using this | (have e : x / 16777216 % 256 = x / 16777216 := (by omega); simpa [be, e, List.append_assoc] using this), HB3.out⟩
      case measure => simp [intOf]
    · obtain rfl : z = -1 := by omega
      clear hz
      go_wp2
      go_ret
      exact ⟨_, rfl, by have := HO2.out; simpa [be] using this, HB.out⟩
theorem put2at {W0 W : World} {v : Value} {l : List Int} {x : Int} {B : Nat} (HO : Hid (Own8 W0 B v l)) (h0 : 0 ≤ x) (h1 : x ≤ 4294967295) (hB : B ≤ W0.heap.size) (hl : Hid (l.length + 2 ≤ reach)) (hb : Below W0.heap.size W0 W) :
    Calls Try.prog 49 #[v, .int .i64 x, .int .i64 2] W fun e w' => ∃ v', e = .returned v' ∧ Own8 w' B v' (l ++ be x 2) ∧ Ext W0 w' v v' ∧ Ext W w' v v' :=
  (put2x v l x B W h0 h1 (Nat.le_trans hB hb.size) (HO.out.below hb) hl.out).mono fun _ _ ⟨v', e, h2, h3⟩ => ⟨v', e, h2, (ext_of_below hb v).trans h3, h3⟩
theorem put4at {W0 W : World} {v : Value} {l : List Int} {x : Int} {B : Nat} (HO : Hid (Own8 W0 B v l)) (h0 : 0 ≤ x) (h1 : x ≤ 4294967295) (hB : B ≤ W0.heap.size) (hl : Hid (l.length + 4 ≤ reach)) (hb : Below W0.heap.size W0 W) :
    Calls Try.prog 49 #[v, .int .i64 x, .int .i64 4] W fun e w' => ∃ v', e = .returned v' ∧ Own8 w' B v' (l ++ be x 4) ∧ Ext W0 w' v v' ∧ Ext W w' v v' :=
  (put4x v l x B W h0 h1 (Nat.le_trans hB hb.size) (HO.out.below hb) hl.out).mono fun _ _ ⟨v', e, h2, h3⟩ => ⟨v', e, h2, (ext_of_below hb v).trans h3, h3⟩
end Go.Proofs.Ytkbboepopcebaaa
