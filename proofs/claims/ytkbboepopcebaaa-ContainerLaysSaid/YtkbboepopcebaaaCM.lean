/- Lay: what it answers, plain; the walk. -/
import Derived.Test.YtkbboepopcebaaaCK
import Derived.Test.YtkbboepopcebaaaBS
namespace Go.Proofs.Ytkbboepopcebaaa
open Go.RowKit

/-- What Lay answers: the error, and the container. -/
def lay (c : Cont) (bh : List Int) : Int × Cont :=
  if ¬ checkErr c = 0 then (checkErr c, ⟨[], [], [], [], 0⟩) else if (c.data.length : Int) + bh.length < c.size then (50, ⟨[], [], [], [], 0⟩) else
  if 65535 < (c.data.length : Int) + bh.length then (2, ⟨[], [], [], [], 0⟩) else (0, ⟨c.types, c.codes, c.subs, c.data ++ bh, (c.data.length : Int) + bh.length⟩)
def LayPost (c : Cont) (bh : List Int) (w : World) (e : Ending) (w' : World) : Prop := Below w.heap.size w w' ∧ ∃ A0 n0 c0 A1 n1 c1 A2 n2 c2 A3 n3 c3,
  e = .returned (.tuple #[.agg #[.slice A0 n0 c0, .slice A1 n1 c1, .slice A2 n2 c2, .slice A3 n3 c3, .int .i64 (lay c bh).2.size], .int .i64 (lay c bh).1]) ∧
  PContV w' w.heap.size (.agg #[.slice A0 n0 c0, .slice A1 n1 c1, .slice A2 n2 c2, .slice A3 n3 c3, .int .i64 (lay c bh).2.size]) (lay c bh).2
theorem lay_check {c : Cont} {bh : List Int} (h : ¬ checkErr c = 0) : lay c bh = (checkErr c, ⟨[], [], [], [], 0⟩) := by unfold lay; rw [if_pos h]
theorem lay_short {c : Cont} {bh : List Int} (h : checkErr c = 0) (h2 : (c.data.length : Int) + bh.length < c.size) : lay c bh = (50, ⟨[], [], [], [], 0⟩) := by
  unfold lay; rw [if_neg (by simp [h]), if_pos h2]
theorem lay_long {c : Cont} {bh : List Int} (h : checkErr c = 0) (h2 : ¬ (c.data.length : Int) + bh.length < c.size) (h3 : 65535 < (c.data.length : Int) + bh.length) : lay c bh = (2, ⟨[], [], [], [], 0⟩) := by
  unfold lay; rw [if_neg (by simp [h]), if_neg h2, if_pos h3]
theorem lay_yes {c : Cont} {bh : List Int} (h : checkErr c = 0) (h2 : ¬ (c.data.length : Int) + bh.length < c.size) (h3 : ¬ 65535 < (c.data.length : Int) + bh.length) : lay c bh = (0, ⟨c.types, c.codes, c.subs, c.data ++ bh, (c.data.length : Int) + bh.length⟩) := by
  unfold lay; rw [if_neg (by simp [h]), if_neg h2, if_neg h3]
theorem layP_no {c : Cont} {bh : List Int} {w w' : World} {er : Int} (h : lay c bh = (er, ⟨[], [], [], [], 0⟩)) (hb : Below w.heap.size w w') : LayPost c bh w (.returned (.tuple #[.agg #[.slice none 0 0, .slice none 0 0, .slice none 0 0, .slice none 0 0, .int .i64 0], .int .i64 er])) w' := by
  refine ⟨hb, none, 0, 0, none, 0, 0, none, 0, 0, none, 0, 0, by rw [h], ?_⟩
  rw [h]
  exact ⟨_, _, _, _, rfl, World.ownsRow_nil _ _ _ _, PartsO.nil _ _, PartsO.nil _ _, World.ownsRow_nil _ _ _ _⟩
/-- A container's box, as a block. -/
def HBx (w : World) (X : Nat) (v0 v1 v2 v3 v4 : Value) : Prop := w.heap[X]? = some (.cells #[v0, v1, v2, v3, v4] 28 (0, 0))
theorem hbx_new (w : World) (v0 v1 v2 v3 v4 : Value) : HBx (w.alloc (.cells #[v0, v1, v2, v3, v4] 28)) w.heap.size v0 v1 v2 v3 v4 := heap_alloc_new w _
theorem HBx.lt {w : World} {X : Nat} {v0 v1 v2 v3 v4 : Value} (h : HBx w X v0 v1 v2 v3 v4) : X < w.heap.size := (Array.getElem?_eq_some_iff.1 h).1
theorem HBx.kx {w : World} {X : Nat} {v0 v1 v2 v3 v4 : Value} (h : HBx w X v0 v1 v2 v3 v4) : KX w X v0 v1 v2 v3 v4 :=
  ⟨by rw [cell_of_row w X 0 _ 28 (0, 0) h]; rfl, by rw [cell_of_row w X 1 _ 28 (0, 0) h]; rfl, by rw [cell_of_row w X 2 _ 28 (0, 0) h]; rfl, by rw [cell_of_row w X 3 _ 28 (0, 0) h]; rfl, by rw [cell_of_row w X 4 _ 28 (0, 0) h]; rfl, fun j => frozen_of_row w X j _ 28 h⟩
theorem HBx.below {w w1 : World} {X : Nat} {v0 v1 v2 v3 v4 : Value} (h : HBx w X v0 v1 v2 v3 v4) (hb : Below w.heap.size w w1) : HBx w1 X v0 v1 v2 v3 v4 := (hb.block X h.lt).trans h
theorem HBx.set {w : World} {X : Nat} {u0 u1 u2 u3 u4 : Value} (h : HBx w X u0 u1 u2 u3 u4) (v0 v1 v2 v3 v4 : Value) : HBx (setX w X v0 v1 v2 v3 v4) X v0 v1 v2 v3 v4 := by
  have h0 := heap_setCell_same w X 0 _ 28 v0 h
  have h1 := heap_setCell_same _ X 1 _ 28 v1 h0
  have h2 := heap_setCell_same _ X 2 _ 28 v2 h1
  have h3 := heap_setCell_same _ X 3 _ 28 v3 h2
  have h4 := heap_setCell_same _ X 4 _ 28 v4 h3
  exact h4
theorem HBx.set3 {w : World} {X : Nat} {u0 u1 u2 u3 u4 : Value} (h : HBx w X u0 u1 u2 u3 u4) (v : Value) : HBx (w.setCell ⟨X, 3, none⟩ v) X u0 u1 u2 v u4 := heap_setCell_same w X 3 _ 28 v h
theorem own_box_ne {w : World} {B : Nat} {t : TypeId} {k n X : Nat} {v : Value} {l : List Value} {v0 v1 v2 v3 v4 : Value} (ho : w.ownsRow B t k v n l) (ht : t ≠ 28) (h : HBx w X v0 v1 v2 v3 v4) : v.ownBlock = none ∨ v.ownBlock ≠ some X := by
  rcases ho.2 with ⟨rfl, _⟩ | ⟨g, cap, cur, rfl, _, hh, _⟩
  · exact .inl rfl
  · refine .inr fun e => ?_
    have e2 : g = X := by simpa [Value.ownBlock] using e
    subst e2
    unfold HBx at h
    rw [hh] at h
    simp only [Option.some.injEq, Obj.cells.injEq] at h
    exact ht h.2.1
theorem PartsO.box {w w1 : World} {B X : Nat} {v : Value} {ll : List (List Int)} {v0 v1 v2 v3 v4 : Value} (ho : PartsO w B v ll) (h : HBx w X v0 v1 v2 v3 v4) (hg : w.grownBy w1 (some X)) : PartsO w1 B v ll := by
  obtain ⟨vs, h1⟩ := ho
  exact ⟨vs, h1.len, own_other h1.own hg (own_box_ne h1.own (by decide) h), fun j hj => own_other (h1.each j hj) hg (own_box_ne (h1.each j hj) (by decide) h), h1.apart⟩
/-- make([]byte, 0, z). -/
theorem mk_facts (z : Nat) (hz : z ≤ 4194304) : ∃ cz : Array Value, (∀ W : World, (Instr.makeSlice 22 (.int .i64 0) (.int .i64 (z : Int))).run Try.prog W = .ok (.slice (some ⟨W.heap.size, 0, none⟩) 0 z) (W.alloc (.cells cz 5))) ∧
    (∀ W : World, Own8 (W.alloc (.cells cz 5)) W.heap.size (.slice (some ⟨W.heap.size, 0, none⟩) 0 z) []) := by
  obtain ⟨i0, hi, hz0, hz1, hz2⟩ := info_parts infoB
  have hr : ∀ W : World, (Instr.makeSlice 22 (.int .i64 0) (.int .i64 (z : Int))).run Try.prog W = .ok (.slice (some ⟨W.heap.size, 0, none⟩) 0 z) (W.alloc (.cells (madeCells (Value.int .u8 0).cells (z * i0.size)) 5)) := fun W => by
    have := run_make (P := Try.prog) W 22 5 i0 (.int .u8 0) Try.underlying22 hi hz0 .i64 .i64 0 (z : Int) (by omega) (by omega) (by rw [hz2]; omega) (by omega)
    simpa using this
  refine ⟨_, hr, fun W => ?_⟩
  obtain ⟨w', hrun, r1, _⟩ := run_make_own (P := Try.prog) (w := W) W.heap.size 22 5 i0 (.int .u8 0) 1 Try.underlying22 hi hz0 hz1 .i64 .i64 z (by rw [hz2]; omega) (by unfold maxLen; omega) (Nat.le_refl _)
  rw [hr W] at hrun
  injection hrun with e1 e2
  rw [e2]
  exact r1
/-- Where Lay stands behind its region 9: the new container in its box, its lists in arrays of their own. -/
structure LSt (w1 wx : World) (X n0 : Nat) (V0 V1 V2 V3 : Value) (c : Cont) (z : Nat) : Prop where
  box : HBx wx X V0 V1 V2 V3 (.int .i64 z)
  t : wx.ownsRow w1.heap.size 69 3 V0 n0 (tysOf c.types)
  cd : PartsO wx w1.heap.size V1 c.codes
  sb : PartsO wx w1.heap.size V2 c.subs
  below : Below w1.heap.size w1 wx
  ge : w1.heap.size ≤ X
theorem lst_old {w1 ws : World} {X n0 : Nat} {V0 V1 V2 u0 u1 u2 u3 u4 : Value} {c : Cont} {z : Nat} (hx : HBx ws X u0 u1 u2 u3 u4) (ht : ws.ownsRow w1.heap.size 69 3 V0 n0 (tysOf c.types)) (hc : PartsO ws w1.heap.size V1 c.codes) (hs : PartsO ws w1.heap.size V2 c.subs) (hb : Below w1.heap.size w1 ws) (hX : w1.heap.size ≤ X) :
    LSt w1 (setX ws X V0 V1 V2 (.slice none 0 0) (.int .i64 z)) X n0 V0 V1 V2 (.slice none 0 0) c z := by
  have hg := grown_setX ws X V0 V1 V2 (.slice none 0 0) (.int .i64 z)
  exact ⟨hx.set _ _ _ _ _, own_other ht hg (own_box_ne ht (by decide) hx), hc.box hx hg, hs.box hx hg, hb.grown hg hb.size (by rintro k ⟨⟩; exact hX), hX⟩
theorem lst_new {w1 ws : World} {n0 : Nat} {V0 V1 V2 : Value} {c : Cont} {z : Nat} (ht : ws.ownsRow w1.heap.size 69 3 V0 n0 (tysOf c.types)) (hc : PartsO ws w1.heap.size V1 c.codes) (hs : PartsO ws w1.heap.size V2 c.subs) (hb : Below w1.heap.size w1 ws) :
    LSt w1 (ws.alloc (.cells #[V0, V1, V2, .slice none 0 0, .int .i64 z] 28)) ws.heap.size n0 V0 V1 V2 (.slice none 0 0) c z := by
  have ha := below_alloc ws (.cells #[V0, V1, V2, .slice none 0 0, .int .i64 z] 28)
  exact ⟨hbx_new _ _ _ _ _ _, own_below ht ha, hc.below ha, hs.below ha, below_step hb ha, hb.size⟩
theorem LSt.drew {w1 wx : World} {X n0 : Nat} {V0 V1 V2 V3 : Value} {c : Cont} {z : Nat} (h : LSt w1 wx X n0 V0 V1 V2 V3 c z) : LSt w1 wx.drew X n0 V0 V1 V2 V3 c z :=
  ⟨h.box.below (Below.refl _ _).drew, own_below h.t (Below.refl _ _).drew, h.cd.below (Below.refl _ _).drew, h.sb.below (Below.refl _ _).drew, h.below.drew, h.ge⟩
theorem LSt.data {w1 wc wp : World} {X n0 : Nat} {V0 V1 V2 V3 : Value} {c : Cont} {z : Nat} {v : Value} {l : List Int} (h : LSt w1 wc X n0 V0 V1 V2 V3 c z) (hb : Below wc.heap.size wc wp) (ho : Own8 wp wc.heap.size v l) :
    LSt w1 (wp.setCell ⟨X, 3, none⟩ v) X n0 V0 V1 V2 v c z ∧ Own8 (wp.setCell ⟨X, 3, none⟩ v) w1.heap.size v l := by
  have hx := h.box.below hb
  have hg := grown_setCell wp X 3 v
  have ht := own_below h.t hb
  have hxl := h.box.lt
  refine ⟨⟨hx.set3 v, own_other ht hg (own_box_ne ht (by decide) hx), (h.cd.below hb).box hx hg, (h.sb.below hb).box hx hg, (below_step h.below hb).grown hg (below_step h.below hb).size (by rintro k ⟨⟩; exact h.ge), h.ge⟩, ?_⟩
  exact own_base (own_other ho hg (own_box_ne ho (by decide) hx)) h.below.size
section
variable {ops : Array Oper} {o : Oper} {a : Act} {Q : Exit → Act → World → Prop} {K : Act → World → Prop} {E : Prop}
theorem wp_app_none {W : World} (s x : Operand) (ho : o.op = .call { callee := .builtin .append, args := #[s, x], argTypes := #[22, 22] }) (B : Nat) (v : Value) (l : List Int) (hs : a.eval s = v) (HO : Own8 W B v l) (hx : a.eval x = .slice none 0 0)
    (h : K (a.put o.dst v) W) : Oper.wp Try.prog o a W K Q := by
  obtain ⟨i0, hi, hz0, hz1, hz2⟩ := info_parts infoB
  have hrun := run_append_owned_none (P := Try.prog) (w := W) B 22 o.type 5 i0 1 Try.underlying22 hi v l.length (nums .u8 l) HO
  unfold Oper.wp
  simp [execOp, ho, resolve, invoke, builtin, hs, hx, hrun, Result.andThen]
  exact h
/-- append(v, src...) at a step of a region that draws. -/
theorem step_list {W0 W : World} (s x : Operand) (hgd : o.guard = none) (ho : o.op = .call { callee := .builtin .append, args := #[s, x], argTypes := #[22, 22] })
    {B : Nat} {v src : Value} {l new : List Int} (HO : Hid (Own8 W0 B v l)) (hs : a.eval s = v) (hx : a.eval x = src) (hn : NumsV W .u8 src new) (hl : Hid (l.length + new.length ≤ reach)) (hB : B ≤ W0.heap.size) (hb : Below W0.heap.size W0 W)
    (h : ∀ v' w', Own8 w' B v' (l ++ new) → Below B W w' → K (a.put o.dst v') w') :
    if Region.wanted o (yielded ops a.tmps) = true then Oper.wp Try.prog o a W K Q else E := by
  have hw : Region.wanted o (yielded ops a.tmps) = true := by simp [Region.wanted, hgd]
  rw [if_pos hw]
  have hBW := Nat.le_trans hB hb.size
  obtain ⟨A, c, rfl, h1, h2, h3⟩ := hn
  cases A with
  | none =>
    obtain rfl := h2 rfl
    obtain rfl : new = [] := List.eq_nil_of_length_eq_zero (by omega)
    refine wp_app_none s x ho B v l hs (HO.out.below hb) (by simpa using hx) ?_
    exact h v W (by rw [List.append_nil]; exact HO.out.below hb) (Below.refl _ _)
  | some ad => exact wp_app_at s x ho B v l new hs (Lib.hid (HO.out.below hb)) ad _ c hx (Lib.hid rfl) (Lib.hid h3.src) hBW hl fun v' w' hown he => h v' w' hown (he.below (HO.out.below hb) hBW)
end
set_option maxRecDepth 100000 in
theorem lay_ret {Q : Ending → World → Prop} {w : World} {C : Nat} {t : Array Value} {v0 v1 v2 v3 v4 er : Value} (h4 : t[4]?.getD undef = .pointer (some ⟨C, 0, none⟩)) (h5 : t[5]?.getD undef = er)
    (hc : KX w C v0 v1 v2 v3 v4) (hQ : Q (.returned (.tuple #[.agg #[v0, v1, v2, v3, v4], er])) w) : bodyPost Try.prog Try.f32 Q Exit.ret ⟨t, []⟩ w := by
  obtain ⟨r0, r1, r2, r3, r4, _⟩ := hc
  exact bodyPost_ret (v := .tuple #[.agg #[v0, v1, v2, v3, v4], er]) (by simp [results, Try.results32, go_sem, h4, h5, r0, r1, r2, r3, r4]) rfl hQ
theorem lay_bad {c : Cont} {bh : List Int} {w w1 : World} {C : Nat} {t : Array Value} {er : Int} {u0 u1 u2 u3 u4 : Value} (h4 : t[4]?.getD undef = .pointer (some ⟨C, 0, none⟩)) (h5 : t[5]?.getD undef = .int .i64 er)
    (hc : KX w1 C u0 u1 u2 u3 u4) (hb : Below w.heap.size w w1) (hC : w.heap.size ≤ C) (h : lay c bh = (er, ⟨[], [], [], [], 0⟩)) : bodyPost Try.prog Try.f32 (LayPost c bh w) Exit.ret ⟨t, []⟩ (setX w1 C (.slice none 0 0) (.slice none 0 0) (.slice none 0 0) (.slice none 0 0) (.int .i64 0)) :=
  lay_ret h4 h5 (hc.set _ _ _ _ _) (layP_no h (hb.grown (grown_setX w1 C _ _ _ _ _) hb.size (by rintro k ⟨⟩; exact hC)))
theorem lay_good {c : Cont} {bh : List Int} {w w1 y : World} {C X n0 n1 n2 m3 z : Nat} {t : Array Value} {At Ac As Ad : Option Addr} {dt dc ds dd : Nat} {u0 u1 u2 u3 u4 : Value} (h4 : t[4]?.getD undef = .pointer (some ⟨C, 0, none⟩)) (h5 : t[5]?.getD undef = .int .i64 0)
    (hc : KX y C u0 u1 u2 u3 u4) (hl : LSt w1 y X n0 (.slice At n0 dt) (.slice Ac n1 dc) (.slice As n2 ds) (.slice Ad m3 dd) c z) (ho : Own8 y w1.heap.size (.slice Ad m3 dd) (c.data ++ bh)) (hn0 : n0 = c.types.length) (hz : (c.data.length : Int) + bh.length = (z : Int)) (hC1 : C < w1.heap.size) (hw : Below w.heap.size w w1) (hC : w.heap.size ≤ C)
    (h : lay c bh = (0, ⟨c.types, c.codes, c.subs, c.data ++ bh, (c.data.length : Int) + bh.length⟩)) : bodyPost Try.prog Try.f32 (LayPost c bh w) Exit.ret ⟨t, []⟩ (setX y C (.slice At n0 dt) (.slice Ac n1 dc) (.slice As n2 ds) (.slice Ad m3 dd) (.int .i64 (z : Int))) := by
  have hg := grown_setX y C (.slice At n0 dt) (.slice Ac n1 dc) (.slice As n2 ds) (.slice Ad m3 dd) (.int .i64 (z : Int))
  have hbw : Below w.heap.size w y := below_step hw hl.below
  have hs := hw.size
  refine lay_ret h4 h5 (hc.set _ _ _ _ _) ⟨hbw.grown hg hbw.size (by rintro k ⟨⟩; exact hC), At, n0, dt, Ac, n1, dc, As, n2, ds, Ad, m3, dd, by rw [h, hz], ?_⟩
  rw [h]
  subst hn0
  simp only
  rw [hz]
  exact ⟨_, _, _, _, rfl, own_base (own_other hl.t hg (.inr fun e => by have := own_ge hl.t _ e; omega)) hs, (hl.cd.other hg hC1).base hs, (hl.sb.other hg hC1).base hs, own_base (own_other ho hg (.inr fun e => by have := own_ge ho _ e; omega)) hs⟩
end Go.Proofs.Ytkbboepopcebaaa
