/- slices.Clone at types; the reference's copied. -/
import Derived.Test.YtkbboepopcebaaaAT
import Derived.Test.YtkbboepopcebaaaAA
import Derived.Test.YtkbboepopcebaaaCK
import Derived.Test.YtkbboepopcebaaaR
import Derived.BigRegion
import Derived.Deep.RegionLaw
namespace Go.Proofs.Ytkbboepopcebaaa
open Go.RowKit

set_option maxRecDepth 100000 in
theorem tclone_some (ad : Addr) (n c : Nat) (ts : List Ty) (w : World) (hx : ts.length = n) (h : ∀ j v, (tysOf ts)[j]? = some v → w.cell? (ad.add j) = some v) (hl : n ≤ 4294967296) :
    Calls Try.prog 59 #[.slice (some ad) n c] w fun e w' => ∃ v, e = .returned v ∧ w'.ownsRow w.heap.size 69 3 v n (tysOf ts) ∧ Below w.heap.size w w' := by
  obtain ⟨i0, hi, hz0, hz1, hz2⟩ := info_parts infoT
  have HX := Lib.hid hx; clear hx
  have HL := Lib.hid hl; clear hl
  have HC : Hid (∀ j v, (tysOf ts)[j]? = some v → (w.alloc (.cells #[] 69)).cell? (ad.add j) = some v) := Lib.hid fun j v hv => cell_keep (below_alloc _ _) (h j v hv)
  clear h
  have hn := fun (w : World) => Lib.run_eql_slice_nil (P := Try.prog) w 25 69 (some ad) n c 0 0 Try.underlying25
  have h1 := tysOf_one ts
  go_enter Try.func59, Try.ntmps59
  go_wp2_with (at_builtin; refine wpList_append_own _ rfl _ _ 25 rfl w.heap.size 69 i0 (.agg #[.int .i64 0, .int .i64 0, .int .i64 0]) 3 24 Try.underlying25 hi hz0 hz1 hz2 (by decide) (by decide) _ _ _ rfl (own_empty _ _ _) ad n c (tysOf ts) rfl ?c0 HC.out h1 ?c3 ?c4 ?c5 ?_)
  case c0 => rw [tysOf_length, HX.out]
  case c3 => have := HL.out; unfold maxLen; omega
  case c4 => have := HL.out; omega
  case c5 => simp
  intro v' w1 hown hg _
  have hown2 : w1.ownsRow w.heap.size 69 3 v' n (tysOf ts) := by simpa only [Nat.zero_add, List.nil_append] using hown
  clear hown
  go_wp2
  go_ret
  exact ⟨v', rfl, hown2, (below_alloc _ _).grown hg (by simp) (by simp [Value.ownBlock])⟩
set_option maxRecDepth 100000 in
theorem tclone_none (w : World) :
    Calls Try.prog 59 #[.slice none 0 0] w fun e w' => ∃ v, e = .returned v ∧ w'.ownsRow w.heap.size 69 3 v 0 [] ∧ Below w.heap.size w w' := by
  have hn := fun (w : World) => Lib.run_eql_slice_nil (P := Try.prog) w 25 69 none 0 0 0 0 Try.underlying25
  go_enter Try.func59, Try.ntmps59
  go_wp2
  go_ret
  exact ⟨_, rfl, World.ownsRow_nil _ _ _ _, Below.refl _ _⟩
/-- slices.Clone: the same types in new memory. -/
theorem tclone_any (v : Value) (ts : List Ty) (w : World) (h : TypesV w v ts) (hl : ts.length ≤ 4294967296) :
    Calls Try.prog 59 #[v] w fun e w' => ∃ v', e = .returned v' ∧ w'.ownsRow w.heap.size 69 3 v' ts.length (tysOf ts) ∧ Below w.heap.size w w' := by
  obtain ⟨A, c, rfl, h1, h2, h3, h4⟩ := h
  cases A with
  | some ad =>
    refine tclone_some ad _ c ts w rfl (fun j v hv => ?_) hl
    have hp : 0 < (tysOf ts).length := by
      rcases Nat.lt_or_ge j (tysOf ts).length with h0 | h0
      · omega
      · rw [List.getElem?_eq_none h0] at hv; cases hv
    obtain ⟨b, o, e, hc⟩ := h4 hp
    have e := Option.some.inj e
    subst e
    rw [Addr.add_lit]; exact hc j v hv
  | none =>
    obtain rfl := h2 rfl
    obtain rfl : ts = [] := List.eq_nil_of_length_eq_zero (by omega)
    exact tclone_none w
end Go.Proofs.Ytkbboepopcebaaa
namespace Go.Proofs.Ytkbboepopcebaaa
open Go.RowKit

/-- What Lay answers: the error, and the container. -/
def lay (c : Cont) (bh : List Int) : Int × Cont :=
  if ¬ checkErr c = 0 then (checkErr c, ⟨[], [], [], [], 0⟩) else if (c.data.length : Int) + bh.length < c.size then (50, ⟨[], [], [], [], 0⟩) else
  if 65535 < (c.data.length : Int) + bh.length then (2, ⟨[], [], [], [], 0⟩) else (0, ⟨c.types, c.codes, c.subs, c.data ++ bh, (c.data.length : Int) + bh.length⟩)
def LayPost (c : Cont) (bh : List Int) (w : World) (e : Ending) (w' : World) : Prop := Below w.heap.size w w' ∧ ∃ A0 n0 c0 A1 n1 c1 A2 n2 c2 A3 n3 c3,
  e = .returned (.tuple #[.agg #[.slice A0 n0 c0, .slice A1 n1 c1, .slice A2 n2 c2, .slice A3 n3 c3, .int .i64 (lay c bh).2.size], .int .i64 (lay c bh).1]) ∧
  PContV w' w.heap.size (.agg #[.slice A0 n0 c0, .slice A1 n1 c1, .slice A2 n2 c2, .slice A3 n3 c3, .int .i64 (lay c bh).2.size]) (lay c bh).2
theorem lay_check {c : Cont} {bh : List Int} (h : ¬ checkErr c = 0) : lay c bh = (checkErr c, ⟨[], [], [], [], 0⟩) := by unfold lay; rw [if_pos h]
theorem lay_short {c : Cont} {bh : List Int} (h : checkErr c = 0) (h2 : (c.data.length : Int) + bh.length < c.size) : lay c bh = (50, ⟨[], [], [], [], 0⟩) := by
  unfold lay; rw [if_neg (by simp [h]), if_pos h2]
theorem lay_long {c : Cont} {bh : List Int} (h : checkErr c = 0) (h2 : ¬ (c.data.length : Int) + bh.length < c.size) (h3 : 65535 < (c.data.length : Int) + bh.length) : lay c bh = (2, ⟨[], [], [], [], 0⟩) := by
  unfold lay; rw [if_neg (by simp [h]), if_neg h2, if_pos h3]
theorem lay_yes {c : Cont} {bh : List Int} (h : checkErr c = 0) (h2 : ¬ (c.data.length : Int) + bh.length < c.size) (h3 : ¬ 65535 < (c.data.length : Int) + bh.length) : lay c bh = (0, ⟨c.types, c.codes, c.subs, c.data ++ bh, (c.data.length : Int) + bh.length⟩) := by
  unfold lay; rw [if_neg (by simp [h]), if_neg h2, if_neg h3]
theorem layP_no {c : Cont} {bh : List Int} {w w' : World} {er : Int} (h : lay c bh = (er, ⟨[], [], [], [], 0⟩)) (hb : Below w.heap.size w w') : LayPost c bh w (.returned (.tuple #[.agg #[.slice none 0 0, .slice none 0 0, .slice none 0 0, .slice none 0 0, .int .i64 0], .int .i64 er])) w' := by
  refine ⟨hb, none, 0, 0, none, 0, 0, none, 0, 0, none, 0, 0, by rw [h], ?_⟩
  rw [h]
  exact ⟨_, _, _, _, rfl, World.ownsRow_nil _ _ _ _, PartsO.nil _ _, PartsO.nil _ _, World.ownsRow_nil _ _ _ _⟩
/-- A container's box, as a block. -/
def HBx (w : World) (X : Nat) (v0 v1 v2 v3 v4 : Value) : Prop := w.heap[X]? = some (.cells #[v0, v1, v2, v3, v4] 28 (0, 0))
theorem hbx_new (w : World) (v0 v1 v2 v3 v4 : Value) : HBx (w.alloc (.cells #[v0, v1, v2, v3, v4] 28)) w.heap.size v0 v1 v2 v3 v4 := heap_alloc_new w _
theorem HBx.lt {w : World} {X : Nat} {v0 v1 v2 v3 v4 : Value} (h : HBx w X v0 v1 v2 v3 v4) : X < w.heap.size := (Array.getElem?_eq_some_iff.1 h).1
theorem HBx.kx {w : World} {X : Nat} {v0 v1 v2 v3 v4 : Value} (h : HBx w X v0 v1 v2 v3 v4) : KX w X v0 v1 v2 v3 v4 :=
  ⟨by rw [cell_of_row w X 0 _ 28 (0, 0) h]; rfl, by rw [cell_of_row w X 1 _ 28 (0, 0) h]; rfl, by rw [cell_of_row w X 2 _ 28 (0, 0) h]; rfl, by rw [cell_of_row w X 3 _ 28 (0, 0) h]; rfl, by rw [cell_of_row w X 4 _ 28 (0, 0) h]; rfl, fun j => frozen_of_row w X j _ 28 h⟩
theorem HBx.below {w w1 : World} {X : Nat} {v0 v1 v2 v3 v4 : Value} (h : HBx w X v0 v1 v2 v3 v4) (hb : Below w.heap.size w w1) : HBx w1 X v0 v1 v2 v3 v4 := (hb.block X h.lt).trans h
theorem HBx.set {w : World} {X : Nat} {u0 u1 u2 u3 u4 : Value} (h : HBx w X u0 u1 u2 u3 u4) (v0 v1 v2 v3 v4 : Value) : HBx (setX w X v0 v1 v2 v3 v4) X v0 v1 v2 v3 v4 := by
  have h0 := heap_setCell_same w X 0 _ 28 v0 h
  have h1 := heap_setCell_same _ X 1 _ 28 v1 h0
  have h2 := heap_setCell_same _ X 2 _ 28 v2 h1
  have h3 := heap_setCell_same _ X 3 _ 28 v3 h2
  have h4 := heap_setCell_same _ X 4 _ 28 v4 h3
  exact h4
theorem HBx.set3 {w : World} {X : Nat} {u0 u1 u2 u3 u4 : Value} (h : HBx w X u0 u1 u2 u3 u4) (v : Value) : HBx (w.setCell ⟨X, 3, none⟩ v) X u0 u1 u2 v u4 := heap_setCell_same w X 3 _ 28 v h
theorem own_box_ne {w : World} {B : Nat} {t : TypeId} {k n X : Nat} {v : Value} {l : List Value} {v0 v1 v2 v3 v4 : Value} (ho : w.ownsRow B t k v n l) (ht : t ≠ 28) (h : HBx w X v0 v1 v2 v3 v4) : v.ownBlock = none ∨ v.ownBlock ≠ some X := by
  rcases ho.2 with ⟨rfl, _⟩ | ⟨g, cap, cur, rfl, _, hh, _⟩
  · exact .inl rfl
  · refine .inr fun e => ?_
    have e2 : g = X := by simpa [Value.ownBlock] using e
    subst e2
    unfold HBx at h
    rw [hh] at h
    simp only [Option.some.injEq, Obj.cells.injEq] at h
    exact ht h.2.1
theorem PartsO.box {w w1 : World} {B X : Nat} {v : Value} {ll : List (List Int)} {v0 v1 v2 v3 v4 : Value} (ho : PartsO w B v ll) (h : HBx w X v0 v1 v2 v3 v4) (hg : w.grownBy w1 (some X)) : PartsO w1 B v ll := by
  obtain ⟨vs, h1⟩ := ho
  exact ⟨vs, h1.len, own_other h1.own hg (own_box_ne h1.own (by decide) h), fun j hj => own_other (h1.each j hj) hg (own_box_ne (h1.each j hj) (by decide) h), h1.apart⟩
/-- make([]byte, 0, z). -/
theorem mk_facts (z : Nat) (hz : z ≤ 4194304) : ∃ cz : Array Value, (∀ W : World, (Instr.makeSlice 22 (.int .i64 0) (.int .i64 (z : Int))).run Try.prog W = .ok (.slice (some ⟨W.heap.size, 0, none⟩) 0 z) (W.alloc (.cells cz 5))) ∧
    (∀ W : World, Own8 (W.alloc (.cells cz 5)) W.heap.size (.slice (some ⟨W.heap.size, 0, none⟩) 0 z) []) := by
  obtain ⟨i0, hi, hz0, hz1, hz2⟩ := info_parts infoB
  have hr : ∀ W : World, (Instr.makeSlice 22 (.int .i64 0) (.int .i64 (z : Int))).run Try.prog W = .ok (.slice (some ⟨W.heap.size, 0, none⟩) 0 z) (W.alloc (.cells (madeCells (Value.int .u8 0).cells (z * i0.size)) 5)) := fun W => by
    have := run_make (P := Try.prog) W 22 5 i0 (.int .u8 0) Try.underlying22 hi hz0 .i64 .i64 0 (z : Int) (by omega) (by omega) (by rw [hz2]; omega) (by omega)
    simpa using this
  refine ⟨_, hr, fun W => ?_⟩
  obtain ⟨w', hrun, r1, _⟩ := run_make_own (P := Try.prog) (w := W) W.heap.size 22 5 i0 (.int .u8 0) 1 Try.underlying22 hi hz0 hz1 .i64 .i64 z (by rw [hz2]; omega) (by unfold maxLen; omega) (Nat.le_refl _)
  rw [hr W] at hrun
  injection hrun with e1 e2
  rw [e2]
  exact r1
/-- Where Lay stands behind its region 9: the new container in its box, its lists in arrays of their own. -/
structure LSt (w1 wx : World) (X n0 : Nat) (V0 V1 V2 V3 : Value) (c : Cont) (z : Nat) : Prop where
  box : HBx wx X V0 V1 V2 V3 (.int .i64 z)
  t : wx.ownsRow w1.heap.size 69 3 V0 n0 (tysOf c.types)
  cd : PartsO wx w1.heap.size V1 c.codes
  sb : PartsO wx w1.heap.size V2 c.subs
  below : Below w1.heap.size w1 wx
  ge : w1.heap.size ≤ X
theorem lst_old {w1 ws : World} {X n0 : Nat} {V0 V1 V2 u0 u1 u2 u3 u4 : Value} {c : Cont} {z : Nat} (hx : HBx ws X u0 u1 u2 u3 u4) (ht : ws.ownsRow w1.heap.size 69 3 V0 n0 (tysOf c.types)) (hc : PartsO ws w1.heap.size V1 c.codes) (hs : PartsO ws w1.heap.size V2 c.subs) (hb : Below w1.heap.size w1 ws) (hX : w1.heap.size ≤ X) :
    LSt w1 (setX ws X V0 V1 V2 (.slice none 0 0) (.int .i64 z)) X n0 V0 V1 V2 (.slice none 0 0) c z := by
  have hg := grown_setX ws X V0 V1 V2 (.slice none 0 0) (.int .i64 z)
  exact ⟨hx.set _ _ _ _ _, own_other ht hg (own_box_ne ht (by decide) hx), hc.box hx hg, hs.box hx hg, hb.grown hg hb.size (by rintro k ⟨⟩; exact hX), hX⟩
theorem lst_new {w1 ws : World} {n0 : Nat} {V0 V1 V2 : Value} {c : Cont} {z : Nat} (ht : ws.ownsRow w1.heap.size 69 3 V0 n0 (tysOf c.types)) (hc : PartsO ws w1.heap.size V1 c.codes) (hs : PartsO ws w1.heap.size V2 c.subs) (hb : Below w1.heap.size w1 ws) :
    LSt w1 (ws.alloc (.cells #[V0, V1, V2, .slice none 0 0, .int .i64 z] 28)) ws.heap.size n0 V0 V1 V2 (.slice none 0 0) c z := by
  have ha := below_alloc ws (.cells #[V0, V1, V2, .slice none 0 0, .int .i64 z] 28)
  exact ⟨hbx_new _ _ _ _ _ _, own_below ht ha, hc.below ha, hs.below ha, below_step hb ha, hb.size⟩
theorem LSt.drew {w1 wx : World} {X n0 : Nat} {V0 V1 V2 V3 : Value} {c : Cont} {z : Nat} (h : LSt w1 wx X n0 V0 V1 V2 V3 c z) : LSt w1 wx.drew X n0 V0 V1 V2 V3 c z :=
  ⟨h.box.below (Below.refl _ _).drew, own_below h.t (Below.refl _ _).drew, h.cd.below (Below.refl _ _).drew, h.sb.below (Below.refl _ _).drew, h.below.drew, h.ge⟩
theorem LSt.data {w1 wc wp : World} {X n0 : Nat} {V0 V1 V2 V3 : Value} {c : Cont} {z : Nat} {v : Value} {l : List Int} (h : LSt w1 wc X n0 V0 V1 V2 V3 c z) (hb : Below wc.heap.size wc wp) (ho : Own8 wp wc.heap.size v l) :
    LSt w1 (wp.setCell ⟨X, 3, none⟩ v) X n0 V0 V1 V2 v c z ∧ Own8 (wp.setCell ⟨X, 3, none⟩ v) w1.heap.size v l := by
  have hx := h.box.below hb
  have hg := grown_setCell wp X 3 v
  have ht := own_below h.t hb
  have hxl := h.box.lt
  refine ⟨⟨hx.set3 v, own_other ht hg (own_box_ne ht (by decide) hx), (h.cd.below hb).box hx hg, (h.sb.below hb).box hx hg, (below_step h.below hb).grown hg (below_step h.below hb).size (by rintro k ⟨⟩; exact h.ge), h.ge⟩, ?_⟩
  exact own_base (own_other ho hg (own_box_ne ho (by decide) hx)) h.below.size
section
variable {ops : Array Oper} {o : Oper} {a : Act} {Q : Exit → Act → World → Prop} {K : Act → World → Prop} {E : Prop}
theorem wp_app_none {W : World} (s x : Operand) (ho : o.op = .call { callee := .builtin .append, args := #[s, x], argTypes := #[22, 22] }) (B : Nat) (v : Value) (l : List Int) (hs : a.eval s = v) (HO : Own8 W B v l) (hx : a.eval x = .slice none 0 0)
    (h : K (a.put o.dst v) W) : Oper.wp Try.prog o a W K Q := by
  obtain ⟨i0, hi, hz0, hz1, hz2⟩ := info_parts infoB
  have hrun := run_append_owned_none (P := Try.prog) (w := W) B 22 o.type 5 i0 1 Try.underlying22 hi v l.length (nums .u8 l) HO
  unfold Oper.wp
  simp [execOp, ho, resolve, invoke, builtin, hs, hx, hrun, Result.andThen]
  exact h
/-- append(v, src...) at a step of a region that draws. -/
theorem step_list {W0 W : World} (s x : Operand) (hgd : o.guard = none) (ho : o.op = .call { callee := .builtin .append, args := #[s, x], argTypes := #[22, 22] })
    {B : Nat} {v src : Value} {l new : List Int} (HO : Hid (Own8 W0 B v l)) (hs : a.eval s = v) (hx : a.eval x = src) (hn : NumsV W .u8 src new) (hl : Hid (l.length + new.length ≤ reach)) (hB : B ≤ W0.heap.size) (hb : Below W0.heap.size W0 W)
    (h : ∀ v' w', Own8 w' B v' (l ++ new) → Below B W w' → K (a.put o.dst v') w') :
    if Region.wanted o (yielded ops a.tmps) = true then Oper.wp Try.prog o a W K Q else E := by
  have hw : Region.wanted o (yielded ops a.tmps) = true := by simp [Region.wanted, hgd]
  rw [if_pos hw]
  have hBW := Nat.le_trans hB hb.size
  obtain ⟨A, c, rfl, h1, h2, h3⟩ := hn
  cases A with
  | none =>
    obtain rfl := h2 rfl
    obtain rfl : new = [] := List.eq_nil_of_length_eq_zero (by omega)
    refine wp_app_none s x ho B v l hs (HO.out.below hb) (by simpa using hx) ?_
    exact h v W (by rw [List.append_nil]; exact HO.out.below hb) (Below.refl _ _)
  | some ad => exact wp_app_at s x ho B v l new hs (Lib.hid (HO.out.below hb)) ad _ c hx (Lib.hid rfl) (Lib.hid h3.src) hBW hl fun v' w' hown he => h v' w' hown (he.below (HO.out.below hb) hBW)
end
set_option maxRecDepth 100000 in
theorem lay_ret {Q : Ending → World → Prop} {w : World} {C : Nat} {t : Array Value} {v0 v1 v2 v3 v4 er : Value} (h4 : t[4]?.getD undef = .pointer (some ⟨C, 0, none⟩)) (h5 : t[5]?.getD undef = er)
    (hc : KX w C v0 v1 v2 v3 v4) (hQ : Q (.returned (.tuple #[.agg #[v0, v1, v2, v3, v4], er])) w) : bodyPost Try.prog Try.f32 Q Exit.ret ⟨t, []⟩ w := by
  obtain ⟨r0, r1, r2, r3, r4, _⟩ := hc
  exact bodyPost_ret (v := .tuple #[.agg #[v0, v1, v2, v3, v4], er]) (by simp [results, Try.results32, go_sem, h4, h5, r0, r1, r2, r3, r4]) rfl hQ
theorem lay_bad {c : Cont} {bh : List Int} {w w1 : World} {C : Nat} {t : Array Value} {er : Int} {u0 u1 u2 u3 u4 : Value} (h4 : t[4]?.getD undef = .pointer (some ⟨C, 0, none⟩)) (h5 : t[5]?.getD undef = .int .i64 er)
    (hc : KX w1 C u0 u1 u2 u3 u4) (hb : Below w.heap.size w w1) (hC : w.heap.size ≤ C) (h : lay c bh = (er, ⟨[], [], [], [], 0⟩)) : bodyPost Try.prog Try.f32 (LayPost c bh w) Exit.ret ⟨t, []⟩ (setX w1 C (.slice none 0 0) (.slice none 0 0) (.slice none 0 0) (.slice none 0 0) (.int .i64 0)) :=
  lay_ret h4 h5 (hc.set _ _ _ _ _) (layP_no h (hb.grown (grown_setX w1 C _ _ _ _ _) hb.size (by rintro k ⟨⟩; exact hC)))
theorem lay_good {c : Cont} {bh : List Int} {w w1 y : World} {C X n0 n1 n2 m3 z : Nat} {t : Array Value} {At Ac As Ad : Option Addr} {dt dc ds dd : Nat} {u0 u1 u2 u3 u4 : Value} (h4 : t[4]?.getD undef = .pointer (some ⟨C, 0, none⟩)) (h5 : t[5]?.getD undef = .int .i64 0)
    (hc : KX y C u0 u1 u2 u3 u4) (hl : LSt w1 y X n0 (.slice At n0 dt) (.slice Ac n1 dc) (.slice As n2 ds) (.slice Ad m3 dd) c z) (ho : Own8 y w1.heap.size (.slice Ad m3 dd) (c.data ++ bh)) (hn0 : n0 = c.types.length) (hz : (c.data.length : Int) + bh.length = (z : Int)) (hC1 : C < w1.heap.size) (hw : Below w.heap.size w w1) (hC : w.heap.size ≤ C)
    (h : lay c bh = (0, ⟨c.types, c.codes, c.subs, c.data ++ bh, (c.data.length : Int) + bh.length⟩)) : bodyPost Try.prog Try.f32 (LayPost c bh w) Exit.ret ⟨t, []⟩ (setX y C (.slice At n0 dt) (.slice Ac n1 dc) (.slice As n2 ds) (.slice Ad m3 dd) (.int .i64 (z : Int))) := by
  have hg := grown_setX y C (.slice At n0 dt) (.slice Ac n1 dc) (.slice As n2 ds) (.slice Ad m3 dd) (.int .i64 (z : Int))
  have hbw : Below w.heap.size w y := below_step hw hl.below
  have hs := hw.size
  refine lay_ret h4 h5 (hc.set _ _ _ _ _) ⟨hbw.grown hg hbw.size (by rintro k ⟨⟩; exact hC), At, n0, dt, Ac, n1, dc, As, n2, ds, Ad, m3, dd, by rw [h, hz], ?_⟩
  rw [h]
  subst hn0
  simp only
  rw [hz]
  exact ⟨_, _, _, _, rfl, own_base (own_other hl.t hg (.inr fun e => by have := own_ge hl.t _ e; omega)) hs, (hl.cd.other hg hC1).base hs, (hl.sb.other hg hC1).base hs, own_base (own_other ho hg (.inr fun e => by have := own_ge ho _ e; omega)) hs⟩
end Go.Proofs.Ytkbboepopcebaaa
namespace Go.Proofs.Ytkbboepopcebaaa
open Go.RowKit

section
variable {ops : Array Oper} {rest : List Oper} {o : Oper} {a : Act} {Q : Exit → Act → World → Prop}
/-- append(out, p), the slice p in its box. -/
theorem app_part {W : World} {p : Value} (s x : Operand) (hgd : o.guard = none) (ho : o.op = .call { callee := .builtin .append, args := #[s, x], argTypes := #[26, 26] })
    (B n : Nat) (v : Value) (vs : List Value) (hs : a.eval s = v) (HO : Hid (W.ownsRow B 22 1 v n vs)) (hp : p.oneCell' = true) (hx : a.eval x = .slice (some ⟨W.heap.size, 0, none⟩) 1 1) (hB : B ≤ W.heap.size) (hl : n + 1 ≤ 4294967296)
    (h : ∀ v' w', w'.ownsRow B 22 1 v' (n + 1) (vs ++ [p]) → (W.alloc (.cells #[p] 22)).grownBy w' v.ownBlock → wpList Try.prog ops Q rest (a.put o.dst v') w') : wpList Try.prog ops Q (o :: rest) a (W.alloc (.cells #[p] 22)) := by
  obtain ⟨i0, hi, hz0, hz1, hz2⟩ := info_parts info22
  have hb := below_alloc W (.cells #[p] 22)
  have hn := World.news_of_block (w := W.alloc (.cells #[p] 22)) (B := W.heap.size) (cs := #[p]) (t := 22) (fr := (0, 0)) (heap_alloc_new W _)
  refine wpList_append_own_at _ hgd s x 26 ho B 22 i0 (.slice none 0 0) 1 24 Try.underlying26 hi hz0 hz1 hz2 rfl (by decide) v n vs hs (own_below HO.out hb) ⟨W.heap.size, 0, none⟩ 1 1 [p] hx rfl (by simpa using hn) ?_ (by unfold maxLen; omega) (by omega) (by simp; omega) ?_
  · intro u hu
    simp at hu
    subst hu
    exact hp
  · intro v' w' hown hg _ _
    exact h v' w' hown hg
end
set_option maxRecDepth 100000 in
set_option maxHeartbeats 2000000 in
theorem copied_any (A : Option Addr) (c n : Nat) (ll : List (List Int)) (w : World) (hn : ll.length = n) (hf : n ≤ 1048576) (h : PartsR w A ll) :
    Calls Try.prog 61 #[.slice A n c] w fun e w' => ∃ v', e = .returned v' ∧ PartsO w' w.heap.size v' ll ∧ Below w.heap.size w w' := by
  obtain ⟨i0, hi, hz0, hz1, hz2⟩ := info_parts info22
  have HN := Lib.hid hn; clear hn
  have HP := Lib.hid h; clear h
  go_enter Try.func61, Try.ntmps61
  go_wp2
  go_loopw [3, 4] (fun v i wr => ∃ k : Nat, k ≤ n ∧ i = .int .i64 k ∧ PartsO wr w.heap.size v (ll.take k) ∧ Below w.heap.size w wr) (fun _ i _ => n - (intOf i).toNat)
  case atStart => exact ⟨0, Nat.zero_le _, rfl, PartsO.nil _ _, Below.refl _ _⟩
  case round =>
    obtain ⟨k, hk, rfl, hO, hb⟩ := hrel
    by_cases hlt : k < n
    · have hk2 : k < ll.length := by have := HN.out; omega
      obtain ⟨b1, o1, rfl, hc⟩ := (HP.out.mono hb).2 (by omega)
      obtain ⟨p, hcell, hp⟩ := hc k hk2
      obtain ⟨l, hl⟩ : ∃ l, l = ll.getD k [] := ⟨_, rfl⟩
      rw [← hl] at hp
      have HL := Lib.hid hl
      obtain ⟨pl, hpl⟩ : ∃ pl, pl = ll.take k := ⟨_, rfl⟩
      have hpk : pl.length = k := by rw [hpl, List.length_take]; omega
      rw [← hpl] at hO
      have HPL := Lib.hid hpl
      have HPK := Lib.hid hpk
      have HC := Lib.hid hp
      have HB := Lib.hid hb
      obtain ⟨vs, hov⟩ := hO
      have hkb : (k : Int) ≤ 1048576 := by omega
      have how := hov.own
      rw [hpk] at how
      have HOW := Lib.hid how
      have HO := Lib.hid hov
      obtain ⟨A5, c5, hp5, _, _, hr5⟩ := hp
      have hlr : l.length ≤ reach := hr5.1
      subst hp5
      have HLR : Hid (([] : List Int).length + l.length ≤ reach) := Lib.hid (by simpa using hlr)
      have HNIL : Hid (Own8 wr wr.heap.size (.slice none 0 0) []) := Lib.hid (Own8.nil _ _)
      clear hc hb hpl hpk hov hl how hr5
      have hwB : Hid (w.heap.size ≤ wr.heap.size) := Lib.hid HB.out.size
      go_wp2_with (at_builtin; first
        | (refine app_list (.const (.slice none 0 0)) (.tmp 15) rfl rfl wr.heap.size (.slice none 0 0) _ [] l rfl HNIL rfl HC (Nat.le_refl _) HLR ?_; intro v5 w5 ho5 hb5; rw [List.nil_append] at ho5; obtain ⟨A1, c1, rfl, _⟩ := own_shape ho5; have HPO := Lib.hid ho5; have HPB := Lib.hid hb5; have HV5 := Lib.hid (own_below HOW.out HPB.out); have hz5 := Nat.le_trans hwB.out HPB.out.size; clear ho5 hb5)
        | (refine app_part (.tmp 11) (.tmp 17) rfl rfl w.heap.size k _ vs rfl HV5 rfl rfl hz5 (by omega) ?_; intro v6 w6 ho6 hg6; have HO6 := Lib.hid ho6; have HG6 := Lib.hid hg6; clear ho6 hg6))
      go_roundw
      case rel =>
        refine ⟨k + 1, by omega, by go_num, ?_, ?_⟩
        · rw [take_snoc' ll k [] hk2, ← HPL.out, ← HL.out]
          exact ⟨_, PartsOv.snoc HB.out.size (Nat.le_refl _) HO.out (HPB.out.trans ((below_alloc _ _).mono HPB.out.size)) (HPO.out.alloc _) (by rw [HPK.out]; exact HO6.out) HG6.out⟩
        · exact (below_step HB.out (below_step HPB.out (below_alloc _ _))).grown HG6.out (by have h1 := HB.out.size; have h2 := HPB.out.size; simp; omega) (fun k hk => own_ge HV5.out k hk)
      case measure => exact own_meas hlt
    · go_wp2
      go_ret
      have hkn : k = n := by omega
      rw [hkn, List.take_of_length_le (by have := HN.out; omega)] at hO
      exact ⟨_, rfl, hO, hb⟩
end Go.Proofs.Ytkbboepopcebaaa
namespace Go.Proofs.Ytkbboepopcebaaa
open Go.RowKit

/-- append(data, y) at a step of a region that draws. -/
theorem step_dat {ops : Array Oper} {o : Oper} {a : Act} {Q : Exit → Act → World → Prop} {K : Act → World → Prop} {E : Prop} {W0 W : World} (y : Int) (s r : Operand) (hgd : o.guard = none) (ho : o.op = .call { callee := .builtin .append, args := #[s, r], argTypes := #[22, 22] })
    {B : Nat} {v : Value} {l : List Int} (g : Nat) (HO : Hid (Own8 W0 B v l)) (hs : a.eval s = v) (hx : a.eval r = .slice (some ⟨g, 0, none⟩) 1 1) (hn : Hid (l.length + 1 ≤ reach)) (hB : B ≤ W0.heap.size) (hb : Below W0.heap.size W0 W) (hg : W.heap[g]? = some (.cells #[.int .u8 y] 5 (0, 0)))
    (h : ∀ v' w', Own8 w' B v' (l ++ [y]) → W.grownBy w' v.ownBlock → K (a.put o.dst v') w') :
    if Region.wanted o (yielded ops a.tmps) = true then Oper.wp Try.prog o a W K Q else E :=
  step_g [y] 1 s r hgd ho B v l g hs hx rfl hn (HO.out.below hb) hg (Nat.le_trans hB hb.size) fun v' w' h1 h2 => h v' w' h1 h2.grown
/-- Where the reference's Lay stands in its loops. -/
structure RInv (y9 wx : World) (X : Nat) (V0 V1 V2 V3 : Value) (z : Nat) (ts : List Ty) (dl : List Int) : Prop where
  grown : y9.grownBy wx (some X)
  box : HBx wx X V0 V1 V2 V3 (.int .i64 z)
  t : wx.ownsRow y9.heap.size 69 3 V0 ts.length (tysOf ts)
  d : Own8 wx y9.heap.size V3 dl
theorem growX {y9 wx W w' : World} {X : Nat} {V : Value} (h : y9.grownBy wx (some X)) (hb : Below wx.heap.size wx W) (hg : W.grownBy w' V.ownBlock) (hge : ∀ k, V.ownBlock = some k → y9.heap.size ≤ k) : y9.grownBy w' (some X) :=
  ⟨hg.os.trans (hb.os.trans h.os), hg.tape.trans (hb.tape.trans h.tape), hg.output.trans (hb.output.trans h.output), Nat.le_trans h.size (Nat.le_trans hb.size hg.size), fun i hi hne => by
    have h1 := h.size
    have h2 := hb.size
    rw [hg.block i (by omega) (fun e => by have := hge i e.symm; omega), hb.block i (by omega), h.block i hi hne]⟩
theorem HBx.set0 {w : World} {X : Nat} {u0 u1 u2 u3 u4 : Value} (h : HBx w X u0 u1 u2 u3 u4) (v : Value) : HBx (w.setCell ⟨X, 0, none⟩ v) X v u1 u2 u3 u4 := heap_setCell_same w X 0 _ 28 v h
theorem ne_of_or {V : Value} {X : Nat} (h : V.ownBlock = none ∨ V.ownBlock ≠ some X) : some X ≠ V.ownBlock := by
  rcases h with h | h
  · rw [h]; simp
  · exact fun e => h e.symm
theorem RInv.ty {y9 wx W w' : World} {X z : Nat} {V0 V1 V2 V3 v' : Value} {ts : List Ty} {t : Ty} {dl : List Int} (h : RInv y9 wx X V0 V1 V2 V3 z ts dl) (hb : Below wx.heap.size wx W) (hg : W.grownBy w' V0.ownBlock) (ho : w'.ownsRow y9.heap.size 69 3 v' (ts.length + 1) (tysOf (ts ++ [t]))) :
    HBx w' X V0 V1 V2 V3 (.int .i64 z) ∧ RInv y9 (w'.setCell ⟨X, 0, none⟩ v') X v' V1 V2 V3 z (ts ++ [t]) dl := by
  have hx := h.box.below hb
  have ht := own_below h.t hb
  have hd := own_below h.d hb
  have hx2 : HBx w' X V0 V1 V2 V3 (.int .i64 z) := (hg.block X hx.lt (ne_of_or (own_box_ne ht (by decide) hx))).trans hx
  have hs := grown_setCell w' X 0 v'
  have hd2 := own_other hd hg (own_type_ne hd ht (by decide))
  exact ⟨hx2, grown_trans (growX h.grown hb hg (own_ge h.t)) hs, hx2.set0 v', by rw [List.length_append]; exact own_other ho hs (own_box_ne ho (by decide) hx2), own_other hd2 hs (own_box_ne hd2 (by decide) hx2)⟩
theorem RInv.dt {y9 wx W w' : World} {X z : Nat} {V0 V1 V2 V3 v' : Value} {ts : List Ty} {dl dl' : List Int} (h : RInv y9 wx X V0 V1 V2 V3 z ts dl) (hb : Below wx.heap.size wx W) (hg : W.grownBy w' V3.ownBlock) (ho : Own8 w' y9.heap.size v' dl') :
    HBx w' X V0 V1 V2 V3 (.int .i64 z) ∧ RInv y9 (w'.setCell ⟨X, 3, none⟩ v') X V0 V1 V2 v' z ts dl' := by
  have hx := h.box.below hb
  have ht := own_below h.t hb
  have hd := own_below h.d hb
  have hx2 : HBx w' X V0 V1 V2 V3 (.int .i64 z) := (hg.block X hx.lt (ne_of_or (own_box_ne hd (by decide) hx))).trans hx
  have hs := grown_setCell w' X 3 v'
  have ht2 := own_other ht hg (own_type_ne ht hd (by decide))
  exact ⟨hx2, grown_trans (growX h.grown hb hg (own_ge h.d)) hs, hx2.set3 v', own_other ht2 hs (own_box_ne ht2 (by decide) hx2), own_other ho hs (own_box_ne ho (by decide) hx2)⟩
theorem RInv.drew {y9 wx : World} {X z : Nat} {V0 V1 V2 V3 : Value} {ts : List Ty} {dl : List Int} (h : RInv y9 wx X V0 V1 V2 V3 z ts dl) : RInv y9 wx.drew X V0 V1 V2 V3 z ts dl :=
  ⟨grown_trans h.grown (grown_of_below (Below.refl _ _).drew _), h.box.below (Below.refl _ _).drew, own_below h.t (Below.refl _ _).drew, own_below h.d (Below.refl _ _).drew⟩
/-- What lies in an older block than X, or in another than X, stays. -/
theorem RInv.cell {y9 wx : World} {X z T j : Nat} {V0 V1 V2 V3 v : Value} {ts : List Ty} {dl : List Int} (h : RInv y9 wx X V0 V1 V2 V3 z ts dl) (hT : T ≠ X) (hc : y9.cell? ⟨T, j, none⟩ = some v) : wx.cell? ⟨T, j, none⟩ = some v := h.grown.cell hc (by simpa using hT)
theorem RInv.below {w y9 wx : World} {X z : Nat} {V0 V1 V2 V3 : Value} {ts : List Ty} {dl : List Int} (h : RInv y9 wx X V0 V1 V2 V3 z ts dl) (hb : Below w.heap.size w y9) (hX : w.heap.size ≤ X) : Below w.heap.size w wx := hb.grown h.grown hb.size (by rintro k ⟨⟩; exact hX)
set_option maxRecDepth 100000 in
theorem rlay_ret {Q : Ending → World → Prop} {w : World} {C : Nat} {t : Array Value} {v0 v1 v2 v3 v4 er : Value} (h4 : t[4]?.getD undef = .pointer (some ⟨C, 0, none⟩)) (h5 : t[5]?.getD undef = er)
    (hc : KX w C v0 v1 v2 v3 v4) (hQ : Q (.returned (.tuple #[.agg #[v0, v1, v2, v3, v4], er])) w) : bodyPost Try.prog Try.f33 Q Exit.ret ⟨t, []⟩ w := by
  obtain ⟨r0, r1, r2, r3, r4, _⟩ := hc
  exact bodyPost_ret (v := .tuple #[.agg #[v0, v1, v2, v3, v4], er]) (by simp [results, Try.results33, go_sem, h4, h5, r0, r1, r2, r3, r4]) rfl hQ
theorem rlay_bad {c : Cont} {bh : List Int} {w w1 : World} {C : Nat} {t : Array Value} {er : Int} {u0 u1 u2 u3 u4 : Value} (h4 : t[4]?.getD undef = .pointer (some ⟨C, 0, none⟩)) (h5 : t[5]?.getD undef = .int .i64 er)
    (hc : KX w1 C u0 u1 u2 u3 u4) (hb : Below w.heap.size w w1) (hC : w.heap.size ≤ C) (h : lay c bh = (er, ⟨[], [], [], [], 0⟩)) : bodyPost Try.prog Try.f33 (LayPost c bh w) Exit.ret ⟨t, []⟩ (setX w1 C (.slice none 0 0) (.slice none 0 0) (.slice none 0 0) (.slice none 0 0) (.int .i64 0)) :=
  rlay_ret h4 h5 (hc.set _ _ _ _ _) (layP_no h (hb.grown (grown_setX w1 C _ _ _ _ _) hb.size (by rintro k ⟨⟩; exact hC)))
theorem rlay_good {c : Cont} {bh : List Int} {w w1 y9 y : World} {C X n0 n1 n2 n3 z : Nat} {t : Array Value} {At Ac As Ad : Option Addr} {dt dc ds dd : Nat} {u0 u1 u2 u3 u4 u5 u6 u7 u8 u9 : Value} (h4 : t[4]?.getD undef = .pointer (some ⟨C, 0, none⟩)) (h5 : t[5]?.getD undef = .int .i64 0)
    (hc : KX y C u0 u1 u2 u3 u4) (hl : RInv y9 y X (.slice At n0 dt) (.slice Ac n1 dc) (.slice As n2 ds) (.slice Ad n3 dd) z c.types (c.data ++ bh)) (h9 : HBx y9 X u5 u6 u7 u8 u9) (hcd : PartsO y9 w1.heap.size (.slice Ac n1 dc) c.codes) (hsb : PartsO y9 w1.heap.size (.slice As n2 ds) c.subs)
    (hz : (c.data.length : Int) + bh.length = (z : Int)) (hC1 : C < w1.heap.size) (hw : Below w.heap.size w w1) (hw9 : Below w1.heap.size w1 y9) (hX : w1.heap.size ≤ X) (hC : w.heap.size ≤ C)
    (h : lay c bh = (0, ⟨c.types, c.codes, c.subs, c.data ++ bh, (c.data.length : Int) + bh.length⟩)) : bodyPost Try.prog Try.f33 (LayPost c bh w) Exit.ret ⟨t, []⟩ (setX y C (.slice At n0 dt) (.slice Ac n1 dc) (.slice As n2 ds) (.slice Ad n3 dd) (.int .i64 (z : Int))) := by
  have hg := grown_setX y C (.slice At n0 dt) (.slice Ac n1 dc) (.slice As n2 ds) (.slice Ad n3 dd) (.int .i64 (z : Int))
  have hs := hw.size
  have hs9 := hw9.size
  have hbw : Below w.heap.size w y := hl.below (below_step hw hw9) (by omega)
  refine rlay_ret h4 h5 (hc.set _ _ _ _ _) ⟨hbw.grown hg hbw.size (by rintro k ⟨⟩; exact hC), At, n0, dt, Ac, n1, dc, As, n2, ds, Ad, n3, dd, by rw [h, hz], ?_⟩
  rw [h]
  simp only
  rw [hz]
  exact ⟨_, _, _, _, rfl, own_base (own_other hl.t hg (.inr fun e => by have := own_ge hl.t _ e; omega)) (by omega), ((hcd.box h9 hl.grown).other hg hC1).base hs, ((hsb.box h9 hl.grown).other hg hC1).base hs, own_base (own_other hl.d hg (.inr fun e => by have := own_ge hl.d _ e; omega)) (by omega)⟩
end Go.Proofs.Ytkbboepopcebaaa
