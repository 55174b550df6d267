/- The reference's Lay: its state, its steps. -/
import Derived.Test.YtkbboepopcebaaaCM
import Derived.Test.YtkbboepopcebaaaBT
import Derived.Test.YtkbboepopcebaaaL
import Derived.BigRegion
import Derived.Deep.RegionLaw
namespace Go.Proofs.Ytkbboepopcebaaa
open Go.RowKit

/-- append(data, y) at a step of a region that draws. -/
theorem step_dat {ops : Array Oper} {o : Oper} {a : Act} {Q : Exit → Act → World → Prop} {K : Act → World → Prop} {E : Prop} {W0 W : World} (y : Int) (s r : Operand) (hgd : o.guard = none) (ho : o.op = .call { callee := .builtin .append, args := #[s, r], argTypes := #[22, 22] })
    {B : Nat} {v : Value} {l : List Int} (g : Nat) (HO : Hid (Own8 W0 B v l)) (hs : a.eval s = v) (hx : a.eval r = .slice (some ⟨g, 0, none⟩) 1 1) (hn : Hid (l.length + 1 ≤ reach)) (hB : B ≤ W0.heap.size) (hb : Below W0.heap.size W0 W) (hg : W.heap[g]? = some (.cells #[.int .u8 y] 5 (0, 0)))
    (h : ∀ v' w', Own8 w' B v' (l ++ [y]) → W.grownBy w' v.ownBlock → K (a.put o.dst v') w') :
    if Region.wanted o (yielded ops a.tmps) = true then Oper.wp Try.prog o a W K Q else E :=
  step_g [y] 1 s r hgd ho B v l g hs hx rfl hn (HO.out.below hb) hg (Nat.le_trans hB hb.size) fun v' w' h1 h2 => h v' w' h1 h2.grown
/-- Where the reference's Lay stands in its loops. -/
structure RInv (y9 wx : World) (X : Nat) (V0 V1 V2 V3 : Value) (z : Nat) (ts : List Ty) (dl : List Int) : Prop where
  grown : y9.grownBy wx (some X)
  box : HBx wx X V0 V1 V2 V3 (.int .i64 z)
  t : wx.ownsRow y9.heap.size 69 3 V0 ts.length (tysOf ts)
  d : Own8 wx y9.heap.size V3 dl
theorem growX {y9 wx W w' : World} {X : Nat} {V : Value} (h : y9.grownBy wx (some X)) (hb : Below wx.heap.size wx W) (hg : W.grownBy w' V.ownBlock) (hge : ∀ k, V.ownBlock = some k → y9.heap.size ≤ k) : y9.grownBy w' (some X) :=
  ⟨hg.os.trans (hb.os.trans h.os), hg.tape.trans (hb.tape.trans h.tape), hg.output.trans (hb.output.trans h.output), Nat.le_trans h.size (Nat.le_trans hb.size hg.size), fun i hi hne => by
    have h1 := h.size
    have h2 := hb.size
    rw [hg.block i (by omega) (fun e => by have := hge i e.symm; omega), hb.block i (by omega), h.block i hi hne]⟩
theorem HBx.set0 {w : World} {X : Nat} {u0 u1 u2 u3 u4 : Value} (h : HBx w X u0 u1 u2 u3 u4) (v : Value) : HBx (w.setCell ⟨X, 0, none⟩ v) X v u1 u2 u3 u4 := heap_setCell_same w X 0 _ 28 v h
theorem ne_of_or {V : Value} {X : Nat} (h : V.ownBlock = none ∨ V.ownBlock ≠ some X) : some X ≠ V.ownBlock := by
  rcases h with h | h
  · rw [h]; simp
  · exact fun e => h e.symm
theorem RInv.ty {y9 wx W w' : World} {X z : Nat} {V0 V1 V2 V3 v' : Value} {ts : List Ty} {t : Ty} {dl : List Int} (h : RInv y9 wx X V0 V1 V2 V3 z ts dl) (hb : Below wx.heap.size wx W) (hg : W.grownBy w' V0.ownBlock) (ho : w'.ownsRow y9.heap.size 69 3 v' (ts.length + 1) (tysOf (ts ++ [t]))) :
    HBx w' X V0 V1 V2 V3 (.int .i64 z) ∧ RInv y9 (w'.setCell ⟨X, 0, none⟩ v') X v' V1 V2 V3 z (ts ++ [t]) dl := by
  have hx := h.box.below hb
  have ht := own_below h.t hb
  have hd := own_below h.d hb
  have hx2 : HBx w' X V0 V1 V2 V3 (.int .i64 z) := (hg.block X hx.lt (ne_of_or (own_box_ne ht (by decide) hx))).trans hx
  have hs := grown_setCell w' X 0 v'
  have hd2 := own_other hd hg (own_type_ne hd ht (by decide))
  exact ⟨hx2, grown_trans (growX h.grown hb hg (own_ge h.t)) hs, hx2.set0 v', by rw [List.length_append]; exact own_other ho hs (own_box_ne ho (by decide) hx2), own_other hd2 hs (own_box_ne hd2 (by decide) hx2)⟩
theorem RInv.dt {y9 wx W w' : World} {X z : Nat} {V0 V1 V2 V3 v' : Value} {ts : List Ty} {dl dl' : List Int} (h : RInv y9 wx X V0 V1 V2 V3 z ts dl) (hb : Below wx.heap.size wx W) (hg : W.grownBy w' V3.ownBlock) (ho : Own8 w' y9.heap.size v' dl') :
    HBx w' X V0 V1 V2 V3 (.int .i64 z) ∧ RInv y9 (w'.setCell ⟨X, 3, none⟩ v') X V0 V1 V2 v' z ts dl' := by
  have hx := h.box.below hb
  have ht := own_below h.t hb
  have hd := own_below h.d hb
  have hx2 : HBx w' X V0 V1 V2 V3 (.int .i64 z) := (hg.block X hx.lt (ne_of_or (own_box_ne hd (by decide) hx))).trans hx
  have hs := grown_setCell w' X 3 v'
  have ht2 := own_other ht hg (own_type_ne ht hd (by decide))
  exact ⟨hx2, grown_trans (growX h.grown hb hg (own_ge h.d)) hs, hx2.set3 v', own_other ht2 hs (own_box_ne ht2 (by decide) hx2), own_other ho hs (own_box_ne ho (by decide) hx2)⟩
theorem RInv.drew {y9 wx : World} {X z : Nat} {V0 V1 V2 V3 : Value} {ts : List Ty} {dl : List Int} (h : RInv y9 wx X V0 V1 V2 V3 z ts dl) : RInv y9 wx.drew X V0 V1 V2 V3 z ts dl :=
  ⟨grown_trans h.grown (grown_of_below (Below.refl _ _).drew _), h.box.below (Below.refl _ _).drew, own_below h.t (Below.refl _ _).drew, own_below h.d (Below.refl _ _).drew⟩
/-- What lies in an older block than X, or in another than X, stays. -/
theorem RInv.cell {y9 wx : World} {X z T j : Nat} {V0 V1 V2 V3 v : Value} {ts : List Ty} {dl : List Int} (h : RInv y9 wx X V0 V1 V2 V3 z ts dl) (hT : T ≠ X) (hc : y9.cell? ⟨T, j, none⟩ = some v) : wx.cell? ⟨T, j, none⟩ = some v := h.grown.cell hc (by simpa using hT)
theorem RInv.below {w y9 wx : World} {X z : Nat} {V0 V1 V2 V3 : Value} {ts : List Ty} {dl : List Int} (h : RInv y9 wx X V0 V1 V2 V3 z ts dl) (hb : Below w.heap.size w y9) (hX : w.heap.size ≤ X) : Below w.heap.size w wx := hb.grown h.grown hb.size (by rintro k ⟨⟩; exact hX)
set_option maxRecDepth 100000 in
theorem rlay_ret {Q : Ending → World → Prop} {w : World} {C : Nat} {t : Array Value} {v0 v1 v2 v3 v4 er : Value} (h4 : t[4]?.getD undef = .pointer (some ⟨C, 0, none⟩)) (h5 : t[5]?.getD undef = er)
    (hc : KX w C v0 v1 v2 v3 v4) (hQ : Q (.returned (.tuple #[.agg #[v0, v1, v2, v3, v4], er])) w) : bodyPost Try.prog Try.f33 Q Exit.ret ⟨t, []⟩ w := by
  obtain ⟨r0, r1, r2, r3, r4, _⟩ := hc
  exact bodyPost_ret (v := .tuple #[.agg #[v0, v1, v2, v3, v4], er]) (by simp [results, Try.results33, go_sem, h4, h5, r0, r1, r2, r3, r4]) rfl hQ
theorem rlay_bad {c : Cont} {bh : List Int} {w w1 : World} {C : Nat} {t : Array Value} {er : Int} {u0 u1 u2 u3 u4 : Value} (h4 : t[4]?.getD undef = .pointer (some ⟨C, 0, none⟩)) (h5 : t[5]?.getD undef = .int .i64 er)
    (hc : KX w1 C u0 u1 u2 u3 u4) (hb : Below w.heap.size w w1) (hC : w.heap.size ≤ C) (h : lay c bh = (er, ⟨[], [], [], [], 0⟩)) : bodyPost Try.prog Try.f33 (LayPost c bh w) Exit.ret ⟨t, []⟩ (setX w1 C (.slice none 0 0) (.slice none 0 0) (.slice none 0 0) (.slice none 0 0) (.int .i64 0)) :=
  rlay_ret h4 h5 (hc.set _ _ _ _ _) (layP_no h (hb.grown (grown_setX w1 C _ _ _ _ _) hb.size (by rintro k ⟨⟩; exact hC)))
theorem rlay_good {c : Cont} {bh : List Int} {w w1 y9 y : World} {C X n0 n1 n2 n3 z : Nat} {t : Array Value} {At Ac As Ad : Option Addr} {dt dc ds dd : Nat} {u0 u1 u2 u3 u4 u5 u6 u7 u8 u9 : Value} (h4 : t[4]?.getD undef = .pointer (some ⟨C, 0, none⟩)) (h5 : t[5]?.getD undef = .int .i64 0)
    (hc : KX y C u0 u1 u2 u3 u4) (hl : RInv y9 y X (.slice At n0 dt) (.slice Ac n1 dc) (.slice As n2 ds) (.slice Ad n3 dd) z c.types (c.data ++ bh)) (h9 : HBx y9 X u5 u6 u7 u8 u9) (hcd : PartsO y9 w1.heap.size (.slice Ac n1 dc) c.codes) (hsb : PartsO y9 w1.heap.size (.slice As n2 ds) c.subs)
    (hz : (c.data.length : Int) + bh.length = (z : Int)) (hC1 : C < w1.heap.size) (hw : Below w.heap.size w w1) (hw9 : Below w1.heap.size w1 y9) (hX : w1.heap.size ≤ X) (hC : w.heap.size ≤ C)
    (h : lay c bh = (0, ⟨c.types, c.codes, c.subs, c.data ++ bh, (c.data.length : Int) + bh.length⟩)) : bodyPost Try.prog Try.f33 (LayPost c bh w) Exit.ret ⟨t, []⟩ (setX y C (.slice At n0 dt) (.slice Ac n1 dc) (.slice As n2 ds) (.slice Ad n3 dd) (.int .i64 (z : Int))) := by
  have hg := grown_setX y C (.slice At n0 dt) (.slice Ac n1 dc) (.slice As n2 ds) (.slice Ad n3 dd) (.int .i64 (z : Int))
  have hs := hw.size
  have hs9 := hw9.size
  have hbw : Below w.heap.size w y := hl.below (below_step hw hw9) (by omega)
  refine rlay_ret h4 h5 (hc.set _ _ _ _ _) ⟨hbw.grown hg hbw.size (by rintro k ⟨⟩; exact hC), At, n0, dt, Ac, n1, dc, As, n2, ds, Ad, n3, dd, by rw [h, hz], ?_⟩
  rw [h]
  simp only
  rw [hz]
  exact ⟨_, _, _, _, rfl, own_base (own_other hl.t hg (.inr fun e => by have := own_ge hl.t _ e; omega)) (by omega), ((hcd.box h9 hl.grown).other hg hC1).base hs, ((hsb.box h9 hl.grown).other hg hC1).base hs, own_base (own_other hl.d hg (.inr fun e => by have := own_ge hl.d _ e; omega)) (by omega)⟩
end Go.Proofs.Ytkbboepopcebaaa
