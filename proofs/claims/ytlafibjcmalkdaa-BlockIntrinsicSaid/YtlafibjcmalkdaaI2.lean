/- The same transaction in lists of its own. -/
import Derived.Test.YtlafibjcmalkdaaG
import Derived.Deep.RegionHeld3
import Derived.Deep.RegionLaw
import Derived.Deep.Cut
import Derived.Deep.CutRange
import Derived.Deep.DeepCutAuto
namespace Go.Proofs.Ytlafibjcmalkdaa
open Go.RowKit

def a171 : List Value := nums .u8 (171 :: List.replicate 19 0) ++ [.slice none 0 0]
/-- The lists of a transaction that is handed in: rows of their own, marks behind them. -/
structure TxM (w : World) (B : Nat) (t : Tx) (vi va vb vn : Value) (kvs : List Value) : Prop where
  inp : MarkV w B 5 1 vi t.inp.length (nums .u8 t.inp) 3 marks3
  ini : MarkV w B 5 1 vn t.ini.length (nums .u8 t.ini) 3 marks3
  blobs : MarkV w B 48 32 vb t.nb (nums .u8 t.bc) 1 h171.toList
  acc : MarkV w B 39 21 va t.acc.length (accCells t.acc kvs) 1 a171
  klen : kvs.length = t.acc.length
  ads : ∀ e ∈ t.acc, e.ad.length = 20
  keys : ∀ i, i < t.acc.length → MarkV w B 26 4 (kvs.getD i undef) (t.acc.getD i default).kn (nums .u64 (t.acc.getD i default).kc) 1 w171.toList
/-- A transaction's cells, its lists laid anew. -/
def anew (C : Array Value) (vi va vb vn : Value) : Array Value := (((C.setIfInBounds 50 vi).setIfInBounds 54 vn).setIfInBounds 52 vb).setIfInBounds 51 va
def TxPost (C : Array Value) (t : Tx) (w : World) (e : Ending) (w' : World) : Prop := ∃ vi va vb vn kvs, e = .returned (.agg (anew C vi va vb vn)) ∧ TxM w' w.heap.size t vi va vb vn kvs ∧ Below w.heap.size w w'

/-- A box: its cells, all of them. -/
structure TB (w : World) (X : Nat) (C : Array Value) : Prop where
  blk : w.heap[X]? = some (.cells C 31 (0, 0))
  size : C.size = 59
theorem TB.lt {w : World} {X : Nat} {C : Array Value} (h : TB w X C) : X < w.heap.size := (Array.getElem?_eq_some_iff.1 h.blk).1
theorem TB.below {w w1 : World} {X : Nat} {C : Array Value} (h : TB w X C) (hb : Below w.heap.size w w1) : TB w1 X C := ⟨(hb.block X h.lt).trans h.blk, h.size⟩
theorem TB.cell {w : World} {X : Nat} {C : Array Value} (h : TB w X C) {j : Nat} {v : Value} (hj : C[j]? = some v) : w.cell? ⟨X, j, none⟩ = some v := by
  rw [cell_of_row w X j C 31 (0, 0) h.blk]; exact hj
theorem TB.frozen {w : World} {X : Nat} {C : Array Value} (h : TB w X C) (j : Nat) : w.frozen? ⟨X, j, none⟩ = false := frozen_of_row w X j C 31 h.blk
theorem TB.set {w : World} {X : Nat} {C : Array Value} (h : TB w X C) (j : Nat) (v : Value) : TB (w.setCell ⟨X, j, none⟩ v) X (C.setIfInBounds j v) := ⟨heap_setCell_same w X j C 31 v h.blk, by simp [h.size]⟩

theorem mark_base {w : World} {B b e s : Nat} {v : Value} {n : Nat} {cs : List Value} {m : Nat} {mk : List Value} (h : MarkV w B e s v n cs m mk) (hb : b ≤ B) : MarkV w b e s v n cs m mk := by
  obtain ⟨g, c, e, h1⟩ := h; exact ⟨g, c, e, own_base h1 hb⟩
theorem drew_size (w : World) : w.drew.heap.size = w.heap.size := rfl
theorem grown_setCell (w : World) (R o : Nat) (v : Value) : w.grownBy (w.setCell ⟨R, o, none⟩ v) (some R) := by
  refine ⟨rfl, rfl, rfl, ?_, fun k hk hne => ?_⟩
  · simp [World.setCell]
  · exact Below.heap_setCell w _ _ k (fun e => hne (by rw [e]))
theorem grown_trans {w w1 w2 : World} {r : Option Nat} (h : w.grownBy w1 r) (k : w1.grownBy w2 r) : w.grownBy w2 r :=
  ⟨k.os.trans h.os, k.tape.trans h.tape, k.output.trans h.output, Nat.le_trans h.size k.size, fun i hi hr => (k.block i (Nat.lt_of_lt_of_le hi h.size) hr).trans (h.block i hi hr)⟩
theorem TB.other {w : World} {X Y : Nat} {C : Array Value} (h : TB w Y C) (hne : Y ≠ X) (j : Nat) (v : Value) : TB (w.setCell ⟨X, j, none⟩ v) Y C := ⟨(Below.heap_setCell w _ _ Y (by simpa using hne)).trans h.blk, h.size⟩
/-- Behind the first three lists. -/
structure T3 (w : World) (W : World) (B X Y : Nat) (C Z : Array Value) (t : Tx) (vi vb vn : Value) : Prop where
  box : TB W X ((( C.setIfInBounds 50 vi).setIfInBounds 54 vn).setIfInBounds 52 vb)
  res : TB W Y Z
  inp : MarkV W B 5 1 vi t.inp.length (nums .u8 t.inp) 3 marks3
  ini : MarkV W B 5 1 vn t.ini.length (nums .u8 t.ini) 3 marks3
  blobs : MarkV W B 48 32 vb t.nb (nums .u8 t.bc) 1 h171.toList
  below : Below w.heap.size w W
  size : B ≤ W.heap.size

theorem t3_mk {w W1 wc : World} {X Y : Nat} {C Z : Array Value} {t : Tx} {vi vb vn : Value} (hx : TB W1 X C) (hy : TB W1 Y Z) (hXY : Y ≠ X) (hlt : w.heap.size ≤ X) (hw : Below w.heap.size w W1) (hb : Below W1.heap.size W1 wc)
    (h1 : MarkV wc W1.heap.size 5 1 vi t.inp.length (nums .u8 t.inp) 3 marks3) (h2 : MarkV wc W1.heap.size 5 1 vn t.ini.length (nums .u8 t.ini) 3 marks3) (h3 : MarkV wc W1.heap.size 48 32 vb t.nb (nums .u8 t.bc) 1 h171.toList) :
    T3 w (((wc.setCell ⟨X, 50, none⟩ vi).setCell ⟨X, 54, none⟩ vn).setCell ⟨X, 52, none⟩ vb) W1.heap.size X Y C Z t vi vb vn := by
  have hX := hx.lt
  have hbx := hx.below hb
  have g1 := grown_setCell wc X 50 vi
  have g2 := grown_setCell (wc.setCell ⟨X, 50, none⟩ vi) X 54 vn
  have g3 := grown_setCell ((wc.setCell ⟨X, 50, none⟩ vi).setCell ⟨X, 54, none⟩ vn) X 52 vb
  have g := grown_trans g1 (grown_trans g2 g3)
  have keep : ∀ {e s n : Nat} {v : Value} {cs : List Value} {m : Nat} {mk : List Value}, MarkV wc W1.heap.size e s v n cs m mk → MarkV (((wc.setCell ⟨X, 50, none⟩ vi).setCell ⟨X, 54, none⟩ vn).setCell ⟨X, 52, none⟩ vb) W1.heap.size e s v n cs m mk := by
    rintro e s n v cs m mk ⟨g0, c, rfl, ho⟩
    refine ⟨g0, c, rfl, own_other ho g (.inr fun e => ?_)⟩
    have := own_ge ho _ e
    omega
  refine ⟨((hbx.set 50 vi).set 54 vn).set 52 vb, (((hy.below hb).other hXY 50 vi).other hXY 54 vn).other hXY 52 vb, keep h1, keep h2, keep h3, ?_, ?_⟩
  · exact (hw.trans (hb.mono hw.size)).grown g (Nat.le_trans hw.size hb.size) (by rintro k ⟨⟩; exact hlt)
  · exact Nat.le_trans hb.size g.size
theorem T3.drew {w W : World} {B X Y : Nat} {C Z : Array Value} {t : Tx} {vi vb vn : Value} (h : T3 w W B X Y C Z t vi vb vn) : T3 w W.drew B X Y C Z t vi vb vn := by
  have hb : Below W.heap.size W W.drew := (Below.refl _ _).drew
  exact ⟨h.box.below hb, h.res.below hb, h.inp.below hb, h.ini.below hb, h.blobs.below hb, h.below.drew, h.size⟩
theorem list20 : ∀ l : List Int, l.length = 20 → ∃ a0 a1 a2 a3 a4 a5 a6 a7 a8 a9 a10 a11 a12 a13 a14 a15 a16 a17 a18 a19, l = [a0, a1, a2, a3, a4, a5, a6, a7, a8, a9, a10, a11, a12, a13, a14, a15, a16, a17, a18, a19]
  | [a0, a1, a2, a3, a4, a5, a6, a7, a8, a9, a10, a11, a12, a13, a14, a15, a16, a17, a18, a19], _ => ⟨_, _, _, _, _, _, _, _, _, _, _, _, _, _, _, _, _, _, _, _, rfl⟩
section
variable {ops : Array Oper} {o : Oper} {a : Act} {K : Act → World → Prop} {Q : Exit → Act → World → Prop} {E : Prop}
/-- append(v, news...) at a step of a region that draws: the news at the head of a block. -/
theorem step_cells {S e sz by_ : Nat} {z : Value} (T : SlT S e sz by_ z) {W0 W : World} (s x : Operand) (hgd : o.guard = none) (ho : o.op = .call { callee := .builtin .append, args := #[s, x], argTypes := #[S, S] })
    {B n : Nat} {v : Value} {xs : List Value} (HO : Hid (W0.ownsRow B e sz v n xs)) (hs : a.eval s = v) {g : Nat} (m : Nat) (news : List Value) (hx : a.eval x = .slice (some ⟨g, 0, none⟩) m m) (hm : news.length = m * sz) (h1 : Hid (∀ u ∈ news, u.oneCell' = true))
    (hg : ∀ j u, news[j]? = some u → W.cell? ((⟨g, 0, none⟩ : Addr).add j) = some u) (hl : n + m ≤ 1000000) (hB : B ≤ W0.heap.size) (hb : Below W0.heap.size W0 W)
    (h : ∀ v' w', w'.ownsRow B e sz v' (n + m) (xs ++ news) → Below B W w' → W.grownBy w' v.ownBlock → K (a.put o.dst v') w') :
    if Region.wanted o (yielded ops a.tmps) = true then Oper.wp Try.prog o a W K Q else E := by
  have hw : Region.wanted o (yielded ops a.tmps) = true := by simp [Region.wanted, hgd]
  rw [if_pos hw]
  obtain ⟨i0, hi, hz0, hz1, hz2⟩ := info_parts T.i
  have hb9 := T.bt
  have hmul : (n + m) * by_ ≤ 1000000 * 1000 := Nat.mul_le_mul hl hb9
  have hown := own_below HO.out hb
  obtain ⟨v', w', hr, h2, h3, _, _⟩ := run_append_own_at (P := Try.prog) (w := W) B S o.type e i0 z sz by_ T.u hi hz0 hz1 hz2 T.zs T.sz v n xs hown ⟨g, 0, none⟩ m m news hm hg h1.out (by unfold maxLen; omega) (by omega) (Nat.le_trans hB hb.size)
  unfold Oper.wp
  simp [execOp, ho, resolve, invoke, builtin, hs, hx, hr, Result.andThen]
  exact h v' w' h2 ((Below.refl _ _).grown h3 (Nat.le_trans hB hb.size) (own_ge hown)) h3
end
theorem mark_far {w w1 : World} {B e s : Nat} {v : Value} {n : Nat} {cs : List Value} {m : Nat} {mk : List Value} (h : MarkV w B e s v n cs m mk) {Y : Nat} (hY : Y < B) (hg : w.grownBy w1 (some Y)) : MarkV w1 B e s v n cs m mk := by
  obtain ⟨g, c, rfl, ho⟩ := h
  exact ⟨g, c, rfl, own_other ho hg (.inr fun e => by have := own_ge ho _ e; omega)⟩
theorem TxM.far {w w1 : World} {B : Nat} {t : Tx} {vi va vb vn : Value} {kvs : List Value} (h : TxM w B t vi va vb vn kvs) {Y : Nat} (hY : Y < B) (hg : w.grownBy w1 (some Y)) : TxM w1 B t vi va vb vn kvs :=
  ⟨mark_far h.inp hY hg, mark_far h.ini hY hg, mark_far h.blobs hY hg, mark_far h.acc hY hg, h.klen, h.ads, fun i hi => mark_far (h.keys i hi) hY hg⟩
theorem TxM.base {w : World} {B b : Nat} {t : Tx} {vi va vb vn : Value} {kvs : List Value} (h : TxM w B t vi va vb vn kvs) (hb : b ≤ B) : TxM w b t vi va vb vn kvs :=
  ⟨mark_base h.inp hb, mark_base h.ini hb, mark_base h.blobs hb, mark_base h.acc hb, h.klen, h.ads, fun i hi => mark_base (h.keys i hi) hb⟩
theorem TxM.below {w w1 : World} {B : Nat} {t : Tx} {vi va vb vn : Value} {kvs : List Value} (h : TxM w B t vi va vb vn kvs) (hb : Below w.heap.size w w1) : TxM w1 B t vi va vb vn kvs :=
  ⟨h.inp.below hb, h.ini.below hb, h.blobs.below hb, h.acc.below hb, h.klen, h.ads, fun i hi => (h.keys i hi).below hb⟩
theorem grown_setRow (w : World) (Y : Nat) (cs : Array Value) : w.grownBy (w.setRow Y cs) (some Y) :=
  ⟨rfl, rfl, rfl, by simp, fun k _ hne => setRow_other w Y k cs (fun e => hne (by rw [e]))⟩
section
variable {ops : Array Oper} {rest : List Oper} {op : Oper} {a : Act} {W : World} {Q : Exit → Act → World → Prop}
/-- A whole struct into a box. -/
theorem wpList_store_row_g (hw : Region.wanted op (yielded ops a.tmps) = true) (ty : TypeId) (x y : Operand) (ho : op.op = .store ty x y) (Y : Nat) (z xs : Array Value)
    (hx : a.eval x = .pointer (some ⟨Y, 0, none⟩)) (hy : a.eval y = .agg xs) (hb : Hid (W.heap[Y]? = some (.cells z ty (0, 0)))) (hi : Hid ((Try.prog.info? ty).map (·.size) = some xs.size)) (hz : Hid (z.size = xs.size)) (h1 : Hid (xs.all (·.oneCell') = true))
    (h : wpList Try.prog ops Q rest (a.put op.dst undef) (W.setRow Y xs)) : wpList Try.prog ops Q (op :: rest) a W := by
  unfold wpList
  rw [if_pos hw]
  refine .inl ?_
  unfold Oper.wp execOp
  simp only [ho, hx, hy, Instr.storeAt, Instr.sureAddr, Sem.run_bind, Sem.run_pure, run_storeVar_row (P := Try.prog) W Y ty ty z xs hb.out hi.out hz.out h1.out, Result.andThen_ok]
  exact h
end
theorem tx_ret {Q : Ending → World → Prop} {w : World} {Y : Nat} {C7 : Array Value} {tm : Array Value} (h2 : tm.getD 2 undef = .pointer (some ⟨Y, 0, none⟩)) (hb : w.heap[Y]? = some (.cells C7 31 (0, 0))) (hz : C7.size = 59)
    (hQ : Q (.returned (.agg C7)) w) : bodyPost Try.prog Try.f5 Q Exit.ret ⟨tm, []⟩ w := by
  have hl : (loadVar 31 ⟨Y, 0, none⟩).run Try.prog w = .ok (.agg C7) w := run_loadVar_row (P := Try.prog) w Y 31 31 C7 (0, 0) _ hb Try.underlying31 rfl (by rw [hz]; kernel_rfl)
  refine bodyPost_ret (v := .agg C7) ?_ rfl hQ
  unfold results
  rw [Try.results5]
  simp only [List.mapM_toArray, List.mapM_cons, List.mapM_nil, Sem.run_bind, Sem.run_pure, h2, asAddr, hl, Result.andThen_ok, bind_assoc, pure_bind, Array.mapM_eq_mapM_toList]
  simp [hl]
theorem ones_set {C : Array Value} (h : C.all (·.oneCell') = true) (j : Nat) {v : Value} (hv : v.oneCell' = true) : (C.setIfInBounds j v).all (·.oneCell') = true := by
  rw [Array.all_eq_true] at h ⊢
  intro i hi
  rw [Array.getElem_setIfInBounds]
  split
  · exact hv
  · exact h i (by simpa using hi)
theorem mark_one {w : World} {B e s : Nat} {v : Value} {n : Nat} {cs : List Value} {m : Nat} {mk : List Value} (h : MarkV w B e s v n cs m mk) : v.oneCell' = true := by
  obtain ⟨g, c, rfl, _⟩ := h; rfl
def az : Value := .agg #[.int .u8 0, .int .u8 0, .int .u8 0, .int .u8 0, .int .u8 0, .int .u8 0, .int .u8 0, .int .u8 0, .int .u8 0, .int .u8 0, .int .u8 0, .int .u8 0, .int .u8 0, .int .u8 0, .int .u8 0, .int .u8 0, .int .u8 0, .int .u8 0, .int .u8 0, .int .u8 0, .slice none 0 0]
theorem sl28 : SlT 28 39 21 48 az := ⟨by kernel_rfl, by kernel_rfl, rfl, by decide, by decide⟩
theorem ones21 (a0 a1 a2 a3 a4 a5 a6 a7 a8 a9 a10 a11 a12 a13 a14 a15 a16 a17 a18 a19 : Int) (A : Option Addr) (n c : Nat) : Hid (∀ u ∈ ([.int .u8 a0, .int .u8 a1, .int .u8 a2, .int .u8 a3, .int .u8 a4, .int .u8 a5, .int .u8 a6, .int .u8 a7, .int .u8 a8, .int .u8 a9, .int .u8 a10, .int .u8 a11, .int .u8 a12, .int .u8 a13, .int .u8 a14, .int .u8 a15, .int .u8 a16, .int .u8 a17, .int .u8 a18, .int .u8 a19, .slice A n c] : List Value), u.oneCell' = true) := Lib.hid (by simp [Value.oneCell'])
/-- Where the new access list stands. -/
structure AccO (w : World) (B : Nat) (v : Value) (es : List AccE) (k : Nat) (kvs : List Value) : Prop where
  row : w.ownsRow B 39 21 v k (accCells (es.take k) kvs)
  len : kvs.length = k
  keys : ∀ i, i < k → MarkV w B 26 4 (kvs.getD i undef) (es.getD i default).kn (nums .u64 (es.getD i default).kc) 1 w171.toList
theorem mark_other {w w1 : World} {B e s : Nat} {v : Value} {n : Nat} {cs : List Value} {m : Nat} {mk : List Value} (h : MarkV w B e s v n cs m mk) {B' e' s' n' : Nat} {v' : Value} {xs' : List Value} (h' : w.ownsRow B' e' s' v' n' xs') (hne : e ≠ e') (hg : w.grownBy w1 v'.ownBlock) : MarkV w1 B e s v n cs m mk := by
  obtain ⟨g, c, rfl, ho⟩ := h
  exact ⟨g, c, rfl, own_other ho hg (own_type_ne ho h' hne)⟩
theorem accO_step {w W w1 : World} {B : Nat} {v v1 kv : Value} {es : List AccE} {k : Nat} {kvs : List Value} (h : AccO w B v es k kvs) (hk : k < es.length) (hb : Below w.heap.size w W)
    {q : Nat} (hq : q = (es.getD k default).kn) (hkv : MarkV W B 26 4 kv q (nums .u64 (es.getD k default).kc) 1 w171.toList)
    (hg : W.grownBy w1 v.ownBlock) (ho : w1.ownsRow B 39 21 v1 (k + 1) (accCells (es.take k) kvs ++ (nums .u8 (es.getD k default).ad ++ [kv]))) : AccO w1 B v1 es (k + 1) (kvs ++ [kv]) := by
  subst hq
  have hr := own_below h.row hb
  refine ⟨?_, by simp [h.len], fun i hi => ?_⟩
  · rw [List.take_succ_eq_append_getElem hk, accCells_snoc _ _ _ _ (by rw [h.len, List.length_take]; omega)]
    have : es[k] = es.getD k default := by simp [List.getD_eq_getElem?_getD, hk]
    rw [this]
    exact ho
  · by_cases h2 : i < k
    · have : (kvs ++ [kv]).getD i undef = kvs.getD i undef := by simp [List.getD_eq_getElem?_getD, List.getElem?_append_left (show i < kvs.length by rw [h.len]; exact h2)]
      rw [this]
      exact mark_other ((h.keys i h2).below hb) hr (by decide) hg
    · obtain rfl : i = k := by omega
      have : (kvs ++ [kv]).getD i undef = kv := by
        have hl := h.len
        simp [List.getD_eq_getElem?_getD, List.getElem?_append_right (show kvs.length ≤ i by omega), hl]
      rw [this]
      exact mark_other hkv hr (by decide) hg
theorem acc_done {w W w1 : World} {B : Nat} {v : Value} {es : List AccE} {k : Nat} {kvs : List Value} (h : AccO w B v es k kvs) (hk : k = es.length) (hb : Below w.heap.size w W) {g c : Nat}
    (hg : W.grownBy w1 v.ownBlock) (ho : w1.ownsRow B 39 21 (.slice (some ⟨g, 0, none⟩) (k + 1) c) (k + 1) (accCells (es.take k) kvs ++ a171)) :
    MarkV w1 B 39 21 (.slice (some ⟨g, 0, none⟩) k c) es.length (accCells es kvs) 1 a171 ∧ kvs.length = es.length ∧ ∀ i, i < es.length → MarkV w1 B 26 4 (kvs.getD i undef) (es.getD i default).kn (nums .u64 (es.getD i default).kc) 1 w171.toList := by
  subst hk
  rw [List.take_length] at ho
  exact ⟨⟨g, c, rfl, ho⟩, h.len, fun i hi => mark_other ((h.keys i hi).below hb) (own_below h.row hb) (by decide) hg⟩
theorem AccO.below {w w1 : World} {B : Nat} {v : Value} {es : List AccE} {k : Nat} {kvs : List Value} (h : AccO w B v es k kvs) (hb : Below w.heap.size w w1) : AccO w1 B v es k kvs := ⟨own_below h.row hb, h.len, fun i hi => (h.keys i hi).below hb⟩
theorem T3.mono {w W W1 : World} {B X Y : Nat} {C Z : Array Value} {t : Tx} {vi vb vn : Value} (h : T3 w W B X Y C Z t vi vb vn) (hb : Below W.heap.size W W1) : T3 w W1 B X Y C Z t vi vb vn :=
  ⟨h.box.below hb, h.res.below hb, h.inp.below hb, h.ini.below hb, h.blobs.below hb, below_trans h.below h.below.size hb, Nat.le_trans h.size hb.size⟩
/-- Behind the last list. -/
theorem t7_mk {w W1 wc wa : World} {X Y : Nat} {C Z : Array Value} {t : Tx} {vi vb vn va : Value} {kvs : List Value} (h : T3 w wc W1.heap.size X Y C Z t vi vb vn) (hads : ∀ e ∈ t.acc, e.ad.length = 20) (hXB : X < W1.heap.size) (hXY : Y ≠ X) (hwX : w.heap.size ≤ X) (h1c : W1.heap.size ≤ wc.heap.size) (hb : Below wc.heap.size wc wa)
    (ha : MarkV wa wc.heap.size 39 21 va t.acc.length (accCells t.acc kvs) 1 a171 ∧ kvs.length = t.acc.length ∧ ∀ i, i < t.acc.length → MarkV wa wc.heap.size 26 4 (kvs.getD i undef) (t.acc.getD i default).kn (nums .u64 (t.acc.getD i default).kc) 1 w171.toList) :
    TB (wa.setCell ⟨X, 51, none⟩ va) X (anew C vi va vb vn) ∧ TB (wa.setCell ⟨X, 51, none⟩ va) Y Z ∧ TxM (wa.setCell ⟨X, 51, none⟩ va) W1.heap.size t vi va vb vn kvs ∧ Below w.heap.size w (wa.setCell ⟨X, 51, none⟩ va) := by
  have h2 := h.mono hb
  have g := grown_setCell wa X 51 va
  refine ⟨h2.box.set 51 va, h2.res.other hXY 51 va, TxM.far ⟨h2.inp, h2.ini, h2.blobs, mark_base ha.1 h1c, ha.2.1, hads, fun i hi => mark_base (ha.2.2 i hi) h1c⟩ hXB g, ?_⟩
  exact h2.below.grown g h2.below.size (by rintro k ⟨⟩; exact hwX)

set_option maxRecDepth 100000 in
set_option maxHeartbeats 4000000 in
theorem tx_any (C : Array Value) (t : Tx) (vi va vb vn : Value) (w : World) (h : TxV w C t vi va vb vn) (hs : tsize t ≤ 200000) :
    Calls Try.prog 5 #[.agg C] w (TxPost C t w) := by
  have hsz := h.size
  obtain ⟨A0, c0, rfl, _, _, _⟩ := h.inp
  obtain ⟨A4, c4, rfl, _, _, _⟩ := h.ini
  obtain ⟨A2, c2, rfl, _, _, _, _, _, _⟩ := h.blobs
  obtain ⟨kvs, ha, hk⟩ := h.acc
  obtain ⟨A1, c1, rfl, _, _, _, _, _, _⟩ := id ha
  go_enter Try.func5, Try.ntmps5
  go_upto_region 1 with (fail)
  obtain ⟨zs, hzs⟩ : ∃ zs : Array Value, zs = #[.int .u8 0, .int .u8 0, .int .u8 0, .int .u8 0, .int .u8 0, .int .u8 0, .int .u8 0, .int .u8 0, .int .u8 0, .int .u8 0, .int .u8 0, .int .u8 0, .int .u8 0, .int .u8 0, .int .u8 0, .int .u8 0, .int .u8 0, .int .u8 0, .int .u8 0, .int .u8 0, .int .u64 0, .int .u64 0, .int .u64 0, .int .u64 0, .int .u64 0, .int .u64 0, .int .u8 0, .int .u8 0, .int .u8 0, .int .u8 0, .int .u8 0, .int .u8 0, .int .u8 0, .int .u8 0, .int .u8 0, .int .u8 0, .int .u8 0, .int .u8 0, .int .u8 0, .int .u8 0, .int .u8 0, .int .u8 0, .int .u8 0, .int .u8 0, .int .u8 0, .int .u8 0, .int .u64 0, .int .u64 0, .int .u64 0, .int .u64 0, .slice none 0 0, .slice none 0 0, .slice none 0 0, .bool false, .slice none 0 0, .int .u64 0, .int .u64 0, .int .u64 0, .int .u64 0] := ⟨_, rfl⟩
  rw [← hzs]
  have hbx : TB (w.alloc (.cells C 31)) w.heap.size C := ⟨heap_alloc_new w _, hsz⟩
  have hbz : TB ((w.alloc (.cells C 31)).alloc (.cells zs 31)) (w.heap.size + 1) zs := ⟨by simpa using heap_alloc_new (w.alloc (.cells C 31)) (.cells zs 31), by rw [hzs]; rfl⟩
  have hbx2 := hbx.below (below_alloc _ (.cells zs 31))
  have hb1 : Below w.heap.size w ((w.alloc (.cells C 31)).alloc (.cells zs 31)) := below_step (below_alloc _ _) (below_alloc _ _)
  obtain ⟨W1, hW1⟩ : ∃ W1, W1 = (w.alloc (.cells C 31)).alloc (.cells zs 31) := ⟨_, rfl⟩
  obtain ⟨X, hX⟩ : ∃ X, X = w.heap.size := ⟨_, rfl⟩
  obtain ⟨Y, hY⟩ : ∃ Y, Y = w.heap.size + 1 := ⟨_, rfl⟩
  have h2 := h.mono hb1
  rw [← hX] at hbx2 hbz hY
  rw [← hY] at hbz
  rw [← hW1] at hbx2 hbz hb1 h2 ⊢
  rw [← hX, ← hY]
  have hcell : ∀ w', Below W1.heap.size W1 w' → w'.cell? ⟨X, 50, none⟩ = some (.slice A0 t.inp.length c0) ∧ w'.cell? ⟨X, 54, none⟩ = some (.slice A4 t.ini.length c4) ∧ w'.cell? ⟨X, 52, none⟩ = some (.slice A2 t.nb c2) := fun w' hw => ⟨(hbx2.below hw).cell h.c50, (hbx2.below hw).cell h.c54, (hbx2.below hw).cell h.c52⟩
  have r50 : ∀ w', Below W1.heap.size W1 w' → w'.cell? ⟨X, 50, none⟩ = some (.slice A0 t.inp.length c0) := fun w' hw => (hcell w' hw).1
  have r54 : ∀ w', Below W1.heap.size W1 w' → w'.cell? ⟨X, 54, none⟩ = some (.slice A4 t.ini.length c4) := fun w' hw => (hcell w' hw).2.1
  have r52 : ∀ w', Below W1.heap.size W1 w' → w'.cell? ⟨X, 52, none⟩ = some (.slice A2 t.nb c2) := fun w' hw => (hcell w' hw).2.2
  have f50 : ∀ w' j, Below W1.heap.size W1 w' → w'.frozen? ⟨X, j, none⟩ = false := fun w' j hw => (hbx2.below hw).frozen j
  have hrefl : Below W1.heap.size W1 W1 := Below.refl _ _
  have hts : tsize t = t.inp.length + t.ini.length + t.nb + asum t.acc := rfl
  have HRI : Hid (∀ W, Below W1.heap.size W1 W → Calls Try.prog 9 #[.slice A0 t.inp.length c0] W fun e w' => ∃ v', e = .returned v' ∧ MarkV w' W.heap.size 5 1 v' t.inp.length (nums .u8 t.inp) 3 marks3 ∧ Below W.heap.size W w') := Lib.hid fun W hW => row_any _ _ _ W (h2.inp.mono hW).cells (by omega)
  have HRN : Hid (∀ W, Below W1.heap.size W1 W → Calls Try.prog 9 #[.slice A4 t.ini.length c4] W fun e w' => ∃ v', e = .returned v' ∧ MarkV w' W.heap.size 5 1 v' t.ini.length (nums .u8 t.ini) 3 marks3 ∧ Below W.heap.size W w') := Lib.hid fun W hW => row_any _ _ _ W (h2.ini.mono hW).cells (by omega)
  have HRB : Hid (∀ W, Below W1.heap.size W1 W → Calls Try.prog 10 #[.slice A2 t.nb c2] W fun e w' => ∃ v', e = .returned v' ∧ MarkV w' W.heap.size 48 32 v' t.nb (nums .u8 t.bc) 1 h171.toList ∧ Below W.heap.size W w') := Lib.hid fun W hW => hashes_any _ _ _ W (h2.blobs.mono hW) (by omega)
  have HBX := Lib.hid hbx2
  have HBZ := Lib.hid hbz
  have HB1 := Lib.hid hb1
  have HT2 := Lib.hid h2
  have HXS := Lib.hid hX
  have HXY : Hid (Y ≠ X) := Lib.hid (by omega)
  have HYW : Hid (w.heap.size ≤ Y) := Lib.hid (by omega)
  have HONE : Hid (C.all (·.oneCell') = true) := Lib.hid h.ones
  have HS := Lib.hid hs
  have HA := Lib.hid ha
  have HK := Lib.hid hk
  clear hcell hbx hbz hbx2 hb1 h2 hX hY hW1 hzs h hts hs ha hk hsz
  go_cut [] (fun wx => ∃ vi vb vn, T3 w wx W1.heap.size X Y C zs t vi vb vn)
  case first =>
    go_region_law ((first
      | (go_simp; go_at_call 9; (with_reducible refine (HRI.out _ (by with_reducible first | exact hrefl | exact (Below.refl _ _).drew)).mono ?_); rintro e wa ⟨va, rfl, hma, hba⟩; have hBa : Below W1.heap.size W1 wa := (by first | exact hba | exact below_step (by with_reducible first | exact hrefl | exact (Below.refl _ _).drew) hba); have HMa : Hid (MarkV wa W1.heap.size 5 1 va t.inp.length (nums .u8 t.inp) 3 marks3) := Lib.hid (mark_base hma (by simp [drew_size])); clear hba; obtain ⟨ga, ca, rfl, _⟩ := hma)
      | (go_simp; go_at_call 9; (with_reducible refine (HRN.out _ (by with_reducible first | exact hBa | exact hBa.drew)).mono ?_); rintro e wb ⟨vb, rfl, hmb, hbb⟩; have hBb : Below W1.heap.size W1 wb := (by first | exact below_step hBa hbb | exact below_step hBa.drew hbb); have HMab : Hid (MarkV wb W1.heap.size 5 1 (.slice (some ⟨ga, 0, none⟩) t.inp.length ca) t.inp.length (nums .u8 t.inp) 3 marks3) := Lib.hid (HMa.out.below (by first | exact hbb | exact below_step (Below.refl _ _).drew hbb)); have HMb : Hid (MarkV wb W1.heap.size 5 1 vb t.ini.length (nums .u8 t.ini) 3 marks3) := Lib.hid (mark_base hmb (by have := hBa.size; simp [drew_size]; omega)); clear hbb; obtain ⟨gb, cb, rfl, _⟩ := hmb)
      | (go_simp; go_at_call 10; (with_reducible refine (HRB.out _ (by with_reducible first | exact hBb | exact hBb.drew)).mono ?_); rintro e wc ⟨vc, rfl, hmc, hbc⟩; have hBc : Below W1.heap.size W1 wc := (by first | exact below_step hBb hbc | exact below_step hBb.drew hbc); have HMac : Hid (MarkV wc W1.heap.size 5 1 (.slice (some ⟨ga, 0, none⟩) t.inp.length ca) t.inp.length (nums .u8 t.inp) 3 marks3) := Lib.hid (HMab.out.below (by first | exact hbc | exact below_step (Below.refl _ _).drew hbc)); have HMbc : Hid (MarkV wc W1.heap.size 5 1 (.slice (some ⟨gb, 0, none⟩) t.ini.length cb) t.ini.length (nums .u8 t.ini) 3 marks3) := Lib.hid (HMb.out.below (by first | exact hbc | exact below_step (Below.refl _ _).drew hbc)); have HMc : Hid (MarkV wc W1.heap.size 48 32 vc t.nb (nums .u8 t.bc) 1 h171.toList) := Lib.hid (mark_base hmc (by have := hBb.size; simp [drew_size]; omega)); clear hbc; obtain ⟨gc, cc, rfl, _⟩ := hmc)))
    all_goals (go_wp2_with fail; go_meet; exact ⟨_, _, _, t3_mk HBX.out HBZ.out HXY.out (Nat.le_of_eq HXS.out.symm) HB1.out hBc HMac.out HMbc.out HMc.out⟩)
  case rest =>
    obtain ⟨ui, ub, un, h3⟩ := hcut
    clear r50 r54 r52 f50 hrefl HRI HRN HRB
    obtain ⟨n, hn⟩ : ∃ n, n = t.acc.length := ⟨_, rfl⟩
    have hca : ∀ w', Below wc.heap.size wc w' → w'.cell? ⟨X, 51, none⟩ = some (.slice A1 n c1) := fun w' hw => ((h3.box.below hw).cell (v := .slice A1 n c1) (by
      have h51 := HT2.out.c51
      rw [← hn] at h51
      rw [Array.getElem?_setIfInBounds_ne (by decide), Array.getElem?_setIfInBounds_ne (by decide), Array.getElem?_setIfInBounds_ne (by decide)]
      exact h51))
    have hn2 : n ≤ 200000 := by
      have h0 : tsize t = t.inp.length + t.ini.length + t.nb + asum t.acc := rfl
      have h1 := HS.out
      have h2 := asum_len t.acc
      omega
    have HAS : Hid (asum t.acc ≤ 200000) := Lib.hid (by
      have h0 : tsize t = t.inp.length + t.ini.length + t.nb + asum t.acc := rfl
      have h1 := HS.out
      omega)
    have H3 := Lib.hid h3
    have H3s : Hid (W1.heap.size ≤ wc.heap.size) := Lib.hid h3.size
    have HCA := Lib.hid hca
    have HN := Lib.hid hn
    clear h3 hca hn
    go_wp2
    go_loopw [3, 4] (fun v i wr => ∃ (k : Nat) (ks : List Value), k ≤ n ∧ i = .int .i64 k ∧ AccO wr wc.heap.size v t.acc k ks ∧ Below wc.heap.size wc wr) (fun _ i _ => n - (intOf i).toNat)
    case atStart => exact ⟨0, [], Nat.zero_le _, rfl, ⟨World.ownsRow_nil _ _ _ _, rfl, fun i hi => absurd hi (Nat.not_lt_zero _)⟩, Below.refl _ _⟩
    case round =>
      obtain ⟨k, ks, hk, rfl, hao, hbw⟩ := hrel
      have h51 := HCA.out _ hbw
      by_cases hlt : k < n
      · have hk2 : k < t.acc.length := by have := HN.out; omega
        obtain ⟨b, o, rfl, hrg, hcl⟩ := acc_at (n := t.acc.length) HA.out HK.out hk2
        have hkk := HK.out.2.2 k hk2
        have had : (t.acc.getD k default).ad.length = 20 := HK.out.2.1 _ (by simp [List.getD_eq_getElem?_getD, hk2])
        obtain ⟨A9, c9, e9, _, _, l9, _⟩ := id hkk
        rw [e9] at hcl hkk
        have hqb : (t.acc.getD k default).kn ≤ 200000 := by
          have h1 := asum_take_le t.acc (k + 1)
          rw [asum_step hk2] at h1
          have := HAS.out
          omega
        obtain ⟨a0, a1, a2, a3, a4, a5, a6, a7, a8, a9, a10, a11, a12, a13, a14, a15, a16, a17, a18, a19, hadl⟩ := list20 _ had
        have hrg2 : w.rangeAt b (o + k * 21) [.int .u8 a0, .int .u8 a1, .int .u8 a2, .int .u8 a3, .int .u8 a4, .int .u8 a5, .int .u8 a6, .int .u8 a7, .int .u8 a8, .int .u8 a9, .int .u8 a10, .int .u8 a11, .int .u8 a12, .int .u8 a13, .int .u8 a14, .int .u8 a15, .int .u8 a16, .int .u8 a17, .int .u8 a18, .int .u8 a19] := by
          intro j u hu
          refine hrg j u ?_
          have hj := (List.getElem?_eq_some_iff.1 hu).1
          rw [hadl, List.getElem?_append_left (by rw [nums_length]; exact hj)]
          exact hu
        have hwc := H3.out.below
        have hky : ∀ W, Below wc.heap.size wc W → Calls Try.prog 11 #[.slice A9 (t.acc.getD k default).kn c9] W fun e w' => ∃ v', e = .returned v' ∧ MarkV w' W.heap.size 26 4 v' (t.acc.getD k default).kn (nums .u64 (t.acc.getD k default).kc) 1 w171.toList ∧ Below W.heap.size W w' := fun W hW => keys_any _ _ _ W (hkk.mono (below_step hwc hW)) hqb
        have hss : ∀ w', Below wc.heap.size wc w' → w'.cell? ⟨X, 51, none⟩ = some (.slice (some ⟨b, o, none⟩) n c1) ∧ w'.rangeAt b (o + k * 21) [.int .u8 a0, .int .u8 a1, .int .u8 a2, .int .u8 a3, .int .u8 a4, .int .u8 a5, .int .u8 a6, .int .u8 a7, .int .u8 a8, .int .u8 a9, .int .u8 a10, .int .u8 a11, .int .u8 a12, .int .u8 a13, .int .u8 a14, .int .u8 a15, .int .u8 a16, .int .u8 a17, .int .u8 a18, .int .u8 a19] ∧ w'.cell? ⟨b, o + k * 21 + 20, none⟩ = some (.slice A9 (t.acc.getD k default).kn c9) := fun w' hw => ⟨HCA.out _ hw, fun j u hu => cell_keep (below_step hwc hw) (hrg2 j u hu), cell_keep (below_step hwc hw) hcl⟩
        obtain ⟨q, hq⟩ : ∃ q, q = (t.acc.getD k default).kn := ⟨_, rfl⟩
        rw [← hq] at hky hss hqb
        have HKY := Lib.hid hky
        have HSS := Lib.hid hss
        have HQ := Lib.hid hq
        have HAO := Lib.hid hao
        have HROW := Lib.hid hao.row
        have HAD := Lib.hid hadl
        have HBW := Lib.hid hbw
        have hzw : wc.heap.size ≤ wr.heap.size := hbw.size
        have hu23 := Try.underlying23
        have hi23 : (Try.prog.info? 23).map (·.size) = some ([.int .u8 a0, .int .u8 a1, .int .u8 a2, .int .u8 a3, .int .u8 a4, .int .u8 a5, .int .u8 a6, .int .u8 a7, .int .u8 a8, .int .u8 a9, .int .u8 a10, .int .u8 a11, .int .u8 a12, .int .u8 a13, .int .u8 a14, .int .u8 a15, .int .u8 a16, .int .u8 a17, .int .u8 a18, .int .u8 a19] : List Value).length := by kernel_rfl
        have hi0 : (0 : Int) ≤ (k : Int) := by omega
        have hi1 : (k : Int) < (n : Int) := by omega
        have hk1 : k + 1 ≤ 1000000 := by omega
        clear hwc hrg hcl hkk had hadl hrg2 hky hss hq hao hbw h51 e9
        obtain ⟨h51, _, _⟩ := HSS.out wr HBW.out
        go_wp2_with fail
        go_region_held3 (fun w' => w'.cell? ⟨X, 51, none⟩ = some (.slice (some ⟨b, o, none⟩) n c1) ∧ w'.rangeAt b (o + k * 21) [.int .u8 a0, .int .u8 a1, .int .u8 a2, .int .u8 a3, .int .u8 a4, .int .u8 a5, .int .u8 a6, .int .u8 a7, .int .u8 a8, .int .u8 a9, .int .u8 a10, .int .u8 a11, .int .u8 a12, .int .u8 a13, .int .u8 a14, .int .u8 a15, .int .u8 a16, .int .u8 a17, .int .u8 a18, .int .u8 a19] ∧ w'.cell? ⟨b, o + k * 21 + 20, none⟩ = some (.slice A9 q c9))
          (first | exact HSS.out _ (by with_reducible first | exact HBa.out | exact (HBa.out).drew | exact below_step HBa.out (below_alloc _ _) | exact (below_step HBa.out (below_alloc _ _)).drew | exact below_step (HBa.out).drew (below_alloc _ _)) | exact HSS.out _ (by with_reducible first | exact HBkc.out | exact (HBkc.out).drew | exact below_step HBkc.out (below_alloc _ _) | exact (below_step HBkc.out (below_alloc _ _)).drew | exact below_step (HBkc.out).drew (below_alloc _ _)) | exact HSS.out _ (by with_reducible first | exact HBW.out | exact (HBW.out).drew | exact below_step HBW.out (below_alloc _ _) | exact (below_step HBW.out (below_alloc _ _)).drew | exact below_step (HBW.out).drew (below_alloc _ _)))
          ((first
            | (go_at_call 11; (with_reducible refine (HKY.out _ (by with_reducible first | exact HBW.out | exact (HBW.out).drew | exact below_step HBW.out (below_alloc _ _) | exact (below_step HBW.out (below_alloc _ _)).drew | exact below_step (HBW.out).drew (below_alloc _ _))).mono ?_); rintro e wk ⟨vk, rfl, hmk, hbk⟩; have HBk : Hid (Below wr.heap.size wr wk) := Lib.hid (below_step (by with_reducible first | exact (Below.refl _ _) | exact ((Below.refl _ _)).drew | exact below_step (Below.refl _ _) (below_alloc _ _) | exact (below_step (Below.refl _ _) (below_alloc _ _)).drew | exact below_step ((Below.refl _ _)).drew (below_alloc _ _)) hbk); have HBkc : Hid (Below wc.heap.size wc wk) := Lib.hid (below_step (by with_reducible first | exact HBW.out | exact (HBW.out).drew | exact below_step HBW.out (below_alloc _ _) | exact (below_step HBW.out (below_alloc _ _)).drew | exact below_step (HBW.out).drew (below_alloc _ _)) hbk); have HMk : Hid (MarkV wk wc.heap.size 26 4 vk q (nums .u64 (t.acc.getD k default).kc) 1 w171.toList) := Lib.hid (mark_base hmk (by first | exact hzw | (simp [drew_size]; omega))); clear hbk; obtain ⟨gk, ck, rfl, _⟩ := hmk)
            | (refine step_cells sl28 (.tmp 24) (.tmp 39) rfl rfl (W0 := wr) HROW rfl 1 [.int .u8 a0, .int .u8 a1, .int .u8 a2, .int .u8 a3, .int .u8 a4, .int .u8 a5, .int .u8 a6, .int .u8 a7, .int .u8 a8, .int .u8 a9, .int .u8 a10, .int .u8 a11, .int .u8 a12, .int .u8 a13, .int .u8 a14, .int .u8 a15, .int .u8 a16, .int .u8 a17, .int .u8 a18, .int .u8 a19, .slice (some ⟨gk, 0, none⟩) q ck] rfl rfl (ones21 _ _ _ _ _ _ _ _ _ _ _ _ _ _ _ _ _ _ _ _ _ _ _) (by first | exact World.news_of_block (heap_alloc_new _ _)) hk1 hzw (by with_reducible first | exact HBk.out | exact (HBk.out).drew | exact below_step HBk.out (below_alloc _ _) | exact (below_step HBk.out (below_alloc _ _)).drew | exact below_step (HBk.out).drew (below_alloc _ _)) ?_; intro va wa ho hba hga; have HBa : Hid (Below wc.heap.size wc wa) := Lib.hid (Below.trans (by with_reducible first | exact HBkc.out | exact (HBkc.out).drew | exact below_step HBkc.out (below_alloc _ _) | exact (below_step HBkc.out (below_alloc _ _)).drew | exact below_step (HBkc.out).drew (below_alloc _ _)) hba); have HFa : Hid (AccO wa wc.heap.size va t.acc (k + 1) (ks ++ [.slice (some ⟨gk, 0, none⟩) q ck])) := Lib.hid (accO_step HAO.out hk2 (by with_reducible first | exact HBk.out | exact (HBk.out).drew | exact below_step HBk.out (below_alloc _ _) | exact (below_step HBk.out (below_alloc _ _)).drew | exact below_step (HBk.out).drew (below_alloc _ _)) HQ.out (HMk.out.below (by with_reducible first | exact (Below.refl _ _) | exact ((Below.refl _ _)).drew | exact below_step (Below.refl _ _) (below_alloc _ _) | exact (below_step (Below.refl _ _) (below_alloc _ _)).drew | exact below_step ((Below.refl _ _)).drew (below_alloc _ _))) hga (by rw [HAD.out]; exact ho)); obtain ⟨Aa, ca, rfl, _⟩ := own_shape ho; clear ho hba hga)))
        go_wp2_with fail
        go_roundw
        case rel => exact ⟨k + 1, _, by omega, by go_num, HFa.out, HBa.out⟩
        case measure => simp [intOf]; omega
      · have hge : ¬ ((k : Int) < (n : Int)) := by omega
        have HKn : Hid (k = n) := Lib.hid (by omega)
        have r51 : ∀ w', Below wc.heap.size wc w' → w'.cell? ⟨X, 51, none⟩ = some (.slice A1 n c1) := fun w' hw => HCA.out w' hw
        have r51a : ∀ o, (wr.alloc o).cell? ⟨X, 51, none⟩ = some (.slice A1 n c1) := fun o => HCA.out _ (below_step hbw (below_alloc _ _))
        have f51 : ∀ w', Below wc.heap.size wc w' → w'.frozen? ⟨X, 51, none⟩ = false := fun w' hw => (H3.out.box.below hw).frozen 51
        have hlx : X < wr.heap.size := Nat.lt_of_lt_of_le (H3.out.box.lt) hbw.size
        have HXB : Hid (X < W1.heap.size) := Lib.hid HBX.out.lt
        have HKN : Hid (k = t.acc.length) := Lib.hid (by have := HN.out; omega)
        have HLC : Hid (t.acc.length = n) := Lib.hid HN.out.symm
        have hz1 : W1.heap.size ≤ wc.heap.size := by
          obtain ⟨_, _, _, ho⟩ := H3.out.inp
          exact H3s.out
        have HZ1 := Lib.hid hz1
        have hk1 : k + 1 ≤ 1000000 := by omega
        have hzw : wc.heap.size ≤ wr.heap.size := hbw.size
        have HAO := Lib.hid hao
        have HROW := Lib.hid hao.row
        have HADS := HK.out.2.1
        have HADS2 := Lib.hid HADS
        clear hao h51 HADS hz1
        go_wp2_with fail
        go_cut [] (fun wx => ∃ va ks, TB wx X (anew C ui va ub un) ∧ TB wx Y zs ∧ TxM wx W1.heap.size t ui va ub un ks ∧ Below w.heap.size w wx)
        case first =>
          go_region_law ((first
            | (refine step_cells sl28 (.tmp 41) (.tmp 44) rfl rfl (W0 := wr) HROW rfl 1 [.int .u8 171, .int .u8 0, .int .u8 0, .int .u8 0, .int .u8 0, .int .u8 0, .int .u8 0, .int .u8 0, .int .u8 0, .int .u8 0, .int .u8 0, .int .u8 0, .int .u8 0, .int .u8 0, .int .u8 0, .int .u8 0, .int .u8 0, .int .u8 0, .int .u8 0, .int .u8 0, .slice none 0 0] rfl rfl (ones21 _ _ _ _ _ _ _ _ _ _ _ _ _ _ _ _ _ _ _ _ _ _ _) (by first | exact World.news_of_block (heap_alloc_new _ _)) hk1 hzw (by with_reducible first | exact (Below.refl _ _) | exact ((Below.refl _ _)).drew | exact below_step (Below.refl _ _) (below_alloc _ _) | exact (below_step (Below.refl _ _) (below_alloc _ _)).drew | exact below_step ((Below.refl _ _)).drew (below_alloc _ _)) ?_; intro va wa ho hba hga; have hBa : Below wc.heap.size wc wa := (Below.trans (by with_reducible first | exact hbw | exact (hbw).drew | exact below_step hbw (below_alloc _ _) | exact (below_step hbw (below_alloc _ _)).drew | exact below_step (hbw).drew (below_alloc _ _)) hba); obtain ⟨ga, ca, rfl, hca⟩ := own_some_of ho (by omega); have HDa := Lib.hid (acc_done HAO.out HKN.out (by with_reducible first | exact (Below.refl _ _) | exact ((Below.refl _ _)).drew | exact below_step (Below.refl _ _) (below_alloc _ _) | exact (below_step (Below.refl _ _) (below_alloc _ _)).drew | exact below_step ((Below.refl _ _)).drew (below_alloc _ _)) hga ho); have hnc : n ≤ ca := (by omega); clear ho hba hga)))
          all_goals (go_wp2_with fail; go_meet; have hd := HDa.out; rw [HKn.out] at hd; exact ⟨_, _, t7_mk H3.out HADS2.out HXB.out HXY.out (Nat.le_of_eq HXS.out.symm) HZ1.out hBa hd⟩)
        case rest =>
          obtain ⟨va, ks2, hx7, hy7, hm7, hb7⟩ := hcut
          have hsx : (anew C ui va ub un).size = 59 := hx7.size
          obtain ⟨C7, hC7⟩ : ∃ C7, C7 = anew C ui va ub un := ⟨_, rfl⟩
          have HM7 := Lib.hid hm7
          have HB7 := Lib.hid hb7
          have HC7 := Lib.hid hC7
          rw [← hC7] at hx7 hsx
          have HL7 : Hid (wc.rangeAt X 0 C7.toList) := Lib.hid (by
            intro j v hv
            rw [Nat.zero_add]
            exact hx7.cell (by simpa using hv))
          have HZ7 : Hid ((Try.prog.info? 31).map (·.size) = some C7.size) := Lib.hid (by rw [hsx]; kernel_rfl)
          have HY7 := Lib.hid hy7.blk
          have HS7 : Hid (C7.size = 59) := Lib.hid hsx
          have HYB : Hid (Y < W1.heap.size ∧ w.heap.size ≤ Y ∧ w.heap.size ≤ W1.heap.size) := Lib.hid ⟨HBZ.out.lt, HYW.out, HB1.out.size⟩
          have HZY : Hid (zs.size = C7.size) := Lib.hid (by rw [hy7.size, hsx])
          have HO7 : Hid (C7.all (·.oneCell') = true) := Lib.hid (by rw [hC7]; exact ones_set (ones_set (ones_set (ones_set HONE.out _ (mark_one hm7.inp)) _ (mark_one hm7.ini)) _ (mark_one hm7.blobs)) _ (mark_one hm7.acc))
          clear hC7 hm7 hb7 hx7 hy7 hsx
          go_wp2_with (first
            | (refine wpList_load_g (by rfl) 31 (.tmp 1) rfl X 0 rfl C7 _ HL7 Try.underlying31 rfl HZ7 ?_)
            | (refine wpList_store_row_g (by rfl) 31 (.tmp 2) (.tmp 51) rfl Y zs C7 rfl rfl HY7 HZ7 HZY HO7 ?_))
          refine tx_ret rfl (setRow_heap wc Y zs C7 31 (0, 0) HY7.out) HS7.out ?_
          obtain ⟨y1, y2, y3⟩ := HYB.out
          refine ⟨_, _, _, _, _, by rw [HC7.out], (HM7.out.far y1 (grown_setRow wc Y C7)).base y3, HB7.out.grown (grown_setRow wc Y C7) HB7.out.size (by rintro k ⟨⟩; exact y2)⟩
end Go.Proofs.Ytlafibjcmalkdaa
