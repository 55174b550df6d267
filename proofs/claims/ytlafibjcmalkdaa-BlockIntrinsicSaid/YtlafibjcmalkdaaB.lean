/- Appends onto rows of the call's own; row, hashes, keys: the same elements in a list of its own, marks behind them. -/
import Derived.Test.YtlafibjcmalkdaaA
import Derived.Deep.AppendLies
namespace Go.Proofs.Ytlafibjcmalkdaa
open Go.RowKit

/-- What a law on append wants of the slice's type. -/
structure SlT (S e sz by_ : Nat) (z : Value) : Prop where
  u : Try.prog.underlying S = some (.slice e)
  i : (Try.prog.info? e).map (fun i => (i.zero, i.size, i.bytes)) = some (some z, sz, by_)
  zs : z.cells.size = sz
  sz : 0 < sz
  bt : by_ ≤ 1000
def hz32 : Value := .agg (Array.replicate 32 (.int .u8 0))
def wz4 : Value := .agg (Array.replicate 4 (.int .u64 0))
theorem sl27 : SlT 27 5 1 1 (.int .u8 0) := ⟨by kernel_rfl, by kernel_rfl, rfl, by decide, by decide⟩
theorem sl29 : SlT 29 48 32 32 hz32 := ⟨by kernel_rfl, by kernel_rfl, by decide, by decide, by decide⟩
theorem sl37 : SlT 37 26 4 32 wz4 := ⟨by kernel_rfl, by kernel_rfl, by decide, by decide, by decide⟩

section
variable {ops : Array Oper} {rest : List Oper} {o : Oper} {a : Act} {Q : Exit → Act → World → Prop}
/-- append(v, src...), the source nil or not. -/
theorem app_src {W : World} {S e sz by_ : Nat} {z : Value} (T : SlT S e sz by_ z) (s x : Operand) (hgd : o.guard = none) (ho : o.op = .call { callee := .builtin .append, args := #[s, x], argTypes := #[S, S] })
    (B n m : Nat) (v src : Value) (xs cs : List Value) (hs : a.eval s = v) (HO : Hid (W.ownsRow B e sz v n xs)) (hx : a.eval x = src) (HS : Hid (CellV W src m sz cs)) (hB : B ≤ W.heap.size) (hl : Hid (n + m ≤ 1000000))
    (h : ∀ v' w', w'.ownsRow B e sz v' (n + m) (xs ++ cs) → Below B W w' → wpList Try.prog ops Q rest (a.put o.dst v') w') : wpList Try.prog ops Q (o :: rest) a W := by
  obtain ⟨A, c, rfl, h1, h2, h3, h4, h5, h6⟩ := HS.out
  obtain ⟨i0, hi, hz0, hz1, hz2⟩ := info_parts T.i
  cases A with
  | none =>
    obtain rfl := h2 rfl
    obtain rfl : m = 0 := by omega
    obtain rfl : cs = [] := List.eq_nil_of_length_eq_zero (by omega)
    refine wpList_append_own_none hgd s x S ho B e i0 sz T.u hi v n xs hs HO.out (by simpa using hx) ?_
    refine h v W ?_ (Below.refl _ _)
    rw [List.append_nil]
    exact HO.out
  | some ad =>
    have h9 := hl.out
    have hb9 := T.bt
    have hmul : (n + m) * by_ ≤ 1000000 * 1000 := Nat.mul_le_mul h9 hb9
    refine wpList_append_own_at W hgd s x S ho B e i0 z sz by_ T.u hi hz0 hz1 hz2 T.zs T.sz v n xs hs HO.out ad m c cs hx h4 h6.src h5 (by unfold maxLen; omega) (by omega) hB ?_
    intro v' w' hown hg _ _
    exact h v' w' hown ((Below.refl _ _).grown hg hB (own_ge HO.out))
/-- append(v, new elements), in their box. -/
theorem app_new {W : World} {S e sz by_ : Nat} {z : Value} {news : Array Value} (T : SlT S e sz by_ z) (s x : Operand) (hgd : o.guard = none) (ho : o.op = .call { callee := .builtin .append, args := #[s, x], argTypes := #[S, S] })
    (B n m : Nat) (v : Value) (xs : List Value) (hs : a.eval s = v) (HO : Hid (W.ownsRow B e sz v n xs)) (hx : a.eval x = .slice (some ⟨W.heap.size, 0, none⟩) m m) (hm : news.size = m * sz) (h1 : ∀ u ∈ news.toList, u.oneCell' = true) (hB : B ≤ W.heap.size) (hl : Hid (n + m ≤ 1000000))
    (h : ∀ v' w', w'.ownsRow B e sz v' (n + m) (xs ++ news.toList) → Below B W w' → (W.alloc (.cells news e)).grownBy w' v.ownBlock → wpList Try.prog ops Q rest (a.put o.dst v') w') : wpList Try.prog ops Q (o :: rest) a (W.alloc (.cells news e)) := by
  obtain ⟨i0, hi, hz0, hz1, hz2⟩ := info_parts T.i
  have h9 := hl.out
  have hb9 := T.bt
  have hmul : (n + m) * by_ ≤ 1000000 * 1000 := Nat.mul_le_mul h9 hb9
  have hb := below_alloc W (.cells news e)
  have hn := World.news_of_block (w := W.alloc (.cells news e)) (B := W.heap.size) (cs := news) (t := e) (fr := (0, 0)) (heap_alloc_new W _)
  refine wpList_append_own_at _ hgd s x S ho B e i0 z sz by_ T.u hi hz0 hz1 hz2 T.zs T.sz v n xs hs (own_below HO.out hb) ⟨W.heap.size, 0, none⟩ m m news.toList hx (by simpa using hm) (by simpa using hn) h1 (by unfold maxLen; omega) (by omega) (by simp; omega) ?_
  intro v' w' hown hg _ _
  exact h v' w' hown (((Below.refl _ _).alloc hB _).trans ((Below.refl _ _).grown hg (by simp; omega) (own_ge HO.out))) hg
end

/-- A row of the call's own in whose room behind it marks lie. -/
def MarkV (w : World) (B e s : Nat) (v : Value) (n : Nat) (cs : List Value) (m : Nat) (mk : List Value) : Prop :=
  ∃ g c, v = .slice (some ⟨g, 0, none⟩) n c ∧ w.ownsRow B e s (.slice (some ⟨g, 0, none⟩) (n + m) c) (n + m) (cs ++ mk)
theorem MarkV.below {w w1 : World} {B e s : Nat} {v : Value} {n : Nat} {cs : List Value} {m : Nat} {mk : List Value} (h : MarkV w B e s v n cs m mk) (hb : Below w.heap.size w w1) : MarkV w1 B e s v n cs m mk := by
  obtain ⟨g, c, e, h1⟩ := h; exact ⟨g, c, e, own_below h1 hb⟩
theorem own_empty (w : World) (e s : Nat) : (w.alloc (.cells #[] e)).ownsRow w.heap.size e s (.slice (some ⟨w.heap.size, 0, none⟩) 0 0) 0 [] :=
  ⟨by simp, .inr ⟨w.heap.size, 0, #[], rfl, Nat.le_refl _, heap_alloc_new _ _, Nat.le_refl _, by unfold maxLen; omega, by simp, by simp⟩⟩
def marks3 : List Value := [.int .u8 171, .int .u8 172, .int .u8 173]
theorem own_some_of {w : World} {B e s n : Nat} {v : Value} {xs : List Value} (h : w.ownsRow B e s v n xs) (hn : 0 < n) : ∃ g c, v = .slice (some ⟨g, 0, none⟩) n c ∧ n ≤ c := by
  rcases h.2 with ⟨_, h0⟩ | ⟨g, cap, cur, e, _, _, h2, _⟩
  · omega
  · exact ⟨g, cap, e, h2⟩
set_option maxRecDepth 100000 in
set_option maxHeartbeats 2000000 in
theorem row_any (v : Value) (n : Nat) (cs : List Value) (w : World) (h : CellV w v n 1 cs) (hn : n ≤ 200000) :
    Calls Try.prog 9 #[v] w fun e w' => ∃ v', e = .returned v' ∧ MarkV w' w.heap.size 5 1 v' n cs 3 marks3 ∧ Below w.heap.size w w' := by
  have HS : Hid (CellV (w.alloc (.cells #[] 5)) v n 1 cs) := Lib.hid (h.mono (below_alloc _ _))
  have HB0 : Hid (Below w.heap.size w (w.alloc (.cells #[] 5))) := Lib.hid (below_alloc _ _)
  have HE := Lib.hid (own_empty w 5 1)
  have hsz : w.heap.size ≤ (w.alloc (.cells #[] 5)).heap.size := HB0.out.size
  have HL1 : Hid (0 + n ≤ 1000000) := Lib.hid (by omega)
  have HL2 : Hid (0 + n + 3 ≤ 1000000) := Lib.hid (by omega)
  obtain ⟨A, c, rfl, _, _, _, _, _, _⟩ := h
  go_enter Try.func9, Try.ntmps9
  go_wp2_with (at_builtin; first
    | (refine app_src sl27 (.tmp 3) (.tmp 4) rfl rfl w.heap.size 0 n _ _ [] cs rfl HE rfl HS hsz HL1 ?_; intro v5 w5 ho5 hb5; have HO5 := Lib.hid ho5; have HB5 := Lib.hid hb5; have hz5 := Nat.le_trans hsz hb5.size; clear ho5 hb5)
    | (refine app_new sl27 (.tmp 5) (.tmp 6) rfl rfl w.heap.size (0 + n) 3 v5 _ rfl HO5 rfl rfl (by simp; decide) hz5 HL2 ?_; intro v6 w6 ho6 hb6 _; have HO6 := Lib.hid ho6; have HB6 := Lib.hid hb6; obtain ⟨g, c6, rfl, hc6⟩ := own_some_of ho6 (by omega); clear ho6 hb6))
  go_ret
  refine ⟨_, rfl, ⟨g, c6, rfl, ?_⟩, HB0.out.trans (HB5.out.trans HB6.out)⟩
  have := HO6.out
  simpa [marks3] using this

def h171 : Array Value := #[.int .u8 171, .int .u8 0, .int .u8 0, .int .u8 0, .int .u8 0, .int .u8 0, .int .u8 0, .int .u8 0, .int .u8 0, .int .u8 0, .int .u8 0, .int .u8 0, .int .u8 0, .int .u8 0, .int .u8 0, .int .u8 0, .int .u8 0, .int .u8 0, .int .u8 0, .int .u8 0, .int .u8 0, .int .u8 0, .int .u8 0, .int .u8 0, .int .u8 0, .int .u8 0, .int .u8 0, .int .u8 0, .int .u8 0, .int .u8 0, .int .u8 0, .int .u8 0]
def w171 : Array Value := #[.int .u64 171, .int .u64 0, .int .u64 0, .int .u64 0]

theorem built48 (w : World) : (Instr.build 48 #[(0, .int .u8 171)]).run Try.prog w = .ok (.agg h171) w := run_build w 48 _ _ (by kernel_rfl)
set_option maxRecDepth 100000 in
set_option maxHeartbeats 2000000 in
theorem hashes_any (v : Value) (n : Nat) (cs : List Value) (w : World) (h : CellV w v n 32 cs) (hn : n ≤ 200000) :
    Calls Try.prog 10 #[v] w fun e w' => ∃ v', e = .returned v' ∧ MarkV w' w.heap.size 48 32 v' n cs 1 (h171).toList ∧ Below w.heap.size w w' := by
  have HS : Hid (CellV (w.alloc (.cells #[] 48)) v n 32 cs) := Lib.hid (h.mono (below_alloc _ _))
  have HB0 : Hid (Below w.heap.size w (w.alloc (.cells #[] 48))) := Lib.hid (below_alloc _ _)
  have HE := Lib.hid (own_empty w 48 32)
  have hsz : w.heap.size ≤ (w.alloc (.cells #[] 48)).heap.size := HB0.out.size
  have HL1 : Hid (0 + n ≤ 1000000) := Lib.hid (by omega)
  have HL2 : Hid (0 + n + 1 ≤ 1000000) := Lib.hid (by omega)
  obtain ⟨A, c, rfl, _, _, _, _, _, _⟩ := h
  have hbd := built48
  go_enter Try.func10, Try.ntmps10
  go_wp2_with (at_builtin; first
    | (refine app_src sl29 (.tmp 3) (.tmp 4) rfl rfl w.heap.size 0 n _ _ [] cs rfl HE rfl HS hsz HL1 ?_; intro v5 w5 ho5 hb5; have HO5 := Lib.hid ho5; have HB5 := Lib.hid hb5; have hz5 := Nat.le_trans hsz hb5.size; clear ho5 hb5)
    | (refine app_new sl29 (.tmp 5) (.tmp 7) rfl rfl w.heap.size (0 + n) 1 v5 _ rfl HO5 rfl rfl (by decide) hz5 HL2 ?_; intro v6 w6 ho6 hb6 _; have HO6 := Lib.hid ho6; have HB6 := Lib.hid hb6; obtain ⟨g, c6, rfl, hc6⟩ := own_some_of ho6 (by omega); clear ho6 hb6))
  go_ret
  refine ⟨_, rfl, ⟨g, c6, rfl, ?_⟩, HB0.out.trans (HB5.out.trans HB6.out)⟩
  have := HO6.out
  simpa [h171, w171] using this

theorem built26 (w : World) : (Instr.build 26 #[(0, .int .u64 171)]).run Try.prog w = .ok (.agg w171) w := run_build w 26 _ _ (by kernel_rfl)
set_option maxRecDepth 100000 in
set_option maxHeartbeats 2000000 in
theorem keys_any (v : Value) (n : Nat) (cs : List Value) (w : World) (h : CellV w v n 4 cs) (hn : n ≤ 200000) :
    Calls Try.prog 11 #[v] w fun e w' => ∃ v', e = .returned v' ∧ MarkV w' w.heap.size 26 4 v' n cs 1 (w171).toList ∧ Below w.heap.size w w' := by
  have HS : Hid (CellV (w.alloc (.cells #[] 26)) v n 4 cs) := Lib.hid (h.mono (below_alloc _ _))
  have HB0 : Hid (Below w.heap.size w (w.alloc (.cells #[] 26))) := Lib.hid (below_alloc _ _)
  have HE := Lib.hid (own_empty w 26 4)
  have hsz : w.heap.size ≤ (w.alloc (.cells #[] 26)).heap.size := HB0.out.size
  have HL1 : Hid (0 + n ≤ 1000000) := Lib.hid (by omega)
  have HL2 : Hid (0 + n + 1 ≤ 1000000) := Lib.hid (by omega)
  obtain ⟨A, c, rfl, _, _, _, _, _, _⟩ := h
  have hbd := built26
  go_enter Try.func11, Try.ntmps11
  go_wp2_with (at_builtin; first
    | (refine app_src sl37 (.tmp 3) (.tmp 4) rfl rfl w.heap.size 0 n _ _ [] cs rfl HE rfl HS hsz HL1 ?_; intro v5 w5 ho5 hb5; have HO5 := Lib.hid ho5; have HB5 := Lib.hid hb5; have hz5 := Nat.le_trans hsz hb5.size; clear ho5 hb5)
    | (refine app_new sl37 (.tmp 5) (.tmp 7) rfl rfl w.heap.size (0 + n) 1 v5 _ rfl HO5 rfl rfl (by decide) hz5 HL2 ?_; intro v6 w6 ho6 hb6 _; have HO6 := Lib.hid ho6; have HB6 := Lib.hid hb6; obtain ⟨g, c6, rfl, hc6⟩ := own_some_of ho6 (by omega); clear ho6 hb6))
  go_ret
  refine ⟨_, rfl, ⟨g, c6, rfl, ?_⟩, HB0.out.trans (HB5.out.trans HB6.out)⟩
  have := HO6.out
  simpa [h171, w171] using this
end Go.Proofs.Ytlafibjcmalkdaa
