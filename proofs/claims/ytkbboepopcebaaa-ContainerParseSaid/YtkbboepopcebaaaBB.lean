/- Rows of fields, rows of numbers: append; the reference's more. -/
import Derived.Test.YtkbboepopcebaaaBA
namespace Go.Proofs.Ytkbboepopcebaaa
open Go.RowKit

abbrev Fl := Int × Int
def flCells (f : Fl) : List Value := [.int .i64 f.1, .int .i64 f.2]
def flsOf (l : List Fl) : List Value := l.flatMap flCells
theorem flsOf_length (l : List Fl) : (flsOf l).length = l.length * 2 := by
  induction l with
  | nil => rfl
  | cons a r ih => simp only [flsOf, List.flatMap_cons, List.length_append] at *; rw [ih]; simp [flCells]; omega
theorem flsOf_append (xs ys : List Fl) : flsOf (xs ++ ys) = flsOf xs ++ flsOf ys := by simp [flsOf]
theorem flsOf_one (l : List Fl) : ∀ u ∈ flsOf l, u.oneCell' = true := by
  intro u hu
  simp only [flsOf, List.mem_flatMap, flCells] at hu
  obtain ⟨f, _, h⟩ := hu
  simp at h
  rcases h with rfl | rfl <;> rfl
theorem flsOf_at (l : List Fl) : ∀ k, k < l.length → (flsOf l)[k * 2]? = some (.int .i64 (l.getD k (0, 0)).1) ∧ (flsOf l)[k * 2 + 1]? = some (.int .i64 (l.getD k (0, 0)).2) := by
  induction l with
  | nil => intro k h; simp at h
  | cons t r ih =>
    intro k hk
    cases k with
    | zero => simp [flsOf, flCells]
    | succ k =>
      have := ih k (by simpa using hk)
      simp only [flsOf, List.flatMap_cons, List.getD_cons_succ] at *
      have hl : (flCells t).length = 2 := rfl
      rw [List.getElem?_append_right (by omega), List.getElem?_append_right (by omega), hl]
      rw [show (k + 1) * 2 - 2 = k * 2 by omega, show (k + 1) * 2 + 1 - 2 = k * 2 + 1 by omega]
      exact this
def OwnF (w : World) (B : Nat) (v : Value) (l : List Fl) : Prop := w.ownsRow B 107 2 v l.length (flsOf l)
def OwnI (w : World) (B : Nat) (v : Value) (l : List Int) : Prop := w.ownsRow B 3 1 v l.length (nums .i64 l)
theorem infoFl : (Try.prog.info? 107).map (fun i => (i.zero, i.size, i.bytes)) = some (some (.agg #[.int .i64 0, .int .i64 0]), 2, 16) := by kernel_rfl
section
variable {ops : Array Oper} {rest : List Oper} {o : Oper} {a : Act} {Q : Exit → Act → World → Prop}
/-- append(v, fields...), the fields in a block that has just been made. -/
theorem app_fld {W : World} (new : List Fl) (cs : Array Value) (m : Nat) (hcs : cs = (flsOf new).toArray) (hm : new.length = m) (s x : Operand) (hgd : o.guard = none) (ho : o.op = .call { callee := .builtin .append, args := #[s, x], argTypes := #[108, 108] })
    (B : Nat) (v : Value) (l : List Fl) (hs : a.eval s = v) (HO : Hid (OwnF W B v l)) (hx : a.eval x = .slice (some ⟨W.heap.size, 0, none⟩) m m) (hB : B ≤ W.heap.size) (hl : Hid (l.length + m ≤ 4398046511104))
    (h : ∀ v' w', OwnF w' B v' (l ++ new) → Ext W w' v v' → wpList Try.prog ops Q rest (a.put o.dst v') w') : wpList Try.prog ops Q (o :: rest) a (W.alloc (.cells cs 107)) := by
  subst hcs
  obtain ⟨i0, hi, hz0, hz1, hz2⟩ := info_parts infoFl
  have hb := below_alloc W (.cells (flsOf new).toArray 107)
  have h3 := hl.out
  have hn := World.news_of_block (w := W.alloc (.cells (flsOf new).toArray 107)) (B := W.heap.size) (cs := (flsOf new).toArray) (t := 107) (fr := (0, 0)) (heap_alloc_new W _)
  refine wpList_append_own_at _ hgd s x 108 ho B 107 i0 (.agg #[.int .i64 0, .int .i64 0]) 2 16 Try.underlying108 hi hz0 hz1 hz2 (by decide) (by decide) v l.length (flsOf l) hs (own_below HO.out hb) ⟨W.heap.size, 0, none⟩ m m (flsOf new) hx (by rw [flsOf_length, hm]) (by simpa using hn) (flsOf_one _) (by unfold maxLen; omega) (by omega) (by simp; omega) ?_
  intro v' w' hown hg _ hat
  refine h v' w' ?_ ⟨grown_trans (grown_of_below hb _) hg, ?_⟩
  · unfold OwnF
    rw [List.length_append, flsOf_append, hm]
    exact hown
  · rcases hat with e | e
    · exact .inl e
    · exact .inr ⟨_, e, by simp⟩
/-- append(v, y), one number, in its box. -/
theorem app_int {W : World} {y : Int} (s x : Operand) (hgd : o.guard = none) (ho : o.op = .call { callee := .builtin .append, args := #[s, x], argTypes := #[41, 41] })
    (B : Nat) (v : Value) (l : List Int) (hs : a.eval s = v) (HO : Hid (OwnI W B v l)) (hx : a.eval x = .slice (some ⟨W.heap.size, 0, none⟩) 1 1) (hB : B ≤ W.heap.size) (hl : Hid (l.length + 1 ≤ 4398046511104))
    (h : ∀ v' w', OwnI w' B v' (l ++ [y]) → Ext W w' v v' → wpList Try.prog ops Q rest (a.put o.dst v') w') : wpList Try.prog ops Q (o :: rest) a (W.alloc (.cells #[.int .i64 y] 3)) := by
  obtain ⟨i0, hi, hz0, hz1, hz2⟩ := info_parts infoI
  have hb := below_alloc W (.cells #[.int .i64 y] 3)
  have h3 := hl.out
  have hn := World.news_of_block (w := W.alloc (.cells #[.int .i64 y] 3)) (B := W.heap.size) (cs := #[.int .i64 y]) (t := 3) (fr := (0, 0)) (heap_alloc_new W _)
  refine wpList_append_own_at _ hgd s x 41 ho B 3 i0 (.int .i64 0) 1 8 Try.underlying41 hi hz0 hz1 hz2 rfl (by decide) v l.length (nums .i64 l) hs (own_below HO.out hb) ⟨W.heap.size, 0, none⟩ 1 1 (nums .i64 [y]) hx (by simp [nums]) (by simpa [nums] using hn) (nums_one _ _) (by unfold maxLen; omega) (by omega) (by simp; omega) ?_
  intro v' w' hown hg _ hat
  refine h v' w' ?_ ⟨grown_trans (grown_of_below hb _) hg, ?_⟩
  · unfold OwnI
    rw [List.length_append, nums_append]
    exact hown
  · rcases hat with e | e
    · exact .inl e
    · exact .inr ⟨_, e, by simp⟩
end
def MorePost (l : List Fl) (n : Nat) (f : Fl) (B : Nat) (v : Value) (w : World) (e : Ending) (w' : World) : Prop := ∃ v', e = .returned v' ∧ OwnF w' B v' (l ++ List.replicate n f) ∧ Ext w w' v v'
set_option maxRecDepth 100000 in
set_option maxHeartbeats 2000000 in
theorem more_any (v : Value) (l : List Fl) (n : Nat) (f : Fl) (B : Nat) (w : World) (h : OwnF w B v l) (hB : B ≤ w.heap.size) (hl : l.length + n ≤ 4398046511104) :
    Calls Try.prog 79 #[v, .int .i64 n, .agg #[.int .i64 f.1, .int .i64 f.2]] w (MorePost l n f B v w) := by
  obtain ⟨f1, f2⟩ := f
  have hn : (n : Int) ≤ 4398046511104 := by omega
  have hb0 := below_alloc w (.cells #[.int .i64 f1, .int .i64 f2] 107)
  have hO1 : OwnF (w.alloc (.cells #[.int .i64 f1, .int .i64 f2] 107)) B v l := own_below h hb0
  have hE1 := ext_of_below hb0 v
  have c0 := box1_at w #[.int .i64 f1, .int .i64 f2] 107 0 (.int .i64 f1) rfl
  have c1 := box1_at w #[.int .i64 f1, .int .i64 f2] 107 1 (.int .i64 f2) rfl
  have hx : w.heap.size < (w.alloc (.cells #[.int .i64 f1, .int .i64 f2] 107)).heap.size := by simp
  have hw1 : B ≤ (w.alloc (.cells #[.int .i64 f1, .int .i64 f2] 107)).heap.size := by simp; omega
  have hvx : some w.heap.size ≠ v.ownBlock := fun e => by have := own_lt h _ e.symm; omega
  go_enter Try.func79, Try.ntmps79
  go_wp2
  obtain ⟨X, hX⟩ : ∃ X, X = w.heap.size := ⟨_, rfl⟩
  obtain ⟨w1, hW⟩ : ∃ w1, w1 = w.alloc (.cells #[.int .i64 f1, .int .i64 f2] 107) := ⟨_, rfl⟩
  rw [← hW, ← hX] at c0 c1
  rw [← hW] at hO1 hE1 hx hw1
  rw [← hX] at hx hvx
  rw [← hW, ← hX]
  have HO1 := Lib.hid hO1
  have HE1 := Lib.hid hE1
  have HC0 := Lib.hid c0
  have HC1 := Lib.hid c1
  have HX := Lib.hid hx
  have HW1 := Lib.hid hw1
  have HVX := Lib.hid hvx
  have HL := Lib.hid hl
  clear hO1 hE1 c0 c1 hx hw1 hvx hX hW h hb0 hl
  go_loopw [0, 7] (fun v0 i wr => ∃ j : Nat, j ≤ n ∧ i = .int .i64 j ∧ Hid (OwnF wr B v0 (l ++ List.replicate j (f1, f2))) ∧ Hid (Ext w1 wr v v0)) (fun _ i _ => n - (intOf i).toNat)
  case atStart => exact ⟨0, Nat.zero_le _, rfl, Lib.hid (by simpa using HO1.out), Lib.hid (Ext.refl _ _)⟩
  case round =>
    obtain ⟨j, hj, rfl, ho, he⟩ := hrel
    by_cases hlt : j < n
    · have k0 := he.out.grown.cell HC0.out HVX.out
      have k1 := he.out.grown.cell HC1.out HVX.out
      have HLL : Hid ((l ++ List.replicate j (f1, f2)).length + 1 ≤ 4398046511104) := Lib.hid (by simp; have := HL.out; omega)
      have hBw : B ≤ wr.heap.size := Nat.le_trans HW1.out he.out.grown.size
      have HCS : Hid (#[Value.int .i64 f1, .int .i64 f2] = (flsOf [(f1, f2)]).toArray) := Lib.hid rfl
      go_wp2_with (at_builtin; refine app_fld [(f1, f2)] #[.int .i64 f1, .int .i64 f2] 1 HCS.out rfl (.tmp 13) (.tmp 15) rfl rfl B _ _ rfl ho rfl hBw HLL ?_; intro v5 w5 ho5 he5; have HO5 := Lib.hid ho5; have HE5 := Lib.hid he5; clear ho5 he5)
      go_roundw
      case rel => exact ⟨j + 1, by omega, by go_num, Lib.hid (by have := HO5.out; rwa [List.append_assoc, ← List.replicate_succ'] at this), Lib.hid (he.out.trans HE5.out)⟩
      case measure => exact own_meas hlt
    · obtain rfl : j = n := by omega
      go_wp2
      go_ret
      exact ⟨_, rfl, ho.out, HE1.out.trans he.out⟩
end Go.Proofs.Ytkbboepopcebaaa
