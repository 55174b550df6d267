/- append onto a row of bytes of the call's own: laws for the walk. -/
import Derived.Test.YtkbboepopcebaaaProg
import Derived.Test.YtkbboepopcebaaaP
namespace Go.Proofs.Ytkbboepopcebaaa
open Go.RowKit

def Own8 (w : World) (B : Nat) (v : Value) (l : List Int) : Prop := w.ownsRow B 5 1 v l.length (nums .u8 l)
theorem Own8.below {w w1 : World} {B : Nat} {v : Value} {l : List Int} (h : Own8 w B v l) (hb : Below w.heap.size w w1) : Own8 w1 B v l := own_below h hb
theorem Own8.nil (w : World) (B : Nat) : Own8 w B (.slice none 0 0) [] := World.ownsRow_nil _ _ _ _
theorem Own8.reads {w : World} {B : Nat} {v : Value} {l : List Int} (h : Own8 w B v l) (hr : l.length ≤ reach) : NumsV w .u8 v l := own_nums h hr
theorem Own8.base {w : World} {B B' : Nat} {v : Value} {l : List Int} (h : Own8 w B v l) (hb : B' ≤ B) : Own8 w B' v l := own_base h hb
theorem infoB : (Try.prog.info? 5).map (fun i => (i.zero, i.size, i.bytes)) = some (some (.int .u8 0), 1, 1) := by kernel_rfl

section
variable {ops : Array Oper} {rest : List Oper} {o : Oper} {a : Act} {Q : Exit → Act → World → Prop}
/-- append(v, new...), the source at an address. -/
theorem app_at {W : World} (s x : Operand) (hgd : o.guard = none) (ho : o.op = .call { callee := .builtin .append, args := #[s, x], argTypes := #[22, 22] })
    (B : Nat) (v : Value) (l new : List Int) (hs : a.eval s = v) (HO : Hid (Own8 W B v l)) (ad : Addr) (m c : Nat) (hx : a.eval x = .slice (some ad) m c) (hm : Hid (new.length = m))
    (hnew : Hid (∀ (j : Nat) (u : Value), (nums .u8 new)[j]? = some u → W.cell? (ad.add j) = some u)) (hB : B ≤ W.heap.size) (hl : Hid (l.length + new.length ≤ reach))
    (h : ∀ v' w', Own8 w' B v' (l ++ new) → Below B W w' → W.grownBy w' v.ownBlock → (v'.ownBlock = v.ownBlock ∨ v'.ownBlock = some W.heap.size) → wpList Try.prog ops Q rest (a.put o.dst v') w') : wpList Try.prog ops Q (o :: rest) a W := by
  obtain ⟨i0, hi, hz0, hz1, hz2⟩ := info_parts infoB
  have h1 := HO.out
  have h2 := hm.out
  have h3 := hl.out
  unfold reach at h3
  refine wpList_append_own_at W hgd s x 22 ho B 5 i0 (.int .u8 0) 1 1 Try.underlying22 hi hz0 hz1 hz2 rfl (by decide) v l.length (nums .u8 l) hs h1 ad m c (nums .u8 new) hx (by rw [nums_length, h2]; omega) hnew.out (nums_one _ _) (by unfold maxLen; omega) (by omega) hB ?_
  intro v' w' hown hg _ hat
  refine h v' w' ?_ ((Below.refl _ _).grown hg hB (own_ge h1)) hg hat
  unfold Own8
  rw [List.length_append, nums_append, h2]
  exact hown
/-- append(v, y), one byte, in its box. -/
theorem app_byte {W : World} {y : Int} (s x : Operand) (hgd : o.guard = none) (ho : o.op = .call { callee := .builtin .append, args := #[s, x], argTypes := #[22, 22] })
    (B : Nat) (v : Value) (l : List Int) (hs : a.eval s = v) (HO : Hid (Own8 W B v l)) (hx : a.eval x = .slice (some ⟨W.heap.size, 0, none⟩) 1 1) (hB : B ≤ W.heap.size) (hl : Hid (l.length + 1 ≤ reach))
    (h : ∀ v' w', Own8 w' B v' (l ++ [y]) → Below B W w' → wpList Try.prog ops Q rest (a.put o.dst v') w') : wpList Try.prog ops Q (o :: rest) a (W.alloc (.cells #[.int .u8 y] 5)) := by
  refine app_at s x hgd ho B v l [y] hs (Lib.hid (HO.out.below (below_alloc _ _))) ⟨W.heap.size, 0, none⟩ 1 1 hx (Lib.hid rfl) (Lib.hid ?_) (by simp; omega) (Lib.hid (by have := hl.out; simpa using this)) ?_
  · intro j u hj
    match j, hj with
    | 0, hj => simp [nums] at hj; subst hj; simp [Addr.add]
  · intro v' w' hown hb _ _
    exact h v' w' hown (((Below.refl _ _).alloc hB _).trans hb)
/-- append(v, src...), the source nil or not. -/
theorem app_list {W : World} (s x : Operand) (hgd : o.guard = none) (ho : o.op = .call { callee := .builtin .append, args := #[s, x], argTypes := #[22, 22] })
    (B : Nat) (v src : Value) (l new : List Int) (hs : a.eval s = v) (HO : Hid (Own8 W B v l)) (hx : a.eval x = src) (hnew : Hid (NumsV W .u8 src new)) (hB : B ≤ W.heap.size) (hl : Hid (l.length + new.length ≤ reach))
    (h : ∀ v' w', Own8 w' B v' (l ++ new) → Below B W w' → wpList Try.prog ops Q rest (a.put o.dst v') w') : wpList Try.prog ops Q (o :: rest) a W := by
  obtain ⟨A, c, rfl, h1, h2, h3⟩ := hnew.out
  cases A with
  | none =>
    obtain rfl := h2 rfl
    obtain rfl : new = [] := List.eq_nil_of_length_eq_zero (by omega)
    obtain ⟨i0, hi, hz0, hz1, hz2⟩ := info_parts infoB
    refine wpList_append_own_none hgd s x 22 ho B 5 i0 1 Try.underlying22 hi v l.length (nums .u8 l) hs HO.out (by simpa using hx) ?_
    refine h v W ?_ (Below.refl _ _)
    rw [List.append_nil]
    exact HO.out
  | some ad => exact app_at s x hgd ho B v l new hs HO ad _ c hx (Lib.hid rfl) (Lib.hid h3.src) hB hl fun v' w' hown hb _ _ => h v' w' hown hb
end

/-- n in s bytes, the highest first. -/
def be (n : Int) : Nat → List Int
  | 0 => []
  | s + 1 => (n / 256 ^ s % 256) :: be n s
theorem be_length (n : Int) (s : Nat) : (be n s).length = s := by induction s with | zero => rfl | succ s ih => simp [be, ih]
end Go.Proofs.Ytkbboepopcebaaa
