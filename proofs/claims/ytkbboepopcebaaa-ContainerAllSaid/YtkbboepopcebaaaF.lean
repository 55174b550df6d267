/- Words shared by all texts of this seat: slices that read as lists; owned rows. Plain definitions and lemmas: no program. -/
import Derived.WalkKit
import Derived.OwnWalk
import Derived.Maps.AppendAt
import Derived.Laws.AppendOwnNone
import Derived.Laws.OwnMore
import Derived.Lib.Hide
import Derived.Deep.Draws
import Derived.Deep.LoopGhost
import Derived.Deep.QuietTactic
import Derived.BigQuiet
import Derived.KernelRfl
import Derived.Outline
import Derived.Test.YtkbboepopcebaaaProg
import Derived.Laws.EntriesVeiled
namespace Go.Proofs.Ytkbboepopcebaaa
open Go.RowKit

def reach : Nat := 140737488351232
theorem reach_lt : reach < 9223372036854775807 := by decide
def nums (k : IntKind) (l : List Int) : List Value := l.map (Value.int k)
theorem nums_length (k : IntKind) (l : List Int) : (nums k l).length = l.length := by simp [nums]
theorem nums_append (k : IntKind) (xs ys : List Int) : nums k (xs ++ ys) = nums k xs ++ nums k ys := by simp [nums]
theorem nums_one (k : IntKind) (l : List Int) : ∀ u ∈ nums k l, u.oneCell' = true := by
  intro u hu; simp only [nums, List.mem_map] at hu; obtain ⟨z, _, rfl⟩ := hu; rfl
theorem nums_get (k : IntKind) (l : List Int) (j : Nat) (h : j < l.length) : (nums k l)[j]? = some (.int k (l.getD j 0)) := by
  simp [nums, List.getD_eq_getElem?_getD, h]

/-- The slice reads as these whole numbers. -/
def NumsR (w : World) (k : IntKind) (A : Option Addr) (l : List Int) : Prop :=
  l.length ≤ reach ∧ (0 < l.length → ∃ b o, A = some ⟨b, o, none⟩ ∧ ∀ j : Nat, j < l.length → w.cell? ⟨b, o + j, none⟩ = some (.int k (l.getD j 0)))

theorem cell_keep {w w1 : World} (h : Below w.heap.size w w1) {a : Addr} {v : Value} (hc : w.cell? a = some v) : w1.cell? a = some v :=
  (h.cell (World.block_lt_of_cell? w a hc)).trans hc
theorem NumsR.mono {w w1 : World} {k : IntKind} {A : Option Addr} {l : List Int} (h : NumsR w k A l) (hb : Below w.heap.size w w1) : NumsR w1 k A l :=
  ⟨h.1, fun hn => by obtain ⟨b, o, e, hc⟩ := h.2 hn; exact ⟨b, o, e, fun j hj => cell_keep hb (hc j hj)⟩⟩
theorem NumsR.nil (w : World) (k : IntKind) (A : Option Addr) : NumsR w k A [] := ⟨by simp [reach], fun h => by simp at h⟩

/-- A slice value that reads as these whole numbers. -/
def NumsV (w : World) (k : IntKind) (v : Value) (l : List Int) : Prop :=
  ∃ A c, v = .slice A l.length c ∧ l.length ≤ c ∧ (A = none → c = 0) ∧ NumsR w k A l
theorem NumsV.mono {w w1 : World} {k : IntKind} {v : Value} {l : List Int} (h : NumsV w k v l) (hb : Below w.heap.size w w1) : NumsV w1 k v l := by
  obtain ⟨A, c, e, h1, h2, h3⟩ := h; exact ⟨A, c, e, h1, h2, h3.mono hb⟩
theorem NumsV.nil (w : World) (k : IntKind) : NumsV w k (.slice none 0 0) [] := ⟨none, 0, rfl, Nat.le_refl _, fun _ => rfl, NumsR.nil w k none⟩
/-- What a law on append wants of its source. -/
theorem NumsR.src {w : World} {k : IntKind} {ad : Addr} {l : List Int} (h : NumsR w k (some ad) l) : ∀ j v, (nums k l)[j]? = some v → w.cell? (ad.add j) = some v := by
  intro j v hv
  have hj : j < l.length := by
    rcases Nat.lt_or_ge j l.length with h | h
    · exact h
    · simp [nums, List.getElem?_eq_none h] at hv
  obtain ⟨b, o, e, hc⟩ := h.2 (by omega)
  obtain rfl := Option.some.inj e
  rw [nums_get k l j hj] at hv
  rw [← Option.some.inj hv, Addr.add_lit]
  exact hc j hj

/-- A slice's cells, from its address on (structs lie flat). -/
def CellsR (w : World) (A : Option Addr) (cs : List Value) : Prop :=
  0 < cs.length → ∃ b o, A = some ⟨b, o, none⟩ ∧ ∀ (j : Nat) (v : Value), cs[j]? = some v → w.cell? ⟨b, o + j, none⟩ = some v
theorem CellsR.mono {w w1 : World} {A : Option Addr} {cs : List Value} (h : CellsR w A cs) (hb : Below w.heap.size w w1) : CellsR w1 A cs :=
  fun hn => by obtain ⟨b, o, e, hc⟩ := h hn; exact ⟨b, o, e, fun j v hv => cell_keep hb (hc j v hv)⟩
theorem CellsR.src {w : World} {ad : Addr} {cs : List Value} (h : CellsR w (some ad) cs) : ∀ (j : Nat) (v : Value), cs[j]? = some v → w.cell? (ad.add j) = some v := by
  intro j v hv
  have hj : 0 < cs.length := by
    rcases Nat.eq_zero_or_pos cs.length with h0 | h0
    · simp [List.eq_nil_of_length_eq_zero h0] at hv
    · exact h0
  obtain ⟨b, o, e, hc⟩ := h hj
  obtain rfl := Option.some.inj e
  rw [Addr.add_lit]
  exact hc j v hv
theorem own_cells {w : World} {base n size : Nat} {e : TypeId} {v : Value} {xs : List Value} (h : w.ownsRow base e size v n xs) : ∃ A c, v = .slice A n c ∧ n ≤ c ∧ (A = none → c = 0) ∧ CellsR w A xs := by
  rcases h.2 with ⟨rfl, h0⟩ | ⟨g, cap, cur, rfl, _, _, hn, _⟩
  · refine ⟨none, 0, by rw [h0], by omega, fun _ => rfl, fun hl => ?_⟩
    have := h.1
    subst h0
    simp at this
    subst this
    simp at hl
  · exact ⟨_, cap, rfl, hn, by simp, fun _ => ⟨g, 0, rfl, fun j u hu => by
      have := h.cells (g := g) rfl j u hu
      rwa [Addr.add_lit] at this⟩⟩

theorem below_drewN {B : Nat} {w W : World} (h : Below B w W) (n : Nat) : Below B w (W.drewN n) := ⟨h.os, h.tape, h.output, h.size, h.block⟩
theorem below_trans {B : Nat} {w w1 w2 : World} (h : Below B w w1) (hB : B ≤ w1.heap.size) (k : Below w1.heap.size w1 w2) : Below B w w2 :=
  h.trans ⟨k.os, k.tape, k.output, k.size, fun i hi => k.block i (Nat.lt_of_lt_of_le hi hB)⟩
theorem below_step {w w1 w2 : World} (h : Below w.heap.size w w1) (k : Below w1.heap.size w1 w2) : Below w.heap.size w w2 := below_trans h h.size k
theorem below_alloc (w : World) (o : Obj) : Below w.heap.size w (w.alloc o) := (Below.refl _ _).alloc (Nat.le_refl _) o
theorem grown_of_below {w w1 : World} (h : Below w.heap.size w w1) (row : Option Nat) : w.grownBy w1 row := ⟨h.os, h.tape, h.output, h.size, fun i hi _ => h.block i hi⟩

section
variable {w w1 : World} {base : Nat} {e : TypeId} {size n : Nat} {v : Value} {xs : List Value}
theorem own_below (h : w.ownsRow base e size v n xs) (hb : Below w.heap.size w w1) : w1.ownsRow base e size v n xs :=
  h.kept (grown_of_below hb none) (by cases v.ownBlock <;> simp)
theorem own_base {b : Nat} (h : w.ownsRow base e size v n xs) (hb : b ≤ base) : w.ownsRow b e size v n xs := by
  refine ⟨h.1, ?_⟩
  rcases h.2 with h' | ⟨g, cap, cur, rfl, h2, h3⟩
  · exact .inl h'
  · exact .inr ⟨g, cap, cur, rfl, by omega, h3⟩
theorem own_ge (h : w.ownsRow base e size v n xs) (k : Nat) (hk : v.ownBlock = some k) : base ≤ k := (h.lt k hk).1
theorem own_lt (h : w.ownsRow base e size v n xs) (k : Nat) (hk : v.ownBlock = some k) : k < w.heap.size := (h.lt k hk).2
theorem own_shape (h : w.ownsRow base e size v n xs) : ∃ A c, v = .slice A n c ∧ n ≤ c := by
  rcases h.2 with ⟨rfl, rfl⟩ | ⟨g, cap, cur, rfl, _, _, hn, _⟩
  · exact ⟨none, 0, rfl, Nat.le_refl _⟩
  · exact ⟨_, cap, rfl, hn⟩
theorem own_other {row : Option Nat} (h : w.ownsRow base e size v n xs) (hg : w.grownBy w1 row) (hne : v.ownBlock = none ∨ v.ownBlock ≠ row) : w1.ownsRow base e size v n xs := h.kept hg hne
end
theorem own_type_ne {w : World} {b b' : Nat} {e e' : TypeId} {s s' n n' : Nat} {v v' : Value} {xs xs' : List Value} (h : w.ownsRow b e s v n xs) (h' : w.ownsRow b' e' s' v' n' xs') (hne : e ≠ e') : v.ownBlock = none ∨ v.ownBlock ≠ v'.ownBlock := by
  rcases h.2 with ⟨rfl, _⟩ | ⟨g, cap, cur, rfl, _, hh, _⟩
  · exact .inl rfl
  · refine .inr fun hk => ?_
    rcases h'.2 with ⟨rfl, _⟩ | ⟨g', cap', cur', rfl, _, hh', _⟩
    · simp [Value.ownBlock] at hk
    · have : g = g' := by simpa [Value.ownBlock] using hk
      subst this
      rw [hh] at hh'
      injection hh' with hh'
      injection hh' with _ ht
      exact hne ht
/-- What is owned reads. -/
theorem own_nums {w : World} {base n : Nat} {e : TypeId} {k : IntKind} {v : Value} {l : List Int} (h : w.ownsRow base e 1 v n (nums k l)) (hr : l.length ≤ reach) : NumsV w k v l := by
  have hl : n = l.length := by have := h.1; simp [nums] at this; omega
  subst hl
  rcases h.2 with ⟨rfl, h0⟩ | ⟨g, cap, cur, rfl, _, _, hn, _⟩
  · obtain rfl : l = [] := List.eq_nil_of_length_eq_zero h0
    exact NumsV.nil w k
  · exact ⟨_, cap, rfl, hn, by simp, hr, fun hn => ⟨g, 0, rfl, fun j hj => by
      have := h.cells (g := g) rfl j _ (nums_get k l j hj)
      rwa [Addr.add_lit] at this⟩⟩
end Go.Proofs.Ytkbboepopcebaaa
namespace Go.Proofs.Ytkbboepopcebaaa
open Go.RowKit

theorem info5 : (Try.prog.info? 5).map (fun i => (i.zero, i.size, i.bytes)) = some (some (.int .u8 0), 1, 1) := by kernel_rfl

theorem eq_step (la lb : List Int) (h : la.length = lb.length) (k : Nat) (hk : k < la.length) (he : la.take k = lb.take k) : (la.take (k+1) = lb.take (k+1)) ↔ la.getD k 0 = lb.getD k 0 := by
  have hk2 : k < lb.length := by omega
  have e1 := List.take_succ_eq_append_getElem hk
  have e2 := List.take_succ_eq_append_getElem hk2
  rw [e1, e2, he, List.append_right_inj]
  simp [List.getD_eq_getElem?_getD, hk, hk2]

set_option maxRecDepth 100000 in
theorem same_ne (A B : Option Addr) (ca cb : Nat) (n m : Nat) (w : World) (hne : n ≠ m) : 
    Calls Try.prog 27 #[.slice A n ca, .slice B m cb] w fun e w' => e = .returned (.bool false) ∧ w = w' := by
  have h1 : (!(((n : Nat) : Int) == (m : Int))) = true := by simp; omega
  go_enter Try.func27, Try.ntmps27
  go_wp2
  go_ret
  exact ⟨rfl, rfl⟩

theorem ret_bool {a b : Bool} (h : a = b) : Ending.returned (.bool a) = .returned (.bool b) := by rw [h]

set_option maxRecDepth 100000 in
theorem same_eq (A B : Option Addr) (ca cb : Nat) (la lb : List Int) (w : World) (n : Nat) (hla : la.length = n) (hlb : lb.length = n) (ha : NumsR w .u8 A la) (hb : NumsR w .u8 B lb) :
    Calls Try.prog 27 #[.slice A n ca, .slice B n cb] w fun e w' => e = .returned (.bool (decide (la = lb))) ∧ ∃ k, w' = w.drewN k := by
  have h1 : (!(((n : Nat) : Int) == (n : Int))) = false := by simp
  have HA := Lib.hid hla; clear hla
  have HB := Lib.hid hlb; clear hlb
  have Ha := Lib.hid ha; clear ha
  have Hb := Lib.hid hb; clear hb
  go_enter Try.func27, Try.ntmps27
  go_wp2
  go_loopw [5] (fun i wr => ∃ k : Nat, k ≤ n ∧ i = .int .i64 k ∧ la.take k = lb.take k ∧ ∃ m, wr = w.drewN m) (fun i _ => n - (intOf i).toNat)
  case atStart => exact ⟨0, Nat.zero_le _, rfl, rfl, 0, rfl⟩
  case round =>
    obtain ⟨k, hk, rfl, he, m, rfl⟩ := hrel
    have he' := Lib.hid he; clear he
    by_cases hlt : k < n
    · have hst := Lib.hid (eq_step la lb (by have := HA.out; have := HB.out; omega) k (by have := HA.out; omega) he'.out)
      obtain ⟨b1, o1, rfl, hca⟩ := Ha.out.2 (by have := HA.out; omega)
      obtain ⟨b2, o2, rfl, hcb⟩ := Hb.out.2 (by have := HB.out; omega)
      have hra := hca k (by have := HA.out; omega)
      have hrb := hcb k (by have := HB.out; omega)
      clear hca hcb
      have hmx : n ≤ 9223372036854775807 := by have := Ha.out.1; have := HA.out; unfold reach at *; omega
      obtain ⟨x, hx⟩ : ∃ x, x = la.getD k 0 := ⟨_, rfl⟩
      obtain ⟨y, hy⟩ : ∃ y, y = lb.getD k 0 := ⟨_, rfl⟩
      rw [← hx] at hra
      rw [← hy] at hrb
      have HX := Lib.hid hx; clear hx
      have HY := Lib.hid hy; clear hy
      by_cases hxy : x = y
      · have hd : (x != y) = false := by simp [hxy]
        have HXY := Lib.hid hxy; clear hxy
        go_wp2
        go_quiet (fail)
        go_wp2
        go_roundw
        case rel => exact ⟨k + 1, by omega, by go_num, hst.out.2 (by rw [← HX.out, ← HY.out]; exact HXY.out), _, rfl⟩
        case measure => simp [intOf]; omega
      · have hd : (x != y) = true := by simp [hxy]
        have HXY := Lib.hid hxy; clear hxy
        go_wp2
        go_quiet (fail)
        go_wp2
        go_ret
        refine ⟨ret_bool ?_, _, World.drewN_drewN ..⟩
        symm
        simp only [decide_eq_false_iff_not]
        intro e
        apply HXY.out
        rw [HX.out, HY.out, e]
    · go_wp2
      go_ret
      have : k = n := by omega
      subst this
      refine ⟨ret_bool ?_, _, rfl⟩
      have h2 := he'.out
      rw [List.take_of_length_le (by have := HA.out; omega), List.take_of_length_le (by have := HB.out; omega)] at h2
      simp [h2]

/-- sameBytes: are two lists the same? -/
theorem sameBytes_any (A B : Option Addr) (ca cb : Nat) (la lb : List Int) (n m : Nat) (w : World) (hn : n = la.length) (hm : m = lb.length) (ha : NumsR w .u8 A la) (hb : NumsR w .u8 B lb) :
    Calls Try.prog 27 #[.slice A n ca, .slice B m cb] w fun e w' => e = .returned (.bool (decide (la = lb))) ∧ ∃ k, w' = w.drewN k := by
  by_cases h : n = m
  · subst h
    exact same_eq A B ca cb la lb w n hn.symm hm.symm ha hb
  · refine (same_ne A B ca cb n m w h).mono ?_
    rintro e w' ⟨rfl, rfl⟩
    refine ⟨ret_bool ?_, 0, rfl⟩
    symm
    simp only [decide_eq_false_iff_not]
    intro e
    apply h
    rw [hn, hm, e]

set_option maxRecDepth 100000 in
theorem own_some (ad : Addr) (n c : Nat) (xs : List Value) (w : World) (hx : xs.length = n) (h : ∀ j v, xs[j]? = some v → w.cell? (ad.add j) = some v) (h1 : ∀ u ∈ xs, u.oneCell' = true) (hl : n ≤ reach) :
    Calls Try.prog 30 #[.slice (some ad) n c] w fun e w' => ∃ v, e = .returned v ∧ w'.ownsRow w.heap.size 5 1 v n xs ∧ Below w.heap.size w w' := by
  obtain ⟨i0, hi, hz0, hz1, hz2⟩ := info_parts info5
  have HX := Lib.hid hx; clear hx
  have HL := Lib.hid hl; clear hl
  go_enter Try.func30, Try.ntmps30
  go_wp2_with (at_builtin; refine wpList_append_own _ rfl _ _ 22 rfl w.heap.size 5 i0 (.int .u8 0) 1 1 Try.underlying22 hi hz0 hz1 hz2 rfl (by decide) _ _ _ rfl (World.ownsRow_nil _ _ _ _) ad n c xs rfl ?c0 h h1 ?c3 ?c4 (Nat.le_refl _) ?_)
  case c0 => have := HX.out; omega
  case c3 => have := HL.out; unfold reach at this; unfold maxLen; omega
  case c4 => have := HL.out; unfold reach at this; omega
  intro v' w1 hown hg _
  have hown2 : w1.ownsRow w.heap.size 5 1 v' n xs := by simpa only [Nat.zero_add, List.nil_append] using hown
  clear hown
  go_wp2
  go_ret
  exact ⟨v', rfl, hown2, (Below.refl _ _).grown hg (Nat.le_refl _) (by simp [Value.ownBlock])⟩
theorem own_none (w : World) :
    Calls Try.prog 30 #[.slice none 0 0] w fun e w' => ∃ v, e = .returned v ∧ w'.ownsRow w.heap.size 5 1 v 0 [] ∧ Below w.heap.size w w' := by
  go_enter Try.func30, Try.ntmps30
  go_wp2
  go_ret
  exact ⟨_, rfl, World.ownsRow_nil _ _ _ _, Below.refl _ _⟩
/-- own: the same bytes in new memory. -/
theorem own_any (v : Value) (l : List Int) (w : World) (h : NumsV w .u8 v l) :
    Calls Try.prog 30 #[v] w fun e w' => ∃ v', e = .returned v' ∧ w'.ownsRow w.heap.size 5 1 v' l.length (nums .u8 l) ∧ Below w.heap.size w w' := by
  obtain ⟨A, c, rfl, h1, h2, h3⟩ := h
  cases A with
  | some ad => exact own_some ad _ c (nums .u8 l) w (nums_length _ _) h3.src (nums_one _ _) h3.1
  | none =>
    obtain rfl := h2 rfl
    obtain rfl : l = [] := List.eq_nil_of_length_eq_zero (by omega)
    exact own_none w
end Go.Proofs.Ytkbboepopcebaaa
namespace Go.Proofs.Ytkbboepopcebaaa
open Go.RowKit

def PartsR (w : World) (A : Option Addr) (ll : List (List Int)) : Prop :=
  ll.length ≤ reach ∧ (0 < ll.length → ∃ b o, A = some ⟨b, o, none⟩ ∧ ∀ j : Nat, j < ll.length → ∃ v, w.cell? ⟨b, o + j, none⟩ = some v ∧ NumsV w .u8 v (ll.getD j []))
def PartsV (w : World) (v : Value) (ll : List (List Int)) : Prop :=
  ∃ A c, v = .slice A ll.length c ∧ ll.length ≤ c ∧ (A = none → c = 0) ∧ PartsR w A ll
theorem PartsR.mono {w w1 : World} {A : Option Addr} {ll : List (List Int)} (h : PartsR w A ll) (hb : Below w.heap.size w w1) : PartsR w1 A ll :=
  ⟨h.1, fun hn => by obtain ⟨b, o, e, hc⟩ := h.2 hn; exact ⟨b, o, e, fun j hj => by obtain ⟨v, h1, h2⟩ := hc j hj; exact ⟨v, cell_keep hb h1, h2.mono hb⟩⟩⟩
theorem PartsV.mono {w w1 : World} {v : Value} {ll : List (List Int)} (h : PartsV w v ll) (hb : Below w.heap.size w w1) : PartsV w1 v ll := by
  obtain ⟨A, c, e, h1, h2, h3⟩ := h; exact ⟨A, c, e, h1, h2, h3.mono hb⟩

/-- No two of these slices lie in one block. -/
def Apart (vs : List Value) : Prop := ∀ i j, i < j → j < vs.length → ∀ k, (vs.getD i undef).ownBlock = some k → (vs.getD j undef).ownBlock ≠ some k
/-- The slice v, the call's own, holds the slices vs; each is the call's own, and reads as its part. -/
structure PartsOv (w : World) (B : Nat) (v : Value) (ll : List (List Int)) (vs : List Value) : Prop where
  len : vs.length = ll.length
  own : w.ownsRow B 22 1 v ll.length vs
  each : ∀ j, j < ll.length → w.ownsRow B 5 1 (vs.getD j undef) (ll.getD j []).length (nums .u8 (ll.getD j []))
  apart : Apart vs
def PartsO (w : World) (B : Nat) (v : Value) (ll : List (List Int)) : Prop := ∃ vs : List Value, PartsOv w B v ll vs

theorem PartsOv.nil (w : World) (B : Nat) : PartsOv w B (.slice none 0 0) [] [] := ⟨rfl, World.ownsRow_nil _ _ _ _, fun j hj => by simp at hj, fun i j _ h => by simp at h⟩
theorem PartsO.nil (w : World) (B : Nat) : PartsO w B (.slice none 0 0) [] := ⟨[], PartsOv.nil w B⟩
theorem PartsOv.below {w w1 : World} {B : Nat} {v : Value} {ll : List (List Int)} {vs : List Value} (h : PartsOv w B v ll vs) (hb : Below w.heap.size w w1) : PartsOv w1 B v ll vs :=
  ⟨h.len, own_below h.own hb, fun j hj => own_below (h.each j hj) hb, h.apart⟩
theorem PartsO.below {w w1 : World} {B : Nat} {v : Value} {ll : List (List Int)} (h : PartsO w B v ll) (hb : Below w.heap.size w w1) : PartsO w1 B v ll := by
  obtain ⟨vs, h⟩ := h; exact ⟨vs, h.below hb⟩
theorem PartsO.base {w : World} {B B' : Nat} {v : Value} {ll : List (List Int)} (h : PartsO w B v ll) (hb : B' ≤ B) : PartsO w B' v ll := by
  obtain ⟨vs, h⟩ := h
  exact ⟨vs, h.len, own_base h.own hb, fun j hj => own_base (h.each j hj) hb, h.apart⟩
/-- One part more, in a block that was made since (w1 is the world in which the new slice is appended). -/
theorem PartsOv.snoc {w w1 w2 : World} {B b : Nat} {v v' p : Value} {ll : List (List Int)} {l : List Int} {vs : List Value} (hB : B ≤ b) (hw : w.heap.size ≤ b) (h : PartsOv w B v ll vs) (hb : Below w.heap.size w w1)
    (hp : w1.ownsRow b 5 1 p l.length (nums .u8 l)) (hown : w2.ownsRow B 22 1 v' (ll.length + 1) (vs ++ [p])) (hg : w1.grownBy w2 v.ownBlock) :
    PartsOv w2 B v' (ll ++ [l]) (vs ++ [p]) := by
  obtain ⟨h0, h1, h2, h3⟩ := h
  have h1' := own_below h1 hb
  refine ⟨by simp [h0], by simpa using hown, fun j hj => ?_, ?_⟩
  · rcases Nat.lt_or_ge j ll.length with hl | hl
    · have e1 : (vs ++ [p]).getD j undef = vs.getD j undef := by simp [List.getD_eq_getElem?_getD, List.getElem?_append, h0, hl]
      have e2 : (ll ++ [l]).getD j [] = ll.getD j [] := by simp [List.getD_eq_getElem?_getD, List.getElem?_append, hl]
      rw [e1, e2]
      exact own_other (own_below (h2 j hl) hb) hg (own_type_ne (own_below (h2 j hl) hb) h1' (by decide))
    · have hj' : j = ll.length := by simp at hj; omega
      subst hj'
      have e1 : (vs ++ [p]).getD ll.length undef = p := by simp [List.getD_eq_getElem?_getD, h0]
      have e2 : (ll ++ [l]).getD ll.length [] = l := by simp [List.getD_eq_getElem?_getD]
      rw [e1, e2]
      exact own_base (own_other hp hg (own_type_ne hp h1' (by decide))) hB
  · intro i j hij hj k hk
    simp only [List.length_append, List.length_singleton] at hj
    have e1 : (vs ++ [p]).getD i undef = vs.getD i undef := by simp [List.getD_eq_getElem?_getD, List.getElem?_append, show i < vs.length by omega]
    rw [e1] at hk
    rcases Nat.lt_or_ge j vs.length with hl | hl
    · have e2 : (vs ++ [p]).getD j undef = vs.getD j undef := by simp [List.getD_eq_getElem?_getD, List.getElem?_append, hl]
      rw [e2]
      exact h3 i j hij hl k hk
    · have hj' : j = vs.length := by omega
      subst hj'
      have e2 : (vs ++ [p]).getD vs.length undef = p := by simp [List.getD_eq_getElem?_getD]
      rw [e2]
      intro hpk
      have g1 := own_lt (h2 i (by omega)) k hk
      have g2 := own_ge hp k hpk
      omega
/-- What is owned reads. -/
theorem PartsO.reads {w : World} {B : Nat} {v : Value} {ll : List (List Int)} (h : PartsO w B v ll) (hn : ll.length ≤ reach) (hr : ∀ l ∈ ll, l.length ≤ reach) : PartsV w v ll := by
  obtain ⟨vs, h0, h1, h2, h3⟩ := h
  rcases h1.2 with ⟨rfl, h4⟩ | ⟨g, cap, cur, rfl, _, _, hc, _⟩
  · obtain rfl : ll = [] := List.eq_nil_of_length_eq_zero h4
    exact ⟨none, 0, rfl, Nat.le_refl _, fun _ => rfl, hn, fun h => by simp at h⟩
  · refine ⟨_, cap, rfl, hc, by simp, hn, fun hp => ⟨g, 0, rfl, fun j hj => ⟨vs.getD j undef, ?_, ?_⟩⟩⟩
    · rw [← Addr.add_lit]
      refine h1.cells (g := g) rfl j _ ?_
      simp [List.getD_eq_getElem?_getD, show j < vs.length by omega]
    · refine own_nums (h2 j hj) ?_
      have : ll.getD j [] = ll[j] := by simp [List.getD_eq_getElem?_getD, hj]
      rw [this]
      exact hr _ (List.getElem_mem _)
theorem take_snoc' {α : Type} (ll : List α) (k : Nat) (d : α) (h : k < ll.length) : ll.take (k + 1) = ll.take k ++ [ll.getD k d] := by
  rw [List.take_succ_eq_append_getElem h]
  simp [List.getD_eq_getElem?_getD, h]

/-- A type of a section. -/
structure Ty where
  i : Int
  o : Int
  m : Int
  deriving DecidableEq
def tyCells (t : Ty) : List Value := [.int .i64 t.i, .int .i64 t.o, .int .i64 t.m]
def tysOf (ts : List Ty) : List Value := ts.flatMap tyCells
theorem tysOf_length (ts : List Ty) : (tysOf ts).length = ts.length * 3 := by
  induction ts with
  | nil => rfl
  | cons t r ih => simp only [tysOf, List.flatMap_cons, List.length_append] at *; rw [ih]; simp [tyCells]; omega
theorem tysOf_append (xs ys : List Ty) : tysOf (xs ++ ys) = tysOf xs ++ tysOf ys := by simp [tysOf]
theorem tysOf_one (ts : List Ty) : ∀ u ∈ tysOf ts, u.oneCell' = true := by
  intro u hu
  simp only [tysOf, List.mem_flatMap, tyCells] at hu
  obtain ⟨t, _, h⟩ := hu
  simp at h
  rcases h with rfl | rfl | rfl <;> rfl
def ty0 : Ty := ⟨0, 0, 0⟩
theorem tysOf_at (ts : List Ty) : ∀ k, k < ts.length → (tysOf ts)[k * 3]? = some (.int .i64 (ts.getD k ty0).i) ∧ (tysOf ts)[k * 3 + 1]? = some (.int .i64 (ts.getD k ty0).o) ∧ (tysOf ts)[k * 3 + 2]? = some (.int .i64 (ts.getD k ty0).m) := by
  induction ts with
  | nil => intro k h; simp at h
  | cons t r ih =>
    intro k hk
    cases k with
    | zero => simp [tysOf, tyCells]
    | succ k =>
      have := ih k (by simpa using hk)
      simp only [tysOf, List.flatMap_cons, List.getD_cons_succ] at *
      have hl : (tyCells t).length = 3 := rfl
      rw [List.getElem?_append_right (by omega), List.getElem?_append_right (by omega), List.getElem?_append_right (by omega), hl]
      rw [show (k + 1) * 3 - 3 = k * 3 by omega, show (k + 1) * 3 + 1 - 3 = k * 3 + 1 by omega, show (k + 1) * 3 + 2 - 3 = k * 3 + 2 by omega]
      exact this
def TypesV (w : World) (v : Value) (ts : List Ty) : Prop :=
  ∃ A c, v = .slice A ts.length c ∧ ts.length ≤ c ∧ (A = none → c = 0) ∧ ts.length ≤ reach ∧ CellsR w A (tysOf ts)
theorem TypesV.mono {w w1 : World} {v : Value} {ts : List Ty} (h : TypesV w v ts) (hb : Below w.heap.size w w1) : TypesV w1 v ts := by
  obtain ⟨A, c, e, h1, h2, h3, h4⟩ := h; exact ⟨A, c, e, h1, h2, h3, h4.mono hb⟩
/-- What the walk reads at the k-th type. -/
theorem types_at {w : World} {A : Option Addr} {ts : List Ty} (h : CellsR w A (tysOf ts)) (k : Nat) (hk : k < ts.length) : ∃ b o, A = some ⟨b, o, none⟩ ∧
    w.cell? ⟨b, o + k * 3, none⟩ = some (.int .i64 (ts.getD k ty0).i) ∧ w.cell? ⟨b, o + k * 3 + 1, none⟩ = some (.int .i64 (ts.getD k ty0).o) ∧ w.cell? ⟨b, o + k * 3 + 2, none⟩ = some (.int .i64 (ts.getD k ty0).m) := by
  obtain ⟨b, o, e, hc⟩ := h (by rw [tysOf_length]; omega)
  obtain ⟨h1, h2, h3⟩ := tysOf_at ts k hk
  exact ⟨b, o, e, hc _ _ h1, hc _ _ h2, hc _ _ h3⟩

/-- A container. -/
structure Cont where
  types : List Ty
  codes : List (List Int)
  subs : List (List Int)
  data : List Int
  size : Int
  deriving DecidableEq
def ContV (w : World) (v : Value) (c : Cont) : Prop :=
  ∃ vt vc vs vd, v = .agg #[vt, vc, vs, vd, .int .i64 c.size] ∧ TypesV w vt c.types ∧ PartsV w vc c.codes ∧ PartsV w vs c.subs ∧ NumsV w .u8 vd c.data
theorem ContV.mono {w w1 : World} {v : Value} {c : Cont} (h : ContV w v c) (hb : Below w.heap.size w w1) : ContV w1 v c := by
  obtain ⟨vt, vc, vs, vd, e, h1, h2, h3, h4⟩ := h; exact ⟨vt, vc, vs, vd, e, h1.mono hb, h2.mono hb, h3.mono hb, h4.mono hb⟩
end Go.Proofs.Ytkbboepopcebaaa
namespace Go.Proofs.Ytkbboepopcebaaa
open Go.RowKit

theorem info22 : (Try.prog.info? 22).map (fun i => (i.zero, i.size, i.bytes)) = some (some (.slice none 0 0), 1, 24) := by kernel_rfl
def most : Nat := 4294967296
/-- What ownParts and its kin ask: a number of parts whose array can be made. -/
def Few (ll : List (List Int)) : Prop := ll.length ≤ most

theorem own_meas {n k : Nat} (h : k < n) : n - (intOf (.int .i64 ((k : Int) + 1))).toNat < n - (intOf (.int .i64 (k : Int))).toNat := by simp [intOf]; omega

set_option maxRecDepth 100000 in
set_option maxHeartbeats 800000 in
theorem ownParts_at (A : Option Addr) (c n : Nat) (ll : List (List Int)) (w : World) (hn : ll.length = n) (hf : Few ll) (h : PartsR w A ll) :
    Calls Try.prog 44 #[.slice A n c] w fun e w' => ∃ v', e = .returned v' ∧ PartsO w' w.heap.size v' ll ∧ Below w.heap.size w w' := by
  obtain ⟨i0, hi, hz0, hz1, hz2⟩ := info_parts info22
  have HN := Lib.hid hn; clear hn
  have HF := Lib.hid hf; clear hf
  have HP := Lib.hid h; clear h
  have hmx : n ≤ 4294967296 := by have := HN.out; have h2 := HF.out; unfold Few most at h2; omega
  go_enter Try.func44, Try.ntmps44
  go_wp2
  go_loopw [3, 4] (fun v i wr => ∃ k : Nat, k ≤ n ∧ i = .int .i64 k ∧ PartsO wr w.heap.size v (ll.take k) ∧ Below w.heap.size w wr) (fun _ i _ => n - (intOf i).toNat)
  case atStart => exact ⟨0, Nat.zero_le _, rfl, PartsO.nil _ _, Below.refl _ _⟩
  case round =>
    obtain ⟨k, hk, rfl, hO, hb⟩ := hrel
    by_cases hlt : k < n
    · have hk2 : k < ll.length := by have := HN.out; omega
      obtain ⟨b1, o1, rfl, hc⟩ := (HP.out.mono hb).2 (by omega)
      obtain ⟨p, hcell, hp⟩ := hc k hk2
      obtain ⟨l, hl⟩ : ∃ l, l = ll.getD k [] := ⟨_, rfl⟩
      rw [← hl] at hp
      have HL := Lib.hid hl
      clear hl
      obtain ⟨pl, hpl⟩ : ∃ pl, pl = ll.take k := ⟨_, rfl⟩
      have hpk : pl.length = k := by rw [hpl, List.length_take]; omega
      rw [← hpl] at hO
      have HPL := Lib.hid hpl
      have HPK := Lib.hid hpk
      clear hpl
      have HC := Lib.hid hp
      have HO := Lib.hid hO
      have HB := Lib.hid hb
      obtain ⟨vs, hov⟩ := hO
      obtain ⟨A0, c0, rfl, hsh⟩ := own_shape hov.own
      rw [hpk] at hov ⊢
      have HO := Lib.hid hov
      clear hc hp hb hpk hsh hov
      go_wp2_with fail
      refine (own_any _ _ _ HC.out).mono ?_
      rintro e w1 ⟨p', rfl, hpo, hpb⟩
      obtain ⟨A1, c1, rfl, hs2⟩ := own_shape hpo
      have HPO := Lib.hid hpo
      have HPB := Lib.hid hpb
      clear hpo hpb hs2
      have hv1 := HO.out.own
      rw [HPK.out] at hv1
      have hv2 := Lib.hid ((own_below hv1 HPB.out).alloc (.cells #[.slice A1 l.length c1] 22))
      clear hv1
      go_wp2_with (at_builtin; refine wpList_append_own_at _ rfl _ _ 26 rfl w.heap.size 22 i0 (.slice none 0 0) 1 24 Try.underlying26 hi hz0 hz1 hz2 rfl (by decide) _ _ _ rfl hv2.out ⟨w1.heap.size, 0, none⟩ 1 1 [.slice A1 l.length c1] rfl rfl ?c1 ?c2 ?c3 ?c4 ?c5 ?_)
      case c1 =>
        intro j u hj
        match j, hj with
        | 0, hj => simp at hj; subst hj; simp [Addr.add]
      case c2 => intro u hu; simp at hu; subst hu; rfl
      case c3 => unfold maxLen; omega
      case c4 => omega
      case c5 => have h1 := HB.out.size; have h2 := HPB.out.size; simp; omega
      intro v' w2 hown hg _ hat
      have hO2 : PartsO w2 w.heap.size v' (ll.take (k + 1)) := by
        rw [take_snoc' ll k [] hk2, ← HPL.out, ← HL.out]
        exact ⟨_, PartsOv.snoc HB.out.size (Nat.le_refl _) HO.out (HPB.out.trans ((below_alloc _ _).mono HPB.out.size)) (HPO.out.alloc _) (by rw [HPK.out]; exact hown) hg⟩
      have hB2 : Below w.heap.size w w2 :=
        (below_step HB.out (below_step HPB.out (below_alloc _ _))).grown hg (by have h1 := HB.out.size; have h2 := HPB.out.size; simp; omega) (fun k hk => own_ge hv2.out k hk)
      clear hown hg hat
      go_wp2
      go_roundw
      case rel => exact ⟨k + 1, by omega, by go_num, hO2, hB2⟩
      case measure => exact own_meas hlt
    · go_wp2
      go_ret
      have hkn : k = n := by omega
      rw [hkn, List.take_of_length_le (by have := HN.out; omega)] at hO
      exact ⟨_, rfl, hO, hb⟩
end Go.Proofs.Ytkbboepopcebaaa
namespace Go.Proofs.Ytkbboepopcebaaa
open Go.RowKit

set_option maxRecDepth 100000 in
theorem sameParts_ne (A B : Option Addr) (ca cb : Nat) (n m : Nat) (w : World) (hne : n ≠ m) : 
    Calls Try.prog 48 #[.slice A n ca, .slice B m cb] w fun e w' => e = .returned (.bool false) ∧ w = w' := by
  have h1 : (!(((n : Nat) : Int) == (m : Int))) = true := by simp; omega
  go_enter Try.func48, Try.ntmps48
  go_wp2
  go_ret
  exact ⟨rfl, rfl⟩

theorem eqp_step (la lb : List (List Int)) (h : la.length = lb.length) (k : Nat) (hk : k < la.length) (he : la.take k = lb.take k) : (la.take (k+1) = lb.take (k+1)) ↔ la.getD k [] = lb.getD k [] := by
  have hk2 : k < lb.length := by omega
  have e1 := List.take_succ_eq_append_getElem hk
  have e2 := List.take_succ_eq_append_getElem hk2
  rw [e1, e2, he, List.append_right_inj]
  simp [List.getD_eq_getElem?_getD, hk, hk2]

set_option maxRecDepth 100000 in
theorem sameParts_eq (A B : Option Addr) (ca cb : Nat) (la lb : List (List Int)) (w : World) (n : Nat) (hla : la.length = n) (hlb : lb.length = n) (ha : PartsR w A la) (hb : PartsR w B lb) :
    Calls Try.prog 48 #[.slice A n ca, .slice B n cb] w fun e w' => e = .returned (.bool (decide (la = lb))) ∧ ∃ k, w' = w.drewN k := by
  have h1 : (!(((n : Nat) : Int) == (n : Int))) = false := by simp
  have HA := Lib.hid hla; clear hla
  have HB := Lib.hid hlb; clear hlb
  have Ha := Lib.hid ha; clear ha
  have Hb := Lib.hid hb; clear hb
  go_enter Try.func48, Try.ntmps48
  go_wp2
  go_loopw [5] (fun i wr => ∃ k : Nat, k ≤ n ∧ i = .int .i64 k ∧ la.take k = lb.take k ∧ ∃ m, wr = w.drewN m) (fun i _ => n - (intOf i).toNat)
  case atStart => exact ⟨0, Nat.zero_le _, rfl, rfl, 0, rfl⟩
  case round =>
    obtain ⟨k, hk, rfl, he, hm⟩ := hrel
    have he' := Lib.hid he; clear he
    have hbw : Below w.heap.size w wr := by obtain ⟨m, rfl⟩ := hm; exact below_drewN (Below.refl _ _) _
    have HM := Lib.hid hm; clear hm
    have Ha' := Lib.hid (Ha.out.mono hbw)
    have Hb' := Lib.hid (Hb.out.mono hbw)
    clear hbw Ha Hb
    by_cases hlt : k < n
    · have hst := (eqp_step la lb (by have := HA.out; have := HB.out; omega) k (by have := HA.out; omega) he'.out)
      obtain ⟨b1, o1, rfl, hca⟩ := Ha'.out.2 (by have := HA.out; omega)
      obtain ⟨b2, o2, rfl, hcb⟩ := Hb'.out.2 (by have := HB.out; omega)
      obtain ⟨va, hra, hna⟩ := hca k (by have := HA.out; omega)
      obtain ⟨vb, hrb, hnb⟩ := hcb k (by have := HB.out; omega)
      clear hca hcb
      have hmx : n ≤ 9223372036854775807 := by have := Ha'.out.1; have := HA.out; unfold reach at *; omega
      obtain ⟨x, hx⟩ : ∃ x, x = la.getD k [] := ⟨_, rfl⟩
      obtain ⟨y, hy⟩ : ∃ y, y = lb.getD k [] := ⟨_, rfl⟩
      rw [← hx] at hna hst
      rw [← hy] at hnb hst
      have HST := Lib.hid hst
      have HX := Lib.hid hx
      have HY := Lib.hid hy
      obtain ⟨A1, c1, rfl, h1a, h1b, hna3⟩ := hna
      obtain ⟨A2, c2, rfl, h2a, h2b, hnb3⟩ := hnb
      have HNA := Lib.hid hna3
      have HNB := Lib.hid hnb3
      clear hx hy hna3 hnb3 hst h1a h1b h2a h2b
      have hcall : ∀ nn, Calls Try.prog 27 #[.slice A1 x.length c1, .slice A2 y.length c2] (wr.drewN nn) fun e w' => e = .returned (.bool (decide (x = y))) ∧ ∃ k, w' = (wr.drewN nn).drewN k := by
        intro nn
        exact sameBytes_any A1 A2 c1 c2 x y _ _ _ rfl rfl (HNA.out.mono (below_drewN (Below.refl _ _) _)) (HNB.out.mono (below_drewN (Below.refl _ _) _))
      have HCALL := Lib.hid hcall
      clear hcall
      obtain ⟨bq, hbq⟩ : ∃ bq, bq = decide (x = y) := ⟨_, rfl⟩
      rw [← hbq] at HCALL
      have HBQ := Lib.hid hbq
      clear hbq
      cases bq
      · go_wp2
        go_quiet ((go_at_call 27; exact Calls.quiet_of (HCALL.out _)))
        go_wp2
        go_ret
        obtain ⟨m, rfl⟩ := HM.out
        refine ⟨ret_bool ?_, _, World.drewN_drewN ..⟩
        symm
        simp only [decide_eq_false_iff_not]
        intro e
        have := HBQ.out
        symm at this
        simp only [decide_eq_false_iff_not] at this
        apply this
        rw [HX.out, HY.out, e]
      · go_wp2
        go_quiet ((go_at_call 27; exact Calls.quiet_of (HCALL.out _)))
        go_wp2
        go_roundw
        case rel =>
          obtain ⟨m, rfl⟩ := HM.out
          exact ⟨k + 1, by omega, by go_num, HST.out.2 (by have := HBQ.out; symm at this; simpa using this), _, World.drewN_drewN ..⟩
        case measure => simp [intOf]; omega
    · go_wp2
      go_ret
      have : k = n := by omega
      subst this
      obtain ⟨m, rfl⟩ := HM.out
      refine ⟨ret_bool ?_, _, rfl⟩
      have h2 := he'.out
      rw [List.take_of_length_le (by have := HA.out; omega), List.take_of_length_le (by have := HB.out; omega)] at h2
      simp [h2]

theorem sameParts_any (A B : Option Addr) (ca cb : Nat) (la lb : List (List Int)) (n m : Nat) (w : World) (hn : n = la.length) (hm : m = lb.length) (ha : PartsR w A la) (hb : PartsR w B lb) :
    Calls Try.prog 48 #[.slice A n ca, .slice B m cb] w fun e w' => e = .returned (.bool (decide (la = lb))) ∧ ∃ k, w' = w.drewN k := by
  by_cases h : n = m
  · subst h
    exact sameParts_eq A B ca cb la lb w n hn.symm hm.symm ha hb
  · refine (sameParts_ne A B ca cb n m w h).mono ?_
    rintro e w' ⟨rfl, rfl⟩
    refine ⟨ret_bool ?_, 0, rfl⟩
    symm
    simp only [decide_eq_false_iff_not]
    intro e
    apply h
    rw [hn, hm, e]
end Go.Proofs.Ytkbboepopcebaaa
namespace Go.Proofs.Ytkbboepopcebaaa
open Go.RowKit

def fitsIn (first : Bool) (v : Int) : Bool := decide (0 ≤ v) && decide (v ≤ 127) && (!first || (v == 0))
def fitsOut (first : Bool) (v : Int) : Bool := decide (0 ≤ v) && decide (v ≤ 128) && (!first || (v == 128))
def fitsMost (v : Int) : Bool := decide (0 ≤ v) && decide (v ≤ 1023)

set_option maxRecDepth 100000 in
theorem fits_in (first : Bool) (v : Int) (w : World) : Calls Try.prog 72 #[.bool first, .int .i64 v] w fun e w' => e = .returned (.bool (fitsIn first v)) ∧ w = w' := by
  by_cases h1 : 0 ≤ v
  · by_cases h2 : v ≤ 127
    · cases first
      · go_enter Try.func72, Try.ntmps72
        go_wp2
        go_ret
        exact ⟨ret_bool (by simp [fitsIn, h1, h2]), rfl⟩
      · by_cases h3 : v = 0
        · have h4 : (v == 0) = true := by simp [h3]
          have H3 := Lib.hid h3; clear h3
          go_enter Try.func72, Try.ntmps72
          go_wp2
          go_ret
          exact ⟨ret_bool (by simp [fitsIn, h1, h2, h4]), rfl⟩
        · have h4 : (v == 0) = false := by simp [h3]
          clear h3
          go_enter Try.func72, Try.ntmps72
          go_wp2
          go_ret
          exact ⟨ret_bool (by simp [fitsIn, h4]), rfl⟩
    · go_enter Try.func72, Try.ntmps72
      go_wp2
      all_goals go_ret
      all_goals exact ⟨ret_bool (by simp [fitsIn]; intros; omega), rfl⟩
  · go_enter Try.func72, Try.ntmps72
    go_wp2
    all_goals go_ret
    all_goals exact ⟨ret_bool (by simp [fitsIn]; intros; omega), rfl⟩

set_option maxRecDepth 100000 in
theorem fits_out (first : Bool) (v : Int) (w : World) : Calls Try.prog 74 #[.bool first, .int .i64 v] w fun e w' => e = .returned (.bool (fitsOut first v)) ∧ w = w' := by
  by_cases h1 : 0 ≤ v
  · by_cases h2 : v ≤ 128
    · cases first
      · go_enter Try.func74, Try.ntmps74
        go_wp2
        go_ret
        exact ⟨ret_bool (by simp [fitsOut, h1, h2]), rfl⟩
      · by_cases h3 : v = 128
        · have h4 : (v == 128) = true := by simp [h3]
          have H3 := Lib.hid h3; clear h3
          go_enter Try.func74, Try.ntmps74
          go_wp2
          go_ret
          exact ⟨ret_bool (by simp [fitsOut, h1, h2, h4]), rfl⟩
        · have h4 : (v == 128) = false := by simp [h3]
          clear h3
          go_enter Try.func74, Try.ntmps74
          go_wp2
          go_ret
          exact ⟨ret_bool (by simp [fitsOut, h4]), rfl⟩
    · go_enter Try.func74, Try.ntmps74
      go_wp2
      all_goals go_ret
      all_goals exact ⟨ret_bool (by simp [fitsOut]; intros; omega), rfl⟩
  · go_enter Try.func74, Try.ntmps74
    go_wp2
    all_goals go_ret
    all_goals exact ⟨ret_bool (by simp [fitsOut]; intros; omega), rfl⟩

set_option maxRecDepth 100000 in
theorem fits_most (first : Bool) (v : Int) (w : World) : Calls Try.prog 76 #[.bool first, .int .i64 v] w fun e w' => e = .returned (.bool (fitsMost v)) ∧ w = w' := by
  by_cases h1 : 0 ≤ v
  · by_cases h2 : v ≤ 1023
    all_goals
      go_enter Try.func76, Try.ntmps76
      go_wp2
      go_ret
      exact ⟨ret_bool (by simp [fitsMost, h1]; try omega), rfl⟩
  · go_enter Try.func76, Try.ntmps76
    go_wp2
    all_goals go_ret
    all_goals exact ⟨ret_bool (by simp [fitsMost]; intros; omega), rfl⟩

set_option maxRecDepth 100000 in
theorem value_in (b : Nat) (w : World) : Calls Try.prog 73 #[.pointer (some ⟨b, 0, none⟩)] w fun e w' => e = .returned (.pointer (some ⟨b, 0, none⟩)) ∧ w = w' := by
  go_enter Try.func73, Try.ntmps73
  go_wp2
  go_ret
  exact ⟨rfl, rfl⟩

set_option maxRecDepth 100000 in
theorem value_out (b : Nat) (w : World) : Calls Try.prog 75 #[.pointer (some ⟨b, 0, none⟩)] w fun e w' => e = .returned (.pointer (some ⟨b, 1, none⟩)) ∧ w = w' := by
  go_enter Try.func75, Try.ntmps75
  go_wp2
  go_ret
  exact ⟨rfl, rfl⟩

set_option maxRecDepth 100000 in
theorem value_most (b : Nat) (w : World) : Calls Try.prog 77 #[.pointer (some ⟨b, 0, none⟩)] w fun e w' => e = .returned (.pointer (some ⟨b, 2, none⟩)) ∧ w = w' := by
  go_enter Try.func77, Try.ntmps77
  go_wp2
  go_ret
  exact ⟨rfl, rfl⟩
def boundsV : Value := .agg #[.int .i64 1, .func (.func 72) #[] #[], .func (.func 73) #[] #[], .int .i64 1, .func (.func 74) #[] #[], .func (.func 75) #[] #[], .int .i64 2, .func (.func 76) #[] #[], .func (.func 77) #[] #[]]
set_option maxRecDepth 100000 in
theorem bounds_any (w : World) : Calls Try.prog 46 #[] w fun e w' => e = .returned boundsV ∧ Below w.heap.size w w' := by
  go_enter Try.func46, Try.ntmps46
  go_wp2
  exact bodyPost_ret (v := boundsV) (by simp [results, Try.results46, go_sem]; rfl) rfl ⟨rfl, below_alloc _ _⟩
end Go.Proofs.Ytkbboepopcebaaa
