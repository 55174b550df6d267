/- What Parse hands back, kept in boxes; the program's calls upon it. -/
import Derived.Test.YtkbboepopcebaaaBY
import Derived.Test.YtkbboepopcebaaaAK
import Derived.Test.YtkbboepopcebaaaAT
namespace Go.Proofs.Ytkbboepopcebaaa
open Go.RowKit

/-- The two boxes that keep a container and a refusal. -/
structure KB (w : World) (X Y : Nat) (v0 v1 v2 v3 v4 : Value) (x y : Int) : Prop where
  c0 : w.cell? ⟨X, 0, none⟩ = some v0
  c1 : w.cell? ⟨X, 1, none⟩ = some v1
  c2 : w.cell? ⟨X, 2, none⟩ = some v2
  c3 : w.cell? ⟨X, 3, none⟩ = some v3
  c4 : w.cell? ⟨X, 4, none⟩ = some v4
  e0 : w.cell? ⟨Y, 0, none⟩ = some (.int .i64 x)
  e1 : w.cell? ⟨Y, 1, none⟩ = some (.slice none 0 0)
  e2 : w.cell? ⟨Y, 2, none⟩ = some (.int .i64 0)
  e3 : w.cell? ⟨Y, 3, none⟩ = some (.int .i64 y)
theorem kb_new (w : World) (v0 v1 v2 v3 v4 : Value) (x y : Int) : KB ((w.alloc (.cells #[v0, v1, v2, v3, v4] 28)).alloc (.cells #[.int .i64 x, .slice none 0 0, .int .i64 0, .int .i64 y] 43)) w.heap.size (w.heap.size + 1) v0 v1 v2 v3 v4 x y := by
  have hz : (w.alloc (.cells #[v0, v1, v2, v3, v4] 28)).heap.size = w.heap.size + 1 := by simp
  have h0 := box1_at (w.alloc (.cells #[v0, v1, v2, v3, v4] 28)) #[.int .i64 x, .slice none 0 0, .int .i64 0, .int .i64 y] 43 0 _ rfl
  have h1 := box1_at (w.alloc (.cells #[v0, v1, v2, v3, v4] 28)) #[.int .i64 x, .slice none 0 0, .int .i64 0, .int .i64 y] 43 1 _ rfl
  have h2 := box1_at (w.alloc (.cells #[v0, v1, v2, v3, v4] 28)) #[.int .i64 x, .slice none 0 0, .int .i64 0, .int .i64 y] 43 2 _ rfl
  have h3 := box1_at (w.alloc (.cells #[v0, v1, v2, v3, v4] 28)) #[.int .i64 x, .slice none 0 0, .int .i64 0, .int .i64 y] 43 3 _ rfl
  rw [hz] at h0 h1 h2 h3
  have hb := below_alloc (w.alloc (.cells #[v0, v1, v2, v3, v4] 28)) (.cells #[.int .i64 x, .slice none 0 0, .int .i64 0, .int .i64 y] 43)
  exact ⟨cell_keep hb (box1_at w _ 28 0 _ rfl), cell_keep hb (box1_at w _ 28 1 _ rfl), cell_keep hb (box1_at w _ 28 2 _ rfl), cell_keep hb (box1_at w _ 28 3 _ rfl), cell_keep hb (box1_at w _ 28 4 _ rfl), h0, h1, h2, h3⟩
theorem KB.below {w w1 : World} {X Y : Nat} {v0 v1 v2 v3 v4 : Value} {x y : Int} (h : KB w X Y v0 v1 v2 v3 v4 x y) (hb : Below w.heap.size w w1) : KB w1 X Y v0 v1 v2 v3 v4 x y :=
  ⟨cell_keep hb h.c0, cell_keep hb h.c1, cell_keep hb h.c2, cell_keep hb h.c3, cell_keep hb h.c4, cell_keep hb h.e0, cell_keep hb h.e1, cell_keep hb h.e2, cell_keep hb h.e3⟩
theorem PContV.belowK {w w1 : World} {B : Nat} {v : Value} {c : Cont} (h : PContV w B v c) (hb : Below w.heap.size w w1) : PContV w1 B v c := by
  obtain ⟨T, C, S, D, rfl, hT, hC, hS, hD⟩ := h.form
  exact ⟨T, C, S, D, rfl, own_below hT hb, hC.below hb, hS.below hb, own_below hD hb⟩
theorem wt_sum (ll : List (List Int)) : wt ll = sumL ll := by simp [wt, sumL, List.length_flatten]
theorem fits_of {c : Cont} (hm : May c) (h : (serB c).length ≤ 16777216) : Fits c := by
  rw [serB_length c hm.types] at h
  have h1 := hm.codes1
  have h2 := hm.types
  have h3 := hm.subs
  unfold Fits
  rw [wt_sum, wt_sum]
  split at h <;> omega
/-- A list of one's own. -/
def OwnPost (b : List Int) (n : Nat) (w : World) (e : Ending) (w' : World) : Prop := ∃ A c, e = .returned (.slice A n c) ∧ NumsV w' .u8 (.slice A n c) b ∧ Below w.heap.size w w'
theorem own_sl (v : Value) (b : List Int) (n : Nat) (w : World) (h : NumsV w .u8 v b) (hn : b.length = n) : Calls Try.prog 30 #[v] w (OwnPost b n w) := by
  have hr : b.length ≤ reach := by obtain ⟨_, _, _, _, _, h3⟩ := h; exact h3.1
  refine (own_any v b w h).mono ?_
  rintro e w' ⟨v', rfl, ho, hb⟩
  have hv := own_nums ho hr
  obtain ⟨A, c, rfl, h1⟩ := hv
  subst hn
  exact ⟨A, c, rfl, ⟨A, c, rfl, h1⟩, hb⟩
/-- What Parse hands back: taken. -/
def OkPost (c : Cont) (n0 n1 n2 n3 : Nat) (s : Int) (w : World) (e : Ending) (w' : World) : Prop := ∃ A0 c0 A1 c1 A2 c2 A3 c3,
  e = .returned (.tuple #[.agg #[.slice A0 n0 c0, .slice A1 n1 c1, .slice A2 n2 c2, .slice A3 n3 c3, .int .i64 s], .agg #[.int .i64 0, .slice none 0 0, .int .i64 0, .int .i64 0]]) ∧
  PContV w' w.heap.size (.agg #[.slice A0 n0 c0, .slice A1 n1 c1, .slice A2 n2 c2, .slice A3 n3 c3, .int .i64 s]) c ∧ Below w.heap.size w w'
/-- What Parse hands back: refused. -/
def NoPost (x y : Int) (w : World) (e : Ending) (w' : World) : Prop :=
  e = .returned (.tuple #[.agg #[.slice none 0 0, .slice none 0 0, .slice none 0 0, .slice none 0 0, .int .i64 0], .agg #[.int .i64 x, .slice none 0 0, .int .i64 0, .int .i64 y]]) ∧ Below w.heap.size w w'
theorem parse_okc {b : List Int} {o : Bool} {c : Cont} {n0 n1 n2 n3 : Nat} {s : Int} (h0 : n0 = c.types.length) (h1 : n1 = c.codes.length) (h2 : n2 = c.subs.length) (h3 : n3 = c.data.length) (h4 : s = c.size) (hp : parse b o = .ok c) (A : Option Addr) (n cap : Nat) (w : World) (h : NumsV w .u8 (.slice A n cap) b) (hy : Byt b) (hn : b.length = n) : Calls Try.prog 29 #[.slice A n cap, .bool o] w (OkPost c n0 n1 n2 n3 s w) := by
  subst h0 h1 h2 h3 h4
  obtain ⟨A', c', e, h1, h2, h3⟩ := h
  injection e with e1 e2 e3
  subst e1 e3
  refine (parse_any A n cap o b w h3 hy hn (by omega)).mono ?_
  rintro e w' ⟨hb, hh⟩
  rw [hp] at hh
  obtain ⟨v, rfl, hv⟩ := hh
  obtain ⟨T, C, S, D, rfl, hT, hC, hS, hD⟩ := hv.form
  obtain ⟨A0, c0, rfl, _⟩ := own_shape hT
  obtain ⟨A1, c1, rfl⟩ := hC.shape
  obtain ⟨A2, c2, rfl⟩ := hS.shape
  obtain ⟨A3, c3, rfl, _⟩ := own_shape hD
  exact ⟨A0, c0, A1, c1, A2, c2, A3, c3, rfl, hv, hb⟩
theorem parse_noc {b : List Int} {o : Bool} {x : Bad} (hp : parse b o = .error x) (A : Option Addr) (n cap : Nat) (w : World) (h : NumsV w .u8 (.slice A n cap) b) (hy : Byt b) (hn : b.length = n) : Calls Try.prog 29 #[.slice A n cap, .bool o] w (NoPost x.1 x.2 w) := by
  obtain ⟨A', c', e, h1, h2, h3⟩ := h
  injection e with e1 e2 e3
  subst e1 e3
  refine (parse_any A n cap o b w h3 hy hn (by omega)).mono ?_
  rintro e w' ⟨hb, hh⟩
  rw [hp] at hh
  exact ⟨hh, hb⟩
def TwC (c : Cont) (w : World) (e : Ending) (w' : World) : Prop := ∃ v, e = .returned v ∧ ContV w' v c ∧ Below w.heap.size w w'
theorem twin_c (v : Value) (c : Cont) (w : World) (h : ContV w v c) (hf : Fits c) : Calls Try.prog 17 #[v] w (TwC c w) := by
  refine (twin_any v c w h hf).mono ?_
  rintro e w' ⟨v', rfl, hp, hb⟩
  exact ⟨v', rfl, hp.p.read hf, hb⟩
def SerC (b : List Int) (n : Nat) (w : World) (e : Ending) (w' : World) : Prop := ∃ A c, e = .returned (.tuple #[.slice A n c, .int .i64 0]) ∧ NumsV w' .u8 (.slice A n c) b ∧ Below w.heap.size w w'
theorem ser_c (v : Value) (c : Cont) (n : Nat) (w : World) (h : ContV w v c) (hm : May c) (hn : (serB c).length = n) (hr : n ≤ reach) : Calls Try.prog 25 #[v] w (SerC (serB c) n w) := by
  refine (ser_any v c w h).mono ?_
  rintro e w' ⟨v', rfl, ho, hb⟩
  rw [serR, if_pos (of_may hm)] at ho
  obtain ⟨A, cc, rfl, h1⟩ := ho.reads (by omega)
  subst hn
  rw [of_may hm]
  exact ⟨A, cc, rfl, ⟨A, cc, rfl, h1⟩, hb⟩
theorem size_c (v : Value) (c : Cont) (n : Nat) (w : World) (h : ContV w v c) (hm : May c) (hn : (serB c).length = n) : Calls Try.prog 26 #[v] w fun e w' => e = .returned (.tuple #[.int .i64 n, .int .i64 0]) ∧ Below w.heap.size w w' := by
  refine (size_any v c w h).mono ?_
  rintro e w' ⟨rfl, hb⟩
  rw [sizeN, if_pos (of_may hm), of_may hm, hn]
  exact ⟨rfl, hb⟩
theorem check_c (v : Value) (c : Cont) (w : World) (h : ContV w v c) (hm : May c) : Calls Try.prog 18 #[v] w fun e w' => e = .returned (.int .i64 0) ∧ Below w.heap.size w w' := by
  have := check_any v c w h
  rwa [of_may hm] at this
theorem may_c (v : Value) (c : Cont) (w : World) (h : ContV w v c) (hm : May c) : Calls Try.prog 24 #[v] w (TruePost w) := by
  refine (may_any v c w h).mono ?_
  rintro e w' ⟨rfl, hb⟩
  rw [yes_may hm]
  exact ⟨rfl, hb⟩
theorem sb_c (A B : Option Addr) (ca cb n : Nat) (b : List Int) (w : World) (ha : NumsV w .u8 (.slice A n ca) b) (hb : NumsV w .u8 (.slice B n cb) b) : Calls Try.prog 27 #[.slice A n ca, .slice B n cb] w (TruePost w) := by
  obtain ⟨A', c', e, h1, h2, h3⟩ := ha
  injection e with e1 e2 e3
  subst e1 e2 e3
  obtain ⟨B', d', e, g1, g2, g3⟩ := hb
  injection e with e1 e2 e3
  subst e1 e3
  refine (sameBytes_any A B ca cb b b _ _ w rfl rfl h3 g3).mono ?_
  rintro e w' ⟨rfl, k, rfl⟩
  exact ⟨by simp, below_drewN (Below.refl _ _) _⟩
theorem same_c {va vb : Value} {c : Cont} {w : World} (ha : ContV w va c) (hb : ContV w vb c) : Calls Try.prog 20 #[va, vb] w (TruePost w) :=
  (same_any va vb c c w ha hb).mono fun e w' h => ⟨by rw [h.1]; simp, h.2⟩
theorem zero_cont (w : World) : ContV w (.agg #[.slice none 0 0, .slice none 0 0, .slice none 0 0, .slice none 0 0, .int .i64 0]) ⟨[], [], [], [], 0⟩ := by
  have h : PContV w 0 (.agg #[.slice none 0 0, .slice none 0 0, .slice none 0 0, .slice none 0 0, .int .i64 0]) ⟨[], [], [], [], 0⟩ := ⟨_, _, _, _, rfl, World.ownsRow_nil _ _ _ _, PartsO.nil _ _, PartsO.nil _ _, World.ownsRow_nil _ _ _ _⟩
  exact h.read (by simp [Fits, wt])
theorem zero_same (w : World) : Calls Try.prog 20 #[.agg #[.slice none 0 0, .slice none 0 0, .slice none 0 0, .slice none 0 0, .int .i64 0], .agg #[.slice none 0 0, .slice none 0 0, .slice none 0 0, .slice none 0 0, .int .i64 0]] w (TruePost w) := same_c (zero_cont w) (zero_cont w)
end Go.Proofs.Ytkbboepopcebaaa
namespace Go.Proofs.Ytkbboepopcebaaa
open Go.RowKit

/-- A container in its box. -/
structure KC (w : World) (X : Nat) (v0 v1 v2 v3 v4 : Value) : Prop where
  c0 : w.cell? ⟨X, 0, none⟩ = some v0
  c1 : w.cell? ⟨X, 1, none⟩ = some v1
  c2 : w.cell? ⟨X, 2, none⟩ = some v2
  c3 : w.cell? ⟨X, 3, none⟩ = some v3
  c4 : w.cell? ⟨X, 4, none⟩ = some v4
theorem kc_new (w : World) (v0 v1 v2 v3 v4 : Value) : KC (w.alloc (.cells #[v0, v1, v2, v3, v4] 28)) w.heap.size v0 v1 v2 v3 v4 :=
  ⟨box1_at w _ 28 0 _ rfl, box1_at w _ 28 1 _ rfl, box1_at w _ 28 2 _ rfl, box1_at w _ 28 3 _ rfl, box1_at w _ 28 4 _ rfl⟩
theorem KC.below {w w1 : World} {X : Nat} {v0 v1 v2 v3 v4 : Value} (h : KC w X v0 v1 v2 v3 v4) (hb : Below w.heap.size w w1) : KC w1 X v0 v1 v2 v3 v4 :=
  ⟨cell_keep hb h.c0, cell_keep hb h.c1, cell_keep hb h.c2, cell_keep hb h.c3, cell_keep hb h.c4⟩
/-- A refusal in its box, which may be written. -/
structure KE (w : World) (Y : Nat) (x y : Int) : Prop where
  e0 : w.cell? ⟨Y, 0, none⟩ = some (.int .i64 x)
  e1 : w.cell? ⟨Y, 1, none⟩ = some (.slice none 0 0)
  e2 : w.cell? ⟨Y, 2, none⟩ = some (.int .i64 0)
  e3 : w.cell? ⟨Y, 3, none⟩ = some (.int .i64 y)
  free : ∀ j, w.frozen? ⟨Y, j, none⟩ = false
theorem ke_new (w : World) (x y : Int) : KE (w.alloc (.cells #[.int .i64 x, .slice none 0 0, .int .i64 0, .int .i64 y] 43)) w.heap.size x y := by
  have hh := heap_alloc_new w (.cells #[.int .i64 x, .slice none 0 0, .int .i64 0, .int .i64 y] 43)
  refine ⟨box1_at w _ 43 0 _ rfl, box1_at w _ 43 1 _ rfl, box1_at w _ 43 2 _ rfl, box1_at w _ 43 3 _ rfl, fun j => ?_⟩
  unfold World.frozen?
  rw [hh]
  rfl
theorem KE.of_block {w w1 : World} {Y : Nat} {x y : Int} (h : KE w Y x y) (hb : w1.heap[Y]? = w.heap[Y]?) : KE w1 Y x y :=
  ⟨(World.cell?_of_block (w := w) hb).trans h.e0, (World.cell?_of_block (w := w) hb).trans h.e1, (World.cell?_of_block (w := w) hb).trans h.e2, (World.cell?_of_block (w := w) hb).trans h.e3, fun j => (World.frozen?_of_block (w := w) hb).trans (h.free j)⟩
theorem KE.lt {w : World} {Y : Nat} {x y : Int} (h : KE w Y x y) : Y < w.heap.size := World.block_lt_of_cell? w _ h.e0
theorem KE.below {w w1 : World} {Y : Nat} {x y : Int} (h : KE w Y x y) (hb : Below w.heap.size w w1) : KE w1 Y x y := h.of_block (hb.block _ h.lt)
abbrev setE (y : World) (E : Nat) (v0 v1 v2 v3 : Value) : World := (((y.setCell ⟨E, 0, none⟩ v0).setCell ⟨E, 1, none⟩ v1).setCell ⟨E, 2, none⟩ v2).setCell ⟨E, 3, none⟩ v3
theorem grown_setE (y : World) (E : Nat) (v0 v1 v2 v3 : Value) : y.grownBy (setE y E v0 v1 v2 v3) (some E) :=
  grown_trans (grown_trans (grown_trans (grown_setCell _ E 0 v0) (grown_setCell _ E 1 v1)) (grown_setCell _ E 2 v2)) (grown_setCell _ E 3 v3)
theorem cell_set4 {w : World} {E : Nat} {u0 u1 u2 u3 : Value} (h0 : w.cell? ⟨E, 0, none⟩ = some u0) (h1 : w.cell? ⟨E, 1, none⟩ = some u1) (h2 : w.cell? ⟨E, 2, none⟩ = some u2) (h3 : w.cell? ⟨E, 3, none⟩ = some u3) (v0 v1 v2 v3 : Value) :
    (setE w E v0 v1 v2 v3).cell? ⟨E, 0, none⟩ = some v0 ∧ (setE w E v0 v1 v2 v3).cell? ⟨E, 1, none⟩ = some v1 ∧ (setE w E v0 v1 v2 v3).cell? ⟨E, 2, none⟩ = some v2 ∧ (setE w E v0 v1 v2 v3).cell? ⟨E, 3, none⟩ = some v3 := by
  have n : ∀ (W : World) (i j : Nat) (v : Value), i ≠ j → (W.setCell ⟨E, i, none⟩ v).cell? ⟨E, j, none⟩ = W.cell? ⟨E, j, none⟩ := fun W i j v hij => World.cell?_setCell_other _ _ _ _ (by first | (simp; omega) | (simp [hij]))
  have s0 : (w.setCell ⟨E, 0, none⟩ v0).cell? ⟨E, 0, none⟩ = some v0 := World.cell?_setCell_same _ _ _ h0
  have s1 : ((w.setCell ⟨E, 0, none⟩ v0).setCell ⟨E, 1, none⟩ v1).cell? ⟨E, 1, none⟩ = some v1 := World.cell?_setCell_same _ _ _ (by rw [n _ 0 1 _ (by omega)]; exact h1)
  have s2 : (((w.setCell ⟨E, 0, none⟩ v0).setCell ⟨E, 1, none⟩ v1).setCell ⟨E, 2, none⟩ v2).cell? ⟨E, 2, none⟩ = some v2 := World.cell?_setCell_same _ _ _ (by rw [n _ 1 2 _ (by omega), n _ 0 2 _ (by omega)]; exact h2)
  have s3 : (setE w E v0 v1 v2 v3).cell? ⟨E, 3, none⟩ = some v3 := World.cell?_setCell_same _ _ _ (by rw [n _ 2 3 _ (by omega), n _ 1 3 _ (by omega), n _ 0 3 _ (by omega)]; exact h3)
  refine ⟨?_, ?_, ?_, s3⟩
  · rw [n _ 3 0 _ (by omega), n _ 2 0 _ (by omega), n _ 1 0 _ (by omega)]; exact s0
  · rw [n _ 3 1 _ (by omega), n _ 2 1 _ (by omega)]; exact s1
  · rw [n _ 3 2 _ (by omega)]; exact s2
theorem KE.set {w : World} {Y : Nat} {x y : Int} (h : KE w Y x y) (x' y' : Int) : KE (setE w Y (.int .i64 x') (.slice none 0 0) (.int .i64 0) (.int .i64 y')) Y x' y' := by
  obtain ⟨s0, s1, s2, s3⟩ := cell_set4 h.e0 h.e1 h.e2 h.e3 (.int .i64 x') (.slice none 0 0) (.int .i64 0) (.int .i64 y')
  exact ⟨s0, s1, s2, s3, fun j => by rw [World.frozen?_setCell, World.frozen?_setCell, World.frozen?_setCell, World.frozen?_setCell]; exact h.free j⟩
theorem nums_take {w : World} {A : Option Addr} {n c : Nat} {b : List Int} (h : NumsV w .u8 (.slice A n c) b) (hn : b.length = n) (p : Nat) (hp : p ≤ n) : NumsV w .u8 (.slice A p c) (b.take p) := by
  obtain ⟨A', c', e, h1, h2, h3⟩ := h
  injection e with e1 e2 e3
  subst e1 e3
  have hl : (b.take p).length = p := by simp; omega
  refine ⟨A, c, by rw [hl], by omega, h2, by have := h3.1; omega, fun h0 => ?_⟩
  obtain ⟨b1, o1, e, hc⟩ := h3.2 (by omega)
  refine ⟨b1, o1, e, fun j hj => ?_⟩
  rw [hc j (by omega)]
  simp [List.getD_eq_getElem?_getD, List.getElem?_take, show j < p by omega]
theorem small_len {c : Cont} (hm : May c) (h : Small c) : (serB c).length ≤ 2200000 := by
  rw [serB_length c hm.types]
  have h1 := hm.codes2
  have h2 := hm.subs
  unfold Small at h
  rw [wt_sum, wt_sum] at h
  split <;> omega
theorem ser_20 {c : Cont} (hm : May c) : 20 ≤ (serB c).length := by
  rw [serB_length c hm.types]
  have h1 := hm.codes1
  have h2 : 0 < sumL c.codes := by
    match hc : c.codes with
    | [] => rw [hc] at h1; simp at h1
    | a :: r => have := hm.code a (by rw [hc]; simp); simp [sumL]; omega
  split <;> omega
theorem byt_app {a b : List Int} (ha : Byt a) (hb : Byt b) : Byt (a ++ b) := fun x hx => by
  rcases List.mem_append.1 hx with h | h
  · exact ha x h
  · exact hb x h
theorem byt_be (v : Int) : ∀ s, Byt (be v s)
  | 0 => fun x hx => by simp [be] at hx
  | s + 1 => fun x hx => by
    rcases List.mem_cons.1 hx with rfl | h
    · omega
    · exact byt_be v s x h
theorem byt_flat {α : Type} (f : α → List Int) (h : ∀ a, Byt (f a)) (l : List α) : Byt (l.flatMap f) := fun x hx => by
  obtain ⟨a, _, h2⟩ := List.mem_flatMap.1 hx
  exact h a x h2
theorem byt_join {ll : List (List Int)} (h : ∀ l ∈ ll, Byt l) : Byt ll.flatten := fun x hx => by
  obtain ⟨l, h1, h2⟩ := List.mem_flatten.1 hx
  exact h l h1 x h2
theorem byt_take {b : List Int} (h : Byt b) (p : Nat) : Byt (b.take p) := fun x hx => h x (List.mem_of_mem_take hx)
theorem byt_ser {c : Cont} (h : ContOk c) : Byt (serB c) := by
  unfold serB headB part3
  refine byt_app (byt_app (byt_app (byt_app ?_ (byt_flat _ (fun t => byt_app (byt_app (byt_be _ _) (byt_be _ _)) (byt_be _ _)) _)) (byt_join h.codes)) (byt_join h.subs)) h.data
  have hl : ∀ l : List Int, (∀ x ∈ l, 0 ≤ x ∧ x ≤ 255) → Byt l := fun l h => h
  refine byt_app (byt_app (byt_app (byt_app (byt_app (byt_app (byt_app (byt_app (hl _ (by simp)) (byt_be _ _)) (hl _ (by simp))) (byt_be _ _)) (byt_flat _ (fun x => byt_be _ _) _)) ?_) (hl _ (by simp))) (byt_be _ _)) (hl _ (by simp))
  split
  · exact hl _ (by simp)
  · exact byt_app (byt_app (hl _ (by simp)) (byt_be _ _)) (byt_flat _ (fun x => byt_be _ _) _)
theorem ser_shape (c : Cont) (more : List Int) : serB c ++ more = headB (lens c.codes) (lens c.subs) c.size ++ (c.types.flatMap tyB ++ (c.codes.flatten ++ (c.subs.flatten ++ (c.data ++ more)))) := by unfold serB; simp
theorem ser_head {c : Cont} (hm : May c) : (serB c).length = (headB (lens c.codes) (lens c.subs) c.size).length + 4 * c.codes.length + sumL c.codes + sumL c.subs + c.data.length := by
  have e := ser_shape c []
  rw [List.append_nil] at e
  rw [e]; simp only [List.length_append, tysB_length, hm.types, sumL, List.length_nil]; omega
/-- A beginning of the bytes of a whole container is cut at its end. -/
theorem parse_cut {c : Cont} (hm : May c) (hw : (c.data.length : Int) = c.size) (p : Nat) (hp : p < (serB c).length) : parse ((serB c).take p) false = .error (50, (p : Int)) := by
  have e := ser_shape c []
  rw [List.append_nil] at e
  rw [parse_take c hm false (serB c) (c.data ++ []) e p (by omega) _ rfl, rT, if_pos (.inr ⟨rfl, by have := ser_head hm; omega⟩)]
/-- With bytes behind there is a tail. -/
theorem parse_tail {c : Cont} (hm : May c) (hw : (c.data.length : Int) = c.size) (o : Bool) (tail : List Int) (ht : 0 < tail.length) : parse (serB c ++ tail) o = .error (58, ((serB c).length : Int)) := by
  have hp := parse_take c hm o (serB c ++ tail) (c.data ++ tail) (ser_shape c tail) (serB c ++ tail).length (Nat.le_refl _) _ rfl
  rw [List.take_length] at hp
  have hl := ser_head hm
  rw [hp, rT, List.length_append, if_neg (fun x => by rcases x with x | ⟨_, x⟩ <;> omega), if_neg (by omega), hl]
  simp only [Except.error.injEq, Prod.mk.injEq, true_and]
  omega
end Go.Proofs.Ytkbboepopcebaaa
