/- A transaction as a value; its size. -/
import Derived.Test.YtlafibjcmalkdaaE
import Derived.Test.YtlafibjcmalkdaaC
namespace Go.Proofs.Ytlafibjcmalkdaa
open Go.RowKit

/-- An entry of the access list: an address, its keys. -/
structure AccE where
  ad : List Int
  kn : Nat
  kc : List Int
instance : Inhabited AccE := ⟨⟨[], 0, []⟩⟩
def accCells : List AccE → List Value → List Value
  | e :: es, kv :: kvs => nums .u8 e.ad ++ kv :: accCells es kvs
  | _, _ => []
theorem accCells_len : ∀ (es : List AccE) (kvs : List Value), kvs.length = es.length → (∀ e ∈ es, e.ad.length = 20) → (accCells es kvs).length = es.length * 21
  | [], [], _, _ => rfl
  | e :: es, kv :: kvs, h, ha => by
    have := accCells_len es kvs (by simpa using h) fun x hx => ha x (by simp [hx])
    simp only [accCells, List.length_append, List.length_cons, nums_length, this, ha e (by simp)]
    omega
  | [], _ :: _, h, _ => by simp at h
  | _ :: _, [], h, _ => by simp at h
theorem accCells_get : ∀ (es : List AccE) (kvs : List Value), kvs.length = es.length → (∀ e ∈ es, e.ad.length = 20) → ∀ i, i < es.length → elem 21 (accCells es kvs) i = nums .u8 (es.getD i default).ad ++ [kvs.getD i undef]
  | e :: es, kv :: kvs, h, ha, 0, _ => by
    have hl := ha e (by simp)
    simp [accCells, elem, List.take_append, nums_length, hl, List.take_of_length_le]
  | e :: es, kv :: kvs, h, ha, i + 1, hi => by
    have ih := accCells_get es kvs (by simpa using h) (fun x hx => ha x (by simp [hx])) i (by simpa using hi)
    have hl := ha e (by simp)
    simp only [List.getD_cons_succ]
    rw [← ih]
    unfold elem
    congr 1
    rw [show (i + 1) * 21 = (nums .u8 e.ad ++ [kv]).length + i * 21 by simp [nums_length, hl]; omega]
    rw [show accCells (e :: es) (kv :: kvs) = (nums .u8 e.ad ++ [kv]) ++ accCells es kvs by simp [accCells]]
    rw [List.drop_length_add_append]
  | [], _, _, _, i, hi => by simp at hi
  | _ :: _, [], h, _, _, _ => by simp at h
theorem accCells_snoc : ∀ (es : List AccE) (kvs : List Value) (e : AccE) (kv : Value), kvs.length = es.length → accCells (es ++ [e]) (kvs ++ [kv]) = accCells es kvs ++ (nums .u8 e.ad ++ [kv])
  | [], [], e, kv, _ => by simp [accCells]
  | x :: es, y :: kvs, e, kv, h => by simp [accCells, accCells_snoc es kvs e kv (by simpa using h)]
  | [], _ :: _, _, _, h => by simp at h
  | _ :: _, [], _, _, h => by simp at h
def KeysOk (w : World) (es : List AccE) (kvs : List Value) : Prop := kvs.length = es.length ∧ (∀ e ∈ es, e.ad.length = 20) ∧ ∀ i, i < es.length → CellV w (kvs.getD i undef) (es.getD i default).kn 4 (nums .u64 (es.getD i default).kc)
theorem KeysOk.mono {w w1 : World} {es : List AccE} {kvs : List Value} (h : KeysOk w es kvs) (hb : Below w.heap.size w w1) : KeysOk w1 es kvs := ⟨h.1, h.2.1, fun i hi => (h.2.2 i hi).mono hb⟩
def AccV (w : World) (v : Value) (es : List AccE) : Prop := ∃ kvs, CellV w v es.length 21 (accCells es kvs) ∧ KeysOk w es kvs
theorem AccV.mono {w w1 : World} {v : Value} {es : List AccE} (h : AccV w v es) (hb : Below w.heap.size w w1) : AccV w1 v es := by
  obtain ⟨kvs, h1, h2⟩ := h; exact ⟨kvs, h1.mono hb, h2.mono hb⟩

/-- A transaction, as far as its cost hangs on it; the lists that are copied. -/
structure Tx where
  inp : List Int
  acc : List AccE
  nb : Nat
  bc : List Int
  make : Bool
  ini : List Int
def KInt (k : IntKind) (v : Option Value) : Prop := ∃ z, v = some (.int k z)
/-- The cells of a transaction that are numbers. -/
structure Scal (C : Array Value) : Prop where
  from_ : ∀ j, j < 20 → KInt .u8 C[j]?
  nonce : KInt .u64 C[20]?
  price : ∀ j, j < 4 → KInt .u64 C[21 + j]?
  gas : KInt .u64 C[25]?
  to : ∀ j, j < 20 → KInt .u8 C[26 + j]?
  value : ∀ j, j < 4 → KInt .u64 C[46 + j]?
  salt : ∀ j, j < 4 → KInt .u64 C[55 + j]?
structure TxV (w : World) (C : Array Value) (t : Tx) (vi va vb vn : Value) : Prop where
  size : C.size = 59
  ones : C.all (·.oneCell') = true
  c50 : C[50]? = some vi
  c51 : C[51]? = some va
  c52 : C[52]? = some vb
  c53 : C[53]? = some (.bool t.make)
  c54 : C[54]? = some vn
  inp : NumsV w .u8 vi t.inp
  acc : AccV w va t.acc
  blobs : CellV w vb t.nb 32 (nums .u8 t.bc)
  ini : NumsV w .u8 vn t.ini
theorem TxV.mono {w w1 : World} {C : Array Value} {t : Tx} {vi va vb vn : Value} (h : TxV w C t vi va vb vn) (hb : Below w.heap.size w w1) : TxV w1 C t vi va vb vn :=
  { h with inp := h.inp.mono hb, acc := h.acc.mono hb, blobs := h.blobs.mono hb, ini := h.ini.mono hb }
def asum : List AccE → Nat
  | [] => 0
  | e :: es => 1 + e.kn + asum es
theorem asum_append (a b : List AccE) : asum (a ++ b) = asum a + asum b := by
  induction a with
  | nil => simp [asum]
  | cons e a ih => simp only [List.cons_append, asum, ih]; omega
theorem asum_take_le (es : List AccE) (k : Nat) : asum (es.take k) ≤ asum es := by
  conv => rhs; rw [← List.take_append_drop k es, asum_append]
  omega
theorem asum_step {es : List AccE} {k : Nat} (h : k < es.length) : asum (es.take (k + 1)) = asum (es.take k) + (1 + (es.getD k default).kn) := by
  rw [List.take_succ_eq_append_getElem h, asum_append]
  simp [asum, List.getD_eq_getElem?_getD, h]
theorem asum_len (es : List AccE) : es.length ≤ asum es := by
  induction es with
  | nil => simp
  | cons e es ih => simp only [List.length_cons, asum]; omega
def tsize (t : Tx) : Nat := t.inp.length + t.ini.length + t.nb + asum t.acc
theorem box_cell (w : World) (C : Array Value) (t : TypeId) (j : Nat) (v : Value) (h : C[j]? = some v) : (w.alloc (.cells C t)).cell? ⟨w.heap.size, j, none⟩ = some v := by
  rw [cell_of_row _ w.heap.size j C t (0, 0) (heap_alloc_new w _)]
  exact h
/-- The element at i, its keys. -/
theorem acc_at {w : World} {A : Option Addr} {c n : Nat} {es : List AccE} {kvs : List Value} (hc : CellV w (.slice A n c) es.length 21 (accCells es kvs)) (hk : KeysOk w es kvs) {i : Nat} (hi : i < es.length) :
    ∃ b o, A = some ⟨b, o, none⟩ ∧ w.rangeAt b (o + i * 21) (nums .u8 (es.getD i default).ad ++ [kvs.getD i undef]) ∧ w.cell? ⟨b, o + i * 21 + 20, none⟩ = some (kvs.getD i undef) := by
  obtain ⟨A', c', e, _, _, _, hl, _, hr⟩ := hc
  injection e with e1 e2 e3
  subst e1
  obtain ⟨b, o, rfl, hcell⟩ := hr (by rw [hl]; omega)
  have hrg := range_elem hcell 21 i
  rw [accCells_get es kvs hk.1 hk.2.1 i hi] at hrg
  refine ⟨b, o, rfl, hrg, ?_⟩
  refine hrg 20 _ ?_
  have : (es.getD i default).ad.length = 20 := hk.2.1 _ (by simp [List.getD_eq_getElem?_getD, hi])
  rw [List.getElem?_append_right (by rw [nums_length]; omega), nums_length, this]
  rfl

set_option maxRecDepth 100000 in
set_option maxHeartbeats 2000000 in
theorem size_any (C : Array Value) (t : Tx) (vi va vb vn : Value) (w : World) (h : TxV w C t vi va vb vn) :
    Calls Try.prog 4 #[.agg C] w fun e w' => ∃ z : Int, e = .returned (.int .i64 z) ∧ (z ≤ 200000 → tsize t ≤ 200000) ∧ Below w.heap.size w w' := by
  have hb0 := below_alloc w (.cells C 31)
  have h50 := box_cell w C 31 50 _ h.c50
  have h51 := box_cell w C 31 51 _ h.c51
  have h52 := box_cell w C 31 52 _ h.c52
  have h54 := box_cell w C 31 54 _ h.c54
  have h2 := h.mono hb0
  have hsz := h.size
  obtain ⟨A0, c0, rfl, _, _, r0⟩ := h2.inp
  obtain ⟨A4, c4, rfl, _, _, r4⟩ := h2.ini
  obtain ⟨A2, c2, rfl, _, _, l2, _⟩ := h2.blobs
  obtain ⟨kvs, ha, hk⟩ := h2.acc
  obtain ⟨A1, c1, rfl, _, _, l1, _⟩ := id ha
  obtain ⟨p0, hp0⟩ : ∃ p, p = t.inp.length := ⟨_, rfl⟩
  obtain ⟨p4, hp4⟩ : ∃ p, p = t.ini.length := ⟨_, rfl⟩
  obtain ⟨p2, hp2⟩ : ∃ p, p = t.nb := ⟨_, rfl⟩
  obtain ⟨n, hn⟩ : ∃ p, p = t.acc.length := ⟨_, rfl⟩
  have b0 : p0 ≤ 140737488351232 := by rw [hp0]; exact r0.1
  have b4 : p4 ≤ 140737488351232 := by rw [hp4]; exact r4.1
  have b2 : p2 ≤ 140737488351232 := by rw [hp2]; exact l2
  have b1 : n ≤ 140737488351232 := by rw [hn]; exact l1
  have hts : tsize t = p0 + p4 + p2 + asum t.acc := by rw [hp0, hp4, hp2]; rfl
  have HA := Lib.hid ha
  rw [← hp0] at h50
  rw [← hp4] at h54
  rw [← hp2] at h52
  rw [← hn] at h51
  have w1 : IntKind.i64.wrap ((p0 : Int) + (p4 : Int)) = ((p0 + p4 : Nat) : Int) := by rw [IntWalk.i64_in _ (by omega)]; omega
  have w2 : IntKind.i64.wrap (((p0 + p4 : Nat) : Int) + (p2 : Int)) = ((p0 + p4 + p2 : Nat) : Int) := by rw [IntWalk.i64_in _ (by omega)]; omega
  have w2' : IntKind.i64.wrap ((p0 : Int) + (p4 : Int) + (p2 : Int)) = ((p0 + p4 + p2 : Nat) : Int) := by rw [IntWalk.i64_in _ (by omega)]; omega
  have HB0 := Lib.hid hb0
  have HN := Lib.hid hn
  have HK := Lib.hid hk
  have HTS := Lib.hid hts
  clear h h2 hp0 hp4 hp2 hn r0 r4 l2 l1 hts ha hk hb0
  obtain ⟨B, hB⟩ : ∃ B : Nat, B = p0 + p4 + p2 := ⟨_, rfl⟩
  have hBb : (B : Int) ≤ 422212465053696 := by omega
  have hB2 : B ≤ 422212465053696 := by omega
  rw [← hB] at w2 w2'
  have HBB := Lib.hid hB
  clear hB
  go_enter Try.func4, Try.ntmps4
  obtain ⟨W, hW⟩ : ∃ W, W = w.alloc (.cells C 31) := ⟨_, rfl⟩
  obtain ⟨g, hg⟩ : ∃ g, g = w.heap.size := ⟨_, rfl⟩
  go_wp2_with fail
  rw [← hW] at h50 h51 h52 h54 HA HK HB0 ⊢
  rw [← hg] at h50 h51 h52 h54 ⊢
  clear hW hg
  go_loopw [3, 4] (fun s i wr => ∃ k m : Nat, k ≤ n ∧ i = .int .i64 k ∧ s = .int .i64 m ∧ m = B + asum (t.acc.take k) ∧ m ≤ 1000000000000000 ∧ wr = W) (fun _ i _ => n - (intOf i).toNat)
  case atStart => exact ⟨0, B, Nat.zero_le _, rfl, by go_num, by simp [asum], by omega, rfl⟩
  case round =>
    obtain ⟨k, m, hk, rfl, rfl, hm, hmb, rfl⟩ := hrel
    have HM := Lib.hid hm
    clear hm
    by_cases hlt : k < n
    · by_cases hle : m ≤ 200000
      · have hk2 : k < t.acc.length := by have := HN.out; omega
        obtain ⟨b, o, rfl, _, hcell⟩ := acc_at HA.out HK.out hk2
        obtain ⟨A9, c9, e9, _, _, l9, _⟩ := HK.out.2.2 k hk2
        rw [e9] at hcell
        obtain ⟨q, hq⟩ : ∃ q, q = (t.acc.getD k default).kn := ⟨_, rfl⟩
        have hst := asum_step hk2
        rw [← hq] at hcell hst
        have HST := Lib.hid hst
        have hqb : q ≤ 140737488351232 := by rw [hq]; exact l9
        have hi0 : (0 : Int) ≤ (k : Int) := by omega
        have hi1 : (k : Int) < (n : Int) := by omega
        have hle2 : (m : Int) ≤ 200000 := by omega
        have hws : IntKind.i64.wrap (1 + (q : Int)) = ((1 + q : Nat) : Int) := by rw [IntWalk.i64_in _ (by omega)]; omega
        have hws2 : IntKind.i64.wrap ((m : Int) + ((1 + q : Nat) : Int)) = ((m + (1 + q) : Nat) : Int) := by rw [IntWalk.i64_in _ (by omega)]; omega
        have hws3 : IntKind.i64.wrap ((m : Int) + (1 + (q : Int))) = ((m + (1 + q) : Nat) : Int) := by rw [IntWalk.i64_in _ (by omega)]; omega
        obtain ⟨m2, hm2⟩ : ∃ m2 : Nat, m2 = m + (1 + q) := ⟨_, rfl⟩
        rw [← hm2] at hws2 hws3
        have HM2 := Lib.hid hm2
        clear hst hq hm2 e9
        go_wp2
        go_roundw
        case rel => exact ⟨k + 1, m2, by omega, by go_num, rfl, by have := HST.out; have := HM.out; have := HM2.out; omega, by have := HM2.out; omega, by first | rfl | trivial⟩
        case measure => simp [intOf]; omega
      · have hgt : (200000 : Int) < (m : Int) := by omega
        have hi1 : (k : Int) < (n : Int) := by omega
        go_wp2
        go_ret
        exact ⟨_, rfl, fun h => absurd h (by omega), HB0.out⟩
    · have hge : ¬ ((k : Int) < (n : Int)) := by omega
      go_wp2
      go_ret
      refine ⟨_, rfl, fun _ => ?_, HB0.out⟩
      have e1 : t.acc.take k = t.acc := List.take_of_length_le (by have := HN.out; omega)
      have e2 := HM.out
      rw [e1] at e2
      have := HTS.out
      have := HBB.out
      omega
end Go.Proofs.Ytlafibjcmalkdaa
