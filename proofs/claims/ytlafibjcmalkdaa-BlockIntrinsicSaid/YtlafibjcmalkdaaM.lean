/- What is handed in, read as a transaction; what it is behind writes into its two lists of bytes. -/
import Derived.Test.YtlafibjcmalkdaaI2
namespace Go.Proofs.Ytlafibjcmalkdaa
open Go.RowKit

theorem mark_reads {w : World} {B e s : Nat} {v : Value} {n : Nat} {cs : List Value} {m : Nat} {mk : List Value} (h : MarkV w B e s v n cs m mk) (hn : n ≤ 1000000) (hl : cs.length = n * s) (h1 : ∀ u ∈ cs, u.oneCell' = true) (hm : 0 < m) : CellV w v n s cs := by
  obtain ⟨g, c, rfl, ho⟩ := h
  obtain ⟨A, c', e, h2, _, hr⟩ := own_cells ho
  injection e with e1 e2 e3
  subst e1 e3
  refine ⟨_, c, rfl, by omega, by simp, by unfold reach; omega, hl, h1, fun hp => ?_⟩
  obtain ⟨b, o, e, hc⟩ := hr (by simp; omega)
  exact ⟨b, o, e, fun j v hv => hc j v (by rw [List.getElem?_append_left (List.getElem?_eq_some_iff.1 hv).1]; exact hv)⟩
/-- Bytes of the call's own, whatever they are. -/
def Bytes (w : World) (B : Nat) (v : Value) (n : Nat) : Prop := ∃ g c, ∃ L : List Int, v = .slice (some ⟨g, 0, none⟩) n c ∧ w.ownsRow B 5 1 (.slice (some ⟨g, 0, none⟩) (n + 3) c) (n + 3) (nums .u8 L)
theorem Bytes.below {w w1 : World} {B : Nat} {v : Value} {n : Nat} (h : Bytes w B v n) (hb : Below w.heap.size w w1) : Bytes w1 B v n := by
  obtain ⟨g, c, L, e, ho⟩ := h; exact ⟨g, c, L, e, own_below ho hb⟩
theorem bytes_of {w : World} {B : Nat} {v : Value} {l : List Int} (h : MarkV w B 5 1 v l.length (nums .u8 l) 3 marks3) : Bytes w B v l.length := by
  obtain ⟨g, c, rfl, ho⟩ := h
  exact ⟨g, c, l ++ [171, 172, 173], rfl, by rw [nums_append]; exact ho⟩
theorem Bytes.reads {w : World} {B : Nat} {v : Value} {n : Nat} (h : Bytes w B v n) (hn : n ≤ 1000000) : ∃ l : List Int, l.length = n ∧ NumsV w .u8 v l := by
  obtain ⟨g, c, L, rfl, ho⟩ := h
  have hl : L.length = n + 3 := by have := ho.1; simpa [nums_length] using this
  obtain ⟨A, c', e, h2, _, hr⟩ := own_cells ho
  injection e with e1 e2 e3
  subst e1 e3
  have hz : (L.take n).length = n := by rw [List.length_take]; omega
  refine ⟨L.take n, hz, some ⟨g, 0, none⟩, c, by rw [hz], by omega, by simp, by rw [hz]; unfold reach; omega, fun hp => ?_⟩
  obtain ⟨b, o, e, hc⟩ := hr (by rw [nums_length]; omega)
  refine ⟨b, o, e, fun j hj => ?_⟩
  rw [hz] at hj
  have := hc j _ (nums_get _ _ _ (by omega))
  rw [this]
  simp [List.getD_eq_getElem?_getD, List.getElem?_take, hj]
/-- A byte is written into a block of bytes: bytes stay bytes. -/
theorem Bytes.store {w : World} {B : Nat} {v : Value} {n : Nat} (h : Bytes w B v n) (X j : Nat) (y : Int) : Bytes (w.setCell ⟨X, j, none⟩ (.int .u8 y)) B v n := by
  obtain ⟨g, c, L, rfl, ho⟩ := h
  by_cases hX : X = g
  · subst hX
    refine ⟨X, c, L.set j y, rfl, ?_⟩
    refine ⟨by have := ho.1; simp only [nums_length, List.length_set] at this ⊢; exact this, ?_⟩
    rcases ho.2 with ⟨e, _⟩ | ⟨g', cap, cur, e, hB, hh, h1, h2, h3, h4⟩
    · cases e
    · injection e with e1 e2 e3
      injection e1 with e1
      injection e1 with e1
      subst e1 e3
      refine .inr ⟨X, c, cur.setIfInBounds j (.int .u8 y), rfl, hB, heap_setCell_same w X j cur 5 _ hh, h1, h2, by simpa using h3, ?_⟩
      have e4 : (nums .u8 (L.set j y)) = (nums .u8 L).set j (.int .u8 y) := by simp [nums, List.map_set]
      rw [e4, ← h4, Array.toList_setIfInBounds, List.take_set]
  · refine ⟨g, c, L, rfl, own_other ho (grown_setCell w X j _) (.inr fun e => hX ?_)⟩
    simpa [Value.ownBlock] using e.symm
/-- Where the first cells lie. -/
theorem Bytes.cell {w : World} {B : Nat} {g c n : Nat} (h : Bytes w B (.slice (some ⟨g, 0, none⟩) n c) n) {j : Nat} (hj : j < n) : (∃ y, w.cell? ⟨g, j, none⟩ = some (.int .u8 y)) ∧ w.frozen? ⟨g, j, none⟩ = false ∧ B ≤ g ∧ n ≤ c := by
  obtain ⟨g', c', L, e, ho⟩ := h
  injection e with e1 e2 e3
  injection e1 with e1
  injection e1 with e1
  subst e1 e3
  have hl : L.length = n + 3 := by have := ho.1; simpa [nums_length] using this
  have hc := ho.cells (g := g) rfl j _ (nums_get .u8 L j (by omega))
  rw [Addr.add_lit] at hc
  obtain ⟨_, _, e4, h4⟩ := own_some_of ho (by omega)
  injection e4 with _ _ e5
  refine ⟨⟨_, by simpa using hc⟩, ?_, ?_, by omega⟩
  · rcases ho.2 with ⟨e, _⟩ | ⟨g', cap, cur, e, hB, hh, _⟩
    · cases e
    · injection e with e1 e2 e3
      injection e1 with e1
      injection e1 with e1
      subst e1
      exact frozen_of_row w g j cur 5 hh
  · exact own_ge ho g rfl
/-- What is handed in, its two lists of bytes whatever they are. -/
structure GInv (w : World) (B : Nat) (t : Tx) (vi va vb vn : Value) (kvs : List Value) : Prop where
  inp : Bytes w B vi t.inp.length
  ini : Bytes w B vn t.ini.length
  blobs : MarkV w B 48 32 vb t.nb (nums .u8 t.bc) 1 h171.toList
  acc : MarkV w B 39 21 va t.acc.length (accCells t.acc kvs) 1 a171
  klen : kvs.length = t.acc.length
  ads : ∀ e ∈ t.acc, e.ad.length = 20
  keys : ∀ i, i < t.acc.length → MarkV w B 26 4 (kvs.getD i undef) (t.acc.getD i default).kn (nums .u64 (t.acc.getD i default).kc) 1 w171.toList
theorem TxM.ginv {w : World} {B : Nat} {t : Tx} {vi va vb vn : Value} {kvs : List Value} (h : TxM w B t vi va vb vn kvs) : GInv w B t vi va vb vn kvs :=
  ⟨bytes_of h.inp, bytes_of h.ini, h.blobs, h.acc, h.klen, h.ads, h.keys⟩
theorem GInv.below {w w1 : World} {B : Nat} {t : Tx} {vi va vb vn : Value} {kvs : List Value} (h : GInv w B t vi va vb vn kvs) (hb : Below w.heap.size w w1) : GInv w1 B t vi va vb vn kvs :=
  ⟨h.inp.below hb, h.ini.below hb, h.blobs.below hb, h.acc.below hb, h.klen, h.ads, fun i hi => (h.keys i hi).below hb⟩
theorem mark_type {w w1 : World} {B e s : Nat} {v : Value} {n : Nat} {cs : List Value} {m : Nat} {mk : List Value} (h : MarkV w B e s v n cs m mk) {X : Nat} {cur : Array Value} {t : TypeId} {fr : Nat × Nat} (hX : w.heap[X]? = some (.cells cur t fr)) (hne : e ≠ t) (hm : 0 < n + m) (hg : w.grownBy w1 (some X)) : MarkV w1 B e s v n cs m mk := by
  obtain ⟨g, c, rfl, ho⟩ := h
  refine ⟨g, c, rfl, own_other ho hg (.inr fun e => hne ?_)⟩
  have e1 : g = X := by simpa [Value.ownBlock] using e
  subst e1
  rcases ho.2 with ⟨e, _⟩ | ⟨g', cap, cur', e, hB, hh, _⟩
  · cases e
  · injection e with e1 e2 e3
    injection e1 with e1
    injection e1 with e1
    subst e1
    rw [hh] at hX
    injection hX with hX
    injection hX with _ ht _
theorem GInv.store {w : World} {B : Nat} {t : Tx} {vi va vb vn : Value} {kvs : List Value} (h : GInv w B t vi va vb vn kvs) {X : Nat} {cur : Array Value} {fr : Nat × Nat} (hX : w.heap[X]? = some (.cells cur 5 fr)) (j : Nat) (y : Int) : GInv (w.setCell ⟨X, j, none⟩ (.int .u8 y)) B t vi va vb vn kvs :=
  ⟨h.inp.store X j y, h.ini.store X j y, mark_type h.blobs hX (by decide) (by omega) (grown_setCell _ _ _ _), mark_type h.acc hX (by decide) (by omega) (grown_setCell _ _ _ _), h.klen, h.ads, fun i hi => mark_type (h.keys i hi) hX (by decide) (by omega) (grown_setCell _ _ _ _)⟩
theorem Bytes.blk {w : World} {B : Nat} {g c n : Nat} (h : Bytes w B (.slice (some ⟨g, 0, none⟩) n c) n) : ∃ cur, w.heap[g]? = some (.cells cur 5 (0, 0)) := by
  obtain ⟨g', c', L, e, ho⟩ := h
  injection e with e1 e2 e3
  injection e1 with e1
  injection e1 with e1
  subst e1
  rcases ho.2 with ⟨e, _⟩ | ⟨g', cap, cur, e, hB, hh, _⟩
  · cases e
  · injection e with e1 e2 e3
    injection e1 with e1
    injection e1 with e1
    subst e1
    exact ⟨cur, hh⟩
theorem anew_get (C : Array Value) (vi va vb vn : Value) (hz : C.size = 59) : (anew C vi va vb vn)[50]? = some vi ∧ (anew C vi va vb vn)[51]? = some va ∧ (anew C vi va vb vn)[52]? = some vb ∧ (anew C vi va vb vn)[54]? = some vn ∧ (anew C vi va vb vn)[53]? = C[53]? := by
  unfold anew
  refine ⟨?_, ?_, ?_, ?_, ?_⟩
  · rw [Array.getElem?_setIfInBounds_ne (by decide), Array.getElem?_setIfInBounds_ne (by decide), Array.getElem?_setIfInBounds_ne (by decide), Array.getElem?_setIfInBounds_self_of_lt (by omega)]
  · rw [Array.getElem?_setIfInBounds_self_of_lt (by simp; omega)]
  · rw [Array.getElem?_setIfInBounds_ne (by decide), Array.getElem?_setIfInBounds_self_of_lt (by simp; omega)]
  · rw [Array.getElem?_setIfInBounds_ne (by decide), Array.getElem?_setIfInBounds_ne (by decide), Array.getElem?_setIfInBounds_self_of_lt (by simp; omega)]
  · rw [Array.getElem?_setIfInBounds_ne (by decide), Array.getElem?_setIfInBounds_ne (by decide), Array.getElem?_setIfInBounds_ne (by decide), Array.getElem?_setIfInBounds_ne (by decide)]
theorem accCells_one : ∀ (es : List AccE) (kvs : List Value), (∀ kv ∈ kvs, kv.oneCell' = true) → ∀ u ∈ accCells es kvs, u.oneCell' = true
  | [], _, _, u, hu => by simp [accCells] at hu
  | _ :: _, [], _, u, hu => by simp [accCells] at hu
  | e :: es, kv :: kvs, h, u, hu => by
    simp only [accCells, List.mem_append, List.mem_cons] at hu
    rcases hu with hu | rfl | hu
    · exact nums_one _ _ u hu
    · exact h _ (by simp)
    · exact accCells_one es kvs (fun x hx => h x (by simp [hx])) u hu
/-- The lengths that a reading gives. -/
structure TxL (t : Tx) : Prop where
  bl : (nums .u8 t.bc).length = t.nb * 32
  ads : ∀ e ∈ t.acc, e.ad.length = 20
  kl : ∀ i, i < t.acc.length → (nums .u64 (t.acc.getD i default).kc).length = (t.acc.getD i default).kn * 4
theorem TxV.lens {w : World} {C : Array Value} {t : Tx} {vi va vb vn : Value} (h : TxV w C t vi va vb vn) : TxL t := by
  obtain ⟨_, _, _, _, _, _, hb, _⟩ := h.blobs
  obtain ⟨kvs, _, hk⟩ := h.acc
  refine ⟨hb, hk.2.1, fun i hi => ?_⟩
  obtain ⟨_, _, _, _, _, _, hl, _⟩ := hk.2.2 i hi
  exact hl
theorem kn_le (t : Tx) (i : Nat) (hi : i < t.acc.length) : (t.acc.getD i default).kn ≤ asum t.acc := by
  have h1 := asum_take_le t.acc (i + 1)
  rw [asum_step hi] at h1
  omega
/-- It reads as a transaction with these bytes. -/
theorem GInv.txv {w : World} {B : Nat} {C : Array Value} {t : Tx} {vi va vb vn : Value} {kvs : List Value} (h : GInv w B t vi va vb vn kvs) (hl : TxL t) (hz : C.size = 59) (h1 : C.all (·.oneCell') = true) (hm : C[53]? = some (.bool t.make)) (hs : tsize t ≤ 200000) :
    ∃ l m : List Int, l.length = t.inp.length ∧ m.length = t.ini.length ∧ TxV w (anew C vi va vb vn) { t with inp := l, ini := m } vi va vb vn := by
  have hts : tsize t = t.inp.length + t.ini.length + t.nb + asum t.acc := rfl
  have has := asum_len t.acc
  have n1 : t.nb ≤ 1000000 := by omega
  have n2 : t.acc.length ≤ 1000000 := by omega
  have n3 : ∀ i, i < t.acc.length → (t.acc.getD i default).kn ≤ 1000000 := fun i hi => by have := kn_le t i hi; omega
  obtain ⟨l, hl1, hl2⟩ := h.inp.reads (by omega)
  obtain ⟨m, hm1, hm2⟩ := h.ini.reads (by omega)
  obtain ⟨e0, e1, e2, e4, e3⟩ := anew_get C vi va vb vn hz
  have o0 : vi.oneCell' = true := by obtain ⟨_, _, _, e, _⟩ := h.inp; rw [e]; rfl
  have o4 : vn.oneCell' = true := by obtain ⟨_, _, _, e, _⟩ := h.ini; rw [e]; rfl
  refine ⟨l, m, hl1, hm1, ⟨by simp [anew, hz], ones_set (ones_set (ones_set (ones_set h1 _ o0) _ o4) _ (mark_one h.blobs)) _ (mark_one h.acc), e0, e1, e2, e3.trans hm, e4, hl2, ?_, mark_reads h.blobs n1 hl.bl (nums_one _ _) (by omega), hm2⟩⟩
  refine ⟨kvs, mark_reads h.acc n2 (accCells_len _ _ h.klen h.ads) ?_ (by omega), h.klen, h.ads, fun i hi => mark_reads (h.keys i hi) (n3 i hi) (hl.kl i hi) (nums_one _ _) (by omega)⟩
  exact accCells_one _ _ (fun kv hkv => by
    obtain ⟨i, hi, e⟩ := List.getElem_of_mem hkv
    have hi2 : i < t.acc.length := by rw [← h.klen]; exact hi
    have := mark_one (h.keys i hi2)
    rw [List.getD_eq_getElem?_getD, List.getElem?_eq_getElem hi] at this
    rw [← e]
    exact this)
end Go.Proofs.Ytlafibjcmalkdaa
