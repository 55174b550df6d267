/- BlockIntrinsic: the walk. -/
import Derived.Test.YtlafibjcmalkdaaM
import Derived.Deep.RegionLaw
import Derived.Deep.RegionHeld3
import Derived.Test.YtlafibjcmalkdaaK
import Derived.Test.YtlafibjcmalkdaaH
namespace Go.Proofs.Ytlafibjcmalkdaa
open Go.RowKit

section
variable {ops : Array Oper} {rest : List Oper} {op : Oper} {a : Act} {C : World → Prop} {Q : Act → Prop}
/-- Operations of a region of any order whose callees leave worlds of a class. -/
theorem wpQuiet_load_c (hw : Region.wanted op (yielded ops a.tmps) = true) (ty : TypeId) (x : Operand) (ho : op.op = .load ty x)
    (b o : Nat) (hx : a.eval x = .pointer (some ⟨b, o, none⟩)) (xs : Array Value) (d : TypeDesc) (hc : Hid (∀ w', C w' → w'.rangeAt b o xs.toList))
    (hu : Try.prog.underlying ty = some d) (hd : d.isRow = true) (hi : Hid ((Try.prog.info? ty).map (·.size) = some xs.size))
    (h : wpQuiet Try.prog ops C Q rest (a.put op.dst (.agg xs))) : wpQuiet Try.prog ops C Q (op :: rest) a := by
  unfold wpQuiet
  rw [if_pos hw]
  refine ⟨.agg xs, ?_, h⟩
  intro w' hw'
  unfold Oper.quietAt execOp
  simp only [ho, hx, Sem.run_bind, run_loadAt_mid (P := Try.prog) w' b o ty xs.toList d (hc.out w' hw') hu hd (by simpa using hi.out), Result.andThen_ok]
  exact ⟨rfl, rfl⟩
theorem wpQuiet_val_c (hw : Region.wanted op (yielded ops a.tmps) = true) (v : Value) (hr : ∀ w', (execOp a.eval op).run Try.prog w' = .ok (.value v) w')
    (h : wpQuiet Try.prog ops C Q rest (a.put op.dst v)) : wpQuiet Try.prog ops C Q (op :: rest) a := by
  unfold wpQuiet
  rw [if_pos hw]
  refine ⟨v, ?_, h⟩
  intro w' _
  unfold Oper.quietAt
  rw [hr w']
  exact ⟨rfl, rfl⟩
theorem wpQuiet_call_c (hw : Region.wanted op (yielded ops a.tmps) = true) (f : FuncId) (args : Array Value) (v : Value) (hr : ∀ w', (execOp a.eval op).run Try.prog w' = .ok (.enter f args) w')
    (hc : ∀ w', C w' → Calls Try.prog f args w' fun e w'' => e = .returned v ∧ C w'')
    (h : wpQuiet Try.prog ops C Q rest (a.put op.dst v)) : wpQuiet Try.prog ops C Q (op :: rest) a := by
  unfold wpQuiet
  rw [if_pos hw]
  refine ⟨v, ?_, h⟩
  intro w' hw'
  unfold Oper.quietAt
  rw [hr w']
  exact ⟨rfl, hc w' hw'⟩
end
/-- A region of any order, walked once, whose callees leave worlds of a class. -/
theorem region_class {id : Nat} {Q : Exit → Act → World → Prop} {a : Act} {w : World} {l : List Oper} {C : World → Prop} (hm : Try.prog.follows .mixedOrders = true) (hB : Region.lexB .any l.toArray = true) (hC : C w.drew)
    (h : wpQuiet Try.prog l.toArray C (fun a' => ∀ w', C w' → Q .normal a' w') l a) : (Code.region id l.toArray true).wp Try.prog Q a w :=
  wp_region_quiet (C := C) hm hB hC (by simpa using h)
theorem size31 {xs : Array Value} (h : xs.size = 59) : Hid ((Try.prog.info? 31).map (·.size) = some xs.size) := Lib.hid (by rw [h]; kernel_rfl)
theorem tb_range {w : World} {X : Nat} {C : Array Value} (h : TB w X C) : w.rangeAt X 0 C.toList := by
  intro j v hv
  rw [Nat.zero_add]
  exact h.cell (by simpa using hv)

theorem tb_store {w : World} {X : Nat} {C : Array Value} (h : TB w X C) {g : Nat} {cur : Array Value} {fr : Nat × Nat} (hg : w.heap[g]? = some (.cells cur 5 fr)) (j : Nat) (v : Value) : TB (w.setCell ⟨g, j, none⟩ v) X C := by
  refine h.other (fun e => ?_) j v
  subst e
  have := h.blk
  rw [hg] at this
  injection this with this
  injection this with _ h2 _
  cases h2
/-- Where the law stands while it writes over. -/
structure LInv (w0 w : World) (B T G : Nat) (C C1 : Array Value) (t : Tx) (vi va vb vn : Value) (kvs : List Value) : Prop where
  g : GInv w B t vi va vb vn kvs
  tt : TB w T C
  tg : TB w G C1
  below : Below w0.heap.size w0 w
theorem LInv.store {w0 w : World} {B T G : Nat} {C C1 : Array Value} {t : Tx} {vi va vb vn : Value} {kvs : List Value} (h : LInv w0 w B T G C C1 t vi va vb vn kvs) {g : Nat} {cur : Array Value} {fr : Nat × Nat} (hg : w.heap[g]? = some (.cells cur 5 fr)) (hB : w0.heap.size ≤ g) (j : Nat) (y : Int) :
    LInv w0 (w.setCell ⟨g, j, none⟩ (.int .u8 y)) B T G C C1 t vi va vb vn kvs :=
  ⟨h.g.store hg j y, tb_store h.tt hg j _, tb_store h.tg hg j _, h.below.grown (grown_setCell w g j _) h.below.size (by rintro k ⟨⟩; exact hB)⟩
theorem LInv.mono {w0 w w1 : World} {B T G : Nat} {C C1 : Array Value} {t : Tx} {vi va vb vn : Value} {kvs : List Value} (h : LInv w0 w B T G C C1 t vi va vb vn kvs) (hb : Below w.heap.size w w1) : LInv w0 w1 B T G C C1 t vi va vb vn kvs :=
  ⟨h.g.below hb, h.tt.below hb, h.tg.below hb, below_step h.below hb⟩
theorem TxM.txv {w : World} {B : Nat} {C : Array Value} {t : Tx} {vi va vb vn : Value} {kvs : List Value} (h : TxM w B t vi va vb vn kvs) (hl : TxL t) (hz : C.size = 59) (h1 : C.all (·.oneCell') = true) (hm : C[53]? = some (.bool t.make)) (hs : tsize t ≤ 200000) :
    TxV w (anew C vi va vb vn) t vi va vb vn := by
  have hts : tsize t = t.inp.length + t.ini.length + t.nb + asum t.acc := rfl
  have has := asum_len t.acc
  obtain ⟨e0, e1, e2, e4, e3⟩ := anew_get C vi va vb vn hz
  refine ⟨by simp [anew, hz], ones_set (ones_set (ones_set (ones_set h1 _ (mark_one h.inp)) _ (mark_one h.ini)) _ (mark_one h.blobs)) _ (mark_one h.acc), e0, e1, e2, e3.trans hm, e4, ?_, ?_, mark_reads h.blobs (by omega) hl.bl (nums_one _ _) (by omega), ?_⟩
  · exact (mark_reads h.inp (by omega) (by simp [nums_length]) (nums_one _ _) (by omega)).nums
  · refine ⟨kvs, mark_reads h.acc (by omega) (accCells_len _ _ h.klen h.ads) ?_ (by omega), h.klen, h.ads, fun i hi => mark_reads (h.keys i hi) (by have := kn_le t i hi; omega) (hl.kl i hi) (nums_one _ _) (by omega)⟩
    exact accCells_one _ _ (fun kv hkv => by
      obtain ⟨i, hi, e⟩ := List.getElem_of_mem hkv
      have hi2 : i < t.acc.length := by rw [← h.klen]; exact hi
      have := mark_one (h.keys i hi2)
      rw [List.getD_eq_getElem?_getD, List.getElem?_eq_getElem hi] at this
      rw [← e]
      exact this)
  · exact (mark_reads h.ini (by omega) (by simp [nums_length]) (nums_one _ _) (by omega)).nums
noncomputable def reg3 (k : Nat) : Code := (regC k (Try.f3.body.getD .skip)).getD .skip
set_option maxRecDepth 100000 in
set_option maxHeartbeats 4000000 in
theorem l4 (W : World) (T G : Nat) (C C1 : Array Value) (t : Tx) (hbt : TB W T C) (hbg : TB W G C1)
    (hi : ∀ w', Below W.heap.size W w' → Calls Try.prog 6 #[.agg C1] w' fun e w'' => e = .returned (.int .u64 (icost t)) ∧ Below W.heap.size W w'')
    (hf : ∀ w', Below W.heap.size W w' → Calls Try.prog 7 #[.agg C] w' fun e w'' => e = .returned (.int .u64 (icost t)) ∧ Below W.heap.size W w'')
    (hs : ∀ w', Below W.heap.size W w' → Calls Try.prog 8 #[.agg C1, .agg C] w' fun e w'' => e = .returned (.bool true) ∧ Below W.heap.size W w'')
    {u0 u2 u4 u5 u6 u7 u8 u9 u10 u11 u12 u13 u14 u15 u16 u17 u18 u19 u20 u21 u22 u23 u24 u25 u26 u27 u28 u29 u30 u31 u32 u33 u34 u35 u36 u37 u38 u39 u40 u41 u42 u43 u44 u45 u46 u47 u48 u49 u50 u51 u52 u53 u54 u55 u56 u57 u58 u59 u60 u61 u62 u63 u64 u65 u66 u67 u68 u69 u70 u71 u72 u73 : Value} (Q : Exit → Act → World → Prop)
    (hQ : ∀ wx v11 v12 v13 v14 v15 v16 v17 v18 v19 v20 v21 v22 v23 v24 v25 v26 v27, Below W.heap.size W wx → Q .normal ⟨#[u0, .pointer (some ⟨T, 0, none⟩), u2, .pointer (some ⟨G, 0, none⟩), u4, u5, u6, u7, u8, u9, u10, v11, v12, v13, v14, v15, v16, v17, v18, v19, v20, v21, v22, v23, v24, v25, v26, v27, .bool false, u29, u30, u31, u32, u33, u34, u35, u36, u37, u38, u39, u40, u41, u42, u43, u44, u45, u46, u47, u48, u49, u50, u51, u52, u53, u54, u55, u56, u57, u58, u59, u60, u61, u62, u63, u64, u65, u66, u67, u68, u69, u70, u71, u72, u73], []⟩ wx) :
    Code.wp Try.prog (reg3 4) Q ⟨#[u0, .pointer (some ⟨T, 0, none⟩), u2, .pointer (some ⟨G, 0, none⟩), u4, u5, u6, u7, u8, u9, u10, u11, u12, u13, u14, u15, u16, u17, u18, u19, u20, u21, u22, u23, u24, u25, u26, u27, u28, u29, u30, u31, u32, u33, u34, u35, u36, u37, u38, u39, u40, u41, u42, u43, u44, u45, u46, u47, u48, u49, u50, u51, u52, u53, u54, u55, u56, u57, u58, u59, u60, u61, u62, u63, u64, u65, u66, u67, u68, u69, u70, u71, u72, u73], []⟩ W := by
  have HQ := Lib.hid hQ
  have HI := Lib.hid hi
  have HF := Lib.hid hf
  have HS := Lib.hid hs
  have HRT : Hid (∀ w', Below W.heap.size W w' → w'.rangeAt T 0 C.toList) := Lib.hid fun w' hw => tb_range (hbt.below hw)
  have HRG : Hid (∀ w', Below W.heap.size W w' → w'.rangeAt G 0 C1.toList) := Lib.hid fun w' hw => tb_range (hbg.below hw)
  have HZ := size31 hbt.size
  have HZ1 := size31 hbg.size
  clear hQ hi hf hs hbt hbg
  conv => arg 2; whnf
  dsimp only
  refine region_class (C := fun w' => Below W.heap.size W w') (by kernel_rfl) (by kernel_rfl) (Below.refl _ _).drew ?_
  refine wpQuiet_load_c (by rfl) 31 (.tmp 3) rfl G 0 rfl C1 _ HRG Try.underlying31 rfl HZ1 ?_
  simp only [Act.put, List.setIfInBounds_toArray, List.set_cons_zero, List.set_cons_succ]
  refine wpQuiet_call_c (by rfl) 6 #[.agg C1] (.int .u64 (icost t)) (by intro w'; go_simp) HI.out ?_
  simp only [Act.put, List.setIfInBounds_toArray, List.set_cons_zero, List.set_cons_succ]
  refine wpQuiet_load_c (by rfl) 31 (.tmp 1) rfl T 0 rfl C _ HRT Try.underlying31 rfl HZ ?_
  simp only [Act.put, List.setIfInBounds_toArray, List.set_cons_zero, List.set_cons_succ]
  refine wpQuiet_call_c (by rfl) 7 #[.agg C] (.int .u64 (icost t)) (by intro w'; go_simp) HF.out ?_
  simp only [Act.put, List.setIfInBounds_toArray, List.set_cons_zero, List.set_cons_succ]
  refine wpQuiet_val_c (by rfl) (.bool false) (by intro w'; go_simp) ?_
  simp only [Act.put, List.setIfInBounds_toArray, List.set_cons_zero, List.set_cons_succ]
  refine wpQuiet_val_c (by rfl) (.bool false) (by intro w'; go_simp) ?_
  simp only [Act.put, List.setIfInBounds_toArray, List.set_cons_zero, List.set_cons_succ]
  refine wpQuiet_load_c (by rfl) 31 (.tmp 3) rfl G 0 rfl C1 _ HRG Try.underlying31 rfl HZ1 ?_
  simp only [Act.put, List.setIfInBounds_toArray, List.set_cons_zero, List.set_cons_succ]
  refine wpQuiet_call_c (by rfl) 6 #[.agg C1] (.int .u64 (icost t)) (by intro w'; go_simp) HI.out ?_
  simp only [Act.put, List.setIfInBounds_toArray, List.set_cons_zero, List.set_cons_succ]
  refine wpQuiet_load_c (by rfl) 31 (.tmp 1) rfl T 0 rfl C _ HRT Try.underlying31 rfl HZ ?_
  simp only [Act.put, List.setIfInBounds_toArray, List.set_cons_zero, List.set_cons_succ]
  refine wpQuiet_call_c (by rfl) 7 #[.agg C] (.int .u64 (icost t)) (by intro w'; go_simp) HF.out ?_
  simp only [Act.put, List.setIfInBounds_toArray, List.set_cons_zero, List.set_cons_succ]
  refine wpQuiet_val_c (by rfl) (.bool false) (by intro w'; go_simp) ?_
  simp only [Act.put, List.setIfInBounds_toArray, List.set_cons_zero, List.set_cons_succ]
  refine wpQuiet_val_c (by rfl) (.bool false) (by intro w'; go_simp) ?_
  simp only [Act.put, List.setIfInBounds_toArray, List.set_cons_zero, List.set_cons_succ]
  refine wpQuiet_val_c (by rfl) (.bool false) (by intro w'; go_simp) ?_
  simp only [Act.put, List.setIfInBounds_toArray, List.set_cons_zero, List.set_cons_succ]
  refine wpQuiet_load_c (by rfl) 31 (.tmp 3) rfl G 0 rfl C1 _ HRG Try.underlying31 rfl HZ1 ?_
  simp only [Act.put, List.setIfInBounds_toArray, List.set_cons_zero, List.set_cons_succ]
  refine wpQuiet_load_c (by rfl) 31 (.tmp 1) rfl T 0 rfl C _ HRT Try.underlying31 rfl HZ ?_
  simp only [Act.put, List.setIfInBounds_toArray, List.set_cons_zero, List.set_cons_succ]
  refine wpQuiet_call_c (by rfl) 8 #[.agg C1, .agg C] (.bool true) (by intro w'; go_simp) HS.out ?_
  simp only [Act.put, List.setIfInBounds_toArray, List.set_cons_zero, List.set_cons_succ]
  refine wpQuiet_val_c (by rfl) (.bool false) (by intro w'; go_simp) ?_
  simp only [Act.put, List.setIfInBounds_toArray, List.set_cons_zero, List.set_cons_succ]
  refine wpQuiet_val_c (by rfl) (.bool false) (by intro w'; go_simp) ?_
  simp only [Act.put, List.setIfInBounds_toArray, List.set_cons_zero, List.set_cons_succ]
  refine wpQuiet_nil ?_
  intro w' hw'
  exact HQ.out w' _ _ _ _ _ _ _ _ _ _ _ _ _ _ _ _ _ hw'
def zeroTx : Array Value := #[.int .u8 0, .int .u8 0, .int .u8 0, .int .u8 0, .int .u8 0, .int .u8 0, .int .u8 0, .int .u8 0, .int .u8 0, .int .u8 0, .int .u8 0, .int .u8 0, .int .u8 0, .int .u8 0, .int .u8 0, .int .u8 0, .int .u8 0, .int .u8 0, .int .u8 0, .int .u8 0, .int .u64 0, .int .u64 0, .int .u64 0, .int .u64 0, .int .u64 0, .int .u64 0, .int .u8 0, .int .u8 0, .int .u8 0, .int .u8 0, .int .u8 0, .int .u8 0, .int .u8 0, .int .u8 0, .int .u8 0, .int .u8 0, .int .u8 0, .int .u8 0, .int .u8 0, .int .u8 0, .int .u8 0, .int .u8 0, .int .u8 0, .int .u8 0, .int .u8 0, .int .u8 0, .int .u64 0, .int .u64 0, .int .u64 0, .int .u64 0, .slice none 0 0, .slice none 0 0, .slice none 0 0, .bool false, .slice none 0 0, .int .u64 0, .int .u64 0, .int .u64 0, .int .u64 0]
def tx0 : Tx := ⟨[], [], 0, [], false, []⟩
theorem cells_nil (w : World) (s : Nat) : CellV w (.slice none 0 0) 0 s [] := ⟨none, 0, rfl, Nat.le_refl _, fun _ => rfl, Nat.zero_le _, by simp, by simp, fun h => by simp at h⟩
theorem zero_txv (w : World) : TxV w zeroTx tx0 (.slice none 0 0) (.slice none 0 0) (.slice none 0 0) (.slice none 0 0) :=
  ⟨rfl, by simp [zeroTx, Value.oneCell'], rfl, rfl, rfl, rfl, rfl, NumsV.nil w .u8, ⟨[], cells_nil w 21, rfl, by simp [tx0], fun i hi => by simp [tx0] at hi⟩, cells_nil w 32, NumsV.nil w .u8⟩
set_option maxRecDepth 100000 in
set_option maxHeartbeats 4000000 in
theorem l14 (W : World) (G : Nat) (C1 : Array Value) (c : Int) (htg : TB W G C1)
    (hi : ∀ w', Below W.heap.size W w' → Calls Try.prog 6 #[.agg C1] w' fun e w'' => e = .returned (.int .u64 c) ∧ Below W.heap.size W w'')
    (hx : ∀ w', Below W.heap.size W w' → Calls Try.prog 5 #[.agg C1] w' fun e w'' => ∃ C2, e = .returned (.agg C2) ∧ Below W.heap.size W w'' ∧ ∀ w3, Below w''.heap.size w'' w3 → Calls Try.prog 7 #[.agg C2] w3 fun e w4 => e = .returned (.int .u64 c) ∧ Below W.heap.size W w4)
    (hz : ∀ w', Below W.heap.size W w' → Calls Try.prog 6 #[.agg zeroTx] w' fun e w'' => e = .returned (.int .u64 21000) ∧ Below W.heap.size W w'')
    {u0 u1 u2 u4 u5 u6 u7 u8 u9 u10 u11 u12 u13 u14 u15 u16 u17 u18 u19 u20 u21 u22 u23 u24 u25 u26 u27 u28 u29 u30 u31 u32 u33 u34 u35 u36 u37 u38 u39 u40 u41 u42 u43 u44 u45 u46 u47 u48 u49 u50 u51 u52 u53 u54 u55 u56 u57 u58 u59 u60 u61 u62 u63 u64 u65 u66 u67 u68 u69 u70 u71 u72 u73 : Value} (Q : Exit → Act → World → Prop)
    (hQ : ∀ wx v63 v64 v65 v66 v67 v68 v69 v70 v71 v72 v73, Below W.heap.size W wx → Q .normal ⟨#[u0, u1, .bool true, .pointer (some ⟨G, 0, none⟩), u4, u5, u6, u7, u8, u9, u10, u11, u12, u13, u14, u15, u16, u17, u18, u19, u20, u21, u22, u23, u24, u25, u26, u27, u28, u29, u30, u31, u32, u33, u34, u35, u36, u37, u38, u39, u40, u41, u42, u43, u44, u45, u46, u47, u48, u49, u50, u51, u52, u53, u54, u55, u56, u57, u58, u59, u60, u61, u62, v63, v64, v65, v66, v67, v68, v69, v70, v71, v72, v73], []⟩ wx) :
    Code.wp Try.prog (reg3 14) Q ⟨#[u0, u1, u2, .pointer (some ⟨G, 0, none⟩), u4, u5, u6, u7, u8, u9, u10, u11, u12, u13, u14, u15, u16, u17, u18, u19, u20, u21, u22, u23, u24, u25, u26, u27, u28, u29, u30, u31, u32, u33, u34, u35, u36, u37, u38, u39, u40, u41, u42, u43, u44, u45, u46, u47, u48, u49, u50, u51, u52, u53, u54, u55, u56, u57, u58, u59, u60, u61, u62, u63, u64, u65, u66, u67, u68, u69, u70, u71, u72, u73], []⟩ W := by
  have HQ := Lib.hid hQ
  have HI := Lib.hid hi
  have HX := Lib.hid hx
  unfold zeroTx at hz
  have HZ := Lib.hid hz
  have HTG := Lib.hid htg
  have hi31 : (Try.prog.info? 31).map (·.size) = some C1.toList.length := by rw [Array.length_toList, htg.size]; kernel_rfl
  clear hQ hi hx hz htg
  conv => arg 2; whnf
  dsimp only
  refine wp_region_noPanic ?_
  refine wp_region_held_drew (S := (fun w' => Below W.heap.size W w')) (by kernel_rfl) (Below.refl _ _).drew (fun hHeld => ?_)
  refine wpAnyH_take (i := 0) rfl (by kernel_rfl) (by kernel_rfl) (by kernel_rfl) (fun _ _ _ h => h) (yieldsIf_load_mid (by rfl) 31 _ rfl _ _ rfl C1.toList _ (fun w hw => tb_range (HTG.out.below hw)) Try.underlying31 rfl hi31) (by assumption) ?_
  conv => arg 8; whnf
  simp only [List.setIfInBounds_toArray, List.set_cons_zero, List.set_cons_succ]
  refine wpAnyH_take (i := 2) rfl (by kernel_rfl) (by kernel_rfl) (by kernel_rfl) (fun _ _ _ h => h) (yieldsIf_load_mid (by rfl) 31 _ rfl _ _ rfl C1.toList _ (fun w hw => tb_range (HTG.out.below hw)) Try.underlying31 rfl hi31) (by assumption) ?_
  conv => arg 8; whnf
  simp only [List.setIfInBounds_toArray, List.set_cons_zero, List.set_cons_succ]
  refine wpAnyH_ready (rs := [1]) (by kernel_rfl) (by simp) ?_
  refine AllReadyH.cons rfl (fun K hK => ?_) ?_
  rotate_left
  · exact AllReadyH.nil
  go_simp
  go_wp2_with (go_at_call 6; refine (HI.out _ hHeld).mono ?_; rintro _ w5 ⟨rfl, hb5⟩)
  refine hK.out _ _ ?_ (fun hH1 => ?_)
  · exact hb5
  clear hK K hHeld
  refine wpAnyH_ready (rs := [3]) (by kernel_rfl) (by simp) ?_
  refine AllReadyH.cons rfl (fun K hK => ?_) ?_
  rotate_left
  · exact AllReadyH.nil
  go_simp
  go_wp2_with (go_at_call 5; refine (HX.out _ hH1).mono ?_; rintro _ w6 ⟨C2, rfl, hb6, hr⟩)
  refine hK.out _ _ ?_ (fun hH2 => ?_)
  · exact hb6
  clear hK K hH1
  refine wpAnyH_ready (rs := [4]) (by kernel_rfl) (by simp) ?_
  refine AllReadyH.cons rfl (fun K hK => ?_) ?_
  rotate_left
  · exact AllReadyH.nil
  go_simp
  go_wp2_with (go_at_call 7; refine (hr _ (by first | exact (Below.refl _ _) | exact (Below.refl _ _).drew)).mono ?_; rintro _ w7 ⟨rfl, hb7⟩)
  refine hK.out _ _ ?_ (fun hH3 => ?_)
  · exact hb7
  clear hK K hH2 hr
  refine wpAnyH_take (i := 5) (v := ?_) rfl (by kernel_rfl) (by kernel_rfl) (by kernel_rfl) (fun _ _ _ h => h) (Or.inl ⟨by rfl, ?_⟩) (by assumption) ?_
  rotate_left
  · (intro w hSw; go_simp; try with_reducible rfl)
  conv => arg 8; whnf
  simp only [List.setIfInBounds_toArray, List.set_cons_zero, List.set_cons_succ]
  refine wpAnyH_take (i := 6) (v := ?_) rfl (by kernel_rfl) (by kernel_rfl) (by kernel_rfl) (fun _ _ _ h => h) (Or.inl ⟨by rfl, ?_⟩) (by assumption) ?_
  rotate_left
  · (intro w hSw; go_simp; try with_reducible rfl)
  conv => arg 8; whnf
  simp only [List.setIfInBounds_toArray, List.set_cons_zero, List.set_cons_succ]
  refine wpAnyH_take (i := 7) (v := ?_) rfl (by kernel_rfl) (by kernel_rfl) (by kernel_rfl) (fun _ _ _ h => h) (Or.inl ⟨by rfl, ?_⟩) (by assumption) ?_
  rotate_left
  · (intro w hSw; go_simp; try with_reducible rfl)
  conv => arg 8; whnf
  simp only [List.setIfInBounds_toArray, List.set_cons_zero, List.set_cons_succ]
  refine wpAnyH_ready (rs := [8]) (by kernel_rfl) (by simp) ?_
  refine AllReadyH.cons rfl (fun K hK => ?_) ?_
  rotate_left
  · exact AllReadyH.nil
  go_simp
  go_wp2_with (go_at_call 6; refine (HZ.out _ hH3).mono ?_; rintro _ w8 ⟨rfl, hb8⟩)
  refine hK.out _ _ ?_ (fun hH4 => ?_)
  · exact hb8
  clear hK K hH3
  refine wpAnyH_take (i := 9) (v := ?_) rfl (by kernel_rfl) (by kernel_rfl) (by kernel_rfl) (fun _ _ _ h => h) (Or.inl ⟨by rfl, ?_⟩) (by assumption) ?_
  rotate_left
  · (intro w hSw; go_simp; try with_reducible rfl)
  conv => arg 8; whnf
  simp only [List.setIfInBounds_toArray, List.set_cons_zero, List.set_cons_succ]
  refine wpAnyH_take (i := 10) (v := ?_) rfl (by kernel_rfl) (by kernel_rfl) (by kernel_rfl) (fun _ _ _ h => h) (Or.inl ⟨by rfl, ?_⟩) (by assumption) ?_
  rotate_left
  · (intro w hSw; go_simp; try with_reducible rfl)
  conv => arg 8; whnf
  simp only [List.setIfInBounds_toArray, List.set_cons_zero, List.set_cons_succ]
  refine wpAnyH_take (i := 11) (v := ?_) rfl (by kernel_rfl) (by kernel_rfl) (by kernel_rfl) (fun _ _ _ h => h) (Or.inl ⟨by rfl, ?_⟩) (by assumption) ?_
  rotate_left
  · (intro w hSw; go_simp; try with_reducible rfl)
  conv => arg 8; whnf
  simp only [List.setIfInBounds_toArray, List.set_cons_zero, List.set_cons_succ]
  refine wpAnyH_done (by kernel_rfl) ?_ _
  exact NoPanic.normal (HQ.out _ _ _ _ _ _ _ _ _ _ _ _ hH4)
set_option maxRecDepth 100000 in
set_option maxHeartbeats 4000000 in
theorem law_any (C : Array Value) (t : Tx) (vi va vb vn : Value) (w : World) (h : TxV w C t vi va vb vn) (hsc : Scal C) :
    Calls Try.prog 3 #[.agg C] w fun e w' => e = .returned (.bool true) ∧ Below w.heap.size w w' := by
  have hsz := h.size
  have hb1 := below_alloc w (.cells C 31)
  have hbt : TB (w.alloc (.cells C 31)) w.heap.size C := ⟨heap_alloc_new w _, hsz⟩
  obtain ⟨W1, hW1⟩ : ∃ W1, W1 = w.alloc (.cells C 31) := ⟨_, rfl⟩
  obtain ⟨T, hT⟩ : ∃ T, T = w.heap.size := ⟨_, rfl⟩
  go_enter Try.func3, Try.ntmps3
  go_upto_region 1 with (fail)
  rw [← hW1, ← hT]
  rw [← hW1] at hb1 hbt
  rw [← hT] at hbt
  have h1 := h.mono hb1
  have HR1 := Lib.hid (tb_range hbt)
  have HZ := size31 hsz
  have HB1 := Lib.hid hb1
  have HBT := Lib.hid hbt
  have HV1 := Lib.hid h1
  have HSC := Lib.hid hsc
  have HT := Lib.hid hT
  have HV := Lib.hid h
  clear hW1 hT hb1 hbt h1 hsc h
  rename_i K1 hK1
  have HK1 := Lib.hid hK1
  clear hK1
  go_wp2_with (first
    | (refine wpList_load_g (by rfl) 31 (.tmp 1) rfl T 0 rfl C _ HR1 Try.underlying31 rfl HZ ?_)
    | (refine (size_any C t vi va vb vn W1 HV1.out).mono ?_; rintro _ W2 ⟨z, rfl, hz, hb2⟩))
  refine HK1.out _ _ ?_
  clear HK1
  by_cases hz2 : z ≤ 200000
  · have d1 : decide ((200000 : Int) < z) = false := by simp; omega
    have d2 : ¬ ((200000 : Int) < z) := by omega
    have hs := hz hz2
    have h2 := HV1.out.mono hb2
    have HR2 : Hid (W2.rangeAt T 0 C.toList) := Lib.hid (tb_range (HBT.out.below hb2))
    have HZA : ∀ vi va vb vn, Hid ((Try.prog.info? 31).map (·.size) = some (anew C vi va vb vn).size) := fun vi va vb vn => size31 (by simp [anew, hsz])
    have HZZ : ∀ vi va vb vn, Hid (59 = (anew C vi va vb vn).size) := fun vi va vb vn => Lib.hid (by simp [anew, hsz])
    have HB2 := Lib.hid hb2
    go_wp2_with (first
      | (refine wpList_load_g (by rfl) 31 (.tmp 1) rfl T 0 rfl C _ HR2 Try.underlying31 rfl HZ ?_)
      | (refine (tx_any C t vi va vb vn W2 h2 hs).mono ?_; rintro _ W3 ⟨ui, ua, ub, un, kvs, rfl, hm, hb3⟩; have HONE : Hid ((anew C ui ua ub un).all (·.oneCell') = true) := Lib.hid (ones_set (ones_set (ones_set (ones_set h2.ones _ (mark_one hm.inp)) _ (mark_one hm.ini)) _ (mark_one hm.blobs)) _ (mark_one hm.acc)))
      | (refine wpList_store_new (by rfl) 31 (.tmp 3) (.tmp 10) rfl _ (anew C ui ua ub un) rfl rfl (HZA _ _ _ _) (HZZ _ _ _ _) HONE ?_))
    have hl := h2.lens
    have hcs : (anew C ui ua ub un).size = 59 := by simp [anew, hsz]
    have hb4 := below_alloc W3 (.cells (anew C ui ua ub un) 31)
    have hbg : TB (W3.alloc (.cells (anew C ui ua ub un) 31)) W3.heap.size (anew C ui ua ub un) := ⟨heap_alloc_new W3 _, hcs⟩
    obtain ⟨W4, hW4⟩ : ∃ W4, W4 = W3.alloc (.cells (anew C ui ua ub un) 31) := ⟨_, rfl⟩
    obtain ⟨G, hG⟩ : ∃ G, G = W3.heap.size := ⟨_, rfl⟩
    rw [← hW4] at hb4 hbg ⊢
    rw [← hG] at hbg ⊢
    have hm4 := hm.below hb4
    have h4 := h2.mono (below_step hb3 hb4)
    have hw4 : Below w.heap.size w W4 := below_step HB1.out (below_step HB2.out (below_step hb3 hb4))
    have hbt4 := HBT.out.below (below_step HB2.out (below_step hb3 hb4))
    have hg4 := hm4.txv hl hsz h2.ones h2.c53 hs
    have hB : w.heap.size ≤ W2.heap.size := Nat.le_trans HB1.out.size HB2.out.size
    have HMV := Lib.hid hm4
    have HLI : Hid (LInv w W4 W2.heap.size T G C (anew C ui ua ub un) t ui ua ub un kvs) := Lib.hid ⟨hm4.ginv, hbt4, hbg, hw4⟩
    have HI : Hid (∀ w', Below W4.heap.size W4 w' → Calls Try.prog 6 #[.agg (anew C ui ua ub un)] w' fun e w'' => e = .returned (.int .u64 (icost t)) ∧ Below W4.heap.size W4 w'') := Lib.hid fun w' hw => (intrinsic_any _ t _ _ _ _ w' (hg4.mono hw) hs).mono fun _ _ ⟨e, hb⟩ => ⟨e, below_step hw hb⟩
    have HF : Hid (∀ w', Below W4.heap.size W4 w' → Calls Try.prog 7 #[.agg C] w' fun e w'' => e = .returned (.int .u64 (icost t)) ∧ Below W4.heap.size W4 w'') := Lib.hid fun w' hw => (refIntrinsic_any _ t _ _ _ _ w' (h4.mono hw) hs).mono fun _ _ ⟨e, hb⟩ => ⟨e, below_step hw hb⟩
    have HS : Hid (∀ w', Below W4.heap.size W4 w' → Calls Try.prog 8 #[.agg (anew C ui ua ub un), .agg C] w' fun e w'' => e = .returned (.bool true) ∧ Below W4.heap.size W4 w'') := Lib.hid fun w' hw => (sameTx_any C t vi va vb vn ui ua ub un kvs _ w' (hm4.below hw) (h4.mono hw) HSC.out hs).mono fun _ _ ⟨e, hb⟩ => ⟨e, below_step hw hb⟩
    have HL := Lib.hid hl
    have HSZ := Lib.hid hs
    have H53 := Lib.hid h2.c53
    have HCO := Lib.hid h2.ones
    have HGE := Lib.hid (anew_get C ui ua ub un hsz)
    have HBB := Lib.hid hB
    have HCS := Lib.hid hcs
    obtain ⟨C1, hC1⟩ : ∃ C1, C1 = anew C ui ua ub un := ⟨_, rfl⟩
    rw [← hC1] at HLI HI HS hbg HGE HCS ⊢
    have HC1 := Lib.hid hC1
    clear hl hb4 hW4 hG hm4 h4 hw4 hg4 hB HONE HZA HZZ hm hb3 h2 hb2 hs hz HR2 HR1 hcs hC1
    rename_i K4 hK4
    have HK4 := Lib.hid hK4
    clear hK4
    refine (show Code.wp Try.prog (reg3 4) _ _ _ from l4 W4 T G C C1 t hbt4 hbg HI.out HF.out HS.out _ ?_)
    intro W5 v11 v12 v13 v14 v15 v16 v17 v18 v19 v20 v21 v22 v23 v24 v25 v26 v27 hb5
    have HL5 := Lib.hid (HLI.out.mono hb5)
    clear HI HF HS HLI hbt4 hbg hb5 HMV
    go_wp2_with fail
    refine HK4.out _ _ ?_
    clear HK4
    go_wp2_with fail
    obtain ⟨g0, d0, L0, e0, _⟩ := HL5.out.g.inp
    obtain ⟨g4, d4, L4, e4, _⟩ := HL5.out.g.ini
    obtain ⟨n0, hn0⟩ : ∃ n, n = t.inp.length := ⟨_, rfl⟩
    obtain ⟨n4, hn4⟩ : ∃ n, n = t.ini.length := ⟨_, rfl⟩
    rw [← hn0] at e0
    rw [← hn4] at e4
    subst e0 e4
    have HN0 : Hid (n0 = t.inp.length) := Lib.hid hn0
    have HN4 : Hid (n4 = t.ini.length) := Lib.hid hn4
    have hnb0 : n0 ≤ 200000 := by
      have h0 : tsize t = t.inp.length + t.ini.length + t.nb + asum t.acc := rfl
      have h1 := HSZ.out
      omega
    have hnb4 : n4 ≤ 200000 := by
      have h0 : tsize t = t.inp.length + t.ini.length + t.nb + asum t.acc := rfl
      have h1 := HSZ.out
      omega
    clear hn0 hn4
    go_loopw [4] (fun i wr => ∃ j : Nat, j ≤ n0 ∧ i = .int .i64 j ∧ LInv w wr W2.heap.size T G C C1 t (.slice (some ⟨g0, 0, none⟩) n0 d0) ua ub (.slice (some ⟨g4, 0, none⟩) n4 d4) kvs) (fun i _ => n0 - (intOf i).toNat)
    case atStart => exact ⟨0, Nat.zero_le _, rfl, HL5.out⟩
    case round =>
      obtain ⟨j, hj, rfl, hl⟩ := hrel
      have x50 := hl.tg.cell HGE.out.1
      by_cases hlt : j < n0
      · have hby := hl.g.inp
        rw [← HN0.out] at hby
        obtain ⟨⟨y, hc⟩, hf, hB, hcap⟩ := hby.cell hlt
        obtain ⟨cur, hcur⟩ := hby.blk
        have HLJ := Lib.hid hl
        have HCUR := Lib.hid hcur
        have HBG := Lib.hid (Nat.le_trans HBB.out hB)
        have i0 : (0 : Int) ≤ (j : Int) := by omega
        have i1 : (j : Int) < (n0 : Int) := by omega
        clear hl hby hcur hB
        go_wp2_with fail
        go_region_law (fail)
        all_goals (go_wp2_with fail)
        all_goals exact ⟨⟨j + 1, by omega, by go_num, (HLJ.out.store HCUR.out HBG.out j _).mono (Below.refl _ _).drew⟩, by simp [intOf]; omega⟩
      · have hge : ¬ ((j : Int) < (n0 : Int)) := by omega
        have HL5b := Lib.hid hl
        clear hl
        go_wp2_with fail
        go_loopw [5] (fun i wr => ∃ j : Nat, j ≤ n4 ∧ i = .int .i64 j ∧ LInv w wr W2.heap.size T G C C1 t (.slice (some ⟨g0, 0, none⟩) n0 d0) ua ub (.slice (some ⟨g4, 0, none⟩) n4 d4) kvs) (fun i _ => n4 - (intOf i).toNat)
        case atStart => exact ⟨0, Nat.zero_le _, rfl, HL5b.out⟩
        case round =>
          obtain ⟨j, hj, rfl, hl⟩ := hrel
          have x54 := hl.tg.cell HGE.out.2.2.2.1
          by_cases hlt : j < n4
          · have hby := hl.g.ini
            rw [← HN4.out] at hby
            obtain ⟨⟨y, hc⟩, hf, hB, hcap⟩ := hby.cell hlt
            obtain ⟨cur, hcur⟩ := hby.blk
            have HLJ := Lib.hid hl
            have HCUR := Lib.hid hcur
            have HBG := Lib.hid (Nat.le_trans HBB.out hB)
            have i0 : (0 : Int) ≤ (j : Int) := by omega
            have i1 : (j : Int) < (n4 : Int) := by omega
            clear hl hby hcur hB
            go_wp2_with fail
            go_region_law (fail)
            all_goals (go_wp2_with fail)
            all_goals exact ⟨⟨j + 1, by omega, by go_num, (HLJ.out.store HCUR.out HBG.out j _).mono (Below.refl _ _).drew⟩, by simp [intOf]; omega⟩
          · have hge : ¬ ((j : Int) < (n4 : Int)) := by omega
            have HL6 := Lib.hid hl
            obtain ⟨l, m, hll, hml, hv⟩ := hl.g.txv HL.out hsz HCO.out H53.out HSZ.out
            rw [← HC1.out] at hv
            have hs2 : tsize { t with inp := l, ini := m } ≤ 200000 := by
              have h0 : tsize t = t.inp.length + t.ini.length + t.nb + asum t.acc := rfl
              have h1 := HSZ.out
              have h2 : tsize { t with inp := l, ini := m } = l.length + m.length + t.nb + asum t.acc := rfl
              omega
            have hl2 : TxL { t with inp := l, ini := m } := ⟨HL.out.bl, HL.out.ads, HL.out.kl⟩
            obtain ⟨t2, ht2⟩ : ∃ t2 : Tx, t2 = { t with inp := l, ini := m } := ⟨_, rfl⟩
            rw [← ht2] at hv hs2 hl2
            have hi : ∀ w', Below wr.heap.size wr w' → Calls Try.prog 6 #[.agg C1] w' fun e w'' => e = .returned (.int .u64 (icost t2)) ∧ Below wr.heap.size wr w'' := fun w' hw => (intrinsic_any _ t2 _ _ _ _ w' (hv.mono hw) hs2).mono fun _ _ ⟨e, hb⟩ => ⟨e, below_step hw hb⟩
            have hx : ∀ w', Below wr.heap.size wr w' → Calls Try.prog 5 #[.agg C1] w' fun e w'' => ∃ C2, e = .returned (.agg C2) ∧ Below wr.heap.size wr w'' ∧ ∀ w3, Below w''.heap.size w'' w3 → Calls Try.prog 7 #[.agg C2] w3 fun e w4 => e = .returned (.int .u64 (icost t2)) ∧ Below wr.heap.size wr w4 := fun w' hw => (tx_any C1 t2 _ _ _ _ w' (hv.mono hw) hs2).mono fun e w'' ⟨vi', va', vb', vn', ks', e1, hm', hb'⟩ => ⟨_, e1, below_step hw hb', fun w3 hw3 => (refIntrinsic_any _ t2 _ _ _ _ w3 ((hm'.below hw3).txv hl2 hv.size hv.ones hv.c53 hs2) hs2).mono fun _ _ ⟨e2, hb2⟩ => ⟨e2, below_step (below_step hw (below_step hb' hw3)) hb2⟩⟩
            have hzz : ∀ w', Below wr.heap.size wr w' → Calls Try.prog 6 #[.agg zeroTx] w' fun e w'' => e = .returned (.int .u64 21000) ∧ Below wr.heap.size wr w'' := fun w' hw => (intrinsic_any _ tx0 _ _ _ _ w' (zero_txv w') (by decide)).mono fun _ _ ⟨e, hb⟩ => ⟨by rw [e]; rfl, below_step hw hb⟩
            have htg := hl.tg
            clear hl hv ht2
            go_wp2_with fail
            rename_i K14 hK14
            have HK14 := Lib.hid hK14
            clear hK14
            refine (show Code.wp Try.prog (reg3 14) _ _ _ from l14 wr G C1 (icost t2) htg hi hx hzz _ ?_)
            intro wx v63 v64 v65 v66 v67 v68 v69 v70 v71 v72 v73 hbx
            go_wp2_with fail
            refine HK14.out _ _ ?_
            clear HK14
            go_wp2_with fail
            go_ret
            exact ⟨rfl, below_step HL6.out.below hbx⟩
  · have d1 : decide ((200000 : Int) < z) = true := by simp; omega
    have d2 : (200000 : Int) < z := by omega
    go_wp2_with fail
    go_ret
    exact ⟨rfl, below_step HB1.out hb2⟩
end Go.Proofs.Ytlafibjcmalkdaa
