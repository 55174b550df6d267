/- A stage of sameTx: an entry of each access list in a box of its own. -/
import Derived.Test.YtlafibjcmalkdaaK3
namespace Go.Proofs.Ytlafibjcmalkdaa
open Go.RowKit

theorem bl_al {w W : World} (h : Below w.heap.size w W) (o : Obj) : Below w.heap.size w (W.alloc o) := h.alloc h.size o
theorem below_setCells {w : World} (b : Nat) (hb : w.heap.size ≤ b) : ∀ (vs : List Value) (o : Nat) (W : World), Below w.heap.size w W → Below w.heap.size w (W.setCells b o vs)
  | [], _, _, h => h
  | v :: vs, o, W, h => by
    rw [World.setCells]
    exact below_setCells b hb vs (o + 1) _ (h.setCell (p := ⟨b, o, none⟩) hb v)
theorem bl_sc {w W : World} (h : Below w.heap.size w W) {b : Nat} (o : Nat) (vs : List Value) (hb : w.heap.size ≤ b) : Below w.heap.size w (W.setCells b o vs) := below_setCells b hb vs o W h
theorem there_new (w : World) (cs : Array Value) (t : TypeId) : (w.alloc (.cells cs t)).there w.heap.size 0 cs.size := by
  intro j hj
  rw [Nat.zero_add]
  refine ⟨?_, frozen_of_row _ _ j cs t (heap_alloc_new w _)⟩
  rw [cell_of_row _ w.heap.size j cs t (0, 0) (heap_alloc_new w _), Array.getElem?_eq_getElem hj]
  rfl
set_option maxRecDepth 100000 in
set_option maxHeartbeats 4000000 in
theorem s8 (wr : World) (X Y g1 b o k n d1 c1 : Nat) (LA LB : List Value) (ha : wr.cell? ⟨X, 51, none⟩ = some (.slice (some ⟨g1, 0, none⟩) n d1)) (hb : wr.cell? ⟨Y, 51, none⟩ = some (.slice (some ⟨b, o, none⟩) n c1))
    (hra : wr.rangeAt g1 (k * 21) LA) (hrb : wr.rangeAt b (o + k * 21) LB) (hla : LA.length = 21) (hlb : LB.length = 21) (h1a : ∀ v ∈ LA, v.oneCell' = true) (h1b : ∀ v ∈ LB, v.oneCell' = true) (hk : k < n) (hn : n ≤ 200000)
    {u0 u1 u4 u6 u7 u8 u9 u10 u11 u12 u13 u14 u15 u16 u17 u18 u19 u20 u21 u22 u23 u24 u25 u26 u27 u28 u29 u30 u31 u32 u33 u34 u35 u36 u37 u38 u39 u40 u41 u42 u43 u44 u45 u46 u47 u48 u49 u50 u51 u52 u53 u54 u55 u56 u57 u58 u59 u60 u61 u62 u63 u64 u65 u66 u67 u68 u69 u70 u71 u72 u73 u74 u75 u76 u77 u78 u79 u80 u81 u82 u83 u84 u85 u86 u87 u88 u89 u90 u91 u92 u93 u94 u95 u96 u97 u98 u99 u100 u101 u102 u103 u104 u105 u106 u107 u108 u109 u110 u111 u112 u113 u114 u115 u116 u117 u118 u119 u120 u121 u122 u123 u124 u125 u126 u127 u128 u129 u130 u131 u132 u133 u134 u135 u136 u137 u138 u139 u140 u141 u142 u143 u144 u145 u146 u147 u148 u149 u150 u151 u152 u153 u154 u155 u156 u157 u158 u159 u160 u161 u162 u163 u164 u165 u166 u167 u168 u169 u170 u171 u172 u173 u174 u175 u176 u177 u178 u179 u180 u181 u182 u183 u184 u185 u186 u187 : Value} (Q : Exit → Act → World → Prop)
    (hQ : ∀ P R wx v130 v131 v132 v133 v134 v135 v136 v137 v138 v139, wx.rangeAt P 0 LA → wx.rangeAt R 0 LB → Below wr.heap.size wr wx → Q .normal ⟨#[u0, u1, .pointer (some ⟨X, 0, none⟩), .pointer (some ⟨Y, 0, none⟩), u4, .int .i64 k, .pointer (some ⟨P, 0, none⟩), .pointer (some ⟨R, 0, none⟩), u8, u9, u10, u11, u12, u13, u14, u15, u16, u17, u18, u19, u20, u21, u22, u23, u24, u25, u26, u27, u28, u29, u30, u31, u32, u33, u34, u35, u36, u37, u38, u39, u40, u41, u42, u43, u44, u45, u46, u47, u48, u49, u50, u51, u52, u53, u54, u55, u56, u57, u58, u59, u60, u61, u62, u63, u64, u65, u66, u67, u68, u69, u70, u71, u72, u73, u74, u75, u76, u77, u78, u79, u80, u81, u82, u83, u84, u85, u86, u87, u88, u89, u90, u91, u92, u93, u94, u95, u96, u97, u98, u99, u100, u101, u102, u103, u104, u105, u106, u107, u108, u109, u110, u111, u112, u113, u114, u115, u116, u117, u118, u119, u120, u121, u122, u123, u124, u125, u126, u127, u128, u129, v130, v131, v132, v133, v134, v135, v136, v137, v138, v139, u140, u141, u142, u143, u144, u145, u146, u147, u148, u149, u150, u151, u152, u153, u154, u155, u156, u157, u158, u159, u160, u161, u162, u163, u164, u165, u166, u167, u168, u169, u170, u171, u172, u173, u174, u175, u176, u177, u178, u179, u180, u181, u182, u183, u184, u185, u186, u187], []⟩ wx) :
    Code.wp Try.prog (reg8 8) Q ⟨#[u0, u1, .pointer (some ⟨X, 0, none⟩), .pointer (some ⟨Y, 0, none⟩), u4, .int .i64 k, u6, u7, u8, u9, u10, u11, u12, u13, u14, u15, u16, u17, u18, u19, u20, u21, u22, u23, u24, u25, u26, u27, u28, u29, u30, u31, u32, u33, u34, u35, u36, u37, u38, u39, u40, u41, u42, u43, u44, u45, u46, u47, u48, u49, u50, u51, u52, u53, u54, u55, u56, u57, u58, u59, u60, u61, u62, u63, u64, u65, u66, u67, u68, u69, u70, u71, u72, u73, u74, u75, u76, u77, u78, u79, u80, u81, u82, u83, u84, u85, u86, u87, u88, u89, u90, u91, u92, u93, u94, u95, u96, u97, u98, u99, u100, u101, u102, u103, u104, u105, u106, u107, u108, u109, u110, u111, u112, u113, u114, u115, u116, u117, u118, u119, u120, u121, u122, u123, u124, u125, u126, u127, u128, u129, u130, u131, u132, u133, u134, u135, u136, u137, u138, u139, u140, u141, u142, u143, u144, u145, u146, u147, u148, u149, u150, u151, u152, u153, u154, u155, u156, u157, u158, u159, u160, u161, u162, u163, u164, u165, u166, u167, u168, u169, u170, u171, u172, u173, u174, u175, u176, u177, u178, u179, u180, u181, u182, u183, u184, u185, u186, u187], []⟩ wr := by
  have HQ := Lib.hid hQ
  have HSS : Hid (∀ w', Below wr.heap.size wr w' → w'.cell? ⟨X, 51, none⟩ = some (.slice (some ⟨g1, 0, none⟩) n d1) ∧ w'.cell? ⟨Y, 51, none⟩ = some (.slice (some ⟨b, o, none⟩) n c1) ∧ w'.rangeAt g1 (k * 21) LA ∧ w'.rangeAt b (o + k * 21) LB) :=
    Lib.hid fun w' hw => ⟨cell_keep hw ha, cell_keep hw hb, fun j v hv => cell_keep hw (hra j v hv), fun j v hv => cell_keep hw (hrb j v hv)⟩
  have i0 : (0 : Int) ≤ (k : Int) := by omega
  have i1 : (k : Int) < (n : Int) := by omega
  have hu39 := Try.underlying39
  have hi39A : (Try.prog.info? 39).map (·.size) = some LA.length := by rw [hla]; kernel_rfl
  have hi39B : (Try.prog.info? 39).map (·.size) = some LB.length := by rw [hlb]; kernel_rfl
  have hth1 : ∀ w1 : World, (w1.alloc (Obj.cells #[Value.int IntKind.u8 0, Value.int IntKind.u8 0, Value.int IntKind.u8 0, Value.int IntKind.u8 0, Value.int IntKind.u8 0, Value.int IntKind.u8 0, Value.int IntKind.u8 0, Value.int IntKind.u8 0, Value.int IntKind.u8 0, Value.int IntKind.u8 0, Value.int IntKind.u8 0, Value.int IntKind.u8 0, Value.int IntKind.u8 0, Value.int IntKind.u8 0, Value.int IntKind.u8 0, Value.int IntKind.u8 0, Value.int IntKind.u8 0, Value.int IntKind.u8 0, Value.int IntKind.u8 0, Value.int IntKind.u8 0, Value.slice none 0 0] 39)).there w1.heap.size 0 21 := fun w1 => there_new w1 _ 39
  have hth2 : ∀ w1 : World, ((w1.alloc (Obj.cells #[Value.int IntKind.u8 0, Value.int IntKind.u8 0, Value.int IntKind.u8 0, Value.int IntKind.u8 0, Value.int IntKind.u8 0, Value.int IntKind.u8 0, Value.int IntKind.u8 0, Value.int IntKind.u8 0, Value.int IntKind.u8 0, Value.int IntKind.u8 0, Value.int IntKind.u8 0, Value.int IntKind.u8 0, Value.int IntKind.u8 0, Value.int IntKind.u8 0, Value.int IntKind.u8 0, Value.int IntKind.u8 0, Value.int IntKind.u8 0, Value.int IntKind.u8 0, Value.int IntKind.u8 0, Value.int IntKind.u8 0, Value.slice none 0 0] 39)).alloc (Obj.cells #[Value.int IntKind.u8 0, Value.int IntKind.u8 0, Value.int IntKind.u8 0, Value.int IntKind.u8 0, Value.int IntKind.u8 0, Value.int IntKind.u8 0, Value.int IntKind.u8 0, Value.int IntKind.u8 0, Value.int IntKind.u8 0, Value.int IntKind.u8 0, Value.int IntKind.u8 0, Value.int IntKind.u8 0, Value.int IntKind.u8 0, Value.int IntKind.u8 0, Value.int IntKind.u8 0, Value.int IntKind.u8 0, Value.int IntKind.u8 0, Value.int IntKind.u8 0, Value.int IntKind.u8 0, Value.int IntKind.u8 0, Value.slice none 0 0] 39)).there w1.heap.size 0 21 := fun w1 => World.there_alloc (there_new w1 _ 39) _
  have hth3 : ∀ w1 : World, ((w1.alloc (Obj.cells #[Value.int IntKind.u8 0, Value.int IntKind.u8 0, Value.int IntKind.u8 0, Value.int IntKind.u8 0, Value.int IntKind.u8 0, Value.int IntKind.u8 0, Value.int IntKind.u8 0, Value.int IntKind.u8 0, Value.int IntKind.u8 0, Value.int IntKind.u8 0, Value.int IntKind.u8 0, Value.int IntKind.u8 0, Value.int IntKind.u8 0, Value.int IntKind.u8 0, Value.int IntKind.u8 0, Value.int IntKind.u8 0, Value.int IntKind.u8 0, Value.int IntKind.u8 0, Value.int IntKind.u8 0, Value.int IntKind.u8 0, Value.slice none 0 0] 39)).alloc (Obj.cells #[Value.int IntKind.u8 0, Value.int IntKind.u8 0, Value.int IntKind.u8 0, Value.int IntKind.u8 0, Value.int IntKind.u8 0, Value.int IntKind.u8 0, Value.int IntKind.u8 0, Value.int IntKind.u8 0, Value.int IntKind.u8 0, Value.int IntKind.u8 0, Value.int IntKind.u8 0, Value.int IntKind.u8 0, Value.int IntKind.u8 0, Value.int IntKind.u8 0, Value.int IntKind.u8 0, Value.int IntKind.u8 0, Value.int IntKind.u8 0, Value.int IntKind.u8 0, Value.int IntKind.u8 0, Value.int IntKind.u8 0, Value.slice none 0 0] 39)).there (w1.heap.size + 1) 0 21 := fun w1 => by
    have h := there_new (w1.alloc (Obj.cells #[Value.int IntKind.u8 0, Value.int IntKind.u8 0, Value.int IntKind.u8 0, Value.int IntKind.u8 0, Value.int IntKind.u8 0, Value.int IntKind.u8 0, Value.int IntKind.u8 0, Value.int IntKind.u8 0, Value.int IntKind.u8 0, Value.int IntKind.u8 0, Value.int IntKind.u8 0, Value.int IntKind.u8 0, Value.int IntKind.u8 0, Value.int IntKind.u8 0, Value.int IntKind.u8 0, Value.int IntKind.u8 0, Value.int IntKind.u8 0, Value.int IntKind.u8 0, Value.int IntKind.u8 0, Value.int IntKind.u8 0, Value.slice none 0 0] 39)) #[.int .u8 0, .int .u8 0, .int .u8 0, .int .u8 0, .int .u8 0, .int .u8 0, .int .u8 0, .int .u8 0, .int .u8 0, .int .u8 0, .int .u8 0, .int .u8 0, .int .u8 0, .int .u8 0, .int .u8 0, .int .u8 0, .int .u8 0, .int .u8 0, .int .u8 0, .int .u8 0, .slice none 0 0] 39
    rw [show (w1.alloc (Obj.cells #[Value.int IntKind.u8 0, Value.int IntKind.u8 0, Value.int IntKind.u8 0, Value.int IntKind.u8 0, Value.int IntKind.u8 0, Value.int IntKind.u8 0, Value.int IntKind.u8 0, Value.int IntKind.u8 0, Value.int IntKind.u8 0, Value.int IntKind.u8 0, Value.int IntKind.u8 0, Value.int IntKind.u8 0, Value.int IntKind.u8 0, Value.int IntKind.u8 0, Value.int IntKind.u8 0, Value.int IntKind.u8 0, Value.int IntKind.u8 0, Value.int IntKind.u8 0, Value.int IntKind.u8 0, Value.int IntKind.u8 0, Value.slice none 0 0] 39)).heap.size = w1.heap.size + 1 by simp] at h
    exact h
  have hth4 : ∀ (w1 : World) (b o n : Nat), w1.drew.there b o n = w1.there b o n := fun w1 b o n => by simp
  have hth5 : ∀ (w1 : World) (b' o' n b o : Nat) (vs : List Value), w1.there b' o' n → (w1.setCells b o vs).there b' o' n := fun w1 b' o' n b o vs h => World.there_setCells h b o vs
  clear hQ ha hb hra hrb
  conv => arg 2; whnf
  dsimp only
  refine wp_region_noPanic ?_
  refine wp_region_held_drew (S := (fun w' => w'.cell? ⟨X, 51, none⟩ = some (.slice (some ⟨g1, 0, none⟩) n d1) ∧ w'.cell? ⟨Y, 51, none⟩ = some (.slice (some ⟨b, o, none⟩) n c1) ∧ w'.rangeAt g1 (k * 21) LA ∧ w'.rangeAt b (o + k * 21) LB)) (by kernel_rfl) ?_ (fun hHeld => ?_)
  · (refine HSS.out _ ?_; repeat (first | with_reducible exact (Below.refl _ _) | with_reducible refine Below.drew ?_ | with_reducible refine bl_al ?_ _ | with_reducible refine bl_sc ?_ _ _ (by simp)))
  refine wpAnyH_take (i := 0) (v := ?_) rfl (by kernel_rfl) (by kernel_rfl) (by kernel_rfl) (fun _ _ _ h => h) (Or.inl ⟨by rfl, ?_⟩) (by assumption) ?_
  rotate_left
  · (intro w hSw; (try dsimp only at hSw); obtain ⟨hSa, hSb, _, _⟩ := hSw; go_simp; try with_reducible rfl)
  conv => arg 8; whnf
  simp only [List.setIfInBounds_toArray, List.set_cons_zero, List.set_cons_succ]
  refine wpAnyH_take (i := 1) (v := ?_) rfl (by kernel_rfl) (by kernel_rfl) (by kernel_rfl) (fun _ _ _ h => h) (Or.inl ⟨by rfl, ?_⟩) (by assumption) ?_
  rotate_left
  · (intro w hSw; (try dsimp only at hSw); obtain ⟨hSa, hSb, _, _⟩ := hSw; go_simp; try with_reducible rfl)
  conv => arg 8; whnf
  simp only [List.setIfInBounds_toArray, List.set_cons_zero, List.set_cons_succ]
  refine wpAnyH_take (i := 2) (v := ?_) rfl (by kernel_rfl) (by kernel_rfl) (by kernel_rfl) (fun _ _ _ h => h) (Or.inl ⟨by rfl, ?_⟩) (by assumption) ?_
  rotate_left
  · (intro w hSw; (try dsimp only at hSw); obtain ⟨hSa, hSb, _, _⟩ := hSw; go_simp; try with_reducible rfl)
  conv => arg 8; whnf
  simp only [List.setIfInBounds_toArray, List.set_cons_zero, List.set_cons_succ]
  refine wpAnyH_take (i := 3) (v := ?_) rfl (by kernel_rfl) (by kernel_rfl) (by kernel_rfl) (fun _ _ _ h => h) (Or.inl ⟨by rfl, ?_⟩) (by assumption) ?_
  rotate_left
  · (intro w hSw; (try dsimp only at hSw); obtain ⟨hSa, hSb, _, _⟩ := hSw; go_simp; try with_reducible rfl)
  conv => arg 8; whnf
  simp only [List.setIfInBounds_toArray, List.set_cons_zero, List.set_cons_succ]
  refine wpAnyH_take (i := 4) rfl (by kernel_rfl) (by kernel_rfl) (by kernel_rfl) (fun _ _ _ h => h) (yieldsIf_load_mid (by rfl) 39 _ rfl _ _ rfl LA _ (fun w hw => hw.2.2.1) Try.underlying39 rfl hi39A) (by assumption) ?_
  conv => arg 8; whnf
  simp only [List.setIfInBounds_toArray, List.set_cons_zero, List.set_cons_succ]
  refine wpAnyH_take (i := 5) (v := ?_) rfl (by kernel_rfl) (by kernel_rfl) (by kernel_rfl) (fun _ _ _ h => h) (Or.inl ⟨by rfl, ?_⟩) (by assumption) ?_
  rotate_left
  · (intro w hSw; (try dsimp only at hSw); obtain ⟨hSa, hSb, _, _⟩ := hSw; go_simp; try with_reducible rfl)
  conv => arg 8; whnf
  simp only [List.setIfInBounds_toArray, List.set_cons_zero, List.set_cons_succ]
  refine wpAnyH_take (i := 6) (v := ?_) rfl (by kernel_rfl) (by kernel_rfl) (by kernel_rfl) (fun _ _ _ h => h) (Or.inl ⟨by rfl, ?_⟩) (by assumption) ?_
  rotate_left
  · (intro w hSw; (try dsimp only at hSw); obtain ⟨hSa, hSb, _, _⟩ := hSw; go_simp; try with_reducible rfl)
  conv => arg 8; whnf
  simp only [List.setIfInBounds_toArray, List.set_cons_zero, List.set_cons_succ]
  refine wpAnyH_take (i := 7) (v := ?_) rfl (by kernel_rfl) (by kernel_rfl) (by kernel_rfl) (fun _ _ _ h => h) (Or.inl ⟨by rfl, ?_⟩) (by assumption) ?_
  rotate_left
  · (intro w hSw; (try dsimp only at hSw); obtain ⟨hSa, hSb, _, _⟩ := hSw; go_simp; try with_reducible rfl)
  conv => arg 8; whnf
  simp only [List.setIfInBounds_toArray, List.set_cons_zero, List.set_cons_succ]
  refine wpAnyH_take (i := 8) (v := ?_) rfl (by kernel_rfl) (by kernel_rfl) (by kernel_rfl) (fun _ _ _ h => h) (Or.inl ⟨by rfl, ?_⟩) (by assumption) ?_
  rotate_left
  · (intro w hSw; (try dsimp only at hSw); obtain ⟨hSa, hSb, _, _⟩ := hSw; go_simp; try with_reducible rfl)
  conv => arg 8; whnf
  simp only [List.setIfInBounds_toArray, List.set_cons_zero, List.set_cons_succ]
  refine wpAnyH_take (i := 9) rfl (by kernel_rfl) (by kernel_rfl) (by kernel_rfl) (fun _ _ _ h => h) (yieldsIf_load_mid (by rfl) 39 _ rfl _ _ rfl LB _ (fun w hw => hw.2.2.2) Try.underlying39 rfl hi39B) (by assumption) ?_
  conv => arg 8; whnf
  simp only [List.setIfInBounds_toArray, List.set_cons_zero, List.set_cons_succ]
  refine wpAnyH_ready (rs := [10, 11]) (by kernel_rfl) (by simp) ?_
  refine AllReadyH.cons rfl (fun K hK => ?_) ?_
  · go_simp
    refine hK.out _ _ ?_ (fun hHeld => ?_)
    · (refine HSS.out _ ?_; repeat (first | with_reducible exact (Below.refl _ _) | with_reducible refine Below.drew ?_ | with_reducible refine bl_al ?_ _ | with_reducible refine bl_sc ?_ _ _ (by simp)))
    clear hK K
    refine wpAnyH_ready (rs := [11]) (by kernel_rfl) (by simp) ?_
    refine AllReadyH.cons rfl (fun K hK => ?_) ?_
    rotate_left
    · exact AllReadyH.nil
    go_simp
    refine hK.out _ _ ?_ (fun hHeld => ?_)
    · (refine HSS.out _ ?_; repeat (first | with_reducible exact (Below.refl _ _) | with_reducible refine Below.drew ?_ | with_reducible refine bl_al ?_ _ | with_reducible refine bl_sc ?_ _ _ (by simp)))
    clear hK K
    refine wpAnyH_ready (rs := [12]) (by kernel_rfl) (by simp) ?_
    refine AllReadyH.cons rfl (fun K hK => ?_) ?_
    rotate_left
    · exact AllReadyH.nil
    rw [if_pos (by rfl)]
    refine wp_store_mid 39 _ _ rfl _ 0 LA.toArray rfl rfl (by simp only [List.size_toArray, *]) (by simpa using hi39A) (all_oneCell_toArray h1a) ?_
    simp only [Act.put]
    refine hK.out _ _ ?_ (fun hHeld => ?_)
    · (refine HSS.out _ ?_; repeat (first | with_reducible exact (Below.refl _ _) | with_reducible refine Below.drew ?_ | with_reducible refine bl_al ?_ _ | with_reducible refine bl_sc ?_ _ _ (by simp)))
    clear hK K
    refine wpAnyH_ready (rs := [13]) (by kernel_rfl) (by simp) ?_
    refine AllReadyH.cons rfl (fun K hK => ?_) ?_
    rotate_left
    · exact AllReadyH.nil
    rw [if_pos (by rfl)]
    refine wp_store_mid 39 _ _ rfl _ 0 LB.toArray rfl rfl (by simp only [List.size_toArray, *]) (by simpa using hi39B) (all_oneCell_toArray h1b) ?_
    simp only [Act.put]
    refine hK.out _ _ ?_ (fun hHeld => ?_)
    · (refine HSS.out _ ?_; repeat (first | with_reducible exact (Below.refl _ _) | with_reducible refine Below.drew ?_ | with_reducible refine bl_al ?_ _ | with_reducible refine bl_sc ?_ _ _ (by simp)))
    clear hK K
    refine wpAnyH_done (by kernel_rfl) ?_ _
    refine NoPanic.normal ?_
    refine HQ.out _ _ _ _ _ _ _ _ _ _ _ _ _ ?_ ?_ ?_
    · try simp only [List.toList_toArray]
      refine World.rangeAt_setCells_apart (World.rangeAt_setCells_same _ _ _ _ ?_) _ _ _ (.inl (by simp))
      simp only [*]
    · try simp only [List.toList_toArray]
      refine World.rangeAt_setCells_same _ _ _ _ ?_
      simp only [*]
    · repeat (first | with_reducible exact (Below.refl _ _) | with_reducible refine Below.drew ?_ | with_reducible refine bl_al ?_ _ | with_reducible refine bl_sc ?_ _ _ (by simp))
  refine AllReadyH.cons rfl (fun K hK => ?_) ?_
  · go_simp
    refine hK.out _ _ ?_ (fun hHeld => ?_)
    · (refine HSS.out _ ?_; repeat (first | with_reducible exact (Below.refl _ _) | with_reducible refine Below.drew ?_ | with_reducible refine bl_al ?_ _ | with_reducible refine bl_sc ?_ _ _ (by simp)))
    clear hK K
    refine wpAnyH_ready (rs := [10]) (by kernel_rfl) (by simp) ?_
    refine AllReadyH.cons rfl (fun K hK => ?_) ?_
    rotate_left
    · exact AllReadyH.nil
    go_simp
    refine hK.out _ _ ?_ (fun hHeld => ?_)
    · (refine HSS.out _ ?_; repeat (first | with_reducible exact (Below.refl _ _) | with_reducible refine Below.drew ?_ | with_reducible refine bl_al ?_ _ | with_reducible refine bl_sc ?_ _ _ (by simp)))
    clear hK K
    refine wpAnyH_ready (rs := [12]) (by kernel_rfl) (by simp) ?_
    refine AllReadyH.cons rfl (fun K hK => ?_) ?_
    rotate_left
    · exact AllReadyH.nil
    rw [if_pos (by rfl)]
    refine wp_store_mid 39 _ _ rfl _ 0 LA.toArray rfl rfl (by simp only [List.size_toArray, *]) (by simpa using hi39A) (all_oneCell_toArray h1a) ?_
    simp only [Act.put]
    refine hK.out _ _ ?_ (fun hHeld => ?_)
    · (refine HSS.out _ ?_; repeat (first | with_reducible exact (Below.refl _ _) | with_reducible refine Below.drew ?_ | with_reducible refine bl_al ?_ _ | with_reducible refine bl_sc ?_ _ _ (by simp)))
    clear hK K
    refine wpAnyH_ready (rs := [13]) (by kernel_rfl) (by simp) ?_
    refine AllReadyH.cons rfl (fun K hK => ?_) ?_
    rotate_left
    · exact AllReadyH.nil
    rw [if_pos (by rfl)]
    refine wp_store_mid 39 _ _ rfl _ 0 LB.toArray rfl rfl (by simp only [List.size_toArray, *]) (by simpa using hi39B) (all_oneCell_toArray h1b) ?_
    simp only [Act.put]
    refine hK.out _ _ ?_ (fun hHeld => ?_)
    · (refine HSS.out _ ?_; repeat (first | with_reducible exact (Below.refl _ _) | with_reducible refine Below.drew ?_ | with_reducible refine bl_al ?_ _ | with_reducible refine bl_sc ?_ _ _ (by simp)))
    clear hK K
    refine wpAnyH_done (by kernel_rfl) ?_ _
    refine NoPanic.normal ?_
    refine HQ.out _ _ _ _ _ _ _ _ _ _ _ _ _ ?_ ?_ ?_
    · try simp only [List.toList_toArray]
      refine World.rangeAt_setCells_apart (World.rangeAt_setCells_same _ _ _ _ ?_) _ _ _ (.inl (by simp))
      simp only [*]
    · try simp only [List.toList_toArray]
      refine World.rangeAt_setCells_same _ _ _ _ ?_
      simp only [*]
    · repeat (first | with_reducible exact (Below.refl _ _) | with_reducible refine Below.drew ?_ | with_reducible refine bl_al ?_ _ | with_reducible refine bl_sc ?_ _ _ (by simp))
  exact AllReadyH.nil
end Go.Proofs.Ytlafibjcmalkdaa
