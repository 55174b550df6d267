/- A stage of sameTx: the lists and the marks behind them. -/
import Derived.Test.YtlafibjcmalkdaaI2
import Derived.BigQuiet
namespace Go.Proofs.Ytlafibjcmalkdaa
open Go.RowKit

def regC (id : Nat) : Code → Option Code
  | .region i o d => if i = id then some (.region i o d) else none
  | .seq a b => match regC id a with | some c => some c | none => regC id b
  | .cond _ a b => match regC id a with | some c => some c | none => regC id b
  | .block _ b => regC id b
  | .loop b => regC id b
  | .scope b => regC id b
  | _ => none
noncomputable def reg8 (k : Nat) : Code := (regC k (Try.f8.body.getD .skip)).getD .skip
theorem neq23 (xs : Array Value) (h : ∀ j, j < 20 → KInt .u8 xs[j]?) (w : World) : (binOp .neq 23 (.agg xs) (.agg xs)).run Try.prog w = .ok (.bool false) w := by
  obtain ⟨i0, hi, _⟩ := info_parts sl27.i
  exact neq_self Try.underlying23 hi (by kernel_rfl) Try.underlying5 xs h w
def m171 : Array Value := #[.int .u8 171, .int .u8 0, .int .u8 0, .int .u8 0, .int .u8 0, .int .u8 0, .int .u8 0, .int .u8 0, .int .u8 0, .int .u8 0, .int .u8 0, .int .u8 0, .int .u8 0, .int .u8 0, .int .u8 0, .int .u8 0, .int .u8 0, .int .u8 0, .int .u8 0, .int .u8 0]
theorem m171_ints : ∀ j, j < 20 → KInt .u8 m171[j]? := by
  intro i hi
  have e : m171.toList = nums .u8 (171 :: List.replicate 19 0) := rfl
  exact ⟨_, by rw [← Array.getElem?_toList, e]; exact nums_get _ _ _ (by simpa using hi)⟩
theorem built23 (w : World) : (Instr.build 23 #[(0, .int .u8 171)]).run Try.prog w = .ok (.agg m171) w := run_build w 23 _ _ (by kernel_rfl)
set_option maxRecDepth 100000 in
set_option maxHeartbeats 4000000 in
theorem s3 (W : World) (X Y g0 g1 g2 g4 d0 d1 d2 d4 c0 c2 c4 p0 p2 p4 n : Nat) (A0 A2 A4 : Option Addr)
    (a50 : W.cell? ⟨X, 50, none⟩ = some (.slice (some ⟨g0, 0, none⟩) p0 d0)) (a51 : W.cell? ⟨X, 51, none⟩ = some (.slice (some ⟨g1, 0, none⟩) n d1)) (a52 : W.cell? ⟨X, 52, none⟩ = some (.slice (some ⟨g2, 0, none⟩) p2 d2)) (a54 : W.cell? ⟨X, 54, none⟩ = some (.slice (some ⟨g4, 0, none⟩) p4 d4))
    (b50 : W.cell? ⟨Y, 50, none⟩ = some (.slice A0 p0 c0)) (b52 : W.cell? ⟨Y, 52, none⟩ = some (.slice A2 p2 c2)) (b54 : W.cell? ⟨Y, 54, none⟩ = some (.slice A4 p4 c4))
    (hi : ∀ q, Calls Try.prog 14 #[.slice (some ⟨g0, 0, none⟩) p0 d0, .slice A0 p0 c0] (W.drewN q) fun e w' => e = .returned (.bool true) ∧ ∃ k, w' = (W.drewN q).drewN k) (hn : ∀ q, Calls Try.prog 14 #[.slice (some ⟨g4, 0, none⟩) p4 d4, .slice A4 p4 c4] (W.drewN q) fun e w' => e = .returned (.bool true) ∧ ∃ k, w' = (W.drewN q).drewN k)
    (hmi : ∀ q, Calls Try.prog 15 #[.slice (some ⟨g0, 0, none⟩) p0 d0] (W.drewN q) fun e w' => e = .returned (.bool true) ∧ ∃ k, w' = (W.drewN q).drewN k) (hmn : ∀ q, Calls Try.prog 15 #[.slice (some ⟨g4, 0, none⟩) p4 d4] (W.drewN q) fun e w' => e = .returned (.bool true) ∧ ∃ k, w' = (W.drewN q).drewN k)
    (hh : ∀ q, Calls Try.prog 16 #[.slice (some ⟨g2, 0, none⟩) p2 d2, .slice A2 p2 c2] (W.drewN q) fun e w' => e = .returned (.bool true) ∧ ∃ k, w' = (W.drewN q).drewN k)
    (hmk : W.rangeAt g1 (n * 21) m171.toList) (hn2 : n ≤ 200000) (hcap : n + 1 ≤ d1)
    {u0 u1 u4 u5 u6 u7 u8 u9 u10 u11 u12 u13 u14 u15 u16 u17 u18 u19 u20 u21 u22 u23 u24 u25 u26 u27 u28 u29 u30 u31 u32 u33 u34 u35 u36 u37 u38 u39 u40 u41 u42 u43 u44 u45 u46 u47 u48 u49 u50 u51 u52 u53 u54 u55 u56 u57 u58 u59 u60 u61 u62 u63 u64 u65 u66 u67 u68 u69 u70 u71 u72 u73 u74 u75 u76 u77 u78 u79 u80 u81 u82 u83 u84 u85 u86 u87 u88 u89 u90 u91 u92 u93 u94 u95 u96 u97 u98 u99 u100 u101 u102 u103 u104 u105 u106 u107 u108 u109 u110 u111 u112 u113 u114 u115 u116 u117 u118 u119 u120 u121 u122 u123 u124 u125 u126 u127 u128 u129 u130 u131 u132 u133 u134 u135 u136 u137 u138 u139 u140 u141 u142 u143 u144 u145 u146 u147 u148 u149 u150 u151 u152 u153 u154 u155 u156 u157 u158 u159 u160 u161 u162 u163 u164 u165 u166 u167 u168 u169 u170 u171 u172 u173 u174 u175 u176 u177 u178 u179 u180 u181 u182 u183 u184 u185 u186 u187 : Value} (Q : Exit → Act → World → Prop)
    (hQ : ∀ nq v72 v73 v74 v75 v76 v77 v78 v79 v80 v81 v82 v83 v84 v85 v86 v87 v88 v89 v90 v91 v92 v93 v94 v95 v96 v97 v98 v99 v100 v101 v102 v103 v104 v105 v106 v107 v108 v109 v110 v111 v112 v113 v114 v115 v116 v117 v118 v119 v120 v121, Q .normal ⟨#[u0, u1, .pointer (some ⟨X, 0, none⟩), .pointer (some ⟨Y, 0, none⟩), u4, u5, u6, u7, u8, u9, u10, u11, u12, u13, u14, u15, u16, u17, u18, u19, u20, u21, u22, u23, u24, u25, u26, u27, u28, u29, u30, u31, u32, u33, u34, u35, u36, u37, u38, u39, u40, u41, u42, u43, u44, u45, u46, u47, u48, u49, u50, u51, u52, u53, u54, u55, u56, u57, u58, u59, u60, u61, u62, u63, u64, u65, u66, u67, u68, u69, u70, u71, v72, v73, v74, v75, v76, v77, v78, v79, v80, v81, v82, v83, v84, v85, v86, v87, v88, v89, v90, v91, v92, v93, v94, v95, v96, v97, v98, v99, v100, v101, v102, v103, v104, v105, v106, v107, v108, v109, v110, v111, v112, v113, v114, v115, v116, v117, v118, v119, v120, v121, .bool false, u123, u124, u125, u126, u127, u128, u129, u130, u131, u132, u133, u134, u135, u136, u137, u138, u139, u140, u141, u142, u143, u144, u145, u146, u147, u148, u149, u150, u151, u152, u153, u154, u155, u156, u157, u158, u159, u160, u161, u162, u163, u164, u165, u166, u167, u168, u169, u170, u171, u172, u173, u174, u175, u176, u177, u178, u179, u180, u181, u182, u183, u184, u185, u186, u187], []⟩ (W.drewN nq)) :
    Code.wp Try.prog (reg8 3) Q ⟨#[u0, u1, .pointer (some ⟨X, 0, none⟩), .pointer (some ⟨Y, 0, none⟩), u4, u5, u6, u7, u8, u9, u10, u11, u12, u13, u14, u15, u16, u17, u18, u19, u20, u21, u22, u23, u24, u25, u26, u27, u28, u29, u30, u31, u32, u33, u34, u35, u36, u37, u38, u39, u40, u41, u42, u43, u44, u45, u46, u47, u48, u49, u50, u51, u52, u53, u54, u55, u56, u57, u58, u59, u60, u61, u62, u63, u64, u65, u66, u67, u68, u69, u70, u71, u72, u73, u74, u75, u76, u77, u78, u79, u80, u81, u82, u83, u84, u85, u86, u87, u88, u89, u90, u91, u92, u93, u94, u95, u96, u97, u98, u99, u100, u101, u102, u103, u104, u105, u106, u107, u108, u109, u110, u111, u112, u113, u114, u115, u116, u117, u118, u119, u120, u121, u122, u123, u124, u125, u126, u127, u128, u129, u130, u131, u132, u133, u134, u135, u136, u137, u138, u139, u140, u141, u142, u143, u144, u145, u146, u147, u148, u149, u150, u151, u152, u153, u154, u155, u156, u157, u158, u159, u160, u161, u162, u163, u164, u165, u166, u167, u168, u169, u170, u171, u172, u173, u174, u175, u176, u177, u178, u179, u180, u181, u182, u183, u184, u185, u186, u187], []⟩ W := by
  have HQ := Lib.hid hQ
  have HI := Lib.hid hi
  have HN := Lib.hid hn
  have HMI := Lib.hid hmi
  have HMN := Lib.hid hmn
  have HH := Lib.hid hh
  have HMK := Lib.hid hmk
  have SZm : Hid ((Try.prog.info? 23).map (·.size) = some m171.size) := Lib.hid (by kernel_rfl)
  have NQm := neq23 m171 m171_ints
  have hw1 : IntKind.i64.wrap ((n : Int) + 1) = ((n + 1 : Nat) : Int) := by rw [IntWalk.i64_in _ (by omega)]; omega
  have hn3 : (n : Int) ≤ 200000 := by omega
  clear hQ hi hn hmi hmn hh hmk
  conv => arg 2; whnf
  dsimp only
  refine wp_region_quiet_lit (by kernel_rfl) (by kernel_rfl) ?_
  repeat (first
    | go_big_quiet_step (first | (go_at_call 14; with_reducible exact Calls.quiet_of (HI.out _)) | (go_at_call 14; with_reducible exact Calls.quiet_of (HN.out _)) | (go_at_call 15; with_reducible exact Calls.quiet_of (HMI.out _)) | (go_at_call 15; with_reducible exact Calls.quiet_of (HMN.out _)) | (go_at_call 16; with_reducible exact Calls.quiet_of (HH.out _)))
    | (refine wpQuiet_load_g (by rfl) _ _ rfl _ _ rfl _ _ (by assumption) (by first | exact Try.underlying23) rfl (by assumption) ?_; simp only [Act.put, List.setIfInBounds_toArray, List.set_cons_succ, List.set_cons_zero])
    | (refine wpQuiet_build_g (by rfl) 23 _ rfl m171 built23 ?_; simp only [Act.put, List.setIfInBounds_toArray, List.set_cons_succ, List.set_cons_zero])
    | (refine wpQuiet_neq_g (by rfl) _ _ _ _ rfl _ rfl rfl Try.eqGuardType23 (by assumption) ?_; simp only [Act.put, List.setIfInBounds_toArray, List.set_cons_succ, List.set_cons_zero]))
  refine wpQuiet_nil ?_
  intro _ hw'
  obtain ⟨nq, hw''⟩ := hw'
  subst hw''
  exact HQ.out _ _ _ _ _ _ _ _ _ _ _ _ _ _ _ _ _ _ _ _ _ _ _ _ _ _ _ _ _ _ _ _ _ _ _ _ _ _ _ _ _ _ _ _ _ _ _ _ _ _ _
end Go.Proofs.Ytlafibjcmalkdaa
