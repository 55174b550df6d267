/- ContainerAll: the switch, kind 1. -/
import Derived.Test.YtkbboepopcebaaaDD
import Derived.Test.YtkbboepopcebaaaCN
import Derived.Deep.CutBlock
namespace Go.Proofs.Ytkbboepopcebaaa
open Go.RowKit

def blkC (id : Nat) : Code → Option Code
  | .block i c => if i = id then some (.block i c) else blkC id c
  | .seq a b => match blkC id a with | some c => some c | none => blkC id b
  | .cond _ a b => match blkC id a with | some c => some c | none => blkC id b
  | .loop b => blkC id b
  | .scope b => blkC id b
  | _ => none
/-- The switch of ContainerAll. -/
noncomputable def blk11 : Code := (blkC 2 (Try.f11.body.getD .skip)).getD .skip
theorem rser_c (v : Value) (c : Cont) (n : Nat) (w : World) (h : ContV w v c) (hm : May c) (hn : (serB c).length = n) (hr : n ≤ reach) : Calls Try.prog 38 #[v] w (SerC (serB c) n w) := by
  refine (rser_any v c w h).mono ?_
  rintro e w' ⟨v', rfl, ho, hb⟩
  rw [serR, if_pos (of_may hm)] at ho
  obtain ⟨A, cc, rfl, h1⟩ := ho.reads (by omega)
  subst hn
  rw [of_may hm]
  exact ⟨A, cc, rfl, ⟨A, cc, rfl, h1⟩, hb⟩
theorem rsize_c (v : Value) (c : Cont) (n : Nat) (w : World) (h : ContV w v c) (hm : May c) (hn : (serB c).length = n) : Calls Try.prog 39 #[v] w fun e w' => e = .returned (.tuple #[.int .i64 n, .int .i64 0]) ∧ Below w.heap.size w w' := by
  refine (rsize_any v c w h).mono ?_
  rintro e w' ⟨rfl, hb⟩
  rw [sizeN, if_pos (of_may hm), of_may hm, hn]
  exact ⟨rfl, hb⟩
theorem rcheck_c (v : Value) (c : Cont) (w : World) (h : ContV w v c) (hm : May c) : Calls Try.prog 19 #[v] w fun e w' => e = .returned (.int .i64 0) ∧ Below w.heap.size w w' := by
  have := refCheck_any v c w h
  rwa [of_may hm] at this
set_option maxRecDepth 100000 in
set_option maxHeartbeats 40000000 in
theorem sw1 (w y w5 : World) (X3 X4 X9 m cB k : Nat) (AB : Option Addr) (b : List Int) (op : Bool) (kd : Int) (u3 u4 : U5) (C : Cont) (vk vw : Value) (us ws : List U5) (kl : List Cont) (q : Two34 w y X3 X4) (hi5 : AInv w y w5 X3 X4 u3 u4 C vk vw us ws kl) (ha1 : w5.cell? ⟨X9, 1, none⟩ = some (.slice AB m cB)) (ha2 : w5.cell? ⟨X9, 2, none⟩ = some (.bool op)) (hb5 : NumsV w5 .u8 (.slice AB m cB) b) (hm : m = b.length) (hml : m ≤ 2097152) (hby : Byt b) (hkd : kd = 1)
    {u0 u1 u2 u7 u10 u11 u12 u13 u14 u15 u16 u17 u18 u19 u20 u21 u22 u23 u24 u25 u26 u27 u28 u29 u30 u31 u32 u33 u34 u35 u36 u37 u38 u39 u40 u41 u42 u43 u44 u45 u46 u47 u48 u49 u51 u52 u53 u54 u55 u56 u57 u58 u59 u60 u61 u62 u63 u64 u65 u66 u67 u68 u69 u70 u71 u72 u73 u74 u75 u76 u77 u78 u79 u80 u81 u82 u83 u84 u85 u86 u87 u88 u89 u90 u91 u92 u93 u94 u95 u96 u97 u98 u99 u100 u101 u102 u103 u104 u105 u106 u107 u108 u109 u110 u111 u112 u113 u114 u115 u116 u117 u118 u119 u120 u121 u122 u123 u124 u125 u126 u127 u128 u129 u130 u131 u132 u133 u134 u135 u136 u137 u138 u139 u140 u141 u142 u143 u144 u145 u146 u147 u148 u149 u150 u151 u152 u153 u154 u155 u156 u157 u158 u159 u160 u161 u162 u163 u164 u165 u166 u167 u168 u169 u170 u171 u172 u173 u174 u175 u176 u177 u178 u179 u180 u181 u182 u183 u184 u185 u186 u187 u188 u189 u190 u191 u192 u193 u194 u195 u196 u197 u198 u199 u200 u201 u202 u203 u204 u205 u206 u207 u208 : Value} (Q : Exit → Act → World → Prop)
    (hQ : ∀ wx v5 v6 v10 v11 v12 v13 v14 v15 v16 v17 v18 v19 v20 v21 v22 v23 v24 v25 v51 v52 v53 v54 v55 v56 v57 v58 v59 v60 v61 v62 v63 v64 v65 v66 v67 v68 v69 v70 v71 v72 v73 v74 v75 v76 v77 v78 v79 v80 v81 v82 v83 v84 v85 v86 v87 v88 v89 v90 v91 v92 v93 v94 v95 v96 v97 v98 v99 v100 v101 v102 v103 v104 v105 v106 v107 v108 v109 v110 v111 v112 v113 v114 v115 v116 v117 v118 v119 v120 v121 v122 v123 v124 v125 v126 v127 v128 v129 v130 v131 v132 v133 v134 v135 v136 v137 v138 v139 v140 v141 v142 v143 v144 v145 v146 v147 v148 v149 v150 v151 v152 v153 v154 v155 v156 v157 v158 v159 v160 v161 v162 v163 v164 v165 v166 v167 v168 v169 v170 v171 v172 v173 v174 v175 v176 v177 v178 v179 v180 v181 v182 v183 v184 v185 v186 v187 v188, (∃ u3 u4 C us ws kl, AInv w y wx X3 X4 u3 u4 C v5 v6 us ws kl) → Q .normal ⟨#[u0, u1, u2, .pointer (some ⟨X3, 0, none⟩), .pointer (some ⟨X4, 0, none⟩), v5, v6, u7, .int .i64 (k : Int), .pointer (some ⟨X9, 0, none⟩), v10, v11, v12, v13, v14, v15, v16, v17, v18, v19, v20, v21, v22, v23, v24, v25, u26, u27, u28, u29, u30, u31, u32, u33, u34, u35, u36, u37, u38, u39, u40, u41, u42, u43, u44, u45, u46, u47, u48, u49, .int .i64 kd, v51, v52, v53, v54, v55, v56, v57, v58, v59, v60, v61, v62, v63, v64, v65, v66, v67, v68, v69, v70, v71, v72, v73, v74, v75, v76, v77, v78, v79, v80, v81, v82, v83, v84, v85, v86, v87, v88, v89, v90, v91, v92, v93, v94, v95, v96, v97, v98, v99, v100, v101, v102, v103, v104, v105, v106, v107, v108, v109, v110, v111, v112, v113, v114, v115, v116, v117, v118, v119, v120, v121, v122, v123, v124, v125, v126, v127, v128, v129, v130, v131, v132, v133, v134, v135, v136, v137, v138, v139, v140, v141, v142, v143, v144, v145, v146, v147, v148, v149, v150, v151, v152, v153, v154, v155, v156, v157, v158, v159, v160, v161, v162, v163, v164, v165, v166, v167, v168, v169, v170, v171, v172, v173, v174, v175, v176, v177, v178, v179, v180, v181, v182, v183, v184, v185, v186, v187, v188, u189, u190, u191, u192, u193, u194, u195, u196, u197, u198, u199, u200, u201, u202, u203, u204, u205, u206, u207, u208], []⟩ wx) :
    Code.wp Try.prog blk11 Q ⟨#[u0, u1, u2, .pointer (some ⟨X3, 0, none⟩), .pointer (some ⟨X4, 0, none⟩), vk, vw, u7, .int .i64 (k : Int), .pointer (some ⟨X9, 0, none⟩), u10, u11, u12, u13, u14, u15, u16, u17, u18, u19, u20, u21, u22, u23, u24, u25, u26, u27, u28, u29, u30, u31, u32, u33, u34, u35, u36, u37, u38, u39, u40, u41, u42, u43, u44, u45, u46, u47, u48, u49, .int .i64 kd, u51, u52, u53, u54, u55, u56, u57, u58, u59, u60, u61, u62, u63, u64, u65, u66, u67, u68, u69, u70, u71, u72, u73, u74, u75, u76, u77, u78, u79, u80, u81, u82, u83, u84, u85, u86, u87, u88, u89, u90, u91, u92, u93, u94, u95, u96, u97, u98, u99, u100, u101, u102, u103, u104, u105, u106, u107, u108, u109, u110, u111, u112, u113, u114, u115, u116, u117, u118, u119, u120, u121, u122, u123, u124, u125, u126, u127, u128, u129, u130, u131, u132, u133, u134, u135, u136, u137, u138, u139, u140, u141, u142, u143, u144, u145, u146, u147, u148, u149, u150, u151, u152, u153, u154, u155, u156, u157, u158, u159, u160, u161, u162, u163, u164, u165, u166, u167, u168, u169, u170, u171, u172, u173, u174, u175, u176, u177, u178, u179, u180, u181, u182, u183, u184, u185, u186, u187, u188, u189, u190, u191, u192, u193, u194, u195, u196, u197, u198, u199, u200, u201, u202, u203, u204, u205, u206, u207, u208], []⟩ w5 := by
  have HQQ := Lib.hid hQ
  have HQ := Lib.hid q
  have HI5 := Lib.hid hi5
  have HA1 := Lib.hid ha1
  have HA2 := Lib.hid ha2
  have HB5 := Lib.hid hb5
  have HM := Lib.hid hm
  have HML := Lib.hid hml
  have HBY := Lib.hid hby
  clear hQ q hi5 ha1 ha2 hb5 hm hml hby
  conv => arg 2; whnf
  obtain ⟨ta, ca, sa, da, za⟩ := u3
  obtain ⟨tb, cb, sb, db, zb⟩ := u4
  have HV3 : Hid (∀ W, Below w5.heap.size w5 W → ContV W (.agg #[ta, ca, sa, da, .int .i64 za]) C) := Lib.hid fun W hW => (HI5.out.mono hW).p3.read HI5.out.inv.fits
  have HV4 : Hid (∀ W, Below w5.heap.size w5 W → ContV W (.agg #[tb, cb, sb, db, .int .i64 zb]) C) := Lib.hid fun W hW => (HI5.out.mono hW).p4.read HI5.out.inv.fits
  have HCL : Hid (∀ w', Below w5.heap.size w5 w' → w'.cell? ⟨X3, 0, none⟩ = some ta ∧ w'.cell? ⟨X3, 1, none⟩ = some ca ∧ w'.cell? ⟨X3, 2, none⟩ = some sa ∧ w'.cell? ⟨X3, 3, none⟩ = some da ∧ w'.cell? ⟨X3, 4, none⟩ = some (.int .i64 za) ∧ w'.cell? ⟨X4, 0, none⟩ = some tb ∧ w'.cell? ⟨X4, 1, none⟩ = some cb ∧ w'.cell? ⟨X4, 2, none⟩ = some sb ∧ w'.cell? ⟨X4, 3, none⟩ = some db ∧ w'.cell? ⟨X4, 4, none⟩ = some (.int .i64 zb)) := Lib.hid fun W hW => by
    obtain ⟨k0, k1, k2, k3, k4, _⟩ := (HI5.out.mono hW).b3.kx
    obtain ⟨q0, q1, q2, q3, q4, _⟩ := (HI5.out.mono hW).b4.kx
    exact ⟨k0, k1, k2, k3, k4, q0, q1, q2, q3, q4⟩
  have HMC : Hid (May C) := Lib.hid HI5.out.inv.1
  obtain ⟨N, hN⟩ : ∃ N, N = (serB C).length := ⟨_, rfl⟩
  have hNr : N ≤ 2162687 := by rw [hN]; exact HI5.out.inv.len
  have HNL := Lib.hid hN.symm
  have HNR : Hid (N ≤ reach) := Lib.hid (by unfold reach; omega)
  obtain ⟨sC, hsC⟩ : ∃ sC, sC = serB C := ⟨_, rfl⟩
  have HSC := Lib.hid hsC
  clear hN hNr hsC
  subst hkd
  obtain ⟨d, hd⟩ : ∃ d, d = contOf (parse b op) := ⟨_, rfl⟩
  obtain ⟨sd, hsd⟩ : ∃ sd, sd = (contOf (parse b op)).size := ⟨_, rfl⟩
  obtain ⟨x, hx⟩ : ∃ x, x = (rejOf (parse b op)).1 := ⟨_, rfl⟩
  obtain ⟨yy, hyy⟩ : ∃ yy, yy = (rejOf (parse b op)).2 := ⟨_, rfl⟩
  have HPR : Hid (∀ W A c, NumsV W .u8 (.slice A m c) b → Calls Try.prog 29 #[.slice A m c, .bool op] W (RdC d sd x yy W)) := Lib.hid fun W A c h => by
    obtain ⟨_, _, e, h1, h2, h3⟩ := h
    injection e with e1 e2 e3
    subst e1 e3
    exact (rd_parse A m c op b W h3 HBY.out HM.out.symm (by rw [HM.out]; exact h1)).mono fun _ _ h => rdc_of hd hsd hx hyy h
  have HRR : Hid (∀ W, Below w5.heap.size w5 W → Calls Try.prog 36 #[.slice AB m cB, .bool op] W (RdC d sd x yy W)) := Lib.hid fun W hW => by
    obtain ⟨_, _, e, h1, h2, h3⟩ := HB5.out.mono hW
    injection e with e1 e2 e3
    subst e1 e3
    exact (rd_ref AB m cB op b W h3 HBY.out HM.out.symm (by have := HML.out; omega)).mono fun _ _ h => rdc_of hd hsd hx hyy h
  have HOW : Hid (∀ W, Below w5.heap.size w5 W → Calls Try.prog 30 #[.slice AB m cB] W (OwnPost b m W)) := Lib.hid fun W hW => own_sl _ b m W (HB5.out.mono hW) HM.out.symm
  have HCI : Hid (x = 0 → CInv d) := Lib.hid fun h => by
    rw [hx] at h
    rw [hd]
    exact cinv_parse HBY.out (by rw [← HM.out]; exact HML.out) (parsed h fun e he => (parse_far HBY.out op e he).1)
  have HFD : Hid (Fits d) := Lib.hid (by
    rw [hd]
    exact rd_fits HBY.out op (by rw [← HM.out]; exact HML.out))
  clear hd hsd hx hyy
  have HC9 : Hid (∀ w', Below w5.heap.size w5 w' → w'.cell? ⟨X9, 1, none⟩ = some (.slice AB m cB) ∧ w'.cell? ⟨X9, 2, none⟩ = some (.bool op)) := Lib.hid fun W hW => ⟨cell_keep hW HA1.out, cell_keep hW HA2.out⟩
  go_upto_region 15 with (fail)
  refine (show Code.wp Try.prog (reg11 15) _ _ _ from r15 w5 X9 m cB AB b op d sd x yy HA1.out HA2.out HPR.out HOW.out _ ?_)
  intro X10 Y11 A0 n0 c0 A1 n1 c1 A2 n2 c2 A3 n3 c3 wc v53 v54 v55 v56 v57 v58 v59 v60 v61 hst
  have HST := Lib.hid hst
  clear hst
  obtain ⟨ha1, ha2⟩ := HC9.out _ HST.out.below
  go_wp2_with fail
  refine (HRR.out _ HST.out.below).mono ?_
  rintro e w6 ⟨hb, B0, m0, e0, B1, m1, e1, B2, m2, e2, B3, m3, e3, rfl, hp⟩
  have hst2 := ((ST.got (u := ⟨.slice B0 m0 e0, .slice B1 m1 e1, .slice B2 m2 e2, .slice B3 m3 e3, sd⟩) (ST.refl wc) hb hp).newX (t := .slice B0 m0 e0) (c := .slice B1 m1 e1) (s := .slice B2 m2 e2) (d := .slice B3 m3 e3) (z := sd) rfl).newY (x := x) (y := yy) rfl
  simp only [asz] at hst2
  obtain ⟨y7, hy7⟩ : ∃ y7, y7 = ((w6.alloc (.cells #[.slice B0 m0 e0, .slice B1 m1 e1, .slice B2 m2 e2, .slice B3 m3 e3, .int .i64 sd] 28)).alloc (.cells #[.int .i64 x, .slice none 0 0, .int .i64 0, .int .i64 yy] 43)) := ⟨_, rfl⟩
  obtain ⟨Y13, hY13⟩ : ∃ Y13, Y13 = w6.heap.size + 1 := ⟨_, rfl⟩
  obtain ⟨X12, hX12⟩ : ∃ X12, X12 = w6.heap.size := ⟨_, rfl⟩
  rw [← hy7, ← hY13, ← hX12] at hst2
  have HS2 := Lib.hid hst2
  clear hst2 hb hp ha1 ha2
  go_upto_region 17 with (fail)
  rw [← hy7, ← hY13, ← hX12]
  clear hy7 hY13 hX12
  obtain ⟨p0, p1, p2, p3, p4, fp⟩ := ((HST.out.x _ _ rfl).1.below HS2.out.below).kx
  obtain ⟨q0, q1, q2, q3, q4, fq⟩ := (HS2.out.x _ _ rfl).1.kx
  simp only at p0 p1 p2 p3 p4 q0 q1 q2 q3 q4
  go_wp2_with fail
  refine (same_c (c := d) (((HST.out.q _ _ rfl).belowK HS2.out.below).read HFD.out) ((HS2.out.q _ _ rfl).read HFD.out)).mono ?_
  rintro e w8 ⟨rfl, hb⟩
  have HB8 := Lib.hid hb
  clear hb p0 p1 p2 p3 p4 q0 q1 q2 q3 q4 fp fq
  obtain ⟨p0, p1, p2, p3⟩ := ((HST.out.y _ _ _ rfl).1.below (below_step HS2.out.below HB8.out)).cells
  obtain ⟨q0, q1, q2, q3⟩ := ((HS2.out.y _ _ _ rfl).1.below HB8.out).cells
  go_wp2_with fail
  refine (rej_c x yy _).mono ?_
  rintro e w9 ⟨rfl, hb⟩
  have HB9 := Lib.hid (below_step HB8.out hb)
  clear hb p0 p1 p2 p3 q0 q1 q2 q3
  obtain ⟨q0, q1, q2, q3⟩ := ((HS2.out.y _ _ _ rfl).1.below HB9.out).cells
  by_cases hx0 : x = 0
  · have qx : (x == 0) = true := by simp [hx0]
    have HTS := Lib.hid (ts_mk HI5.out HST.out HS2.out HB9.out (HCI.out hx0))
    clear hx0
    have hrow := HTS.out.inv.kr.row
    have hrow2 := HTS.out.inv.kw.row
    obtain ⟨AK, ck, hvk, _⟩ := own_shape hrow
    obtain ⟨AW, cw, hvw, _⟩ := own_shape hrow2
    subst hvk hvw
    obtain ⟨NN, hNN⟩ : ∃ NN, NN = us.length := ⟨_, rfl⟩
    have HUN : Hid (us.length = NN) := Lib.hid hNN.symm
    have HWN : Hid (ws.length = NN) := Lib.hid (by have h1 := HTS.out.inv.kr.len; have h2 := HTS.out.inv.kw.len; omega)
    have hle : NN ≤ 50 := by rw [hNN]; exact HTS.out.few
    clear hrow hrow2 hNN
    rw [HUN.out, HWN.out] at HTS
    rw [HUN.out, HWN.out]
    go_upto_region 20 with (fail)
    refine (show Code.wp Try.prog (reg11 20) _ _ _ from r20 w y w9 X3 X4 X10 X12 _ _ C d _ _ us ws kl A0 A1 A2 A3 B0 B1 B2 B3 n0 n1 n2 n3 c0 c1 c2 c3 m0 m1 m2 m3 e0 e1 e2 e3 sd sd HQ.out HTS.out _ ?_)
    intro wt v1 v2 hts
    have HTT := Lib.hid hts
    clear hts
    by_cases h50 : NN < 50
    · have q50 : decide ((NN : Int) < (50 : Int)) = true := by simp; omega
      have q50b : decide (NN < 50) = true := by simp; omega
      go_upto_region 22 with (fail)
      refine (show Code.wp Try.prog (reg11 22) _ _ _ from r22 w y wt X3 X4 X10 X12 _ _ d d AK AW NN ck cw us ws kl A0 A1 A2 A3 B0 B1 B2 B3 n0 n1 n2 n3 c0 c1 c2 c3 m0 m1 m2 m3 e0 e1 e2 e3 sd sd HQ.out HTT.out HUN.out HWN.out h50 _ ?_)
      intro wx vk' vw' z0 z1 z2 z3 z4 z5 z6 z7 hfin
      have HFIN := Lib.hid hfin
      clear hfin
      go_wp2_with fail
      exact HQQ.out _ _ _ _ _ _ _ _ _ _ _ _ _ _ _ _ _ _ _ _ _ _ _ _ _ _ _ _ _ _ _ _ _ _ _ _ _ _ _ _ _ _ _ _ _ _ _ _ _ _ _ _ _ _ _ _ _ _ _ _ _ _ _ _ _ _ _ _ _ _ _ _ _ _ _ _ _ _ _ _ _ _ _ _ _ _ _ _ _ _ _ _ _ _ _ _ _ _ _ _ _ _ _ _ _ _ _ _ _ _ _ _ _ _ _ _ _ _ _ _ _ _ _ _ _ _ _ _ _ _ _ _ _ _ _ _ _ _ _ _ _ _ _ _ _ _ _ _ _ _ _ _ _ _ _ _ _ ⟨_, _, _, _, _, _, HFIN.out⟩
    · have q50 : decide ((NN : Int) < (50 : Int)) = false := by simp; omega
      have q50b : decide (NN < 50) = false := by simp; omega
      go_wp2_with fail
      exact HQQ.out _ _ _ _ _ _ _ _ _ _ _ _ _ _ _ _ _ _ _ _ _ _ _ _ _ _ _ _ _ _ _ _ _ _ _ _ _ _ _ _ _ _ _ _ _ _ _ _ _ _ _ _ _ _ _ _ _ _ _ _ _ _ _ _ _ _ _ _ _ _ _ _ _ _ _ _ _ _ _ _ _ _ _ _ _ _ _ _ _ _ _ _ _ _ _ _ _ _ _ _ _ _ _ _ _ _ _ _ _ _ _ _ _ _ _ _ _ _ _ _ _ _ _ _ _ _ _ _ _ _ _ _ _ _ _ _ _ _ _ _ _ _ _ _ _ _ _ _ _ _ _ _ _ _ _ _ _ ⟨_, _, _, _, _, _, HTT.out.inv⟩
  · have qx : (x == 0) = false := by simp [hx0]
    go_wp2_with fail
    exact HQQ.out _ _ _ _ _ _ _ _ _ _ _ _ _ _ _ _ _ _ _ _ _ _ _ _ _ _ _ _ _ _ _ _ _ _ _ _ _ _ _ _ _ _ _ _ _ _ _ _ _ _ _ _ _ _ _ _ _ _ _ _ _ _ _ _ _ _ _ _ _ _ _ _ _ _ _ _ _ _ _ _ _ _ _ _ _ _ _ _ _ _ _ _ _ _ _ _ _ _ _ _ _ _ _ _ _ _ _ _ _ _ _ _ _ _ _ _ _ _ _ _ _ _ _ _ _ _ _ _ _ _ _ _ _ _ _ _ _ _ _ _ _ _ _ _ _ _ _ _ _ _ _ _ _ _ _ _ _ ⟨_, _, _, _, _, _, HI5.out.mono (below_step HST.out.below (below_step HS2.out.below HB9.out))⟩
end Go.Proofs.Ytkbboepopcebaaa
namespace Go.Proofs.Ytkbboepopcebaaa
open Go.RowKit

set_option maxRecDepth 100000 in
set_option maxHeartbeats 40000000 in
theorem sw5 (w y w5 : World) (X3 X4 X9 m cB k : Nat) (AB : Option Addr) (b : List Int) (op : Bool) (kd : Int) (u3 u4 : U5) (C : Cont) (vk vw : Value) (us ws : List U5) (kl : List Cont) (q : Two34 w y X3 X4) (hi5 : AInv w y w5 X3 X4 u3 u4 C vk vw us ws kl) (ha1 : w5.cell? ⟨X9, 1, none⟩ = some (.slice AB m cB)) (ha2 : w5.cell? ⟨X9, 2, none⟩ = some (.bool op)) (hb5 : NumsV w5 .u8 (.slice AB m cB) b) (hm : m = b.length) (hml : m ≤ 2097152) (hby : Byt b) (hkd : kd = 5)
    {u0 u1 u2 u7 u10 u11 u12 u13 u14 u15 u16 u17 u18 u19 u20 u21 u22 u23 u24 u25 u26 u27 u28 u29 u30 u31 u32 u33 u34 u35 u36 u37 u38 u39 u40 u41 u42 u43 u44 u45 u46 u47 u48 u49 u51 u52 u53 u54 u55 u56 u57 u58 u59 u60 u61 u62 u63 u64 u65 u66 u67 u68 u69 u70 u71 u72 u73 u74 u75 u76 u77 u78 u79 u80 u81 u82 u83 u84 u85 u86 u87 u88 u89 u90 u91 u92 u93 u94 u95 u96 u97 u98 u99 u100 u101 u102 u103 u104 u105 u106 u107 u108 u109 u110 u111 u112 u113 u114 u115 u116 u117 u118 u119 u120 u121 u122 u123 u124 u125 u126 u127 u128 u129 u130 u131 u132 u133 u134 u135 u136 u137 u138 u139 u140 u141 u142 u143 u144 u145 u146 u147 u148 u149 u150 u151 u152 u153 u154 u155 u156 u157 u158 u159 u160 u161 u162 u163 u164 u165 u166 u167 u168 u169 u170 u171 u172 u173 u174 u175 u176 u177 u178 u179 u180 u181 u182 u183 u184 u185 u186 u187 u188 u189 u190 u191 u192 u193 u194 u195 u196 u197 u198 u199 u200 u201 u202 u203 u204 u205 u206 u207 u208 : Value} (Q : Exit → Act → World → Prop)
    (hQ : ∀ wx v5 v6 v10 v11 v12 v13 v14 v15 v16 v17 v18 v19 v20 v21 v22 v23 v24 v25 v51 v52 v53 v54 v55 v56 v57 v58 v59 v60 v61 v62 v63 v64 v65 v66 v67 v68 v69 v70 v71 v72 v73 v74 v75 v76 v77 v78 v79 v80 v81 v82 v83 v84 v85 v86 v87 v88 v89 v90 v91 v92 v93 v94 v95 v96 v97 v98 v99 v100 v101 v102 v103 v104 v105 v106 v107 v108 v109 v110 v111 v112 v113 v114 v115 v116 v117 v118 v119 v120 v121 v122 v123 v124 v125 v126 v127 v128 v129 v130 v131 v132 v133 v134 v135 v136 v137 v138 v139 v140 v141 v142 v143 v144 v145 v146 v147 v148 v149 v150 v151 v152 v153 v154 v155 v156 v157 v158 v159 v160 v161 v162 v163 v164 v165 v166 v167 v168 v169 v170 v171 v172 v173 v174 v175 v176 v177 v178 v179 v180 v181 v182 v183 v184 v185 v186 v187 v188, (∃ u3 u4 C us ws kl, AInv w y wx X3 X4 u3 u4 C v5 v6 us ws kl) → Q .normal ⟨#[u0, u1, u2, .pointer (some ⟨X3, 0, none⟩), .pointer (some ⟨X4, 0, none⟩), v5, v6, u7, .int .i64 (k : Int), .pointer (some ⟨X9, 0, none⟩), v10, v11, v12, v13, v14, v15, v16, v17, v18, v19, v20, v21, v22, v23, v24, v25, u26, u27, u28, u29, u30, u31, u32, u33, u34, u35, u36, u37, u38, u39, u40, u41, u42, u43, u44, u45, u46, u47, u48, u49, .int .i64 kd, v51, v52, v53, v54, v55, v56, v57, v58, v59, v60, v61, v62, v63, v64, v65, v66, v67, v68, v69, v70, v71, v72, v73, v74, v75, v76, v77, v78, v79, v80, v81, v82, v83, v84, v85, v86, v87, v88, v89, v90, v91, v92, v93, v94, v95, v96, v97, v98, v99, v100, v101, v102, v103, v104, v105, v106, v107, v108, v109, v110, v111, v112, v113, v114, v115, v116, v117, v118, v119, v120, v121, v122, v123, v124, v125, v126, v127, v128, v129, v130, v131, v132, v133, v134, v135, v136, v137, v138, v139, v140, v141, v142, v143, v144, v145, v146, v147, v148, v149, v150, v151, v152, v153, v154, v155, v156, v157, v158, v159, v160, v161, v162, v163, v164, v165, v166, v167, v168, v169, v170, v171, v172, v173, v174, v175, v176, v177, v178, v179, v180, v181, v182, v183, v184, v185, v186, v187, v188, u189, u190, u191, u192, u193, u194, u195, u196, u197, u198, u199, u200, u201, u202, u203, u204, u205, u206, u207, u208], []⟩ wx) :
    Code.wp Try.prog blk11 Q ⟨#[u0, u1, u2, .pointer (some ⟨X3, 0, none⟩), .pointer (some ⟨X4, 0, none⟩), vk, vw, u7, .int .i64 (k : Int), .pointer (some ⟨X9, 0, none⟩), u10, u11, u12, u13, u14, u15, u16, u17, u18, u19, u20, u21, u22, u23, u24, u25, u26, u27, u28, u29, u30, u31, u32, u33, u34, u35, u36, u37, u38, u39, u40, u41, u42, u43, u44, u45, u46, u47, u48, u49, .int .i64 kd, u51, u52, u53, u54, u55, u56, u57, u58, u59, u60, u61, u62, u63, u64, u65, u66, u67, u68, u69, u70, u71, u72, u73, u74, u75, u76, u77, u78, u79, u80, u81, u82, u83, u84, u85, u86, u87, u88, u89, u90, u91, u92, u93, u94, u95, u96, u97, u98, u99, u100, u101, u102, u103, u104, u105, u106, u107, u108, u109, u110, u111, u112, u113, u114, u115, u116, u117, u118, u119, u120, u121, u122, u123, u124, u125, u126, u127, u128, u129, u130, u131, u132, u133, u134, u135, u136, u137, u138, u139, u140, u141, u142, u143, u144, u145, u146, u147, u148, u149, u150, u151, u152, u153, u154, u155, u156, u157, u158, u159, u160, u161, u162, u163, u164, u165, u166, u167, u168, u169, u170, u171, u172, u173, u174, u175, u176, u177, u178, u179, u180, u181, u182, u183, u184, u185, u186, u187, u188, u189, u190, u191, u192, u193, u194, u195, u196, u197, u198, u199, u200, u201, u202, u203, u204, u205, u206, u207, u208], []⟩ w5 := by
  have HQQ := Lib.hid hQ
  have HQ := Lib.hid q
  have HI5 := Lib.hid hi5
  have HA1 := Lib.hid ha1
  have HA2 := Lib.hid ha2
  have HB5 := Lib.hid hb5
  have HM := Lib.hid hm
  have HML := Lib.hid hml
  have HBY := Lib.hid hby
  clear hQ q hi5 ha1 ha2 hb5 hm hml hby
  conv => arg 2; whnf
  obtain ⟨ta, ca, sa, da, za⟩ := u3
  obtain ⟨tb, cb, sb, db, zb⟩ := u4
  have HV3 : Hid (∀ W, Below w5.heap.size w5 W → ContV W (.agg #[ta, ca, sa, da, .int .i64 za]) C) := Lib.hid fun W hW => (HI5.out.mono hW).p3.read HI5.out.inv.fits
  have HV4 : Hid (∀ W, Below w5.heap.size w5 W → ContV W (.agg #[tb, cb, sb, db, .int .i64 zb]) C) := Lib.hid fun W hW => (HI5.out.mono hW).p4.read HI5.out.inv.fits
  have HCL : Hid (∀ w', Below w5.heap.size w5 w' → w'.cell? ⟨X3, 0, none⟩ = some ta ∧ w'.cell? ⟨X3, 1, none⟩ = some ca ∧ w'.cell? ⟨X3, 2, none⟩ = some sa ∧ w'.cell? ⟨X3, 3, none⟩ = some da ∧ w'.cell? ⟨X3, 4, none⟩ = some (.int .i64 za) ∧ w'.cell? ⟨X4, 0, none⟩ = some tb ∧ w'.cell? ⟨X4, 1, none⟩ = some cb ∧ w'.cell? ⟨X4, 2, none⟩ = some sb ∧ w'.cell? ⟨X4, 3, none⟩ = some db ∧ w'.cell? ⟨X4, 4, none⟩ = some (.int .i64 zb)) := Lib.hid fun W hW => by
    obtain ⟨k0, k1, k2, k3, k4, _⟩ := (HI5.out.mono hW).b3.kx
    obtain ⟨q0, q1, q2, q3, q4, _⟩ := (HI5.out.mono hW).b4.kx
    exact ⟨k0, k1, k2, k3, k4, q0, q1, q2, q3, q4⟩
  have HMC : Hid (May C) := Lib.hid HI5.out.inv.1
  obtain ⟨N, hN⟩ : ∃ N, N = (serB C).length := ⟨_, rfl⟩
  have hNr : N ≤ 2162687 := by rw [hN]; exact HI5.out.inv.len
  have HNL := Lib.hid hN.symm
  have HNR : Hid (N ≤ reach) := Lib.hid (by unfold reach; omega)
  obtain ⟨sC, hsC⟩ : ∃ sC, sC = serB C := ⟨_, rfl⟩
  have HSC := Lib.hid hsC
  clear hN hNr hsC
  subst hkd
  have HDL : Hid (C.data.length ≤ 268435456) := Lib.hid (by have h1 := HMC.out.data; have h2 := HMC.out.size; omega)
  have HFC : Hid (Fits C) := Lib.hid HI5.out.inv.fits
  obtain ⟨d, hd⟩ : ∃ d, d = (lay C b).2 := ⟨_, rfl⟩
  obtain ⟨sd, hsd⟩ : ∃ sd, sd = (lay C b).2.size := ⟨_, rfl⟩
  obtain ⟨er, her⟩ : ∃ er, er = (lay C b).1 := ⟨_, rfl⟩
  have HLY : Hid (∀ W A c, Below w5.heap.size w5 W → NumsV W .u8 (.slice A m c) b → Calls Try.prog 32 #[.agg #[ta, ca, sa, da, .int .i64 za], .slice A m c] W (LyC d sd er W)) := Lib.hid fun W A c hW h =>
    (lay_any _ C A m c b W (HV3.out W hW) h HM.out.symm HDL.out (by have := HML.out; omega) HFC.out).mono fun _ _ h => lyc_of hd hsd her h
  have HRL : Hid (∀ W, Below w5.heap.size w5 W → Calls Try.prog 33 #[.agg #[tb, cb, sb, db, .int .i64 zb], .slice AB m cB] W (LyC d sd er W)) := Lib.hid fun W hW =>
    (rlay_any _ C AB m cB b W (HV4.out W hW) (HB5.out.mono hW) HM.out.symm HDL.out (by have := HML.out; omega) HFC.out).mono fun _ _ h => lyc_of hd hsd her h
  have HOW : Hid (∀ W, Below w5.heap.size w5 W → Calls Try.prog 30 #[.slice AB m cB] W (OwnPost b m W)) := Lib.hid fun W hW => own_sl _ b m W (HB5.out.mono hW) HM.out.symm
  have HCI : Hid (er = 0 → CInv d) := Lib.hid fun h => by
    rw [her] at h
    rw [hd]
    exact cinv_lay HI5.out.inv h
  have HFD : Hid (Fits d) := Lib.hid (by
    rw [hd]
    exact lay_codes HI5.out.inv)
  clear hd hsd her
  have HC9 : Hid (∀ w', Below w5.heap.size w5 w' → w'.cell? ⟨X9, 1, none⟩ = some (.slice AB m cB)) := Lib.hid fun W hW => cell_keep hW HA1.out
  have h37 : w5.cell? ⟨X9, 1, none⟩ = some (.slice AB m cB) ∧ w5.cell? ⟨X3, 0, none⟩ = some ta ∧ w5.cell? ⟨X3, 1, none⟩ = some ca ∧ w5.cell? ⟨X3, 2, none⟩ = some sa ∧ w5.cell? ⟨X3, 3, none⟩ = some da ∧ w5.cell? ⟨X3, 4, none⟩ = some (.int .i64 za) := by
    obtain ⟨p0, p1, p2, p3, p4, _⟩ := HCL.out _ (Below.refl _ _)
    exact ⟨HA1.out, p0, p1, p2, p3, p4⟩
  have H37 := Lib.hid h37
  clear h37
  go_upto_region 37 with (fail)
  refine (show Code.wp Try.prog (reg11 37) _ _ _ from r37 w5 X9 X3 m cB AB ta ca sa da za b d sd er H37.out HLY.out HOW.out _ ?_)
  intro X22 A0 n0 c0 A1 n1 c1 A2 n2 c2 A3 n3 c3 wc v146 v147 v148 v149 v150 v151 v152 v153 hst
  have HST := Lib.hid hst
  clear hst
  have ha1 := HC9.out _ HST.out.below
  obtain ⟨_, _, _, _, _, q0, q1, q2, q3, q4⟩ := HCL.out _ HST.out.below
  go_wp2_with fail
  refine (HRL.out _ HST.out.below).mono ?_
  rintro e w6 ⟨hb, B0, m0, e0, B1, m1, e1, B2, m2, e2, B3, m3, e3, rfl, hp⟩
  have hst2 := (ST.got (u := ⟨.slice B0 m0 e0, .slice B1 m1 e1, .slice B2 m2 e2, .slice B3 m3 e3, sd⟩) (ST.refl wc) hb hp).newX (t := .slice B0 m0 e0) (c := .slice B1 m1 e1) (s := .slice B2 m2 e2) (d := .slice B3 m3 e3) (z := sd) rfl
  obtain ⟨y7, hy7⟩ : ∃ y7, y7 = w6.alloc (.cells #[.slice B0 m0 e0, .slice B1 m1 e1, .slice B2 m2 e2, .slice B3 m3 e3, .int .i64 sd] 28) := ⟨_, rfl⟩
  obtain ⟨X24, hX24⟩ : ∃ X24, X24 = w6.heap.size := ⟨_, rfl⟩
  rw [← hy7, ← hX24] at hst2
  have HS2 := Lib.hid hst2
  clear hst2 hb hp ha1 q0 q1 q2 q3 q4
  have qee : (er != er) = false := by simp
  go_upto_region 39 with (fail)
  rw [← hy7, ← hX24]
  clear hy7 hX24
  obtain ⟨p0, p1, p2, p3, p4, fp⟩ := ((HST.out.x _ _ rfl).1.below HS2.out.below).kx
  obtain ⟨q0, q1, q2, q3, q4, fq⟩ := (HS2.out.x _ _ rfl).1.kx
  simp only at p0 p1 p2 p3 p4 q0 q1 q2 q3 q4
  go_wp2_with fail
  refine (same_c (c := d) (((HST.out.q _ _ rfl).belowK HS2.out.below).read HFD.out) ((HS2.out.q _ _ rfl).read HFD.out)).mono ?_
  rintro e w9 ⟨rfl, hb⟩
  have HB9 := Lib.hid hb
  clear hb p0 p1 p2 p3 p4 q0 q1 q2 q3 q4 fp fq
  by_cases hx0 : er = 0
  · have qx : (er == 0) = true := by simp [hx0]
    have HTS := Lib.hid (ts_mk HI5.out HST.out HS2.out HB9.out (HCI.out hx0))
    clear hx0
    by_cases hk100 : k < 100
    · have qk : decide ((k : Int) < (100 : Int)) = true := by simp; omega
      have qkb : decide (k < 100) = true := by simp; omega
      have hrow := HTS.out.inv.kr.row
      have hrow2 := HTS.out.inv.kw.row
      obtain ⟨AK, ck, hvk, _⟩ := own_shape hrow
      obtain ⟨AW, cw, hvw, _⟩ := own_shape hrow2
      subst hvk hvw
      obtain ⟨NN, hNN⟩ : ∃ NN, NN = us.length := ⟨_, rfl⟩
      have HUN : Hid (us.length = NN) := Lib.hid hNN.symm
      have HWN : Hid (ws.length = NN) := Lib.hid (by have h1 := HTS.out.inv.kr.len; have h2 := HTS.out.inv.kw.len; omega)
      have hle : NN ≤ 50 := by rw [hNN]; exact HTS.out.few
      clear hrow hrow2 hNN
      rw [HUN.out, HWN.out] at HTS
      rw [HUN.out, HWN.out]
      go_upto_region 42 with (fail)
      refine (show Code.wp Try.prog (reg11 42) _ _ _ from r42 w y w9 X3 X4 X22 X24 _ _ C d _ _ us ws kl A0 A1 A2 A3 B0 B1 B2 B3 n0 n1 n2 n3 c0 c1 c2 c3 m0 m1 m2 m3 e0 e1 e2 e3 sd sd HQ.out HTS.out _ ?_)
      intro wt v1 v2 hts
      have HTT := Lib.hid hts
      clear hts
      by_cases h50 : NN < 50
      · have q50 : decide ((NN : Int) < (50 : Int)) = true := by simp; omega
        have q50b : decide (NN < 50) = true := by simp; omega
        go_upto_region 44 with (fail)
        refine (show Code.wp Try.prog (reg11 44) _ _ _ from r44 w y wt X3 X4 X22 X24 _ _ d d AK AW NN ck cw us ws kl A0 A1 A2 A3 B0 B1 B2 B3 n0 n1 n2 n3 c0 c1 c2 c3 m0 m1 m2 m3 e0 e1 e2 e3 sd sd HQ.out HTT.out HUN.out HWN.out h50 _ ?_)
        intro wx vk' vw' z0 z1 z2 z3 z4 z5 z6 z7 hfin
        have HFIN := Lib.hid hfin
        clear hfin
        go_wp2_with fail
        exact HQQ.out _ _ _ _ _ _ _ _ _ _ _ _ _ _ _ _ _ _ _ _ _ _ _ _ _ _ _ _ _ _ _ _ _ _ _ _ _ _ _ _ _ _ _ _ _ _ _ _ _ _ _ _ _ _ _ _ _ _ _ _ _ _ _ _ _ _ _ _ _ _ _ _ _ _ _ _ _ _ _ _ _ _ _ _ _ _ _ _ _ _ _ _ _ _ _ _ _ _ _ _ _ _ _ _ _ _ _ _ _ _ _ _ _ _ _ _ _ _ _ _ _ _ _ _ _ _ _ _ _ _ _ _ _ _ _ _ _ _ _ _ _ _ _ _ _ _ _ _ _ _ _ _ _ _ _ _ _ ⟨_, _, _, _, _, _, HFIN.out⟩
      · have q50 : decide ((NN : Int) < (50 : Int)) = false := by simp; omega
        have q50b : decide (NN < 50) = false := by simp; omega
        go_wp2_with fail
        exact HQQ.out _ _ _ _ _ _ _ _ _ _ _ _ _ _ _ _ _ _ _ _ _ _ _ _ _ _ _ _ _ _ _ _ _ _ _ _ _ _ _ _ _ _ _ _ _ _ _ _ _ _ _ _ _ _ _ _ _ _ _ _ _ _ _ _ _ _ _ _ _ _ _ _ _ _ _ _ _ _ _ _ _ _ _ _ _ _ _ _ _ _ _ _ _ _ _ _ _ _ _ _ _ _ _ _ _ _ _ _ _ _ _ _ _ _ _ _ _ _ _ _ _ _ _ _ _ _ _ _ _ _ _ _ _ _ _ _ _ _ _ _ _ _ _ _ _ _ _ _ _ _ _ _ _ _ _ _ _ ⟨_, _, _, _, _, _, HTT.out.inv⟩
    · have qk : decide ((k : Int) < (100 : Int)) = false := by simp; omega
      have qkb : decide (k < 100) = false := by simp; omega
      go_wp2_with fail
      exact HQQ.out _ _ _ _ _ _ _ _ _ _ _ _ _ _ _ _ _ _ _ _ _ _ _ _ _ _ _ _ _ _ _ _ _ _ _ _ _ _ _ _ _ _ _ _ _ _ _ _ _ _ _ _ _ _ _ _ _ _ _ _ _ _ _ _ _ _ _ _ _ _ _ _ _ _ _ _ _ _ _ _ _ _ _ _ _ _ _ _ _ _ _ _ _ _ _ _ _ _ _ _ _ _ _ _ _ _ _ _ _ _ _ _ _ _ _ _ _ _ _ _ _ _ _ _ _ _ _ _ _ _ _ _ _ _ _ _ _ _ _ _ _ _ _ _ _ _ _ _ _ _ _ _ _ _ _ _ _ ⟨_, _, _, _, _, _, HTS.out.inv⟩
  · have qx : (er == 0) = false := by simp [hx0]
    go_wp2_with fail
    exact HQQ.out _ _ _ _ _ _ _ _ _ _ _ _ _ _ _ _ _ _ _ _ _ _ _ _ _ _ _ _ _ _ _ _ _ _ _ _ _ _ _ _ _ _ _ _ _ _ _ _ _ _ _ _ _ _ _ _ _ _ _ _ _ _ _ _ _ _ _ _ _ _ _ _ _ _ _ _ _ _ _ _ _ _ _ _ _ _ _ _ _ _ _ _ _ _ _ _ _ _ _ _ _ _ _ _ _ _ _ _ _ _ _ _ _ _ _ _ _ _ _ _ _ _ _ _ _ _ _ _ _ _ _ _ _ _ _ _ _ _ _ _ _ _ _ _ _ _ _ _ _ _ _ _ _ _ _ _ _ ⟨_, _, _, _, _, _, HI5.out.mono (below_step HST.out.below (below_step HS2.out.below HB9.out))⟩
end Go.Proofs.Ytkbboepopcebaaa
namespace Go.Proofs.Ytkbboepopcebaaa
open Go.RowKit

set_option maxRecDepth 100000 in
set_option maxHeartbeats 40000000 in
theorem swr (w y w5 : World) (X3 X4 X9 m cB k : Nat) (AB : Option Addr) (b : List Int) (op : Bool) (kd : Int) (u3 u4 : U5) (C : Cont) (vk vw : Value) (us ws : List U5) (kl : List Cont) (q : Two34 w y X3 X4) (hi5 : AInv w y w5 X3 X4 u3 u4 C vk vw us ws kl) (ha1 : w5.cell? ⟨X9, 1, none⟩ = some (.slice AB m cB)) (ha2 : w5.cell? ⟨X9, 2, none⟩ = some (.bool op)) (hb5 : NumsV w5 .u8 (.slice AB m cB) b) (hm : m = b.length) (hml : m ≤ 2097152) (hby : Byt b) (k1 : kd ≠ 1) (k5 : kd ≠ 5)
    {u0 u1 u2 u7 u10 u11 u12 u13 u14 u15 u16 u17 u18 u19 u20 u21 u22 u23 u24 u25 u26 u27 u28 u29 u30 u31 u32 u33 u34 u35 u36 u37 u38 u39 u40 u41 u42 u43 u44 u45 u46 u47 u48 u49 u51 u52 u53 u54 u55 u56 u57 u58 u59 u60 u61 u62 u63 u64 u65 u66 u67 u68 u69 u70 u71 u72 u73 u74 u75 u76 u77 u78 u79 u80 u81 u82 u83 u84 u85 u86 u87 u88 u89 u90 u91 u92 u93 u94 u95 u96 u97 u98 u99 u100 u101 u102 u103 u104 u105 u106 u107 u108 u109 u110 u111 u112 u113 u114 u115 u116 u117 u118 u119 u120 u121 u122 u123 u124 u125 u126 u127 u128 u129 u130 u131 u132 u133 u134 u135 u136 u137 u138 u139 u140 u141 u142 u143 u144 u145 u146 u147 u148 u149 u150 u151 u152 u153 u154 u155 u156 u157 u158 u159 u160 u161 u162 u163 u164 u165 u166 u167 u168 u169 u170 u171 u172 u173 u174 u175 u176 u177 u178 u179 u180 u181 u182 u183 u184 u185 u186 u187 u188 u189 u190 u191 u192 u193 u194 u195 u196 u197 u198 u199 u200 u201 u202 u203 u204 u205 u206 u207 u208 : Value} (Q : Exit → Act → World → Prop)
    (hQ : ∀ wx v5 v6 v10 v11 v12 v13 v14 v15 v16 v17 v18 v19 v20 v21 v22 v23 v24 v25 v51 v52 v53 v54 v55 v56 v57 v58 v59 v60 v61 v62 v63 v64 v65 v66 v67 v68 v69 v70 v71 v72 v73 v74 v75 v76 v77 v78 v79 v80 v81 v82 v83 v84 v85 v86 v87 v88 v89 v90 v91 v92 v93 v94 v95 v96 v97 v98 v99 v100 v101 v102 v103 v104 v105 v106 v107 v108 v109 v110 v111 v112 v113 v114 v115 v116 v117 v118 v119 v120 v121 v122 v123 v124 v125 v126 v127 v128 v129 v130 v131 v132 v133 v134 v135 v136 v137 v138 v139 v140 v141 v142 v143 v144 v145 v146 v147 v148 v149 v150 v151 v152 v153 v154 v155 v156 v157 v158 v159 v160 v161 v162 v163 v164 v165 v166 v167 v168 v169 v170 v171 v172 v173 v174 v175 v176 v177 v178 v179 v180 v181 v182 v183 v184 v185 v186 v187 v188, (∃ u3 u4 C us ws kl, AInv w y wx X3 X4 u3 u4 C v5 v6 us ws kl) → Q .normal ⟨#[u0, u1, u2, .pointer (some ⟨X3, 0, none⟩), .pointer (some ⟨X4, 0, none⟩), v5, v6, u7, .int .i64 (k : Int), .pointer (some ⟨X9, 0, none⟩), v10, v11, v12, v13, v14, v15, v16, v17, v18, v19, v20, v21, v22, v23, v24, v25, u26, u27, u28, u29, u30, u31, u32, u33, u34, u35, u36, u37, u38, u39, u40, u41, u42, u43, u44, u45, u46, u47, u48, u49, .int .i64 kd, v51, v52, v53, v54, v55, v56, v57, v58, v59, v60, v61, v62, v63, v64, v65, v66, v67, v68, v69, v70, v71, v72, v73, v74, v75, v76, v77, v78, v79, v80, v81, v82, v83, v84, v85, v86, v87, v88, v89, v90, v91, v92, v93, v94, v95, v96, v97, v98, v99, v100, v101, v102, v103, v104, v105, v106, v107, v108, v109, v110, v111, v112, v113, v114, v115, v116, v117, v118, v119, v120, v121, v122, v123, v124, v125, v126, v127, v128, v129, v130, v131, v132, v133, v134, v135, v136, v137, v138, v139, v140, v141, v142, v143, v144, v145, v146, v147, v148, v149, v150, v151, v152, v153, v154, v155, v156, v157, v158, v159, v160, v161, v162, v163, v164, v165, v166, v167, v168, v169, v170, v171, v172, v173, v174, v175, v176, v177, v178, v179, v180, v181, v182, v183, v184, v185, v186, v187, v188, u189, u190, u191, u192, u193, u194, u195, u196, u197, u198, u199, u200, u201, u202, u203, u204, u205, u206, u207, u208], []⟩ wx) :
    Code.wp Try.prog blk11 Q ⟨#[u0, u1, u2, .pointer (some ⟨X3, 0, none⟩), .pointer (some ⟨X4, 0, none⟩), vk, vw, u7, .int .i64 (k : Int), .pointer (some ⟨X9, 0, none⟩), u10, u11, u12, u13, u14, u15, u16, u17, u18, u19, u20, u21, u22, u23, u24, u25, u26, u27, u28, u29, u30, u31, u32, u33, u34, u35, u36, u37, u38, u39, u40, u41, u42, u43, u44, u45, u46, u47, u48, u49, .int .i64 kd, u51, u52, u53, u54, u55, u56, u57, u58, u59, u60, u61, u62, u63, u64, u65, u66, u67, u68, u69, u70, u71, u72, u73, u74, u75, u76, u77, u78, u79, u80, u81, u82, u83, u84, u85, u86, u87, u88, u89, u90, u91, u92, u93, u94, u95, u96, u97, u98, u99, u100, u101, u102, u103, u104, u105, u106, u107, u108, u109, u110, u111, u112, u113, u114, u115, u116, u117, u118, u119, u120, u121, u122, u123, u124, u125, u126, u127, u128, u129, u130, u131, u132, u133, u134, u135, u136, u137, u138, u139, u140, u141, u142, u143, u144, u145, u146, u147, u148, u149, u150, u151, u152, u153, u154, u155, u156, u157, u158, u159, u160, u161, u162, u163, u164, u165, u166, u167, u168, u169, u170, u171, u172, u173, u174, u175, u176, u177, u178, u179, u180, u181, u182, u183, u184, u185, u186, u187, u188, u189, u190, u191, u192, u193, u194, u195, u196, u197, u198, u199, u200, u201, u202, u203, u204, u205, u206, u207, u208], []⟩ w5 := by
  have HQQ := Lib.hid hQ
  have HQ := Lib.hid q
  have HI5 := Lib.hid hi5
  have HA1 := Lib.hid ha1
  have HA2 := Lib.hid ha2
  have HB5 := Lib.hid hb5
  have HM := Lib.hid hm
  have HML := Lib.hid hml
  have HBY := Lib.hid hby
  clear hQ q hi5 ha1 ha2 hb5 hm hml hby
  conv => arg 2; whnf
  obtain ⟨ta, ca, sa, da, za⟩ := u3
  obtain ⟨tb, cb, sb, db, zb⟩ := u4
  have HV3 : Hid (∀ W, Below w5.heap.size w5 W → ContV W (.agg #[ta, ca, sa, da, .int .i64 za]) C) := Lib.hid fun W hW => (HI5.out.mono hW).p3.read HI5.out.inv.fits
  have HV4 : Hid (∀ W, Below w5.heap.size w5 W → ContV W (.agg #[tb, cb, sb, db, .int .i64 zb]) C) := Lib.hid fun W hW => (HI5.out.mono hW).p4.read HI5.out.inv.fits
  have HCL : Hid (∀ w', Below w5.heap.size w5 w' → w'.cell? ⟨X3, 0, none⟩ = some ta ∧ w'.cell? ⟨X3, 1, none⟩ = some ca ∧ w'.cell? ⟨X3, 2, none⟩ = some sa ∧ w'.cell? ⟨X3, 3, none⟩ = some da ∧ w'.cell? ⟨X3, 4, none⟩ = some (.int .i64 za) ∧ w'.cell? ⟨X4, 0, none⟩ = some tb ∧ w'.cell? ⟨X4, 1, none⟩ = some cb ∧ w'.cell? ⟨X4, 2, none⟩ = some sb ∧ w'.cell? ⟨X4, 3, none⟩ = some db ∧ w'.cell? ⟨X4, 4, none⟩ = some (.int .i64 zb)) := Lib.hid fun W hW => by
    obtain ⟨k0, k1, k2, k3, k4, _⟩ := (HI5.out.mono hW).b3.kx
    obtain ⟨q0, q1, q2, q3, q4, _⟩ := (HI5.out.mono hW).b4.kx
    exact ⟨k0, k1, k2, k3, k4, q0, q1, q2, q3, q4⟩
  have HMC : Hid (May C) := Lib.hid HI5.out.inv.1
  obtain ⟨N, hN⟩ : ∃ N, N = (serB C).length := ⟨_, rfl⟩
  have hNr : N ≤ 2162687 := by rw [hN]; exact HI5.out.inv.len
  have HNL := Lib.hid hN.symm
  have HNR : Hid (N ≤ reach) := Lib.hid (by unfold reach; omega)
  obtain ⟨sC, hsC⟩ : ∃ sC, sC = serB C := ⟨_, rfl⟩
  have HSC := Lib.hid hsC
  clear hN hNr hsC
  have k1b : (kd == 1) = false := by simp [k1]
  by_cases k2 : kd = 2
  · subst k2
    obtain ⟨p0, p1, p2, p3, p4, q0, q1, q2, q3, q4⟩ := HCL.out _ (Below.refl _ _)
    go_upto_region 24 with (fail)
    go_region_held3 (fun w' => w'.cell? ⟨X3, 0, none⟩ = some ta ∧ w'.cell? ⟨X3, 1, none⟩ = some ca ∧ w'.cell? ⟨X3, 2, none⟩ = some sa ∧ w'.cell? ⟨X3, 3, none⟩ = some da ∧ w'.cell? ⟨X3, 4, none⟩ = some (.int .i64 za) ∧ w'.cell? ⟨X4, 0, none⟩ = some tb ∧ w'.cell? ⟨X4, 1, none⟩ = some cb ∧ w'.cell? ⟨X4, 2, none⟩ = some sb ∧ w'.cell? ⟨X4, 3, none⟩ = some db ∧ w'.cell? ⟨X4, 4, none⟩ = some (.int .i64 zb))
      (first | exact HCL.out _ (by with_reducible first | exact HBb.out | exact below_step HBb.out (Below.refl _ _).drew | exact HBa.out | exact below_step HBa.out (Below.refl _ _).drew | exact (Below.refl _ _) | exact (Below.refl _ _).drew))
      ((first
        | (go_at_call 18; (with_reducible refine (check_c _ C _ (HV3.out _ (by with_reducible first | exact (Below.refl _ _) | exact (Below.refl _ _).drew)) HMC.out).mono ?_); rintro e wa ⟨rfl, hb⟩; have HBa : Hid (Below w5.heap.size w5 wa) := Lib.hid (below_step (by with_reducible first | exact (Below.refl _ _) | exact (Below.refl _ _).drew) hb); clear hb)
        | (go_at_call 19; (with_reducible refine (rcheck_c _ C _ (HV4.out _ (by with_reducible first | exact below_step HBa.out (Below.refl _ _) | exact below_step HBa.out (Below.refl _ _).drew)) HMC.out).mono ?_); rintro e wb ⟨rfl, hb⟩; have HBb : Hid (Below w5.heap.size w5 wb) := Lib.hid (below_step (by with_reducible first | exact below_step HBa.out (Below.refl _ _) | exact below_step HBa.out (Below.refl _ _).drew) hb); clear hb)))
    go_wp2_with fail
    exact HQQ.out _ _ _ _ _ _ _ _ _ _ _ _ _ _ _ _ _ _ _ _ _ _ _ _ _ _ _ _ _ _ _ _ _ _ _ _ _ _ _ _ _ _ _ _ _ _ _ _ _ _ _ _ _ _ _ _ _ _ _ _ _ _ _ _ _ _ _ _ _ _ _ _ _ _ _ _ _ _ _ _ _ _ _ _ _ _ _ _ _ _ _ _ _ _ _ _ _ _ _ _ _ _ _ _ _ _ _ _ _ _ _ _ _ _ _ _ _ _ _ _ _ _ _ _ _ _ _ _ _ _ _ _ _ _ _ _ _ _ _ _ _ _ _ _ _ _ _ _ _ _ _ _ _ _ _ _ _ ⟨_, _, _, _, _, _, HI5.out.mono HBb.out⟩
  have k2b : (kd == 2) = false := by simp [k2]
  by_cases k3 : kd = 3
  · subst k3
    obtain ⟨p0, p1, p2, p3, p4, q0, q1, q2, q3, q4⟩ := HCL.out _ (Below.refl _ _)
    go_wp2_with fail
    refine (ser_c _ C N _ (HV3.out _ (Below.refl _ _)) HMC.out HNL.out HNR.out).mono ?_
    rw [← HSC.out]
    rintro e wa ⟨A5, c5, rfl, hn5, hb⟩
    have HBa := Lib.hid hb
    have HN5 := Lib.hid hn5
    clear hb hn5 p0 p1 p2 p3 p4 q0 q1 q2 q3 q4
    obtain ⟨p0, p1, p2, p3, p4, q0, q1, q2, q3, q4⟩ := HCL.out _ HBa.out
    go_wp2_with fail
    refine (rser_c _ C N _ (HV4.out _ HBa.out) HMC.out HNL.out HNR.out).mono ?_
    rw [← HSC.out]
    rintro e wb ⟨A6, c6, rfl, hn6, hb⟩
    have HBb := Lib.hid (below_step HBa.out hb)
    have HN5b := Lib.hid (HN5.out.mono hb)
    have HN6 := Lib.hid hn6
    clear hb hn6 p0 p1 p2 p3 p4 q0 q1 q2 q3 q4
    go_wp2_with fail
    refine (sb_c _ _ _ _ N sC _ HN5b.out HN6.out).mono ?_
    rintro e wc ⟨rfl, hb⟩
    have HBc := Lib.hid (below_step HBb.out hb)
    clear hb
    go_wp2_with fail
    exact HQQ.out _ _ _ _ _ _ _ _ _ _ _ _ _ _ _ _ _ _ _ _ _ _ _ _ _ _ _ _ _ _ _ _ _ _ _ _ _ _ _ _ _ _ _ _ _ _ _ _ _ _ _ _ _ _ _ _ _ _ _ _ _ _ _ _ _ _ _ _ _ _ _ _ _ _ _ _ _ _ _ _ _ _ _ _ _ _ _ _ _ _ _ _ _ _ _ _ _ _ _ _ _ _ _ _ _ _ _ _ _ _ _ _ _ _ _ _ _ _ _ _ _ _ _ _ _ _ _ _ _ _ _ _ _ _ _ _ _ _ _ _ _ _ _ _ _ _ _ _ _ _ _ _ _ _ _ _ _ ⟨_, _, _, _, _, _, HI5.out.mono HBc.out⟩
  have k3b : (kd == 3) = false := by simp [k3]
  by_cases k4 : kd = 4
  · subst k4
    obtain ⟨p0, p1, p2, p3, p4, q0, q1, q2, q3, q4⟩ := HCL.out _ (Below.refl _ _)
    go_wp2_with fail
    refine (size_c _ C N _ (HV3.out _ (Below.refl _ _)) HMC.out HNL.out).mono ?_
    rintro e wa ⟨rfl, hb⟩
    have HBa := Lib.hid hb
    clear hb p0 p1 p2 p3 p4 q0 q1 q2 q3 q4
    obtain ⟨p0, p1, p2, p3, p4, q0, q1, q2, q3, q4⟩ := HCL.out _ HBa.out
    go_wp2_with fail
    refine (rsize_c _ C N _ (HV4.out _ HBa.out) HMC.out HNL.out).mono ?_
    rintro e wb ⟨rfl, hb⟩
    have HBb := Lib.hid (below_step HBa.out hb)
    clear hb p0 p1 p2 p3 p4 q0 q1 q2 q3 q4
    go_wp2_with fail
    exact HQQ.out _ _ _ _ _ _ _ _ _ _ _ _ _ _ _ _ _ _ _ _ _ _ _ _ _ _ _ _ _ _ _ _ _ _ _ _ _ _ _ _ _ _ _ _ _ _ _ _ _ _ _ _ _ _ _ _ _ _ _ _ _ _ _ _ _ _ _ _ _ _ _ _ _ _ _ _ _ _ _ _ _ _ _ _ _ _ _ _ _ _ _ _ _ _ _ _ _ _ _ _ _ _ _ _ _ _ _ _ _ _ _ _ _ _ _ _ _ _ _ _ _ _ _ _ _ _ _ _ _ _ _ _ _ _ _ _ _ _ _ _ _ _ _ _ _ _ _ _ _ _ _ _ _ _ _ _ _ ⟨_, _, _, _, _, _, HI5.out.mono HBb.out⟩
  have k4b : (kd == 4) = false := by simp [k4]
  have k5b : (kd == 5) = false := by simp [k5]
  go_wp2_with fail
  exact HQQ.out _ _ _ _ _ _ _ _ _ _ _ _ _ _ _ _ _ _ _ _ _ _ _ _ _ _ _ _ _ _ _ _ _ _ _ _ _ _ _ _ _ _ _ _ _ _ _ _ _ _ _ _ _ _ _ _ _ _ _ _ _ _ _ _ _ _ _ _ _ _ _ _ _ _ _ _ _ _ _ _ _ _ _ _ _ _ _ _ _ _ _ _ _ _ _ _ _ _ _ _ _ _ _ _ _ _ _ _ _ _ _ _ _ _ _ _ _ _ _ _ _ _ _ _ _ _ _ _ _ _ _ _ _ _ _ _ _ _ _ _ _ _ _ _ _ _ _ _ _ _ _ _ _ _ _ _ _ ⟨_, _, _, _, _, _, HI5.out⟩
set_option maxRecDepth 100000 in
set_option maxHeartbeats 40000000 in
theorem sw (w y w5 : World) (X3 X4 X9 m cB k : Nat) (AB : Option Addr) (b : List Int) (op : Bool) (kd : Int) (u3 u4 : U5) (C : Cont) (vk vw : Value) (us ws : List U5) (kl : List Cont) (q : Two34 w y X3 X4) (hi5 : AInv w y w5 X3 X4 u3 u4 C vk vw us ws kl) (ha1 : w5.cell? ⟨X9, 1, none⟩ = some (.slice AB m cB)) (ha2 : w5.cell? ⟨X9, 2, none⟩ = some (.bool op)) (hb5 : NumsV w5 .u8 (.slice AB m cB) b) (hm : m = b.length) (hml : m ≤ 2097152) (hby : Byt b)
    {u0 u1 u2 u7 u10 u11 u12 u13 u14 u15 u16 u17 u18 u19 u20 u21 u22 u23 u24 u25 u26 u27 u28 u29 u30 u31 u32 u33 u34 u35 u36 u37 u38 u39 u40 u41 u42 u43 u44 u45 u46 u47 u48 u49 u51 u52 u53 u54 u55 u56 u57 u58 u59 u60 u61 u62 u63 u64 u65 u66 u67 u68 u69 u70 u71 u72 u73 u74 u75 u76 u77 u78 u79 u80 u81 u82 u83 u84 u85 u86 u87 u88 u89 u90 u91 u92 u93 u94 u95 u96 u97 u98 u99 u100 u101 u102 u103 u104 u105 u106 u107 u108 u109 u110 u111 u112 u113 u114 u115 u116 u117 u118 u119 u120 u121 u122 u123 u124 u125 u126 u127 u128 u129 u130 u131 u132 u133 u134 u135 u136 u137 u138 u139 u140 u141 u142 u143 u144 u145 u146 u147 u148 u149 u150 u151 u152 u153 u154 u155 u156 u157 u158 u159 u160 u161 u162 u163 u164 u165 u166 u167 u168 u169 u170 u171 u172 u173 u174 u175 u176 u177 u178 u179 u180 u181 u182 u183 u184 u185 u186 u187 u188 u189 u190 u191 u192 u193 u194 u195 u196 u197 u198 u199 u200 u201 u202 u203 u204 u205 u206 u207 u208 : Value} (Q : Exit → Act → World → Prop)
    (hQ : ∀ wx v5 v6 v10 v11 v12 v13 v14 v15 v16 v17 v18 v19 v20 v21 v22 v23 v24 v25 v51 v52 v53 v54 v55 v56 v57 v58 v59 v60 v61 v62 v63 v64 v65 v66 v67 v68 v69 v70 v71 v72 v73 v74 v75 v76 v77 v78 v79 v80 v81 v82 v83 v84 v85 v86 v87 v88 v89 v90 v91 v92 v93 v94 v95 v96 v97 v98 v99 v100 v101 v102 v103 v104 v105 v106 v107 v108 v109 v110 v111 v112 v113 v114 v115 v116 v117 v118 v119 v120 v121 v122 v123 v124 v125 v126 v127 v128 v129 v130 v131 v132 v133 v134 v135 v136 v137 v138 v139 v140 v141 v142 v143 v144 v145 v146 v147 v148 v149 v150 v151 v152 v153 v154 v155 v156 v157 v158 v159 v160 v161 v162 v163 v164 v165 v166 v167 v168 v169 v170 v171 v172 v173 v174 v175 v176 v177 v178 v179 v180 v181 v182 v183 v184 v185 v186 v187 v188, (∃ u3 u4 C us ws kl, AInv w y wx X3 X4 u3 u4 C v5 v6 us ws kl) → Q .normal ⟨#[u0, u1, u2, .pointer (some ⟨X3, 0, none⟩), .pointer (some ⟨X4, 0, none⟩), v5, v6, u7, .int .i64 (k : Int), .pointer (some ⟨X9, 0, none⟩), v10, v11, v12, v13, v14, v15, v16, v17, v18, v19, v20, v21, v22, v23, v24, v25, u26, u27, u28, u29, u30, u31, u32, u33, u34, u35, u36, u37, u38, u39, u40, u41, u42, u43, u44, u45, u46, u47, u48, u49, .int .i64 kd, v51, v52, v53, v54, v55, v56, v57, v58, v59, v60, v61, v62, v63, v64, v65, v66, v67, v68, v69, v70, v71, v72, v73, v74, v75, v76, v77, v78, v79, v80, v81, v82, v83, v84, v85, v86, v87, v88, v89, v90, v91, v92, v93, v94, v95, v96, v97, v98, v99, v100, v101, v102, v103, v104, v105, v106, v107, v108, v109, v110, v111, v112, v113, v114, v115, v116, v117, v118, v119, v120, v121, v122, v123, v124, v125, v126, v127, v128, v129, v130, v131, v132, v133, v134, v135, v136, v137, v138, v139, v140, v141, v142, v143, v144, v145, v146, v147, v148, v149, v150, v151, v152, v153, v154, v155, v156, v157, v158, v159, v160, v161, v162, v163, v164, v165, v166, v167, v168, v169, v170, v171, v172, v173, v174, v175, v176, v177, v178, v179, v180, v181, v182, v183, v184, v185, v186, v187, v188, u189, u190, u191, u192, u193, u194, u195, u196, u197, u198, u199, u200, u201, u202, u203, u204, u205, u206, u207, u208], []⟩ wx) :
    Code.wp Try.prog blk11 Q ⟨#[u0, u1, u2, .pointer (some ⟨X3, 0, none⟩), .pointer (some ⟨X4, 0, none⟩), vk, vw, u7, .int .i64 (k : Int), .pointer (some ⟨X9, 0, none⟩), u10, u11, u12, u13, u14, u15, u16, u17, u18, u19, u20, u21, u22, u23, u24, u25, u26, u27, u28, u29, u30, u31, u32, u33, u34, u35, u36, u37, u38, u39, u40, u41, u42, u43, u44, u45, u46, u47, u48, u49, .int .i64 kd, u51, u52, u53, u54, u55, u56, u57, u58, u59, u60, u61, u62, u63, u64, u65, u66, u67, u68, u69, u70, u71, u72, u73, u74, u75, u76, u77, u78, u79, u80, u81, u82, u83, u84, u85, u86, u87, u88, u89, u90, u91, u92, u93, u94, u95, u96, u97, u98, u99, u100, u101, u102, u103, u104, u105, u106, u107, u108, u109, u110, u111, u112, u113, u114, u115, u116, u117, u118, u119, u120, u121, u122, u123, u124, u125, u126, u127, u128, u129, u130, u131, u132, u133, u134, u135, u136, u137, u138, u139, u140, u141, u142, u143, u144, u145, u146, u147, u148, u149, u150, u151, u152, u153, u154, u155, u156, u157, u158, u159, u160, u161, u162, u163, u164, u165, u166, u167, u168, u169, u170, u171, u172, u173, u174, u175, u176, u177, u178, u179, u180, u181, u182, u183, u184, u185, u186, u187, u188, u189, u190, u191, u192, u193, u194, u195, u196, u197, u198, u199, u200, u201, u202, u203, u204, u205, u206, u207, u208], []⟩ w5 := by
  by_cases k1 : kd = 1
  · exact sw1 w y w5 X3 X4 X9 m cB k AB b op kd u3 u4 C vk vw us ws kl q hi5 ha1 ha2 hb5 hm hml hby k1 Q hQ
  by_cases k5 : kd = 5
  · exact sw5 w y w5 X3 X4 X9 m cB k AB b op kd u3 u4 C vk vw us ws kl q hi5 ha1 ha2 hb5 hm hml hby k5 Q hQ
  exact swr w y w5 X3 X4 X9 m cB k AB b op kd u3 u4 C vk vw us ws kl q hi5 ha1 ha2 hb5 hm hml hby k1 k5 Q hQ
end Go.Proofs.Ytkbboepopcebaaa
namespace Go.Proofs.Ytkbboepopcebaaa
open Go.RowKit

set_option maxRecDepth 100000 in
set_option maxHeartbeats 40000000 in
theorem all_any (A : Option Addr) (n cp : Nat) (acts : List ActP) (w : World) (h : ActsV w (.slice A n cp) acts) (hy : ∀ a ∈ acts, Byt a.b ∧ I64 a.kind) (hn : acts.length = n) : Calls Try.prog 11 #[.slice A n cp] w (TruePost w) := by
  have HA := Lib.hid h
  have HY := Lib.hid hy
  have HN := Lib.hid hn
  have hnr : n ≤ 140737488351232 := by obtain ⟨_, _, e, h1, _⟩ := h; unfold reach at h1; omega
  clear h hy hn
  have HABLE := Lib.hid (able_any w)
  go_enter Try.func11, Try.ntmps11
  go_wp2_with fail
  refine HABLE.out.mono ?_
  rintro e w1 ⟨rfl, hb⟩
  have HS1 := Lib.hid hb
  clear hb HABLE
  go_wp2_with fail
  refine (least_own _).mono ?_
  rintro e w2 ⟨⟨A30, A31, rfl, hp3⟩, hb⟩
  have HS2 := Lib.hid hb
  have HP3 := Lib.hid hp3
  clear hb hp3
  go_wp2_with fail
  refine (least_own _).mono ?_
  rintro e w3 ⟨⟨A40, A41, rfl, hp4⟩, hb⟩
  have HS3 := Lib.hid hb
  have h3 := hbx_new w3 (.slice A30 1 1) (.slice A31 1 1) (.slice none 0 0) (.slice none 0 0) (.int .i64 0)
  have z3 : (w3.alloc (.cells #[.slice A30 1 1, .slice A31 1 1, .slice none 0 0, .slice none 0 0, .int .i64 0] 28)).heap.size = w3.heap.size + 1 := by simp
  have b3 := below_alloc w3 (.cells #[.slice A30 1 1, .slice A31 1 1, .slice none 0 0, .slice none 0 0, .int .i64 0] 28)
  have p3 := (HP3.out.belowK hb).belowK b3
  have p4 := hp4.belowK b3
  obtain ⟨w4, hw4⟩ : ∃ w4, w4 = w3.alloc (.cells #[.slice A30 1 1, .slice A31 1 1, .slice none 0 0, .slice none 0 0, .int .i64 0] 28) := ⟨_, rfl⟩
  rw [← hw4] at h3 z3 b3 p3 p4
  have h4 := hbx_new w4 (.slice A40 1 1) (.slice A41 1 1) (.slice none 0 0) (.slice none 0 0) (.int .i64 0)
  have b4 := below_alloc w4 (.cells #[.slice A40 1 1, .slice A41 1 1, .slice none 0 0, .slice none 0 0, .int .i64 0] 28)
  have p3' := (p3.belowK b4).baseK (B' := w.heap.size) (by have := HS1.out.size; omega)
  have p4' := (p4.belowK b4).baseK (B' := w.heap.size) (by have := HS1.out.size; have := HS2.out.size; omega)
  have z4 : (w4.alloc (.cells #[.slice A40 1 1, .slice A41 1 1, .slice none 0 0, .slice none 0 0, .int .i64 0] 28)).heap.size = w4.heap.size + 1 := by simp
  obtain ⟨y, hyy⟩ : ∃ y, y = w4.alloc (.cells #[.slice A40 1 1, .slice A41 1 1, .slice none 0 0, .slice none 0 0, .int .i64 0] 28) := ⟨_, rfl⟩
  rw [← hyy] at h4 b4 p3' p4' z4
  obtain ⟨X3, hX3⟩ : ∃ X3, X3 = w3.heap.size := ⟨_, rfl⟩
  obtain ⟨X4, hX4⟩ : ∃ X4, X4 = X3 + 1 := ⟨_, rfl⟩
  rw [← hX3] at h3
  rw [z3, ← hX3, ← hX4] at h4
  have HQ : Hid (Two34 w y X3 X4) := Lib.hid ⟨by omega, by omega, by omega, by have := HS1.out.size; have := HS2.out.size; have := HS3.out.size; omega, by have := HS1.out.size; have := HS2.out.size; have := HS3.out.size; omega⟩
  have HI0 : Hid (AInv w y y X3 X4 ⟨.slice A30 1 1, .slice A31 1 1, .slice none 0 0, .slice none 0 0, 0⟩ ⟨.slice A40 1 1, .slice A41 1 1, .slice none 0 0, .slice none 0 0, 0⟩ leastC (.slice none 0 0) (.slice none 0 0) [] [] []) := Lib.hid
    ⟨h3.below b4, h4, p3', p4', cinv_least, KRow.nil _ _ _, KRow.nil _ _ _, fun X e => by simp [Value.ownBlock] at e, by simp, fun j h => by simp at h, below_step HS1.out (below_step HS2.out (below_step HS3.out (below_step b3 b4))), Nat.le_refl _⟩
  clear hb hp4 h3 z3 b3 p3 p4 h4 b4 p3' p4' z4
  go_upto_region 4 with (fail)
  rw [← hw4, ← hyy, ← hX3, ← hX4]
  clear hw4 hyy hX3 hX4
  go_wp2
  go_loopw [5, 6, 7, 8] (fun vk vw vr vi wr => ∃ (k : Nat) (R : Int), k ≤ n ∧ vi = .int .i64 k ∧ vr = .int .i64 R ∧ 0 ≤ R ∧ R ≤ 2097152 ∧ ∃ u3 u4 C us ws kl, AInv w y wr X3 X4 u3 u4 C vk vw us ws kl) (fun _ _ _ vi _ => n - (intOf vi).toNat)
  case atStart => exact ⟨0, 2097152, Nat.zero_le _, rfl, rfl, by omega, by omega, _, _, _, _, _, _, HI0.out⟩
  case round =>
    obtain ⟨k, R, hk, rfl, rfl, hR0, hR1, u3, u4, C, us, ws, kl, hi⟩ := hrel
    have HI := Lib.hid hi
    clear hi
    by_cases hlt : k < n
    · obtain ⟨A', c', e0, _, hcells⟩ := HA.out
      injection e0 with e1 e2 e3
      subst e1
      obtain ⟨b1, o1, vB, hA, j1, j2, hB, j3⟩ := hcells k (by have := HN.out; omega)
      have hby := HY.out acts[k] (List.getElem_mem _)
      obtain ⟨kd, hkd⟩ : ∃ kd, kd = (acts[k]'(by have := HN.out; omega)).kind := ⟨_, rfl⟩
      obtain ⟨b, hbb⟩ : ∃ b, b = (acts[k]'(by have := HN.out; omega)).b := ⟨_, rfl⟩
      obtain ⟨op, hop⟩ : ∃ op, op = (acts[k]'(by have := HN.out; omega)).op := ⟨_, rfl⟩
      rw [← hkd] at j1
      rw [← hbb] at hB
      rw [← hop] at j3
      rw [← hbb] at hby
      obtain ⟨AB, cB, rfl, hB1, hB2, hB3⟩ := hB
      obtain ⟨m, hm⟩ : ∃ m, m = b.length := ⟨_, rfl⟩
      rw [← hm] at j2
      have HB : Hid (NumsV w .u8 (.slice AB m cB) b) := Lib.hid ⟨AB, cB, by rw [hm], hB1, hB2, hB3⟩
      have HM := Lib.hid hm
      have HBY := Lib.hid hby.1
      have hmr : m ≤ 140737488351232 := by rw [hm]; have := hB3.1; unfold reach at this; omega
      have i1 := cell_keep HI.out.below j1
      have i2 := cell_keep HI.out.below j2
      have i3 := cell_keep HI.out.below j3
      subst hA
      clear hkd hbb hop hm hB1 hB2 hB3 hcells j1 j2 j3 e2 e3 hby
      have hw1 : IntKind.i64.wrap (R - 1) = R - 1 := IntWalk.i64_in _ (by omega)
      have hw2 : IntKind.i64.wrap (R - 1 - (m : Int)) = R - 1 - (m : Int) := IntWalk.i64_in _ (by omega)
      by_cases hroom : R - 1 - (m : Int) < 0
      · go_wp2
        go_ret
        exact ⟨rfl, below_step HI.out.below (below_alloc _ _)⟩
      · obtain ⟨R', hR'⟩ : ∃ R', R' = R - 1 - (m : Int) := ⟨_, rfl⟩
        have hr0 : 0 ≤ R' := by omega
        have HR : Hid (0 ≤ R' ∧ R' ≤ 2097152) := Lib.hid ⟨hr0, by omega⟩
        have HML : Hid (m ≤ 2097152) := Lib.hid (by omega)
        have hmc : m ≤ cB := by obtain ⟨_, _, e, h1, _⟩ := HB.out; injection e with e1 e2 e3; have := HM.out; omega
        have HMC := Lib.hid hmc
        have hroom0 : 0 ≤ R - 1 - (m : Int) := by omega
        clear hroom hmc
        go_upto_region 13 with (fail)
        rw [← hR']
        clear hR'
        have a0 := box1_at wr #[.int .i64 kd, .slice AB m cB, .bool op] 58 0 _ rfl
        have a1 := box1_at wr #[.int .i64 kd, .slice AB m cB, .bool op] 58 1 _ rfl
        have a2 := box1_at wr #[.int .i64 kd, .slice AB m cB, .bool op] 58 2 _ rfl
        have hb5 := below_alloc wr (.cells #[.int .i64 kd, .slice AB m cB, .bool op] 58)
        obtain ⟨w5, hw5⟩ : ∃ w5, w5 = wr.alloc (.cells #[.int .i64 kd, .slice AB m cB, .bool op] 58) := ⟨_, rfl⟩
        obtain ⟨X9, hX9⟩ : ∃ X9, X9 = wr.heap.size := ⟨_, rfl⟩
        rw [← hw5] at a0 a1 a2 hb5 ⊢
        rw [← hX9] at a0 a1 a2 ⊢
        have HI5 := Lib.hid (HI.out.mono hb5)
        have HA1 := Lib.hid a1
        have HA2 := Lib.hid a2
        have HB5 : Hid (NumsV w5 .u8 (.slice AB m cB) b) := Lib.hid (HB.out.mono HI5.out.below)
        clear hw5 hX9 hb5 i1 i2 i3 hw1 hw2 hR0 hR1
        clear hroom0 hr0
        go_upto_block 2 with (fail)
        clear a0 a1 a2
        go_cut [5, 6] (fun v5 v6 wx => ∃ u3 u4 C us ws kl, AInv w y wx X3 X4 u3 u4 C v5 v6 us ws kl)
        case first =>
          rename_i J K2 hJ hM
          refine (show Code.wp Try.prog blk11 _ _ _ from sw w y w5 X3 X4 X9 m cB k AB b op kd u3 u4 C _ _ us ws kl HQ.out HI5.out HA1.out HA2.out HB5.out HM.out HML.out HBY.out _ ?_)
          intro wx v5 v6 v10 v11 v12 v13 v14 v15 v16 v17 v18 v19 v20 v21 v22 v23 v24 v25 v51 v52 v53 v54 v55 v56 v57 v58 v59 v60 v61 v62 v63 v64 v65 v66 v67 v68 v69 v70 v71 v72 v73 v74 v75 v76 v77 v78 v79 v80 v81 v82 v83 v84 v85 v86 v87 v88 v89 v90 v91 v92 v93 v94 v95 v96 v97 v98 v99 v100 v101 v102 v103 v104 v105 v106 v107 v108 v109 v110 v111 v112 v113 v114 v115 v116 v117 v118 v119 v120 v121 v122 v123 v124 v125 v126 v127 v128 v129 v130 v131 v132 v133 v134 v135 v136 v137 v138 v139 v140 v141 v142 v143 v144 v145 v146 v147 v148 v149 v150 v151 v152 v153 v154 v155 v156 v157 v158 v159 v160 v161 v162 v163 v164 v165 v166 v167 v168 v169 v170 v171 v172 v173 v174 v175 v176 v177 v178 v179 v180 v181 v182 v183 v184 v185 v186 v187 v188 hh
          show K2 _ _
          refine hM _ _ ?_
          go_meet
          exact hh
        case rest =>
          obtain ⟨u3', u4', C', us', ws', kl', hi⟩ := hcut
          have HJ := Lib.hid hi
          clear hi
          obtain ⟨p0, p1, p2, p3, p4, fp⟩ := HJ.out.b3.kx
          obtain ⟨q0, q1, q2, q3, q4, fq⟩ := HJ.out.b4.kx
          go_wp2_with fail
          refine (same_c (c := C') (HJ.out.p3.read HJ.out.inv.fits) (HJ.out.p4.read HJ.out.inv.fits)).mono ?_
          rintro e w8 ⟨rfl, hb⟩
          have HI8 := Lib.hid (HJ.out.mono hb)
          clear hb p0 p1 p2 p3 p4 fp q0 q1 q2 q3 q4 fq
          go_wp2
          go_roundw
          case rel => exact ⟨k + 1, R', by omega, by go_num, rfl, HR.out.1, HR.out.2, _, _, _, _, _, _, HI8.out⟩
          case measure => simp [intOf]; omega
    · obtain rfl : n = k := by omega
      clear hlt
      have hfew := HI.out.few
      have HLK : Hid (us.length = kl.length) := Lib.hid HI.out.kr.len
      have HLW : Hid (ws.length = kl.length) := Lib.hid HI.out.kw.len
      obtain ⟨AK, ck, hvk, _⟩ := own_shape HI.out.kr.row
      obtain ⟨AW, cw, hvw, _⟩ := own_shape HI.out.kw.row
      subst hvk hvw
      obtain ⟨N, hN⟩ : ∃ N, N = kl.length := ⟨_, rfl⟩
      rw [HLK.out, HLW.out, ← hN]
      have HNN := Lib.hid hN
      have HN50 : Hid (N ≤ 50) := Lib.hid (by rw [hN]; exact hfew)
      have hn50 := HN50.out
      clear hfew hN
      go_wp2
      obtain ⟨w7, rfl⟩ : ∃ w7, w7 = wr := ⟨_, rfl⟩
      go_loopw [26] (fun vi wx => ∃ j : Nat, j ≤ N ∧ vi = .int .i64 j ∧ Below w7.heap.size w7 wx) (fun vi _ => N - (intOf vi).toNat)
      case atStart => exact ⟨0, Nat.zero_le _, rfl, Below.refl _ _⟩
      case round =>
        obtain ⟨j, hj, rfl, hb⟩ := hrel
        have HBr := Lib.hid hb
        have hi2 := HI.out.mono hb
        have HJ := Lib.hid hi2
        clear hb
        by_cases hlt : j < N
        · rcases HJ.out.kr.row.2 with ⟨e, e2⟩ | ⟨gk, cap, cur, e, _⟩
          · exact absurd e2 (by have := HLK.out; have := HNN.out; omega)
          rcases HJ.out.kw.row.2 with ⟨e', e2⟩ | ⟨gw, cap', cur', e', _⟩
          · exact absurd e2 (by have := HLW.out; have := HNN.out; omega)
          rw [HLK.out, ← HNN.out] at e
          rw [HLW.out, ← HNN.out] at e'
          injection e with ea _ ec
          injection e' with ea' _ ec'
          subst ea ea' ec ec'
          have hju : j < us.length := by rw [HLK.out, ← HNN.out]; exact hlt
          have hjw : j < ws.length := by rw [HLW.out, ← HNN.out]; exact hlt
          have hjk : j < kl.length := by rw [← HNN.out]; exact hlt
          obtain ⟨ca0, ca1, ca2, ca3, ca4⟩ := cellsU_at us j hju
          obtain ⟨cb0, cb1, cb2, cb3, cb4⟩ := cellsU_at ws j hjw
          have hpk := HJ.out.kr.each j hju hjk
          have hpw := HJ.out.kw.each j hjw hjk
          have hfc := HJ.out.kfit j hjk
          obtain ⟨uk, huk⟩ : ∃ uk, uk = us[j] := ⟨_, rfl⟩
          obtain ⟨uw, huw⟩ : ∃ uw, uw = ws[j] := ⟨_, rfl⟩
          obtain ⟨cj, hcj⟩ : ∃ cj, cj = kl[j] := ⟨_, rfl⟩
          rw [← huk] at ca0 ca1 ca2 ca3 ca4 hpk
          rw [← huw] at cb0 cb1 cb2 cb3 cb4 hpw
          rw [← hcj] at hpk hpw hfc
          have rk := HJ.out.kr.row
          have rw_ := HJ.out.kw.row
          have s0 := rk.cells (g := gk) rfl _ _ ca0
          have s1 := rk.cells (g := gk) rfl _ _ ca1
          have s2 := rk.cells (g := gk) rfl _ _ ca2
          have s3 := rk.cells (g := gk) rfl _ _ ca3
          have s4 := rk.cells (g := gk) rfl _ _ ca4
          have r0 := rw_.cells (g := gw) rfl _ _ cb0
          have r1 := rw_.cells (g := gw) rfl _ _ cb1
          have r2 := rw_.cells (g := gw) rfl _ _ cb2
          have r3 := rw_.cells (g := gw) rfl _ _ cb3
          have r4 := rw_.cells (g := gw) rfl _ _ cb4
          simp only [Addr.add_lit, Nat.zero_add] at s0 s1 s2 s3 s4 r0 r1 r2 r3 r4
          have HPK := Lib.hid hpk
          have HPW := Lib.hid hpw
          have HFC := Lib.hid hfc
          have hji : (j : Int) < (N : Int) := by omega
          clear ca0 ca1 ca2 ca3 ca4 cb0 cb1 cb2 cb3 cb4 rk rw_ hpk hpw hfc huk huw hcj hi2
          obtain ⟨kt, kc, ks, kd, kz⟩ := uk
          obtain ⟨wt, wcc, ws', wd, wz⟩ := uw
          simp only at s0 s1 s2 s3 s4 r0 r1 r2 r3 r4
          have HSM : Hid (∀ W, Below wr.heap.size wr W → Calls Try.prog 20 #[.agg #[kt, kc, ks, kd, .int .i64 kz], .agg #[wt, wcc, ws', wd, .int .i64 wz]] W (TruePost W)) := Lib.hid fun W hW => same_c ((HPK.out.belowK hW).read HFC.out) ((HPW.out.belowK hW).read HFC.out)
          have HCE : Hid (∀ w', Below wr.heap.size wr w' → w'.cell? ⟨gk, j * 5, none⟩ = some kt ∧ w'.cell? ⟨gk, j * 5 + 1, none⟩ = some kc ∧ w'.cell? ⟨gk, j * 5 + 2, none⟩ = some ks ∧ w'.cell? ⟨gk, j * 5 + 3, none⟩ = some kd ∧ w'.cell? ⟨gk, j * 5 + 4, none⟩ = some (.int .i64 kz) ∧ w'.cell? ⟨gw, j * 5, none⟩ = some wt ∧ w'.cell? ⟨gw, j * 5 + 1, none⟩ = some wcc ∧ w'.cell? ⟨gw, j * 5 + 2, none⟩ = some ws' ∧ w'.cell? ⟨gw, j * 5 + 3, none⟩ = some wd ∧ w'.cell? ⟨gw, j * 5 + 4, none⟩ = some (.int .i64 wz)) := Lib.hid fun w' h => ⟨cell_keep h s0, cell_keep h s1, cell_keep h s2, cell_keep h s3, cell_keep h s4, cell_keep h r0, cell_keep h r1, cell_keep h r2, cell_keep h r3, cell_keep h r4⟩
          go_upto_region 50 with (fail)
          go_region_held3 (fun w' => w'.cell? ⟨gk, j * 5, none⟩ = some kt ∧ w'.cell? ⟨gk, j * 5 + 1, none⟩ = some kc ∧ w'.cell? ⟨gk, j * 5 + 2, none⟩ = some ks ∧ w'.cell? ⟨gk, j * 5 + 3, none⟩ = some kd ∧ w'.cell? ⟨gk, j * 5 + 4, none⟩ = some (.int .i64 kz) ∧ w'.cell? ⟨gw, j * 5, none⟩ = some wt ∧ w'.cell? ⟨gw, j * 5 + 1, none⟩ = some wcc ∧ w'.cell? ⟨gw, j * 5 + 2, none⟩ = some ws' ∧ w'.cell? ⟨gw, j * 5 + 3, none⟩ = some wd ∧ w'.cell? ⟨gw, j * 5 + 4, none⟩ = some (.int .i64 wz))
            (first | exact HCE.out _ (by with_reducible first | exact HBa.out | exact below_step HBa.out (Below.refl _ _).drew | exact (Below.refl _ _) | exact (Below.refl _ _).drew))
            ((first
              | (go_at_call 20; (with_reducible refine (HSM.out _ (by with_reducible first | exact (Below.refl _ _) | exact (Below.refl _ _).drew)).mono ?_); rintro e wa ⟨rfl, hb⟩; have HBa : Hid (Below wr.heap.size wr wa) := Lib.hid (below_step (by with_reducible first | exact (Below.refl _ _) | exact (Below.refl _ _).drew) hb); clear hb)))
          go_wp2
          go_roundw
          case rel => exact ⟨j + 1, by omega, by go_num, below_step HBr.out HBa.out⟩
          case measure => simp [intOf]; omega
        · go_wp2
          go_ret
          exact ⟨rfl, HJ.out.below⟩
theorem all_law (v : Value) (acts : List ActP) (w : World) (h : ActsV w v acts) (hy : ∀ a ∈ acts, Byt a.b ∧ I64 a.kind) : Calls Try.prog 11 #[v] w (TruePost w) := by
  have h1 := h
  obtain ⟨A, c, rfl, _⟩ := h1
  exact all_any A _ c acts w h hy rfl
end Go.Proofs.Ytkbboepopcebaaa
