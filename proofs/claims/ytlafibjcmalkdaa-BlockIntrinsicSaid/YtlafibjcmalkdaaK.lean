/- sameTx: where a transaction is as it was handed in, it says so. -/
import Derived.Test.YtlafibjcmalkdaaK4
import Derived.BigQuiet
namespace Go.Proofs.Ytlafibjcmalkdaa
open Go.RowKit

theorem info24 : (Try.prog.info? 24).map (fun i => (i.zero, i.size, i.bytes)) = some (some (.int .u64 0), 1, 8) := by kernel_rfl
theorem neq26 (xs : Array Value) (h : ∀ j, j < 4 → KInt .u64 xs[j]?) (w : World) : (binOp .neq 26 (.agg xs) (.agg xs)).run Try.prog w = .ok (.bool false) w := by
  obtain ⟨i0, hi, _⟩ := info_parts info24
  exact neq_self Try.underlying26 hi (by kernel_rfl) Try.underlying24 xs h w
/-- Alike but for the lists. -/
def Agree (Ca C : Array Value) : Prop := ∀ j, j ≠ 50 → j ≠ 51 → j ≠ 52 → j ≠ 54 → Ca[j]? = C[j]?
theorem agree_anew (C : Array Value) (vi va vb vn : Value) : Agree (anew C vi va vb vn) C := by
  intro j h0 h1 h2 h4
  unfold anew
  rw [Array.getElem?_setIfInBounds_ne (Ne.symm h1), Array.getElem?_setIfInBounds_ne (Ne.symm h2), Array.getElem?_setIfInBounds_ne (Ne.symm h4), Array.getElem?_setIfInBounds_ne (Ne.symm h0)]
theorem part_ex {Ca C : Array Value} {k : IntKind} {a n : Nat} (hag : Agree Ca C) (hsz : C.size = 59) (hsza : Ca.size = 59) (h1 : a + n ≤ 59) (h2 : ∀ i, i < n → a + i ≠ 50 ∧ a + i ≠ 51 ∧ a + i ≠ 52 ∧ a + i ≠ 54)
    (hi : ∀ j, j < n → KInt k C[a + j]?) : ∃ xs : Array Value, xs = Ca.extract a (a + n) ∧ xs = C.extract a (a + n) ∧ xs.size = n ∧ ∀ j, j < n → KInt k xs[j]? := by
  refine ⟨_, rfl, ?_, by simp [hsza]; omega, fun j hj => ?_⟩
  · apply Array.ext_getElem?
    intro i
    simp only [Array.getElem?_extract]
    by_cases h : i < n
    · have := h2 i h
      rw [hag (a + i) this.1 this.2.1 this.2.2.1 this.2.2.2]
      simp [hsz, hsza]
    · rw [if_neg (by omega), if_neg (by omega)]
  · have := h2 j hj
    have e : (Ca.extract a (a + n))[j]? = C[a + j]? := by
      rw [Array.getElem?_extract, if_pos (by omega), hag (a + j) this.1 this.2.1 this.2.2.1 this.2.2.2]
    rw [e]
    exact hi j hj
theorem Scal.from0 {C : Array Value} (h : Scal C) : ∀ j, j < 20 → KInt .u8 C[0 + j]? := fun j hj => by rw [Nat.zero_add]; exact h.from_ j hj
/-- What is handed in reads as it is. -/
theorem mark_cells {w : World} {B e s : Nat} {v : Value} {n : Nat} {cs : List Value} {m : Nat} {mk : List Value} (h : MarkV w B e s v n cs m mk) (hn : n ≤ 1000000) (hl : cs.length = n * s) (h1 : ∀ u ∈ cs, u.oneCell' = true) : CellV w v n s cs := by
  obtain ⟨g, c, rfl, ho⟩ := h
  obtain ⟨A, c', e, h2, _, hr⟩ := own_cells ho
  injection e with e1 e2 e3
  subst e1 e3
  refine ⟨_, c, rfl, by omega, by simp, by unfold reach; omega, hl, h1, fun hp => ?_⟩
  obtain ⟨b, o, e, hc⟩ := hr (by simp; omega)
  exact ⟨b, o, e, fun j v hv => hc j v (by rw [List.getElem?_append_left (List.getElem?_eq_some_iff.1 hv).1]; exact hv)⟩

set_option maxRecDepth 100000 in
set_option maxHeartbeats 4000000 in
theorem sameTx_any (C : Array Value) (t : Tx) (vi va vb vn ui ua ub un : Value) (kvs : List Value) (B : Nat) (w : World) (hm : TxM w B t ui ua ub un kvs) (h : TxV w C t vi va vb vn) (hsc : Scal C) (hs : tsize t ≤ 200000) :
    Calls Try.prog 8 #[.agg (anew C ui ua ub un), .agg C] w fun e w' => e = .returned (.bool true) ∧ Below w.heap.size w w' := by
  have hag := agree_anew C ui ua ub un
  have hsz := h.size
  obtain ⟨Ca, hCa⟩ : ∃ Ca, Ca = anew C ui ua ub un := ⟨_, rfl⟩
  have hsza : Ca.size = 59 := by rw [hCa]; simp [anew, hsz]
  have ha50 : Ca[50]? = some ui := by rw [hCa]; unfold anew; rw [Array.getElem?_setIfInBounds_ne (by decide), Array.getElem?_setIfInBounds_ne (by decide), Array.getElem?_setIfInBounds_ne (by decide), Array.getElem?_setIfInBounds_self_of_lt (by omega)]
  have ha54 : Ca[54]? = some un := by rw [hCa]; unfold anew; rw [Array.getElem?_setIfInBounds_ne (by decide), Array.getElem?_setIfInBounds_ne (by decide), Array.getElem?_setIfInBounds_self_of_lt (by simp; omega)]
  have ha52 : Ca[52]? = some ub := by rw [hCa]; unfold anew; rw [Array.getElem?_setIfInBounds_ne (by decide), Array.getElem?_setIfInBounds_self_of_lt (by simp; omega)]
  have ha51 : Ca[51]? = some ua := by rw [hCa]; unfold anew; rw [Array.getElem?_setIfInBounds_self_of_lt (by simp; omega)]
  rw [← hCa] at hag ⊢
  have hbx0 : TB (w.alloc (.cells Ca 31)) w.heap.size Ca := ⟨heap_alloc_new w _, hsza⟩
  have hbx := hbx0.below (below_alloc _ (.cells C 31))
  have hby : TB ((w.alloc (.cells Ca 31)).alloc (.cells C 31)) (w.heap.size + 1) C := ⟨by simpa using heap_alloc_new (w.alloc (.cells Ca 31)) (.cells C 31), hsz⟩
  have hbw : Below w.heap.size w ((w.alloc (.cells Ca 31)).alloc (.cells C 31)) := below_step (below_alloc _ _) (below_alloc _ _)
  obtain ⟨W, hW⟩ : ∃ W, W = (w.alloc (.cells Ca 31)).alloc (.cells C 31) := ⟨_, rfl⟩
  obtain ⟨X, hX⟩ : ∃ X, X = w.heap.size := ⟨_, rfl⟩
  obtain ⟨Y, hY⟩ : ∃ Y, Y = w.heap.size + 1 := ⟨_, rfl⟩
  rw [← hW, ← hX] at hbx
  rw [← hW, ← hY] at hby
  rw [← hW] at hbw
  obtain ⟨x_from_, ea_from_, eb_from_, es_from_, ei_from_⟩ := part_ex (a := 0) (n := 20) hag hsz hsza (by decide) (by decide) hsc.from0
  have RA_from_ : Hid (W.rangeAt X 0 x_from_.toList) := Lib.hid (by rw [ea_from_]; exact World.rangeAt_of_block hbx.blk 0 20)
  have RB_from_ : Hid (W.rangeAt Y 0 x_from_.toList) := Lib.hid (by rw [eb_from_]; exact World.rangeAt_of_block hby.blk 0 20)
  have SZ_from_ : Hid ((Try.prog.info? 23).map (·.size) = some x_from_.size) := Lib.hid (by rw [es_from_]; kernel_rfl)
  have NQ_from_ := neq23 x_from_ ei_from_
  obtain ⟨x_price, ea_price, eb_price, es_price, ei_price⟩ := part_ex (a := 21) (n := 4) hag hsz hsza (by decide) (by decide) hsc.price
  have RA_price : Hid (W.rangeAt X 21 x_price.toList) := Lib.hid (by rw [ea_price]; exact World.rangeAt_of_block hbx.blk 21 4)
  have RB_price : Hid (W.rangeAt Y 21 x_price.toList) := Lib.hid (by rw [eb_price]; exact World.rangeAt_of_block hby.blk 21 4)
  have SZ_price : Hid ((Try.prog.info? 26).map (·.size) = some x_price.size) := Lib.hid (by rw [es_price]; kernel_rfl)
  have NQ_price := neq26 x_price ei_price
  obtain ⟨x_to, ea_to, eb_to, es_to, ei_to⟩ := part_ex (a := 26) (n := 20) hag hsz hsza (by decide) (by decide) hsc.to
  have RA_to : Hid (W.rangeAt X 26 x_to.toList) := Lib.hid (by rw [ea_to]; exact World.rangeAt_of_block hbx.blk 26 20)
  have RB_to : Hid (W.rangeAt Y 26 x_to.toList) := Lib.hid (by rw [eb_to]; exact World.rangeAt_of_block hby.blk 26 20)
  have SZ_to : Hid ((Try.prog.info? 23).map (·.size) = some x_to.size) := Lib.hid (by rw [es_to]; kernel_rfl)
  have NQ_to := neq23 x_to ei_to
  obtain ⟨x_value, ea_value, eb_value, es_value, ei_value⟩ := part_ex (a := 46) (n := 4) hag hsz hsza (by decide) (by decide) hsc.value
  have RA_value : Hid (W.rangeAt X 46 x_value.toList) := Lib.hid (by rw [ea_value]; exact World.rangeAt_of_block hbx.blk 46 4)
  have RB_value : Hid (W.rangeAt Y 46 x_value.toList) := Lib.hid (by rw [eb_value]; exact World.rangeAt_of_block hby.blk 46 4)
  have SZ_value : Hid ((Try.prog.info? 26).map (·.size) = some x_value.size) := Lib.hid (by rw [es_value]; kernel_rfl)
  have NQ_value := neq26 x_value ei_value
  obtain ⟨x_salt, ea_salt, eb_salt, es_salt, ei_salt⟩ := part_ex (a := 55) (n := 4) hag hsz hsza (by decide) (by decide) hsc.salt
  have RA_salt : Hid (W.rangeAt X 55 x_salt.toList) := Lib.hid (by rw [ea_salt]; exact World.rangeAt_of_block hbx.blk 55 4)
  have RB_salt : Hid (W.rangeAt Y 55 x_salt.toList) := Lib.hid (by rw [eb_salt]; exact World.rangeAt_of_block hby.blk 55 4)
  have SZ_salt : Hid ((Try.prog.info? 26).map (·.size) = some x_salt.size) := Lib.hid (by rw [es_salt]; kernel_rfl)
  have NQ_salt := neq26 x_salt ei_salt

  obtain ⟨z20, e20⟩ := hsc.nonce
  obtain ⟨z25, e25⟩ := hsc.gas
  have a20 := hbx.cell ((hag 20 (by decide) (by decide) (by decide) (by decide)).trans e20)
  have a25 := hbx.cell ((hag 25 (by decide) (by decide) (by decide) (by decide)).trans e25)
  have a53 := hbx.cell ((hag 53 (by decide) (by decide) (by decide) (by decide)).trans h.c53)
  have b20 := hby.cell e20
  have b25 := hby.cell e25
  have b53 := hby.cell h.c53
  have a50 := hbx.cell ha50
  have a51 := hbx.cell ha51
  have a52 := hbx.cell ha52
  have a54 := hbx.cell ha54
  have b50 := hby.cell h.c50
  have b51 := hby.cell h.c51
  have b52 := hby.cell h.c52
  have b54 := hby.cell h.c54
  have h2 := h.mono hbw
  have hm2 := hm.below hbw
  obtain ⟨A0, c0, rfl, _, _, _⟩ := h2.inp
  obtain ⟨A4, c4, rfl, _, _, _⟩ := h2.ini
  obtain ⟨A2, c2, rfl, _, _, _, _, _, _⟩ := h2.blobs
  obtain ⟨kb, hab, hkb⟩ := h2.acc
  obtain ⟨A1, c1, rfl, _, _, l1, _, _, _⟩ := id hab
  obtain ⟨g0, d0, rfl, _⟩ := id hm2.inp
  obtain ⟨g4, d4, rfl, _⟩ := id hm2.ini
  obtain ⟨g2, d2, rfl, _⟩ := id hm2.blobs
  obtain ⟨g1, d1, rfl, ho1⟩ := id hm2.acc
  obtain ⟨_, _, ecap, hcap⟩ := own_some_of ho1 (by omega)
  injection ecap with ecap1 ecap2 ecap3
  subst ecap3
  have hts : tsize t = t.inp.length + t.ini.length + t.nb + asum t.acc := rfl
  have has := asum_len t.acc
  have hal : t.acc.length ≤ 200000 := by omega
  have HI : Hid (∀ q, Calls Try.prog 14 #[.slice (some ⟨g0, 0, none⟩) t.inp.length d0, .slice A0 t.inp.length c0] (W.drewN q) (Yes (W.drewN q))) := Lib.hid fun q => same_any _ _ t.inp _ ((mark_cells hm2.inp (by omega) (by simp [nums_length]) (nums_one _ _)).mono (below_drewN (Below.refl _ _) q)).nums (h2.inp.mono (below_drewN (Below.refl _ _) q))
  have HN : Hid (∀ q, Calls Try.prog 14 #[.slice (some ⟨g4, 0, none⟩) t.ini.length d4, .slice A4 t.ini.length c4] (W.drewN q) (Yes (W.drewN q))) := Lib.hid fun q => same_any _ _ t.ini _ ((mark_cells hm2.ini (by omega) (by simp [nums_length]) (nums_one _ _)).mono (below_drewN (Below.refl _ _) q)).nums (h2.ini.mono (below_drewN (Below.refl _ _) q))
  have HMI : Hid (∀ q, Calls Try.prog 15 #[.slice (some ⟨g0, 0, none⟩) t.inp.length d0] (W.drewN q) (Yes (W.drewN q))) := Lib.hid fun q => marked_any _ _ _ _ _ (hm2.inp.below (below_drewN (Below.refl _ _) q)) (by omega)
  have HMN : Hid (∀ q, Calls Try.prog 15 #[.slice (some ⟨g4, 0, none⟩) t.ini.length d4] (W.drewN q) (Yes (W.drewN q))) := Lib.hid fun q => marked_any _ _ _ _ _ (hm2.ini.below (below_drewN (Below.refl _ _) q)) (by omega)
  have hbi : IntsC .u8 (nums .u8 t.bc) := fun j hj => ⟨_, nums_get _ _ _ (by simpa [nums_length] using hj)⟩
  have HH : Hid (∀ q, Calls Try.prog 16 #[.slice (some ⟨g2, 0, none⟩) t.nb d2, .slice A2 t.nb c2] (W.drewN q) (Yes (W.drewN q))) := Lib.hid fun q => sameHashes_any _ _ _ _ _ _ (hm2.blobs.below (below_drewN (Below.refl _ _) q)) (h2.blobs.mono (below_drewN (Below.refl _ _) q)) hbi (by omega)
  obtain ⟨n, hn⟩ : ∃ n, n = t.acc.length := ⟨_, rfl⟩
  have hmk : W.rangeAt g1 (n * 21) m171.toList := by
    intro j v hv
    have hl : (accCells t.acc kvs).length = t.acc.length * 21 := accCells_len _ _ hm.klen hm.ads
    have hj : j < 20 := by have := (List.getElem?_eq_some_iff.1 hv).1; simpa [m171] using this
    have := ho1.cells (g := g1) rfl (t.acc.length * 21 + j) v (by rw [List.getElem?_append_right (by omega), hl, Nat.add_sub_cancel_left]; unfold a171; rw [List.getElem?_append_left (by simp [nums_length]; omega)]; exact hv)
    rw [Addr.add_lit] at this
    rw [hn]
    simpa using this
  have HMK := Lib.hid hmk
  have HM2 := Lib.hid hm2
  have HAB := Lib.hid hab
  have HKB := Lib.hid hkb
  have HBW := Lib.hid hbw
  have HNN := Lib.hid hn
  have HAG := Lib.hid hag
  have HBX := Lib.hid hbx
  have HBY := Lib.hid hby
  have HTS : Hid (asum t.acc ≤ 200000) := Lib.hid (by omega)
  have SZm : Hid ((Try.prog.info? 23).map (·.size) = some m171.size) := Lib.hid (by kernel_rfl)
  have NQm := neq23 m171 m171_ints
  rw [← hn] at a51 b51 hal hcap HAB
  clear ea_from_ eb_from_ es_from_ ei_from_ ea_price eb_price es_price ei_price ea_to eb_to es_to ei_to ea_value eb_value es_value ei_value ea_salt eb_salt es_salt ei_salt e20 e25 ha50 ha51 ha52 ha54 hag hsza hsz hbx0 hbx hby hCa h2 hm2 hm h hts has hs hmk hab hkb hbw hn hbi ho1 l1 hsc
  go_enter Try.func8, Try.ntmps8
  go_upto_region 1 with (fail)
  rw [← hX] at hY
  rw [← hW, ← hX, ← hY]
  clear hW hX hY
  rename_i K1 hK1
  have HK1 := Lib.hid hK1
  clear hK1
  go_wp2_with (first
    | (refine wpList_load_g (by rfl) _ _ rfl _ _ rfl _ _ (by assumption) (by first | exact Try.underlying23 | exact Try.underlying26) rfl (by assumption) ?_)
    | (refine wpList_neq_g (by rfl) _ _ _ _ rfl _ rfl rfl (by first | exact Try.eqGuardType23 | exact Try.eqGuardType26) (by assumption) ?_))
  refine HK1.out _ _ ?_
  clear HK1
  go_upto_region 3 with (fail)
  rename_i K3 hK3
  have HK3 := Lib.hid hK3
  clear hK3
  refine (show Code.wp Try.prog (reg8 3) _ _ _ from s3 W X Y g0 g1 g2 g4 d0 d1 d2 d4 c0 c2 c4 _ _ _ n A0 A2 A4 a50 a51 a52 a54 b50 b52 b54 HI.out HN.out HMI.out HMN.out HH.out HMK.out hal hcap _ ?_)
  intro nq v72 v73 v74 v75 v76 v77 v78 v79 v80 v81 v82 v83 v84 v85 v86 v87 v88 v89 v90 v91 v92 v93 v94 v95 v96 v97 v98 v99 v100 v101 v102 v103 v104 v105 v106 v107 v108 v109 v110 v111 v112 v113 v114 v115 v116 v117 v118 v119 v120 v121
  have hWq : Below W.heap.size W (W.drewN nq) := below_drewN (Below.refl _ _) nq
  obtain ⟨W2, hW2⟩ : ∃ W2, W2 = W.drewN nq := ⟨_, rfl⟩
  rw [← hW2] at hWq ⊢
  have HWQ := Lib.hid hWq
  have HC51 : Hid (∀ w', Below W2.heap.size W2 w' → w'.cell? ⟨X, 51, none⟩ = some (.slice (some ⟨g1, 0, none⟩) n d1) ∧ w'.cell? ⟨Y, 51, none⟩ = some (.slice A1 n c1)) := Lib.hid fun w' hw => ⟨cell_keep (below_step hWq hw) a51, cell_keep (below_step hWq hw) b51⟩
  clear hW2 hWq a20 a25 a53 b20 b25 b53 a50 a51 a52 a54 b50 b51 b52 b54 HI HN HMI HMN HH HMK SZm NQm RA_from_ RB_from_ SZ_from_ NQ_from_ RA_price RB_price SZ_price NQ_price RA_to RB_to SZ_to NQ_to RA_value RB_value SZ_value NQ_value RA_salt RB_salt SZ_salt NQ_salt
  go_wp2_with fail
  refine HK3.out _ _ ?_
  clear HK3
  go_wp2_with fail
  go_loopw [5] (fun i wr => ∃ k : Nat, k ≤ n ∧ i = .int .i64 k ∧ Below W2.heap.size W2 wr) (fun i _ => n - (intOf i).toNat)
  case atStart => exact ⟨0, Nat.zero_le _, rfl, Below.refl _ _⟩
  case round =>
    obtain ⟨k, hk, rfl, hbr⟩ := hrel
    obtain ⟨a51, b51⟩ := HC51.out _ hbr
    have HBR := Lib.hid hbr
    clear hbr
    by_cases hlt : k < n
    · have hk2 : k < t.acc.length := by have := HNN.out; omega
      have hWr := below_step HWQ.out HBR.out
      have hA := HAB.out.mono hWr
      rw [HNN.out] at hA
      obtain ⟨b, o, rfl, hrb, _⟩ := acc_at hA (HKB.out.mono hWr) hk2
      have hm3 := HM2.out.below hWr
      have had : (t.acc.getD k default).ad.length = 20 := HM2.out.ads _ (by simp [List.getD_eq_getElem?_getD, hk2])
      obtain ⟨A9, c9, e9, _, _, l9, l9b, _, hc9⟩ := (HKB.out.mono hWr).2.2 k hk2
      obtain ⟨gk, dk, ek, hok⟩ := hm3.keys k hk2
      obtain ⟨q, hq⟩ : ∃ q, q = (t.acc.getD k default).kn := ⟨_, rfl⟩
      have hqb : q ≤ 200000 := by
        have h1 := asum_take_le t.acc (k + 1)
        rw [asum_step hk2] at h1
        have := HTS.out
        omega
      rw [← hq] at e9 ek hok l9b
      obtain ⟨kc, hkc⟩ : ∃ kc, kc = (t.acc.getD k default).kc := ⟨_, rfl⟩
      rw [← hkc] at hok l9b hc9
      obtain ⟨ad, hade⟩ : ∃ ad, ad = (t.acc.getD k default).ad := ⟨_, rfl⟩
      rw [← hade] at had
      have hra : wr.rangeAt g1 (k * 21) (nums .u8 ad ++ [kvs.getD k undef]) := by
        obtain ⟨g', c', e', ho'⟩ := hm3.acc
        injection e' with e1 e2 e3
        injection e1 with e1
        injection e1 with e1
        subst e1
        have hl : (accCells t.acc kvs).length = t.acc.length * 21 := accCells_len _ _ hm3.klen hm3.ads
        have h := range_elem (w := wr) (b := g1) (o := 0) (cs := accCells t.acc kvs) (fun j v hv => by
          have := ho'.cells (g := g1) rfl j v (by rw [List.getElem?_append_left (List.getElem?_eq_some_iff.1 hv).1]; exact hv)
          rwa [Addr.add_lit] at this) 21 k
        rw [accCells_get t.acc kvs hm3.klen hm3.ads k hk2, Nat.zero_add, ← hade] at h
        exact h
      rw [← hade] at hrb
      rw [ek] at hra
      rw [e9] at hrb
      obtain ⟨_, _, ecap2, hcap2⟩ := own_some_of hok (by omega)
      injection ecap2 with ecap1 ecap2 ecap3
      subst ecap3
      clear ecap1 ecap2
      have hcl : (nums .u64 kc).length = q * 4 := l9b
      have hmk2 : wr.rangeAt gk (q * 4) w171.toList := by
        intro j v hv
        have := hok.cells (g := gk) rfl (q * 4 + j) v (by rw [List.getElem?_append_right (by omega), hcl, Nat.add_sub_cancel_left]; exact hv)
        rw [Addr.add_lit] at this
        simpa using this
      have hka : ∀ (j : Nat) (v : Value), (nums .u64 kc)[j]? = some v → wr.cell? ⟨gk, 0 + j, none⟩ = some v := fun j v hv => by
        have := hok.cells (g := gk) rfl j v (by rw [List.getElem?_append_left (List.getElem?_eq_some_iff.1 hv).1]; exact hv)
        rwa [Addr.add_lit] at this
      have hki : IntsC .u64 (nums .u64 kc) := fun j hj => ⟨_, nums_get _ _ _ (by simpa [nums_length] using hj)⟩
      obtain ⟨xad, hxad⟩ : ∃ xad : Array Value, xad = (nums .u8 ad).toArray := ⟨_, rfl⟩
      have NQa := neq23 xad (fun j hj => ⟨_, by rw [hxad, List.getElem?_toArray]; exact nums_get _ _ _ (by omega)⟩)
      have NQw := neq26 w171 (fun j hj => ⟨_, by rw [← Array.getElem?_toList, show w171.toList = nums .u64 [171, 0, 0, 0] from rfl]; exact nums_get _ _ _ (by simpa using hj)⟩)
      have SZa : Hid ((Try.prog.info? 23).map (·.size) = some xad.size) := Lib.hid (by rw [hxad, List.size_toArray, nums_length, had]; kernel_rfl)
      have SZw : Hid ((Try.prog.info? 26).map (·.size) = some w171.size) := Lib.hid (by kernel_rfl)
      have HKA := Lib.hid hka
      have HKI := Lib.hid hki
      have HKL := Lib.hid hcl
      have HKC := Lib.hid hc9
      have HMK2 := Lib.hid hmk2
      have HXA := Lib.hid hxad
      have HADL := Lib.hid had
      have hcap3 : q + 1 ≤ dk := hcap2
      clear hA hm3 hWr hq hkc hade hok l9 l9b hc9 hka hki hcl hmk2 hxad hcap2 ek e9
      go_upto_region 8 with (fail)
      rename_i Kr hKr
      have HKr := Lib.hid hKr
      clear hKr
      refine (show Code.wp Try.prog (reg8 8) _ _ _ from s8 wr X Y g1 b o k n d1 c1 _ _ a51 b51 hra hrb (by simp [nums_length, HADL.out]) (by simp [nums_length, HADL.out]) (by intro v hv; rcases List.mem_append.1 hv with h | h; exact nums_one _ _ v h; simp at h; rw [h]; rfl) (by intro v hv; rcases List.mem_append.1 hv with h | h; exact nums_one _ _ v h; simp at h; rw [h]; rfl) hlt hal _ ?_)
      intro P R wx v130 v131 v132 v133 v134 v135 v136 v137 v138 v139 rA rB hbx
      have p20 : wx.cell? ⟨P, 20, none⟩ = some (.slice (some ⟨gk, 0, none⟩) q dk) := by
        have := rA 20 _ (by rw [List.getElem?_append_right (by rw [nums_length, HADL.out]; exact Nat.le_refl _), nums_length, HADL.out]; rfl)
        simpa using this
      have r20 : wx.cell? ⟨R, 20, none⟩ = some (.slice A9 q c9) := by
        have := rB 20 _ (by rw [List.getElem?_append_right (by rw [nums_length, HADL.out]; exact Nat.le_refl _), nums_length, HADL.out]; rfl)
        simpa using this
      have RPa : Hid (wx.rangeAt P 0 xad.toList) := Lib.hid (by rw [HXA.out]; exact fun j v hv => rA j v (by rw [List.getElem?_append_left (List.getElem?_eq_some_iff.1 hv).1]; exact hv))
      have RRa : Hid (wx.rangeAt R 0 xad.toList) := Lib.hid (by rw [HXA.out]; exact fun j v hv => rB j v (by rw [List.getElem?_append_left (List.getElem?_eq_some_iff.1 hv).1]; exact hv))
      have RMw : Hid (wx.rangeAt gk (q * 4) w171.toList) := Lib.hid fun j v hv => cell_keep hbx (HMK2.out j v hv)
      have HBX2 := Lib.hid hbx
      have hwq : IntKind.i64.wrap ((q : Int) + 1) = ((q + 1 : Nat) : Int) := by rw [IntWalk.i64_in _ (by omega)]; omega
      clear rA rB hbx hra hrb a51 b51
      refine HKr.out _ _ ?_
      clear HKr
      go_upto_region 9 with (fail)
      rename_i K9 hK9
      have HK9 := Lib.hid hK9
      clear hK9
      dsimp only
      refine wp_region_quiet_lit (by kernel_rfl) (by kernel_rfl) ?_
      repeat (first
        | go_big_quiet_step (fail)
        | (refine wpQuiet_load_g (by rfl) _ _ rfl _ _ rfl _ _ (by assumption) (by first | exact Try.underlying23 | exact Try.underlying26) rfl (by assumption) ?_; simp only [Act.put, List.setIfInBounds_toArray, List.set_cons_succ, List.set_cons_zero])
        | (refine wpQuiet_build_g (by rfl) 26 _ rfl w171 built26 ?_; simp only [Act.put, List.setIfInBounds_toArray, List.set_cons_succ, List.set_cons_zero])
        | (refine wpQuiet_neq_g (by rfl) _ _ _ _ rfl _ rfl rfl (by first | exact Try.eqGuardType23 | exact Try.eqGuardType26) (by assumption) ?_; simp only [Act.put, List.setIfInBounds_toArray, List.set_cons_succ, List.set_cons_zero]))
      refine wpQuiet_nil ?_
      intro _ hw'
      obtain ⟨nq9, hw''⟩ := hw'
      subst hw''
      have hb9 : Below wx.heap.size wx (wx.drewN nq9) := below_drewN (Below.refl _ _) nq9
      obtain ⟨W5, hW5⟩ : ∃ W5, W5 = wx.drewN nq9 := ⟨_, rfl⟩
      rw [← hW5] at hb9 ⊢
      have HB9 := Lib.hid hb9
      have HP20 : Hid (∀ r, (W5.drewN r).cell? ⟨P, 20, none⟩ = some (.slice (some ⟨gk, 0, none⟩) q dk) ∧ (W5.drewN r).cell? ⟨R, 20, none⟩ = some (.slice A9 q c9)) := Lib.hid fun r => ⟨cell_keep (below_step hb9 (below_drewN (Below.refl _ _) r)) p20, cell_keep (below_step hb9 (below_drewN (Below.refl _ _) r)) r20⟩
      clear hW5 hb9 p20 r20 RPa RRa RMw hwq NQa NQw SZa
      go_wp2_with fail
      refine HK9.out _ _ ?_
      clear HK9
      go_wp2_with fail
      go_loopw [8] (fun i wz => ∃ s r : Nat, s ≤ q ∧ i = .int .i64 s ∧ wz = W5.drewN r) (fun i _ => q - (intOf i).toNat)
      case atStart => exact ⟨0, 0, Nat.zero_le _, rfl, rfl⟩
      case round =>
        obtain ⟨s, r, hs, rfl, rfl⟩ := hrel
        have p20 : ∀ r, (W5.drewN r).cell? ⟨P, 20, none⟩ = some (.slice (some ⟨gk, 0, none⟩) q dk) := fun r => (HP20.out r).1
        have r20 : ∀ r, (W5.drewN r).cell? ⟨R, 20, none⟩ = some (.slice A9 q c9) := fun r => (HP20.out r).2
        by_cases hlt2 : s < q
        · have i0 : (0 : Int) ≤ (s : Int) := by omega
          have i1 : (s : Int) < (q : Int) := by omega
          have hbz : Below wr.heap.size wr (W5.drewN r) := below_step HBX2.out (below_step HB9.out (below_drewN (Below.refl _ _) r))
          obtain ⟨b9, o9, rfl, hcb⟩ := (HKC.out.mono hbz) (by have := HKL.out; omega)
          have la := range_elem (w := W5.drewN r) (b := gk) (o := 0) (cs := nums .u64 kc) (fun j v hv => cell_keep hbz (HKA.out j v hv)) 4 s
          have lb := range_elem hcb 4 s
          have hnq := neq26 (elem 4 (nums .u64 kc) s).toArray (ints_elem HKI.out HKL.out hlt2)
          rw [Nat.zero_add] at la
          obtain ⟨xs, hxs⟩ : ∃ xs, xs = (elem 4 (nums .u64 kc) s).toArray := ⟨_, rfl⟩
          have hxl : xs.toList = elem 4 (nums .u64 kc) s := by rw [hxs]
          have SZ2 : Hid ((Try.prog.info? 26).map (·.size) = some xs.size) := Lib.hid (by rw [hxs, List.size_toArray, elem_len HKL.out hlt2]; kernel_rfl)
          rw [← hxs] at hnq
          rw [← hxl] at la lb
          have LA := Lib.hid la
          have LB := Lib.hid lb
          clear hxl la lb hcb hxs hbz
          go_upto_region 14 with (fail)
          rename_i K14 hK14
          have HK14 := Lib.hid hK14
          clear hK14
          refine wp_region_quiet_lit (by kernel_rfl) (by kernel_rfl) ?_
          repeat (first
            | go_big_quiet_step (fail)
            | (refine wpQuiet_load_g (by rfl) _ _ rfl _ _ rfl _ _ (by assumption) (by first | exact Try.underlying26) rfl (by assumption) ?_; simp only [Act.put, List.setIfInBounds_toArray, List.set_cons_succ, List.set_cons_zero])
            | (refine wpQuiet_neq_g (by rfl) _ _ _ _ rfl _ rfl rfl (by first | exact Try.eqGuardType26) (by assumption) ?_; simp only [Act.put, List.setIfInBounds_toArray, List.set_cons_succ, List.set_cons_zero]))
          refine wpQuiet_nil ?_
          intro _ hw'
          obtain ⟨nq14, hw''⟩ := hw'
          subst hw''
          go_wp2_with fail
          refine HK14.out _ _ ?_
          clear HK14
          go_wp2_with fail
          go_roundw
          case rel => exact ⟨s + 1, r + nq14, by omega, by go_num, by first | rfl | rw [World.drewN_drewN]⟩
          case measure => simp [intOf]; omega
        · have hge : ¬ ((s : Int) < (q : Int)) := by omega
          go_wp2_with fail
          go_roundw
          case rel => exact ⟨k + 1, by omega, by go_num, below_step HBR.out (below_step HBX2.out (below_step HB9.out (below_drewN (Below.refl _ _) r)))⟩
          case measure => simp [intOf]; omega
    · have hge : ¬ ((k : Int) < (n : Int)) := by omega
      go_wp2_with fail
      go_ret
      exact ⟨rfl, below_step HBW.out (below_step HWQ.out HBR.out)⟩
end Go.Proofs.Ytlafibjcmalkdaa
