/- What a transaction costs ahead of its run: by the program and by the document. -/
import Derived.Test.YtlafibjcmalkdaaF
import Derived.Deep.WholeRow
namespace Go.Proofs.Ytlafibjcmalkdaa
open Go.RowKit

section
variable {ops : Array Oper} {rest : List Oper} {op : Oper} {a : Act} {W : World} {Q : Exit → Act → World → Prop}
/-- A whole struct into the box that was made last. -/
theorem wpList_store_new (hw : Region.wanted op (yielded ops a.tmps) = true) (ty : TypeId) (x y : Operand) (ho : op.op = .store ty x y) (z xs : Array Value)
    (hx : a.eval x = .pointer (some ⟨W.heap.size, 0, none⟩)) (hy : a.eval y = .agg xs) (hi : Hid ((Try.prog.info? ty).map (·.size) = some xs.size)) (hz : Hid (z.size = xs.size)) (h1 : Hid (xs.all (·.oneCell') = true))
    (h : wpList Try.prog ops Q rest (a.put op.dst undef) (W.alloc (.cells xs ty))) : wpList Try.prog ops Q (op :: rest) a (W.alloc (.cells z ty)) := by
  unfold wpList
  rw [if_pos hw]
  refine .inl ?_
  unfold Oper.wp execOp
  simp only [ho, hx, hy, Sem.run_bind, run_storeAt_new (P := Try.prog) W ty z xs hi.out hz.out h1.out, Result.andThen_ok]
  exact h
end
def acost : List AccE → Int
  | [] => 0
  | e :: es => 2400 + 1900 * (e.kn : Int) + acost es
theorem acost_append (a b : List AccE) : acost (a ++ b) = acost a + acost b := by
  induction a with
  | nil => simp [acost]
  | cons e a ih => simp only [List.cons_append, acost, ih]; omega
theorem acost_step {es : List AccE} {k : Nat} (h : k < es.length) : acost (es.take (k + 1)) = acost (es.take k) + (2400 + 1900 * ((es.getD k default).kn : Int)) := by
  rw [List.take_succ_eq_append_getElem h, acost_append]
  simp [acost, List.getD_eq_getElem?_getD, h]
theorem acost_bd (es : List AccE) : 0 ≤ acost es ∧ acost es ≤ 2400 * (asum es : Int) := by
  induction es with
  | nil => simp [acost, asum]
  | cons e es ih => simp only [acost, asum]; omega
/-- 22.1. -/
def icost (t : Tx) : Int := 21000 + dsum t.inp + (if t.make then 32000 + dsum t.ini + 2 * (((t.ini.length + 31) / 32 : Nat) : Int) else 0) + acost t.acc
def ibase (t : Tx) : Int := 21000 + dsum t.inp + (if t.make then 32000 + dsum t.ini + 2 * (((t.ini.length + 31) / 32 : Nat) : Int) else 0)

set_option maxRecDepth 100000 in
set_option maxHeartbeats 4000000 in
theorem intrinsic_any (C : Array Value) (t : Tx) (vi va vb vn : Value) (w : World) (h : TxV w C t vi va vb vn) (hs : tsize t ≤ 200000) :
    Calls Try.prog 6 #[.agg C] w fun e w' => e = .returned (.int .u64 (icost t)) ∧ Below w.heap.size w w' := by
  have hb0 := below_alloc w (.cells C 31)
  have h50 := box_cell w C 31 50 _ h.c50
  have h51 := box_cell w C 31 51 _ h.c51
  have h53 := box_cell w C 31 53 _ h.c53
  have h54 := box_cell w C 31 54 _ h.c54
  have h2 := h.mono hb0
  have hsz := h.size
  have hin := h2.inp
  have hnn := h2.ini
  obtain ⟨A0, c0, rfl, _, _, r0⟩ := id hin
  obtain ⟨A4, c4, rfl, _, _, r4⟩ := id hnn
  obtain ⟨kvs, ha, hk⟩ := h2.acc
  obtain ⟨A1, c1, rfl, _, _, l1, _⟩ := id ha
  have hts : tsize t = t.inp.length + t.ini.length + t.nb + asum t.acc := rfl
  have hd0 := dsum_bd t.inp
  have hd4 := dsum_bd t.ini
  have hl0 : t.inp.length ≤ 200000 := by omega
  have hl4 : t.ini.length ≤ 200000 := by omega
  have has := asum_len t.acc
  have hcd0 := data_any _ t.inp _ hin hl0
  have hcd4 : ∀ q, Calls Try.prog 12 #[.slice A4 t.ini.length c4] ((w.alloc (.cells C 31)).drewN q) fun e w' => e = .returned (.int .u64 (dsum t.ini)) ∧ w' = (w.alloc (.cells C 31)).drewN q := fun q => data_any _ t.ini _ (hnn.mono (below_drewN (Below.refl _ _) q)) hl4
  obtain ⟨p4, hp4⟩ : ∃ p, p = t.ini.length := ⟨_, rfl⟩
  obtain ⟨p0, hp0⟩ : ∃ p, p = t.inp.length := ⟨_, rfl⟩
  obtain ⟨n, hn⟩ : ∃ p, p = t.acc.length := ⟨_, rfl⟩
  obtain ⟨d0, hd0e⟩ : ∃ d, d = dsum t.inp := ⟨_, rfl⟩
  obtain ⟨d4, hd4e⟩ : ∃ d, d = dsum t.ini := ⟨_, rfl⟩
  obtain ⟨W, hW⟩ : ∃ W, W = w.alloc (.cells C 31) := ⟨_, rfl⟩
  obtain ⟨g, hg⟩ : ∃ g, g = w.heap.size := ⟨_, rfl⟩
  have hib : ibase t = 21000 + d0 + (if t.make then 32000 + d4 + 2 * (((p4 + 31) / 32 : Nat) : Int) else 0) := by rw [hd0e, hd4e, hp4]; rfl
  rw [← hd0e] at hd0 hcd0
  rw [← hd4e] at hd4 hcd4
  rw [← hp4] at hd4 hl4
  rw [← hp0] at hd0 hl0
  have hic : icost t = ibase t + acost t.acc := rfl
  have HIC := Lib.hid hic
  have HIB := Lib.hid hib
  have HTS : Hid (asum t.acc ≤ 200000) := Lib.hid (by omega)
  have HA := Lib.hid ha
  have HK := Lib.hid hk
  have HN := Lib.hid hn
  have HB0 := Lib.hid hb0
  have HG := Lib.hid hg
  have HCD0 := Lib.hid hcd0
  have HCD4 := Lib.hid hcd4
  have hn2 : n ≤ 200000 := by omega
  obtain ⟨mk, hmk⟩ : ∃ mk, mk = t.make := ⟨_, rfl⟩
  rw [← hmk] at h53 HIB
  rw [← hp0] at h50 HCD0
  rw [← hp4] at h54 HCD4
  rw [← hn] at h51 HA
  clear h h2 hin hnn hic hib hts has ha hk hb0 r0 r4 l1 hcd0 hcd4 hn hp0 hp4 hd0e hd4e hmk hs
  go_enter Try.func6, Try.ntmps6
  go_wp2_with fail
  refine HCD0.out.mono ?_
  rintro _ _ ⟨rfl, rfl⟩
  have hw1 : IntKind.u64.wrap (21000 + d0) = 21000 + d0 := u64_in _ (by omega) (by omega)
  cases mk with
  | false =>
    go_wp2_with fail
    obtain ⟨W2, hW2⟩ : ∃ W2, W2 = w.alloc (.cells C 31) := ⟨_, rfl⟩
    obtain ⟨S, hS⟩ : ∃ S : Int, S = 21000 + d0 := ⟨_, rfl⟩
    have hSb : 0 ≤ S ∧ S ≤ 10000000 := by omega
    have HA2 : Hid (CellV W2 (.slice A1 n c1) n 21 (accCells t.acc kvs)) := Lib.hid (by rw [hW2]; exact HA.out.mono (Below.refl _ _))
    have HK2 : Hid (KeysOk W2 t.acc kvs) := Lib.hid (by rw [hW2]; exact HK.out.mono (Below.refl _ _))
    have HBW : Hid (Below w.heap.size w W2) := Lib.hid (by rw [hW2]; exact below_step HB0.out (Below.refl _ _))
    rw [← hW2, ← hS]
    have HS := Lib.hid hS
    clear hW2 hS hd0 hd4 hl0 hl4
    go_loopw [3, 29] (fun s i wr => ∃ k : Nat, k ≤ n ∧ i = .int .i64 k ∧ s = .int .u64 (S + acost (t.acc.take k)) ∧ Below W2.heap.size W2 wr) (fun _ i _ => n - (intOf i).toNat)
    case atStart => exact ⟨0, Nat.zero_le _, rfl, by simp [acost], Below.refl _ _⟩
    case round =>
      obtain ⟨k, hk, rfl, rfl, hbw⟩ := hrel
      have HBR := Lib.hid hbw
      clear hbw
      by_cases hlt : k < n
      · have hk2 : k < t.acc.length := by have := HN.out; omega
        have hA3 := HA2.out.mono HBR.out
        rw [HN.out] at hA3
        obtain ⟨b, o, rfl, hrg, _⟩ := acc_at hA3 (HK2.out.mono HBR.out) hk2
        obtain ⟨A9, c9, e9, _, _, l9, _⟩ := HK2.out.2.2 k hk2
        rw [e9] at hrg
        obtain ⟨q, hq⟩ : ∃ q, q = (t.acc.getD k default).kn := ⟨_, rfl⟩
        have hst := acost_step hk2
        have hca := acost_bd (t.acc.take k)
        have hsa := asum_take_le t.acc k
        have hsb := asum_take_le t.acc (k + 1)
        rw [asum_step hk2] at hsb
        rw [← hq] at hrg hst hsb
        have had : (t.acc.getD k default).ad.length = 20 := HK2.out.2.1 _ (by simp [List.getD_eq_getElem?_getD, hk2])
        obtain ⟨xs, hxs⟩ : ∃ xs : Array Value, xs = (nums .u8 (t.acc.getD k default).ad ++ [Value.slice A9 q c9]).toArray := ⟨_, rfl⟩
        have hxsz : xs.size = 21 := by rw [hxs, List.size_toArray, List.length_append, nums_length, had]; rfl
        have HZ39 : Hid ((Try.prog.info? 39).map (·.size) = some xs.size) := Lib.hid (by rw [hxsz]; kernel_rfl)
        have HZZ : Hid (21 = xs.size) := Lib.hid hxsz.symm
        have HONE : Hid (xs.all (·.oneCell') = true) := Lib.hid (by rw [hxs]; exact all_oneCell_toArray (fun v hv => by rcases List.mem_append.1 hv with h | h; exact nums_one _ _ v h; simp at h; rw [h]; rfl))
        have LX : Hid (wr.rangeAt b (o + k * 21) xs.toList) := Lib.hid (by rw [hxs]; exact hrg)
        have h20 := box_cell wr xs 39 20 (Value.slice A9 q c9) (by rw [hxs, List.getElem?_toArray, List.getElem?_append_right (by rw [nums_length]; omega), nums_length, had]; rfl)
        have hbx := below_alloc wr (.cells xs 39)
        have HBX := Lib.hid hbx
        have htb := HTS.out
        have hi0 : (0 : Int) ≤ (k : Int) := by omega
        have hi1 : (k : Int) < (n : Int) := by omega
        have hq2 : q ≤ 200000 := by omega
        obtain ⟨s, hs⟩ : ∃ s : Int, s = S + acost (t.acc.take k) := ⟨_, rfl⟩
        have hs0 : 0 ≤ s := by omega
        have hs1 : s ≤ 1000000000 := by omega
        rw [← hs]
        have HST := Lib.hid hst
        have HSS := Lib.hid hs
        clear hst hca hsa hsb hxs hxsz hrg htb hs hbx had e9 hq
        go_wp2_with (first
          | (refine wpList_load_g (by rfl) 39 (.tmp 31) rfl b (o + k * 21) rfl xs _ LX Try.underlying39 rfl HZ39 ?_)
          | (refine wpList_store_new (by rfl) 39 (.tmp 5) (.tmp 32) rfl _ xs rfl rfl HZ39 HZZ HONE ?_))
        go_roundw
        case rel => exact ⟨k + 1, by omega, by go_num, congrArg (Value.int .u64) (by have := HST.out; have := HSS.out; omega), below_step HBR.out HBX.out⟩
        case measure => simp [intOf]; omega
      · have hge : ¬ ((k : Int) < (n : Int)) := by omega
        go_wp2
        go_ret
        refine ⟨?_, HBW.out.trans (HBR.out.mono HBW.out.size)⟩
        have hkn : t.acc.take k = t.acc := List.take_of_length_le (by have := HN.out; omega)
        rw [hkn]
        have e1 := HIC.out
        have e2 := HIB.out
        have e3 := HS.out
        simp only [if_true, Bool.false_eq_true, if_false] at e2
        show Ending.returned (Value.int .u64 (S + acost t.acc)) = _
        exact congrArg (fun z => Ending.returned (Value.int .u64 z)) (by omega)
  | true =>
    go_wp2_with fail
    go_quiet ((go_at_call 12; exact Calls.quiet_of_same (HCD4.out _)))
    go_wp2_with fail
    obtain ⟨W2, hW2⟩ : ∃ W2, W2 = (w.alloc (.cells C 31)).drewN nq := ⟨_, rfl⟩
    obtain ⟨S, hS⟩ : ∃ S : Int, S = 21000 + d0 + (32000 + d4 + 2 * (((p4 : Int) + 31) / 32)) := ⟨_, rfl⟩
    have hSb : 0 ≤ S ∧ S ≤ 10000000 := by omega
    have HA2 : Hid (CellV W2 (.slice A1 n c1) n 21 (accCells t.acc kvs)) := Lib.hid (by rw [hW2]; exact HA.out.mono (below_drewN (Below.refl _ _) nq))
    have HK2 : Hid (KeysOk W2 t.acc kvs) := Lib.hid (by rw [hW2]; exact HK.out.mono (below_drewN (Below.refl _ _) nq))
    have HBW : Hid (Below w.heap.size w W2) := Lib.hid (by rw [hW2]; exact below_step HB0.out (below_drewN (Below.refl _ _) nq))
    rw [← hW2, ← hS]
    have HS := Lib.hid hS
    clear hW2 hS hd0 hd4 hl0 hl4
    go_loopw [3, 29] (fun s i wr => ∃ k : Nat, k ≤ n ∧ i = .int .i64 k ∧ s = .int .u64 (S + acost (t.acc.take k)) ∧ Below W2.heap.size W2 wr) (fun _ i _ => n - (intOf i).toNat)
    case atStart => exact ⟨0, Nat.zero_le _, rfl, by simp [acost], Below.refl _ _⟩
    case round =>
      obtain ⟨k, hk, rfl, rfl, hbw⟩ := hrel
      have HBR := Lib.hid hbw
      clear hbw
      by_cases hlt : k < n
      · have hk2 : k < t.acc.length := by have := HN.out; omega
        have hA3 := HA2.out.mono HBR.out
        rw [HN.out] at hA3
        obtain ⟨b, o, rfl, hrg, _⟩ := acc_at hA3 (HK2.out.mono HBR.out) hk2
        obtain ⟨A9, c9, e9, _, _, l9, _⟩ := HK2.out.2.2 k hk2
        rw [e9] at hrg
        obtain ⟨q, hq⟩ : ∃ q, q = (t.acc.getD k default).kn := ⟨_, rfl⟩
        have hst := acost_step hk2
        have hca := acost_bd (t.acc.take k)
        have hsa := asum_take_le t.acc k
        have hsb := asum_take_le t.acc (k + 1)
        rw [asum_step hk2] at hsb
        rw [← hq] at hrg hst hsb
        have had : (t.acc.getD k default).ad.length = 20 := HK2.out.2.1 _ (by simp [List.getD_eq_getElem?_getD, hk2])
        obtain ⟨xs, hxs⟩ : ∃ xs : Array Value, xs = (nums .u8 (t.acc.getD k default).ad ++ [Value.slice A9 q c9]).toArray := ⟨_, rfl⟩
        have hxsz : xs.size = 21 := by rw [hxs, List.size_toArray, List.length_append, nums_length, had]; rfl
        have HZ39 : Hid ((Try.prog.info? 39).map (·.size) = some xs.size) := Lib.hid (by rw [hxsz]; kernel_rfl)
        have HZZ : Hid (21 = xs.size) := Lib.hid hxsz.symm
        have HONE : Hid (xs.all (·.oneCell') = true) := Lib.hid (by rw [hxs]; exact all_oneCell_toArray (fun v hv => by rcases List.mem_append.1 hv with h | h; exact nums_one _ _ v h; simp at h; rw [h]; rfl))
        have LX : Hid (wr.rangeAt b (o + k * 21) xs.toList) := Lib.hid (by rw [hxs]; exact hrg)
        have h20 := box_cell wr xs 39 20 (Value.slice A9 q c9) (by rw [hxs, List.getElem?_toArray, List.getElem?_append_right (by rw [nums_length]; omega), nums_length, had]; rfl)
        have hbx := below_alloc wr (.cells xs 39)
        have HBX := Lib.hid hbx
        have htb := HTS.out
        have hi0 : (0 : Int) ≤ (k : Int) := by omega
        have hi1 : (k : Int) < (n : Int) := by omega
        have hq2 : q ≤ 200000 := by omega
        obtain ⟨s, hs⟩ : ∃ s : Int, s = S + acost (t.acc.take k) := ⟨_, rfl⟩
        have hs0 : 0 ≤ s := by omega
        have hs1 : s ≤ 1000000000 := by omega
        rw [← hs]
        have HST := Lib.hid hst
        have HSS := Lib.hid hs
        clear hst hca hsa hsb hxs hxsz hrg htb hs hbx had e9 hq
        go_wp2_with (first
          | (refine wpList_load_g (by rfl) 39 (.tmp 31) rfl b (o + k * 21) rfl xs _ LX Try.underlying39 rfl HZ39 ?_)
          | (refine wpList_store_new (by rfl) 39 (.tmp 5) (.tmp 32) rfl _ xs rfl rfl HZ39 HZZ HONE ?_))
        go_roundw
        case rel => exact ⟨k + 1, by omega, by go_num, congrArg (Value.int .u64) (by have := HST.out; have := HSS.out; omega), below_step HBR.out HBX.out⟩
        case measure => simp [intOf]; omega
      · have hge : ¬ ((k : Int) < (n : Int)) := by omega
        go_wp2
        go_ret
        refine ⟨?_, HBW.out.trans (HBR.out.mono HBW.out.size)⟩
        have hkn : t.acc.take k = t.acc := List.take_of_length_le (by have := HN.out; omega)
        rw [hkn]
        have e1 := HIC.out
        have e2 := HIB.out
        have e3 := HS.out
        simp only [if_true, Bool.false_eq_true, if_false] at e2
        show Ending.returned (Value.int .u64 (S + acost t.acc)) = _
        exact congrArg (fun z => Ending.returned (Value.int .u64 z)) (by omega)
end Go.Proofs.Ytlafibjcmalkdaa
