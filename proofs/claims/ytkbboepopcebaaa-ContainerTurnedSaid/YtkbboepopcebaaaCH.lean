/- ContainerTurned: the walk. -/
import Derived.Test.YtkbboepopcebaaaCG
namespace Go.Proofs.Ytkbboepopcebaaa
open Go.RowKit

section
variable {ops : Array Oper} {rest : List Oper} {o : Oper} {a : Act} {Q : Exit → Act → World → Prop}
/-- append(v, numbers...), these in a block that has just been made. -/
theorem app_ints {W : World} (new : List Int) (cs : Array Value) (m : Nat) (hcs : cs = (nums .i64 new).toArray) (hm : new.length = m) (s x : Operand) (hgd : o.guard = none) (ho : o.op = .call { callee := .builtin .append, args := #[s, x], argTypes := #[41, 41] })
    (B : Nat) (v : Value) (l : List Int) (hs : a.eval s = v) (HO : Hid (W.ownsRow B 3 1 v l.length (nums .i64 l))) (hx : a.eval x = .slice (some ⟨W.heap.size, 0, none⟩) m m) (hB : B ≤ W.heap.size) (hl : Hid (l.length + m ≤ 4398046511104))
    (h : ∀ v' w', w'.ownsRow B 3 1 v' (l.length + m) (nums .i64 (l ++ new)) → Below B W w' → wpList Try.prog ops Q rest (a.put o.dst v') w') : wpList Try.prog ops Q (o :: rest) a (W.alloc (.cells cs 3)) := by
  subst hcs
  obtain ⟨i0, hi, hz0, hz1, hz2⟩ := info_parts infoI
  have hb := below_alloc W (.cells (nums .i64 new).toArray 3)
  have h3 := hl.out
  have hn := World.news_of_block (w := W.alloc (.cells (nums .i64 new).toArray 3)) (B := W.heap.size) (cs := (nums .i64 new).toArray) (t := 3) (fr := (0, 0)) (heap_alloc_new W _)
  have h1 := own_below HO.out hb
  refine wpList_append_own_at _ hgd s x 41 ho B 3 i0 (.int .i64 0) 1 8 Try.underlying41 hi hz0 hz1 hz2 (by decide) (by decide) v l.length (nums .i64 l) hs h1 ⟨W.heap.size, 0, none⟩ m m (nums .i64 new) hx (by rw [nums_length, hm, Nat.mul_one]) (by simpa using hn) (nums_one _ _) (by unfold maxLen; omega) (by omega) (by simp; omega) ?_
  intro v' w' hown hg _ _
  refine h v' w' ?_ (((Below.refl _ _).alloc hB _).trans ((Below.refl _ _).grown hg (by simp; omega) (own_ge h1)))
  rw [nums_append]
  exact hown
end
theorem below_on {B B' : Nat} {w w1 w2 : World} (h : Below B w w1) (k : Below B' w1 w2) (hh : B ≤ B') : Below B w w2 :=
  ⟨k.os.trans h.os, k.tape.trans h.tape, k.output.trans h.output, Nat.le_trans h.size k.size, fun i hi => (k.block i (by omega)).trans (h.block i hi)⟩
/-- The places, as the program lists them. -/
def placesL (n m : Nat) : List Int := if m = 0 then [0, 1, 2, 3, 6, (9 + 2 * n : Nat), (9 + 2 * n + 3 : Nat)] else [0, 1, 2, 3, 6, (9 + 2 * n : Nat), (9 + 2 * n + 3 + 4 * m : Nat), (9 + 2 * n + 3 + 4 * m + 3 : Nat)]
theorem placesL_len (n m : Nat) : 7 ≤ (placesL n m).length ∧ (placesL n m).length ≤ 8 := by unfold placesL; split <;> simp
theorem placesL_place (n m i : Nat) (h : i < (placesL n m).length) : ∃ p : Nat, (placesL n m).getD i 0 = p ∧ Place n m p := by
  unfold placesL at h ⊢
  unfold Place
  split at h <;> rename_i g
  · rw [if_pos g]
    simp only [List.length_cons, List.length_nil] at h
    match i, h with
    | 0, _ => exact ⟨0, rfl, by omega⟩
    | 1, _ => exact ⟨1, rfl, by omega⟩
    | 2, _ => exact ⟨2, rfl, by omega⟩
    | 3, _ => exact ⟨3, rfl, by omega⟩
    | 4, _ => exact ⟨6, rfl, by omega⟩
    | 5, _ => exact ⟨9 + 2 * n, rfl, by omega⟩
    | 6, _ => exact ⟨9 + 2 * n + 3, rfl, by omega⟩
  · rw [if_neg g]
    simp only [List.length_cons, List.length_nil] at h
    match i, h with
    | 0, _ => exact ⟨0, rfl, by omega⟩
    | 1, _ => exact ⟨1, rfl, by omega⟩
    | 2, _ => exact ⟨2, rfl, by omega⟩
    | 3, _ => exact ⟨3, rfl, by omega⟩
    | 4, _ => exact ⟨6, rfl, by omega⟩
    | 5, _ => exact ⟨9 + 2 * n, rfl, by omega⟩
    | 6, _ => exact ⟨9 + 2 * n + 3 + 4 * m, rfl, by omega⟩
    | 7, _ => exact ⟨9 + 2 * n + 3 + 4 * m + 3, rfl, by omega⟩
theorem tmod_facts' (a : Int) (N : Nat) (hN : 0 < N) : -(N : Int) < a.tmod N ∧ a.tmod N < N :=
  ⟨Int.lt_tmod_of_pos a (show (0 : Int) < N by omega), Int.tmod_lt_of_pos a (show (0 : Int) < N by omega)⟩
theorem nums_put {w : World} {g n c : Nat} {b : List Int} (h : NumsV w .u8 (.slice (some ⟨g, 0, none⟩) n c) b) (hn : b.length = n) (p : Nat) (v : Int) (hp : p < n) : NumsV (w.setCell ⟨g, p, none⟩ (.int .u8 v)) .u8 (.slice (some ⟨g, 0, none⟩) n c) (b.set p v) := by
  obtain ⟨A', c', e, h1, h2, h3⟩ := h
  injection e with e1 e2 e3
  subst e1 e3
  refine ⟨_, c, by rw [List.length_set, hn], by rw [List.length_set]; exact h1, by simp, by rw [List.length_set]; exact h3.1, fun h0 => ⟨g, 0, rfl, fun j hj => ?_⟩⟩
  rw [List.length_set] at hj
  obtain ⟨b1, o1, e, hc⟩ := h3.2 (by omega)
  have e2 := Option.some.inj e
  injection e2 with e3 e4
  subst e3
  subst e4
  have hcj := hc j hj
  by_cases hjp : j = p
  · subst hjp
    rw [Nat.zero_add, World.cell?_setCell_same _ _ _ (by rw [Nat.zero_add] at hcj; exact hcj)]
    simp [List.getD_eq_getElem?_getD, hj]
  · rw [World.cell?_setCell_other _ _ _ _ (by first | (simp; omega) | (simp [hjp]) | (simp [Ne.symm hjp])), hcj]
    simp [List.getD_eq_getElem?_getD, List.getElem?_set, show ¬ p = j by omega]
/-- Serialize, its bytes in a block of their own. -/
def SerO (b : List Int) (n : Nat) (w : World) (e : Ending) (w' : World) : Prop := ∃ g c, e = .returned (.tuple #[.slice (some ⟨g, 0, none⟩) n c, .int .i64 0]) ∧ NumsV w' .u8 (.slice (some ⟨g, 0, none⟩) n c) b ∧ w.heap.size ≤ g ∧ (∀ j, w'.frozen? ⟨g, j, none⟩ = false) ∧ Below w.heap.size w w'
theorem ser_o (v : Value) (c : Cont) (n : Nat) (w : World) (h : ContV w v c) (hm : May c) (hn : (serB c).length = n) (hr : n ≤ reach) : Calls Try.prog 25 #[v] w (SerO (serB c) n w) := by
  have h20 := ser_20 hm
  refine (ser_any v c w h).mono ?_
  rintro e w' ⟨v', rfl, ho, hb⟩
  rw [serR, if_pos (of_may hm)] at ho
  have hv := ho.reads (by omega)
  rcases ho.2 with ⟨rfl, h4⟩ | ⟨g, cap, cur, rfl, hBg, hheap, _⟩
  · omega
  · subst hn
    rw [of_may hm]
    exact ⟨g, cap, rfl, hv, hBg, fun j => frozen_of_row w' g j cur 5 hheap, hb⟩

set_option maxRecDepth 100000 in
set_option maxHeartbeats 16000000 in
theorem turned_any (v : Value) (c : Cont) (which by_ : Int) (w : World) (h : ContV w v c) (hok : ContOk c) (hby0 : 0 ≤ by_ ∧ by_ ≤ 255) :
    Calls Try.prog 9 #[v, .int .i64 which, .int .u8 by_] w (TruePost w) := by
  obtain ⟨vt, vc, vs, vd, rfl, ⟨A0, c0, rfl, i1, i2, hr0, ht⟩, ⟨A1, c1, rfl, j1, j2, hc⟩, ⟨A2, c2, rfl, k1, k2, hs⟩, ⟨A3, c3, rfl, l1, l2, hd⟩⟩ := h
  have hcv : ContV w (.agg #[.slice A0 c.types.length c0, .slice A1 c.codes.length c1, .slice A2 c.subs.length c2, .slice A3 c.data.length c3, .int .i64 c.size]) c := ⟨_, _, _, _, rfl, ⟨A0, c0, rfl, i1, i2, hr0, ht⟩, ⟨A1, c1, rfl, j1, j2, hc⟩, ⟨A2, c2, rfl, k1, k2, hs⟩, ⟨A3, c3, rfl, l1, l2, hd⟩⟩
  clear i1 i2 hr0 ht j1 j2 hc k1 k2 hs l1 l2 hd
  obtain ⟨n0, h0⟩ : ∃ n0, n0 = c.types.length := ⟨_, rfl⟩
  obtain ⟨n1, h1⟩ : ∃ n1, n1 = c.codes.length := ⟨_, rfl⟩
  obtain ⟨n2, h2⟩ : ∃ n2, n2 = c.subs.length := ⟨_, rfl⟩
  obtain ⟨n3, h3⟩ : ∃ n3, n3 = c.data.length := ⟨_, rfl⟩
  obtain ⟨s, h4⟩ : ∃ s, s = c.size := ⟨_, rfl⟩
  rw [← h0, ← h1, ← h2, ← h3, ← h4] at hcv ⊢
  have HN0 := Lib.hid h0
  have HN1 := Lib.hid h1
  have HN2 := Lib.hid h2
  have HN3 := Lib.hid h3
  have HSZ := Lib.hid h4
  have HCV0 := Lib.hid hcv
  have HOK := Lib.hid hok
  clear h0 h1 h2 h3 h4 hcv hok
  have HBY := Lib.hid hby0
  clear hby0
  go_enter Try.func9, Try.ntmps9
  have hkb := kc_new w (.slice A0 n0 c0) (.slice A1 n1 c1) (.slice A2 n2 c2) (.slice A3 n3 c3) (.int .i64 s)
  have hzb : Below w.heap.size w (w.alloc (.cells #[.slice A0 n0 c0, .slice A1 n1 c1, .slice A2 n2 c2, .slice A3 n3 c3, .int .i64 s] 28)) := below_alloc _ _
  obtain ⟨y0, hy0⟩ : ∃ y0, y0 = (w.alloc (.cells #[.slice A0 n0 c0, .slice A1 n1 c1, .slice A2 n2 c2, .slice A3 n3 c3, .int .i64 s] 28)) := ⟨_, rfl⟩
  obtain ⟨X0, hX0⟩ : ∃ X0, X0 = w.heap.size := ⟨_, rfl⟩
  rw [← hy0, ← hX0] at hkb
  rw [← hy0] at hzb
  have HK0 := Lib.hid hkb
  have HZ0 := Lib.hid hzb
  have HCV := Lib.hid (HCV0.out.mono hzb)
  clear hkb hzb HCV0
  go_wp2_with fail
  rw [← hy0, ← hX0]
  clear hy0 hX0
  refine (weight_any _ c _ HCV.out).mono ?_
  rintro e w1 ⟨r, rfl, hr, hb⟩
  have HSw1 := Lib.hid hb
  have HR := Lib.hid hr
  clear hb hr
  by_cases hq : (2097152 : Int) < r
  · clear HR
    obtain ⟨k00, k01, k02, k03, k04⟩ := HK0.out.below HSw1.out
    go_wp2
    go_ret
    exact ⟨rfl, (below_step HZ0.out HSw1.out)⟩
  have HSM : Hid (Small c) := Lib.hid (HR.out (by omega))
  clear HR
  have HABLE : ∀ W, Calls Try.prog 14 #[] W (TruePost W) := able_any
  have HAB := Lib.hid HABLE
  clear HABLE
  go_wp2_with fail
  refine (HAB.out _).mono ?_
  rintro e w2 ⟨rfl, hb⟩
  have HSw2 := Lib.hid hb
  clear hb
  clear hq
  obtain ⟨k00, k01, k02, k03, k04⟩ := HK0.out.below (below_step HSw1.out HSw2.out)
  go_wp2_with fail
  refine (may_any _ c _ (HCV.out.mono (below_step HSw1.out HSw2.out))).mono ?_
  rintro e w3 ⟨rfl, hb⟩
  have HSw3 := Lib.hid hb
  clear hb
  clear k00 k01 k02 k03 k04
  by_cases hmay : ¬ checkErr c = 0
  · have q1 : decide (checkErr c = 0) = false := by simp [hmay]
    rw [q1]
    clear q1 hmay
    go_wp2
    go_ret
    exact ⟨rfl, (below_step (below_step (below_step HZ0.out HSw1.out) HSw2.out) HSw3.out)⟩
  have q1 : decide (checkErr c = 0) = true := by simpa using hmay
  rw [q1]
  have HMY : Hid (May c) := Lib.hid (may_of c (by simpa using hmay))
  clear q1 hmay
  obtain ⟨k00, k01, k02, k03, k04⟩ := HK0.out.below (below_step (below_step HSw1.out HSw2.out) HSw3.out)
  by_cases hd : by_ = 0
  · have q1 : (by_ == 0) = true := by simp [hd]
    go_wp2
    go_ret
    exact ⟨rfl, (below_step (below_step (below_step HZ0.out HSw1.out) HSw2.out) HSw3.out)⟩
  have q1 : (by_ == 0) = false := by simpa using hd
  have HBP : Hid (0 < by_ ∧ by_ ≤ 255) := Lib.hid (by have := HBY.out; omega)
  clear hd
  obtain ⟨b, hb⟩ : ∃ b, b = serB c := ⟨_, rfl⟩
  obtain ⟨N, hN⟩ : ∃ N, N = b.length := ⟨_, rfl⟩
  have hbig : N ≤ 2200000 := by rw [hN, hb]; exact small_len HMY.out HSM.out
  have hlt : ∀ p, Place n1 n2 p → p < N := fun p hp => by rw [hN, hb]; exact place_lt HMY.out (by rw [← HN1.out, ← HN2.out]; exact hp)
  have hbad : ∀ p, Place n1 n2 p → ∀ o, ∃ x, parse (b.set p (bits .xor .u8 (b.getD p 0) by_)) o = .error x ∧ x.1 ≠ 0 := fun p hp o => by
    have hyb := byt_get (byt_ser HOK.out) p
    have hx := xor_turn ((serB c).getD p 0) by_ hyb HBP.out
    rw [hb]
    exact turned_bad HMY.out HOK.out (by rw [← HN1.out, ← HN2.out]; exact hp) (by rw [num_one]; exact hx.1) hx.2 o
  have hyb : Byt b := by rw [hb]; exact byt_ser HOK.out
  have HSERC : Hid (∀ W v, ContV W v c → Calls Try.prog 25 #[v] W (SerO b N W)) := Lib.hid fun W v h => by
    have := ser_o v c N W h HMY.out (by rw [hN, hb]) (by unfold reach; omega)
    rwa [← hb] at this
  have HLT := Lib.hid hlt
  have HBAD := Lib.hid hbad
  have HYB := Lib.hid hyb
  have HNB := Lib.hid hN
  have HBIG := Lib.hid hbig
  have HF : Hid (Fits c) := Lib.hid HSM.out.fits
  have h1k : n1 ≤ 1024 := by have := HMY.out.codes2; have := HN1.out; omega
  have h2k : n2 ≤ 256 := by have := HMY.out.subs; have := HN2.out; omega
  have HK12 : Hid (n1 ≤ 1024 ∧ n2 ≤ 256) := Lib.hid ⟨h1k, h2k⟩
  clear hb hlt hbad hyb hN hbig
  go_wp2_with fail
  refine (twin_c _ c _ (HCV.out.mono (below_step (below_step HSw1.out HSw2.out) HSw3.out)) HF.out).mono ?_
  rintro e w4 ⟨v3, rfl, hv3, hb⟩
  have HSw4 := Lib.hid hb
  clear hb
  have HV3 := Lib.hid hv3
  clear hv3 q1
  clear k00 k01 k02 k03 k04
  go_wp2_with fail
  refine (HSERC.out _ _ HV3.out).mono ?_
  rintro e w5 ⟨gb, c4, rfl, hn4, hge, hfz, hb⟩
  have HSw5 := Lib.hid hb
  clear hb
  have HN4 := Lib.hid hn4
  have HGE : Hid (w.heap.size ≤ gb) := Lib.hid (by have := (below_step (below_step (below_step (below_step HZ0.out HSw1.out) HSw2.out) HSw3.out) HSw4.out).size; omega)
  have HFZ := Lib.hid hfz
  clear hn4 hge hfz
  go_upto_region 11 with (fail)
  have HR9 : Hid ((w5.alloc (.cells #[.int .i64 0, .int .i64 1, .int .i64 2, .int .i64 3, .int .i64 6] 3)).ownsRow w5.heap.size 3 1 (.slice (some ⟨w5.heap.size, 0, none⟩) 5 5) 5 (nums .i64 [0, 1, 2, 3, 6])) := Lib.hid (own_lit w5 #[.int .i64 0, .int .i64 1, .int .i64 2, .int .i64 3, .int .i64 6] 3 5 rfl (by decide))
  have hb9 := below_alloc w5 (.cells #[.int .i64 0, .int .i64 1, .int .i64 2, .int .i64 3, .int .i64 6] 3)
  obtain ⟨wb, hwb⟩ : ∃ wb, wb = w5.alloc (.cells #[.int .i64 0, .int .i64 1, .int .i64 2, .int .i64 3, .int .i64 6] 3) := ⟨_, rfl⟩
  obtain ⟨gp, hgp⟩ : ∃ gp, gp = w5.heap.size := ⟨_, rfl⟩
  rw [← hwb] at HR9 hb9 ⊢
  rw [← hgp] at HR9 ⊢
  have HSwb := Lib.hid hb9
  have HGP := Lib.hid hgp
  have HGPL : Hid (gp ≤ wb.heap.size) := Lib.hid (by rw [hgp]; exact hb9.size)
  clear hwb hb9 hgp
  obtain ⟨k00, k01, k02, k03, k04⟩ := HK0.out.below (below_step (below_step (below_step (below_step (below_step HSw1.out HSw2.out) HSw3.out) HSw4.out) HSw5.out) HSwb.out)
  obtain ⟨a1, ha1⟩ : ∃ a1, a1 = 2 * n1 := ⟨_, rfl⟩
  obtain ⟨q0, hq0⟩ : ∃ q0, q0 = 9 + a1 := ⟨_, rfl⟩
  have hw1 : IntKind.i64.wrap (2 * (n1 : Int)) = (a1 : Int) := by rw [IntWalk.i64_in _ (by omega)]; omega
  have hw2 : IntKind.i64.wrap (9 + (a1 : Int)) = (q0 : Int) := by rw [IntWalk.i64_in _ (by omega)]; omega
  have HQ0 : Hid (q0 = 9 + 2 * n1) := Lib.hid (by omega)
  go_upto_if 45 with (fail)
  clear hw1 hw2
  rw [show (9 + 2 * (n1 : Int)) = (q0 : Int) by omega]
  go_cut [9, 10] (fun v9 v10 wx => ∃ (q : Nat) (L : List Int), v10 = .int .i64 q ∧ q ≤ 4096 ∧ wx.ownsRow gp 3 1 v9 L.length (nums .i64 L) ∧ Below gp wb wx ∧ L ++ [(q : Int), (q + 3 : Nat)] = placesL n1 n2)
  case first =>
    by_cases hm0 : n2 = 0
    · subst hm0
      go_wp2_with fail
      go_meet
      exact ⟨q0, [0, 1, 2, 3, 6], rfl, by omega, HR9.out, Below.refl _ _, by rw [HQ0.out]; unfold placesL; rw [if_pos rfl]; rfl⟩
    · have hm1 : (0 : Int) < n2 := by omega
      obtain ⟨a2, ha2⟩ : ∃ a2, a2 = 4 * n2 := ⟨_, rfl⟩
      obtain ⟨q1, hq1⟩ : ∃ q1, q1 = q0 + 3 := ⟨_, rfl⟩
      obtain ⟨q2, hq2⟩ : ∃ q2, q2 = q1 + a2 := ⟨_, rfl⟩
      have hw1 : IntKind.i64.wrap ((q0 : Int) + 3) = (q1 : Int) := by rw [IntWalk.i64_in _ (by omega)]; omega
      have hw2 : IntKind.i64.wrap (4 * (n2 : Int)) = (a2 : Int) := by rw [IntWalk.i64_in _ (by omega)]; omega
      have hw3 : IntKind.i64.wrap ((q1 : Int) + (a2 : Int)) = (q2 : Int) := by rw [IntWalk.i64_in _ (by omega)]; omega
      have HQ2 : Hid (q2 = 9 + 2 * n1 + 3 + 4 * n2) := Lib.hid (by rw [hq2, hq1, ha2, HQ0.out])
      have HQ2L : Hid (q2 ≤ 4096) := Lib.hid (by omega)
      clear ha2 hq1 hq2 ha1 hq0
      go_wp2_with (at_builtin; refine app_ints [(q0 : Int)] _ 1 rfl rfl (.tmp 46) (.tmp 48) rfl rfl gp _ [0, 1, 2, 3, 6] rfl HR9 rfl HGPL.out (Lib.hid (by simp)) ?_)
      intro v9 w9 ho hb
      have HO9 := Lib.hid ho
      have HB9 := Lib.hid hb
      have hbx := hb
      obtain ⟨l00, l01, l02, l03, l04⟩ := HK0.out.below (below_on (below_step (below_step (below_step (below_step (below_step HSw1.out HSw2.out) HSw3.out) HSw4.out) HSw5.out) HSwb.out) hb (by rw [HGP.out]; exact ((below_step (below_step (below_step (below_step HSw1.out HSw2.out) HSw3.out) HSw4.out) HSw5.out)).size))
      clear k00 k01 k02 k03 k04
      go_wp2_with fail
      go_meet
      exact ⟨q2, [0, 1, 2, 3, 6, (q0 : Int)], congrArg (Value.int .i64) (by have := HQ2.out; have := HQ0.out; omega), HQ2L.out, HO9.out, HB9.out, by rw [HQ2.out, HQ0.out]; unfold placesL; rw [if_neg hm0]; rfl⟩
  case rest =>
    obtain ⟨q, L, rfl, hq, ho, hb, hL⟩ := hcut
    have HSwc : Hid (Below w5.heap.size w5 wc) := Lib.hid (below_on HSwb.out hb (by rw [HGP.out]; exact Nat.le_refl _))
    clear k00 k01 k02 k03 k04 HR9 HQ0 hq0 ha1 h1k h2k hb
    obtain ⟨A9, c9, rfl, _⟩ := own_shape ho
    obtain ⟨q3, hq3⟩ : ∃ q3, q3 = q + 3 := ⟨_, rfl⟩
    have hw : IntKind.i64.wrap ((q : Int) + 3) = (q3 : Int) := by rw [IntWalk.i64_in _ (by omega)]; omega
    rw [← hq3] at hL
    obtain ⟨kk, hkk⟩ : ∃ kk, kk = L.length + 2 := ⟨_, rfl⟩
    have hkl : (placesL n1 n2).length = kk := by rw [← hL, hkk]; simp
    have hk7 : 7 ≤ kk ∧ kk ≤ 8 := by rw [← hkl]; exact placesL_len n1 n2
    have HO9 := Lib.hid ho
    have HLL := Lib.hid hL
    have HKK := Lib.hid hkk
    have HKL := Lib.hid hkl
    have HK7 := Lib.hid hk7
    have HGC : Hid (gp ≤ wc.heap.size) := Lib.hid (by rw [HGP.out]; exact HSwc.out.size)
    have HLN : Hid (L.length + 2 ≤ 4398046511104) := Lib.hid (by omega)
    clear hq hq3 ho hL hkk hkl hk7
    go_wp2_with (at_builtin; refine app_ints [(q : Int), (q3 : Int)] _ 2 rfl rfl (.tmp 57) (.tmp 61) rfl rfl gp _ L rfl HO9 rfl HGC.out HLN ?_)
    intro v10 wt ho hb
    rw [HLL.out, ← HKK.out] at ho
    have HSwt : Hid (Below w5.heap.size w5 wt) := Lib.hid (below_on HSwc.out hb (by rw [HGP.out]; exact Nat.le_refl _))
    clear hb hw
    rcases ho.2 with ⟨rfl, h4⟩ | ⟨gq, cap, cur, rfl, hq1, hq2, hq3, _⟩
    · exact absurd h4 (by have := HK7.out; omega)
    have HOT := Lib.hid ho
    clear ho
    have hkz : ¬ (kk : Int) = 0 := by have := HK7.out; omega
    obtain ⟨r1, r2⟩ := tmod_facts' which kk (by have := HK7.out; omega)
    have hkk8 : kk ≤ 8 := HK7.out.2
    have hw : IntKind.i64.wrap (which.tmod (kk : Int)) = which.tmod (kk : Int) := IntWalk.i64_in _ (by omega)
    obtain ⟨rm, hrm⟩ : ∃ rm, rm = which.tmod (kk : Int) := ⟨_, rfl⟩
    rw [← hrm] at r1 r2
    go_upto_if 68 with (fail)
    rw [← hrm]
    clear hrm hw
    go_cut [11] (fun v wx => ∃ i : Nat, i < kk ∧ v = .int .i64 i ∧ wx = wt)
    case first =>
      by_cases hneg : rm < 0
      · obtain ⟨p, hp⟩ : ∃ p : Nat, rm + (kk : Int) = p := ⟨(rm + kk).toNat, by omega⟩
        have hw : IntKind.i64.wrap (rm + (kk : Int)) = (p : Int) := by rw [IntWalk.i64_in _ (by omega)]; exact hp
        have hpN : p < kk := by omega
        clear hp r1 r2 hkk8
        go_wp2_with fail
        go_meet
        exact ⟨p, hpN, rfl, rfl⟩
      · obtain ⟨p, hp⟩ : ∃ p : Nat, rm = p := ⟨rm.toNat, by omega⟩
        subst hp
        have hpN : p < kk := by omega
        have hneg2 : (0 : Int) ≤ p := by omega
        clear hneg r1 r2
        go_wp2_with fail
        go_meet
        exact ⟨p, hpN, rfl, rfl⟩
    case rest =>
      obtain ⟨i, hi, rfl, rfl⟩ := hcut
      clear r1 r2 hkz
      obtain ⟨p, hpv, hpl⟩ := placesL_place n1 n2 i (by rw [HKL.out]; exact hi)
      have hpN := HLT.out p hpl
      have hcell := HOT.out.cells (g := gq) rfl i (.int .i64 p) (by
        have hh : i < (placesL n1 n2).length := by rw [HKL.out]; exact hi
        rw [← hpv]
        simp [nums, List.getD_eq_getElem?_getD, hh])
      rw [Addr.add_lit] at hcell
      simp only [Nat.zero_add] at hcell
      have hbp : ∀ W, NumsV W .u8 (.slice (some ⟨gb, 0, none⟩) N c4) b → W.cell? ⟨gb, p, none⟩ = some (.int .u8 (b.getD p 0)) := fun W h => by
        obtain ⟨A', c', e, _, _, h3⟩ := h
        injection e with e1 e2 e3
        subst e1
        obtain ⟨b1, o1, e, hc⟩ := h3.2 (by have := HNB.out; omega)
        have e2 := Option.some.inj e
        injection e2 with e3 e4
        subst e3
        subst e4
        have := hc p (by have := HNB.out; omega)
        rw [Nat.zero_add] at this
        exact this
      have hn4 := HN4.out.mono HSwt.out
      have hbc := hbp wc hn4
      have hlt4 := World.block_lt_of_cell? _ _ (hbp _ HN4.out)
      have hblk := HSwt.out.block gb hlt4
      have hfz : ∀ j, wc.frozen? ⟨gb, j, none⟩ = false := fun j => (World.frozen?_of_block (w := w5) hblk).trans (HFZ.out j)
      obtain ⟨x, hx⟩ : ∃ x, x = b.getD p 0 := ⟨_, rfl⟩
      rw [← hx] at hbc
      obtain ⟨vv, hvv⟩ : ∃ vv, vv = bits .xor .u8 x by_ := ⟨_, rfl⟩
      have hbad1 := HBAD.out p hpl
      rw [← hx, ← hvv] at hbad1
      have hbb := byt_put (q := p) HYB.out (xor_turn x by_ (by rw [hx]; exact byt_get HYB.out p) HBP.out).2
      rw [← hvv] at hbb
      have hnn := nums_put hn4 HNB.out.symm p vv hpN
      have hgr := grown_setCell wc gb p (.int .u8 vv)
      have hbw : Below w.heap.size w wc := below_step ((below_step (below_step (below_step (below_step (below_step HZ0.out HSw1.out) HSw2.out) HSw3.out) HSw4.out) HSw5.out)) HSwt.out
      have hbw2 := hbw.grown hgr hbw.size (by rintro k ⟨⟩; exact HGE.out)
      have HPN := Lib.hid hpN
      have HBB := Lib.hid hbb
      have HBADP := Lib.hid hbad1
      have HVV := Lib.hid hvv
      have hin : (i : Int) < (kk : Int) := by omega
      have hi0 : (0 : Int) ≤ (i : Int) := by omega
      have hp0 : (0 : Int) ≤ (p : Int) := by omega
      have hpi : (p : Int) < (N : Int) := by omega
      have hnn := hnn.mono (Below.refl _ _).drew
      have hbw2 := hbw2.drew
      obtain ⟨y5, hy5⟩ : ∃ y5, y5 = (wc.setCell ⟨gb, p, none⟩ (.int .u8 vv)).drew := ⟨_, rfl⟩
      rw [← hy5] at hnn hbw2
      rw [hvv] at hy5
      have HNN := Lib.hid hnn
      have HBW2 := Lib.hid hbw2
      have HBL : Hid ((b.set p vv).length = N) := Lib.hid (by rw [List.length_set, HNB.out])
      clear hbad1 hbb hnn hgr hbw hbw2 hn4 hblk hlt4 hbp hpv hx hvv
      go_upto_region 21 with (fail)
      go_cut [11] (fun v wx => v = .int .i64 i ∧ wx = y5)
      case first =>
        go_region_law ((fail))
        all_goals (go_wp2_with fail; go_meet; exact ⟨rfl, hy5.symm⟩)
      case rest =>
        obtain ⟨rfl, hwx⟩ := hcut
        subst hwx
        clear hy5 hbc hfz hcell hin hi0 hp0 hpi
        obtain ⟨⟨x1, s1⟩, hp1, hx1⟩ := HBADP.out false
        obtain ⟨⟨x2, s2⟩, hp2, hx2⟩ := HBADP.out true
        simp only at hx1 hx2
        have q1 : ((x1 : Int) != 0) = true := by simp [hx1]
        have q2 : ((x2 : Int) != 0) = true := by simp [hx2]
        have q3 : (!((x1 : Int) == 0)) = true := by simp [hx1]
        have q4 : (!((x2 : Int) == 0)) = true := by simp [hx2]
        obtain ⟨bb, hbb⟩ : ∃ bb, bb = b.set p vv := ⟨_, rfl⟩
        rw [← hbb] at HBL HNN HBB hp1 hp2
        have HP1 : Hid (∀ W A' c', NumsV W .u8 (.slice A' N c') bb → Calls Try.prog 29 #[.slice A' N c', .bool false] W (NoPost x1 s1 W)) := Lib.hid fun W A' c' h => parse_noc hp1 A' N c' W h HBB.out HBL.out
        have HP2 : Hid (∀ W A' c', NumsV W .u8 (.slice A' N c') bb → Calls Try.prog 29 #[.slice A' N c', .bool true] W (NoPost x2 s2 W)) := Lib.hid fun W A' c' h => parse_noc hp2 A' N c' W h HBB.out HBL.out
        clear hp1 hp2 hx1 hx2 hbb
        go_wp2_with fail
        refine (own_sl _ bb N _ HNN.out HBL.out).mono ?_
        rintro e w6 ⟨A5, c5, rfl, hn5, hb⟩
        have HSw6 := Lib.hid hb
        clear hb
        have HN5 := Lib.hid hn5
        clear hn5
        go_wp2_with fail
        refine (HP1.out _ _ _ HN5.out).mono ?_
        rintro e w7 ⟨rfl, hb⟩
        have HSw7 := Lib.hid hb
        clear hb
        have hkb := kb_new w7 (.slice none 0 0) (.slice none 0 0) (.slice none 0 0) (.slice none 0 0) (.int .i64 0) x1 s1
        have hzb : Below w7.heap.size w7 ((w7.alloc (.cells #[.slice none 0 0, .slice none 0 0, .slice none 0 0, .slice none 0 0, .int .i64 0] 28)).alloc (.cells #[.int .i64 x1, .slice none 0 0, .int .i64 0, .int .i64 s1] 43)) := below_step (below_alloc _ _) (below_alloc _ _)
        obtain ⟨y1, hy1⟩ : ∃ y1, y1 = ((w7.alloc (.cells #[.slice none 0 0, .slice none 0 0, .slice none 0 0, .slice none 0 0, .int .i64 0] 28)).alloc (.cells #[.int .i64 x1, .slice none 0 0, .int .i64 0, .int .i64 s1] 43)) := ⟨_, rfl⟩
        obtain ⟨X1, hX1⟩ : ∃ X1, X1 = w7.heap.size := ⟨_, rfl⟩
        obtain ⟨Y1, hY1⟩ : ∃ Y1, Y1 = X1 + 1 := ⟨_, rfl⟩
        rw [← hy1, ← hX1, ← hY1] at hkb
        rw [← hy1] at hzb
        have HK1 := Lib.hid hkb
        have HZ1 := Lib.hid hzb
        clear hkb hzb
        go_wp2_with fail
        rw [← hy1, ← hX1, ← hY1]
        clear hy1 hX1 hY1
        refine (own_sl _ bb N _ (HNN.out.mono (below_step (below_step HSw6.out HSw7.out) HZ1.out)) HBL.out).mono ?_
        rintro e w8 ⟨A6, c6, rfl, hn6, hb⟩
        have HSw8 := Lib.hid hb
        have HN6 := Lib.hid hn6
        clear hb hn6
        go_wp2_with fail
        refine (HP2.out _ _ _ HN6.out).mono ?_
        rintro e w9 ⟨rfl, hb⟩
        have HSw9 := Lib.hid hb
        clear hb
        have hkb := kb_new w9 (.slice none 0 0) (.slice none 0 0) (.slice none 0 0) (.slice none 0 0) (.int .i64 0) x2 s2
        have hzb : Below w9.heap.size w9 ((w9.alloc (.cells #[.slice none 0 0, .slice none 0 0, .slice none 0 0, .slice none 0 0, .int .i64 0] 28)).alloc (.cells #[.int .i64 x2, .slice none 0 0, .int .i64 0, .int .i64 s2] 43)) := below_step (below_alloc _ _) (below_alloc _ _)
        obtain ⟨y2, hy2⟩ : ∃ y2, y2 = ((w9.alloc (.cells #[.slice none 0 0, .slice none 0 0, .slice none 0 0, .slice none 0 0, .int .i64 0] 28)).alloc (.cells #[.int .i64 x2, .slice none 0 0, .int .i64 0, .int .i64 s2] 43)) := ⟨_, rfl⟩
        obtain ⟨X2, hX2⟩ : ∃ X2, X2 = w9.heap.size := ⟨_, rfl⟩
        obtain ⟨Y2, hY2⟩ : ∃ Y2, Y2 = X2 + 1 := ⟨_, rfl⟩
        rw [← hy2, ← hX2, ← hY2] at hkb
        rw [← hy2] at hzb
        have HK2 := Lib.hid hkb
        have HZ2 := Lib.hid hzb
        clear hkb hzb
        go_upto_region 24 with (fail)
        rw [← hy2, ← hX2, ← hY2]
        clear hy2 hX2 hY2
        obtain ⟨k10, k11, k12, k13, k14, l10, l11, l12, l13⟩ := HK1.out.below (below_step (below_step HSw8.out HSw9.out) HZ2.out)
        obtain ⟨k20, k21, k22, k23, k24, l20, l21, l22, l23⟩ := HK2.out
        go_wp2
        go_ret
        exact ⟨rfl, (below_step (below_step (below_step (below_step (below_step (below_step HBW2.out HSw6.out) HSw7.out) HZ1.out) HSw8.out) HSw9.out) HZ2.out)⟩
theorem turned_law (v : Value) (c : Cont) (which by_ : Int) (w : World) (h : ContV w v c) (hok : ContOk c) {P : Prop} (_h1 : P) (hb : (Lit.int .u8 by_).wf = true) : Calls Try.prog 9 #[v, .int .i64 which, .int .u8 by_] w (TruePost w) :=
  turned_any v c which by_ w h hok (by simp [Lit.wf, IntKind.min, IntKind.max, IntKind.signed, IntKind.bits] at hb; exact hb)
end Go.Proofs.Ytkbboepopcebaaa
