/- longer and over: the walks. -/
import Derived.Test.YtkbboepopcebaaaAM
namespace Go.Proofs.Ytkbboepopcebaaa
open Go.RowKit

/-- A container of like lengths. -/
def Near (a b c : Nat) (x y : Cont) : Prop := y.types.length = x.types.length ∧ y.codes.length = x.codes.length ∧ y.subs.length = x.subs.length ∧ y.data.length = x.data.length ∧ wt y.codes ≤ wt x.codes + a ∧ wt y.subs ≤ wt x.subs + b ∧ c = 0
theorem Near.refl (a b : Nat) (x : Cont) : Near a b 0 x x := ⟨rfl, rfl, rfl, rfl, by omega, by omega, rfl⟩
def LgPost (x : Cont) (B : Nat) (w : World) (e : Ending) (w' : World) : Prop := ∃ v y, e = .returned v ∧ PC2 w' B v y ∧ Near 1 1 0 x y ∧ Below B w w'
theorem wt_set (ll : List (List Int)) (l : List Int) (h : 0 < ll.length) (y : Int) (hl : l = ll.getD 0 [] ++ [y]) : wt (ll.set 0 l) = wt ll + 1 := by
  cases ll with
  | nil => simp at h
  | cons a r => subst hl; simp [wt]; omega
theorem byt_len (ll : List (List Int)) (h : 0 < ll.length) : (ll.getD 0 []).length ≤ wt ll := by
  cases ll with
  | nil => simp at h
  | cons a r => simp [wt]
theorem own_shapeQ {w : World} {B q : Nat} {v : Value} {l : List Int} (h : Own8 w B v l) (hq : l.length = q) : ∃ A c, v = .slice A q c := by
  obtain ⟨A, c, e, _⟩ := own_shape h
  exact ⟨A, c, by rw [← hq]; exact e⟩
noncomputable def rest23 (k : Nat) : Code := spine k (Try.f23.body.getD .skip)
noncomputable def rest21 (k : Nat) : Code := spine k (Try.f21.body.getD .skip)

set_option maxRecDepth 100000 in
set_option maxHeartbeats 4000000 in
theorem end23 (w0 w : World) (B X Z : Nat) (A0 A1 A2 A3 : Option Addr) (c0 c1 c2 c3 n0 n1 n2 n3 : Nat) (c x : Cont) (hs : OSt w0 w B X Z (.slice A0 n0 c0) (.slice A1 n1 c1) (.slice A2 n2 c2) (.slice A3 n3 c3) c) (hn : Near 1 1 0 x c) (u0 u3 u4 u5 u6 u7 u8 u9 u10 u11 u12 u13 u14 u15 u16 u17 u18 u19 u20 u21 u22 u23 u24 u25 u26 u27 u28 u29 u30 : Value) :
    Code.wp Try.prog (rest23 3) (bodyPost Try.prog Try.f23 (LgPost x B w0)) ⟨#[u0, .pointer (some ⟨X, 0, none⟩), .pointer (some ⟨Z, 0, none⟩), u3, u4, u5, u6, u7, u8, u9, u10, u11, u12, u13, u14, u15, u16, u17, u18, u19, u20, u21, u22, u23, u24, u25, u26, u27, u28, u29, u30, undef], []⟩ w := by
  obtain ⟨sz, h4⟩ : ∃ sz, sz = c.size := ⟨_, rfl⟩
  have t0 := hs.x.c0
  have t1 := hs.x.c1
  have t2 := hs.x.c2
  have t3 := hs.x.c3
  have t4 := hs.x.c4
  rw [← h4] at t4
  have z0 := hs.z.c0
  have z1 := hs.z.c1
  have z2 := hs.z.c2
  have z3 := hs.z.c3
  have z4 := hs.z.c4
  have zf := hs.z.free
  have HS := Lib.hid hs
  have HN := Lib.hid hn
  obtain ⟨W5, hW5⟩ : ∃ W5, W5 = ((((w.setCell ⟨Z, 0, none⟩ (.slice A0 n0 c0)).setCell ⟨Z, 1, none⟩ (.slice A1 n1 c1)).setCell ⟨Z, 2, none⟩ (.slice A2 n2 c2)).setCell ⟨Z, 3, none⟩ (.slice A3 n3 c3)).setCell ⟨Z, 4, none⟩ (.int .i64 sz) := ⟨_, rfl⟩
  have hcc5 : CC W5 Z (.slice A0 n0 c0) (.slice A1 n1 c1) (.slice A2 n2 c2) (.slice A3 n3 c3) (.int .i64 sz) := by
    rw [hW5]
    exact ((((HS.out.z.set0 _).set1 _).set2 _).set3 _).set4 _
  have hgs : w.grownBy W5 (some Z) := by
    rw [hW5]
    exact grown_trans (grown_trans (grown_trans (grown_trans (grown_setCell _ _ _ _) (grown_setCell _ _ _ _)) (grown_setCell _ _ _ _)) (grown_setCell _ _ _ _)) (grown_setCell _ _ _ _)
  have hPP : PC2 W5 B (.agg #[.slice A0 n0 c0, .slice A1 n1 c1, .slice A2 n2 c2, .slice A3 n3 c3, .int .i64 sz]) c := by
    have := (hs.p.far28 hgs hs.z28).two
    rwa [← h4] at this
  have hBB : Below B w0 W5 := hs.below.grown hgs (by have := hs.bx; have := hs.x.lt; omega) (by rintro k ⟨⟩; exact hs.bz)
  have HPP := Lib.hid hPP
  have HBB := Lib.hid hBB
  have HC5 := Lib.hid hcc5
  have HW5 := Lib.hid hW5
  have nXZ : ¬ X = Z := hs.xz
  have nZX : ¬ Z = X := fun e => hs.xz e.symm
  clear hPP hBB hcc5 hgs hW5 h4 hs hn
  conv => arg 2; whnf
  go_wp2_with fail
  try go_region
  all_goals (try (rename_i K1 h1; refine h1 _ _ ?_; clear h1; go_step))
  all_goals rw [← HW5.out]
  all_goals refine bodyPost_ret (v := .agg #[.slice A0 n0 c0, .slice A1 n1 c1, .slice A2 n2 c2, .slice A3 n3 c3, .int .i64 sz]) (by simp [results, Try.results23, go_sem, HC5.out.c0, HC5.out.c1, HC5.out.c2, HC5.out.c3, HC5.out.c4]) rfl ⟨_, c, rfl, HPP.out, HN.out, HBB.out⟩

set_option maxRecDepth 100000 in
set_option maxHeartbeats 4000000 in
theorem end21 (w0 w : World) (B X Z : Nat) (A0 A1 A2 A3 : Option Addr) (c0 c1 c2 c3 n0 n1 n2 n3 : Nat) (c x : Cont) (hs : OSt w0 w B X Z (.slice A0 n0 c0) (.slice A1 n1 c1) (.slice A2 n2 c2) (.slice A3 n3 c3) c) (hn : Near 1 1 0 x c) (u0 u3 u4 u5 u6 u7 u8 u9 u10 u11 u12 u13 u14 u15 u16 u17 u18 u19 u20 u21 u22 u23 u24 u25 u26 u27 u28 u29 u30 u31 u32 u33 u34 u35 u36 u37 u38 : Value) :
    Code.wp Try.prog (rest21 3) (bodyPost Try.prog Try.f21 (LgPost x B w0)) ⟨#[u0, .pointer (some ⟨X, 0, none⟩), .pointer (some ⟨Z, 0, none⟩), u3, u4, u5, u6, u7, u8, u9, u10, u11, u12, u13, u14, u15, u16, u17, u18, u19, u20, u21, u22, u23, u24, u25, u26, u27, u28, u29, u30, u31, u32, u33, u34, u35, u36, u37, u38, undef], []⟩ w := by
  obtain ⟨sz, h4⟩ : ∃ sz, sz = c.size := ⟨_, rfl⟩
  have t0 := hs.x.c0
  have t1 := hs.x.c1
  have t2 := hs.x.c2
  have t3 := hs.x.c3
  have t4 := hs.x.c4
  rw [← h4] at t4
  have z0 := hs.z.c0
  have z1 := hs.z.c1
  have z2 := hs.z.c2
  have z3 := hs.z.c3
  have z4 := hs.z.c4
  have zf := hs.z.free
  have HS := Lib.hid hs
  have HN := Lib.hid hn
  obtain ⟨W5, hW5⟩ : ∃ W5, W5 = ((((w.setCell ⟨Z, 0, none⟩ (.slice A0 n0 c0)).setCell ⟨Z, 1, none⟩ (.slice A1 n1 c1)).setCell ⟨Z, 2, none⟩ (.slice A2 n2 c2)).setCell ⟨Z, 3, none⟩ (.slice A3 n3 c3)).setCell ⟨Z, 4, none⟩ (.int .i64 sz) := ⟨_, rfl⟩
  have hcc5 : CC W5 Z (.slice A0 n0 c0) (.slice A1 n1 c1) (.slice A2 n2 c2) (.slice A3 n3 c3) (.int .i64 sz) := by
    rw [hW5]
    exact ((((HS.out.z.set0 _).set1 _).set2 _).set3 _).set4 _
  have hgs : w.grownBy W5 (some Z) := by
    rw [hW5]
    exact grown_trans (grown_trans (grown_trans (grown_trans (grown_setCell _ _ _ _) (grown_setCell _ _ _ _)) (grown_setCell _ _ _ _)) (grown_setCell _ _ _ _)) (grown_setCell _ _ _ _)
  have hPP : PC2 W5 B (.agg #[.slice A0 n0 c0, .slice A1 n1 c1, .slice A2 n2 c2, .slice A3 n3 c3, .int .i64 sz]) c := by
    have := (hs.p.far28 hgs hs.z28).two
    rwa [← h4] at this
  have hBB : Below B w0 W5 := hs.below.grown hgs (by have := hs.bx; have := hs.x.lt; omega) (by rintro k ⟨⟩; exact hs.bz)
  have HPP := Lib.hid hPP
  have HBB := Lib.hid hBB
  have HC5 := Lib.hid hcc5
  have HW5 := Lib.hid hW5
  have nXZ : ¬ X = Z := hs.xz
  have nZX : ¬ Z = X := fun e => hs.xz e.symm
  clear hPP hBB hcc5 hgs hW5 h4 hs hn
  conv => arg 2; whnf
  go_wp2_with fail
  try go_region
  all_goals (try (rename_i K1 h1; refine h1 _ _ ?_; clear h1; go_step))
  all_goals rw [← HW5.out]
  all_goals refine bodyPost_ret (v := .agg #[.slice A0 n0 c0, .slice A1 n1 c1, .slice A2 n2 c2, .slice A3 n3 c3, .int .i64 sz]) (by simp [results, Try.results21, go_sem, HC5.out.c0, HC5.out.c1, HC5.out.c2, HC5.out.c3, HC5.out.c4]) rfl ⟨_, c, rfl, HPP.out, HN.out, HBB.out⟩

set_option maxRecDepth 100000 in
set_option maxHeartbeats 4000000 in
theorem sub23 (w0 w : World) (B X Z : Nat) (A0 A1 A2 A3 : Option Addr) (c0 c1 c2 c3 n0 n1 n2 n3 : Nat) (c x : Cont) (hs : OSt w0 w B X Z (.slice A0 n0 c0) (.slice A1 n1 c1) (.slice A2 n2 c2) (.slice A3 n3 c3) c) (hn : Near 1 0 0 x c) (h1 : n1 = c.codes.length) (h2 : n2 = c.subs.length) (hsm : wt c.codes + wt c.subs ≤ 67108866) (u0 u3 u4 u5 u6 u7 u8 u9 u10 u11 u12 u13 u14 u15 u16 : Value) :
    Code.wp Try.prog (rest23 2) (bodyPost Try.prog Try.f23 (LgPost x B w0)) ⟨#[u0, .pointer (some ⟨X, 0, none⟩), .pointer (some ⟨Z, 0, none⟩), u3, u4, u5, u6, u7, u8, u9, u10, u11, u12, u13, u14, u15, u16, undef, undef, undef, undef, undef, undef, undef, undef, undef, undef, undef, undef, undef, undef, undef], []⟩ w := by
  have t1 := hs.x.c2
  have HS := Lib.hid hs
  have HN := Lib.hid hn
  have H1 := Lib.hid h1
  have H2 := Lib.hid h2
  clear hs hn h1 h2
  conv => arg 2; whnf
  refine wp_seq_k fun K hK => ?_
  have HKK := Lib.hid hK
  clear hK
  by_cases hz : n2 = 0
  · have HZ := Lib.hid hz
    have hz' : ¬ (0 : Int) < (n2 : Int) := by omega
    clear hz
    go_wp2_with fail
    exact HKK.out _ _ (end23 w0 w B X Z A0 A1 A2 A3 c0 c1 c2 c3 n0 n1 n2 n3 c x HS.out ⟨HN.out.1, HN.out.2.1, HN.out.2.2.1, HN.out.2.2.2.1, by have := HN.out.2.2.2.2.1; omega, by have := HN.out.2.2.2.2.2.1; omega, rfl⟩  _ _ _ _ _ _ _ _ _ _ _ _ _ _ _ _ _ _ _ _ _ _ _ _ _ _ _ _ _)
  · have hz' : (0 : Int) < (n2 : Int) := by omega
    have hz2 : 0 < n2 := by omega
    clear hz
    have hpos : 0 < c.subs.length := by have := H2.out; omega
    obtain ⟨g, rfl⟩ := HS.out.p.ss.shape hpos
    have hcell := HS.out.p.ss
    rw [H2.out] at hcell
    obtain ⟨p, hpc, hpo, hpf⟩ := hcell.cell hpos
    obtain ⟨A5, c5, rfl, _⟩ := own_shape hpo
    obtain ⟨l, hl⟩ : ∃ l, l = c.subs.getD 0 [] := ⟨_, rfl⟩
    rw [← hl] at hpc hpo
    obtain ⟨m, hm⟩ : ∃ m, m = l.length := ⟨_, rfl⟩
    rw [← hm] at hpc
    have hlen : l.length ≤ 67108866 := by rw [hl]; have := byt_len c.subs hpos; omega
    have hnum := own_nums hpo (by unfold reach; omega)
    have hgl : g < w.heap.size := World.block_lt_of_cell? w _ hpc
    have hko : ∀ W, Below w.heap.size w W → Calls Try.prog 30 #[.slice A5 m c5] W fun e w' => ∃ v', e = .returned v' ∧ Own8 w' w.heap.size v' l ∧ Below W.heap.size W w' := fun W hW => by
      rw [hm]
      refine (own_any _ l W (hnum.mono hW)).mono ?_
      rintro e w' ⟨v', rfl, ho, hb⟩
      exact ⟨v', rfl, own_base ho hW.size, hb⟩
    have HKO := Lib.hid hko
    have HR : Hid (l.length + 1 ≤ reach) := Lib.hid (by unfold reach; omega)
    have HPC : Hid (w.cell? ⟨g, 0, none⟩ = some (.slice A5 m c5)) := Lib.hid hpc
    have HL := Lib.hid hl
    have HPOS := Lib.hid hpos
    have hpg : ∀ w', Below w.heap.size w w' → w'.cell? ⟨g, 0, none⟩ = some (.slice A5 m c5) := fun w' h => cell_keep h HPC.out
    have hxg : ∀ w', Below w.heap.size w w' → w'.cell? ⟨X, 2, none⟩ = some (.slice (some ⟨g, 0, none⟩) n2 c2) := fun w' h => cell_keep h t1
    have hXg : X ≠ g := by
      obtain ⟨vs, ho⟩ := HS.out.p.ss.own
      exact fun e => HS.out.x28.off ho (by decide) (by rw [e]; rfl)
    have HXG := Lib.hid hXg
    have hfg : ∀ w', Below w.heap.size w w' → w'.frozen? ⟨g, 0, none⟩ = false := fun w' h => frozen_keep h hgl hpf
    have hbw : Below w.heap.size w w.drew := (Below.refl _ _).drew
    have hst : ∀ w4 p, Below w.heap.size w w4 → Own8 w4 w.heap.size p (l ++ [8]) → OSt w0 (w4.setCell ⟨g, 0, none⟩ p) B X Z (.slice A0 n0 c0) (.slice A1 n1 c1) (.slice (some ⟨g, 0, none⟩) n2 c2) (.slice A3 n3 c3) { c with subs := c.subs.set 0 (l ++ [8]) } := by
      have hs' := HS.out
      rw [H2.out] at hs' ⊢
      exact fun w4 p hb ho => hs'.sub (b := 0) hpos hb ho
    have hne : Near 1 1 0 x { c with subs := c.subs.set 0 (l ++ [8]) } := by
      have h := HN.out
      have hw := wt_set c.subs (l ++ [8]) hpos 8 (by rw [hl])
      exact ⟨h.1, h.2.1, by simpa using h.2.2.1, h.2.2.2.1, by have := h.2.2.2.2.1; simp only; omega, by have := h.2.2.2.2.2.1; simp only [hw]; omega, rfl⟩
    have hwt := wt_set c.subs (l ++ [8]) hpos 8 (by rw [hl])
    have HWT : Hid (wt (c.subs.set 0 (l ++ [8])) + wt c.codes ≤ 67108868) := Lib.hid (by omega)
    have HST := Lib.hid hst
    obtain ⟨q, hq⟩ : ∃ q, (l ++ [8]).length = q := ⟨_, rfl⟩
    have HQ := Lib.hid hq
    clear hq
    have HNE := Lib.hid hne
    have HCS := Lib.hid t1
    have t2 := HPC.out
    have hXl : X < w.heap.size := HS.out.x.lt
    clear hst hne hwt hXg hko hpc hpf hpo hnum hl hm hcell hpos hsm hlen
    go_wp2_with fail
    go_region_law
      ((first
        | (go_simp; go_at_call 30; (with_reducible refine (HKO.out _ (by with_reducible first | exact HB3.out | exact (Below.refl _ _).drew | exact below_step (Below.refl _ _).drew (below_alloc _ _) | exact Below.refl _ _ | exact (below_alloc _ _).drew | exact below_alloc _ _)).mono ?_); rintro e w3 ⟨v3, rfl, ho, hb⟩; have HB3 : Hid (Below w.heap.size w w3) := Lib.hid (below_step (by with_reducible first | exact HB3.out | exact (Below.refl _ _).drew | exact below_step (Below.refl _ _).drew (below_alloc _ _) | exact Below.refl _ _ | exact (below_alloc _ _).drew | exact below_alloc _ _) hb); have HGb := Lib.hid hb; have HO3 := Lib.hid ho; have hb3 := HB3.out; have hX3 : X < w3.heap.size := Nat.lt_of_lt_of_le hXl hb3.size; have hg3 : g < w3.heap.size := Nat.lt_of_lt_of_le hgl hb3.size; clear ho hb)
        | (refine step_g1 8 (.tmp 27) (.tmp 28) rfl rfl _ HO3 rfl rfl HR HB3.out.size (by with_reducible first | exact Below.refl _ _ | exact (Below.refl _ _).drew | exact below_alloc _ _ | exact (below_alloc _ _).drew) (by first | exact box_new' _ _ _ (by first | rfl | simp) | exact (HGb.out.block _ (by simp)).trans (heap_alloc_new _ _)) ?_; intro v4 w4 ho he _; have HB4 : Hid (Below w.heap.size w w4) := Lib.hid (Below.and HB3.out (he.below HO3.out HB3.out.size)); obtain ⟨A4, c4, rfl⟩ := own_shapeQ ho HQ.out; have HO4 := Lib.hid ho; have hb4 := HB4.out; clear ho he)))
    all_goals refine (show K _ _ from HKK.out _ _ ?_)
    all_goals exact end23 w0 _ B X Z A0 A1 (some ⟨g, 0, none⟩) A3 c0 c1 c2 c3 n0 n1 n2 n3 _ x (HST.out _ _ HB4.out HO4.out) HNE.out  _ _ _ _ _ _ _ _ _ _ _ _ _ _ _ _ _ _ _ _ _ _ _ _ _ _ _ _ _
end Go.Proofs.Ytkbboepopcebaaa
