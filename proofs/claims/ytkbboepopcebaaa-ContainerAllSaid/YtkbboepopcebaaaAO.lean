/- longer: the first section. -/
import Derived.Test.YtkbboepopcebaaaAN
namespace Go.Proofs.Ytkbboepopcebaaa
open Go.RowKit

set_option maxRecDepth 100000 in
set_option maxHeartbeats 4000000 in
theorem code23 (w0 w : World) (B X Z : Nat) (A0 A1 A2 A3 : Option Addr) (c0 c1 c2 c3 n0 n1 n2 n3 : Nat) (c x : Cont) (hs : OSt w0 w B X Z (.slice A0 n0 c0) (.slice A1 n1 c1) (.slice A2 n2 c2) (.slice A3 n3 c3) c) (hn : Near 0 0 0 x c) (h1 : n1 = c.codes.length) (h2 : n2 = c.subs.length) (hsm : wt c.codes + wt c.subs ≤ 67108864) (u0 : Value) :
    Code.wp Try.prog (rest23 1) (bodyPost Try.prog Try.f23 (LgPost x B w0)) ⟨#[u0, .pointer (some ⟨X, 0, none⟩), .pointer (some ⟨Z, 0, none⟩), undef, undef, undef, undef, undef, undef, undef, undef, undef, undef, undef, undef, undef, undef, undef, undef, undef, undef, undef, undef, undef, undef, undef, undef, undef, undef, undef, undef, undef], []⟩ w := by
  have t1 := hs.x.c1
  have HS := Lib.hid hs
  have HN := Lib.hid hn
  have H1 := Lib.hid h1
  have H2 := Lib.hid h2
  clear hs hn h1 h2
  conv => arg 2; whnf
  refine wp_seq_k fun K hK => ?_
  have HKK := Lib.hid hK
  clear hK
  by_cases hz : n1 = 0
  · have HZ := Lib.hid hz
    have hz' : ¬ (0 : Int) < (n1 : Int) := by omega
    clear hz
    go_wp2_with fail
    exact HKK.out _ _ (sub23 w0 w B X Z A0 A1 A2 A3 c0 c1 c2 c3 n0 n1 n2 n3 c x HS.out ⟨HN.out.1, HN.out.2.1, HN.out.2.2.1, HN.out.2.2.2.1, by have := HN.out.2.2.2.2.1; omega, by have := HN.out.2.2.2.2.2.1; omega, rfl⟩ H1.out H2.out (by omega) _ _ _ _ _ _ _ _ _ _ _ _ _ _ _)
  · have hz' : (0 : Int) < (n1 : Int) := by omega
    have hz2 : 0 < n1 := by omega
    clear hz
    have hpos : 0 < c.codes.length := by have := H1.out; omega
    obtain ⟨g, rfl⟩ := HS.out.p.cs.shape hpos
    have hcell := HS.out.p.cs
    rw [H1.out] at hcell
    obtain ⟨p, hpc, hpo, hpf⟩ := hcell.cell hpos
    obtain ⟨A5, c5, rfl, _⟩ := own_shape hpo
    obtain ⟨l, hl⟩ : ∃ l, l = c.codes.getD 0 [] := ⟨_, rfl⟩
    rw [← hl] at hpc hpo
    obtain ⟨m, hm⟩ : ∃ m, m = l.length := ⟨_, rfl⟩
    rw [← hm] at hpc
    have hlen : l.length ≤ 67108864 := by rw [hl]; have := byt_len c.codes hpos; omega
    have hnum := own_nums hpo (by unfold reach; omega)
    have hgl : g < w.heap.size := World.block_lt_of_cell? w _ hpc
    have hko : ∀ W, Below w.heap.size w W → Calls Try.prog 30 #[.slice A5 m c5] W fun e w' => ∃ v', e = .returned v' ∧ Own8 w' w.heap.size v' l ∧ Below W.heap.size W w' := fun W hW => by
      rw [hm]
      refine (own_any _ l W (hnum.mono hW)).mono ?_
      rintro e w' ⟨v', rfl, ho, hb⟩
      exact ⟨v', rfl, own_base ho hW.size, hb⟩
    have HKO := Lib.hid hko
    have HR : Hid (l.length + 1 ≤ reach) := Lib.hid (by unfold reach; omega)
    have HPC : Hid (w.cell? ⟨g, 0, none⟩ = some (.slice A5 m c5)) := Lib.hid hpc
    have HL := Lib.hid hl
    have HPOS := Lib.hid hpos
    have hpg : ∀ w', Below w.heap.size w w' → w'.cell? ⟨g, 0, none⟩ = some (.slice A5 m c5) := fun w' h => cell_keep h HPC.out
    have hxg : ∀ w', Below w.heap.size w w' → w'.cell? ⟨X, 1, none⟩ = some (.slice (some ⟨g, 0, none⟩) n1 c1) := fun w' h => cell_keep h t1
    have hXg : X ≠ g := by
      obtain ⟨vs, ho⟩ := HS.out.p.cs.own
      exact fun e => HS.out.x28.off ho (by decide) (by rw [e]; rfl)
    have HXG := Lib.hid hXg
    have hfg : ∀ w', Below w.heap.size w w' → w'.frozen? ⟨g, 0, none⟩ = false := fun w' h => frozen_keep h hgl hpf
    have hbw : Below w.heap.size w w.drew := (Below.refl _ _).drew
    have hst : ∀ w4 p, Below w.heap.size w w4 → Own8 w4 w.heap.size p (l ++ [7]) → OSt w0 (w4.setCell ⟨g, 0, none⟩ p) B X Z (.slice A0 n0 c0) (.slice (some ⟨g, 0, none⟩) n1 c1) (.slice A2 n2 c2) (.slice A3 n3 c3) { c with codes := c.codes.set 0 (l ++ [7]) } := by
      have hs' := HS.out
      rw [H1.out] at hs' ⊢
      exact fun w4 p hb ho => hs'.code (b := 0) hpos hb ho
    have hne : Near 1 0 0 x { c with codes := c.codes.set 0 (l ++ [7]) } := by
      have h := HN.out
      have hw := wt_set c.codes (l ++ [7]) hpos 7 (by rw [hl])
      exact ⟨h.1, by simpa using h.2.1, h.2.2.1, h.2.2.2.1, by have := h.2.2.2.2.1; simp only [hw]; omega, by have := h.2.2.2.2.2.1; simp only; omega, rfl⟩
    have hwt := wt_set c.codes (l ++ [7]) hpos 7 (by rw [hl])
    have HWT : Hid (wt (c.codes.set 0 (l ++ [7])) + wt c.subs ≤ 67108866) := Lib.hid (by omega)
    have HST := Lib.hid hst
    obtain ⟨q, hq⟩ : ∃ q, (l ++ [7]).length = q := ⟨_, rfl⟩
    have HQ := Lib.hid hq
    clear hq
    have HNE := Lib.hid hne
    have HCS := Lib.hid t1
    have t2 := HPC.out
    have hXl : X < w.heap.size := HS.out.x.lt
    clear hst hne hwt hXg hko hpc hpf hpo hnum hl hm hcell hpos hsm hlen
    go_wp2_with fail
    go_region_law
      ((first
        | (go_simp; go_at_call 30; (with_reducible refine (HKO.out _ (by with_reducible first | exact HB3.out | exact (Below.refl _ _).drew | exact below_step (Below.refl _ _).drew (below_alloc _ _) | exact Below.refl _ _ | exact (below_alloc _ _).drew | exact below_alloc _ _)).mono ?_); rintro e w3 ⟨v3, rfl, ho, hb⟩; have HB3 : Hid (Below w.heap.size w w3) := Lib.hid (below_step (by with_reducible first | exact HB3.out | exact (Below.refl _ _).drew | exact below_step (Below.refl _ _).drew (below_alloc _ _) | exact Below.refl _ _ | exact (below_alloc _ _).drew | exact below_alloc _ _) hb); have HGb := Lib.hid hb; have HO3 := Lib.hid ho; have hb3 := HB3.out; have hX3 : X < w3.heap.size := Nat.lt_of_lt_of_le hXl hb3.size; have hg3 : g < w3.heap.size := Nat.lt_of_lt_of_le hgl hb3.size; clear ho hb)
        | (refine step_g1 7 (.tmp 13) (.tmp 14) rfl rfl _ HO3 rfl rfl HR HB3.out.size (by with_reducible first | exact Below.refl _ _ | exact (Below.refl _ _).drew | exact below_alloc _ _ | exact (below_alloc _ _).drew) (by first | exact box_new' _ _ _ (by first | rfl | simp) | exact (HGb.out.block _ (by simp)).trans (heap_alloc_new _ _)) ?_; intro v4 w4 ho he _; have HB4 : Hid (Below w.heap.size w w4) := Lib.hid (Below.and HB3.out (he.below HO3.out HB3.out.size)); obtain ⟨A4, c4, rfl⟩ := own_shapeQ ho HQ.out; have HO4 := Lib.hid ho; have hb4 := HB4.out; clear ho he)))
    all_goals refine (show K _ _ from HKK.out _ _ ?_)
    all_goals exact sub23 w0 _ B X Z A0 (some ⟨g, 0, none⟩) A2 A3 c0 c1 c2 c3 n0 n1 n2 n3 _ x (HST.out _ _ HB4.out HO4.out) HNE.out (by simpa using H1.out) H2.out (by simpa [Nat.add_comm] using HWT.out) _ _ _ _ _ _ _ _ _ _ _ _ _ _ _
end Go.Proofs.Ytkbboepopcebaaa
