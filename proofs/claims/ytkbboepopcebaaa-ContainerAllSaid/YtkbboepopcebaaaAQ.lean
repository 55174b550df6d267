/- over, longer: whole. -/
import Derived.Test.YtkbboepopcebaaaAO
import Derived.Test.YtkbboepopcebaaaAP
namespace Go.Proofs.Ytkbboepopcebaaa
open Go.RowKit

set_option maxRecDepth 100000 in
set_option maxHeartbeats 4000000 in
theorem longer_any (w : World) (B : Nat) (v : Value) (c : Cont) (h : PC2 w B v c) (hB : B ≤ w.heap.size) (hf : Fits c) : Calls Try.prog 23 #[v] w (LgPost c B w) := by
  obtain ⟨A0, c0, A1, c1, A2, c2, A3, c3, rfl, hp⟩ := h.three
  have hs := OSt.start w hp (Nat.le_refl _) hB
  have hw : wt c.codes + wt c.subs ≤ 67108864 := by unfold Fits at hf; omega
  obtain ⟨n0, h0⟩ : ∃ n0, n0 = c.types.length := ⟨_, rfl⟩
  obtain ⟨n1, h1⟩ : ∃ n1, n1 = c.codes.length := ⟨_, rfl⟩
  obtain ⟨n2, h2⟩ : ∃ n2, n2 = c.subs.length := ⟨_, rfl⟩
  obtain ⟨n3, h3⟩ : ∃ n3, n3 = c.data.length := ⟨_, rfl⟩
  rw [← h0, ← h1, ← h2, ← h3] at hs
  rw [← h0, ← h1, ← h2, ← h3]
  obtain ⟨sz, h4⟩ : ∃ sz, sz = c.size := ⟨_, rfl⟩
  rw [← h4] at hs
  rw [← h4]
  have HS := Lib.hid hs
  have H1 := Lib.hid h1
  have H2 := Lib.hid h2
  clear hs hp h hf h0 h1 h2 h3 h4
  go_enter Try.func23, Try.ntmps23
  refine wp_seq_k fun K hK => ?_
  have HKK := Lib.hid hK
  clear hK
  go_wp2_with fail
  exact HKK.out _ _ (code23 w _ B _ _ A0 A1 A2 A3 c0 c1 c2 c3 n0 n1 n2 n3 c c HS.out (Near.refl _ _ _) H1.out H2.out hw _)

theorem OSt.more {w0 w w1 : World} {B X Z : Nat} {T C S D : Value} {c : Cont} (h : OSt w0 w B X Z T C S D c) (hb : Below w.heap.size w w1) : OSt w0 w1 B X Z T C S D c :=
  ⟨below_trans h.below (by have := h.bx; have := h.x.lt; omega) hb, (h.p.below hb).up hb.size, h.x.below hb h.x.lt, h.z.below hb h.z.lt, h.x28.below hb h.x.lt, h.z28.below hb h.z.lt, h.xz, h.bx, h.bz⟩
theorem RowT.get {w : World} {lo g cap : Nat} {ts : List Ty} (h : w.ownsRow lo 69 3 (.slice (some ⟨g, 0, none⟩) ts.length cap) ts.length (tysOf ts)) (k : Nat) (hk : k < ts.length) : w.cell? ⟨g, k * 3 + 2, none⟩ = some (.int .i64 (ts.getD k ty0).m) ∧ w.frozen? ⟨g, k * 3 + 2, none⟩ = false :=
  ⟨by rw [h.cellAt (k * 3 + 2) (by omega)]; exact (tysOf_at ts k hk).2.2, h.frozenAt _⟩
set_option maxRecDepth 100000 in
set_option maxHeartbeats 4000000 in
theorem over_any (w0 : World) (B : Nat) (v : Value) (c : Cont) (h : PC2 w0 B v c) (hB : B ≤ w0.heap.size) (hf : Fits c) : Calls Try.prog 21 #[v] w0 (LgPost c B w0) := by
  obtain ⟨A0, c0, A1, c1, A2, c2, A3, c3, rfl, hp⟩ := h.three
  have hs := OSt.start w0 hp (Nat.le_refl _) hB
  have hw : wt c.codes + wt c.subs ≤ 67108864 := by unfold Fits at hf; omega
  have hn0 : c.types.length ≤ 67108864 := by unfold Fits at hf; omega
  obtain ⟨n0, h0⟩ : ∃ n0, n0 = c.types.length := ⟨_, rfl⟩
  obtain ⟨n1, h1⟩ : ∃ n1, n1 = c.codes.length := ⟨_, rfl⟩
  obtain ⟨n2, h2⟩ : ∃ n2, n2 = c.subs.length := ⟨_, rfl⟩
  obtain ⟨n3, h3⟩ : ∃ n3, n3 = c.data.length := ⟨_, rfl⟩
  rw [← h0] at hn0
  have hs0 := hs
  rw [← h0, ← h1, ← h2, ← h3] at hs
  rw [← h0, ← h1, ← h2, ← h3]
  obtain ⟨sz, h4⟩ : ∃ sz, sz = c.size := ⟨_, rfl⟩
  rw [← h4] at hs
  rw [← h4]
  obtain ⟨w, hw1⟩ : ∃ w, w = (w0.alloc (.cells #[.slice A0 n0 c0, .slice A1 n1 c1, .slice A2 n2 c2, .slice A3 n3 c3, .int .i64 sz] 28)).alloc (.cells #[.slice none 0 0, .slice none 0 0, .slice none 0 0, .slice none 0 0, .int .i64 0] 28) := ⟨_, rfl⟩
  rw [← hw1] at hs
  have HS := Lib.hid hs
  have H0 := Lib.hid h0
  have H1 := Lib.hid h1
  have H2 := Lib.hid h2
  have HSW := Lib.hid hw
  clear hs hs0 hp h hf h0 h1 h2 h3 h4 hw
  go_enter Try.func21, Try.ntmps21
  refine wp_seq_k fun K0 hK0 => ?_
  have HK0 := Lib.hid hK0
  clear hK0
  go_wp2_with fail
  rw [← hw1]
  clear hw1
  obtain ⟨X, hX⟩ : ∃ X, X = w0.heap.size := ⟨_, rfl⟩
  obtain ⟨Z, hZ⟩ : ∃ Z, Z = X + 1 := ⟨_, rfl⟩
  have hs := HS.out
  rw [← hX, ← hZ] at hs
  rw [← hX, ← hZ]
  have HS := Lib.hid hs
  refine HK0.out _ _ ?_
  have t0 := hs.x.c0
  have hXl : X < w.heap.size := hs.x.lt
  clear HK0 hX hZ hs K0
  refine wp_seq_k fun K hK => ?_
  have HKK := Lib.hid hK
  clear hK
  by_cases hz : n0 = 0
  · have hz' : ¬ (0 : Int) < (n0 : Int) := by omega
    clear hz
    go_wp2_with fail
    exact HKK.out _ _ (code21 w0 w B _ _ A0 A1 A2 A3 c0 c1 c2 c3 n0 n1 n2 n3 c c HS.out (Near.refl _ _ _) H1.out H2.out HSW.out _ _ _ _ _ _ _ _ _ _ _ _ _ _ _ _ _ _ _ _ _ _ _)
  · have hz' : (0 : Int) < (n0 : Int) := by omega
    obtain ⟨k, hk⟩ : ∃ k : Nat, n0 = k + 1 := ⟨n0 - 1, by omega⟩
    have hw1 : IntKind.i64.wrap ((n0 : Int) - 1) = (k : Int) := by rw [IntWalk.i64_in _ (by omega)]; omega
    have i0 : (0 : Int) ≤ (k : Int) := by omega
    have i1 : (k : Int) < (n0 : Int) := by omega
    have i2 : k < n0 := by omega
    have hkc : k < c.types.length := by have := H0.out; omega
    have hn02 : 0 < n0 := by omega
    have ht0 := HS.out.p.t
    rw [← H0.out] at ht0
    obtain ⟨g, rfl⟩ := RowI.shape ht0 hn02
    clear ht0
    have ht := HS.out.p.t
    rw [H0.out] at ht
    obtain ⟨hc, hfz⟩ := RowT.get ht k hkc
    obtain ⟨m, hm⟩ : ∃ m, m = (c.types.getD k ty0).m := ⟨_, rfl⟩
    rw [← hm] at hc
    have hXg : ¬ X = g := fun e => HS.out.x28.off HS.out.p.t (by decide) (by rw [e]; rfl)
    have hgX : ¬ g = X := fun e => hXg e.symm
    have hst : ∀ m', OSt w0 (w.setCell ⟨g, k * 3 + 2, none⟩ (.int .i64 m')) B X Z (.slice (some ⟨g, 0, none⟩) n0 c0) (.slice A1 n1 c1) (.slice A2 n2 c2) (.slice A3 n3 c3) { c with types := c.types.set k { c.types.getD k ty0 with m := m' } } := by
      have hs' := HS.out
      rw [H0.out] at hs' ⊢
      exact fun m' => hs'.most k hkc m'
    have HST := Lib.hid hst
    have HN : Hid (∀ t, Near 0 0 0 c { c with types := c.types.set k t }) := Lib.hid fun t => ⟨by simp, rfl, rfl, rfl, by simp, by simp, rfl⟩
    clear hst ht hm hz hk
    go_wp2_with fail
    go_region
    refine (show K _ _ from HKK.out _ _ ?_)
    exact code21 w0 _ B X Z (some ⟨g, 0, none⟩) A1 A2 A3 c0 c1 c2 c3 n0 n1 n2 n3 _ c ((HST.out _).more (Below.refl _ _).drew) (HN.out _) H1.out H2.out HSW.out _ _ _ _ _ _ _ _ _ _ _ _ _ _ _ _ _ _ _ _ _ _ _
end Go.Proofs.Ytkbboepopcebaaa
