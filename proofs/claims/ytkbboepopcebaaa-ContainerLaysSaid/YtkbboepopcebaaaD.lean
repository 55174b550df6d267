/- slices.Clone at []byte; clones; copied; sameParts. -/
import Derived.Test.YtkbboepopcebaaaC
import Derived.WalkSpells
namespace Go.Proofs.Ytkbboepopcebaaa
open Go.RowKit

theorem own_empty (w : World) (e : TypeId) (size : Nat) : (w.alloc (.cells #[] e)).ownsRow w.heap.size e size (.slice (some ⟨w.heap.size, 0, none⟩) 0 0) 0 [] :=
  World.ownsRow_made w #[] 0 (Nat.le_refl _) (by simp [maxLen]) (by simp)

set_option maxRecDepth 100000 in
theorem clone_some (ad : Addr) (n c : Nat) (xs : List Value) (w : World) (hx : xs.length = n) (h : ∀ j v, xs[j]? = some v → w.cell? (ad.add j) = some v) (h1 : ∀ u ∈ xs, u.oneCell' = true) (hl : n ≤ reach) :
    Calls Try.prog 58 #[.slice (some ad) n c] w fun e w' => ∃ v, e = .returned v ∧ w'.ownsRow w.heap.size 5 1 v n xs ∧ Below w.heap.size w w' := by
  obtain ⟨i0, hi, hz0, hz1, hz2⟩ := info_parts info5
  have HX := Lib.hid hx; clear hx
  have HL := Lib.hid hl; clear hl
  have HC : Hid (∀ j v, xs[j]? = some v → (w.alloc (.cells #[] 5)).cell? (ad.add j) = some v) := Lib.hid fun j v hv => cell_keep (below_alloc _ _) (h j v hv)
  clear h
  have hn := fun (w : World) => Lib.run_eql_slice_nil (P := Try.prog) w 22 5 (some ad) n c 0 0 Try.underlying22
  go_enter Try.func58, Try.ntmps58
  go_wp2_with (at_builtin; refine wpList_append_own _ rfl _ _ 22 rfl w.heap.size 5 i0 (.int .u8 0) 1 1 Try.underlying22 hi hz0 hz1 hz2 rfl (by decide) _ _ _ rfl (own_empty _ _ _) ad n c xs rfl ?c0 HC.out h1 ?c3 ?c4 ?c5 ?_)
  case c0 => have := HX.out; omega
  case c3 => have := HL.out; unfold reach at this; unfold maxLen; omega
  case c4 => have := HL.out; unfold reach at this; omega
  case c5 => simp
  intro v' w1 hown hg _
  have hown2 : w1.ownsRow w.heap.size 5 1 v' n xs := by simpa only [Nat.zero_add, List.nil_append] using hown
  clear hown
  go_wp2
  go_ret
  exact ⟨v', rfl, hown2, (below_alloc _ _).grown hg (by simp) (by simp [Value.ownBlock])⟩
set_option maxRecDepth 100000 in
theorem clone_none (w : World) :
    Calls Try.prog 58 #[.slice none 0 0] w fun e w' => ∃ v, e = .returned v ∧ w'.ownsRow w.heap.size 5 1 v 0 [] ∧ Below w.heap.size w w' := by
  have hn := fun (w : World) => Lib.run_eql_slice_nil (P := Try.prog) w 22 5 none 0 0 0 0 Try.underlying22
  go_enter Try.func58, Try.ntmps58
  go_wp2
  go_ret
  exact ⟨_, rfl, World.ownsRow_nil _ _ _ _, Below.refl _ _⟩
/-- slices.Clone: the same bytes in new memory. -/
theorem clone_any (v : Value) (l : List Int) (w : World) (h : NumsV w .u8 v l) :
    Calls Try.prog 58 #[v] w fun e w' => ∃ v', e = .returned v' ∧ w'.ownsRow w.heap.size 5 1 v' l.length (nums .u8 l) ∧ Below w.heap.size w w' := by
  obtain ⟨A, c, rfl, h1, h2, h3⟩ := h
  cases A with
  | some ad => exact clone_some ad _ c (nums .u8 l) w (nums_length _ _) h3.src (nums_one _ _) h3.1
  | none =>
    obtain rfl := h2 rfl
    obtain rfl : l = [] := List.eq_nil_of_length_eq_zero (by omega)
    exact clone_none w
set_option maxRecDepth 100000 in
set_option maxHeartbeats 800000 in
/-- clones: each part in new memory. -/
theorem clones_at (A : Option Addr) (c n : Nat) (ll : List (List Int)) (w : World) (hn : ll.length = n) (hf : Few ll) (h : PartsR w A ll) :
    Calls Try.prog 60 #[.slice A n c] w fun e w' => ∃ v', e = .returned v' ∧ PartsO w' w.heap.size v' ll ∧ Below w.heap.size w w' := by
  obtain ⟨i0, hi, hz0, hz1, hz2⟩ := info_parts info22
  have HN := Lib.hid hn; clear hn
  have HF := Lib.hid hf; clear hf
  have HP := Lib.hid h; clear h
  have hmx : n ≤ 4294967296 := by have := HN.out; have h2 := HF.out; unfold Few most at h2; omega
  go_enter Try.func60, Try.ntmps60
  go_wp2
  go_loopw [3, 8] (fun v i wr => ∃ k : Nat, k ≤ n ∧ i = .int .i64 k ∧ PartsO wr w.heap.size v (ll.take k) ∧ Below w.heap.size w wr) (fun _ i _ => n - (intOf i).toNat)
  case atStart => exact ⟨0, Nat.zero_le _, rfl, PartsO.nil _ _, Below.refl _ _⟩
  case round =>
    obtain ⟨k, hk, rfl, hO, hb⟩ := hrel
    by_cases hlt : k < n
    · have hk2 : k < ll.length := by have := HN.out; omega
      obtain ⟨b1, o1, rfl, hc⟩ := (HP.out.mono hb).2 (by omega)
      obtain ⟨p, hcell, hp⟩ := hc k hk2
      obtain ⟨l, hl⟩ : ∃ l, l = ll.getD k [] := ⟨_, rfl⟩
      rw [← hl] at hp
      have HL := Lib.hid hl
      clear hl
      obtain ⟨pl, hpl⟩ : ∃ pl, pl = ll.take k := ⟨_, rfl⟩
      have hpk : pl.length = k := by rw [hpl, List.length_take]; omega
      rw [← hpl] at hO
      have HPL := Lib.hid hpl
      have HPK := Lib.hid hpk
      clear hpl
      have HC := Lib.hid hp
      have HO := Lib.hid hO
      have HB := Lib.hid hb
      obtain ⟨vs, hov⟩ := hO
      obtain ⟨A0, c0, rfl, hsh⟩ := own_shape hov.own
      rw [hpk] at hov ⊢
      have HO := Lib.hid hov
      clear hc hp hb hpk hsh hov
      go_wp2_with fail
      refine (clone_any _ _ _ HC.out).mono ?_
      rintro e w1 ⟨p', rfl, hpo, hpb⟩
      obtain ⟨A1, c1, rfl, hs2⟩ := own_shape hpo
      have HPO := Lib.hid hpo
      have HPB := Lib.hid hpb
      clear hpo hpb hs2
      have hv1 := HO.out.own
      rw [HPK.out] at hv1
      have hv2 := Lib.hid ((own_below hv1 HPB.out).alloc (.cells #[.slice A1 l.length c1] 22))
      clear hv1
      go_wp2_with (at_builtin; refine wpList_append_own_at _ rfl _ _ 26 rfl w.heap.size 22 i0 (.slice none 0 0) 1 24 Try.underlying26 hi hz0 hz1 hz2 rfl (by decide) _ _ _ rfl hv2.out ⟨w1.heap.size, 0, none⟩ 1 1 [.slice A1 l.length c1] rfl rfl ?c1 ?c2 ?c3 ?c4 ?c5 ?_)
      case c1 =>
        intro j u hj
        match j, hj with
        | 0, hj => simp at hj; subst hj; simp [Addr.add]
      case c2 => intro u hu; simp at hu; subst hu; rfl
      case c3 => unfold maxLen; omega
      case c4 => omega
      case c5 => have h1 := HB.out.size; have h2 := HPB.out.size; simp; omega
      intro v' w2 hown hg _ hat
      have hO2 : PartsO w2 w.heap.size v' (ll.take (k + 1)) := by
        rw [take_snoc' ll k [] hk2, ← HPL.out, ← HL.out]
        exact ⟨_, PartsOv.snoc HB.out.size (Nat.le_refl _) HO.out (HPB.out.trans ((below_alloc _ _).mono HPB.out.size)) (HPO.out.alloc _) (by rw [HPK.out]; exact hown) hg⟩
      have hB2 : Below w.heap.size w w2 :=
        (below_step HB.out (below_step HPB.out (below_alloc _ _))).grown hg (by have h1 := HB.out.size; have h2 := HPB.out.size; simp; omega) (fun k hk => own_ge hv2.out k hk)
      clear hown hg hat
      go_wp2
      go_roundw
      case rel => exact ⟨k + 1, by omega, by go_num, hO2, hB2⟩
      case measure => exact own_meas hlt
    · go_wp2
      go_ret
      have hkn : k = n := by omega
      rw [hkn, List.take_of_length_le (by have := HN.out; omega)] at hO
      exact ⟨_, rfl, hO, hb⟩
end Go.Proofs.Ytkbboepopcebaaa
