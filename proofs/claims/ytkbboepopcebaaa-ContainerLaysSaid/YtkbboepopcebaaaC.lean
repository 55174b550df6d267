/- Contracts over lists of lists: sameParts, ownParts, clones, copied; slices.Clone. -/
import Derived.Test.YtkbboepopcebaaaA
import Derived.Test.YtkbboepopcebaaaP
namespace Go.Proofs.Ytkbboepopcebaaa
open Go.RowKit

theorem info22 : (Try.prog.info? 22).map (fun i => (i.zero, i.size, i.bytes)) = some (some (.slice none 0 0), 1, 24) := by kernel_rfl
def most : Nat := 4294967296
/-- What ownParts and its kin ask: a number of parts whose array can be made. -/
def Few (ll : List (List Int)) : Prop := ll.length ≤ most

theorem own_meas {n k : Nat} (h : k < n) : n - (intOf (.int .i64 ((k : Int) + 1))).toNat < n - (intOf (.int .i64 (k : Int))).toNat := by simp [intOf]; omega

set_option maxRecDepth 100000 in
set_option maxHeartbeats 800000 in
theorem ownParts_at (A : Option Addr) (c n : Nat) (ll : List (List Int)) (w : World) (hn : ll.length = n) (hf : Few ll) (h : PartsR w A ll) :
    Calls Try.prog 44 #[.slice A n c] w fun e w' => ∃ v', e = .returned v' ∧ PartsO w' w.heap.size v' ll ∧ Below w.heap.size w w' := by
  obtain ⟨i0, hi, hz0, hz1, hz2⟩ := info_parts info22
  have HN := Lib.hid hn; clear hn
  have HF := Lib.hid hf; clear hf
  have HP := Lib.hid h; clear h
  have hmx : n ≤ 4294967296 := by have := HN.out; have h2 := HF.out; unfold Few most at h2; omega
  go_enter Try.func44, Try.ntmps44
  go_wp2
  go_loopw [3, 4] (fun v i wr => ∃ k : Nat, k ≤ n ∧ i = .int .i64 k ∧ PartsO wr w.heap.size v (ll.take k) ∧ Below w.heap.size w wr) (fun _ i _ => n - (intOf i).toNat)
  case atStart => exact ⟨0, Nat.zero_le _, rfl, PartsO.nil _ _, Below.refl _ _⟩
  case round =>
    obtain ⟨k, hk, rfl, hO, hb⟩ := hrel
    by_cases hlt : k < n
    · have hk2 : k < ll.length := by have := HN.out; omega
      obtain ⟨b1, o1, rfl, hc⟩ := (HP.out.mono hb).2 (by omega)
      obtain ⟨p, hcell, hp⟩ := hc k hk2
      obtain ⟨l, hl⟩ : ∃ l, l = ll.getD k [] := ⟨_, rfl⟩
      rw [← hl] at hp
      have HL := Lib.hid hl
      clear hl
      obtain ⟨pl, hpl⟩ : ∃ pl, pl = ll.take k := ⟨_, rfl⟩
      have hpk : pl.length = k := by rw [hpl, List.length_take]; omega
      rw [← hpl] at hO
      have HPL := Lib.hid hpl
      have HPK := Lib.hid hpk
      clear hpl
      have HC := Lib.hid hp
      have HO := Lib.hid hO
      have HB := Lib.hid hb
      obtain ⟨vs, hov⟩ := hO
      obtain ⟨A0, c0, rfl, hsh⟩ := own_shape hov.own
      rw [hpk] at hov ⊢
      have HO := Lib.hid hov
      clear hc hp hb hpk hsh hov
      go_wp2_with fail
      refine (own_any _ _ _ HC.out).mono ?_
      rintro e w1 ⟨p', rfl, hpo, hpb⟩
      obtain ⟨A1, c1, rfl, hs2⟩ := own_shape hpo
      have HPO := Lib.hid hpo
      have HPB := Lib.hid hpb
      clear hpo hpb hs2
      have hv1 := HO.out.own
      rw [HPK.out] at hv1
      have hv2 := Lib.hid ((own_below hv1 HPB.out).alloc (.cells #[.slice A1 l.length c1] 22))
      clear hv1
      go_wp2_with (at_builtin; refine wpList_append_own_at _ rfl _ _ 26 rfl w.heap.size 22 i0 (.slice none 0 0) 1 24 Try.underlying26 hi hz0 hz1 hz2 rfl (by decide) _ _ _ rfl hv2.out ⟨w1.heap.size, 0, none⟩ 1 1 [.slice A1 l.length c1] rfl rfl ?c1 ?c2 ?c3 ?c4 ?c5 ?_)
      case c1 =>
        intro j u hj
        match j, hj with
        | 0, hj => simp at hj; subst hj; simp [Addr.add]
      case c2 => intro u hu; simp at hu; subst hu; rfl
      case c3 => unfold maxLen; omega
      case c4 => omega
      case c5 => have h1 := HB.out.size; have h2 := HPB.out.size; simp; omega
      intro v' w2 hown hg _ hat
      have hO2 : PartsO w2 w.heap.size v' (ll.take (k + 1)) := by
        rw [take_snoc' ll k [] hk2, ← HPL.out, ← HL.out]
        exact ⟨_, PartsOv.snoc HB.out.size (Nat.le_refl _) HO.out (HPB.out.trans ((below_alloc _ _).mono HPB.out.size)) (HPO.out.alloc _) (by rw [HPK.out]; exact hown) hg⟩
      have hB2 : Below w.heap.size w w2 :=
        (below_step HB.out (below_step HPB.out (below_alloc _ _))).grown hg (by have h1 := HB.out.size; have h2 := HPB.out.size; simp; omega) (fun k hk => own_ge hv2.out k hk)
      clear hown hg hat
      go_wp2
      go_roundw
      case rel => exact ⟨k + 1, by omega, by go_num, hO2, hB2⟩
      case measure => exact own_meas hlt
    · go_wp2
      go_ret
      have hkn : k = n := by omega
      rw [hkn, List.take_of_length_le (by have := HN.out; omega)] at hO
      exact ⟨_, rfl, hO, hb⟩
end Go.Proofs.Ytkbboepopcebaaa
