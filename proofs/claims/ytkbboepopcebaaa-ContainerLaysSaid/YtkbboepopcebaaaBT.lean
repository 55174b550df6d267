/- The reference's copied. -/
import Derived.Test.YtkbboepopcebaaaBS
namespace Go.Proofs.Ytkbboepopcebaaa
open Go.RowKit

section
variable {ops : Array Oper} {rest : List Oper} {o : Oper} {a : Act} {Q : Exit → Act → World → Prop}
/-- append(out, p), the slice p in its box. -/
theorem app_part {W : World} {p : Value} (s x : Operand) (hgd : o.guard = none) (ho : o.op = .call { callee := .builtin .append, args := #[s, x], argTypes := #[26, 26] })
    (B n : Nat) (v : Value) (vs : List Value) (hs : a.eval s = v) (HO : Hid (W.ownsRow B 22 1 v n vs)) (hp : p.oneCell' = true) (hx : a.eval x = .slice (some ⟨W.heap.size, 0, none⟩) 1 1) (hB : B ≤ W.heap.size) (hl : n + 1 ≤ 4294967296)
    (h : ∀ v' w', w'.ownsRow B 22 1 v' (n + 1) (vs ++ [p]) → (W.alloc (.cells #[p] 22)).grownBy w' v.ownBlock → wpList Try.prog ops Q rest (a.put o.dst v') w') : wpList Try.prog ops Q (o :: rest) a (W.alloc (.cells #[p] 22)) := by
  obtain ⟨i0, hi, hz0, hz1, hz2⟩ := info_parts info22
  have hb := below_alloc W (.cells #[p] 22)
  have hn := World.news_of_block (w := W.alloc (.cells #[p] 22)) (B := W.heap.size) (cs := #[p]) (t := 22) (fr := (0, 0)) (heap_alloc_new W _)
  refine wpList_append_own_at _ hgd s x 26 ho B 22 i0 (.slice none 0 0) 1 24 Try.underlying26 hi hz0 hz1 hz2 rfl (by decide) v n vs hs (own_below HO.out hb) ⟨W.heap.size, 0, none⟩ 1 1 [p] hx rfl (by simpa using hn) ?_ (by unfold maxLen; omega) (by omega) (by simp; omega) ?_
  · intro u hu
    simp at hu
    subst hu
    exact hp
  · intro v' w' hown hg _ _
    exact h v' w' hown hg
end
set_option maxRecDepth 100000 in
set_option maxHeartbeats 2000000 in
theorem copied_any (A : Option Addr) (c n : Nat) (ll : List (List Int)) (w : World) (hn : ll.length = n) (hf : n ≤ 1048576) (h : PartsR w A ll) :
    Calls Try.prog 61 #[.slice A n c] w fun e w' => ∃ v', e = .returned v' ∧ PartsO w' w.heap.size v' ll ∧ Below w.heap.size w w' := by
  obtain ⟨i0, hi, hz0, hz1, hz2⟩ := info_parts info22
  have HN := Lib.hid hn; clear hn
  have HP := Lib.hid h; clear h
  go_enter Try.func61, Try.ntmps61
  go_wp2
  go_loopw [3, 4] (fun v i wr => ∃ k : Nat, k ≤ n ∧ i = .int .i64 k ∧ PartsO wr w.heap.size v (ll.take k) ∧ Below w.heap.size w wr) (fun _ i _ => n - (intOf i).toNat)
  case atStart => exact ⟨0, Nat.zero_le _, rfl, PartsO.nil _ _, Below.refl _ _⟩
  case round =>
    obtain ⟨k, hk, rfl, hO, hb⟩ := hrel
    by_cases hlt : k < n
    · have hk2 : k < ll.length := by have := HN.out; omega
      obtain ⟨b1, o1, rfl, hc⟩ := (HP.out.mono hb).2 (by omega)
      obtain ⟨p, hcell, hp⟩ := hc k hk2
      obtain ⟨l, hl⟩ : ∃ l, l = ll.getD k [] := ⟨_, rfl⟩
      rw [← hl] at hp
      have HL := Lib.hid hl
      obtain ⟨pl, hpl⟩ : ∃ pl, pl = ll.take k := ⟨_, rfl⟩
      have hpk : pl.length = k := by rw [hpl, List.length_take]; omega
      rw [← hpl] at hO
      have HPL := Lib.hid hpl
      have HPK := Lib.hid hpk
      have HC := Lib.hid hp
      have HB := Lib.hid hb
      obtain ⟨vs, hov⟩ := hO
      have hkb : (k : Int) ≤ 1048576 := by omega
      have how := hov.own
      rw [hpk] at how
      have HOW := Lib.hid how
      have HO := Lib.hid hov
      obtain ⟨A5, c5, hp5, _, _, hr5⟩ := hp
      have hlr : l.length ≤ reach := hr5.1
      subst hp5
      have HLR : Hid (([] : List Int).length + l.length ≤ reach) := Lib.hid (by simpa using hlr)
      have HNIL : Hid (Own8 wr wr.heap.size (.slice none 0 0) []) := Lib.hid (Own8.nil _ _)
      clear hc hb hpl hpk hov hl how hr5
      have hwB : Hid (w.heap.size ≤ wr.heap.size) := Lib.hid HB.out.size
      go_wp2_with (at_builtin; first
        | (refine app_list (.const (.slice none 0 0)) (.tmp 15) rfl rfl wr.heap.size (.slice none 0 0) _ [] l rfl HNIL rfl HC (Nat.le_refl _) HLR ?_; intro v5 w5 ho5 hb5; rw [List.nil_append] at ho5; obtain ⟨A1, c1, rfl, _⟩ := own_shape ho5; have HPO := Lib.hid ho5; have HPB := Lib.hid hb5; have HV5 := Lib.hid (own_below HOW.out HPB.out); have hz5 := Nat.le_trans hwB.out HPB.out.size; clear ho5 hb5)
        | (refine app_part (.tmp 11) (.tmp 17) rfl rfl w.heap.size k _ vs rfl HV5 rfl rfl hz5 (by omega) ?_; intro v6 w6 ho6 hg6; have HO6 := Lib.hid ho6; have HG6 := Lib.hid hg6; clear ho6 hg6))
      go_roundw
      case rel =>
        refine ⟨k + 1, by omega, by go_num, ?_, ?_⟩
        · rw [take_snoc' ll k [] hk2, ← HPL.out, ← HL.out]
          exact ⟨_, PartsOv.snoc HB.out.size (Nat.le_refl _) HO.out (HPB.out.trans ((below_alloc _ _).mono HPB.out.size)) (HPO.out.alloc _) (by rw [HPK.out]; exact HO6.out) HG6.out⟩
        · exact (below_step HB.out (below_step HPB.out (below_alloc _ _))).grown HG6.out (by have h1 := HB.out.size; have h2 := HPB.out.size; simp; omega) (fun k hk => own_ge HV5.out k hk)
      case measure => exact own_meas hlt
    · go_wp2
      go_ret
      have hkn : k = n := by omega
      rw [hkn, List.take_of_length_le (by have := HN.out; omega)] at hO
      exact ⟨_, rfl, hO, hb⟩
end Go.Proofs.Ytkbboepopcebaaa
