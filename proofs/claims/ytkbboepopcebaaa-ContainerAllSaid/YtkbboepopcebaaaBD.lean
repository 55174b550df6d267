/- The reference's header: the walk. -/
import Derived.Test.YtkbboepopcebaaaBF
namespace Go.Proofs.Ytkbboepopcebaaa
open Go.RowKit

theorem ne_flip {a b : Option Nat} (h : a = none ∨ a ≠ b) : b = none ∨ b ≠ a := by
  cases b with
  | none => exact .inl rfl
  | some k =>
    rcases h with e | e
    · exact .inr (by rw [e]; simp)
    · exact .inr e.symm
theorem num_bdQ {b : List Int} (h : Byt b) (a s : Nat) (hs : s ≤ 4) : 0 ≤ num b a s ∧ num b a s ≤ 4294967295 := by
  have h1 := num_bd h a s
  have : (256 : Int) ^ s ≤ 4294967296 := by
    rcases (show s = 0 ∨ s = 1 ∨ s = 2 ∨ s = 3 ∨ s = 4 by omega) with rfl | rfl | rfl | rfl | rfl <;> decide
  omega
theorem num_bdS {b : List Int} (h : Byt b) (a s : Nat) (hs : s ≤ 2) : num b a s ≤ 65535 := by
  have h1 := num_bd h a s
  have : (256 : Int) ^ s ≤ 65536 := by
    rcases (show s = 0 ∨ s = 1 ∨ s = 2 by omega) with rfl | rfl | rfl <;> decide
  omega

set_option maxRecDepth 100000 in
set_option maxHeartbeats 40000000 in
theorem header_any (A : Option Addr) (n c : Nat) (b : List Int) (w : World) (N0 : Nat) (R : Except Bad HS) (hb : NumsR w .u8 A b) (hy : Byt b) (hn : b.length = n) (hs : n ≤ 4194304) (hgo : HGo b N0 fields0 hs0 R) :
    Calls Try.prog 62 #[.slice A n c] w (HPost R w) := by
  have HBB := Lib.hid hb; clear hb
  have HY := Lib.hid hy; clear hy
  have HN := Lib.hid hn; clear hn
  have HGO := Lib.hid hgo; clear hgo
  go_enter Try.func62, Try.ntmps62
  go_wp2
  obtain ⟨g0, hg0⟩ : ∃ g, g = w.heap.size := ⟨_, rfl⟩
  have hfl : OwnF (w.alloc (.cells (flsOf fields0).toArray 107)) w.heap.size (.slice (some ⟨w.heap.size, 0, none⟩) 7 7) fields0 :=
    ⟨by rw [flsOf_length], .inr ⟨w.heap.size, 7, (flsOf fields0).toArray, rfl, Nat.le_refl _, heap_alloc_new _ _, Nat.le_refl _, by simp [maxLen], rfl, rfl⟩⟩
  have HFL := Lib.hid hfl
  clear hfl hg0
  go_loopg [2, 3, 4, 8, 9, 10, 11] N0 (fun n0 v2 v3 v4 v8 v9 v10 v11 wr => ∃ fl i s, HRel b R w n0 v2 v3 v4 v8 v9 v10 v11 wr fl i s)
  case atStart =>
    exact ⟨fields0, 0, hs0, rfl, Nat.zero_le _, rfl, Nat.zero_le _, Nat.le_refl _, rfl, rfl, HFL.out, World.ownsRow_nil _ _ _ _, World.ownsRow_nil _ _ _ _, .inl rfl, by simp [hs0], by simp [hs0], by simp [fields0], by unfold fields0 Kind; simp, below_alloc _ _, HGO.out⟩
  case round =>
    clear HFL HGO
    obtain ⟨fl, i, s, hrel⟩ := hrel
    have HR := Lib.hid hrel
    obtain ⟨k, types, cl, sl, size⟩ := s
    obtain rfl := hrel.hi
    obtain rfl := hrel.hk
    obtain rfl := hrel.ht
    obtain rfl := hrel.hsz
    have kb : (k : Int) ≤ (n : Int) := by have h1 : k ≤ b.length := hrel.hkb; have := HN.out; omega
    have k0 : (0 : Int) ≤ (k : Int) := by omega
    have nb : (n : Int) ≤ 4194304 := by omega
    by_cases hi : i < fl.length
    · have hfll : fl.length ≤ 1000000000000 := by have := hrel.hfll; have h2 : i ≤ k := hrel.hik; have h1 : k ≤ b.length := hrel.hkb; have := HN.out; omega
      obtain ⟨g, cap, rfl, hcells⟩ := own_shapeF hrel.hof (by omega)
      obtain ⟨hc0, hc1⟩ := hcells i hi
      have hkind := hrel.hkinds (fl.getD i (0, 0)) (by rw [List.getD_eq_getElem?_getD]; simp [hi])
      have hinv := hrel.hgo
      rw [drop_cons fl i (0, 0) hi] at hinv
      have hinv := hinv.inv
      obtain ⟨f, hf⟩ : ∃ f, f = fl.getD i (0, 0) := ⟨_, rfl⟩
      rw [← hf] at hc0 hc1 hkind hinv
      obtain ⟨L, hL⟩ : ∃ L, L = fl.length := ⟨_, rfl⟩
      rw [← hL] at hi hfll ⊢
      have hi2 : (i : Int) < (L : Int) := by omega
      have hi0 : (0 : Int) ≤ (i : Int) := by omega
      have hi3 : (i : Int) ≤ 4194304 := by have h2 : i ≤ k := hrel.hik; omega
      have HLL := Lib.hid hL
      clear hcells hL hf hrel
      rcases hkind with rfl | rfl | rfl | rfl | rfl | rfl | rfl | rfl | rfl | rfl | rfl | rfl | rfl | rfl
      · have hA : Hid (∀ W, Below w.heap.size w W → Calls Try.prog 66 #[.slice A n c, .int .i64 k, .int .i64 1] W fun e w' => e = .returned (.int .i64 (num b k 1)) ∧ W = w') ∨ b.length < k + 1 := by
          by_cases h : b.length < k + 1
          · exact .inr h
          · refine .inl (Lib.hid fun W hW => ?_)
            have := at_any A c n k 1 b W (HBB.out.mono hW) HY.out HN.out (by omega) (by omega) (by omega) (by have := HN.out; omega)
            rwa [Int.toNat_natCast] at this
        have hwa : Below w.heap.size w (wr.alloc (.cells #[.int .i64 1, .int .i64 1] 107)) := below_trans HR.out.hbelow HR.out.hbelow.size (below_alloc _ _)
        have HWA := Lib.hid hwa
        have HOW : Hid (OwnF (wr.alloc (.cells #[.int .i64 1, .int .i64 1] 107)) w.heap.size (.slice (some ⟨g, 0, none⟩) L cap) fl) := Lib.hid (by rw [HLL.out]; exact own_below HR.out.hof (below_alloc _ _))
        clear hwa
        have hw1 : IntKind.i64.wrap ((k : Int) + 1) = (k : Int) + 1 := IntWalk.i64_in _ (by omega)
        rcases hinv with ⟨hcut, hRR⟩ | ⟨hcut, hbad, hRR⟩ | ⟨hcut, hok, m, rfl, hgo⟩
        · have hct : (n : Int) < (k : Int) + 1 := by have := HN.out; simp at hcut; omega
          have HRR : Hid (R = .error (50, (n : Int))) := Lib.hid (by rw [hRR, HN.out])
          clear hA hcut hRR
          go_wp2
          refine bodyPost_ret (v := .tuple #[.slice none 0 0, .slice none 0 0, .int .i64 0, .int .i64 0, .int .i64 50, .int .i64 (n)]) (by simp [results, Try.results62, go_sem]) rfl (hp_err HRR.out HWA.out)
        · have hct : ¬ (n : Int) < (k : Int) + 1 := by have := HN.out; simp at hcut; omega
          have HAT : Hid (∀ W, Below w.heap.size w W → Calls Try.prog 66 #[.slice A n c, .int .i64 k, .int .i64 1] W fun e w' => e = .returned (.int .i64 (num b k 1)) ∧ W = w') := hA.resolve_right (by simpa using hcut)
          obtain ⟨v, hv⟩ : ∃ v, v = num b k 1 := ⟨_, rfl⟩
          have hvb := num_bdQ HY.out k 1 (by omega)
          have hat := HAT.out
          simp only [show (((1, 1) : Fl).1).toNat = 1 from rfl, show ((1, 1) : Fl).2 = 1 from rfl] at hbad hRR
          rw [← hv] at hvb hat hbad hRR
          obtain ⟨x, hx⟩ : ∃ x, x = wrongF 1 v types := ⟨_, rfl⟩
          rw [← hx] at hbad hRR
          have v0 := hvb.1
          have v1 := hvb.2
          have HAT2 := Lib.hid hat
          have HX := Lib.hid hx
          have HRR := Lib.hid hRR
          have hxq : (!(x == 0)) = true := by simp [hbad]
          have hxq2 : (x == 0) = false := by simp [hbad]
          clear hA hcut hRR hvb hat hv HAT hbad hx
          go_wp2_with fail
          refine (HAT2.out _ HWA.out).mono ?_
          rintro e w1 ⟨rfl, rfl⟩
          go_wp2_with fail
          have hwr := wrong_1 v types (wr.alloc (.cells #[.int .i64 1, .int .i64 1] 107)) v0 v1
          rw [← HX.out] at hwr
          refine hwr.mono ?_
          clear hwr
          rintro e w1 ⟨rfl, rfl⟩
          go_wp2
          refine bodyPost_ret (v := .tuple #[.slice none 0 0, .slice none 0 0, .int .i64 0, .int .i64 0, .int .i64 x, .int .i64 (k)]) (by simp [results, Try.results62, go_sem]) rfl (hp_err HRR.out HWA.out)
        · have hct : ¬ (n : Int) < (k : Int) + 1 := by have := HN.out; simp at hcut; omega
          have HAT : Hid (∀ W, Below w.heap.size w W → Calls Try.prog 66 #[.slice A n c, .int .i64 k, .int .i64 1] W fun e w' => e = .returned (.int .i64 (num b k 1)) ∧ W = w') := hA.resolve_right (by simpa using hcut)
          obtain ⟨v, hv⟩ : ∃ v, v = num b k 1 := ⟨_, rfl⟩
          have hvb := num_bdQ HY.out k 1 (by omega)
          have hvb2 := num_bdS HY.out k 1 (by omega)
          have hat := HAT.out
          simp only [show (((1, 1) : Fl).1).toNat = 1 from rfl, show ((1, 1) : Fl).2 = 1 from rfl] at hok hgo
          rw [← hv] at hvb hat hok hgo
          rw [← hv] at hvb2
          have v0 := hvb.1
          have v1 := hvb.2
          have HAT2 := Lib.hid hat
          have HCUT : Hid (¬ b.length < k + 1) := Lib.hid (by simpa using hcut)
          have HV := Lib.hid hv
          have HOK := Lib.hid hok
          have HGO := Lib.hid hgo
          clear hA hcut hvb hat hv HAT hok hgo
          go_wp2_with fail
          refine (HAT2.out _ HWA.out).mono ?_
          rintro e w1 ⟨rfl, rfl⟩
          go_wp2_with fail
          have hwr := wrong_1 v types (wr.alloc (.cells #[.int .i64 1, .int .i64 1] 107)) v0 v1
          rw [HOK.out] at hwr
          refine hwr.mono ?_
          clear hwr
          rintro e w1 ⟨rfl, rfl⟩
          go_wp2
          go_roundg m
          case measure => omega
          case rel =>
            exact ⟨_, i + 1, _, HR.out.step (by rw [← HLL.out]; exact hi) (f := (1, 1)) (v := v) (by simpa using HCUT.out) (by decide) (by unfold hmore; simp) HGO.out (by go_num) (by go_num) rfl rfl (by simpa [hmore] using HOW.out) (own_below HR.out.hoc (below_alloc _ _)) (own_below HR.out.hos (below_alloc _ _)) HR.out.hne HWA.out⟩
      · have hA : Hid (∀ W, Below w.heap.size w W → Calls Try.prog 66 #[.slice A n c, .int .i64 k, .int .i64 1] W fun e w' => e = .returned (.int .i64 (num b k 1)) ∧ W = w') ∨ b.length < k + 1 := by
          by_cases h : b.length < k + 1
          · exact .inr h
          · refine .inl (Lib.hid fun W hW => ?_)
            have := at_any A c n k 1 b W (HBB.out.mono hW) HY.out HN.out (by omega) (by omega) (by omega) (by have := HN.out; omega)
            rwa [Int.toNat_natCast] at this
        have hwa : Below w.heap.size w (wr.alloc (.cells #[.int .i64 1, .int .i64 2] 107)) := below_trans HR.out.hbelow HR.out.hbelow.size (below_alloc _ _)
        have HWA := Lib.hid hwa
        have HOW : Hid (OwnF (wr.alloc (.cells #[.int .i64 1, .int .i64 2] 107)) w.heap.size (.slice (some ⟨g, 0, none⟩) L cap) fl) := Lib.hid (by rw [HLL.out]; exact own_below HR.out.hof (below_alloc _ _))
        clear hwa
        have hw1 : IntKind.i64.wrap ((k : Int) + 1) = (k : Int) + 1 := IntWalk.i64_in _ (by omega)
        rcases hinv with ⟨hcut, hRR⟩ | ⟨hcut, hbad, hRR⟩ | ⟨hcut, hok, m, rfl, hgo⟩
        · have hct : (n : Int) < (k : Int) + 1 := by have := HN.out; simp at hcut; omega
          have HRR : Hid (R = .error (50, (n : Int))) := Lib.hid (by rw [hRR, HN.out])
          clear hA hcut hRR
          go_wp2
          refine bodyPost_ret (v := .tuple #[.slice none 0 0, .slice none 0 0, .int .i64 0, .int .i64 0, .int .i64 50, .int .i64 (n)]) (by simp [results, Try.results62, go_sem]) rfl (hp_err HRR.out HWA.out)
        · have hct : ¬ (n : Int) < (k : Int) + 1 := by have := HN.out; simp at hcut; omega
          have HAT : Hid (∀ W, Below w.heap.size w W → Calls Try.prog 66 #[.slice A n c, .int .i64 k, .int .i64 1] W fun e w' => e = .returned (.int .i64 (num b k 1)) ∧ W = w') := hA.resolve_right (by simpa using hcut)
          obtain ⟨v, hv⟩ : ∃ v, v = num b k 1 := ⟨_, rfl⟩
          have hvb := num_bdQ HY.out k 1 (by omega)
          have hat := HAT.out
          simp only [show (((1, 2) : Fl).1).toNat = 1 from rfl, show ((1, 2) : Fl).2 = 2 from rfl] at hbad hRR
          rw [← hv] at hvb hat hbad hRR
          obtain ⟨x, hx⟩ : ∃ x, x = wrongF 2 v types := ⟨_, rfl⟩
          rw [← hx] at hbad hRR
          have v0 := hvb.1
          have v1 := hvb.2
          have HAT2 := Lib.hid hat
          have HX := Lib.hid hx
          have HRR := Lib.hid hRR
          have hxq : (!(x == 0)) = true := by simp [hbad]
          have hxq2 : (x == 0) = false := by simp [hbad]
          clear hA hcut hRR hvb hat hv HAT hbad hx
          go_wp2_with fail
          refine (HAT2.out _ HWA.out).mono ?_
          rintro e w1 ⟨rfl, rfl⟩
          go_wp2_with fail
          have hwr := wrong_2 v types (wr.alloc (.cells #[.int .i64 1, .int .i64 2] 107)) v0 v1
          rw [← HX.out] at hwr
          refine hwr.mono ?_
          clear hwr
          rintro e w1 ⟨rfl, rfl⟩
          go_wp2
          refine bodyPost_ret (v := .tuple #[.slice none 0 0, .slice none 0 0, .int .i64 0, .int .i64 0, .int .i64 x, .int .i64 (k)]) (by simp [results, Try.results62, go_sem]) rfl (hp_err HRR.out HWA.out)
        · have hct : ¬ (n : Int) < (k : Int) + 1 := by have := HN.out; simp at hcut; omega
          have HAT : Hid (∀ W, Below w.heap.size w W → Calls Try.prog 66 #[.slice A n c, .int .i64 k, .int .i64 1] W fun e w' => e = .returned (.int .i64 (num b k 1)) ∧ W = w') := hA.resolve_right (by simpa using hcut)
          obtain ⟨v, hv⟩ : ∃ v, v = num b k 1 := ⟨_, rfl⟩
          have hvb := num_bdQ HY.out k 1 (by omega)
          have hvb2 := num_bdS HY.out k 1 (by omega)
          have hat := HAT.out
          simp only [show (((1, 2) : Fl).1).toNat = 1 from rfl, show ((1, 2) : Fl).2 = 2 from rfl] at hok hgo
          rw [← hv] at hvb hat hok hgo
          rw [← hv] at hvb2
          have v0 := hvb.1
          have v1 := hvb.2
          have HAT2 := Lib.hid hat
          have HCUT : Hid (¬ b.length < k + 1) := Lib.hid (by simpa using hcut)
          have HV := Lib.hid hv
          have HOK := Lib.hid hok
          have HGO := Lib.hid hgo
          clear hA hcut hvb hat hv HAT hok hgo
          go_wp2_with fail
          refine (HAT2.out _ HWA.out).mono ?_
          rintro e w1 ⟨rfl, rfl⟩
          go_wp2_with fail
          have hwr := wrong_2 v types (wr.alloc (.cells #[.int .i64 1, .int .i64 2] 107)) v0 v1
          rw [HOK.out] at hwr
          refine hwr.mono ?_
          clear hwr
          rintro e w1 ⟨rfl, rfl⟩
          go_wp2
          go_roundg m
          case measure => omega
          case rel =>
            exact ⟨_, i + 1, _, HR.out.step (by rw [← HLL.out]; exact hi) (f := (1, 2)) (v := v) (by simpa using HCUT.out) (by decide) (by unfold hmore; simp) HGO.out (by go_num) (by go_num) rfl rfl (by simpa [hmore] using HOW.out) (own_below HR.out.hoc (below_alloc _ _)) (own_below HR.out.hos (below_alloc _ _)) HR.out.hne HWA.out⟩
      · have hA : Hid (∀ W, Below w.heap.size w W → Calls Try.prog 66 #[.slice A n c, .int .i64 k, .int .i64 1] W fun e w' => e = .returned (.int .i64 (num b k 1)) ∧ W = w') ∨ b.length < k + 1 := by
          by_cases h : b.length < k + 1
          · exact .inr h
          · refine .inl (Lib.hid fun W hW => ?_)
            have := at_any A c n k 1 b W (HBB.out.mono hW) HY.out HN.out (by omega) (by omega) (by omega) (by have := HN.out; omega)
            rwa [Int.toNat_natCast] at this
        have hwa : Below w.heap.size w (wr.alloc (.cells #[.int .i64 1, .int .i64 3] 107)) := below_trans HR.out.hbelow HR.out.hbelow.size (below_alloc _ _)
        have HWA := Lib.hid hwa
        have HOW : Hid (OwnF (wr.alloc (.cells #[.int .i64 1, .int .i64 3] 107)) w.heap.size (.slice (some ⟨g, 0, none⟩) L cap) fl) := Lib.hid (by rw [HLL.out]; exact own_below HR.out.hof (below_alloc _ _))
        clear hwa
        have hw1 : IntKind.i64.wrap ((k : Int) + 1) = (k : Int) + 1 := IntWalk.i64_in _ (by omega)
        rcases hinv with ⟨hcut, hRR⟩ | ⟨hcut, hbad, hRR⟩ | ⟨hcut, hok, m, rfl, hgo⟩
        · have hct : (n : Int) < (k : Int) + 1 := by have := HN.out; simp at hcut; omega
          have HRR : Hid (R = .error (50, (n : Int))) := Lib.hid (by rw [hRR, HN.out])
          clear hA hcut hRR
          go_wp2
          refine bodyPost_ret (v := .tuple #[.slice none 0 0, .slice none 0 0, .int .i64 0, .int .i64 0, .int .i64 50, .int .i64 (n)]) (by simp [results, Try.results62, go_sem]) rfl (hp_err HRR.out HWA.out)
        · have hct : ¬ (n : Int) < (k : Int) + 1 := by have := HN.out; simp at hcut; omega
          have HAT : Hid (∀ W, Below w.heap.size w W → Calls Try.prog 66 #[.slice A n c, .int .i64 k, .int .i64 1] W fun e w' => e = .returned (.int .i64 (num b k 1)) ∧ W = w') := hA.resolve_right (by simpa using hcut)
          obtain ⟨v, hv⟩ : ∃ v, v = num b k 1 := ⟨_, rfl⟩
          have hvb := num_bdQ HY.out k 1 (by omega)
          have hat := HAT.out
          simp only [show (((1, 3) : Fl).1).toNat = 1 from rfl, show ((1, 3) : Fl).2 = 3 from rfl] at hbad hRR
          rw [← hv] at hvb hat hbad hRR
          obtain ⟨x, hx⟩ : ∃ x, x = wrongF 3 v types := ⟨_, rfl⟩
          rw [← hx] at hbad hRR
          have v0 := hvb.1
          have v1 := hvb.2
          have HAT2 := Lib.hid hat
          have HX := Lib.hid hx
          have HRR := Lib.hid hRR
          have hxq : (!(x == 0)) = true := by simp [hbad]
          have hxq2 : (x == 0) = false := by simp [hbad]
          clear hA hcut hRR hvb hat hv HAT hbad hx
          go_wp2_with fail
          refine (HAT2.out _ HWA.out).mono ?_
          rintro e w1 ⟨rfl, rfl⟩
          go_wp2_with fail
          have hwr := wrong_3 v types (wr.alloc (.cells #[.int .i64 1, .int .i64 3] 107)) v0 v1
          rw [← HX.out] at hwr
          refine hwr.mono ?_
          clear hwr
          rintro e w1 ⟨rfl, rfl⟩
          go_wp2
          refine bodyPost_ret (v := .tuple #[.slice none 0 0, .slice none 0 0, .int .i64 0, .int .i64 0, .int .i64 x, .int .i64 (k)]) (by simp [results, Try.results62, go_sem]) rfl (hp_err HRR.out HWA.out)
        · have hct : ¬ (n : Int) < (k : Int) + 1 := by have := HN.out; simp at hcut; omega
          have HAT : Hid (∀ W, Below w.heap.size w W → Calls Try.prog 66 #[.slice A n c, .int .i64 k, .int .i64 1] W fun e w' => e = .returned (.int .i64 (num b k 1)) ∧ W = w') := hA.resolve_right (by simpa using hcut)
          obtain ⟨v, hv⟩ : ∃ v, v = num b k 1 := ⟨_, rfl⟩
          have hvb := num_bdQ HY.out k 1 (by omega)
          have hvb2 := num_bdS HY.out k 1 (by omega)
          have hat := HAT.out
          simp only [show (((1, 3) : Fl).1).toNat = 1 from rfl, show ((1, 3) : Fl).2 = 3 from rfl] at hok hgo
          rw [← hv] at hvb hat hok hgo
          rw [← hv] at hvb2
          have v0 := hvb.1
          have v1 := hvb.2
          have HAT2 := Lib.hid hat
          have HCUT : Hid (¬ b.length < k + 1) := Lib.hid (by simpa using hcut)
          have HV := Lib.hid hv
          have HOK := Lib.hid hok
          have HGO := Lib.hid hgo
          clear hA hcut hvb hat hv HAT hok hgo
          go_wp2_with fail
          refine (HAT2.out _ HWA.out).mono ?_
          rintro e w1 ⟨rfl, rfl⟩
          go_wp2_with fail
          have hwr := wrong_3 v types (wr.alloc (.cells #[.int .i64 1, .int .i64 3] 107)) v0 v1
          rw [HOK.out] at hwr
          refine hwr.mono ?_
          clear hwr
          rintro e w1 ⟨rfl, rfl⟩
          go_wp2
          go_roundg m
          case measure => omega
          case rel =>
            exact ⟨_, i + 1, _, HR.out.step (by rw [← HLL.out]; exact hi) (f := (1, 3)) (v := v) (by simpa using HCUT.out) (by decide) (by unfold hmore; simp) HGO.out (by go_num) (by go_num) rfl rfl (by simpa [hmore] using HOW.out) (own_below HR.out.hoc (below_alloc _ _)) (own_below HR.out.hos (below_alloc _ _)) HR.out.hne HWA.out⟩
      · have hA : Hid (∀ W, Below w.heap.size w W → Calls Try.prog 66 #[.slice A n c, .int .i64 k, .int .i64 1] W fun e w' => e = .returned (.int .i64 (num b k 1)) ∧ W = w') ∨ b.length < k + 1 := by
          by_cases h : b.length < k + 1
          · exact .inr h
          · refine .inl (Lib.hid fun W hW => ?_)
            have := at_any A c n k 1 b W (HBB.out.mono hW) HY.out HN.out (by omega) (by omega) (by omega) (by have := HN.out; omega)
            rwa [Int.toNat_natCast] at this
        have hwa : Below w.heap.size w (wr.alloc (.cells #[.int .i64 1, .int .i64 4] 107)) := below_trans HR.out.hbelow HR.out.hbelow.size (below_alloc _ _)
        have HWA := Lib.hid hwa
        have HOW : Hid (OwnF (wr.alloc (.cells #[.int .i64 1, .int .i64 4] 107)) w.heap.size (.slice (some ⟨g, 0, none⟩) L cap) fl) := Lib.hid (by rw [HLL.out]; exact own_below HR.out.hof (below_alloc _ _))
        clear hwa
        have hw1 : IntKind.i64.wrap ((k : Int) + 1) = (k : Int) + 1 := IntWalk.i64_in _ (by omega)
        rcases hinv with ⟨hcut, hRR⟩ | ⟨hcut, hbad, hRR⟩ | ⟨hcut, hok, m, rfl, hgo⟩
        · have hct : (n : Int) < (k : Int) + 1 := by have := HN.out; simp at hcut; omega
          have HRR : Hid (R = .error (50, (n : Int))) := Lib.hid (by rw [hRR, HN.out])
          clear hA hcut hRR
          go_wp2
          refine bodyPost_ret (v := .tuple #[.slice none 0 0, .slice none 0 0, .int .i64 0, .int .i64 0, .int .i64 50, .int .i64 (n)]) (by simp [results, Try.results62, go_sem]) rfl (hp_err HRR.out HWA.out)
        · have hct : ¬ (n : Int) < (k : Int) + 1 := by have := HN.out; simp at hcut; omega
          have HAT : Hid (∀ W, Below w.heap.size w W → Calls Try.prog 66 #[.slice A n c, .int .i64 k, .int .i64 1] W fun e w' => e = .returned (.int .i64 (num b k 1)) ∧ W = w') := hA.resolve_right (by simpa using hcut)
          obtain ⟨v, hv⟩ : ∃ v, v = num b k 1 := ⟨_, rfl⟩
          have hvb := num_bdQ HY.out k 1 (by omega)
          have hat := HAT.out
          simp only [show (((1, 4) : Fl).1).toNat = 1 from rfl, show ((1, 4) : Fl).2 = 4 from rfl] at hbad hRR
          rw [← hv] at hvb hat hbad hRR
          obtain ⟨x, hx⟩ : ∃ x, x = wrongF 4 v types := ⟨_, rfl⟩
          rw [← hx] at hbad hRR
          have v0 := hvb.1
          have v1 := hvb.2
          have HAT2 := Lib.hid hat
          have HX := Lib.hid hx
          have HRR := Lib.hid hRR
          have hxq : (!(x == 0)) = true := by simp [hbad]
          have hxq2 : (x == 0) = false := by simp [hbad]
          clear hA hcut hRR hvb hat hv HAT hbad hx
          go_wp2_with fail
          refine (HAT2.out _ HWA.out).mono ?_
          rintro e w1 ⟨rfl, rfl⟩
          go_wp2_with fail
          have hwr := wrong_4 v types (wr.alloc (.cells #[.int .i64 1, .int .i64 4] 107)) v0 v1
          rw [← HX.out] at hwr
          refine hwr.mono ?_
          clear hwr
          rintro e w1 ⟨rfl, rfl⟩
          go_wp2
          refine bodyPost_ret (v := .tuple #[.slice none 0 0, .slice none 0 0, .int .i64 0, .int .i64 0, .int .i64 x, .int .i64 (k)]) (by simp [results, Try.results62, go_sem]) rfl (hp_err HRR.out HWA.out)
        · have hct : ¬ (n : Int) < (k : Int) + 1 := by have := HN.out; simp at hcut; omega
          have HAT : Hid (∀ W, Below w.heap.size w W → Calls Try.prog 66 #[.slice A n c, .int .i64 k, .int .i64 1] W fun e w' => e = .returned (.int .i64 (num b k 1)) ∧ W = w') := hA.resolve_right (by simpa using hcut)
          obtain ⟨v, hv⟩ : ∃ v, v = num b k 1 := ⟨_, rfl⟩
          have hvb := num_bdQ HY.out k 1 (by omega)
          have hvb2 := num_bdS HY.out k 1 (by omega)
          have hat := HAT.out
          simp only [show (((1, 4) : Fl).1).toNat = 1 from rfl, show ((1, 4) : Fl).2 = 4 from rfl] at hok hgo
          rw [← hv] at hvb hat hok hgo
          rw [← hv] at hvb2
          have v0 := hvb.1
          have v1 := hvb.2
          have HAT2 := Lib.hid hat
          have HCUT : Hid (¬ b.length < k + 1) := Lib.hid (by simpa using hcut)
          have HV := Lib.hid hv
          have HOK := Lib.hid hok
          have HGO := Lib.hid hgo
          clear hA hcut hvb hat hv HAT hok hgo
          go_wp2_with fail
          refine (HAT2.out _ HWA.out).mono ?_
          rintro e w1 ⟨rfl, rfl⟩
          go_wp2_with fail
          have hwr := wrong_4 v types (wr.alloc (.cells #[.int .i64 1, .int .i64 4] 107)) v0 v1
          rw [HOK.out] at hwr
          refine hwr.mono ?_
          clear hwr
          rintro e w1 ⟨rfl, rfl⟩
          go_wp2
          go_roundg m
          case measure => omega
          case rel =>
            exact ⟨_, i + 1, _, HR.out.step (by rw [← HLL.out]; exact hi) (f := (1, 4)) (v := v) (by simpa using HCUT.out) (by decide) (by unfold hmore; simp) HGO.out (by go_num) (by go_num) rfl rfl (by simpa [hmore] using HOW.out) (own_below HR.out.hoc (below_alloc _ _)) (own_below HR.out.hos (below_alloc _ _)) HR.out.hne HWA.out⟩
      · have hA : Hid (∀ W, Below w.heap.size w W → Calls Try.prog 66 #[.slice A n c, .int .i64 k, .int .i64 2] W fun e w' => e = .returned (.int .i64 (num b k 2)) ∧ W = w') ∨ b.length < k + 2 := by
          by_cases h : b.length < k + 2
          · exact .inr h
          · refine .inl (Lib.hid fun W hW => ?_)
            have := at_any A c n k 2 b W (HBB.out.mono hW) HY.out HN.out (by omega) (by omega) (by omega) (by have := HN.out; omega)
            rwa [Int.toNat_natCast] at this
        have hwa : Below w.heap.size w (wr.alloc (.cells #[.int .i64 2, .int .i64 5] 107)) := below_trans HR.out.hbelow HR.out.hbelow.size (below_alloc _ _)
        have HWA := Lib.hid hwa
        have HOW : Hid (OwnF (wr.alloc (.cells #[.int .i64 2, .int .i64 5] 107)) w.heap.size (.slice (some ⟨g, 0, none⟩) L cap) fl) := Lib.hid (by rw [HLL.out]; exact own_below HR.out.hof (below_alloc _ _))
        clear hwa
        have hw1 : IntKind.i64.wrap ((k : Int) + 2) = (k : Int) + 2 := IntWalk.i64_in _ (by omega)
        rcases hinv with ⟨hcut, hRR⟩ | ⟨hcut, hbad, hRR⟩ | ⟨hcut, hok, m, rfl, hgo⟩
        · have hct : (n : Int) < (k : Int) + 2 := by have := HN.out; simp at hcut; omega
          have HRR : Hid (R = .error (50, (n : Int))) := Lib.hid (by rw [hRR, HN.out])
          clear hA hcut hRR
          go_wp2
          refine bodyPost_ret (v := .tuple #[.slice none 0 0, .slice none 0 0, .int .i64 0, .int .i64 0, .int .i64 50, .int .i64 (n)]) (by simp [results, Try.results62, go_sem]) rfl (hp_err HRR.out HWA.out)
        · have hct : ¬ (n : Int) < (k : Int) + 2 := by have := HN.out; simp at hcut; omega
          have HAT : Hid (∀ W, Below w.heap.size w W → Calls Try.prog 66 #[.slice A n c, .int .i64 k, .int .i64 2] W fun e w' => e = .returned (.int .i64 (num b k 2)) ∧ W = w') := hA.resolve_right (by simpa using hcut)
          obtain ⟨v, hv⟩ : ∃ v, v = num b k 2 := ⟨_, rfl⟩
          have hvb := num_bdQ HY.out k 2 (by omega)
          have hat := HAT.out
          simp only [show (((2, 5) : Fl).1).toNat = 2 from rfl, show ((2, 5) : Fl).2 = 5 from rfl] at hbad hRR
          rw [← hv] at hvb hat hbad hRR
          obtain ⟨x, hx⟩ : ∃ x, x = wrongF 5 v types := ⟨_, rfl⟩
          rw [← hx] at hbad hRR
          have v0 := hvb.1
          have v1 := hvb.2
          have HAT2 := Lib.hid hat
          have HX := Lib.hid hx
          have HRR := Lib.hid hRR
          have hxq : (!(x == 0)) = true := by simp [hbad]
          have hxq2 : (x == 0) = false := by simp [hbad]
          clear hA hcut hRR hvb hat hv HAT hbad hx
          go_wp2_with fail
          refine (HAT2.out _ HWA.out).mono ?_
          rintro e w1 ⟨rfl, rfl⟩
          go_wp2_with fail
          have hwr := wrong_5 v types (wr.alloc (.cells #[.int .i64 2, .int .i64 5] 107)) v0 v1
          rw [← HX.out] at hwr
          refine hwr.mono ?_
          clear hwr
          rintro e w1 ⟨rfl, rfl⟩
          go_wp2
          refine bodyPost_ret (v := .tuple #[.slice none 0 0, .slice none 0 0, .int .i64 0, .int .i64 0, .int .i64 x, .int .i64 (k)]) (by simp [results, Try.results62, go_sem]) rfl (hp_err HRR.out HWA.out)
        · have hct : ¬ (n : Int) < (k : Int) + 2 := by have := HN.out; simp at hcut; omega
          have HAT : Hid (∀ W, Below w.heap.size w W → Calls Try.prog 66 #[.slice A n c, .int .i64 k, .int .i64 2] W fun e w' => e = .returned (.int .i64 (num b k 2)) ∧ W = w') := hA.resolve_right (by simpa using hcut)
          obtain ⟨v, hv⟩ : ∃ v, v = num b k 2 := ⟨_, rfl⟩
          have hvb := num_bdQ HY.out k 2 (by omega)
          have hvb2 := num_bdS HY.out k 2 (by omega)
          have hat := HAT.out
          simp only [show (((2, 5) : Fl).1).toNat = 2 from rfl, show ((2, 5) : Fl).2 = 5 from rfl] at hok hgo
          rw [← hv] at hvb hat hok hgo
          rw [← hv] at hvb2
          have v0 := hvb.1
          have v1 := hvb.2
          have HAT2 := Lib.hid hat
          have HCUT : Hid (¬ b.length < k + 2) := Lib.hid (by simpa using hcut)
          have HV := Lib.hid hv
          have HOK := Lib.hid hok
          have HGO := Lib.hid hgo
          clear hA hcut hvb hat hv HAT hok hgo
          go_wp2_with fail
          refine (HAT2.out _ HWA.out).mono ?_
          rintro e w1 ⟨rfl, rfl⟩
          go_wp2_with fail
          have hwr := wrong_5 v types (wr.alloc (.cells #[.int .i64 2, .int .i64 5] 107)) v0 v1
          rw [HOK.out] at hwr
          refine hwr.mono ?_
          clear hwr
          rintro e w1 ⟨rfl, rfl⟩
          go_wp2
          go_roundg m
          case measure => omega
          case rel =>
            exact ⟨_, i + 1, _, HR.out.step (by rw [← HLL.out]; exact hi) (f := (2, 5)) (v := v) (by simpa using HCUT.out) (by decide) (by unfold hmore; simp) HGO.out (by go_num) (by go_num) rfl rfl (by simpa [hmore] using HOW.out) (own_below HR.out.hoc (below_alloc _ _)) (own_below HR.out.hos (below_alloc _ _)) HR.out.hne HWA.out⟩
      · have hA : Hid (∀ W, Below w.heap.size w W → Calls Try.prog 66 #[.slice A n c, .int .i64 k, .int .i64 1] W fun e w' => e = .returned (.int .i64 (num b k 1)) ∧ W = w') ∨ b.length < k + 1 := by
          by_cases h : b.length < k + 1
          · exact .inr h
          · refine .inl (Lib.hid fun W hW => ?_)
            have := at_any A c n k 1 b W (HBB.out.mono hW) HY.out HN.out (by omega) (by omega) (by omega) (by have := HN.out; omega)
            rwa [Int.toNat_natCast] at this
        have hwa : Below w.heap.size w (wr.alloc (.cells #[.int .i64 1, .int .i64 6] 107)) := below_trans HR.out.hbelow HR.out.hbelow.size (below_alloc _ _)
        have HWA := Lib.hid hwa
        have HOW : Hid (OwnF (wr.alloc (.cells #[.int .i64 1, .int .i64 6] 107)) w.heap.size (.slice (some ⟨g, 0, none⟩) L cap) fl) := Lib.hid (by rw [HLL.out]; exact own_below HR.out.hof (below_alloc _ _))
        clear hwa
        have hw1 : IntKind.i64.wrap ((k : Int) + 1) = (k : Int) + 1 := IntWalk.i64_in _ (by omega)
        rcases hinv with ⟨hcut, hRR⟩ | ⟨hcut, hbad, hRR⟩ | ⟨hcut, hok, m, rfl, hgo⟩
        · have hct : (n : Int) < (k : Int) + 1 := by have := HN.out; simp at hcut; omega
          have HRR : Hid (R = .error (50, (n : Int))) := Lib.hid (by rw [hRR, HN.out])
          clear hA hcut hRR
          go_wp2
          refine bodyPost_ret (v := .tuple #[.slice none 0 0, .slice none 0 0, .int .i64 0, .int .i64 0, .int .i64 50, .int .i64 (n)]) (by simp [results, Try.results62, go_sem]) rfl (hp_err HRR.out HWA.out)
        · have hct : ¬ (n : Int) < (k : Int) + 1 := by have := HN.out; simp at hcut; omega
          have HAT : Hid (∀ W, Below w.heap.size w W → Calls Try.prog 66 #[.slice A n c, .int .i64 k, .int .i64 1] W fun e w' => e = .returned (.int .i64 (num b k 1)) ∧ W = w') := hA.resolve_right (by simpa using hcut)
          obtain ⟨v, hv⟩ : ∃ v, v = num b k 1 := ⟨_, rfl⟩
          have hvb := num_bdQ HY.out k 1 (by omega)
          have hat := HAT.out
          simp only [show (((1, 6) : Fl).1).toNat = 1 from rfl, show ((1, 6) : Fl).2 = 6 from rfl] at hbad hRR
          rw [← hv] at hvb hat hbad hRR
          obtain ⟨x, hx⟩ : ∃ x, x = wrongF 6 v types := ⟨_, rfl⟩
          rw [← hx] at hbad hRR
          have v0 := hvb.1
          have v1 := hvb.2
          have HAT2 := Lib.hid hat
          have HX := Lib.hid hx
          have HRR := Lib.hid hRR
          have hxq : (!(x == 0)) = true := by simp [hbad]
          have hxq2 : (x == 0) = false := by simp [hbad]
          clear hA hcut hRR hvb hat hv HAT hbad hx
          go_wp2_with fail
          refine (HAT2.out _ HWA.out).mono ?_
          rintro e w1 ⟨rfl, rfl⟩
          go_wp2_with fail
          have hwr := wrong_6 v types (wr.alloc (.cells #[.int .i64 1, .int .i64 6] 107)) v0 v1
          rw [← HX.out] at hwr
          refine hwr.mono ?_
          clear hwr
          rintro e w1 ⟨rfl, rfl⟩
          go_wp2
          refine bodyPost_ret (v := .tuple #[.slice none 0 0, .slice none 0 0, .int .i64 0, .int .i64 0, .int .i64 x, .int .i64 (k)]) (by simp [results, Try.results62, go_sem]) rfl (hp_err HRR.out HWA.out)
        · have hct : ¬ (n : Int) < (k : Int) + 1 := by have := HN.out; simp at hcut; omega
          have HAT : Hid (∀ W, Below w.heap.size w W → Calls Try.prog 66 #[.slice A n c, .int .i64 k, .int .i64 1] W fun e w' => e = .returned (.int .i64 (num b k 1)) ∧ W = w') := hA.resolve_right (by simpa using hcut)
          obtain ⟨v, hv⟩ : ∃ v, v = num b k 1 := ⟨_, rfl⟩
          have hvb := num_bdQ HY.out k 1 (by omega)
          have hvb2 := num_bdS HY.out k 1 (by omega)
          have hat := HAT.out
          simp only [show (((1, 6) : Fl).1).toNat = 1 from rfl, show ((1, 6) : Fl).2 = 6 from rfl] at hok hgo
          rw [← hv] at hvb hat hok hgo
          rw [← hv] at hvb2
          have v0 := hvb.1
          have v1 := hvb.2
          have HAT2 := Lib.hid hat
          have HCUT : Hid (¬ b.length < k + 1) := Lib.hid (by simpa using hcut)
          have HV := Lib.hid hv
          have HOK := Lib.hid hok
          have HGO := Lib.hid hgo
          clear hA hcut hvb hat hv HAT hok hgo
          go_wp2_with fail
          refine (HAT2.out _ HWA.out).mono ?_
          rintro e w1 ⟨rfl, rfl⟩
          go_wp2_with fail
          have hwr := wrong_6 v types (wr.alloc (.cells #[.int .i64 1, .int .i64 6] 107)) v0 v1
          rw [HOK.out] at hwr
          refine hwr.mono ?_
          clear hwr
          rintro e w1 ⟨rfl, rfl⟩
          go_wp2
          go_roundg m
          case measure => omega
          case rel =>
            exact ⟨_, i + 1, _, HR.out.step (by rw [← HLL.out]; exact hi) (f := (1, 6)) (v := v) (by simpa using HCUT.out) (by decide) (by unfold hmore; simp) HGO.out (by go_num) (by go_num) rfl rfl (by simpa [hmore] using HOW.out) (own_below HR.out.hoc (below_alloc _ _)) (own_below HR.out.hos (below_alloc _ _)) HR.out.hne HWA.out⟩
      · have hA : Hid (∀ W, Below w.heap.size w W → Calls Try.prog 66 #[.slice A n c, .int .i64 k, .int .i64 2] W fun e w' => e = .returned (.int .i64 (num b k 2)) ∧ W = w') ∨ b.length < k + 2 := by
          by_cases h : b.length < k + 2
          · exact .inr h
          · refine .inl (Lib.hid fun W hW => ?_)
            have := at_any A c n k 2 b W (HBB.out.mono hW) HY.out HN.out (by omega) (by omega) (by omega) (by have := HN.out; omega)
            rwa [Int.toNat_natCast] at this
        have hwa : Below w.heap.size w (wr.alloc (.cells #[.int .i64 2, .int .i64 7] 107)) := below_trans HR.out.hbelow HR.out.hbelow.size (below_alloc _ _)
        have HWA := Lib.hid hwa
        have HOW : Hid (OwnF (wr.alloc (.cells #[.int .i64 2, .int .i64 7] 107)) w.heap.size (.slice (some ⟨g, 0, none⟩) L cap) fl) := Lib.hid (by rw [HLL.out]; exact own_below HR.out.hof (below_alloc _ _))
        clear hwa
        have hw1 : IntKind.i64.wrap ((k : Int) + 2) = (k : Int) + 2 := IntWalk.i64_in _ (by omega)
        rcases hinv with ⟨hcut, hRR⟩ | ⟨hcut, hbad, hRR⟩ | ⟨hcut, hok, m, rfl, hgo⟩
        · have hct : (n : Int) < (k : Int) + 2 := by have := HN.out; simp at hcut; omega
          have HRR : Hid (R = .error (50, (n : Int))) := Lib.hid (by rw [hRR, HN.out])
          clear hA hcut hRR
          go_wp2
          refine bodyPost_ret (v := .tuple #[.slice none 0 0, .slice none 0 0, .int .i64 0, .int .i64 0, .int .i64 50, .int .i64 (n)]) (by simp [results, Try.results62, go_sem]) rfl (hp_err HRR.out HWA.out)
        · have hct : ¬ (n : Int) < (k : Int) + 2 := by have := HN.out; simp at hcut; omega
          have HAT : Hid (∀ W, Below w.heap.size w W → Calls Try.prog 66 #[.slice A n c, .int .i64 k, .int .i64 2] W fun e w' => e = .returned (.int .i64 (num b k 2)) ∧ W = w') := hA.resolve_right (by simpa using hcut)
          obtain ⟨v, hv⟩ : ∃ v, v = num b k 2 := ⟨_, rfl⟩
          have hvb := num_bdQ HY.out k 2 (by omega)
          have hat := HAT.out
          simp only [show (((2, 7) : Fl).1).toNat = 2 from rfl, show ((2, 7) : Fl).2 = 7 from rfl] at hbad hRR
          rw [← hv] at hvb hat hbad hRR
          obtain ⟨x, hx⟩ : ∃ x, x = wrongF 7 v types := ⟨_, rfl⟩
          rw [← hx] at hbad hRR
          have v0 := hvb.1
          have v1 := hvb.2
          have HAT2 := Lib.hid hat
          have HX := Lib.hid hx
          have HRR := Lib.hid hRR
          have hxq : (!(x == 0)) = true := by simp [hbad]
          have hxq2 : (x == 0) = false := by simp [hbad]
          clear hA hcut hRR hvb hat hv HAT hbad hx
          go_wp2_with fail
          refine (HAT2.out _ HWA.out).mono ?_
          rintro e w1 ⟨rfl, rfl⟩
          go_wp2_with fail
          have hwr := wrong_7 v types (wr.alloc (.cells #[.int .i64 2, .int .i64 7] 107)) v0 v1
          rw [← HX.out] at hwr
          refine hwr.mono ?_
          clear hwr
          rintro e w1 ⟨rfl, rfl⟩
          go_wp2
          refine bodyPost_ret (v := .tuple #[.slice none 0 0, .slice none 0 0, .int .i64 0, .int .i64 0, .int .i64 x, .int .i64 (k)]) (by simp [results, Try.results62, go_sem]) rfl (hp_err HRR.out HWA.out)
        · have hct : ¬ (n : Int) < (k : Int) + 2 := by have := HN.out; simp at hcut; omega
          have HAT : Hid (∀ W, Below w.heap.size w W → Calls Try.prog 66 #[.slice A n c, .int .i64 k, .int .i64 2] W fun e w' => e = .returned (.int .i64 (num b k 2)) ∧ W = w') := hA.resolve_right (by simpa using hcut)
          obtain ⟨v, hv⟩ : ∃ v, v = num b k 2 := ⟨_, rfl⟩
          have hvb := num_bdQ HY.out k 2 (by omega)
          have hvb2 := num_bdS HY.out k 2 (by omega)
          have hat := HAT.out
          simp only [show (((2, 7) : Fl).1).toNat = 2 from rfl, show ((2, 7) : Fl).2 = 7 from rfl] at hok hgo
          rw [← hv] at hvb hat hok hgo
          rw [← hv] at hvb2
          have v0 := hvb.1
          have v1 := hvb.2
          have HAT2 := Lib.hid hat
          have HCUT : Hid (¬ b.length < k + 2) := Lib.hid (by simpa using hcut)
          have HV := Lib.hid hv
          have HOK := Lib.hid hok
          have HGO := Lib.hid hgo
          clear hA hcut hvb hat hv HAT hok hgo
          go_wp2_with fail
          refine (HAT2.out _ HWA.out).mono ?_
          rintro e w1 ⟨rfl, rfl⟩
          go_wp2_with fail
          have hwr := wrong_7 v types (wr.alloc (.cells #[.int .i64 2, .int .i64 7] 107)) v0 v1
          rw [HOK.out] at hwr
          refine hwr.mono ?_
          clear hwr
          rintro e w1 ⟨rfl, rfl⟩
          have d0 := box1_at wr #[.int .i64 2, .int .i64 7] 107 0 (.int .i64 2) rfl
          have d1 := box1_at wr #[.int .i64 2, .int .i64 7] 107 1 (.int .i64 7) rfl
          have HOCa := Lib.hid (show OwnI (wr.alloc (.cells #[.int .i64 2, .int .i64 7] 107)) w.heap.size u2 cl from own_below HR.out.hoc (below_alloc _ _))
          have HOSa := Lib.hid (show OwnI (wr.alloc (.cells #[.int .i64 2, .int .i64 7] 107)) w.heap.size u3 sl from own_below HR.out.hos (below_alloc _ _))
          obtain ⟨wa, hwa⟩ : ∃ wa, wa = (wr.alloc (.cells #[.int .i64 2, .int .i64 7] 107)) := ⟨_, rfl⟩
          obtain ⟨X, hX⟩ : ∃ X, X = wr.heap.size := ⟨_, rfl⟩
          rw [← hwa] at HWA HOW HOCa HOSa d0 d1
          rw [← hX] at d0 d1
          rw [← hwa, ← hX]
          clear hwa hX
          have HOF : Hid (OwnF wa w.heap.size (.slice (some ⟨g, 0, none⟩) L cap) fl) := HOW
          have HSZ : Hid (w.heap.size ≤ wa.heap.size) := Lib.hid HWA.out.size
          obtain ⟨V, hV⟩ : ∃ V : Nat, v = (V : Int) := ⟨v.toNat, by omega⟩
          subst hV
          have hmr := more_any (.slice (some ⟨g, 0, none⟩) L cap) fl V (2, 8) w.heap.size wa HOF.out HSZ.out (by rw [← HLL.out]; omega)
          have HMR := Lib.hid hmr
          have HVB : Hid (V ≤ 65535) := Lib.hid (by omega)
          clear hmr
          go_wp2_with fail
          refine HMR.out.mono ?_
          rintro e w4 ⟨v4', rfl, ho, he⟩
          have HO4 := Lib.hid ho
          have HE4 := Lib.hid he
          have HSZ4 : Hid (w.heap.size ≤ w4.heap.size) := Lib.hid (Nat.le_trans HSZ.out he.grown.size)
          have HLG : Hid ((fl ++ List.replicate V (2, 8)).length + 1 ≤ 4398046511104) := Lib.hid (by simp; rw [← HLL.out]; have := HVB.out; omega)
          have HCS5 : Hid (#[Value.int .i64 1, .int .i64 9] = (flsOf [(1, 9)]).toArray) := Lib.hid rfl
          clear HMR ho he
          go_wp2_with (at_builtin; refine app_fld [(1, 9)] #[.int .i64 1, .int .i64 9] 1 HCS5.out rfl (.tmp 71) (.tmp 73) rfl rfl w.heap.size _ _ rfl HO4 rfl HSZ4.out HLG ?_; intro v5 w5 ho he; have HO5 := Lib.hid ho; have HE5 := Lib.hid he; clear ho he)
          go_roundg m
          case measure => omega
          case rel =>
            exact ⟨_, i + 1, _, HR.out.step (by rw [← HLL.out]; exact hi) (f := (2, 7)) (v := (V : Int)) (by simpa using HCUT.out) (by decide) (by unfold hmore; simp; have := HVB.out; omega) HGO.out (by go_num) (by go_num) rfl rfl (by have := HO5.out; simpa [hmore] using this) (own_ext HE5.out HO4.out (own_ext HE4.out HOF.out HOCa.out (by decide)) (by decide)) (own_ext HE5.out HO4.out (own_ext HE4.out HOF.out HOSa.out (by decide)) (by decide)) HR.out.hne ((HWA.out.grown HE4.out.grown HWA.out.size (fun k hk => own_ge HOF.out k hk)).grown HE5.out.grown HSZ4.out (fun k hk => own_ge HO4.out k hk))⟩
      · have hA : Hid (∀ W, Below w.heap.size w W → Calls Try.prog 66 #[.slice A n c, .int .i64 k, .int .i64 2] W fun e w' => e = .returned (.int .i64 (num b k 2)) ∧ W = w') ∨ b.length < k + 2 := by
          by_cases h : b.length < k + 2
          · exact .inr h
          · refine .inl (Lib.hid fun W hW => ?_)
            have := at_any A c n k 2 b W (HBB.out.mono hW) HY.out HN.out (by omega) (by omega) (by omega) (by have := HN.out; omega)
            rwa [Int.toNat_natCast] at this
        have hwa : Below w.heap.size w (wr.alloc (.cells #[.int .i64 2, .int .i64 8] 107)) := below_trans HR.out.hbelow HR.out.hbelow.size (below_alloc _ _)
        have HWA := Lib.hid hwa
        have HOW : Hid (OwnF (wr.alloc (.cells #[.int .i64 2, .int .i64 8] 107)) w.heap.size (.slice (some ⟨g, 0, none⟩) L cap) fl) := Lib.hid (by rw [HLL.out]; exact own_below HR.out.hof (below_alloc _ _))
        clear hwa
        have hw1 : IntKind.i64.wrap ((k : Int) + 2) = (k : Int) + 2 := IntWalk.i64_in _ (by omega)
        rcases hinv with ⟨hcut, hRR⟩ | ⟨hcut, hbad, hRR⟩ | ⟨hcut, hok, m, rfl, hgo⟩
        · have hct : (n : Int) < (k : Int) + 2 := by have := HN.out; simp at hcut; omega
          have HRR : Hid (R = .error (50, (n : Int))) := Lib.hid (by rw [hRR, HN.out])
          clear hA hcut hRR
          go_wp2
          refine bodyPost_ret (v := .tuple #[.slice none 0 0, .slice none 0 0, .int .i64 0, .int .i64 0, .int .i64 50, .int .i64 (n)]) (by simp [results, Try.results62, go_sem]) rfl (hp_err HRR.out HWA.out)
        · have hct : ¬ (n : Int) < (k : Int) + 2 := by have := HN.out; simp at hcut; omega
          have HAT : Hid (∀ W, Below w.heap.size w W → Calls Try.prog 66 #[.slice A n c, .int .i64 k, .int .i64 2] W fun e w' => e = .returned (.int .i64 (num b k 2)) ∧ W = w') := hA.resolve_right (by simpa using hcut)
          obtain ⟨v, hv⟩ : ∃ v, v = num b k 2 := ⟨_, rfl⟩
          have hvb := num_bdQ HY.out k 2 (by omega)
          have hat := HAT.out
          simp only [show (((2, 8) : Fl).1).toNat = 2 from rfl, show ((2, 8) : Fl).2 = 8 from rfl] at hbad hRR
          rw [← hv] at hvb hat hbad hRR
          obtain ⟨x, hx⟩ : ∃ x, x = wrongF 8 v types := ⟨_, rfl⟩
          rw [← hx] at hbad hRR
          have v0 := hvb.1
          have v1 := hvb.2
          have HAT2 := Lib.hid hat
          have HX := Lib.hid hx
          have HRR := Lib.hid hRR
          have hxq : (!(x == 0)) = true := by simp [hbad]
          have hxq2 : (x == 0) = false := by simp [hbad]
          clear hA hcut hRR hvb hat hv HAT hbad hx
          go_wp2_with fail
          refine (HAT2.out _ HWA.out).mono ?_
          rintro e w1 ⟨rfl, rfl⟩
          go_wp2_with fail
          have hwr := wrong_8 v types (wr.alloc (.cells #[.int .i64 2, .int .i64 8] 107)) v0 v1
          rw [← HX.out] at hwr
          refine hwr.mono ?_
          clear hwr
          rintro e w1 ⟨rfl, rfl⟩
          go_wp2
          refine bodyPost_ret (v := .tuple #[.slice none 0 0, .slice none 0 0, .int .i64 0, .int .i64 0, .int .i64 x, .int .i64 (k)]) (by simp [results, Try.results62, go_sem]) rfl (hp_err HRR.out HWA.out)
        · have hct : ¬ (n : Int) < (k : Int) + 2 := by have := HN.out; simp at hcut; omega
          have HAT : Hid (∀ W, Below w.heap.size w W → Calls Try.prog 66 #[.slice A n c, .int .i64 k, .int .i64 2] W fun e w' => e = .returned (.int .i64 (num b k 2)) ∧ W = w') := hA.resolve_right (by simpa using hcut)
          obtain ⟨v, hv⟩ : ∃ v, v = num b k 2 := ⟨_, rfl⟩
          have hvb := num_bdQ HY.out k 2 (by omega)
          have hvb2 := num_bdS HY.out k 2 (by omega)
          have hat := HAT.out
          simp only [show (((2, 8) : Fl).1).toNat = 2 from rfl, show ((2, 8) : Fl).2 = 8 from rfl] at hok hgo
          rw [← hv] at hvb hat hok hgo
          rw [← hv] at hvb2
          have v0 := hvb.1
          have v1 := hvb.2
          have HAT2 := Lib.hid hat
          have HCUT : Hid (¬ b.length < k + 2) := Lib.hid (by simpa using hcut)
          have HV := Lib.hid hv
          have HOK := Lib.hid hok
          have HGO := Lib.hid hgo
          clear hA hcut hvb hat hv HAT hok hgo
          go_wp2_with fail
          refine (HAT2.out _ HWA.out).mono ?_
          rintro e w1 ⟨rfl, rfl⟩
          go_wp2_with fail
          have hwr := wrong_8 v types (wr.alloc (.cells #[.int .i64 2, .int .i64 8] 107)) v0 v1
          rw [HOK.out] at hwr
          refine hwr.mono ?_
          clear hwr
          rintro e w1 ⟨rfl, rfl⟩
          have d0 := box1_at wr #[.int .i64 2, .int .i64 8] 107 0 (.int .i64 2) rfl
          have d1 := box1_at wr #[.int .i64 2, .int .i64 8] 107 1 (.int .i64 8) rfl
          have HOCa := Lib.hid (show OwnI (wr.alloc (.cells #[.int .i64 2, .int .i64 8] 107)) w.heap.size u2 cl from own_below HR.out.hoc (below_alloc _ _))
          have HOSa := Lib.hid (show OwnI (wr.alloc (.cells #[.int .i64 2, .int .i64 8] 107)) w.heap.size u3 sl from own_below HR.out.hos (below_alloc _ _))
          obtain ⟨wa, hwa⟩ : ∃ wa, wa = (wr.alloc (.cells #[.int .i64 2, .int .i64 8] 107)) := ⟨_, rfl⟩
          obtain ⟨X, hX⟩ : ∃ X, X = wr.heap.size := ⟨_, rfl⟩
          rw [← hwa] at HWA HOW HOCa HOSa d0 d1
          rw [← hX] at d0 d1
          rw [← hwa, ← hX]
          clear hwa hX
          have HO2 : Hid (OwnI wa w.heap.size u2 cl) := Lib.hid HOCa.out
          have HSZ : Hid (w.heap.size ≤ wa.heap.size) := Lib.hid HWA.out.size
          have HLC : Hid (cl.length + 1 ≤ 4398046511104) := Lib.hid (by have h3 : cl.length ≤ i := HR.out.hcl; omega)
          go_wp2_with (at_builtin; refine app_int (.tmp 77) (.tmp 79) rfl rfl w.heap.size _ cl rfl HO2 rfl HSZ.out HLC ?_; intro v5 w5 ho he; have HO5 := Lib.hid ho; have HE5 := Lib.hid he; clear ho he)
          obtain ⟨hos5, hne5⟩ := ext_keep HE5.out (show OwnI wa w.heap.size u3 sl from HOSa.out) HR.out.hne
          go_roundg m
          case measure => omega
          case rel =>
            exact ⟨_, i + 1, _, HR.out.step (by rw [← HLL.out]; exact hi) (f := (2, 8)) (v := v) (by simpa using HCUT.out) (by decide) (by unfold hmore; simp) HGO.out (by go_num) (by go_num) rfl rfl (by have h : OwnF w5 w.heap.size (.slice (some ⟨g, 0, none⟩) L cap) fl := own_ext HE5.out HO2.out HOW.out (by decide); simpa [hmore] using h) HO5.out hos5 hne5 (HWA.out.grown HE5.out.grown HWA.out.size (fun k hk => own_ge HO2.out k hk))⟩
      · have hA : Hid (∀ W, Below w.heap.size w W → Calls Try.prog 66 #[.slice A n c, .int .i64 k, .int .i64 1] W fun e w' => e = .returned (.int .i64 (num b k 1)) ∧ W = w') ∨ b.length < k + 1 := by
          by_cases h : b.length < k + 1
          · exact .inr h
          · refine .inl (Lib.hid fun W hW => ?_)
            have := at_any A c n k 1 b W (HBB.out.mono hW) HY.out HN.out (by omega) (by omega) (by omega) (by have := HN.out; omega)
            rwa [Int.toNat_natCast] at this
        have hwa : Below w.heap.size w (wr.alloc (.cells #[.int .i64 1, .int .i64 9] 107)) := below_trans HR.out.hbelow HR.out.hbelow.size (below_alloc _ _)
        have HWA := Lib.hid hwa
        have HOW : Hid (OwnF (wr.alloc (.cells #[.int .i64 1, .int .i64 9] 107)) w.heap.size (.slice (some ⟨g, 0, none⟩) L cap) fl) := Lib.hid (by rw [HLL.out]; exact own_below HR.out.hof (below_alloc _ _))
        clear hwa
        have hw1 : IntKind.i64.wrap ((k : Int) + 1) = (k : Int) + 1 := IntWalk.i64_in _ (by omega)
        rcases hinv with ⟨hcut, hRR⟩ | ⟨hcut, hbad, hRR⟩ | ⟨hcut, hok, m, rfl, hgo⟩
        · have hct : (n : Int) < (k : Int) + 1 := by have := HN.out; simp at hcut; omega
          have HRR : Hid (R = .error (50, (n : Int))) := Lib.hid (by rw [hRR, HN.out])
          clear hA hcut hRR
          go_wp2
          refine bodyPost_ret (v := .tuple #[.slice none 0 0, .slice none 0 0, .int .i64 0, .int .i64 0, .int .i64 50, .int .i64 (n)]) (by simp [results, Try.results62, go_sem]) rfl (hp_err HRR.out HWA.out)
        · have hct : ¬ (n : Int) < (k : Int) + 1 := by have := HN.out; simp at hcut; omega
          have HAT : Hid (∀ W, Below w.heap.size w W → Calls Try.prog 66 #[.slice A n c, .int .i64 k, .int .i64 1] W fun e w' => e = .returned (.int .i64 (num b k 1)) ∧ W = w') := hA.resolve_right (by simpa using hcut)
          obtain ⟨v, hv⟩ : ∃ v, v = num b k 1 := ⟨_, rfl⟩
          have hvb := num_bdQ HY.out k 1 (by omega)
          have hat := HAT.out
          simp only [show (((1, 9) : Fl).1).toNat = 1 from rfl, show ((1, 9) : Fl).2 = 9 from rfl] at hbad hRR
          rw [← hv] at hvb hat hbad hRR
          obtain ⟨x, hx⟩ : ∃ x, x = wrongF 9 v types := ⟨_, rfl⟩
          rw [← hx] at hbad hRR
          have v0 := hvb.1
          have v1 := hvb.2
          have HAT2 := Lib.hid hat
          have HX := Lib.hid hx
          have HRR := Lib.hid hRR
          have hxq : (!(x == 0)) = true := by simp [hbad]
          have hxq2 : (x == 0) = false := by simp [hbad]
          clear hA hcut hRR hvb hat hv HAT hbad hx
          go_wp2_with fail
          refine (HAT2.out _ HWA.out).mono ?_
          rintro e w1 ⟨rfl, rfl⟩
          go_wp2_with fail
          have hwr := wrong_9 v types (wr.alloc (.cells #[.int .i64 1, .int .i64 9] 107)) v0 v1
          rw [← HX.out] at hwr
          refine hwr.mono ?_
          clear hwr
          rintro e w1 ⟨rfl, rfl⟩
          go_wp2
          refine bodyPost_ret (v := .tuple #[.slice none 0 0, .slice none 0 0, .int .i64 0, .int .i64 0, .int .i64 x, .int .i64 (k)]) (by simp [results, Try.results62, go_sem]) rfl (hp_err HRR.out HWA.out)
        · have hct : ¬ (n : Int) < (k : Int) + 1 := by have := HN.out; simp at hcut; omega
          have HAT : Hid (∀ W, Below w.heap.size w W → Calls Try.prog 66 #[.slice A n c, .int .i64 k, .int .i64 1] W fun e w' => e = .returned (.int .i64 (num b k 1)) ∧ W = w') := hA.resolve_right (by simpa using hcut)
          obtain ⟨v, hv⟩ : ∃ v, v = num b k 1 := ⟨_, rfl⟩
          have hvb := num_bdQ HY.out k 1 (by omega)
          have hvb2 := num_bdS HY.out k 1 (by omega)
          have hat := HAT.out
          simp only [show (((1, 9) : Fl).1).toNat = 1 from rfl, show ((1, 9) : Fl).2 = 9 from rfl] at hok hgo
          rw [← hv] at hvb hat hok hgo
          rw [← hv] at hvb2
          have v0 := hvb.1
          have v1 := hvb.2
          have HAT2 := Lib.hid hat
          have HCUT : Hid (¬ b.length < k + 1) := Lib.hid (by simpa using hcut)
          have HV := Lib.hid hv
          have HOK := Lib.hid hok
          have HGO := Lib.hid hgo
          clear hA hcut hvb hat hv HAT hok hgo
          go_wp2_with fail
          refine (HAT2.out _ HWA.out).mono ?_
          rintro e w1 ⟨rfl, rfl⟩
          go_wp2_with fail
          have hwr := wrong_9 v types (wr.alloc (.cells #[.int .i64 1, .int .i64 9] 107)) v0 v1
          rw [HOK.out] at hwr
          refine hwr.mono ?_
          clear hwr
          rintro e w1 ⟨rfl, rfl⟩
          have d0 := box1_at wr #[.int .i64 1, .int .i64 9] 107 0 (.int .i64 1) rfl
          have d1 := box1_at wr #[.int .i64 1, .int .i64 9] 107 1 (.int .i64 9) rfl
          have HOCa := Lib.hid (show OwnI (wr.alloc (.cells #[.int .i64 1, .int .i64 9] 107)) w.heap.size u2 cl from own_below HR.out.hoc (below_alloc _ _))
          have HOSa := Lib.hid (show OwnI (wr.alloc (.cells #[.int .i64 1, .int .i64 9] 107)) w.heap.size u3 sl from own_below HR.out.hos (below_alloc _ _))
          obtain ⟨wa, hwa⟩ : ∃ wa, wa = (wr.alloc (.cells #[.int .i64 1, .int .i64 9] 107)) := ⟨_, rfl⟩
          obtain ⟨X, hX⟩ : ∃ X, X = wr.heap.size := ⟨_, rfl⟩
          rw [← hwa] at HWA HOW HOCa HOSa d0 d1
          rw [← hX] at d0 d1
          rw [← hwa, ← hX]
          clear hwa hX
          have HOF : Hid (OwnF wa w.heap.size (.slice (some ⟨g, 0, none⟩) L cap) fl) := HOW
          have HSZ : Hid (w.heap.size ≤ wa.heap.size) := Lib.hid HWA.out.size
          have HLF : Hid (fl.length + 1 ≤ 4398046511104) := Lib.hid (by rw [← HLL.out]; omega)
          have HLG : Hid (fl.length + 2 ≤ 4398046511104) := Lib.hid (by rw [← HLL.out]; omega)
          have HCS5 : Hid (#[Value.int .i64 2, .int .i64 10] = (flsOf [(2, 10)]).toArray) := Lib.hid rfl
          have HCS6 : Hid (#[Value.int .i64 2, .int .i64 13, .int .i64 1, .int .i64 14] = (flsOf [(2, 13), (1, 14)]).toArray) := Lib.hid rfl
          by_cases h3 : v = 3
          · have h3q : ((v : Int) == 3) = true := by simp [h3]
            have H3 := Lib.hid h3
            clear h3
            go_wp2_with (at_builtin; refine app_fld [(2, 10)] #[.int .i64 2, .int .i64 10] 1 HCS5.out rfl (.tmp 85) (.tmp 87) rfl rfl w.heap.size _ _ rfl HOF rfl HSZ.out HLF ?_; intro v5 w5 ho he; have HO5 := Lib.hid ho; have HE5 := Lib.hid he; clear ho he)
            go_roundg m
            case measure => omega
            case rel =>
              exact ⟨_, i + 1, _, HR.out.step (by rw [← HLL.out]; exact hi) (f := (1, 9)) (v := v) (by simpa using HCUT.out) (by decide) (by unfold hmore; simp; split <;> simp) HGO.out (by go_num) (by go_num) rfl rfl (by have := HO5.out; simpa [hmore, H3.out] using this) (own_ext HE5.out HOF.out HOCa.out (by decide)) (own_ext HE5.out HOF.out HOSa.out (by decide)) HR.out.hne (HWA.out.grown HE5.out.grown HWA.out.size (fun k hk => own_ge HOF.out k hk))⟩
          · have h3q : ((v : Int) == 3) = false := by simp [h3]
            have H3 := Lib.hid h3
            clear h3
            go_wp2_with (at_builtin; refine app_fld [(2, 13), (1, 14)] #[.int .i64 2, .int .i64 13, .int .i64 1, .int .i64 14] 2 HCS6.out rfl (.tmp 89) (.tmp 92) rfl rfl w.heap.size _ _ rfl HOF rfl HSZ.out HLG ?_; intro v6 w6 ho he; have HO6 := Lib.hid ho; have HE6 := Lib.hid he; clear ho he)
            go_roundg m
            case measure => omega
            case rel =>
              exact ⟨_, i + 1, _, HR.out.step (by rw [← HLL.out]; exact hi) (f := (1, 9)) (v := v) (by simpa using HCUT.out) (by decide) (by unfold hmore; simp; split <;> simp) HGO.out (by go_num) (by go_num) rfl rfl (by have := HO6.out; simpa [hmore, H3.out] using this) (own_ext HE6.out HOF.out HOCa.out (by decide)) (own_ext HE6.out HOF.out HOSa.out (by decide)) HR.out.hne (HWA.out.grown HE6.out.grown HWA.out.size (fun k hk => own_ge HOF.out k hk))⟩
      · have hA : Hid (∀ W, Below w.heap.size w W → Calls Try.prog 66 #[.slice A n c, .int .i64 k, .int .i64 2] W fun e w' => e = .returned (.int .i64 (num b k 2)) ∧ W = w') ∨ b.length < k + 2 := by
          by_cases h : b.length < k + 2
          · exact .inr h
          · refine .inl (Lib.hid fun W hW => ?_)
            have := at_any A c n k 2 b W (HBB.out.mono hW) HY.out HN.out (by omega) (by omega) (by omega) (by have := HN.out; omega)
            rwa [Int.toNat_natCast] at this
        have hwa : Below w.heap.size w (wr.alloc (.cells #[.int .i64 2, .int .i64 10] 107)) := below_trans HR.out.hbelow HR.out.hbelow.size (below_alloc _ _)
        have HWA := Lib.hid hwa
        have HOW : Hid (OwnF (wr.alloc (.cells #[.int .i64 2, .int .i64 10] 107)) w.heap.size (.slice (some ⟨g, 0, none⟩) L cap) fl) := Lib.hid (by rw [HLL.out]; exact own_below HR.out.hof (below_alloc _ _))
        clear hwa
        have hw1 : IntKind.i64.wrap ((k : Int) + 2) = (k : Int) + 2 := IntWalk.i64_in _ (by omega)
        rcases hinv with ⟨hcut, hRR⟩ | ⟨hcut, hbad, hRR⟩ | ⟨hcut, hok, m, rfl, hgo⟩
        · have hct : (n : Int) < (k : Int) + 2 := by have := HN.out; simp at hcut; omega
          have HRR : Hid (R = .error (50, (n : Int))) := Lib.hid (by rw [hRR, HN.out])
          clear hA hcut hRR
          go_wp2
          refine bodyPost_ret (v := .tuple #[.slice none 0 0, .slice none 0 0, .int .i64 0, .int .i64 0, .int .i64 50, .int .i64 (n)]) (by simp [results, Try.results62, go_sem]) rfl (hp_err HRR.out HWA.out)
        · have hct : ¬ (n : Int) < (k : Int) + 2 := by have := HN.out; simp at hcut; omega
          have HAT : Hid (∀ W, Below w.heap.size w W → Calls Try.prog 66 #[.slice A n c, .int .i64 k, .int .i64 2] W fun e w' => e = .returned (.int .i64 (num b k 2)) ∧ W = w') := hA.resolve_right (by simpa using hcut)
          obtain ⟨v, hv⟩ : ∃ v, v = num b k 2 := ⟨_, rfl⟩
          have hvb := num_bdQ HY.out k 2 (by omega)
          have hat := HAT.out
          simp only [show (((2, 10) : Fl).1).toNat = 2 from rfl, show ((2, 10) : Fl).2 = 10 from rfl] at hbad hRR
          rw [← hv] at hvb hat hbad hRR
          obtain ⟨x, hx⟩ : ∃ x, x = wrongF 10 v types := ⟨_, rfl⟩
          rw [← hx] at hbad hRR
          have v0 := hvb.1
          have v1 := hvb.2
          have HAT2 := Lib.hid hat
          have HX := Lib.hid hx
          have HRR := Lib.hid hRR
          have hxq : (!(x == 0)) = true := by simp [hbad]
          have hxq2 : (x == 0) = false := by simp [hbad]
          clear hA hcut hRR hvb hat hv HAT hbad hx
          go_wp2_with fail
          refine (HAT2.out _ HWA.out).mono ?_
          rintro e w1 ⟨rfl, rfl⟩
          go_wp2_with fail
          have hwr := wrong_10 v types (wr.alloc (.cells #[.int .i64 2, .int .i64 10] 107)) v0 v1
          rw [← HX.out] at hwr
          refine hwr.mono ?_
          clear hwr
          rintro e w1 ⟨rfl, rfl⟩
          go_wp2
          refine bodyPost_ret (v := .tuple #[.slice none 0 0, .slice none 0 0, .int .i64 0, .int .i64 0, .int .i64 x, .int .i64 (k)]) (by simp [results, Try.results62, go_sem]) rfl (hp_err HRR.out HWA.out)
        · have hct : ¬ (n : Int) < (k : Int) + 2 := by have := HN.out; simp at hcut; omega
          have HAT : Hid (∀ W, Below w.heap.size w W → Calls Try.prog 66 #[.slice A n c, .int .i64 k, .int .i64 2] W fun e w' => e = .returned (.int .i64 (num b k 2)) ∧ W = w') := hA.resolve_right (by simpa using hcut)
          obtain ⟨v, hv⟩ : ∃ v, v = num b k 2 := ⟨_, rfl⟩
          have hvb := num_bdQ HY.out k 2 (by omega)
          have hvb2 := num_bdS HY.out k 2 (by omega)
          have hat := HAT.out
          simp only [show (((2, 10) : Fl).1).toNat = 2 from rfl, show ((2, 10) : Fl).2 = 10 from rfl] at hok hgo
          rw [← hv] at hvb hat hok hgo
          rw [← hv] at hvb2
          have v0 := hvb.1
          have v1 := hvb.2
          have HAT2 := Lib.hid hat
          have HCUT : Hid (¬ b.length < k + 2) := Lib.hid (by simpa using hcut)
          have HV := Lib.hid hv
          have HOK := Lib.hid hok
          have HGO := Lib.hid hgo
          clear hA hcut hvb hat hv HAT hok hgo
          go_wp2_with fail
          refine (HAT2.out _ HWA.out).mono ?_
          rintro e w1 ⟨rfl, rfl⟩
          go_wp2_with fail
          have hwr := wrong_10 v types (wr.alloc (.cells #[.int .i64 2, .int .i64 10] 107)) v0 v1
          rw [HOK.out] at hwr
          refine hwr.mono ?_
          clear hwr
          rintro e w1 ⟨rfl, rfl⟩
          have d0 := box1_at wr #[.int .i64 2, .int .i64 10] 107 0 (.int .i64 2) rfl
          have d1 := box1_at wr #[.int .i64 2, .int .i64 10] 107 1 (.int .i64 10) rfl
          have HOCa := Lib.hid (show OwnI (wr.alloc (.cells #[.int .i64 2, .int .i64 10] 107)) w.heap.size u2 cl from own_below HR.out.hoc (below_alloc _ _))
          have HOSa := Lib.hid (show OwnI (wr.alloc (.cells #[.int .i64 2, .int .i64 10] 107)) w.heap.size u3 sl from own_below HR.out.hos (below_alloc _ _))
          obtain ⟨wa, hwa⟩ : ∃ wa, wa = (wr.alloc (.cells #[.int .i64 2, .int .i64 10] 107)) := ⟨_, rfl⟩
          obtain ⟨X, hX⟩ : ∃ X, X = wr.heap.size := ⟨_, rfl⟩
          rw [← hwa] at HWA HOW HOCa HOSa d0 d1
          rw [← hX] at d0 d1
          rw [← hwa, ← hX]
          clear hwa hX
          have HOF : Hid (OwnF wa w.heap.size (.slice (some ⟨g, 0, none⟩) L cap) fl) := HOW
          have HSZ : Hid (w.heap.size ≤ wa.heap.size) := Lib.hid HWA.out.size
          obtain ⟨V, hV⟩ : ∃ V : Nat, v = (V : Int) := ⟨v.toNat, by omega⟩
          subst hV
          have hmr := more_any (.slice (some ⟨g, 0, none⟩) L cap) fl V (4, 11) w.heap.size wa HOF.out HSZ.out (by rw [← HLL.out]; omega)
          have HMR := Lib.hid hmr
          have HVB : Hid (V ≤ 65535) := Lib.hid (by omega)
          clear hmr
          go_wp2_with fail
          refine HMR.out.mono ?_
          rintro e w4 ⟨v4', rfl, ho, he⟩
          have HO4 := Lib.hid ho
          have HE4 := Lib.hid he
          have HSZ4 : Hid (w.heap.size ≤ w4.heap.size) := Lib.hid (Nat.le_trans HSZ.out he.grown.size)
          have HLG : Hid ((fl ++ List.replicate V (4, 11)).length + 3 ≤ 4398046511104) := Lib.hid (by simp; rw [← HLL.out]; have := HVB.out; omega)
          have HCS5 : Hid (#[Value.int .i64 1, .int .i64 12, .int .i64 2, .int .i64 13, .int .i64 1, .int .i64 14] = (flsOf [(1, 12), (2, 13), (1, 14)]).toArray) := Lib.hid rfl
          clear HMR ho he
          go_wp2_with (at_builtin; refine app_fld [(1, 12), (2, 13), (1, 14)] #[.int .i64 1, .int .i64 12, .int .i64 2, .int .i64 13, .int .i64 1, .int .i64 14] 3 HCS5.out rfl (.tmp 100) (.tmp 104) rfl rfl w.heap.size _ _ rfl HO4 rfl HSZ4.out HLG ?_; intro v5 w5 ho he; have HO5 := Lib.hid ho; have HE5 := Lib.hid he; clear ho he)
          go_roundg m
          case measure => omega
          case rel =>
            exact ⟨_, i + 1, _, HR.out.step (by rw [← HLL.out]; exact hi) (f := (2, 10)) (v := (V : Int)) (by simpa using HCUT.out) (by decide) (by unfold hmore; simp; have := HVB.out; omega) HGO.out (by go_num) (by go_num) rfl rfl (by have := HO5.out; simpa [hmore] using this) (own_ext HE5.out HO4.out (own_ext HE4.out HOF.out HOCa.out (by decide)) (by decide)) (own_ext HE5.out HO4.out (own_ext HE4.out HOF.out HOSa.out (by decide)) (by decide)) HR.out.hne ((HWA.out.grown HE4.out.grown HWA.out.size (fun k hk => own_ge HOF.out k hk)).grown HE5.out.grown HSZ4.out (fun k hk => own_ge HO4.out k hk))⟩
      · have hA : Hid (∀ W, Below w.heap.size w W → Calls Try.prog 66 #[.slice A n c, .int .i64 k, .int .i64 4] W fun e w' => e = .returned (.int .i64 (num b k 4)) ∧ W = w') ∨ b.length < k + 4 := by
          by_cases h : b.length < k + 4
          · exact .inr h
          · refine .inl (Lib.hid fun W hW => ?_)
            have := at_any A c n k 4 b W (HBB.out.mono hW) HY.out HN.out (by omega) (by omega) (by omega) (by have := HN.out; omega)
            rwa [Int.toNat_natCast] at this
        have hwa : Below w.heap.size w (wr.alloc (.cells #[.int .i64 4, .int .i64 11] 107)) := below_trans HR.out.hbelow HR.out.hbelow.size (below_alloc _ _)
        have HWA := Lib.hid hwa
        have HOW : Hid (OwnF (wr.alloc (.cells #[.int .i64 4, .int .i64 11] 107)) w.heap.size (.slice (some ⟨g, 0, none⟩) L cap) fl) := Lib.hid (by rw [HLL.out]; exact own_below HR.out.hof (below_alloc _ _))
        clear hwa
        have hw1 : IntKind.i64.wrap ((k : Int) + 4) = (k : Int) + 4 := IntWalk.i64_in _ (by omega)
        rcases hinv with ⟨hcut, hRR⟩ | ⟨hcut, hbad, hRR⟩ | ⟨hcut, hok, m, rfl, hgo⟩
        · have hct : (n : Int) < (k : Int) + 4 := by have := HN.out; simp at hcut; omega
          have HRR : Hid (R = .error (50, (n : Int))) := Lib.hid (by rw [hRR, HN.out])
          clear hA hcut hRR
          go_wp2
          refine bodyPost_ret (v := .tuple #[.slice none 0 0, .slice none 0 0, .int .i64 0, .int .i64 0, .int .i64 50, .int .i64 (n)]) (by simp [results, Try.results62, go_sem]) rfl (hp_err HRR.out HWA.out)
        · have hct : ¬ (n : Int) < (k : Int) + 4 := by have := HN.out; simp at hcut; omega
          have HAT : Hid (∀ W, Below w.heap.size w W → Calls Try.prog 66 #[.slice A n c, .int .i64 k, .int .i64 4] W fun e w' => e = .returned (.int .i64 (num b k 4)) ∧ W = w') := hA.resolve_right (by simpa using hcut)
          obtain ⟨v, hv⟩ : ∃ v, v = num b k 4 := ⟨_, rfl⟩
          have hvb := num_bdQ HY.out k 4 (by omega)
          have hat := HAT.out
          simp only [show (((4, 11) : Fl).1).toNat = 4 from rfl, show ((4, 11) : Fl).2 = 11 from rfl] at hbad hRR
          rw [← hv] at hvb hat hbad hRR
          obtain ⟨x, hx⟩ : ∃ x, x = wrongF 11 v types := ⟨_, rfl⟩
          rw [← hx] at hbad hRR
          have v0 := hvb.1
          have v1 := hvb.2
          have HAT2 := Lib.hid hat
          have HX := Lib.hid hx
          have HRR := Lib.hid hRR
          have hxq : (!(x == 0)) = true := by simp [hbad]
          have hxq2 : (x == 0) = false := by simp [hbad]
          clear hA hcut hRR hvb hat hv HAT hbad hx
          go_wp2_with fail
          refine (HAT2.out _ HWA.out).mono ?_
          rintro e w1 ⟨rfl, rfl⟩
          go_wp2_with fail
          have hwr := wrong_11 v types (wr.alloc (.cells #[.int .i64 4, .int .i64 11] 107)) v0 v1
          rw [← HX.out] at hwr
          refine hwr.mono ?_
          clear hwr
          rintro e w1 ⟨rfl, rfl⟩
          go_wp2
          refine bodyPost_ret (v := .tuple #[.slice none 0 0, .slice none 0 0, .int .i64 0, .int .i64 0, .int .i64 x, .int .i64 (k)]) (by simp [results, Try.results62, go_sem]) rfl (hp_err HRR.out HWA.out)
        · have hct : ¬ (n : Int) < (k : Int) + 4 := by have := HN.out; simp at hcut; omega
          have HAT : Hid (∀ W, Below w.heap.size w W → Calls Try.prog 66 #[.slice A n c, .int .i64 k, .int .i64 4] W fun e w' => e = .returned (.int .i64 (num b k 4)) ∧ W = w') := hA.resolve_right (by simpa using hcut)
          obtain ⟨v, hv⟩ : ∃ v, v = num b k 4 := ⟨_, rfl⟩
          have hvb := num_bdQ HY.out k 4 (by omega)
          have hat := HAT.out
          simp only [show (((4, 11) : Fl).1).toNat = 4 from rfl, show ((4, 11) : Fl).2 = 11 from rfl] at hok hgo
          rw [← hv] at hvb hat hok hgo
          have v0 := hvb.1
          have v1 := hvb.2
          have HAT2 := Lib.hid hat
          have HCUT : Hid (¬ b.length < k + 4) := Lib.hid (by simpa using hcut)
          have HV := Lib.hid hv
          have HOK := Lib.hid hok
          have HGO := Lib.hid hgo
          clear hA hcut hvb hat hv HAT hok hgo
          go_wp2_with fail
          refine (HAT2.out _ HWA.out).mono ?_
          rintro e w1 ⟨rfl, rfl⟩
          go_wp2_with fail
          have hwr := wrong_11 v types (wr.alloc (.cells #[.int .i64 4, .int .i64 11] 107)) v0 v1
          rw [HOK.out] at hwr
          refine hwr.mono ?_
          clear hwr
          rintro e w1 ⟨rfl, rfl⟩
          have d0 := box1_at wr #[.int .i64 4, .int .i64 11] 107 0 (.int .i64 4) rfl
          have d1 := box1_at wr #[.int .i64 4, .int .i64 11] 107 1 (.int .i64 11) rfl
          have HOCa := Lib.hid (show OwnI (wr.alloc (.cells #[.int .i64 4, .int .i64 11] 107)) w.heap.size u2 cl from own_below HR.out.hoc (below_alloc _ _))
          have HOSa := Lib.hid (show OwnI (wr.alloc (.cells #[.int .i64 4, .int .i64 11] 107)) w.heap.size u3 sl from own_below HR.out.hos (below_alloc _ _))
          obtain ⟨wa, hwa⟩ : ∃ wa, wa = (wr.alloc (.cells #[.int .i64 4, .int .i64 11] 107)) := ⟨_, rfl⟩
          obtain ⟨X, hX⟩ : ∃ X, X = wr.heap.size := ⟨_, rfl⟩
          rw [← hwa] at HWA HOW HOCa HOSa d0 d1
          rw [← hX] at d0 d1
          rw [← hwa, ← hX]
          clear hwa hX
          have HO3 : Hid (OwnI wa w.heap.size u3 sl) := Lib.hid HOSa.out
          have HSZ : Hid (w.heap.size ≤ wa.heap.size) := Lib.hid HWA.out.size
          have HLC : Hid (sl.length + 1 ≤ 4398046511104) := Lib.hid (by have h3 : sl.length ≤ i := HR.out.hsl; omega)
          go_wp2_with (at_builtin; refine app_int (.tmp 108) (.tmp 110) rfl rfl w.heap.size _ sl rfl HO3 rfl HSZ.out HLC ?_; intro v5 w5 ho he; have HO5 := Lib.hid ho; have HE5 := Lib.hid he; clear ho he)
          obtain ⟨hoc5, hne5⟩ := ext_keep HE5.out (show OwnI wa w.heap.size u2 cl from HOCa.out) (ne_flip HR.out.hne)
          go_roundg m
          case measure => omega
          case rel =>
            exact ⟨_, i + 1, _, HR.out.step (by rw [← HLL.out]; exact hi) (f := (4, 11)) (v := v) (by simpa using HCUT.out) (by decide) (by unfold hmore; simp) HGO.out (by go_num) (by go_num) rfl rfl (by have h : OwnF w5 w.heap.size (.slice (some ⟨g, 0, none⟩) L cap) fl := own_ext HE5.out HO3.out HOW.out (by decide); simpa [hmore] using h) hoc5 HO5.out (ne_flip hne5) (HWA.out.grown HE5.out.grown HWA.out.size (fun k hk => own_ge HO3.out k hk))⟩
      · have hA : Hid (∀ W, Below w.heap.size w W → Calls Try.prog 66 #[.slice A n c, .int .i64 k, .int .i64 1] W fun e w' => e = .returned (.int .i64 (num b k 1)) ∧ W = w') ∨ b.length < k + 1 := by
          by_cases h : b.length < k + 1
          · exact .inr h
          · refine .inl (Lib.hid fun W hW => ?_)
            have := at_any A c n k 1 b W (HBB.out.mono hW) HY.out HN.out (by omega) (by omega) (by omega) (by have := HN.out; omega)
            rwa [Int.toNat_natCast] at this
        have hwa : Below w.heap.size w (wr.alloc (.cells #[.int .i64 1, .int .i64 12] 107)) := below_trans HR.out.hbelow HR.out.hbelow.size (below_alloc _ _)
        have HWA := Lib.hid hwa
        have HOW : Hid (OwnF (wr.alloc (.cells #[.int .i64 1, .int .i64 12] 107)) w.heap.size (.slice (some ⟨g, 0, none⟩) L cap) fl) := Lib.hid (by rw [HLL.out]; exact own_below HR.out.hof (below_alloc _ _))
        clear hwa
        have hw1 : IntKind.i64.wrap ((k : Int) + 1) = (k : Int) + 1 := IntWalk.i64_in _ (by omega)
        rcases hinv with ⟨hcut, hRR⟩ | ⟨hcut, hbad, hRR⟩ | ⟨hcut, hok, m, rfl, hgo⟩
        · have hct : (n : Int) < (k : Int) + 1 := by have := HN.out; simp at hcut; omega
          have HRR : Hid (R = .error (50, (n : Int))) := Lib.hid (by rw [hRR, HN.out])
          clear hA hcut hRR
          go_wp2
          refine bodyPost_ret (v := .tuple #[.slice none 0 0, .slice none 0 0, .int .i64 0, .int .i64 0, .int .i64 50, .int .i64 (n)]) (by simp [results, Try.results62, go_sem]) rfl (hp_err HRR.out HWA.out)
        · have hct : ¬ (n : Int) < (k : Int) + 1 := by have := HN.out; simp at hcut; omega
          have HAT : Hid (∀ W, Below w.heap.size w W → Calls Try.prog 66 #[.slice A n c, .int .i64 k, .int .i64 1] W fun e w' => e = .returned (.int .i64 (num b k 1)) ∧ W = w') := hA.resolve_right (by simpa using hcut)
          obtain ⟨v, hv⟩ : ∃ v, v = num b k 1 := ⟨_, rfl⟩
          have hvb := num_bdQ HY.out k 1 (by omega)
          have hat := HAT.out
          simp only [show (((1, 12) : Fl).1).toNat = 1 from rfl, show ((1, 12) : Fl).2 = 12 from rfl] at hbad hRR
          rw [← hv] at hvb hat hbad hRR
          obtain ⟨x, hx⟩ : ∃ x, x = wrongF 12 v types := ⟨_, rfl⟩
          rw [← hx] at hbad hRR
          have v0 := hvb.1
          have v1 := hvb.2
          have HAT2 := Lib.hid hat
          have HX := Lib.hid hx
          have HRR := Lib.hid hRR
          have hxq : (!(x == 0)) = true := by simp [hbad]
          have hxq2 : (x == 0) = false := by simp [hbad]
          clear hA hcut hRR hvb hat hv HAT hbad hx
          go_wp2_with fail
          refine (HAT2.out _ HWA.out).mono ?_
          rintro e w1 ⟨rfl, rfl⟩
          go_wp2_with fail
          have hwr := wrong_12 v types (wr.alloc (.cells #[.int .i64 1, .int .i64 12] 107)) v0 v1
          rw [← HX.out] at hwr
          refine hwr.mono ?_
          clear hwr
          rintro e w1 ⟨rfl, rfl⟩
          go_wp2
          refine bodyPost_ret (v := .tuple #[.slice none 0 0, .slice none 0 0, .int .i64 0, .int .i64 0, .int .i64 x, .int .i64 (k)]) (by simp [results, Try.results62, go_sem]) rfl (hp_err HRR.out HWA.out)
        · have hct : ¬ (n : Int) < (k : Int) + 1 := by have := HN.out; simp at hcut; omega
          have HAT : Hid (∀ W, Below w.heap.size w W → Calls Try.prog 66 #[.slice A n c, .int .i64 k, .int .i64 1] W fun e w' => e = .returned (.int .i64 (num b k 1)) ∧ W = w') := hA.resolve_right (by simpa using hcut)
          obtain ⟨v, hv⟩ : ∃ v, v = num b k 1 := ⟨_, rfl⟩
          have hvb := num_bdQ HY.out k 1 (by omega)
          have hvb2 := num_bdS HY.out k 1 (by omega)
          have hat := HAT.out
          simp only [show (((1, 12) : Fl).1).toNat = 1 from rfl, show ((1, 12) : Fl).2 = 12 from rfl] at hok hgo
          rw [← hv] at hvb hat hok hgo
          rw [← hv] at hvb2
          have v0 := hvb.1
          have v1 := hvb.2
          have HAT2 := Lib.hid hat
          have HCUT : Hid (¬ b.length < k + 1) := Lib.hid (by simpa using hcut)
          have HV := Lib.hid hv
          have HOK := Lib.hid hok
          have HGO := Lib.hid hgo
          clear hA hcut hvb hat hv HAT hok hgo
          go_wp2_with fail
          refine (HAT2.out _ HWA.out).mono ?_
          rintro e w1 ⟨rfl, rfl⟩
          go_wp2_with fail
          have hwr := wrong_12 v types (wr.alloc (.cells #[.int .i64 1, .int .i64 12] 107)) v0 v1
          rw [HOK.out] at hwr
          refine hwr.mono ?_
          clear hwr
          rintro e w1 ⟨rfl, rfl⟩
          go_wp2
          go_roundg m
          case measure => omega
          case rel =>
            exact ⟨_, i + 1, _, HR.out.step (by rw [← HLL.out]; exact hi) (f := (1, 12)) (v := v) (by simpa using HCUT.out) (by decide) (by unfold hmore; simp) HGO.out (by go_num) (by go_num) rfl rfl (by simpa [hmore] using HOW.out) (own_below HR.out.hoc (below_alloc _ _)) (own_below HR.out.hos (below_alloc _ _)) HR.out.hne HWA.out⟩
      · have hA : Hid (∀ W, Below w.heap.size w W → Calls Try.prog 66 #[.slice A n c, .int .i64 k, .int .i64 2] W fun e w' => e = .returned (.int .i64 (num b k 2)) ∧ W = w') ∨ b.length < k + 2 := by
          by_cases h : b.length < k + 2
          · exact .inr h
          · refine .inl (Lib.hid fun W hW => ?_)
            have := at_any A c n k 2 b W (HBB.out.mono hW) HY.out HN.out (by omega) (by omega) (by omega) (by have := HN.out; omega)
            rwa [Int.toNat_natCast] at this
        have hwa : Below w.heap.size w (wr.alloc (.cells #[.int .i64 2, .int .i64 13] 107)) := below_trans HR.out.hbelow HR.out.hbelow.size (below_alloc _ _)
        have HWA := Lib.hid hwa
        have HOW : Hid (OwnF (wr.alloc (.cells #[.int .i64 2, .int .i64 13] 107)) w.heap.size (.slice (some ⟨g, 0, none⟩) L cap) fl) := Lib.hid (by rw [HLL.out]; exact own_below HR.out.hof (below_alloc _ _))
        clear hwa
        have hw1 : IntKind.i64.wrap ((k : Int) + 2) = (k : Int) + 2 := IntWalk.i64_in _ (by omega)
        rcases hinv with ⟨hcut, hRR⟩ | ⟨hcut, hbad, hRR⟩ | ⟨hcut, hok, m, rfl, hgo⟩
        · have hct : (n : Int) < (k : Int) + 2 := by have := HN.out; simp at hcut; omega
          have HRR : Hid (R = .error (50, (n : Int))) := Lib.hid (by rw [hRR, HN.out])
          clear hA hcut hRR
          go_wp2
          refine bodyPost_ret (v := .tuple #[.slice none 0 0, .slice none 0 0, .int .i64 0, .int .i64 0, .int .i64 50, .int .i64 (n)]) (by simp [results, Try.results62, go_sem]) rfl (hp_err HRR.out HWA.out)
        · have hct : ¬ (n : Int) < (k : Int) + 2 := by have := HN.out; simp at hcut; omega
          have HAT : Hid (∀ W, Below w.heap.size w W → Calls Try.prog 66 #[.slice A n c, .int .i64 k, .int .i64 2] W fun e w' => e = .returned (.int .i64 (num b k 2)) ∧ W = w') := hA.resolve_right (by simpa using hcut)
          obtain ⟨v, hv⟩ : ∃ v, v = num b k 2 := ⟨_, rfl⟩
          have hvb := num_bdQ HY.out k 2 (by omega)
          have hat := HAT.out
          simp only [show (((2, 13) : Fl).1).toNat = 2 from rfl, show ((2, 13) : Fl).2 = 13 from rfl] at hbad hRR
          rw [← hv] at hvb hat hbad hRR
          obtain ⟨x, hx⟩ : ∃ x, x = wrongF 13 v types := ⟨_, rfl⟩
          rw [← hx] at hbad hRR
          have v0 := hvb.1
          have v1 := hvb.2
          have HAT2 := Lib.hid hat
          have HX := Lib.hid hx
          have HRR := Lib.hid hRR
          have hxq : (!(x == 0)) = true := by simp [hbad]
          have hxq2 : (x == 0) = false := by simp [hbad]
          clear hA hcut hRR hvb hat hv HAT hbad hx
          go_wp2_with fail
          refine (HAT2.out _ HWA.out).mono ?_
          rintro e w1 ⟨rfl, rfl⟩
          go_wp2_with fail
          have hwr := wrong_13 v types (wr.alloc (.cells #[.int .i64 2, .int .i64 13] 107)) 
          rw [← HX.out] at hwr
          refine hwr.mono ?_
          clear hwr
          rintro e w1 ⟨rfl, rfl⟩
          go_wp2
          refine bodyPost_ret (v := .tuple #[.slice none 0 0, .slice none 0 0, .int .i64 0, .int .i64 0, .int .i64 x, .int .i64 (k)]) (by simp [results, Try.results62, go_sem]) rfl (hp_err HRR.out HWA.out)
        · have hct : ¬ (n : Int) < (k : Int) + 2 := by have := HN.out; simp at hcut; omega
          have HAT : Hid (∀ W, Below w.heap.size w W → Calls Try.prog 66 #[.slice A n c, .int .i64 k, .int .i64 2] W fun e w' => e = .returned (.int .i64 (num b k 2)) ∧ W = w') := hA.resolve_right (by simpa using hcut)
          obtain ⟨v, hv⟩ : ∃ v, v = num b k 2 := ⟨_, rfl⟩
          have hvb := num_bdQ HY.out k 2 (by omega)
          have hvb2 := num_bdS HY.out k 2 (by omega)
          have hat := HAT.out
          simp only [show (((2, 13) : Fl).1).toNat = 2 from rfl, show ((2, 13) : Fl).2 = 13 from rfl] at hok hgo
          rw [← hv] at hvb hat hok hgo
          rw [← hv] at hvb2
          have v0 := hvb.1
          have v1 := hvb.2
          have HAT2 := Lib.hid hat
          have HCUT : Hid (¬ b.length < k + 2) := Lib.hid (by simpa using hcut)
          have HV := Lib.hid hv
          have HOK := Lib.hid hok
          have HGO := Lib.hid hgo
          clear hA hcut hvb hat hv HAT hok hgo
          go_wp2_with fail
          refine (HAT2.out _ HWA.out).mono ?_
          rintro e w1 ⟨rfl, rfl⟩
          go_wp2_with fail
          have hwr := wrong_13 v types (wr.alloc (.cells #[.int .i64 2, .int .i64 13] 107)) 
          rw [HOK.out] at hwr
          refine hwr.mono ?_
          clear hwr
          rintro e w1 ⟨rfl, rfl⟩
          go_wp2
          go_roundg m
          case measure => omega
          case rel =>
            exact ⟨_, i + 1, _, HR.out.step (by rw [← HLL.out]; exact hi) (f := (2, 13)) (v := v) (by simpa using HCUT.out) (by decide) (by unfold hmore; simp) HGO.out (by go_num) (by go_num) rfl rfl (by simpa [hmore] using HOW.out) (own_below HR.out.hoc (below_alloc _ _)) (own_below HR.out.hos (below_alloc _ _)) HR.out.hne HWA.out⟩
      · have hA : Hid (∀ W, Below w.heap.size w W → Calls Try.prog 66 #[.slice A n c, .int .i64 k, .int .i64 1] W fun e w' => e = .returned (.int .i64 (num b k 1)) ∧ W = w') ∨ b.length < k + 1 := by
          by_cases h : b.length < k + 1
          · exact .inr h
          · refine .inl (Lib.hid fun W hW => ?_)
            have := at_any A c n k 1 b W (HBB.out.mono hW) HY.out HN.out (by omega) (by omega) (by omega) (by have := HN.out; omega)
            rwa [Int.toNat_natCast] at this
        have hwa : Below w.heap.size w (wr.alloc (.cells #[.int .i64 1, .int .i64 14] 107)) := below_trans HR.out.hbelow HR.out.hbelow.size (below_alloc _ _)
        have HWA := Lib.hid hwa
        have HOW : Hid (OwnF (wr.alloc (.cells #[.int .i64 1, .int .i64 14] 107)) w.heap.size (.slice (some ⟨g, 0, none⟩) L cap) fl) := Lib.hid (by rw [HLL.out]; exact own_below HR.out.hof (below_alloc _ _))
        clear hwa
        have hw1 : IntKind.i64.wrap ((k : Int) + 1) = (k : Int) + 1 := IntWalk.i64_in _ (by omega)
        rcases hinv with ⟨hcut, hRR⟩ | ⟨hcut, hbad, hRR⟩ | ⟨hcut, hok, m, rfl, hgo⟩
        · have hct : (n : Int) < (k : Int) + 1 := by have := HN.out; simp at hcut; omega
          have HRR : Hid (R = .error (50, (n : Int))) := Lib.hid (by rw [hRR, HN.out])
          clear hA hcut hRR
          go_wp2
          refine bodyPost_ret (v := .tuple #[.slice none 0 0, .slice none 0 0, .int .i64 0, .int .i64 0, .int .i64 50, .int .i64 (n)]) (by simp [results, Try.results62, go_sem]) rfl (hp_err HRR.out HWA.out)
        · have hct : ¬ (n : Int) < (k : Int) + 1 := by have := HN.out; simp at hcut; omega
          have HAT : Hid (∀ W, Below w.heap.size w W → Calls Try.prog 66 #[.slice A n c, .int .i64 k, .int .i64 1] W fun e w' => e = .returned (.int .i64 (num b k 1)) ∧ W = w') := hA.resolve_right (by simpa using hcut)
          obtain ⟨v, hv⟩ : ∃ v, v = num b k 1 := ⟨_, rfl⟩
          have hvb := num_bdQ HY.out k 1 (by omega)
          have hat := HAT.out
          simp only [show (((1, 14) : Fl).1).toNat = 1 from rfl, show ((1, 14) : Fl).2 = 14 from rfl] at hbad hRR
          rw [← hv] at hvb hat hbad hRR
          obtain ⟨x, hx⟩ : ∃ x, x = wrongF 14 v types := ⟨_, rfl⟩
          rw [← hx] at hbad hRR
          have v0 := hvb.1
          have v1 := hvb.2
          have HAT2 := Lib.hid hat
          have HX := Lib.hid hx
          have HRR := Lib.hid hRR
          have hxq : (!(x == 0)) = true := by simp [hbad]
          have hxq2 : (x == 0) = false := by simp [hbad]
          clear hA hcut hRR hvb hat hv HAT hbad hx
          go_wp2_with fail
          refine (HAT2.out _ HWA.out).mono ?_
          rintro e w1 ⟨rfl, rfl⟩
          go_wp2_with fail
          have hwr := wrong_14 v types (wr.alloc (.cells #[.int .i64 1, .int .i64 14] 107)) v0 v1
          rw [← HX.out] at hwr
          refine hwr.mono ?_
          clear hwr
          rintro e w1 ⟨rfl, rfl⟩
          go_wp2
          refine bodyPost_ret (v := .tuple #[.slice none 0 0, .slice none 0 0, .int .i64 0, .int .i64 0, .int .i64 x, .int .i64 (k)]) (by simp [results, Try.results62, go_sem]) rfl (hp_err HRR.out HWA.out)
        · have hct : ¬ (n : Int) < (k : Int) + 1 := by have := HN.out; simp at hcut; omega
          have HAT : Hid (∀ W, Below w.heap.size w W → Calls Try.prog 66 #[.slice A n c, .int .i64 k, .int .i64 1] W fun e w' => e = .returned (.int .i64 (num b k 1)) ∧ W = w') := hA.resolve_right (by simpa using hcut)
          obtain ⟨v, hv⟩ : ∃ v, v = num b k 1 := ⟨_, rfl⟩
          have hvb := num_bdQ HY.out k 1 (by omega)
          have hvb2 := num_bdS HY.out k 1 (by omega)
          have hat := HAT.out
          simp only [show (((1, 14) : Fl).1).toNat = 1 from rfl, show ((1, 14) : Fl).2 = 14 from rfl] at hok hgo
          rw [← hv] at hvb hat hok hgo
          rw [← hv] at hvb2
          have v0 := hvb.1
          have v1 := hvb.2
          have HAT2 := Lib.hid hat
          have HCUT : Hid (¬ b.length < k + 1) := Lib.hid (by simpa using hcut)
          have HV := Lib.hid hv
          have HOK := Lib.hid hok
          have HGO := Lib.hid hgo
          clear hA hcut hvb hat hv HAT hok hgo
          go_wp2_with fail
          refine (HAT2.out _ HWA.out).mono ?_
          rintro e w1 ⟨rfl, rfl⟩
          go_wp2_with fail
          have hwr := wrong_14 v types (wr.alloc (.cells #[.int .i64 1, .int .i64 14] 107)) v0 v1
          rw [HOK.out] at hwr
          refine hwr.mono ?_
          clear hwr
          rintro e w1 ⟨rfl, rfl⟩
          go_wp2
          go_roundg m
          case measure => omega
          case rel =>
            exact ⟨_, i + 1, _, HR.out.step (by rw [← HLL.out]; exact hi) (f := (1, 14)) (v := v) (by simpa using HCUT.out) (by decide) (by unfold hmore; simp) HGO.out (by go_num) (by go_num) rfl rfl (by simpa [hmore] using HOW.out) (own_below HR.out.hoc (below_alloc _ _)) (own_below HR.out.hos (below_alloc _ _)) HR.out.hne HWA.out⟩
    · have hend : i = fl.length := by have := hrel.hil; omega
      have hgo := hrel.hgo
      rw [List.drop_of_length_le (by omega)] at hgo
      have HRR := Lib.hid hgo.nil
      obtain ⟨A8, c8, h8, _⟩ := own_shape hrel.hof
      subst h8
      have hi2 : ¬ (i : Int) < (fl.length : Int) := by omega
      obtain ⟨L, hL⟩ : ∃ L, L = fl.length := ⟨_, rfl⟩
      rw [← hL] at hi hi2 ⊢
      clear hgo hrel hend hL
      go_wp2
      refine bodyPost_ret (v := .tuple #[u2, u3, .int .i64 size, .int .i64 (k : Int), .int .i64 0, .int .i64 0]) (by simp [results, Try.results62, go_sem]) rfl ?_
      refine ⟨HR.out.hbelow, ?_⟩
      rw [HRR.out]
      exact ⟨_, _, rfl, own_nums HR.out.hoc (by have h3 : cl.length ≤ i := HR.out.hcl; have h2 : i ≤ k := HR.out.hik; have h1 : k ≤ b.length := HR.out.hkb; have := HN.out; unfold reach; show cl.length ≤ _; omega), own_nums HR.out.hos (by have h3 : sl.length ≤ i := HR.out.hsl; have h2 : i ≤ k := HR.out.hik; have h1 : k ≤ b.length := HR.out.hkb; have := HN.out; unfold reach; show sl.length ≤ _; omega)⟩
end Go.Proofs.Ytkbboepopcebaaa
