/- The reference's Parse. -/
import Derived.Test.YtkbboepopcebaaaBL
import Derived.Test.YtkbboepopcebaaaBD
namespace Go.Proofs.Ytkbboepopcebaaa
open Go.RowKit

theorem needB_ok {α : Type} {b : List Int} {a : Nat} {v er : Int} {k : Except Bad α} {z : α} (h : needB b a v er k = .ok z) : ¬ b.length < a + 1 ∧ k = .ok z := by
  unfold needB at h
  split at h
  · cases h
  · split at h
    · exact ⟨by assumption, h⟩
    · cases h
theorem readB_ok {α : Type} {b : List Int} {a s : Nat} {k : Int → Except Bad α} {z : α} (h : readB b a s k = .ok z) : ¬ b.length < a + s ∧ k (num b a s) = .ok z := by
  unfold readB at h
  split at h
  · cases h
  · exact ⟨by assumption, h⟩
theorem askB_ok {α : Type} {p : Bool} {er x : Int} {k : Except Bad α} {z : α} (h : askB p er x k = .ok z) : p = true ∧ k = .ok z := by
  unfold askB at h
  split at h
  · exact ⟨by assumption, h⟩
  · cases h
theorem takeB_inv {α β : Type} {x : Except Bad α} {f : α → Except Bad β} {z : β} (h : takeB x f = .ok z) : ∃ v, x = .ok v ∧ f v = .ok z := by
  cases x with
  | ok v => exact ⟨v, rfl, h⟩
  | error e => cases h
/-- What the header tells. -/
structure HFacts (b : List Int) (s : HS) : Prop where
  cl : ∀ x ∈ s.cl, 1 ≤ x
  sl : ∀ x ∈ s.sl, 1 ≤ x
  ncl : s.cl.length ≤ 1024
  nsl : s.sl.length ≤ 256
  cls : s.cl.sum ≤ 1099511627776
  sls : s.sl.sum ≤ 1099511627776
  z0 : 0 ≤ s.size
  z1 : s.size ≤ 65535
  k : s.k ≤ b.length
theorem hEnd_ok {b : List Int} (hy : Byt b) {types : Int} {cl sl : List Int} {a : Nat} {s : HS} (h : hEnd b types cl sl a = .ok s) : s.cl = cl ∧ s.sl = sl ∧ s.k ≤ b.length ∧ 0 ≤ s.size ∧ s.size ≤ 65535 := by
  unfold hEnd at h
  obtain ⟨h1, h⟩ := readB_ok h
  obtain ⟨h2, h⟩ := needB_ok h
  simp only [Except.ok.injEq] at h
  subst h
  have := num_bd hy a 2
  exact ⟨rfl, rfl, by show a + 3 ≤ _; omega, by show 0 ≤ num b a 2; omega, by show num b a 2 ≤ _; omega⟩
theorem hdr_facts {b : List Int} (hy : Byt b) {s : HS} (h : hdr b = .ok s) : HFacts b s := by
  unfold hdr at h
  obtain ⟨_, h⟩ := needB_ok h
  obtain ⟨_, h⟩ := needB_ok h
  obtain ⟨_, h⟩ := needB_ok h
  obtain ⟨_, h⟩ := needB_ok h
  obtain ⟨_, h⟩ := readB_ok h
  obtain ⟨h4, h⟩ := askB_ok h
  obtain ⟨_, h⟩ := needB_ok h
  obtain ⟨_, h⟩ := readB_ok h
  obtain ⟨hn, h⟩ := askB_ok h
  obtain ⟨codes, hc, h⟩ := takeB_inv h
  obtain ⟨_, h⟩ := readB_ok h
  obtain ⟨_, h⟩ := askB_ok h
  have h4 := of_decide_eq_true h4
  have hn := of_decide_eq_true hn
  have c1 := szs_len hc
  have c2 := szs_pos hc
  have c3 := szs_sum hy hc
  have c4 : codes.length ≤ 1024 := by omega
  have c5 : codes.sum ≤ 1099511627776 := by
    have : ((num b 7 2).toNat : Int) * 256 ^ 2 ≤ 1024 * 256 ^ 2 := Int.mul_le_mul_of_nonneg_right (by omega) (by decide)
    omega
  split at h
  · obtain ⟨_, h⟩ := readB_ok h
    obtain ⟨hm, h⟩ := askB_ok h
    obtain ⟨subs, hs, h⟩ := takeB_inv h
    obtain ⟨_, h⟩ := needB_ok h
    obtain ⟨e1, e2, e3, e4, e5⟩ := hEnd_ok hy h
    have hm := of_decide_eq_true hm
    have s1 := szs_len hs
    have s2 := szs_pos hs
    have s3 := szs_sum hy hs
    refine ⟨by rw [e1]; exact c2, by rw [e2]; exact s2, by rw [e1]; exact c4, by rw [e2, s1]; omega, by rw [e1]; exact c5, ?_, e4, e5, e3⟩
    rw [e2]
    have : ((num b (10 + 2 * (num b 7 2).toNat) 2).toNat : Int) * 256 ^ 4 ≤ 256 * 256 ^ 4 := Int.mul_le_mul_of_nonneg_right (by omega) (by decide)
    omega
  · obtain ⟨e1, e2, e3, e4, e5⟩ := hEnd_ok hy h
    exact ⟨by rw [e1]; exact c2, by rw [e2]; simp, by rw [e1]; exact c4, by rw [e2]; simp, by rw [e1]; exact c5, by rw [e2]; simp, e4, e5, e3⟩
theorem hgo_err {b : List Int} {n : Nat} {q : List Fl} {s : HS} {R : Except Bad HS} (h : HGo b n q s R) : ∀ x, R = .error x → ¬ x.1 = 0 := by
  induction h with
  | done s => intro x e; cases e
  | cut f q s h => intro x e; cases e; simp
  | bad f q s v e1 h1 h2 => intro x e; cases e; exact h2
  | step n f q s v R e1 h1 h2 h3 ih => exact ih
theorem rs_start (w : World) : RS w ((w.alloc (.cells #[.slice none 0 0, .slice none 0 0, .slice none 0 0, .slice none 0 0, .int .i64 0] 28)).alloc (.cells #[.int .i64 0, .slice none 0 0, .int .i64 0, .int .i64 0] 43)) w.heap.size (w.heap.size + 1) := by
  have hb := below_alloc (w.alloc (.cells #[.slice none 0 0, .slice none 0 0, .slice none 0 0, .slice none 0 0, .int .i64 0] 28)) (.cells #[.int .i64 0, .slice none 0 0, .int .i64 0, .int .i64 0] 43)
  have hz : (w.alloc (.cells #[.slice none 0 0, .slice none 0 0, .slice none 0 0, .slice none 0 0, .int .i64 0] 28)).heap.size = w.heap.size + 1 := by simp
  have hh := heap_alloc_new (w.alloc (.cells #[.slice none 0 0, .slice none 0 0, .slice none 0 0, .slice none 0 0, .int .i64 0] 28)) (.cells #[.int .i64 0, .slice none 0 0, .int .i64 0, .int .i64 0] 43)
  rw [hz] at hh
  refine ⟨below_step (below_alloc _ _) hb, (cc_new w _ _ _ _ _).of_block (hb.block _ (by rw [hz]; omega)), ⟨?_, ?_, ?_, ?_, fun j => ?_⟩, Nat.le_refl _, by omega, by omega⟩
  · have := box1_at (w.alloc (.cells #[.slice none 0 0, .slice none 0 0, .slice none 0 0, .slice none 0 0, .int .i64 0] 28)) #[.int .i64 0, .slice none 0 0, .int .i64 0, .int .i64 0] 43 0 _ rfl
    rwa [hz] at this
  · have := box1_at (w.alloc (.cells #[.slice none 0 0, .slice none 0 0, .slice none 0 0, .slice none 0 0, .int .i64 0] 28)) #[.int .i64 0, .slice none 0 0, .int .i64 0, .int .i64 0] 43 1 _ rfl
    rwa [hz] at this
  · have := box1_at (w.alloc (.cells #[.slice none 0 0, .slice none 0 0, .slice none 0 0, .slice none 0 0, .int .i64 0] 28)) #[.int .i64 0, .slice none 0 0, .int .i64 0, .int .i64 0] 43 2 _ rfl
    rwa [hz] at this
  · have := box1_at (w.alloc (.cells #[.slice none 0 0, .slice none 0 0, .slice none 0 0, .slice none 0 0, .int .i64 0] 28)) #[.int .i64 0, .slice none 0 0, .int .i64 0, .int .i64 0] 43 3 _ rfl
    rwa [hz] at this
  · unfold World.frozen?
    rw [hh]
    rfl
/-- Parse behind the header, in four ways. -/
theorem ptail_cut {b : List Int} {o : Bool} {s : HS} (h : (b.length : Int) < (s.k : Int) + 4 * (s.cl.length : Int) + s.cl.sum + s.sl.sum ∨ (o = false ∧ (b.length : Int) < (s.k : Int) + 4 * (s.cl.length : Int) + s.cl.sum + s.sl.sum + s.size)) : ptail b o s = .error (50, b.length) := by
  unfold ptail; rw [if_pos h]
theorem ptail_long {b : List Int} {o : Bool} {s : HS} (h0 : 0 ≤ s.size) (h : (s.k : Int) + 4 * (s.cl.length : Int) + s.cl.sum + s.sl.sum + s.size < (b.length : Int)) : ptail b o s = .error (58, (s.k : Int) + 4 * (s.cl.length : Int) + s.cl.sum + s.sl.sum + s.size) := by
  unfold ptail
  rw [if_neg (by omega), askB, if_neg (by simp; omega)]
theorem ptail_yes {b : List Int} {o : Bool} {s : HS} (h1 : (s.k : Int) + 4 * (s.cl.length : Int) + s.cl.sum + s.sl.sum ≤ (b.length : Int)) (h2 : o = false → (s.k : Int) + 4 * (s.cl.length : Int) + s.cl.sum + s.sl.sum + s.size ≤ (b.length : Int)) (h3 : (b.length : Int) ≤ (s.k : Int) + 4 * (s.cl.length : Int) + s.cl.sum + s.sl.sum + s.size) :
    ptail b o s = takeB (tysR b s.cl.length true s.k) fun ts => .ok ⟨ts, cutL b s.cl (s.k + 4 * s.cl.length), cutL b s.sl (s.k + 4 * s.cl.length + s.cl.sum.toNat), b.drop (s.k + 4 * s.cl.length + s.cl.sum.toNat + s.sl.sum.toNat), s.size⟩ := by
  unfold ptail
  rw [if_neg, askB, if_pos (by simpa using h3)]
  rintro (h | ⟨e, h⟩)
  · omega
  · have := h2 e; omega

set_option maxRecDepth 100000 in
set_option maxHeartbeats 8000000 in
theorem rparse_any (A : Option Addr) (n c : Nat) (o : Bool) (b : List Int) (w : World) (hb : NumsR w .u8 A b) (hy : Byt b) (hn : b.length = n) (hz : n ≤ 4194304) :
    Calls Try.prog 36 #[.slice A n c, .bool o] w (PPost b o w) := by
  obtain ⟨N0, hgo⟩ := hdr_go b
  have hs0 := rs_start w
  obtain ⟨W0, hW0⟩ : ∃ W0, W0 = (w.alloc (.cells #[.slice none 0 0, .slice none 0 0, .slice none 0 0, .slice none 0 0, .int .i64 0] 28)).alloc (.cells #[.int .i64 0, .slice none 0 0, .int .i64 0, .int .i64 0] 43) := ⟨_, rfl⟩
  rw [← hW0] at hs0
  obtain ⟨C, hC⟩ : ∃ C, C = w.heap.size := ⟨_, rfl⟩
  obtain ⟨E, hE⟩ : ∃ E, E = C + 1 := ⟨_, rfl⟩
  rw [← hC, ← hE] at hs0
  have hh := header_any A n c b W0 N0 (hdr b) (hb.mono hs0.below) hy hn hz hgo
  have herr := hgo_err hgo
  have hph := parse_hdr b o
  have hnz : (n : Int) ≤ 4194304 := by omega
  have HBB := Lib.hid hb; clear hb
  have HY := Lib.hid hy; clear hy
  have HN := Lib.hid hn; clear hn
  have HS0 := Lib.hid hs0
  have HH := Lib.hid hh
  clear hh hs0 hgo
  go_enter Try.func36, Try.ntmps36
  go_wp2_with fail
  rw [← hW0, ← hC, ← hE]
  refine HH.out.mono ?_
  rintro e w1 hpost
  clear HH
  obtain ⟨hb1, hpost⟩ := hpost
  have HS1 := Lib.hid (HS0.out.next hb1)
  clear hb1 hW0 hC hE
  rcases hq : hdr b with ⟨x1, x2⟩ | s
  · rw [hq] at hpost hph
    have h0 := herr (x1, x2) hq
    simp only at hpost h0
    subst hpost
    have hx0 : (!(x1 == 0)) = true := by simp [h0]
    have hx1 : (x1 == 0) = false := by simp [h0]
    have HPX : Hid (parse b o = .error (x1, x2)) := Lib.hid hph
    clear h0 herr hph hq
    go_wp2_with fail
    refine (refused_lit _ _ _).mono ?_
    rintro e w2 ⟨rfl, hb2⟩
    have HS2 := Lib.hid (HS1.out.next hb2)
    obtain ⟨z0, z1, z2, z3, z4, fC⟩ := HS2.out.cc
    obtain ⟨l0, l1, l2, l3, fE⟩ := HS2.out.ee
    have nCE : ¬ C = E := HS2.out.ce
    have nEC : ¬ E = C := fun e => HS2.out.ce e.symm
    clear hb2
    go_wp2_with fail
    exact ref_bad rfl rfl HS2.out HPX.out
  · have hf := hdr_facts HY.out hq
    rw [hq] at hpost hph
    have hpp : parse b o = ptail b o s := hph
    obtain ⟨v2, v3, rfl, hv2, hv3⟩ := hpost
    have hpc := @ptail_cut b o s
    have hpl := @ptail_long b o s hf.z0
    have hpy := @ptail_yes b o s
    obtain ⟨k, types, cl, sl, size⟩ := s
    have hz1 := sum_nonneg cl hf.cl
    have hz2 := sum_nonneg sl hf.sl
    have hz3 : 0 ≤ size := hf.z0
    have hz4 : size ≤ 65535 := hf.z1
    have hz5 : k ≤ b.length := hf.k
    have hz6 : cl.length ≤ 1024 := hf.ncl
    have hz7 : cl.sum ≤ 1099511627776 := hf.cls
    have hz8 : sl.sum ≤ 1099511627776 := hf.sls
    have hz9 : sl.length ≤ 256 := hf.nsl
    simp only at hv2 hv3 hpc hpl hpy hpp
    rw [← hpp, HN.out] at hpc hpl hpy
    obtain ⟨L, cc, rfl, _, _, hL⟩ := hv2
    obtain ⟨L2, cc2, rfl, _, _, hL2⟩ := hv3
    have HL := Lib.hid hL
    have HL2 := Lib.hid hL2
    have HF1 : Hid (∀ x ∈ cl, 1 ≤ x) := Lib.hid hf.cl
    have HF2 : Hid (∀ x ∈ sl, 1 ≤ x) := Lib.hid hf.sl
    obtain ⟨N, hN⟩ : ∃ N, N = cl.length := ⟨_, rfl⟩
    obtain ⟨N2, hN2⟩ : ∃ N2, N2 = sl.length := ⟨_, rfl⟩
    have HSUM1 : Hid (∀ W, Below w1.heap.size w1 W → Calls Try.prog 64 #[.slice L N cc] W fun e w' => e = .returned (.int .i64 cl.sum) ∧ W = w') := Lib.hid fun W hW => sum_any L cc N cl W (HL.out.mono hW) hN.symm HF1.out hz7
    have HSUM2 : Hid (∀ W, Below w1.heap.size w1 W → Calls Try.prog 64 #[.slice L2 N2 cc2] W fun e w' => e = .returned (.int .i64 sl.sum) ∧ W = w') := Lib.hid fun W hW => sum_any L2 cc2 N2 sl W (HL2.out.mono hW) hN2.symm HF2.out hz8
    rw [← hN] at hpc hpl hpy hz6
    rw [← hN2] at hz9
    rw [← hN, ← hN2]
    obtain ⟨q, hqq⟩ : ∃ q : Nat, q = k + 4 * N := ⟨_, rfl⟩
    obtain ⟨t1, ht1⟩ : ∃ t1 : Nat, (t1 : Int) = q + cl.sum := ⟨(q + cl.sum).toNat, by omega⟩
    obtain ⟨p, hp⟩ : ∃ p : Nat, (p : Int) = t1 + sl.sum := ⟨(t1 + sl.sum).toNat, by omega⟩
    obtain ⟨z, hzz⟩ : ∃ z : Nat, (z : Int) = p + size := ⟨(p + size).toNat, by omega⟩
    have hw1 : IntKind.i64.wrap (4 * (N : Int)) = 4 * (N : Int) := IntWalk.i64_in _ (by omega)
    have hw2 : IntKind.i64.wrap ((k : Int) + 4 * (N : Int)) = (q : Int) := by rw [IntWalk.i64_in _ (by have := HN.out; omega)]; omega
    have hw3 : IntKind.i64.wrap ((q : Int) + cl.sum) = (t1 : Int) := by rw [IntWalk.i64_in _ (by have := HN.out; omega)]; omega
    have hw4 : IntKind.i64.wrap ((t1 : Int) + sl.sum) = (p : Int) := by rw [IntWalk.i64_in _ (by have := HN.out; omega)]; omega
    have hw5 : IntKind.i64.wrap ((p : Int) + size) = (z : Int) := by rw [IntWalk.i64_in _ (by have := HN.out; omega)]; omega
    have e1 : (k : Int) + 4 * (N : Int) + cl.sum + sl.sum = (p : Int) := by omega
    have e2 : (p : Int) + size = (z : Int) := by omega
    rw [e1] at hpc hpl hpy
    rw [e2] at hpc hpl hpy
    have HE1 := Lib.hid e1
    have HE2 := Lib.hid e2
    have HPC := Lib.hid hpc
    have HPL := Lib.hid hpl
    have HPY := Lib.hid hpy
    have HQQ := Lib.hid hqq
    have HT1 := Lib.hid ht1
    have HPP := Lib.hid hp
    have HNN := Lib.hid hN
    have HNN2 := Lib.hid hN2
    have HZ1 := Lib.hid hz1
    have HZ2 := Lib.hid hz2
    have HZ7 := Lib.hid hz7
    have HZ8 := Lib.hid hz8
    obtain ⟨cs1, hcs1⟩ : ∃ v, v = cl.sum := ⟨_, rfl⟩
    obtain ⟨cs2, hcs2⟩ : ∃ v, v = sl.sum := ⟨_, rfl⟩
    rw [← hcs1] at hw3 HSUM1
    rw [← hcs2] at hw4 HSUM2
    clear hpc hpl hpy hph hpp hL hL2 hf herr hq e1 e2 hz1 hz2 hz5 hz7 hz8 hqq ht1 hp hzz hN hN2 hcs1 hcs2
    dsimp only
    cases o
    · have HPX : Hid (n < z → parse b false = .error (50, (n : Int))) := Lib.hid fun h => HPC.out (.inr ⟨rfl, by omega⟩)
      clear HPC
      go_wp2_with fail
      refine (HSUM1.out _ (Below.refl _ _)).mono ?_
      rintro e w2 ⟨rfl, rfl⟩
      go_wp2_with fail
      refine (HSUM2.out _ (Below.refl _ _)).mono ?_
      rintro e w2 ⟨rfl, rfl⟩
      by_cases g1 : n < z
      · have g2 : decide ((n : Int) < (z : Int)) = true := by simp; omega
        have g3 : decide (n < z) = true := by simp; omega
        have HPX2 := Lib.hid (HPX.out g1)
        clear g1 HPX
        go_wp2_with fail
        refine (refused_lit _ _ _).mono ?_
        rintro e w2 ⟨rfl, hb2⟩
        have HS2 := Lib.hid (HS1.out.next hb2)
        obtain ⟨z0, z1, z2, z3, z4, fC⟩ := HS2.out.cc
        obtain ⟨l0, l1, l2, l3, fE⟩ := HS2.out.ee
        have nCE : ¬ C = E := HS2.out.ce
        have nEC : ¬ E = C := fun e => HS2.out.ce e.symm
        clear hb2
        go_wp2_with fail
        exact ref_bad rfl rfl HS2.out HPX2.out
      · have g2 : decide ((n : Int) < (z : Int)) = false := by simp; omega
        have g3 : decide (n < z) = false := by simp; omega
        have G1 := Lib.hid g1
        clear g1
        go_upto_region 11 with (fail)
        rename_i Ko ho Ki hi
        have HKK := Lib.hid ho
        clear ho
        by_cases h1 : z < n
        · have g4 : decide ((z : Int) < (n : Int)) = true := by simp; omega
          have g5 : decide (z < n) = true := by simp; omega
          have HPX2 := Lib.hid (HPL.out (by omega))
          clear h1 HPX
          go_wp2_with fail
          refine (refused_lit _ _ _).mono ?_
          rintro e w2 ⟨rfl, hb2⟩
          have HS2 := Lib.hid (HS1.out.next hb2)
          obtain ⟨z0, z1, z2, z3, z4, fC⟩ := HS2.out.cc
          obtain ⟨l0, l1, l2, l3, fE⟩ := HS2.out.ee
          have nCE : ¬ C = E := HS2.out.ce
          have nEC : ¬ E = C := fun e => HS2.out.ce e.symm
          clear hb2
          go_wp2_with fail
          exact ref_bad rfl rfl HS2.out HPX2.out
        · have g4 : decide ((z : Int) < (n : Int)) = false := by simp; omega
          have g5 : decide (z < n) = false := by simp; omega
          have hpn : p ≤ n := by have := G1.out; have := HE2.out; omega
          have HPX2 := Lib.hid (HPY.out (by omega) (fun _ => by have := G1.out; omega) (by omega))
          clear h1 HPX
          go_wp2_with fail
          exact HKK.out _ _ (st36_9 A n c false b w HBB.out HY.out HN.out C E p k q t1 N cc N2 cc2 L L2 cl sl size w1 HS1.out HL.out HL2.out HNN.out.symm HNN2.out.symm HF1.out HF2.out HZ7.out HZ8.out hz6 hz9 HQQ.out HT1.out HPP.out hpn (by
            have e := HPX2.out
            rw [HQQ.out, show t1 = k + 4 * N + cl.sum.toNat by have := HT1.out; have := HQQ.out; have := HZ1.out; omega, show p = k + 4 * N + cl.sum.toNat + sl.sum.toNat by have := HPP.out; have := HT1.out; have := HQQ.out; have := HZ1.out; have := HZ2.out; omega]
            exact e) _ _ _ _ _ _ _ _ _ _ _ _ _ _ _ _ _ _ _ _ _ _ _ _ _ _ _ _ _ _ _ _ _ _ _ _ _ _ _ _ _ _ _ _ _ _ _ _ _ _ _ _ _ _ _ _ _ _ _ _ _ _ _ _ _ _ _ _ _ _ _ _ _ _ _ _ _ _ _ _ _ _ _ _ _ _ _ _ _ _ _ _ _ _ _ _ _ _ _ _ _ _ _ _ _ _ _ _ _ _ _ _ _ _ _ _ _ _ _ _ _ _ _ _ _ _ _ _ _ _ _ _ _)
    · have HPX : Hid (n < p → parse b true = .error (50, (n : Int))) := Lib.hid fun h => HPC.out (.inl (by omega))
      clear HPC
      go_wp2_with fail
      refine (HSUM1.out _ (Below.refl _ _)).mono ?_
      rintro e w2 ⟨rfl, rfl⟩
      go_wp2_with fail
      refine (HSUM2.out _ (Below.refl _ _)).mono ?_
      rintro e w2 ⟨rfl, rfl⟩
      by_cases g1 : n < p
      · have g2 : decide ((n : Int) < (p : Int)) = true := by simp; omega
        have g3 : decide (n < p) = true := by simp; omega
        have HPX2 := Lib.hid (HPX.out g1)
        clear g1 HPX
        go_wp2_with fail
        refine (refused_lit _ _ _).mono ?_
        rintro e w2 ⟨rfl, hb2⟩
        have HS2 := Lib.hid (HS1.out.next hb2)
        obtain ⟨z0, z1, z2, z3, z4, fC⟩ := HS2.out.cc
        obtain ⟨l0, l1, l2, l3, fE⟩ := HS2.out.ee
        have nCE : ¬ C = E := HS2.out.ce
        have nEC : ¬ E = C := fun e => HS2.out.ce e.symm
        clear hb2
        go_wp2_with fail
        exact ref_bad rfl rfl HS2.out HPX2.out
      · have g2 : decide ((n : Int) < (p : Int)) = false := by simp; omega
        have g3 : decide (n < p) = false := by simp; omega
        have G1 := Lib.hid g1
        clear g1
        go_upto_region 11 with (fail)
        rename_i Ko ho Ki hi
        have HKK := Lib.hid ho
        clear ho
        by_cases h1 : z < n
        · have g4 : decide ((z : Int) < (n : Int)) = true := by simp; omega
          have g5 : decide (z < n) = true := by simp; omega
          have HPX2 := Lib.hid (HPL.out (by omega))
          clear h1 HPX
          go_wp2_with fail
          refine (refused_lit _ _ _).mono ?_
          rintro e w2 ⟨rfl, hb2⟩
          have HS2 := Lib.hid (HS1.out.next hb2)
          obtain ⟨z0, z1, z2, z3, z4, fC⟩ := HS2.out.cc
          obtain ⟨l0, l1, l2, l3, fE⟩ := HS2.out.ee
          have nCE : ¬ C = E := HS2.out.ce
          have nEC : ¬ E = C := fun e => HS2.out.ce e.symm
          clear hb2
          go_wp2_with fail
          exact ref_bad rfl rfl HS2.out HPX2.out
        · have g4 : decide ((z : Int) < (n : Int)) = false := by simp; omega
          have g5 : decide (z < n) = false := by simp; omega
          have hpn : p ≤ n := by have := G1.out; have := HE2.out; omega
          have HPX2 := Lib.hid (HPY.out (by omega) (fun e => by cases e) (by omega))
          clear h1 HPX
          go_wp2_with fail
          exact HKK.out _ _ (st36_9 A n c true b w HBB.out HY.out HN.out C E p k q t1 N cc N2 cc2 L L2 cl sl size w1 HS1.out HL.out HL2.out HNN.out.symm HNN2.out.symm HF1.out HF2.out HZ7.out HZ8.out hz6 hz9 HQQ.out HT1.out HPP.out hpn (by
            have e := HPX2.out
            rw [HQQ.out, show t1 = k + 4 * N + cl.sum.toNat by have := HT1.out; have := HQQ.out; have := HZ1.out; omega, show p = k + 4 * N + cl.sum.toNat + sl.sum.toNat by have := HPP.out; have := HT1.out; have := HQQ.out; have := HZ1.out; have := HZ2.out; omega]
            exact e) _ _ _ _ _ _ _ _ _ _ _ _ _ _ _ _ _ _ _ _ _ _ _ _ _ _ _ _ _ _ _ _ _ _ _ _ _ _ _ _ _ _ _ _ _ _ _ _ _ _ _ _ _ _ _ _ _ _ _ _ _ _ _ _ _ _ _ _ _ _ _ _ _ _ _ _ _ _ _ _ _ _ _ _ _ _ _ _ _ _ _ _ _ _ _ _ _ _ _ _ _ _ _ _ _ _ _ _ _ _ _ _ _ _ _ _ _ _ _ _ _ _ _ _ _ _ _ _ _ _ _ _ _)
end Go.Proofs.Ytkbboepopcebaaa
namespace Go.Proofs.Ytkbboepopcebaaa
open Go.RowKit

set_option maxRecDepth 100000 in
set_option maxHeartbeats 4000000 in
theorem rejects_same (x y : Int) (w : World) : Calls Try.prog 37 #[rejV x y, rejV x y] w (TruePost w) := by
  unfold rejV
  have hx : (!(x == x)) = false := by simp
  have hy : (!(y == y)) = false := by simp
  have hb : Below w.heap.size w ((w.alloc (.cells #[.int .i64 x, .slice none 0 0, .int .i64 0, .int .i64 y] 43)).alloc (.cells #[.int .i64 x, .slice none 0 0, .int .i64 0, .int .i64 y] 43)) := below_step (below_alloc _ _) (below_alloc _ _)
  have HB := Lib.hid hb
  clear hb
  go_enter Try.func37, Try.ntmps37
  go_wp2
  go_loop [5] (fun i => i = .int .i64 0) (fun _ => 0)
  case atStart => rfl
  case round =>
    subst hrel
    go_wp2
    go_ret
    exact ⟨rfl, HB.out⟩
end Go.Proofs.Ytkbboepopcebaaa
namespace Go.Proofs.Ytkbboepopcebaaa
open Go.RowKit

def contE : Cont := ⟨[], [], [], [], 0⟩
def contOf : Except Bad Cont → Cont
  | .ok c => c
  | .error _ => contE
def rejOf : Except Bad Cont → Bad
  | .ok _ => (0, 0)
  | .error x => x
structure Fine (b : List Int) (c : Cont) : Prop where
  types : c.types.length ≤ 1024
  codes : c.codes.length ≤ 1024
  code : ∀ l ∈ c.codes, l.length ≤ b.length
  subs : c.subs.length ≤ 256
  sub : ∀ l ∈ c.subs, l.length ≤ b.length
  data : c.data.length ≤ b.length
theorem tysR_len {b : List Int} : ∀ {k a : Nat} {f : Bool} {l : List Ty}, tysR b k f a = .ok l → l.length = k
  | 0, _, _, l, h => by simp only [tysR, Except.ok.injEq] at h; subst h; rfl
  | k + 1, a, f, l, h => by
    simp only [tysR] at h
    split at h
    · cases h
    · split at h
      · cases h
      · split at h
        · cases h
        · split at h
          · rename_i l' hl'
            simp only [Except.ok.injEq] at h
            subst h
            simp [tysR_len hl']
          · cases h
theorem cutL_le (b : List Int) : ∀ (ls : List Int) (a : Nat), ∀ l ∈ cutL b ls a, l.length ≤ b.length
  | [], _, l, h => by simp [cutL] at h
  | x :: r, a, l, h => by
    simp only [cutL, List.mem_cons] at h
    rcases h with rfl | h
    · simp; omega
    · exact cutL_le b r _ l h
theorem parse_fine {b : List Int} (hy : Byt b) (o : Bool) : Fine b (contOf (parse b o)) := by
  rw [parse_hdr]
  cases hq : hdr b with
  | error e => exact ⟨by simp [takeB, contOf, contE], by simp [takeB, contOf, contE], by simp [takeB, contOf, contE], by simp [takeB, contOf, contE], by simp [takeB, contOf, contE], by simp [takeB, contOf, contE]⟩
  | ok s =>
    have hf := hdr_facts hy hq
    rw [takeB_good]
    cases hp : ptail b o s with
    | error e => exact ⟨by simp [contOf, contE], by simp [contOf, contE], by simp [contOf, contE], by simp [contOf, contE], by simp [contOf, contE], by simp [contOf, contE]⟩
    | ok c =>
      unfold ptail at hp
      split at hp
      · cases hp
      · obtain ⟨_, hp⟩ := askB_ok hp
        obtain ⟨ts, ht, hp⟩ := takeB_inv hp
        simp only [Except.ok.injEq] at hp
        subst hp
        have := tysR_len ht
        have h1 := hf.ncl
        have h2 := hf.nsl
        exact ⟨by show ts.length ≤ _; omega, by show (cutL b s.cl _).length ≤ _; rw [cutL_length]; exact h1, cutL_le _ _ _, by show (cutL b s.sl _).length ≤ _; rw [cutL_length]; exact h2, cutL_le _ _ _, by show (b.drop _).length ≤ _; simp⟩
/-- What either Parse hands back, in one form. -/
def RdV (b : List Int) (o : Bool) (w : World) (e : Ending) (w' : World) : Prop := Below w.heap.size w w' ∧ ∃ A0 n0 c0 A1 n1 c1 A2 n2 c2 A3 n3 c3,
  e = .returned (.tuple #[.agg #[.slice A0 n0 c0, .slice A1 n1 c1, .slice A2 n2 c2, .slice A3 n3 c3, .int .i64 (contOf (parse b o)).size], .agg #[.int .i64 (rejOf (parse b o)).1, .slice none 0 0, .int .i64 0, .int .i64 (rejOf (parse b o)).2]]) ∧
  PContV w' w.heap.size (.agg #[.slice A0 n0 c0, .slice A1 n1 c1, .slice A2 n2 c2, .slice A3 n3 c3, .int .i64 (contOf (parse b o)).size]) (contOf (parse b o))
theorem rd_of {b : List Int} {o : Bool} {w w' : World} {e : Ending} (h : PPost b o w e w') : RdV b o w e w' := by
  obtain ⟨hb, h⟩ := h
  refine ⟨hb, ?_⟩
  cases hp : parse b o with
  | error x =>
    rw [hp] at h
    simp only at h
    subst h
    exact ⟨none, 0, 0, none, 0, 0, none, 0, 0, none, 0, 0, rfl, ⟨_, _, _, _, rfl, World.ownsRow_nil _ _ _ _, PartsO.nil _ _, PartsO.nil _ _, World.ownsRow_nil _ _ _ _⟩⟩
  | ok c =>
    rw [hp] at h
    obtain ⟨v, rfl, hv⟩ := h
    obtain ⟨T, C, S, D, rfl, hT, hC, hS, hD⟩ := hv.form
    obtain ⟨A0, c0, rfl, _⟩ := own_shape hT
    obtain ⟨A1, c1, rfl⟩ := hC.shape
    obtain ⟨A2, c2, rfl⟩ := hS.shape
    obtain ⟨A3, c3, rfl, _⟩ := own_shape hD
    exact ⟨_, _, _, _, _, _, _, _, _, _, _, _, rfl, hv⟩
theorem PContV.reads2 {w : World} {B : Nat} {v : Value} {b : List Int} {c : Cont} (h : PContV w B v c) (hf : Fine b c) (hb : b.length ≤ reach) : ContV w v c := by
  have h1 := hf.types
  have h2 := hf.codes
  have h3 := hf.subs
  have h4 := hf.data
  exact h.reads (by unfold reach; omega) (by unfold reach; omega) (fun l hl => Nat.le_trans (hf.code l hl) hb) (by unfold reach; omega) (fun l hl => Nat.le_trans (hf.sub l hl) hb) (Nat.le_trans h4 hb)
theorem PContV.below {w w1 : World} {B : Nat} {v : Value} {c : Cont} (h : PContV w B v c) (hb : Below w.heap.size w w1) : PContV w1 B v c := by
  obtain ⟨T, C, S, D, rfl, hT, hC, hS, hD⟩ := h.form
  exact ⟨T, C, S, D, rfl, own_below hT hb, hC.below hb, hS.below hb, own_below hD hb⟩
theorem PContV.other {w w1 : World} {B g : Nat} {v : Value} {c : Cont} (h : PContV w B v c) (hg : w.grownBy w1 (some g)) (hB : g < B) : PContV w1 B v c := by
  obtain ⟨T, C, S, D, rfl, hT, hC, hS, hD⟩ := h.form
  exact ⟨T, C, S, D, rfl, own_other hT hg (.inr fun e => by have := own_ge hT g e; omega), hC.other hg hB, hS.other hg hB, own_other hD hg (.inr fun e => by have := own_ge hD g e; omega)⟩
theorem e4_new (w : World) (v0 v1 v2 v3 : Value) : E4 (w.alloc (.cells #[v0, v1, v2, v3] 43)) w.heap.size v0 v1 v2 v3 := by
  have hh := heap_alloc_new w (.cells #[v0, v1, v2, v3] 43)
  refine ⟨box1_at w _ 43 0 _ rfl, box1_at w _ 43 1 _ rfl, box1_at w _ 43 2 _ rfl, box1_at w _ 43 3 _ rfl, fun j => ?_⟩
  unfold World.frozen?
  rw [hh]
  rfl
/-- The two boxes that keep what Parse handed back. -/
def Bx (w : World) (X : Nat) (v0 v1 v2 v3 v4 e0 e1 e2 e3 : Value) : Prop := CC w X v0 v1 v2 v3 v4 ∧ E4 w (X + 1) e0 e1 e2 e3
theorem bx_new (w : World) (v0 v1 v2 v3 v4 e0 e1 e2 e3 : Value) : Bx ((w.alloc (.cells #[v0, v1, v2, v3, v4] 28)).alloc (.cells #[e0, e1, e2, e3] 43)) w.heap.size v0 v1 v2 v3 v4 e0 e1 e2 e3 := by
  have hz : (w.alloc (.cells #[v0, v1, v2, v3, v4] 28)).heap.size = w.heap.size + 1 := by simp
  have h2 := e4_new (w.alloc (.cells #[v0, v1, v2, v3, v4] 28)) e0 e1 e2 e3
  rw [hz] at h2
  exact ⟨(cc_new w v0 v1 v2 v3 v4).of_block ((below_alloc _ _).block _ (by rw [hz]; omega)), h2⟩
theorem Bx.below {w w1 : World} {X : Nat} {v0 v1 v2 v3 v4 e0 e1 e2 e3 : Value} (h : Bx w X v0 v1 v2 v3 v4 e0 e1 e2 e3) (hb : Below w.heap.size w w1) : Bx w1 X v0 v1 v2 v3 v4 e0 e1 e2 e3 :=
  ⟨h.1.of_block (hb.block _ h.1.lt), h.2.of_block (hb.block _ (World.block_lt_of_cell? w _ h.2.c0))⟩
theorem Bx.other {w w1 : World} {X g : Nat} {v0 v1 v2 v3 v4 e0 e1 e2 e3 : Value} (h : Bx w X v0 v1 v2 v3 v4 e0 e1 e2 e3) (hg : w.grownBy w1 (some g)) (hX : g < X) : Bx w1 X v0 v1 v2 v3 v4 e0 e1 e2 e3 :=
  ⟨h.1.of_block (hg.block _ h.1.lt (by simp; omega)), h.2.of_block (hg.block _ (World.block_lt_of_cell? w _ h.2.c0) (by simp; omega))⟩
theorem rd_parse (A : Option Addr) (n c : Nat) (o : Bool) (b : List Int) (w : World) (hb : NumsR w .u8 A b) (hy : Byt b) (hn : b.length = n) (hnc : n ≤ c) : Calls Try.prog 29 #[.slice A n c, .bool o] w (RdV b o w) := (parse_any A n c o b w hb hy hn hnc).mono fun _ _ h => rd_of h
theorem rd_ref (A : Option Addr) (n c : Nat) (o : Bool) (b : List Int) (w : World) (hb : NumsR w .u8 A b) (hy : Byt b) (hn : b.length = n) (hz : n ≤ 4194304) : Calls Try.prog 36 #[.slice A n c, .bool o] w (RdV b o w) := (rparse_any A n c o b w hb hy hn hz).mono fun _ _ h => rd_of h
end Go.Proofs.Ytkbboepopcebaaa
