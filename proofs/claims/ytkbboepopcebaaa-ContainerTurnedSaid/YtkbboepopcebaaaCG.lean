/- One byte of a container's bytes turned: Parse takes it no more. Plain. -/
import Derived.Test.YtkbboepopcebaaaCD
import Derived.Laws.BitsAllLaws
namespace Go.Proofs.Ytkbboepopcebaaa
open Go.RowKit

theorem num_one (b : List Int) (a : Nat) : num b a 1 = b.getD a 0 := by simp [num]
theorem num_set (b : List Int) (p : Nat) (v : Int) (a : Nat) : ∀ s, (p < a ∨ a + s ≤ p) → num (b.set p v) a s = num b a s
  | 0, _ => rfl
  | s + 1, h => by
    rw [num, num, num_set b p v a s (by omega)]
    have : (b.set p v).getD (a + s) 0 = b.getD (a + s) 0 := by simp [List.getD_eq_getElem?_getD, List.getElem?_set, show ¬ p = a + s by omega]
    rw [this]
theorem num_set1 (b : List Int) (p : Nat) (v : Int) (h : p < b.length) : num (b.set p v) p 1 = v := by
  rw [num_one]; simp [List.getD_eq_getElem?_getD, h]
structure SerAt (c : Cont) (b : List Int) (n m : Nat) : Prop where
  b0 : num b 0 1 = 239
  b1 : num b 1 1 = 0
  b2 : num b 2 1 = 1
  b3 : num b 3 1 = 1
  b6 : num b 6 1 = 2
  n7 : num b 7 2 = n
  codes : ∀ i, i < n → num b (9 + 2 * i) 2 = ((c.codes.getD i []).length : Int)
  kind0 : m = 0 → num b (9 + 2 * n) 1 = 255 ∧ num b (10 + 2 * n) 2 = c.size ∧ num b (12 + 2 * n) 1 = 0 ∧ 32768 ≤ num b (12 + 2 * n) 4
  kind1 : 0 < m → num b (9 + 2 * n) 1 = 3 ∧ num b (10 + 2 * n) 2 = m ∧ num b (12 + 2 * n + 4 * m) 1 = 255 ∧ num b (15 + 2 * n + 4 * m) 1 = 0 ∧ num b (12 + 2 * n) 4 = ((c.subs.getD 0 []).length : Int)
set_option maxHeartbeats 1000000 in
theorem ser_at {c : Cont} (hm : May c) : SerAt c (serB c) c.codes.length c.subs.length := by
  have hd := hm.data
  have hz := hm.size
  have hn1 := hm.codes1
  have hn2 := hm.codes2
  have hn3 := hm.subs
  have hlen : ∀ l ∈ c.codes, 0 < l.length ∧ l.length ≤ 65535 := hm.code
  have hsub : ∀ l ∈ c.subs, 0 < l.length ∧ l.length ≤ 4294967295 := hm.sub
  have hB := ser_shape c []
  rw [List.append_nil] at hB
  obtain ⟨B, hBB⟩ : ∃ B, B = serB c := ⟨_, rfl⟩
  rw [← hBB] at hB ⊢
  clear hBB
  obtain ⟨n, hn⟩ : ∃ n, n = c.codes.length := ⟨_, rfl⟩
  obtain ⟨m, hmm⟩ : ∃ m, m = c.subs.length := ⟨_, rfl⟩
  obtain ⟨S, hS⟩ : ∃ S, S = c.types.flatMap tyB ++ (c.codes.flatten ++ (c.subs.flatten ++ (c.data ++ []))) := ⟨_, rfl⟩
  obtain ⟨K, hK⟩ : ∃ K, K = part3 (lens c.subs) ++ ([255] ++ (be c.size 2 ++ ([0] ++ S))) := ⟨_, rfl⟩
  have hB2 : B = [239] ++ ([0] ++ ([1] ++ ([1] ++ (be (4 * (n : Int)) 2 ++ ([2] ++ (be n 2 ++ (((lens c.codes).flatMap fun x => be x 2) ++ K))))))) := by
    rw [hB, hK, hS, headB, lens_length, hn]; simp
  rw [← hn, ← hmm]
  rw [← hn] at hn1 hn2
  rw [← hmm] at hn3
  have hcl : (((lens c.codes).flatMap fun x => be x 2)).length = 2 * n := by rw [show (((lens c.codes).flatMap fun x => be x 2)).length = 2 * (lens c.codes).length from ?_, lens_length, hn]; generalize lens c.codes = L; induction L with | nil => rfl | cons x r ih => simp only [List.flatMap_cons, List.length_append, be_length, ih, List.length_cons]; omega
  have hK9 : ∀ j s, num B (9 + 2 * n + j) s = num K j s := fun j s => by
    rw [hB2, num_app' (8 + 2 * n + j) (by simp; omega), num_app' (7 + 2 * n + j) (by simp; omega), num_app' (6 + 2 * n + j) (by simp; omega), num_app' (5 + 2 * n + j) (by simp; omega), num_app' (3 + 2 * n + j) (by rw [be_length]; omega), num_app' (2 + 2 * n + j) (by simp; omega), num_app' (2 * n + j) (by rw [be_length]; omega), num_app' j (by rw [hcl])]
  refine ⟨by rw [hB2]; rfl, by rw [hB2]; rfl, by rw [hB2]; rfl, by rw [hB2]; rfl, ?_, ?_, fun i hi => ?_, fun gm => ?_, fun gm => ?_⟩
  · rw [hB2, num_app' 5 (by rfl), num_app' 4 (by rfl), num_app' 3 (by rfl), num_app' 2 (by rfl), num_at (by rfl)]; rfl
  · rw [hB2, num_app' 6 (by rfl), num_app' 5 (by rfl), num_app' 4 (by rfl), num_app' 3 (by rfl), num_app' 1 (by rfl), num_at (by rfl), num2 _ _ (by omega) (by omega)]
  · rw [hB2, num_app' (8 + 2 * i) (by simp; omega), num_app' (7 + 2 * i) (by simp; omega), num_app' (6 + 2 * i) (by simp; omega), num_app' (5 + 2 * i) (by simp; omega), num_app' (3 + 2 * i) (by rw [be_length]; omega), num_app' (2 + 2 * i) (by simp; omega), num_app' (2 * i) (by rw [be_length]), ← lens_get _ _ (by rw [← hn]; exact hi)]
    refine num_flat 2 K (lens c.codes) (fun x hx R' => ?_) i (by rw [lens_length, ← hn]; exact hi)
    obtain ⟨l, hl, rfl⟩ := List.mem_map.1 hx
    exact num2 _ _ (by omega) (by have := hlen l hl; omega)
  · have hp3 : part3 (lens c.subs) = [] := by rw [part3, if_pos (by rw [lens_length]; omega)]
    rw [hp3, List.nil_append] at hK
    have f1 := hm.types
    obtain ⟨t1, t2⟩ := tysOk_first hm.tys (by omega)
    match hts : c.types, f1 with
    | [], f1 => simp at f1; omega
    | t :: r, f1 =>
      rw [hts] at t1 t2
      simp only [List.getD_cons_zero] at t1 t2
      have hty := may_ty hm 0 (by rw [hts]; simp)
      rw [hts] at hty
      simp only [List.getD_cons_zero] at hty
      obtain ⟨R, hR⟩ : ∃ R, S = be t.i 1 ++ (be t.o 1 ++ (be t.m 2 ++ R)) := ⟨r.flatMap tyB ++ (c.codes.flatten ++ (c.subs.flatten ++ (c.data ++ []))), by rw [hS, hts]; simp [tyB]⟩
      rw [hR, t1, t2] at hK
      refine ⟨by rw [show 9 + 2 * n = 9 + 2 * n + 0 from rfl, hK9, hK]; rfl, by rw [show 10 + 2 * n = 9 + 2 * n + 1 by omega, hK9, hK, num_at (by rfl), num2 _ _ (by omega) (by omega)], by rw [show 12 + 2 * n = 9 + 2 * n + 3 by omega, hK9, hK, num_app' 2 (by rfl), num_at (by rfl)]; rfl, ?_⟩
      rw [show 12 + 2 * n = 9 + 2 * n + 3 by omega, hK9, hK, num_app' 2 (by rfl), num_at (by rfl)]
      unfold InR at hty
      simp [be, num]
      omega
  · have hp3 : part3 (lens c.subs) = [3] ++ (be m 2 ++ ((lens c.subs).flatMap fun x => be x 4)) := by rw [part3, if_neg (by rw [lens_length]; omega), lens_length, hmm]; simp
    have hsl : (((lens c.subs).flatMap fun x => be x 4)).length = 4 * m := by rw [show (((lens c.subs).flatMap fun x => be x 4)).length = 4 * (lens c.subs).length from ?_, lens_length, hmm]; generalize lens c.subs = L; induction L with | nil => rfl | cons x r ih => simp only [List.flatMap_cons, List.length_append, be_length, ih, List.length_cons]; omega
    have hK3 : K = [3] ++ (be m 2 ++ (((lens c.subs).flatMap fun x => be x 4) ++ ([255] ++ (be c.size 2 ++ ([0] ++ S))))) := by rw [hK, hp3]; simp
    refine ⟨by rw [show 9 + 2 * n = 9 + 2 * n + 0 from rfl, hK9, hK3]; rfl, by rw [show 10 + 2 * n = 9 + 2 * n + 1 by omega, hK9, hK3, num_at (by rfl), num2 _ _ (by omega) (by omega)],
      by rw [show 12 + 2 * n + 4 * m = 9 + 2 * n + (3 + 4 * m) by omega, hK9, hK3, num_app' (2 + 4 * m) (by simp; omega), num_app' (4 * m) (by rw [be_length]), num_at (by rw [hsl])]; rfl,
      by rw [show 15 + 2 * n + 4 * m = 9 + 2 * n + (6 + 4 * m) by omega, hK9, hK3, num_app' (5 + 4 * m) (by simp; omega), num_app' (3 + 4 * m) (by rw [be_length]; omega), num_app' 3 (by rw [hsl]; omega), num_app' 2 (by rfl), num_at (by rfl)]; rfl, ?_⟩
    rw [show 12 + 2 * n = 9 + 2 * n + 3 by omega, hK9, hK3, num_app' 2 (by rfl), num_at (by rfl), ← lens_get _ _ (by rw [← hmm]; exact gm)]
    have := num_flat 4 ([255] ++ (be c.size 2 ++ ([0] ++ S))) (lens c.subs) (fun x hx R' => by
      obtain ⟨l, hl, rfl⟩ := List.mem_map.1 hx
      exact num4 _ _ (by omega) (by have := hsub l hl; omega)) 0 (by rw [lens_length, ← hmm]; exact gm)
    exact this
theorem sumL_ge (ll : List (List Int)) (h : ∀ l ∈ ll, 0 < l.length) : ll.length ≤ sumL ll := by
  induction ll with
  | nil => simp [sumL]
  | cons a r ih =>
    have h1 := ih fun l hl => h l (by simp [hl])
    have h2 := h a (by simp)
    simp only [sumL, List.flatten_cons, List.length_append, List.length_cons] at *
    omega
theorem sumL_first (ll : List (List Int)) : (ll.getD 0 []).length ≤ sumL ll := by
  cases ll with
  | nil => simp
  | cons a r => simp [sumL]
/-- The places of ContainerTurned. -/
def Place (n m p : Nat) : Prop := p = 0 ∨ p = 1 ∨ p = 2 ∨ p = 3 ∨ p = 6 ∨ (m = 0 ∧ (p = 9 + 2 * n ∨ p = 12 + 2 * n)) ∨ (0 < m ∧ (p = 9 + 2 * n ∨ p = 12 + 2 * n + 4 * m ∨ p = 15 + 2 * n + 4 * m))
theorem place_lt {c : Cont} (hm : May c) {p : Nat} (h : Place c.codes.length c.subs.length p) : p < (serB c).length := by
  have h20 := ser_20 hm
  have h1 := hm.codes1
  have h2 := sumL_ge c.codes fun l hl => (hm.code l hl).1
  have h3 := sumL_ge c.subs fun l hl => (hm.sub l hl).1
  rw [serB_length c hm.types] at h20 ⊢
  unfold Place at h
  split at h20 <;> rename_i g
  · rw [if_pos g]; omega
  · rw [if_neg g]; omega
theorem turned_no {c c' : Cont} (hm : May c) (hm' : May c') {p : Nat} {v : Int} (hp : Place c.codes.length c.subs.length p) (hv : v ≠ num (serB c) p 1) (he : serB c' = (serB c).set p v) : False := by
  have hlt := place_lt hm hp
  have a := ser_at hm
  have a' := ser_at hm'
  rw [he] at a'
  have hl := congrArg List.length he
  rw [List.length_set, serB_length c hm.types, serB_length c' hm'.types] at hl
  have hd := hm.data
  have hd' := hm'.data
  have hz := hm.size
  have hat := num_set1 (serB c) p v hlt
  have c1 := hm.codes1
  have h3 := sumL_ge c.subs fun l hl => (hm.sub l hl).1
  have h4 := sumL_first c'.subs
  have hs2 := hm'.subs
  have s0 : c.subs.length = 0 → sumL c.subs = 0 := fun h => by rw [List.eq_nil_of_length_eq_zero h]; rfl
  have s0' : c'.subs.length = 0 → sumL c'.subs = 0 := fun h => by rw [List.eq_nil_of_length_eq_zero h]; rfl
  obtain ⟨n, hn⟩ : ∃ n, n = c.codes.length := ⟨_, rfl⟩
  obtain ⟨m, hmm⟩ : ∃ m, m = c.subs.length := ⟨_, rfl⟩
  obtain ⟨n', hn'⟩ : ∃ n', n' = c'.codes.length := ⟨_, rfl⟩
  obtain ⟨m', hm2⟩ : ∃ m', m' = c'.subs.length := ⟨_, rfl⟩
  rw [← hn, ← hmm] at a hp
  rw [← hn', ← hm2] at a'
  rw [← hn, ← hmm, ← hn', ← hm2] at hl
  rw [← hm2] at hs2 s0'
  rw [← hmm] at s0
  rw [← hmm] at h3
  unfold Place at hp
  -- as many sections
  have e7 := a'.n7
  rw [num_set _ _ _ _ _ (by omega), a.n7] at e7
  have enn : n' = n := by omega
  subst enn
  have hcs : sumL c'.codes = sumL c.codes := by
    have : lens c'.codes = lens c.codes := by
      apply List.ext_getElem
      · rw [lens_length, lens_length, ← hn, ← hn']
      · intro i h1 h2
        rw [lens_length] at h1 h2
        have e1 := a'.codes i (by omega)
        rw [num_set _ _ _ _ _ (by omega), a.codes i (by omega)] at e1
        simp only [lens, List.getElem_map]
        rw [show c'.codes.getD i [] = c'.codes[i] by simp [List.getD_eq_getElem?_getD, h1], show c.codes.getD i [] = c.codes[i] by simp [List.getD_eq_getElem?_getD, h2]] at e1
        exact e1.symm
    have h5 := lens_sum c'.codes
    rw [this, lens_sum] at h5
    omega
  rcases hp with rfl | rfl | rfl | rfl | rfl | ⟨g, rfl | rfl⟩ | ⟨g, rfl | rfl | rfl⟩
  · have := a'.b0; rw [hat] at this; exact hv (by rw [this, a.b0])
  · have := a'.b1; rw [hat] at this; exact hv (by rw [this, a.b1])
  · have := a'.b2; rw [hat] at this; exact hv (by rw [this, a.b2])
  · have := a'.b3; rw [hat] at this; exact hv (by rw [this, a.b3])
  · have := a'.b6; rw [hat] at this; exact hv (by rw [this, a.b6])
  · obtain ⟨k1, k2, k3, k4⟩ := a.kind0 g
    by_cases g' : m' = 0
    · have := (a'.kind0 g').1; rw [hat] at this; exact hv (by rw [this, k1])
    · obtain ⟨j1, j2, j3, j4, j5⟩ := a'.kind1 (by omega)
      rw [num_set _ _ _ _ _ (by omega), k2] at j2
      rw [num_set _ _ _ _ _ (by omega)] at j5
      rw [if_pos g, if_neg g'] at hl
      have := s0 g
      omega
  · obtain ⟨k1, k2, k3, k4⟩ := a.kind0 g
    by_cases g' : m' = 0
    · have := (a'.kind0 g').2.2.1; rw [hat] at this; exact hv (by rw [this, k3])
    · obtain ⟨j1, j2, j3, j4, j5⟩ := a'.kind1 (by omega)
      rw [num_set _ _ _ _ _ (by omega), k1] at j1
      omega
  · obtain ⟨k1, k2, k3, k4, k5⟩ := a.kind1 g
    by_cases g' : m' = 0
    · obtain ⟨j1, j2, j3, j4⟩ := a'.kind0 g'
      rw [num_set _ _ _ _ _ (by omega), k2] at j2
      rw [if_pos g', if_neg (by omega)] at hl
      have := s0' g'
      omega
    · have := (a'.kind1 (by omega)).1; rw [hat] at this; exact hv (by rw [this, k1])
  · obtain ⟨k1, k2, k3, k4, k5⟩ := a.kind1 g
    by_cases g' : m' = 0
    · obtain ⟨j1, j2, j3, j4⟩ := a'.kind0 g'
      rw [num_set _ _ _ _ _ (by omega), k1] at j1
      omega
    · obtain ⟨j1, j2, j3, j4, j5⟩ := a'.kind1 (by omega)
      rw [num_set _ _ _ _ _ (by omega), k2] at j2
      have em : m' = m := by omega
      subst em
      rw [hat] at j3
      exact hv (by rw [j3, k3])
  · obtain ⟨k1, k2, k3, k4, k5⟩ := a.kind1 g
    by_cases g' : m' = 0
    · obtain ⟨j1, j2, j3, j4⟩ := a'.kind0 g'
      rw [num_set _ _ _ _ _ (by omega), k1] at j1
      omega
    · obtain ⟨j1, j2, j3, j4, j5⟩ := a'.kind1 (by omega)
      rw [num_set _ _ _ _ _ (by omega), k2] at j2
      have em : m' = m := by omega
      subst em
      rw [hat] at j4
      exact hv (by rw [j4, k4])
theorem byt_put {b : List Int} {q : Nat} {v : Int} (h : Byt b) (hv : 0 ≤ v ∧ v ≤ 255) : Byt (b.set q v) := by
  intro x hx
  rcases List.mem_or_eq_of_mem_set hx with h1 | rfl
  · exact h x h1
  · exact hv
theorem turned_bad {c : Cont} (hm : May c) (hok : ContOk c) {p : Nat} {v : Int} (hp : Place c.codes.length c.subs.length p) (hv : v ≠ num (serB c) p 1) (hb : 0 ≤ v ∧ v ≤ 255) (o : Bool) : ∃ x, parse ((serB c).set p v) o = .error x ∧ x.1 ≠ 0 := by
  have hy := byt_put (q := p) (byt_ser hok) hb
  cases h : parse ((serB c).set p v) o with
  | ok c' =>
    obtain ⟨h1, h2⟩ := parse_inv hy h
    exact absurd (turned_no hm h1 hp hv h2) id
  | error x => exact ⟨x, rfl, (parse_far hy o x h).1⟩
theorem xor_turn (x y : Int) (h0 : 0 ≤ x ∧ x ≤ 255) (h1 : 0 < y ∧ y ≤ 255) : bits .xor .u8 x y ≠ x ∧ 0 ≤ bits .xor .u8 x y ∧ bits .xor .u8 x y ≤ 255 := by
  rw [u8_xor x y h0.1 (by omega) (by omega) (by omega)]
  have hlt : x.toNat ^^^ y.toNat < 2 ^ 8 := Nat.xor_lt_two_pow (by omega) (by omega)
  refine ⟨fun e => ?_, by omega, by omega⟩
  have e2 : x.toNat ^^^ y.toNat = x.toNat := by omega
  have e3 : x.toNat ^^^ (x.toNat ^^^ y.toNat) = y.toNat := by rw [← Nat.xor_assoc, Nat.xor_self, Nat.zero_xor]
  rw [e2, Nat.xor_self] at e3
  omega
end Go.Proofs.Ytkbboepopcebaaa
