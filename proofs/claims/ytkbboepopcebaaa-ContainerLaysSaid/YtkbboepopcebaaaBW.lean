/- Parse, of the bytes that Serialize writes, whole, cut, or with more behind: plain. -/
import Derived.Test.YtkbboepopcebaaaAC
import Derived.Test.YtkbboepopcebaaaO
namespace Go.Proofs.Ytkbboepopcebaaa
open Go.RowKit

theorem getD_app (l R : List Int) (j : Nat) : (l ++ R).getD (l.length + j) 0 = R.getD j 0 := by
  simp [List.getD_eq_getElem?_getD, List.getElem?_append_right]
theorem num_app (l R : List Int) (s j : Nat) : num (l ++ R) (l.length + j) s = num R j s := by
  induction s with
  | zero => rfl
  | succ s ih => rw [num, num, ih, Nat.add_assoc, getD_app]
theorem num_app' {l R : List Int} {a : Nat} (j : Nat) (h : a = l.length + j) (s : Nat) : num (l ++ R) a s = num R j s := by subst h; exact num_app l R s j
theorem num_at {l R : List Int} {a : Nat} (h : a = l.length) (s : Nat) : num (l ++ R) a s = num R 0 s := num_app' 0 h s
theorem num1 (v : Int) (R : List Int) (h0 : 0 ≤ v) (h1 : v < 256) : num (be v 1 ++ R) 0 1 = v := by simp [be, num]; omega
theorem num2 (v : Int) (R : List Int) (h0 : 0 ≤ v) (h1 : v < 65536) : num (be v 2 ++ R) 0 2 = v := by simp [be, num]; omega
theorem num4 (v : Int) (R : List Int) (h0 : 0 ≤ v) (h1 : v < 4294967296) : num (be v 4 ++ R) 0 4 = v := by simp [be, num]; omega
theorem num_take (B : List Int) (a s t : Nat) (h : a + s ≤ t) : num (B.take t) a s = num B a s := by
  induction s with
  | zero => rfl
  | succ s ih =>
    rw [num, num, ih (by omega)]
    have : (B.take t).getD (a + s) 0 = B.getD (a + s) 0 := by simp [List.getD_eq_getElem?_getD, List.getElem?_take, show a + s < t by omega]
    rw [this]
theorem readT {α : Type} {B : List Int} {t a s : Nat} {v : Int} {k : Int → Except Bad α} {r : Except Bad α} (ht : t ≤ B.length) (hv : num B a s = v) (hc : t < a + s → r = .error (50, (t : Int))) (h : a + s ≤ t → k v = r) : readB (B.take t) a s k = r := by
  have hl : (B.take t).length = t := by simp; omega
  by_cases g : t < a + s
  · rw [readB_cut (by omega), hl, hc g]
  · rw [readB_yes (by omega), num_take B a s t (by omega), hv]; exact h (by omega)
theorem needT {α : Type} {B : List Int} {t a : Nat} {v er : Int} {k r : Except Bad α} (ht : t ≤ B.length) (hv : num B a 1 = v) (hc : t < a + 1 → r = .error (50, (t : Int))) (h : a + 1 ≤ t → k = r) : needB (B.take t) a v er k = r := by
  have hl : (B.take t).length = t := by simp; omega
  by_cases g : t < a + 1
  · rw [needB_cut (by omega), hl, hc g]
  · rw [needB_yes (by omega) (by rw [num_take B a 1 t (by omega), hv])]; exact h (by omega)
theorem szs_take {B : List Int} {t s : Nat} (ht : t ≤ B.length) : ∀ (L : List Int) (a : Nat), a ≤ t → (∀ i, i < L.length → num B (a + s * i) s = L.getD i 0 ∧ 0 < L.getD i 0) →
    szs (B.take t) s L.length a = if t < a + s * L.length then .error (50, (t : Int)) else .ok L
  | [], a, ha, _ => by simp [szs]; omega
  | x :: r, a, ha, h => by
    have hl : (B.take t).length = t := by simp; omega
    have h0 := h 0 (by simp)
    simp only [Nat.mul_zero, Nat.add_zero, List.getD_cons_zero] at h0
    show szs (B.take t) s (r.length + 1) a = _
    rw [szs, hl]
    by_cases g : t < a + s
    · rw [if_pos g, if_pos (by simp only [List.length_cons, Nat.mul_add]; omega)]
    · have ih := szs_take ht r (a + s) (by omega) (fun i hi => by
        have := h (i + 1) (by simp; omega)
        rw [Nat.mul_add, Nat.mul_one, Nat.add_comm (s * i) s, ← Nat.add_assoc] at this
        simpa using this)
      rw [if_neg g, num_take B a s t (by omega), h0.1, if_neg (by omega), ih]
      have e : a + s + s * r.length = a + s * (x :: r).length := by simp only [List.length_cons, Nat.mul_add]; omega
      rw [e]
      by_cases g2 : t < a + s * (x :: r).length
      · rw [if_pos g2, if_pos g2]
      · rw [if_neg g2, if_neg g2]
theorem num_flat (s : Nat) (R : List Int) : ∀ (L : List Int), (∀ x ∈ L, ∀ R', num (be x s ++ R') 0 s = x) → ∀ i, i < L.length → num ((L.flatMap fun x => be x s) ++ R) (s * i) s = L.getD i 0
  | [], _, i, hi => by simp at hi
  | x :: r, h, i, hi => by
    rw [List.flatMap_cons, List.append_assoc]
    match i with
    | 0 => rw [Nat.mul_zero, h x (by simp)]; rfl
    | i + 1 =>
      rw [num_app' (s * i) (by rw [be_length, Nat.mul_add]; omega)]
      rw [num_flat s R r (fun y hy => h y (by simp [hy])) i (by simp at hi; omega)]
      rfl
theorem lens_sum (ll : List (List Int)) : (lens ll).sum = (sumL ll : Int) := by
  induction ll with
  | nil => rfl
  | cons a r ih =>
    have : lens (a :: r) = (a.length : Int) :: lens r := rfl
    rw [this, List.sum_cons, ih]
    simp [sumL]
theorem fitI {f : Bool} {v : Int} (h : fitsIn f v = true) : 0 ≤ v ∧ v ≤ 127 ∧ (f = true → v = 0) := by
  unfold fitsIn at h
  cases f <;> simp at h <;> simp <;> omega
theorem fitO {f : Bool} {v : Int} (h : fitsOut f v = true) : 0 ≤ v ∧ v ≤ 128 ∧ (f = true → v = 128) := by
  unfold fitsOut at h
  cases f <;> simp at h <;> simp <;> omega
theorem fitM {v : Int} (h : fitsMost v = true) : 0 ≤ v ∧ v ≤ 1023 := by
  unfold fitsMost at h
  simp at h; omega
theorem tysR_at (R : List Int) : ∀ (ts : List Ty) (f : Bool) (pre : List Int), tysOk f ts = true → tysR (pre ++ (ts.flatMap tyB ++ R)) ts.length f pre.length = .ok ts
  | [], _, _, _ => rfl
  | t :: r, f, pre, h => by
    rw [tysOk, Bool.and_eq_true] at h
    obtain ⟨h1, h2⟩ := h
    unfold tyOk at h1
    rw [Bool.and_eq_true, Bool.and_eq_true] at h1
    obtain ⟨g1, g2, g3⟩ := h1
    have f1 := fitI g1
    have f2 := fitO g2
    have f3 := fitM g3
    have e0 : pre ++ ((t :: r).flatMap tyB ++ R) = pre ++ (be t.i 1 ++ (be t.o 1 ++ (be t.m 2 ++ (r.flatMap tyB ++ R)))) := by simp [tyB]
    have e1 : num (pre ++ ((t :: r).flatMap tyB ++ R)) pre.length 1 = t.i := by rw [e0, num_at rfl, num1 _ _ (by omega) (by omega)]
    have e2 : num (pre ++ ((t :: r).flatMap tyB ++ R)) (pre.length + 1) 1 = t.o := by rw [e0, num_app' 1 (by rfl), num_at (by simp [be_length]), num1 _ _ (by omega) (by omega)]
    have e3 : num (pre ++ ((t :: r).flatMap tyB ++ R)) (pre.length + 2) 2 = t.m := by rw [e0, num_app' 2 (by rfl), num_app' 1 (by simp [be_length]), num_at (by simp [be_length]), num2 _ _ (by omega) (by omega)]
    have ih := tysR_at R r false (pre ++ tyB t) h2
    have e4 : pre ++ tyB t ++ (r.flatMap tyB ++ R) = pre ++ ((t :: r).flatMap tyB ++ R) := by simp
    rw [e4, List.length_append, tyB_length] at ih
    show tysR _ (r.length + 1) f pre.length = _
    rw [tysR, e1, e2, e3, if_neg (by simp [g1]), if_neg (by simp [g2]), if_neg (by simp [g3]), ih]
theorem cutL_at (R : List Int) : ∀ (ll : List (List Int)) (pre : List Int), cutL (pre ++ (ll.flatten ++ R)) (lens ll) pre.length = ll
  | [], _ => rfl
  | l :: r, pre => by
    have ih := cutL_at R r (pre ++ l)
    have e : pre ++ l ++ (r.flatten ++ R) = pre ++ ((l :: r).flatten ++ R) := by simp
    rw [e, List.length_append] at ih
    show (((pre ++ ((l :: r).flatten ++ R)).drop pre.length).take (l.length : Int).toNat) :: cutL _ (lens r) (pre.length + (l.length : Int).toNat) = _
    rw [Int.toNat_natCast, ih]
    simp
/-- What Parse says of the first t of these bytes, of which the data begin at H. -/
def rT (c : Cont) (o : Bool) (B : List Int) (t H : Nat) : Except Bad Cont :=
  if t < H ∨ (o = false ∧ (t : Int) < H + c.size) then .error (50, (t : Int)) else
  if (t : Int) ≤ H + c.size then .ok ⟨c.types, c.codes, c.subs, (B.take t).drop H, c.size⟩ else .error (58, H + c.size)
theorem rT_cut {c : Cont} {o : Bool} {B : List Int} {t H : Nat} (h : t < H) : rT c o B t H = .error (50, (t : Int)) := by rw [rT, if_pos (.inl h)]
theorem parseEnd_take {B : List Int} {H : Nat} (c : Cont) (hm : May c) (o : Bool) (pre more : List Int) (t : Nat) (hB : B = pre ++ (be c.size 2 ++ ([0] ++ (c.types.flatMap tyB ++ (c.codes.flatten ++ (c.subs.flatten ++ more)))))) (ht : t ≤ B.length)
    (hH : H = pre.length + 3 + 4 * c.codes.length + sumL c.codes + sumL c.subs) :
    parseEnd (B.take t) o (4 * (c.codes.length : Int)) (c.codes.length : Int) (lens c.codes) (lens c.subs) pre.length = rT c o B t H := by
  have hd := hm.data
  have hz := hm.size
  have hty := hm.types
  have hl : (B.take t).length = t := by simp; omega
  unfold parseEnd
  refine readT ht (v := c.size) (by rw [hB, num_at (by rfl), num2 _ _ (by omega) (by omega)]) (fun g => rT_cut (by omega)) fun g1 => ?_
  refine needT ht (by rw [hB, num_app' 2 (by rfl), num_at (by simp [be_length])]; rfl) (fun g => rT_cut (by omega)) fun g2 => ?_
  rw [hl, lens_sum, lens_sum]
  unfold rT
  by_cases g3 : t < H ∨ (o = false ∧ (t : Int) < H + c.size)
  · rw [if_pos g3, if_pos (by rcases g3 with g3 | ⟨g3, g4⟩; exact .inl (by omega); exact .inr ⟨g3, by omega⟩)]
  · rw [if_neg g3, if_neg (by intro g; apply g3; rcases g with g | ⟨g, g4⟩; exact .inl (by omega); exact .inr ⟨g, by omega⟩)]
    by_cases g4 : (t : Int) ≤ H + c.size
    · rw [if_pos g4, askB_yes (by simp; omega)]
      have hsp : B.take t = (pre ++ (be c.size 2 ++ [0])) ++ (c.types.flatMap tyB ++ (c.codes.flatten ++ (c.subs.flatten ++ more.take (t - H)))) := by
        have e : B = ((pre ++ (be c.size 2 ++ [0])) ++ (c.types.flatMap tyB ++ (c.codes.flatten ++ c.subs.flatten))) ++ more := by rw [hB]; simp
        have el : ((pre ++ (be c.size 2 ++ [0])) ++ (c.types.flatMap tyB ++ (c.codes.flatten ++ c.subs.flatten))).length = H := by
          simp only [List.length_append, be_length, tysB_length, List.length_singleton]
          rw [hH]; unfold sumL; omega
        rw [e, List.take_append, List.take_of_length_le (by omega), el]
        simp
      have l1 : (pre ++ (be c.size 2 ++ [0])).length = pre.length + 3 := by simp [be_length]
      have t1 := tysR_at (c.codes.flatten ++ (c.subs.flatten ++ more.take (t - H))) c.types true (pre ++ (be c.size 2 ++ [0])) hm.tys
      rw [← hsp, l1, hty] at t1
      have t2 := cutL_at (c.subs.flatten ++ more.take (t - H)) c.codes ((pre ++ (be c.size 2 ++ [0])) ++ c.types.flatMap tyB)
      rw [show (pre ++ (be c.size 2 ++ [0])) ++ c.types.flatMap tyB ++ (c.codes.flatten ++ (c.subs.flatten ++ more.take (t - H))) = B.take t by rw [hsp]; simp, List.length_append, l1, tysB_length, hty] at t2
      have t3 := cutL_at (more.take (t - H)) c.subs ((pre ++ (be c.size 2 ++ [0])) ++ c.types.flatMap tyB ++ c.codes.flatten)
      rw [show (pre ++ (be c.size 2 ++ [0])) ++ c.types.flatMap tyB ++ c.codes.flatten ++ (c.subs.flatten ++ more.take (t - H)) = B.take t by rw [hsp]; simp, List.length_append, List.length_append, l1, tysB_length, hty] at t3
      simp only [Int.toNat_natCast]
      rw [t1, show pre.length + 3 + 4 * c.codes.length = pre.length + 3 + c.codes.length * 4 by omega, t2]
      rw [show c.codes.flatten.length = sumL c.codes from rfl] at t3
      rw [t3]
      simp only [takeB]
      rw [show pre.length + 3 + c.codes.length * 4 + sumL c.codes + sumL c.subs = H by omega]
    · rw [if_neg g4, askB_no (by simp; omega)]
      simp only [Except.error.injEq, Prod.mk.injEq, true_and]
      omega
set_option maxHeartbeats 1000000 in
theorem parse_take (c : Cont) (hm : May c) (o : Bool) (B more : List Int) (hB : B = headB (lens c.codes) (lens c.subs) c.size ++ (c.types.flatMap tyB ++ (c.codes.flatten ++ (c.subs.flatten ++ more)))) (t : Nat) (ht : t ≤ B.length) (H : Nat)
    (hH : H = (headB (lens c.codes) (lens c.subs) c.size).length + 4 * c.codes.length + sumL c.codes + sumL c.subs) : parse (B.take t) o = rT c o B t H := by
  have hd := hm.data
  have hz := hm.size
  have hn1 := hm.codes1
  have hn2 := hm.codes2
  have hn3 := hm.subs
  have hl : (B.take t).length = t := by simp; omega
  rw [headB_length, lens_length, lens_length] at hH
  obtain ⟨n, hn⟩ : ∃ n, n = c.codes.length := ⟨_, rfl⟩
  obtain ⟨m, hmm⟩ : ∃ m, m = c.subs.length := ⟨_, rfl⟩
  obtain ⟨S, hS⟩ : ∃ S, S = c.types.flatMap tyB ++ (c.codes.flatten ++ (c.subs.flatten ++ more)) := ⟨_, rfl⟩
  obtain ⟨K, hK⟩ : ∃ K, K = part3 (lens c.subs) ++ ([255] ++ (be c.size 2 ++ ([0] ++ S))) := ⟨_, rfl⟩
  have hB2 : B = [239] ++ ([0] ++ ([1] ++ ([1] ++ (be (4 * (n : Int)) 2 ++ ([2] ++ (be n 2 ++ (((lens c.codes).flatMap fun x => be x 2) ++ K))))))) := by
    rw [hB, hK, hS, headB, lens_length, hn]; simp
  have cut : ∀ {a : Nat}, a ≤ H → t < a → rT c o B t H = .error (50, (t : Int)) := fun h1 h2 => rT_cut (by omega)
  have hlen : ∀ l ∈ c.codes, 0 < l.length ∧ l.length ≤ 65535 := hm.code
  have hsub : ∀ l ∈ c.subs, 0 < l.length ∧ l.length ≤ 4294967295 := hm.sub
  rw [← hn, ← hmm] at hH
  rw [← hn] at hn1 hn2
  rw [← hmm] at hn3
  have hH1 : 13 + 2 * n ≤ H := by omega
  unfold parse
  refine needT ht (by rw [hB2]; rfl) (cut (by omega)) fun g0 => ?_
  refine needT ht (by rw [hB2]; rfl) (cut (by omega)) fun g1 => ?_
  refine needT ht (by rw [hB2]; rfl) (cut (by omega)) fun g2 => ?_
  refine needT ht (by rw [hB2]; rfl) (cut (by omega)) fun g3 => ?_
  refine readT ht (v := 4 * (n : Int)) (by rw [hB2, num_app' 3 (by rfl), num_app' 2 (by rfl), num_app' 1 (by rfl), num_at (by rfl), num2 _ _ (by omega) (by omega)]) (cut (by omega)) fun g4 => ?_
  rw [askB_yes (by simp; omega)]
  refine needT ht (by rw [hB2, num_app' 5 (by rfl), num_app' 4 (by rfl), num_app' 3 (by rfl), num_app' 2 (by rfl), num_at (by rfl)]; rfl) (cut (by omega)) fun g5 => ?_
  refine readT ht (v := (n : Int)) (by rw [hB2, num_app' 6 (by rfl), num_app' 5 (by rfl), num_app' 4 (by rfl), num_app' 3 (by rfl), num_app' 1 (by rfl), num_at (by rfl), num2 _ _ (by omega) (by omega)]) (cut (by omega)) fun g6 => ?_
  rw [askB_yes (by simp)]
  have hz1 : szs (B.take t) 2 (n : Int).toNat 9 = if t < 9 + 2 * n then .error (50, (t : Int)) else .ok (lens c.codes) := by
    have := szs_take (s := 2) ht (lens c.codes) 9 (by omega) (fun i hi => by
      rw [lens_length] at hi
      refine ⟨?_, ?_⟩
      · rw [hB2, num_app' (8 + 2 * i) (by simp; omega), num_app' (7 + 2 * i) (by simp; omega), num_app' (6 + 2 * i) (by simp; omega), num_app' (5 + 2 * i) (by simp; omega), num_app' (3 + 2 * i) (by rw [be_length]; omega), num_app' (2 + 2 * i) (by simp; omega), num_app' (2 * i) (by rw [be_length])]
        refine num_flat 2 K (lens c.codes) (fun x hx R' => ?_) i (by rw [lens_length]; exact hi)
        obtain ⟨l, hl, rfl⟩ := List.mem_map.1 hx
        exact num2 _ _ (by omega) (by have := hlen l hl; omega)
      · rw [lens_get _ _ hi, show c.codes.getD i [] = c.codes[i] by simp [List.getD_eq_getElem?_getD, hi]]
        have := hlen _ (List.getElem_mem hi); omega)
    rw [lens_length, ← hn] at this
    exact this
  rw [hz1]
  by_cases gz : t < 9 + 2 * n
  · rw [if_pos gz, cut (by omega) gz]; rfl
  rw [if_neg gz]
  simp only [takeB, Int.toNat_natCast]
  have hcl : (((lens c.codes).flatMap fun x => be x 2)).length = 2 * n := by rw [show (((lens c.codes).flatMap fun x => be x 2)).length = 2 * (lens c.codes).length from ?_, lens_length, hn]; generalize lens c.codes = L; induction L with | nil => rfl | cons x r ih => simp only [List.flatMap_cons, List.length_append, be_length, ih, List.length_cons]; omega
  have hK9 : ∀ j s, num B (9 + 2 * n + j) s = num K j s := fun j s => by
    rw [hB2, num_app' (8 + 2 * n + j) (by simp; omega), num_app' (7 + 2 * n + j) (by simp; omega), num_app' (6 + 2 * n + j) (by simp; omega), num_app' (5 + 2 * n + j) (by simp; omega), num_app' (3 + 2 * n + j) (by rw [be_length]; omega), num_app' (2 + 2 * n + j) (by simp; omega), num_app' (2 * n + j) (by rw [be_length]; omega), num_app' j (by rw [hcl])]
  have hpre : ([239] ++ ([0] ++ ([1] ++ ([1] ++ (be (4 * (n : Int)) 2 ++ ([2] ++ (be n 2 ++ ((lens c.codes).flatMap fun x => be x 2)))))))).length = 9 + 2 * n := by
    simp only [List.length_append, hcl, be_length, List.length_cons, List.length_nil]; omega
  by_cases gm : m = 0
  · have hp3 : part3 (lens c.subs) = [] := by rw [part3, if_pos (by rw [lens_length]; omega)]
    rw [hp3] at hK
    rw [if_pos gm] at hH
    have hs0 : c.subs = [] := List.eq_nil_of_length_eq_zero (by omega)
    refine readT ht (v := 255) (by rw [show 9 + 2 * n = 9 + 2 * n + 0 from rfl, hK9, hK]; rfl) (cut (by omega)) fun g7 => ?_
    rw [askB_yes (by simp), if_neg (by decide)]
    have := parseEnd_take (H := H) c hm o ([239] ++ ([0] ++ ([1] ++ ([1] ++ (be (4 * (n : Int)) 2 ++ ([2] ++ (be n 2 ++ (((lens c.codes).flatMap fun x => be x 2) ++ [255])))))))) more t (B := B) (by rw [hB2, hK, hS]; simp) ht (by
      simp only [List.length_append, hcl, be_length, List.length_cons, List.length_nil]; omega)
    rw [show ([239] ++ ([0] ++ ([1] ++ ([1] ++ (be (4 * (n : Int)) 2 ++ ([2] ++ (be n 2 ++ (((lens c.codes).flatMap fun x => be x 2) ++ [255]))))))) : List Int).length = 10 + 2 * n by simp only [List.length_append, hcl, be_length, List.length_cons, List.length_nil]; omega, ← hn] at this
    rw [hs0] at this
    exact this
  · have hp3 : part3 (lens c.subs) = [3] ++ (be m 2 ++ ((lens c.subs).flatMap fun x => be x 4)) := by rw [part3, if_neg (by rw [lens_length]; omega), lens_length, hmm]; simp
    have hsl : (((lens c.subs).flatMap fun x => be x 4)).length = 4 * m := by rw [show (((lens c.subs).flatMap fun x => be x 4)).length = 4 * (lens c.subs).length from ?_, lens_length, hmm]; generalize lens c.subs = L; induction L with | nil => rfl | cons x r ih => simp only [List.flatMap_cons, List.length_append, be_length, ih, List.length_cons]; omega
    have hK3 : K = [3] ++ (be m 2 ++ (((lens c.subs).flatMap fun x => be x 4) ++ ([255] ++ (be c.size 2 ++ ([0] ++ S))))) := by rw [hK, hp3]; simp
    rw [if_neg gm] at hH
    refine readT ht (v := 3) (by rw [show 9 + 2 * n = 9 + 2 * n + 0 from rfl, hK9, hK3]; rfl) (cut (by omega)) fun g7 => ?_
    rw [askB_yes (by simp), if_pos rfl]
    refine readT ht (v := (m : Int)) (by rw [show 10 + 2 * n = 9 + 2 * n + 1 by omega, hK9, hK3, num_at (by rfl), num2 _ _ (by omega) (by omega)]) (cut (by omega)) fun g8 => ?_
    rw [askB_yes (by simp; omega)]
    have hz2 : szs (B.take t) 4 (m : Int).toNat (12 + 2 * n) = if t < 12 + 2 * n + 4 * m then .error (50, (t : Int)) else .ok (lens c.subs) := by
      have := szs_take (s := 4) ht (lens c.subs) (12 + 2 * n) (by omega) (fun i hi => by
        rw [lens_length] at hi
        refine ⟨?_, ?_⟩
        · rw [show 12 + 2 * n + 4 * i = 9 + 2 * n + (3 + 4 * i) by omega, hK9, hK3, num_app' (2 + 4 * i) (by simp; omega), num_app' (4 * i) (by rw [be_length])]
          refine num_flat 4 _ (lens c.subs) (fun x hx R' => ?_) i (by rw [lens_length]; exact hi)
          obtain ⟨l, hl, rfl⟩ := List.mem_map.1 hx
          exact num4 _ _ (by omega) (by have := hsub l hl; omega)
        · rw [lens_get _ _ hi, show c.subs.getD i [] = c.subs[i] by simp [List.getD_eq_getElem?_getD, hi]]
          have := hsub _ (List.getElem_mem hi); omega)
      rw [lens_length, ← hmm] at this
      exact this
    rw [hz2]
    by_cases gy : t < 12 + 2 * n + 4 * m
    · rw [if_pos gy, cut (by omega) gy]
    rw [if_neg gy]
    simp only [Int.toNat_natCast]
    refine needT ht (by rw [show 12 + 2 * n + 4 * m = 9 + 2 * n + (3 + 4 * m) by omega, hK9, hK3, num_app' (2 + 4 * m) (by simp; omega), num_app' (4 * m) (by rw [be_length]), num_at (by rw [hsl])]; rfl) (cut (by omega)) fun g9 => ?_
    have := parseEnd_take (H := H) c hm o ([239] ++ ([0] ++ ([1] ++ ([1] ++ (be (4 * (n : Int)) 2 ++ ([2] ++ (be n 2 ++ (((lens c.codes).flatMap fun x => be x 2) ++ ([3] ++ (be m 2 ++ (((lens c.subs).flatMap fun x => be x 4) ++ [255]))))))))))) more t (B := B) (by rw [hB2, hK3, hS]; simp) ht (by
      simp only [List.length_append, hcl, hsl, be_length, List.length_cons, List.length_nil]; omega)
    rw [show ([239] ++ ([0] ++ ([1] ++ ([1] ++ (be (4 * (n : Int)) 2 ++ ([2] ++ (be n 2 ++ (((lens c.codes).flatMap fun x => be x 2) ++ ([3] ++ (be m 2 ++ (((lens c.subs).flatMap fun x => be x 4) ++ [255])))))))))) : List Int).length = 13 + 2 * n + 4 * m by simp only [List.length_append, hcl, hsl, be_length, List.length_cons, List.length_nil]; omega, ← hn] at this
    exact this
end Go.Proofs.Ytkbboepopcebaaa
