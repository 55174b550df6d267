/- What Parse takes, Serialize writes; where a refusal lies: plain. -/
import Derived.Test.YtkbboepopcebaaaBW
namespace Go.Proofs.Ytkbboepopcebaaa
open Go.RowKit

theorem drop_be1 {b : List Int} (hy : Byt b) (a : Nat) (h : a + 1 ≤ b.length) : b.drop a = be (num b a 1) 1 ++ b.drop (a + 1) := by
  have h0 := byt_get hy a
  rw [drop_get b a 0 (by omega)]
  simp only [List.getD_eq_getElem?_getD] at h0
  simp [be, num]
  omega
theorem drop_be2 {b : List Int} (hy : Byt b) (a : Nat) (h : a + 2 ≤ b.length) : b.drop a = be (num b a 2) 2 ++ b.drop (a + 2) := by
  have h0 := byt_get hy a
  have h1 := byt_get hy (a + 1)
  rw [drop_get b a 0 (by omega), drop_get b (a + 1) 0 (by omega)]
  simp only [List.getD_eq_getElem?_getD] at h0 h1
  simp [be, num]
  omega
theorem drop_be4 {b : List Int} (hy : Byt b) (a : Nat) (h : a + 4 ≤ b.length) : b.drop a = be (num b a 4) 4 ++ b.drop (a + 4) := by
  have h0 := byt_get hy a
  have h1 := byt_get hy (a + 1)
  have h2 := byt_get hy (a + 2)
  have h3 := byt_get hy (a + 3)
  rw [drop_get b a 0 (by omega), drop_get b (a + 1) 0 (by omega), drop_get b (a + 1 + 1) 0 (by omega), drop_get b (a + 1 + 1 + 1) 0 (by omega)]
  simp only [List.getD_eq_getElem?_getD] at h0 h1 h2 h3
  simp [be, num, Nat.add_assoc]
  omega
theorem needB_inv {α : Type} {b : List Int} {a : Nat} {v er : Int} {k : Except Bad α} {c : α} (h : needB b a v er k = .ok c) : a + 1 ≤ b.length ∧ num b a 1 = v ∧ k = .ok c := by
  unfold needB at h
  split at h
  · cases h
  · split at h
    · exact ⟨by omega, by assumption, h⟩
    · cases h
theorem readB_inv {α : Type} {b : List Int} {a s : Nat} {k : Int → Except Bad α} {c : α} (h : readB b a s k = .ok c) : a + s ≤ b.length ∧ k (num b a s) = .ok c := by
  unfold readB at h
  split at h
  · cases h
  · exact ⟨by omega, h⟩
theorem askB_inv {α : Type} {p : Bool} {er x : Int} {k : Except Bad α} {c : α} (h : askB p er x k = .ok c) : p = true ∧ k = .ok c := by
  unfold askB at h
  split at h
  · exact ⟨by assumption, h⟩
  · cases h
theorem takeB_invP {α β : Type} {x : Except Bad α} {k : α → Except Bad β} {c : β} (h : takeB x k = .ok c) : ∃ a, x = .ok a ∧ k a = .ok c := by
  cases x with
  | ok a => exact ⟨a, rfl, h⟩
  | error e => cases h
theorem szs_inv {b : List Int} {s : Nat} {m : Int} (hd : ∀ a, a + s ≤ b.length → b.drop a = be (num b a s) s ++ b.drop (a + s)) (hb : ∀ a, num b a s ≤ m) : ∀ (n a : Nat) (L : List Int), a ≤ b.length → szs b s n a = .ok L →
    L.length = n ∧ a + s * n ≤ b.length ∧ b.drop a = (L.flatMap fun x => be x s) ++ b.drop (a + s * n) ∧ ∀ x ∈ L, 0 < x ∧ x ≤ m
  | 0, a, L, ha, h => by
    simp only [szs, Except.ok.injEq] at h; subst h; simp; exact ha
  | n + 1, a, L, ha, h => by
    simp only [szs] at h
    split at h
    · cases h
    · split at h
      · cases h
      · split at h
        · rename_i g1 g2 _ l hl
          simp only [Except.ok.injEq] at h
          subst h
          obtain ⟨i1, i2, i3, i4⟩ := szs_inv hd hb n (a + s) l (by omega) hl
          have e : a + s + s * n = a + s * (n + 1) := by rw [Nat.mul_add]; omega
          rw [e] at i2 i3
          refine ⟨by simp [i1], i2, by rw [List.flatMap_cons, List.append_assoc, ← i3]; exact hd a (by omega), fun x hx => ?_⟩
          rcases List.mem_cons.1 hx with rfl | hx
          · exact ⟨by omega, hb a⟩
          · exact i4 x hx
        · cases h
theorem tysR_inv {b : List Int} (hy : Byt b) : ∀ (n a : Nat) (f : Bool) (ts : List Ty), a + 4 * n ≤ b.length → tysR b n f a = .ok ts → ts.length = n ∧ tysOk f ts = true ∧ b.drop a = ts.flatMap tyB ++ b.drop (a + 4 * n)
  | 0, a, f, ts, _, h => by
    simp only [tysR, Except.ok.injEq] at h; subst h; simp [tysOk]
  | n + 1, a, f, ts, ha, h => by
    simp only [tysR] at h
    split at h
    · cases h
    · split at h
      · cases h
      · split at h
        · cases h
        · split at h
          · rename_i g1 g2 g3 _ l hl
            simp only [Except.ok.injEq] at h
            subst h
            obtain ⟨i1, i2, i3⟩ := tysR_inv hy n (a + 4) false l (by omega) hl
            have e : a + 4 + 4 * n = a + 4 * (n + 1) := by omega
            rw [e] at i3
            refine ⟨by simp [i1], by rw [tysOk, i2]; simp only [tyOk]; simp at g1 g2 g3; simp [g1, g2, g3], ?_⟩
            rw [List.flatMap_cons, List.append_assoc, ← i3, tyB, drop_be1 hy a (by omega), drop_be1 hy (a + 1) (by omega), drop_be2 hy (a + 1 + 1) (by omega)]
            simp [Nat.add_assoc]
          · cases h
theorem cutL_inv (b : List Int) : ∀ (L : List Int) (a : Nat), (∀ x ∈ L, 0 < x) → a + L.sum.toNat ≤ b.length → lens (cutL b L a) = L ∧ b.drop a = (cutL b L a).flatten ++ b.drop (a + L.sum.toNat)
  | [], a, _, _ => by simp [cutL, lens]
  | x :: r, a, hx, h => by
    have h0 := hx x (by simp)
    have hs : 0 ≤ r.sum := by
      have : ∀ (l : List Int), (∀ y ∈ l, 0 < y) → 0 ≤ l.sum := by
        intro l
        induction l with
        | nil => intro _; simp
        | cons y t ih => intro hl; have := ih fun z hz => hl z (by simp [hz]); have := hl y (by simp); simp; omega
      exact this r fun y hy => hx y (by simp [hy])
    rw [List.sum_cons] at h ⊢
    obtain ⟨i1, i2⟩ := cutL_inv b r (a + x.toNat) (fun y hy => hx y (by simp [hy])) (by omega)
    have e : a + x.toNat + r.sum.toNat = a + (x + r.sum).toNat := by omega
    rw [e] at i2
    have hl : ((b.drop a).take x.toNat).length = x.toNat := by simp; omega
    refine ⟨?_, ?_⟩
    · show (((b.drop a).take x.toNat).length : Int) :: lens (cutL b r (a + x.toNat)) = _
      rw [i1, hl]
      congr 1
      omega
    · show b.drop a = (((b.drop a).take x.toNat) :: cutL b r (a + x.toNat)).flatten ++ _
      rw [List.flatten_cons, List.append_assoc, ← i2, ← List.drop_drop, List.take_append_drop]
theorem num_bd2 {b : List Int} (hy : Byt b) (a : Nat) : num b a 2 ≤ 65535 := by have := (num_bd hy a 2).2; omega
theorem num_bd4 {b : List Int} (hy : Byt b) (a : Nat) : num b a 4 ≤ 4294967295 := by have := (num_bd hy a 4).2; omega
structure EndOk (b : List Int) (codes subs : List Int) (a n : Nat) (c : Cont) : Prop where
  drop : b.drop a = be c.size 2 ++ ([0] ++ (c.types.flatMap tyB ++ (c.codes.flatten ++ (c.subs.flatten ++ c.data))))
  codes : lens c.codes = codes
  subs : lens c.subs = subs
  tys : tysOk true c.types = true
  types : c.types.length = n
  data : (c.data.length : Int) ≤ c.size
  size : c.size ≤ 65535
theorem sumP {l : List Int} (h : ∀ y ∈ l, 0 < y) : 0 ≤ l.sum := by
  induction l with
  | nil => simp
  | cons y t ih => have := ih fun z hz => h z (by simp [hz]); have := h y (by simp); simp; omega
theorem end_inv {b : List Int} (hy : Byt b) {o : Bool} {n : Nat} {codes subs : List Int} {a : Nat} {c : Cont} (hc : ∀ x ∈ codes, 0 < x) (hs : ∀ x ∈ subs, 0 < x) (h : parseEnd b o (4 * (n : Int)) n codes subs a = .ok c) : EndOk b codes subs a n c := by
  unfold parseEnd at h
  obtain ⟨l1, h⟩ := readB_inv h
  obtain ⟨l2, z0, h⟩ := needB_inv h
  have c0 := sumP hc
  have s0 := sumP hs
  split at h
  · cases h
  · rename_i g
    have g1 : ¬ (b.length : Int) < (a + 3 : Nat) + 4 * (n : Int) + codes.sum + subs.sum := fun e => g (.inl e)
    obtain ⟨g2, h⟩ := askB_inv h
    simp only [decide_eq_true_eq] at g2
    obtain ⟨ts, ht, h⟩ := takeB_invP h
    simp only [Int.toNat_natCast] at h ht
    simp only [Except.ok.injEq] at h
    obtain ⟨t1, t2, t3⟩ := tysR_inv hy n (a + 3) true ts (by omega) ht
    obtain ⟨u1, u2⟩ := cutL_inv b codes (a + 3 + 4 * n) hc (by omega)
    obtain ⟨v1, v2⟩ := cutL_inv b subs (a + 3 + 4 * n + codes.sum.toNat) hs (by omega)
    subst h
    refine ⟨?_, u1, v1, t2, t1, ?_, num_bd2 hy a⟩
    · show b.drop a = be (num b a 2) 2 ++ ([0] ++ (ts.flatMap tyB ++ ((cutL b codes (a + 3 + 4 * n)).flatten ++ ((cutL b subs (a + 3 + 4 * n + codes.sum.toNat)).flatten ++ b.drop (a + 3 + 4 * n + codes.sum.toNat + subs.sum.toNat)))))
      rw [← v2, ← u2, ← t3, drop_be2 hy a (by omega), drop_be1 hy (a + 2) (by omega), z0]
      rfl
    · show ((b.drop (a + 3 + 4 * n + codes.sum.toNat + subs.sum.toNat)).length : Int) ≤ num b a 2
      rw [List.length_drop]
      omega
theorem parts_ok (most : Int) : ∀ (ll : List (List Int)), (∀ l ∈ ll, 0 < l.length ∧ (l.length : Int) ≤ most) → partsErr most ll = 0
  | [], _ => rfl
  | a :: r, h => by
    have h1 := h a (by simp)
    rw [partsErr, if_neg (by omega), if_neg (by omega)]
    exact parts_ok most r fun l hl => h l (by simp [hl])
theorem of_may {c : Cont} (h : May c) : checkErr c = 0 := by
  have h1 := parts_ok 65535 c.codes fun l hl => by have := h.code l hl; omega
  have h2 := parts_ok 4294967295 c.subs fun l hl => by have := h.sub l hl; omega
  have g1 := h.codes1
  have g2 := h.codes2
  have g3 := h.types
  have g4 := h.subs
  have g5 := h.size
  have g6 := h.data
  unfold checkErr tysErr
  rw [if_neg (by omega), if_neg (by omega), h1, if_neg (by omega), if_neg (by omega), h2, if_neg (by omega), if_neg (by omega), if_neg (by omega), h.tys]
  rfl
theorem lens_ok {ll : List (List Int)} {m : Int} (h : ∀ x ∈ lens ll, 0 < x ∧ x ≤ m) : ∀ l ∈ ll, 0 < l.length ∧ (l.length : Int) ≤ m := fun l hl => by
  have := h l.length (List.mem_map.2 ⟨l, hl, rfl⟩); omega
set_option maxHeartbeats 1000000 in
theorem parse_inv {b : List Int} (hy : Byt b) {o : Bool} {c : Cont} (h : parse b o = .ok c) : May c ∧ serB c = b := by
  unfold parse at h
  obtain ⟨_, z0, h⟩ := needB_inv h
  obtain ⟨_, z1, h⟩ := needB_inv h
  obtain ⟨_, z2, h⟩ := needB_inv h
  obtain ⟨_, z3, h⟩ := needB_inv h
  obtain ⟨l4, h⟩ := readB_inv h
  obtain ⟨z4, h⟩ := askB_inv h
  obtain ⟨l6, z6, h⟩ := needB_inv h
  obtain ⟨l7, h⟩ := readB_inv h
  obtain ⟨z7, h⟩ := askB_inv h
  simp only [decide_eq_true_eq] at z4 z7
  obtain ⟨cl, hcl, h⟩ := takeB_invP h
  have b7 := num_bd hy 7 2
  obtain ⟨n, hn⟩ : ∃ n : Nat, num b 7 2 = n := ⟨(num b 7 2).toNat, by omega⟩
  rw [hn] at h hcl z7
  rw [← z7] at h z4
  simp only [Int.toNat_natCast] at h hcl
  have hx4 : be (num b 4 2) 2 = be (4 * (n : Int)) 2 := by rw [← z7]
  have hx7 : be (num b 7 2) 2 = be (n : Int) 2 := by rw [hn]
  obtain ⟨c1, c2, c3, c4⟩ := szs_inv (m := 65535) (fun a ha => drop_be2 hy a ha) (num_bd2 hy) n 9 cl (by omega) hcl
  obtain ⟨l8, h⟩ := readB_inv h
  obtain ⟨z8, h⟩ := askB_inv h
  simp only [decide_eq_true_eq] at z8
  have hpre : b = [239, 0, 1, 1] ++ (be (4 * (n : Int)) 2 ++ ([2] ++ (be n 2 ++ ((cl.flatMap fun x => be x 2) ++ b.drop (9 + 2 * n))))) := by
    have e0 : b = b.drop 0 := rfl
    rw [← c3]
    conv => lhs; rw [e0, drop_be1 hy 0 (by omega), drop_be1 hy (0 + 1) (by omega), drop_be1 hy (0 + 1 + 1) (by omega), drop_be1 hy (0 + 1 + 1 + 1) (by omega), drop_be2 hy (0 + 1 + 1 + 1 + 1) (by omega), drop_be1 hy (0 + 1 + 1 + 1 + 1 + 2) (by omega), drop_be2 hy (0 + 1 + 1 + 1 + 1 + 2 + 1) (by omega)]
    show be (num b 0 1) 1 ++ (be (num b 1 1) 1 ++ (be (num b 2 1) 1 ++ (be (num b 3 1) 1 ++ (be (num b 4 2) 2 ++ (be (num b 6 1) 1 ++ (be (num b 7 2) 2 ++ b.drop 9)))))) = _
    rw [z0, z1, z2, z3, z6, hx4, hx7]
    rfl
  split at h
  · rename_i h3
    obtain ⟨l10, h⟩ := readB_inv h
    obtain ⟨z10, h⟩ := askB_inv h
    simp only [decide_eq_true_eq] at z10
    obtain ⟨sl, hsl, h⟩ := takeB_invP h
    obtain ⟨m, hm⟩ : ∃ m : Nat, num b (10 + 2 * n) 2 = m := ⟨(num b (10 + 2 * n) 2).toNat, by omega⟩
    rw [hm] at h hsl z10
    simp only [Int.toNat_natCast] at h hsl
    obtain ⟨s1, s2, s3, s4⟩ := szs_inv (m := 4294967295) (fun a ha => drop_be4 hy a ha) (num_bd4 hy) m (12 + 2 * n) sl (by omega) hsl
    obtain ⟨l12, z12, h⟩ := needB_inv h
    have e := end_inv hy (fun x hx => (c4 x hx).1) (fun x hx => (s4 x hx).1) h
    have f1 := e.codes
    have f2 := e.subs
    have n1 : c.codes.length = n := by rw [← lens_length, f1, c1]
    have n2 : c.subs.length = m := by rw [← lens_length, f2, s1]
    have n3 := e.types
    rw [← f1] at c4
    rw [← f2] at s4
    refine ⟨⟨by omega, by omega, by omega, fun l hl => by have := lens_ok c4 l hl; omega, by omega, fun l hl => by have := lens_ok s4 l hl; omega, e.size, e.data, e.tys⟩, ?_⟩
    rw [hpre, drop_be1 hy (9 + 2 * n) (by omega), h3, show 9 + 2 * n + 1 = 10 + 2 * n by omega, drop_be2 hy (10 + 2 * n) (by omega), hm, show 10 + 2 * n + 2 = 12 + 2 * n by omega, s3, drop_be1 hy (12 + 2 * n + 4 * m) (by omega), z12,
      show 12 + 2 * n + 4 * m + 1 = 13 + 2 * n + 4 * m by omega, e.drop]
    unfold serB headB
    rw [part3, if_neg (by rw [lens_length]; omega), lens_length, lens_length, n1, n2, f1, f2]
    simp [be]
  · rename_i h3
    have e := end_inv hy (fun x hx => (c4 x hx).1) (by simp) h
    have f1 := e.codes
    have f2 := e.subs
    have n1 : c.codes.length = n := by rw [← lens_length, f1, c1]
    have n2 : c.subs.length = 0 := by rw [← lens_length, f2]; rfl
    have n3 := e.types
    have n4 : c.subs = [] := List.eq_nil_of_length_eq_zero n2
    rw [← f1] at c4
    refine ⟨⟨by omega, by omega, by omega, fun l hl => by have := lens_ok c4 l hl; omega, by omega, fun l hl => by rw [n4] at hl; simp at hl, e.size, e.data, e.tys⟩, ?_⟩
    have h5 : num b (9 + 2 * n) 1 = 255 := by omega
    rw [hpre, drop_be1 hy (9 + 2 * n) (by omega), h5, show 9 + 2 * n + 1 = 10 + 2 * n by omega, e.drop]
    unfold serB headB
    rw [part3, if_pos (by rw [lens_length]; omega), lens_length, n1, f1]
    simp [be]
/-- A refusal: not nothing, and within the bytes or at their end. -/
def Far (b : List Int) (x : Bad) : Prop := x.1 ≠ 0 ∧ 0 ≤ x.2 ∧ x.2 ≤ b.length
def FarB {α : Type} (b : List Int) (x : Except Bad α) : Prop := ∀ e, x = .error e → Far b e
theorem far_need {α : Type} {b : List Int} {a : Nat} {v er : Int} {k : Except Bad α} (he : er ≠ 0) (h : a + 1 ≤ b.length → num b a 1 = v → FarB b k) : FarB b (needB b a v er k) := fun e hh => by
  unfold needB at hh
  split at hh
  · cases hh; exact ⟨by simp, by simp, by simp⟩
  · split at hh
    · exact h (by omega) (by assumption) e hh
    · cases hh; exact ⟨he, by simp, by show (a : Int) ≤ _; omega⟩
theorem far_read {α : Type} {b : List Int} {a s : Nat} {k : Int → Except Bad α} (h : a + s ≤ b.length → FarB b (k (num b a s))) : FarB b (readB b a s k) := fun e hh => by
  unfold readB at hh
  split at hh
  · cases hh; exact ⟨by simp, by simp, by simp⟩
  · exact h (by omega) e hh
theorem far_ask {α : Type} {b : List Int} {p : Bool} {er y : Int} {k : Except Bad α} (he : er ≠ 0) (hf : p = false → 0 ≤ y ∧ y ≤ b.length) (h : p = true → FarB b k) : FarB b (askB p er y k) := fun e hh => by
  unfold askB at hh
  split at hh
  · exact h (by assumption) e hh
  · cases hh; rename_i hp; exact ⟨he, hf (by simpa using hp)⟩
theorem far_take {α β : Type} {b : List Int} {x : Except Bad α} {k : α → Except Bad β} (hx : FarB b x) (h : ∀ a, x = .ok a → FarB b (k a)) : FarB b (takeB x k) := fun e hh => by
  cases x with
  | ok a => exact h a rfl e hh
  | error d => cases hh; exact hx _ rfl
theorem far_szs {b : List Int} {s : Nat} : ∀ (n a : Nat), FarB b (szs b s n a)
  | 0, a, e, h => by simp [szs] at h
  | n + 1, a, e, h => by
    simp only [szs] at h
    split at h
    · cases h; exact ⟨by simp, by simp, by simp⟩
    · split at h
      · cases h; exact ⟨by simp, by simp, by show (a : Int) ≤ _; omega⟩
      · split at h
        · cases h
        · rename_i d hd; cases h; exact far_szs n (a + s) _ hd
theorem far_tys {b : List Int} : ∀ (n a : Nat) (f : Bool), a + 4 * n ≤ b.length → FarB b (tysR b n f a)
  | 0, a, f, _, e, h => by simp [tysR] at h
  | n + 1, a, f, ha, e, h => by
    simp only [tysR] at h
    split at h
    · cases h; exact ⟨by simp, by simp, by show (a : Int) ≤ _; omega⟩
    · split at h
      · cases h; exact ⟨by simp, by simp; omega, by show (a : Int) + 1 ≤ _; omega⟩
      · split at h
        · cases h; exact ⟨by simp, by simp; omega, by show (a : Int) + 2 ≤ _; omega⟩
        · split at h
          · cases h
          · rename_i d hd; cases h; exact far_tys n (a + 4) false (by omega) _ hd
theorem far_end {b : List Int} (hy : Byt b) {o : Bool} {n : Nat} {codes subs : List Int} {a : Nat} (hc : ∀ x ∈ codes, 0 < x) (hs : ∀ x ∈ subs, 0 < x) : FarB b (parseEnd b o (4 * (n : Int)) n codes subs a) := by
  unfold parseEnd
  have c0 := sumP hc
  have s0 := sumP hs
  refine far_read fun h1 => far_need (by simp) fun h2 _ => ?_
  have hz := (num_bd hy a 2).1
  split
  · intro e hh; cases hh; exact ⟨by simp, by simp, by simp⟩
  · rename_i g
    have g1 : ¬ (b.length : Int) < (a + 3 : Nat) + 4 * (n : Int) + codes.sum + subs.sum := fun e => g (.inl e)
    refine far_ask (by simp) (fun hp => by simp only [decide_eq_false_iff_not] at hp; omega) fun hp => far_take (by
      simp only [Int.toNat_natCast]
      exact far_tys _ _ _ (by omega)) fun ts _ e hh => by cases hh
theorem parse_far {b : List Int} (hy : Byt b) (o : Bool) : FarB b (parse b o) := by
  unfold parse
  refine far_need (by simp) fun _ _ => far_need (by simp) fun _ _ => far_need (by simp) fun _ _ => far_need (by simp) fun _ _ => far_read fun l4 => far_ask (by simp) (fun _ => by omega) fun p4 => far_need (by simp) fun l6 _ => far_read fun l7 => far_ask (by simp) (fun _ => by omega) fun p7 => ?_
  simp only [decide_eq_true_eq] at p4 p7
  have b7 := num_bd hy 7 2
  obtain ⟨n, hn⟩ : ∃ n : Nat, num b 7 2 = n := ⟨(num b 7 2).toNat, by omega⟩
  rw [hn] at p7 ⊢
  rw [← p7]
  simp only [Int.toNat_natCast]
  refine far_take (far_szs _ _) fun cl hcl => ?_
  obtain ⟨c1, c2, c3, c4⟩ := szs_inv (m := 65535) (fun a ha => drop_be2 hy a ha) (num_bd2 hy) n 9 cl (by omega) hcl
  refine far_read fun l8 => far_ask (by simp) (fun _ => by omega) fun p8 => ?_
  split
  · refine far_read fun l10 => far_ask (by simp) (fun _ => by omega) fun p10 => ?_
    simp only [decide_eq_true_eq] at p10
    obtain ⟨m, hm⟩ : ∃ m : Nat, num b (10 + 2 * n) 2 = m := ⟨(num b (10 + 2 * n) 2).toNat, by omega⟩
    rw [hm]
    simp only [Int.toNat_natCast]
    refine far_take (far_szs _ _) fun sl hsl => ?_
    obtain ⟨s1, s2, s3, s4⟩ := szs_inv (m := 4294967295) (fun a ha => drop_be4 hy a ha) (num_bd4 hy) m (12 + 2 * n) sl (by omega) hsl
    exact far_need (by simp) fun _ _ => far_end hy (fun x hx => (c4 x hx).1) (fun x hx => (s4 x hx).1)
  · exact far_end hy (fun x hx => (c4 x hx).1) (by simp)
/-- Parse of the bytes that Serialize writes. -/
theorem parse_ser {c : Cont} (h : May c) (o : Bool) : parse (serB c) o = if o = false ∧ (c.data.length : Int) < c.size then .error (50, ((serB c).length : Int)) else .ok c := by
  have hd := h.data
  have e : serB c = headB (lens c.codes) (lens c.subs) c.size ++ (c.types.flatMap tyB ++ (c.codes.flatten ++ (c.subs.flatten ++ c.data))) := by unfold serB; simp
  have hp := parse_take c h o (serB c) c.data e (serB c).length (Nat.le_refl _) _ rfl
  rw [List.take_length] at hp
  rw [hp]
  have hl : (serB c).length = (headB (lens c.codes) (lens c.subs) c.size).length + 4 * c.codes.length + sumL c.codes + sumL c.subs + c.data.length := by
    rw [e]; simp only [List.length_append, tysB_length, h.types, sumL]; omega
  unfold rT
  by_cases g : o = false ∧ (c.data.length : Int) < c.size
  · rw [if_pos (.inr ⟨g.1, by omega⟩), if_pos g]
  · rw [if_neg (fun x => g (by rcases x with x | ⟨x, y⟩; exact absurd x (by omega); exact ⟨x, by omega⟩)), if_pos (by omega), if_neg g, List.take_length]
    have hx : (serB c).drop ((headB (lens c.codes) (lens c.subs) c.size).length + 4 * c.codes.length + sumL c.codes + sumL c.subs) = c.data := by
      have e2 : serB c = (headB (lens c.codes) (lens c.subs) c.size ++ (c.types.flatMap tyB ++ (c.codes.flatten ++ c.subs.flatten))) ++ c.data := by rw [e]; simp
      rw [e2, show (headB (lens c.codes) (lens c.subs) c.size).length + 4 * c.codes.length + sumL c.codes + sumL c.subs = (headB (lens c.codes) (lens c.subs) c.size ++ (c.types.flatMap tyB ++ (c.codes.flatten ++ c.subs.flatten))).length by
        simp only [List.length_append, tysB_length, h.types, sumL]; omega, List.drop_left]
    rw [hx]
end Go.Proofs.Ytkbboepopcebaaa
