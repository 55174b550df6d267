/- The bytes of a container, as a plain function; Size. -/
import Derived.Test.YtkbboepopcebaaaK
import Derived.Test.YtkbboepopcebaaaN
namespace Go.Proofs.Ytkbboepopcebaaa
open Go.RowKit

def tyB (t : Ty) : List Int := be t.i 1 ++ be t.o 1 ++ be t.m 2
def serB (c : Cont) : List Int := headB (lens c.codes) (lens c.subs) c.size ++ c.types.flatMap tyB ++ c.codes.flatten ++ c.subs.flatten ++ c.data
def sumL (ll : List (List Int)) : Nat := ll.flatten.length
theorem sumL_snoc (ll : List (List Int)) (k : Nat) (h : k < ll.length) : sumL (ll.take (k + 1)) = sumL (ll.take k) + (ll.getD k []).length := by
  rw [take_snoc' ll k [] h]; simp [sumL]
theorem sumL_le (b : Nat) (ll : List (List Int)) (h : ∀ l ∈ ll, l.length ≤ b) : sumL ll ≤ ll.length * b := by
  induction ll with
  | nil => simp [sumL]
  | cons a r ih =>
    have h1 := ih fun l hl => h l (List.mem_cons_of_mem _ hl)
    have h2 := h a List.mem_cons_self
    simp only [sumL, List.flatten_cons, List.length_append, List.length_cons, Nat.add_mul] at *
    omega
theorem sumL_take_le (b : Nat) (ll : List (List Int)) (k : Nat) (h : ∀ l ∈ ll, l.length ≤ b) : sumL (ll.take k) ≤ ll.length * b := by
  have h1 := sumL_le b (ll.take k) fun l hl => h l (List.mem_of_mem_take hl)
  have h2 : (ll.take k).length ≤ ll.length := by simp; omega
  exact Nat.le_trans h1 (Nat.mul_le_mul_right _ h2)
theorem partsErr_ok (most : Int) (ll : List (List Int)) (h : partsErr most ll = 0) : ∀ l ∈ ll, 0 < l.length ∧ (l.length : Int) ≤ most := by
  induction ll with
  | nil => intro l hl; simp at hl
  | cons a r ih =>
    intro l hl
    rw [partsErr] at h
    by_cases h1 : a.length = 0
    · rw [if_pos h1] at h; simp at h
    · rw [if_neg h1] at h
      by_cases h2 : most < (a.length : Int)
      · rw [if_pos h2] at h; simp at h
      · rw [if_neg h2] at h
        rcases List.mem_cons.1 hl with rfl | hl
        · omega
        · exact ih h l hl
/-- What it means that Check says nothing. -/
structure May (c : Cont) : Prop where
  codes1 : 0 < c.codes.length
  codes2 : c.codes.length ≤ 1024
  types : c.types.length = c.codes.length
  code : ∀ l ∈ c.codes, 0 < l.length ∧ l.length ≤ 65535
  subs : c.subs.length ≤ 256
  sub : ∀ l ∈ c.subs, 0 < l.length ∧ l.length ≤ 4294967295
  size : c.size ≤ 65535
  data : (c.data.length : Int) ≤ c.size
  tys : tysOk true c.types = true
theorem may_of (c : Cont) (h : checkErr c = 0) : May c := by
  unfold checkErr at h
  by_cases g1 : c.codes.length = 0 ∨ 1024 < c.codes.length
  · rw [if_pos g1] at h; simp at h
  rw [if_neg g1] at h
  by_cases g2 : c.types.length ≠ c.codes.length
  · rw [if_pos g2] at h; simp at h
  rw [if_neg g2] at h
  by_cases g3 : partsErr 65535 c.codes ≠ 0
  · rw [if_pos g3] at h; exact absurd h g3
  rw [if_neg g3] at h
  by_cases g4 : 256 < c.subs.length
  · rw [if_pos g4] at h; simp at h
  rw [if_neg g4] at h
  by_cases g5 : partsErr 4294967295 c.subs ≠ 0
  · rw [if_pos g5] at h; exact absurd h g5
  rw [if_neg g5] at h
  by_cases g6 : 65535 < c.size
  · rw [if_pos g6] at h; simp at h
  rw [if_neg g6] at h
  by_cases g7 : c.size < (c.data.length : Int)
  · rw [if_pos g7] at h; simp at h
  rw [if_neg g7] at h
  have g8 : tysOk true c.types = true := by
    unfold tysErr at h
    cases ht : tysOk true c.types with
    | true => rfl
    | false => rw [ht] at h; simp at h
  refine ⟨by omega, by omega, by omega, fun l hl => ?_, by omega, fun l hl => ?_, by omega, by omega, g8⟩
  · have := partsErr_ok 65535 c.codes (by omega) l hl; omega
  · have := partsErr_ok 4294967295 c.subs (by omega) l hl; omega
theorem tyB_length (t : Ty) : (tyB t).length = 4 := by simp [tyB, be_length]
theorem tysB_length (ts : List Ty) : (ts.flatMap tyB).length = ts.length * 4 := by
  induction ts with
  | nil => rfl
  | cons t r ih => simp only [List.flatMap_cons, List.length_append, tyB_length, ih, List.length_cons]; omega
theorem headB_length (cl sl : List Int) (size : Int) : (headB cl sl size).length = 13 + 2 * cl.length + (if sl.length = 0 then 0 else 3 + 4 * sl.length) := by
  unfold headB part3
  by_cases h : sl.length = 0
  · simp only [if_pos h, List.length_append, be_length, List.length_cons, List.length_nil, flat_length]; omega
  · simp only [if_neg h, List.length_append, be_length, List.length_cons, List.length_nil, flat_length]; omega
theorem serB_length (c : Cont) (h : c.types.length = c.codes.length) : (serB c).length = 13 + 6 * c.codes.length + c.data.length + sumL c.codes + (if c.subs.length = 0 then 0 else 3 + 4 * c.subs.length) + sumL c.subs := by
  unfold serB
  simp only [List.length_append, headB_length, tysB_length, lens_length, h]
  unfold sumL
  split <;> omega

def sizeN (c : Cont) : Int := if checkErr c = 0 then ((serB c).length : Int) else 0
theorem ret_two {k k' : IntKind} {a b a' b' : Int} (h : a = a') (h' : b = b') : Ending.returned (.tuple #[.int k a, .int k' b]) = .returned (.tuple #[.int k a', .int k' b']) := by rw [h, h']

set_option maxRecDepth 100000 in
theorem size_no (v : Array Value) (e1 : Int) (k1 : ¬ e1 = 0) (A0 A1 A2 A3 : Option Addr) (n0 n1 n2 n3 c0 c1 c2 c3 : Nat) (sz : Int) (w : World)
    (h1 : Calls Try.prog 18 #[.agg #[.slice A0 n0 c0, .slice A1 n1 c1, .slice A2 n2 c2, .slice A3 n3 c3, .int .i64 sz]] (w.alloc (.cells #[.slice A0 n0 c0, .slice A1 n1 c1, .slice A2 n2 c2, .slice A3 n3 c3, .int .i64 sz] 28)) fun e w' => e = .returned (.int .i64 e1) ∧ Below (w.alloc (.cells #[.slice A0 n0 c0, .slice A1 n1 c1, .slice A2 n2 c2, .slice A3 n3 c3, .int .i64 sz] 28)).heap.size (w.alloc (.cells #[.slice A0 n0 c0, .slice A1 n1 c1, .slice A2 n2 c2, .slice A3 n3 c3, .int .i64 sz] 28)) w') :
    Calls Try.prog 26 #[.agg #[.slice A0 n0 c0, .slice A1 n1 c1, .slice A2 n2 c2, .slice A3 n3 c3, .int .i64 sz]] w fun e w' => e = .returned (.tuple #[.int .i64 0, .int .i64 e1]) ∧ Below w.heap.size w w' := by
  have H1 := Lib.hid h1; clear h1
  have hk1 : (!(e1 == 0)) = true := by simp [k1]
  go_enter Try.func26, Try.ntmps26
  go_wp2_with fail
  refine H1.out.mono ?_
  rintro e w1 ⟨rfl, hb⟩
  have HB := Lib.hid (below_step (below_alloc _ _) hb)
  clear hb
  go_wp2
  go_ret2
  exact ⟨rfl, HB.out⟩
theorem below_of_box {w w1 : World} {o : Obj} (h : Below (w.alloc o).heap.size (w.alloc o) w1) : Below w.heap.size w w1 := below_step (below_alloc _ _) h
/-- A box's cells, whatever was made since. -/
theorem box_cells {w w1 : World} {va : Array Value} {t : TypeId} (h : Below (w.alloc (.cells va t)).heap.size (w.alloc (.cells va t)) w1) (j : Nat) (v : Value) (hj : va[j]? = some v) : w1.cell? ⟨w.heap.size, j, none⟩ = some v :=
  cell_keep h (box1_at w va t j v hj)

set_option maxRecDepth 100000 in
set_option maxHeartbeats 1600000 in
theorem size_yes (A0 A1 A2 A3 : Option Addr) (n0 n1 n2 n3 c0 c1 c2 c3 : Nat) (sz : Int) (w : World) (codes subs : List (List Int)) (hl1 : codes.length = n1) (hl2 : subs.length = n2) (hc : PartsR w A1 codes) (hs : PartsR w A2 subs)
    (g1 : n1 ≤ 1024) (g2 : n2 ≤ 256) (g3 : n3 ≤ 65535) (b1 : ∀ l ∈ codes, l.length ≤ 65535) (b2 : ∀ l ∈ subs, l.length ≤ 4294967295)
    (h1 : Calls Try.prog 18 #[.agg #[.slice A0 n0 c0, .slice A1 n1 c1, .slice A2 n2 c2, .slice A3 n3 c3, .int .i64 sz]] (w.alloc (.cells #[.slice A0 n0 c0, .slice A1 n1 c1, .slice A2 n2 c2, .slice A3 n3 c3, .int .i64 sz] 28)) fun e w' => e = .returned (.int .i64 0) ∧ Below (w.alloc (.cells #[.slice A0 n0 c0, .slice A1 n1 c1, .slice A2 n2 c2, .slice A3 n3 c3, .int .i64 sz] 28)).heap.size (w.alloc (.cells #[.slice A0 n0 c0, .slice A1 n1 c1, .slice A2 n2 c2, .slice A3 n3 c3, .int .i64 sz] 28)) w') :
    Calls Try.prog 26 #[.agg #[.slice A0 n0 c0, .slice A1 n1 c1, .slice A2 n2 c2, .slice A3 n3 c3, .int .i64 sz]] w fun e w' => e = .returned (.tuple #[.int .i64 ((13 + 6 * n1 + n3 + sumL codes + (if n2 = 0 then 0 else 3 + 4 * n2) + sumL subs : Nat) : Int), .int .i64 0]) ∧ Below w.heap.size w w' := by
  have H1 := Lib.hid h1; clear h1
  have HL1 := Lib.hid hl1; clear hl1
  have HL2 := Lib.hid hl2; clear hl2
  have HC := Lib.hid hc; clear hc
  have HS := Lib.hid hs; clear hs
  have HB1 := Lib.hid b1; clear b1
  have HB2 := Lib.hid b2; clear b2
  generalize hR : ((13 + 6 * n1 + n3 + sumL codes + (if n2 = 0 then 0 else 3 + 4 * n2) + sumL subs : Nat) : Int) = R
  have HR := Lib.hid hR
  clear hR
  go_enter Try.func26, Try.ntmps26
  go_wp2_with fail
  refine H1.out.mono ?_
  rintro e w1 ⟨rfl, hb⟩
  have x1 := box_cells hb 1 _ rfl
  have x2 := box_cells hb 2 _ rfl
  have x3 := box_cells hb 3 _ rfl
  have HB := Lib.hid (below_of_box hb)
  clear hb
  go_wp2
  go_loop [5, 7, 27] (fun s _ i => ∃ (k : Nat) (q : Nat), k ≤ n1 ∧ i = .int .i64 k ∧ s = .int .i64 (13 + 6 * (n1 : Int) + n3 + q) ∧ q ≤ 67107840 ∧ Hid (q = sumL (codes.take k))) (fun _ _ i => n1 - (intOf i).toNat)
  case atStart => exact ⟨0, 0, Nat.zero_le _, rfl, by simp, by omega, Lib.hid (by simp [sumL])⟩
  case round =>
    obtain ⟨k, q, hk, rfl, rfl, hq, HQ⟩ := hrel
    by_cases hlt : k < n1
    · have hk2 : k < codes.length := by have := HL1.out; omega
      obtain ⟨b1, o1, rfl, hc⟩ := (HC.out.mono HB.out).2 (by omega)
      obtain ⟨v, hcell, B1, d1, rfl, _, _, _⟩ := hc k hk2
      have hst := sumL_snoc codes k hk2
      have hbd := sumL_take_le 65535 codes (k + 1) HB1.out
      obtain ⟨m, hm⟩ : ∃ m, m = (codes.getD k []).length := ⟨_, rfl⟩
      rw [← hm] at hcell hst
      rw [← HQ.out] at hst
      have hqm : q + m ≤ 67107840 := by have := HL1.out; have : codes.length * 65535 ≤ 1024 * 65535 := Nat.mul_le_mul_right _ (by omega); omega
      have HST := Lib.hid hst
      clear hc hm hst hbd
      go_wp2
      go_round
      case rel => exact ⟨k + 1, q + m, by omega, by go_num, by first | go_num | (congr 1; omega), hqm, Lib.hid HST.out.symm⟩
      case measure => exact own_meas hlt
    · obtain rfl : k = n1 := by omega
      have hq2 : Hid (q = sumL codes) := by
        have := HQ.out
        rwa [List.take_of_length_le (by have := HL1.out; omega)] at this
      clear HQ
      obtain ⟨p, hp⟩ : ∃ p, p = (if n2 = 0 then 0 else 3 + 4 * n2) := ⟨_, rfl⟩
      have hp2 : p ≤ 2000 := by rw [hp]; split <;> omega
      have HP := Lib.hid hp
      clear hp
      have tail : ∀ (s : Value) (z : Int), s = .int .i64 z → z = 13 + 6 * (k : Int) + n3 + q + p → True := fun _ _ _ _ => trivial
      by_cases hm0 : n2 = 0
      · have hp0 : p = 0 := by rw [HP.out, if_pos hm0]
        have HM0 := Lib.hid hm0
        have hs0 : subs = [] := List.eq_nil_of_length_eq_zero (by have := HL2.out; omega)
        have HS0 := Lib.hid hs0
        clear tail hs0
        subst hm0
        have HP0 := Lib.hid hp0
        clear hp0 hp2
        go_wp2
        go_loop [5, 9, 50] (fun s _ i => i = .int .i64 0 ∧ s = .int .i64 (13 + 6 * (k : Int) + n3 + q)) (fun _ _ i => (intOf i).toNat)
        case atStart => exact ⟨rfl, rfl⟩
        case round =>
          obtain ⟨rfl, rfl⟩ := hrel
          go_wp2
          go_ret2
          refine ⟨ret_two ?_ rfl, HB.out⟩
          rw [← HR.out, HS0.out, ← hq2.out]
          simp [sumL]
      · have hp0 : p = 3 + 4 * n2 := by rw [HP.out, if_neg hm0]
        have hm1 : (0 : Int) < n2 := by omega
        clear tail hp2
        have HP0 := Lib.hid hp0
        clear hp0
        go_wp2
        go_loop [5, 9, 50] (fun s _ i => ∃ (j : Nat) (r : Nat), j ≤ n2 ∧ i = .int .i64 j ∧ s = .int .i64 (13 + 6 * (k : Int) + n3 + q + (3 + 4 * (n2 : Int)) + r) ∧ r ≤ 1099511627520 ∧ Hid (r = sumL (subs.take j))) (fun _ _ i => n2 - (intOf i).toNat)
        case atStart => exact ⟨0, 0, Nat.zero_le _, rfl, by simp, by omega, Lib.hid (by simp [sumL])⟩
        case round =>
          obtain ⟨j, r, hj, rfl, rfl, hr, HQ2⟩ := hrel
          by_cases hlj : j < n2
          · have hj2 : j < subs.length := by have := HL2.out; omega
            obtain ⟨b1, o1, rfl, hc⟩ := (HS.out.mono HB.out).2 (by omega)
            obtain ⟨v, hcell, B1, d1, rfl, _, _, _⟩ := hc j hj2
            have hst := sumL_snoc subs j hj2
            have hbd := sumL_take_le 4294967295 subs (j + 1) HB2.out
            obtain ⟨m, hm⟩ : ∃ m, m = (subs.getD j []).length := ⟨_, rfl⟩
            rw [← hm] at hcell hst
            rw [← HQ2.out] at hst
            have hqm : r + m ≤ 1099511627520 := by have := HL2.out; have : subs.length * 4294967295 ≤ 256 * 4294967295 := Nat.mul_le_mul_right _ (by omega); omega
            have HST := Lib.hid hst
            clear hc hm hst hbd
            go_wp2
            go_round
            case rel => exact ⟨j + 1, r + m, by omega, by go_num, by first | go_num | (congr 1; omega), hqm, Lib.hid HST.out.symm⟩
            case measure => exact own_meas hlj
          · go_wp2
            go_ret2
            refine ⟨ret_two ?_ rfl, HB.out⟩
            have h9 := HQ2.out
            rw [List.take_of_length_le (by have := HL2.out; omega)] at h9
            rw [← HR.out, ← hq2.out, ← h9, if_neg hm0]
            omega

/-- Size. -/
theorem size_any (v : Value) (c : Cont) (w : World) (h : ContV w v c) :
    Calls Try.prog 26 #[v] w fun e w' => e = .returned (.tuple #[.int .i64 (sizeN c), .int .i64 (checkErr c)]) ∧ Below w.heap.size w w' := by
  have h' := fun va : Array Value => h.mono (below_alloc w (.cells va 28))
  obtain ⟨vt, vc, vs, vd, rfl, ⟨A0, c0, rfl, _⟩, ⟨A1, c1, rfl, _, _, hc⟩, ⟨A2, c2, rfl, _, _, hs⟩, ⟨A3, c3, rfl, _⟩⟩ := h
  have hk := fun va => check_any _ _ _ (h' va)
  by_cases e0 : checkErr c = 0
  · have hm := may_of c e0
    have e1 : sizeN c = ((13 + 6 * c.codes.length + c.data.length + sumL c.codes + (if c.subs.length = 0 then 0 else 3 + 4 * c.subs.length) + sumL c.subs : Nat) : Int) := by
      rw [sizeN, if_pos e0, serB_length c hm.types]
    rw [e1, e0]
    simp only [e0] at hk
    exact size_yes A0 A1 A2 A3 _ _ _ _ c0 c1 c2 c3 _ w c.codes c.subs rfl rfl hc hs hm.codes2 hm.subs (by have := hm.data; have := hm.size; omega) (fun l hl => (hm.code l hl).2) (fun l hl => (hm.sub l hl).2) (hk _)
  · rw [sizeN, if_neg e0]
    exact size_no #[] _ e0 A0 A1 A2 A3 _ _ _ _ c0 c1 c2 c3 _ w (hk _)
end Go.Proofs.Ytkbboepopcebaaa
