/- container.Check: every way. -/
import Derived.Test.YtkbboepopcebaaaJ
import Derived.Test.YtkbboepopcebaaaN
import Derived.Test.YtkbboepopcebaaaAC
namespace Go.Proofs.Ytkbboepopcebaaa
open Go.RowKit
section
variable (A0 A1 A2 A3 : Option Addr) (n0 n1 n2 n3 c0 c1 c2 c3 : Nat) (sz : Int) (w : World)

set_option maxRecDepth 100000 in
theorem check_none (g1 : n1 = 0) :
    Calls Try.prog 18 #[.agg #[.slice A0 n0 c0, .slice A1 n1 c1, .slice A2 n2 c2, .slice A3 n3 c3, .int .i64 sz]] w fun e w' => e = .returned (.int .i64 55) ∧ Below w.heap.size w w' := by
  subst g1
  go_enter Try.func18, Try.ntmps18
  go_wp2
  go_ret
  exact ⟨rfl, below_alloc _ _⟩

set_option maxRecDepth 100000 in
theorem check_many (g1 : 1024 < n1) :
    Calls Try.prog 18 #[.agg #[.slice A0 n0 c0, .slice A1 n1 c1, .slice A2 n2 c2, .slice A3 n3 c3, .int .i64 sz]] w fun e w' => e = .returned (.int .i64 55) ∧ Below w.heap.size w w' := by
  have hz : ((n1 : Int) == 0) = false := by simp; omega
  go_enter Try.func18, Try.ntmps18
  go_wp2
  go_ret
  exact ⟨rfl, below_alloc _ _⟩

set_option maxRecDepth 100000 in
theorem check_types (g1 : 0 < n1) (g2 : n1 ≤ 1024) (g3 : ¬ (n0 : Int) = (n1 : Int)) :
    Calls Try.prog 18 #[.agg #[.slice A0 n0 c0, .slice A1 n1 c1, .slice A2 n2 c2, .slice A3 n3 c3, .int .i64 sz]] w fun e w' => e = .returned (.int .i64 54) ∧ Below w.heap.size w w' := by
  have hz : ((n1 : Int) == 0) = false := by simp; omega
  have hq : (!((n0 : Int) == (n1 : Int))) = true := by simp; omega
  go_enter Try.func18, Try.ntmps18
  go_wp2
  go_ret
  exact ⟨rfl, below_alloc _ _⟩

set_option maxRecDepth 100000 in
theorem check_codes (g1 : 0 < n1) (g2 : n1 ≤ 1024) (g3 : (n0 : Int) = (n1 : Int)) (e1 : Int) (k1 : ¬ e1 = 0) (h1 : Calls Try.prog 45 #[.slice A1 n1 c1, .int .i64 65535] (w.alloc (.cells #[.slice A0 n0 c0, .slice A1 n1 c1, .slice A2 n2 c2, .slice A3 n3 c3, .int .i64 sz] 28)) fun e w' => e = .returned (.int .i64 e1) ∧ (w.alloc (.cells #[.slice A0 n0 c0, .slice A1 n1 c1, .slice A2 n2 c2, .slice A3 n3 c3, .int .i64 sz] 28)) = w') :
    Calls Try.prog 18 #[.agg #[.slice A0 n0 c0, .slice A1 n1 c1, .slice A2 n2 c2, .slice A3 n3 c3, .int .i64 sz]] w fun e w' => e = .returned (.int .i64 e1) ∧ Below w.heap.size w w' := by
  obtain rfl : n0 = n1 := by omega
  clear g3
  have H1 := Lib.hid h1; clear h1
  have hz : ((n0 : Int) == 0) = false := by simp; omega
  have hk1 : (!(e1 == 0)) = true := by simp [k1]
  go_enter Try.func18, Try.ntmps18
  go_wp2_with fail
  refine H1.out.mono ?_
  rintro e w1 ⟨rfl, rfl⟩
  go_wp2
  go_ret
  exact ⟨rfl, below_alloc _ _⟩

set_option maxRecDepth 100000 in
theorem check_subs (g1 : 0 < n1) (g2 : n1 ≤ 1024) (g3 : (n0 : Int) = (n1 : Int)) (g4 : 256 < n2) (h1 : Calls Try.prog 45 #[.slice A1 n1 c1, .int .i64 65535] (w.alloc (.cells #[.slice A0 n0 c0, .slice A1 n1 c1, .slice A2 n2 c2, .slice A3 n3 c3, .int .i64 sz] 28)) fun e w' => e = .returned (.int .i64 0) ∧ (w.alloc (.cells #[.slice A0 n0 c0, .slice A1 n1 c1, .slice A2 n2 c2, .slice A3 n3 c3, .int .i64 sz] 28)) = w') :
    Calls Try.prog 18 #[.agg #[.slice A0 n0 c0, .slice A1 n1 c1, .slice A2 n2 c2, .slice A3 n3 c3, .int .i64 sz]] w fun e w' => e = .returned (.int .i64 57) ∧ Below w.heap.size w w' := by
  obtain rfl : n0 = n1 := by omega
  clear g3
  have H1 := Lib.hid h1; clear h1
  have hz : ((n0 : Int) == 0) = false := by simp; omega
  go_enter Try.func18, Try.ntmps18
  go_wp2_with fail
  refine H1.out.mono ?_
  rintro e w1 ⟨rfl, rfl⟩
  go_wp2
  go_ret
  exact ⟨rfl, below_alloc _ _⟩

set_option maxRecDepth 100000 in
theorem check_subs2 (g1 : 0 < n1) (g2 : n1 ≤ 1024) (g3 : (n0 : Int) = (n1 : Int)) (g4 : n2 ≤ 256) (e1 : Int) (k1 : ¬ e1 = 0) (h1 : Calls Try.prog 45 #[.slice A1 n1 c1, .int .i64 65535] (w.alloc (.cells #[.slice A0 n0 c0, .slice A1 n1 c1, .slice A2 n2 c2, .slice A3 n3 c3, .int .i64 sz] 28)) fun e w' => e = .returned (.int .i64 0) ∧ (w.alloc (.cells #[.slice A0 n0 c0, .slice A1 n1 c1, .slice A2 n2 c2, .slice A3 n3 c3, .int .i64 sz] 28)) = w') (h2 : Calls Try.prog 45 #[.slice A2 n2 c2, .int .i64 4294967295] (w.alloc (.cells #[.slice A0 n0 c0, .slice A1 n1 c1, .slice A2 n2 c2, .slice A3 n3 c3, .int .i64 sz] 28)) fun e w' => e = .returned (.int .i64 e1) ∧ (w.alloc (.cells #[.slice A0 n0 c0, .slice A1 n1 c1, .slice A2 n2 c2, .slice A3 n3 c3, .int .i64 sz] 28)) = w') :
    Calls Try.prog 18 #[.agg #[.slice A0 n0 c0, .slice A1 n1 c1, .slice A2 n2 c2, .slice A3 n3 c3, .int .i64 sz]] w fun e w' => e = .returned (.int .i64 e1) ∧ Below w.heap.size w w' := by
  obtain rfl : n0 = n1 := by omega
  clear g3
  have H1 := Lib.hid h1; clear h1
  have H2 := Lib.hid h2; clear h2
  have hz : ((n0 : Int) == 0) = false := by simp; omega
  have hk1 : (!(e1 == 0)) = true := by simp [k1]
  go_enter Try.func18, Try.ntmps18
  go_wp2_with fail
  refine H1.out.mono ?_
  rintro e w1 ⟨rfl, rfl⟩
  go_wp2_with fail
  refine H2.out.mono ?_
  rintro e w2 ⟨rfl, rfl⟩
  go_wp2
  go_ret
  exact ⟨rfl, below_alloc _ _⟩

set_option maxRecDepth 100000 in
theorem check_long (g1 : 0 < n1) (g2 : n1 ≤ 1024) (g3 : (n0 : Int) = (n1 : Int)) (g4 : n2 ≤ 256) (g5 : 65535 < sz) (h1 : Calls Try.prog 45 #[.slice A1 n1 c1, .int .i64 65535] (w.alloc (.cells #[.slice A0 n0 c0, .slice A1 n1 c1, .slice A2 n2 c2, .slice A3 n3 c3, .int .i64 sz] 28)) fun e w' => e = .returned (.int .i64 0) ∧ (w.alloc (.cells #[.slice A0 n0 c0, .slice A1 n1 c1, .slice A2 n2 c2, .slice A3 n3 c3, .int .i64 sz] 28)) = w') (h2 : Calls Try.prog 45 #[.slice A2 n2 c2, .int .i64 4294967295] (w.alloc (.cells #[.slice A0 n0 c0, .slice A1 n1 c1, .slice A2 n2 c2, .slice A3 n3 c3, .int .i64 sz] 28)) fun e w' => e = .returned (.int .i64 0) ∧ (w.alloc (.cells #[.slice A0 n0 c0, .slice A1 n1 c1, .slice A2 n2 c2, .slice A3 n3 c3, .int .i64 sz] 28)) = w') :
    Calls Try.prog 18 #[.agg #[.slice A0 n0 c0, .slice A1 n1 c1, .slice A2 n2 c2, .slice A3 n3 c3, .int .i64 sz]] w fun e w' => e = .returned (.int .i64 2) ∧ Below w.heap.size w w' := by
  obtain rfl : n0 = n1 := by omega
  clear g3
  have H1 := Lib.hid h1; clear h1
  have H2 := Lib.hid h2; clear h2
  have hz : ((n0 : Int) == 0) = false := by simp; omega
  go_enter Try.func18, Try.ntmps18
  go_wp2_with fail
  refine H1.out.mono ?_
  rintro e w1 ⟨rfl, rfl⟩
  go_wp2_with fail
  refine H2.out.mono ?_
  rintro e w2 ⟨rfl, rfl⟩
  go_wp2
  go_ret
  exact ⟨rfl, below_alloc _ _⟩

set_option maxRecDepth 100000 in
theorem check_arg (g1 : 0 < n1) (g2 : n1 ≤ 1024) (g3 : (n0 : Int) = (n1 : Int)) (g4 : n2 ≤ 256) (g5 : sz ≤ 65535) (g6 : sz < (n3 : Int)) (h1 : Calls Try.prog 45 #[.slice A1 n1 c1, .int .i64 65535] (w.alloc (.cells #[.slice A0 n0 c0, .slice A1 n1 c1, .slice A2 n2 c2, .slice A3 n3 c3, .int .i64 sz] 28)) fun e w' => e = .returned (.int .i64 0) ∧ (w.alloc (.cells #[.slice A0 n0 c0, .slice A1 n1 c1, .slice A2 n2 c2, .slice A3 n3 c3, .int .i64 sz] 28)) = w') (h2 : Calls Try.prog 45 #[.slice A2 n2 c2, .int .i64 4294967295] (w.alloc (.cells #[.slice A0 n0 c0, .slice A1 n1 c1, .slice A2 n2 c2, .slice A3 n3 c3, .int .i64 sz] 28)) fun e w' => e = .returned (.int .i64 0) ∧ (w.alloc (.cells #[.slice A0 n0 c0, .slice A1 n1 c1, .slice A2 n2 c2, .slice A3 n3 c3, .int .i64 sz] 28)) = w') :
    Calls Try.prog 18 #[.agg #[.slice A0 n0 c0, .slice A1 n1 c1, .slice A2 n2 c2, .slice A3 n3 c3, .int .i64 sz]] w fun e w' => e = .returned (.int .i64 1) ∧ Below w.heap.size w w' := by
  obtain rfl : n0 = n1 := by omega
  clear g3
  have H1 := Lib.hid h1; clear h1
  have H2 := Lib.hid h2; clear h2
  have hz : ((n0 : Int) == 0) = false := by simp; omega
  go_enter Try.func18, Try.ntmps18
  go_wp2_with fail
  refine H1.out.mono ?_
  rintro e w1 ⟨rfl, rfl⟩
  go_wp2_with fail
  refine H2.out.mono ?_
  rintro e w2 ⟨rfl, rfl⟩
  go_wp2
  go_ret
  exact ⟨rfl, below_alloc _ _⟩

end

/-- Check. -/
theorem check_any (v : Value) (c : Cont) (w : World) (h : ContV w v c) :
    Calls Try.prog 18 #[v] w fun e w' => e = .returned (.int .i64 (checkErr c)) ∧ Below w.heap.size w w' := by
  obtain ⟨vt, vc, vs, vd, rfl, ⟨A0, c0, rfl, _, _, hr0, ht⟩, ⟨A1, c1, rfl, _, _, hc⟩, ⟨A2, c2, rfl, _, _, hs⟩, ⟨A3, c3, rfl, _, _, hd⟩⟩ := h
  have h1 := fun va => parts_any A1 c1 _ 65535 c.codes _ rfl (hc.mono (below_alloc w (.cells va 28)))
  have h2 := fun va => parts_any A2 c2 _ 4294967295 c.subs _ rfl (hs.mono (below_alloc w (.cells va 28)))
  unfold checkErr
  by_cases g1 : c.codes.length = 0
  · rw [if_pos (.inl g1)]
    exact check_none A0 A1 A2 A3 _ _ _ _ c0 c1 c2 c3 _ w g1
  by_cases g2 : 1024 < c.codes.length
  · rw [if_pos (.inr g2)]
    exact check_many A0 A1 A2 A3 _ _ _ _ c0 c1 c2 c3 _ w g2
  rw [if_neg (by omega)]
  by_cases g3 : c.types.length = c.codes.length
  case neg =>
    rw [if_pos g3]
    exact check_types A0 A1 A2 A3 _ _ _ _ c0 c1 c2 c3 _ w (by omega) (by omega) (by omega)
  rw [if_neg (by omega)]
  by_cases e1 : partsErr 65535 c.codes = 0
  case neg =>
    rw [if_pos e1]
    exact check_codes A0 A1 A2 A3 _ _ _ _ c0 c1 c2 c3 _ w (by omega) (by omega) (by omega) _ e1 (h1 _)
  rw [if_neg (by simpa using e1)]
  simp only [e1] at h1
  by_cases g4 : 256 < c.subs.length
  · rw [if_pos g4]
    exact check_subs A0 A1 A2 A3 _ _ _ _ c0 c1 c2 c3 _ w (by omega) (by omega) (by omega) g4 (h1 _)
  rw [if_neg g4]
  by_cases e2 : partsErr 4294967295 c.subs = 0
  case neg =>
    rw [if_pos e2]
    exact check_subs2 A0 A1 A2 A3 _ _ _ _ c0 c1 c2 c3 _ w (by omega) (by omega) (by omega) (by omega) _ e2 (h1 _) (h2 _)
  rw [if_neg (by simpa using e2)]
  simp only [e2] at h2
  by_cases g5 : 65535 < c.size
  · rw [if_pos g5]
    exact check_long A0 A1 A2 A3 _ _ _ _ c0 c1 c2 c3 _ w (by omega) (by omega) (by omega) (by omega) g5 (h1 _) (h2 _)
  rw [if_neg g5]
  by_cases g6 : c.size < (c.data.length : Int)
  · rw [if_pos g6]
    exact check_arg A0 A1 A2 A3 _ _ _ _ c0 c1 c2 c3 _ w (by omega) (by omega) (by omega) (by omega) (by omega) g6 (h1 _) (h2 _)
  rw [if_neg g6]
  exact check_loop A0 A1 A2 A3 _ _ _ _ c0 c1 c2 c3 _ w c.types rfl ht hr0 (by omega) (by omega) (by omega) (by omega) (by omega) (by omega) (h1 _) (h2 _)
end Go.Proofs.Ytkbboepopcebaaa
namespace Go.Proofs.Ytkbboepopcebaaa
open Go.RowKit

def tyB (t : Ty) : List Int := be t.i 1 ++ be t.o 1 ++ be t.m 2
def serB (c : Cont) : List Int := headB (lens c.codes) (lens c.subs) c.size ++ c.types.flatMap tyB ++ c.codes.flatten ++ c.subs.flatten ++ c.data
def sumL (ll : List (List Int)) : Nat := ll.flatten.length
theorem sumL_snoc (ll : List (List Int)) (k : Nat) (h : k < ll.length) : sumL (ll.take (k + 1)) = sumL (ll.take k) + (ll.getD k []).length := by
  rw [take_snoc' ll k [] h]; simp [sumL]
theorem sumL_le (b : Nat) (ll : List (List Int)) (h : ∀ l ∈ ll, l.length ≤ b) : sumL ll ≤ ll.length * b := by
  induction ll with
  | nil => simp [sumL]
  | cons a r ih =>
    have h1 := ih fun l hl => h l (List.mem_cons_of_mem _ hl)
    have h2 := h a List.mem_cons_self
    simp only [sumL, List.flatten_cons, List.length_append, List.length_cons, Nat.add_mul] at *
    omega
theorem sumL_take_le (b : Nat) (ll : List (List Int)) (k : Nat) (h : ∀ l ∈ ll, l.length ≤ b) : sumL (ll.take k) ≤ ll.length * b := by
  have h1 := sumL_le b (ll.take k) fun l hl => h l (List.mem_of_mem_take hl)
  have h2 : (ll.take k).length ≤ ll.length := by simp; omega
  exact Nat.le_trans h1 (Nat.mul_le_mul_right _ h2)
theorem partsErr_ok (most : Int) (ll : List (List Int)) (h : partsErr most ll = 0) : ∀ l ∈ ll, 0 < l.length ∧ (l.length : Int) ≤ most := by
  induction ll with
  | nil => intro l hl; simp at hl
  | cons a r ih =>
    intro l hl
    rw [partsErr] at h
    by_cases h1 : a.length = 0
    · rw [if_pos h1] at h; simp at h
    · rw [if_neg h1] at h
      by_cases h2 : most < (a.length : Int)
      · rw [if_pos h2] at h; simp at h
      · rw [if_neg h2] at h
        rcases List.mem_cons.1 hl with rfl | hl
        · omega
        · exact ih h l hl
/-- What it means that Check says nothing. -/
structure May (c : Cont) : Prop where
  codes1 : 0 < c.codes.length
  codes2 : c.codes.length ≤ 1024
  types : c.types.length = c.codes.length
  code : ∀ l ∈ c.codes, 0 < l.length ∧ l.length ≤ 65535
  subs : c.subs.length ≤ 256
  sub : ∀ l ∈ c.subs, 0 < l.length ∧ l.length ≤ 4294967295
  size : c.size ≤ 65535
  data : (c.data.length : Int) ≤ c.size
  tys : tysOk true c.types = true
theorem may_of (c : Cont) (h : checkErr c = 0) : May c := by
  unfold checkErr at h
  by_cases g1 : c.codes.length = 0 ∨ 1024 < c.codes.length
  · rw [if_pos g1] at h; simp at h
  rw [if_neg g1] at h
  by_cases g2 : c.types.length ≠ c.codes.length
  · rw [if_pos g2] at h; simp at h
  rw [if_neg g2] at h
  by_cases g3 : partsErr 65535 c.codes ≠ 0
  · rw [if_pos g3] at h; exact absurd h g3
  rw [if_neg g3] at h
  by_cases g4 : 256 < c.subs.length
  · rw [if_pos g4] at h; simp at h
  rw [if_neg g4] at h
  by_cases g5 : partsErr 4294967295 c.subs ≠ 0
  · rw [if_pos g5] at h; exact absurd h g5
  rw [if_neg g5] at h
  by_cases g6 : 65535 < c.size
  · rw [if_pos g6] at h; simp at h
  rw [if_neg g6] at h
  by_cases g7 : c.size < (c.data.length : Int)
  · rw [if_pos g7] at h; simp at h
  rw [if_neg g7] at h
  have g8 : tysOk true c.types = true := by
    unfold tysErr at h
    cases ht : tysOk true c.types with
    | true => rfl
    | false => rw [ht] at h; simp at h
  refine ⟨by omega, by omega, by omega, fun l hl => ?_, by omega, fun l hl => ?_, by omega, by omega, g8⟩
  · have := partsErr_ok 65535 c.codes (by omega) l hl; omega
  · have := partsErr_ok 4294967295 c.subs (by omega) l hl; omega
theorem tyB_length (t : Ty) : (tyB t).length = 4 := by simp [tyB, be_length]
theorem tysB_length (ts : List Ty) : (ts.flatMap tyB).length = ts.length * 4 := by
  induction ts with
  | nil => rfl
  | cons t r ih => simp only [List.flatMap_cons, List.length_append, tyB_length, ih, List.length_cons]; omega
theorem headB_length (cl sl : List Int) (size : Int) : (headB cl sl size).length = 13 + 2 * cl.length + (if sl.length = 0 then 0 else 3 + 4 * sl.length) := by
  unfold headB part3
  by_cases h : sl.length = 0
  · simp only [if_pos h, List.length_append, be_length, List.length_cons, List.length_nil, flat_length]; omega
  · simp only [if_neg h, List.length_append, be_length, List.length_cons, List.length_nil, flat_length]; omega
theorem serB_length (c : Cont) (h : c.types.length = c.codes.length) : (serB c).length = 13 + 6 * c.codes.length + c.data.length + sumL c.codes + (if c.subs.length = 0 then 0 else 3 + 4 * c.subs.length) + sumL c.subs := by
  unfold serB
  simp only [List.length_append, headB_length, tysB_length, lens_length, h]
  unfold sumL
  split <;> omega

def sizeN (c : Cont) : Int := if checkErr c = 0 then ((serB c).length : Int) else 0
theorem ret_two {k k' : IntKind} {a b a' b' : Int} (h : a = a') (h' : b = b') : Ending.returned (.tuple #[.int k a, .int k' b]) = .returned (.tuple #[.int k a', .int k' b']) := by rw [h, h']

set_option maxRecDepth 100000 in
theorem size_no (v : Array Value) (e1 : Int) (k1 : ¬ e1 = 0) (A0 A1 A2 A3 : Option Addr) (n0 n1 n2 n3 c0 c1 c2 c3 : Nat) (sz : Int) (w : World)
    (h1 : Calls Try.prog 18 #[.agg #[.slice A0 n0 c0, .slice A1 n1 c1, .slice A2 n2 c2, .slice A3 n3 c3, .int .i64 sz]] (w.alloc (.cells #[.slice A0 n0 c0, .slice A1 n1 c1, .slice A2 n2 c2, .slice A3 n3 c3, .int .i64 sz] 28)) fun e w' => e = .returned (.int .i64 e1) ∧ Below (w.alloc (.cells #[.slice A0 n0 c0, .slice A1 n1 c1, .slice A2 n2 c2, .slice A3 n3 c3, .int .i64 sz] 28)).heap.size (w.alloc (.cells #[.slice A0 n0 c0, .slice A1 n1 c1, .slice A2 n2 c2, .slice A3 n3 c3, .int .i64 sz] 28)) w') :
    Calls Try.prog 26 #[.agg #[.slice A0 n0 c0, .slice A1 n1 c1, .slice A2 n2 c2, .slice A3 n3 c3, .int .i64 sz]] w fun e w' => e = .returned (.tuple #[.int .i64 0, .int .i64 e1]) ∧ Below w.heap.size w w' := by
  have H1 := Lib.hid h1; clear h1
  have hk1 : (!(e1 == 0)) = true := by simp [k1]
  go_enter Try.func26, Try.ntmps26
  go_wp2_with fail
  refine H1.out.mono ?_
  rintro e w1 ⟨rfl, hb⟩
  have HB := Lib.hid (below_step (below_alloc _ _) hb)
  clear hb
  go_wp2
  go_ret2
  exact ⟨rfl, HB.out⟩
theorem below_of_box {w w1 : World} {o : Obj} (h : Below (w.alloc o).heap.size (w.alloc o) w1) : Below w.heap.size w w1 := below_step (below_alloc _ _) h
/-- A box's cells, whatever was made since. -/
theorem box_cells {w w1 : World} {va : Array Value} {t : TypeId} (h : Below (w.alloc (.cells va t)).heap.size (w.alloc (.cells va t)) w1) (j : Nat) (v : Value) (hj : va[j]? = some v) : w1.cell? ⟨w.heap.size, j, none⟩ = some v :=
  cell_keep h (box1_at w va t j v hj)

set_option maxRecDepth 100000 in
set_option maxHeartbeats 1600000 in
theorem size_yes (A0 A1 A2 A3 : Option Addr) (n0 n1 n2 n3 c0 c1 c2 c3 : Nat) (sz : Int) (w : World) (codes subs : List (List Int)) (hl1 : codes.length = n1) (hl2 : subs.length = n2) (hc : PartsR w A1 codes) (hs : PartsR w A2 subs)
    (g1 : n1 ≤ 1024) (g2 : n2 ≤ 256) (g3 : n3 ≤ 65535) (b1 : ∀ l ∈ codes, l.length ≤ 65535) (b2 : ∀ l ∈ subs, l.length ≤ 4294967295)
    (h1 : Calls Try.prog 18 #[.agg #[.slice A0 n0 c0, .slice A1 n1 c1, .slice A2 n2 c2, .slice A3 n3 c3, .int .i64 sz]] (w.alloc (.cells #[.slice A0 n0 c0, .slice A1 n1 c1, .slice A2 n2 c2, .slice A3 n3 c3, .int .i64 sz] 28)) fun e w' => e = .returned (.int .i64 0) ∧ Below (w.alloc (.cells #[.slice A0 n0 c0, .slice A1 n1 c1, .slice A2 n2 c2, .slice A3 n3 c3, .int .i64 sz] 28)).heap.size (w.alloc (.cells #[.slice A0 n0 c0, .slice A1 n1 c1, .slice A2 n2 c2, .slice A3 n3 c3, .int .i64 sz] 28)) w') :
    Calls Try.prog 26 #[.agg #[.slice A0 n0 c0, .slice A1 n1 c1, .slice A2 n2 c2, .slice A3 n3 c3, .int .i64 sz]] w fun e w' => e = .returned (.tuple #[.int .i64 ((13 + 6 * n1 + n3 + sumL codes + (if n2 = 0 then 0 else 3 + 4 * n2) + sumL subs : Nat) : Int), .int .i64 0]) ∧ Below w.heap.size w w' := by
  have H1 := Lib.hid h1; clear h1
  have HL1 := Lib.hid hl1; clear hl1
  have HL2 := Lib.hid hl2; clear hl2
  have HC := Lib.hid hc; clear hc
  have HS := Lib.hid hs; clear hs
  have HB1 := Lib.hid b1; clear b1
  have HB2 := Lib.hid b2; clear b2
  generalize hR : ((13 + 6 * n1 + n3 + sumL codes + (if n2 = 0 then 0 else 3 + 4 * n2) + sumL subs : Nat) : Int) = R
  have HR := Lib.hid hR
  clear hR
  go_enter Try.func26, Try.ntmps26
  go_wp2_with fail
  refine H1.out.mono ?_
  rintro e w1 ⟨rfl, hb⟩
  have x1 := box_cells hb 1 _ rfl
  have x2 := box_cells hb 2 _ rfl
  have x3 := box_cells hb 3 _ rfl
  have HB := Lib.hid (below_of_box hb)
  clear hb
  go_wp2
  go_loop [5, 7, 27] (fun s _ i => ∃ (k : Nat) (q : Nat), k ≤ n1 ∧ i = .int .i64 k ∧ s = .int .i64 (13 + 6 * (n1 : Int) + n3 + q) ∧ q ≤ 67107840 ∧ Hid (q = sumL (codes.take k))) (fun _ _ i => n1 - (intOf i).toNat)
  case atStart => exact ⟨0, 0, Nat.zero_le _, rfl, by simp, by omega, Lib.hid (by simp [sumL])⟩
  case round =>
    obtain ⟨k, q, hk, rfl, rfl, hq, HQ⟩ := hrel
    by_cases hlt : k < n1
    · have hk2 : k < codes.length := by have := HL1.out; omega
      obtain ⟨b1, o1, rfl, hc⟩ := (HC.out.mono HB.out).2 (by omega)
      obtain ⟨v, hcell, B1, d1, rfl, _, _, _⟩ := hc k hk2
      have hst := sumL_snoc codes k hk2
      have hbd := sumL_take_le 65535 codes (k + 1) HB1.out
      obtain ⟨m, hm⟩ : ∃ m, m = (codes.getD k []).length := ⟨_, rfl⟩
      rw [← hm] at hcell hst
      rw [← HQ.out] at hst
      have hqm : q + m ≤ 67107840 := by have := HL1.out; have : codes.length * 65535 ≤ 1024 * 65535 := Nat.mul_le_mul_right _ (by omega); omega
      have HST := Lib.hid hst
      clear hc hm hst hbd
      go_wp2
      go_round
      case rel => exact ⟨k + 1, q + m, by omega, by go_num, by first | go_num | (congr 1; omega), hqm, Lib.hid HST.out.symm⟩
      case measure => exact own_meas hlt
    · obtain rfl : k = n1 := by omega
      have hq2 : Hid (q = sumL codes) := by
        have := HQ.out
        rwa [List.take_of_length_le (by have := HL1.out; omega)] at this
      clear HQ
      obtain ⟨p, hp⟩ : ∃ p, p = (if n2 = 0 then 0 else 3 + 4 * n2) := ⟨_, rfl⟩
      have hp2 : p ≤ 2000 := by rw [hp]; split <;> omega
      have HP := Lib.hid hp
      clear hp
      have tail : ∀ (s : Value) (z : Int), s = .int .i64 z → z = 13 + 6 * (k : Int) + n3 + q + p → True := fun _ _ _ _ => trivial
      by_cases hm0 : n2 = 0
      · have hp0 : p = 0 := by rw [HP.out, if_pos hm0]
        have HM0 := Lib.hid hm0
        have hs0 : subs = [] := List.eq_nil_of_length_eq_zero (by have := HL2.out; omega)
        have HS0 := Lib.hid hs0
        clear tail hs0
        subst hm0
        have HP0 := Lib.hid hp0
        clear hp0 hp2
        go_wp2
        go_loop [5, 9, 50] (fun s _ i => i = .int .i64 0 ∧ s = .int .i64 (13 + 6 * (k : Int) + n3 + q)) (fun _ _ i => (intOf i).toNat)
        case atStart => exact ⟨rfl, rfl⟩
        case round =>
          obtain ⟨rfl, rfl⟩ := hrel
          go_wp2
          go_ret2
          refine ⟨ret_two ?_ rfl, HB.out⟩
          rw [← HR.out, HS0.out, ← hq2.out]
          simp [sumL]
      · have hp0 : p = 3 + 4 * n2 := by rw [HP.out, if_neg hm0]
        have hm1 : (0 : Int) < n2 := by omega
        clear tail hp2
        have HP0 := Lib.hid hp0
        clear hp0
        go_wp2
        go_loop [5, 9, 50] (fun s _ i => ∃ (j : Nat) (r : Nat), j ≤ n2 ∧ i = .int .i64 j ∧ s = .int .i64 (13 + 6 * (k : Int) + n3 + q + (3 + 4 * (n2 : Int)) + r) ∧ r ≤ 1099511627520 ∧ Hid (r = sumL (subs.take j))) (fun _ _ i => n2 - (intOf i).toNat)
        case atStart => exact ⟨0, 0, Nat.zero_le _, rfl, by simp, by omega, Lib.hid (by simp [sumL])⟩
        case round =>
          obtain ⟨j, r, hj, rfl, rfl, hr, HQ2⟩ := hrel
          by_cases hlj : j < n2
          · have hj2 : j < subs.length := by have := HL2.out; omega
            obtain ⟨b1, o1, rfl, hc⟩ := (HS.out.mono HB.out).2 (by omega)
            obtain ⟨v, hcell, B1, d1, rfl, _, _, _⟩ := hc j hj2
            have hst := sumL_snoc subs j hj2
            have hbd := sumL_take_le 4294967295 subs (j + 1) HB2.out
            obtain ⟨m, hm⟩ : ∃ m, m = (subs.getD j []).length := ⟨_, rfl⟩
            rw [← hm] at hcell hst
            rw [← HQ2.out] at hst
            have hqm : r + m ≤ 1099511627520 := by have := HL2.out; have : subs.length * 4294967295 ≤ 256 * 4294967295 := Nat.mul_le_mul_right _ (by omega); omega
            have HST := Lib.hid hst
            clear hc hm hst hbd
            go_wp2
            go_round
            case rel => exact ⟨j + 1, r + m, by omega, by go_num, by first | go_num | (congr 1; omega), hqm, Lib.hid HST.out.symm⟩
            case measure => exact own_meas hlj
          · go_wp2
            go_ret2
            refine ⟨ret_two ?_ rfl, HB.out⟩
            have h9 := HQ2.out
            rw [List.take_of_length_le (by have := HL2.out; omega)] at h9
            rw [← HR.out, ← hq2.out, ← h9, if_neg hm0]
            omega

/-- Size. -/
theorem size_any (v : Value) (c : Cont) (w : World) (h : ContV w v c) :
    Calls Try.prog 26 #[v] w fun e w' => e = .returned (.tuple #[.int .i64 (sizeN c), .int .i64 (checkErr c)]) ∧ Below w.heap.size w w' := by
  have h' := fun va : Array Value => h.mono (below_alloc w (.cells va 28))
  obtain ⟨vt, vc, vs, vd, rfl, ⟨A0, c0, rfl, _⟩, ⟨A1, c1, rfl, _, _, hc⟩, ⟨A2, c2, rfl, _, _, hs⟩, ⟨A3, c3, rfl, _⟩⟩ := h
  have hk := fun va => check_any _ _ _ (h' va)
  by_cases e0 : checkErr c = 0
  · have hm := may_of c e0
    have e1 : sizeN c = ((13 + 6 * c.codes.length + c.data.length + sumL c.codes + (if c.subs.length = 0 then 0 else 3 + 4 * c.subs.length) + sumL c.subs : Nat) : Int) := by
      rw [sizeN, if_pos e0, serB_length c hm.types]
    rw [e1, e0]
    simp only [e0] at hk
    exact size_yes A0 A1 A2 A3 _ _ _ _ c0 c1 c2 c3 _ w c.codes c.subs rfl rfl hc hs hm.codes2 hm.subs (by have := hm.data; have := hm.size; omega) (fun l hl => (hm.code l hl).2) (fun l hl => (hm.sub l hl).2) (hk _)
  · rw [sizeN, if_neg e0]
    exact size_no #[] _ e0 A0 A1 A2 A3 _ _ _ _ c0 c1 c2 c3 _ w (hk _)
end Go.Proofs.Ytkbboepopcebaaa
namespace Go.Proofs.Ytkbboepopcebaaa
open Go.RowKit

theorem getD_app (l R : List Int) (j : Nat) : (l ++ R).getD (l.length + j) 0 = R.getD j 0 := by
  simp [List.getD_eq_getElem?_getD, List.getElem?_append_right]
theorem num_app (l R : List Int) (s j : Nat) : num (l ++ R) (l.length + j) s = num R j s := by
  induction s with
  | zero => rfl
  | succ s ih => rw [num, num, ih, Nat.add_assoc, getD_app]
theorem num_app' {l R : List Int} {a : Nat} (j : Nat) (h : a = l.length + j) (s : Nat) : num (l ++ R) a s = num R j s := by subst h; exact num_app l R s j
theorem num_at {l R : List Int} {a : Nat} (h : a = l.length) (s : Nat) : num (l ++ R) a s = num R 0 s := num_app' 0 h s
theorem num1 (v : Int) (R : List Int) (h0 : 0 ≤ v) (h1 : v < 256) : num (be v 1 ++ R) 0 1 = v := by simp [be, num]; omega
theorem num2 (v : Int) (R : List Int) (h0 : 0 ≤ v) (h1 : v < 65536) : num (be v 2 ++ R) 0 2 = v := by simp [be, num]; omega
theorem num4 (v : Int) (R : List Int) (h0 : 0 ≤ v) (h1 : v < 4294967296) : num (be v 4 ++ R) 0 4 = v := by simp [be, num]; omega
theorem num_take (B : List Int) (a s t : Nat) (h : a + s ≤ t) : num (B.take t) a s = num B a s := by
  induction s with
  | zero => rfl
  | succ s ih =>
    rw [num, num, ih (by omega)]
    have : (B.take t).getD (a + s) 0 = B.getD (a + s) 0 := by simp [List.getD_eq_getElem?_getD, List.getElem?_take, show a + s < t by omega]
    rw [this]
theorem readT {α : Type} {B : List Int} {t a s : Nat} {v : Int} {k : Int → Except Bad α} {r : Except Bad α} (ht : t ≤ B.length) (hv : num B a s = v) (hc : t < a + s → r = .error (50, (t : Int))) (h : a + s ≤ t → k v = r) : readB (B.take t) a s k = r := by
  have hl : (B.take t).length = t := by simp; omega
  by_cases g : t < a + s
  · rw [readB_cut (by omega), hl, hc g]
  · rw [readB_yes (by omega), num_take B a s t (by omega), hv]; exact h (by omega)
theorem needT {α : Type} {B : List Int} {t a : Nat} {v er : Int} {k r : Except Bad α} (ht : t ≤ B.length) (hv : num B a 1 = v) (hc : t < a + 1 → r = .error (50, (t : Int))) (h : a + 1 ≤ t → k = r) : needB (B.take t) a v er k = r := by
  have hl : (B.take t).length = t := by simp; omega
  by_cases g : t < a + 1
  · rw [needB_cut (by omega), hl, hc g]
  · rw [needB_yes (by omega) (by rw [num_take B a 1 t (by omega), hv])]; exact h (by omega)
theorem szs_take {B : List Int} {t s : Nat} (ht : t ≤ B.length) : ∀ (L : List Int) (a : Nat), a ≤ t → (∀ i, i < L.length → num B (a + s * i) s = L.getD i 0 ∧ 0 < L.getD i 0) →
    szs (B.take t) s L.length a = if t < a + s * L.length then .error (50, (t : Int)) else .ok L
  | [], a, ha, _ => by simp [szs]; omega
  | x :: r, a, ha, h => by
    have hl : (B.take t).length = t := by simp; omega
    have h0 := h 0 (by simp)
    simp only [Nat.mul_zero, Nat.add_zero, List.getD_cons_zero] at h0
    show szs (B.take t) s (r.length + 1) a = _
    rw [szs, hl]
    by_cases g : t < a + s
    · rw [if_pos g, if_pos (by simp only [List.length_cons, Nat.mul_add]; omega)]
    · have ih := szs_take ht r (a + s) (by omega) (fun i hi => by
        have := h (i + 1) (by simp; omega)
        rw [Nat.mul_add, Nat.mul_one, Nat.add_comm (s * i) s, ← Nat.add_assoc] at this
        simpa using this)
      rw [if_neg g, num_take B a s t (by omega), h0.1, if_neg (by omega), ih]
      have e : a + s + s * r.length = a + s * (x :: r).length := by simp only [List.length_cons, Nat.mul_add]; omega
      rw [e]
      by_cases g2 : t < a + s * (x :: r).length
      · rw [if_pos g2, if_pos g2]
      · rw [if_neg g2, if_neg g2]
theorem num_flat (s : Nat) (R : List Int) : ∀ (L : List Int), (∀ x ∈ L, ∀ R', num (be x s ++ R') 0 s = x) → ∀ i, i < L.length → num ((L.flatMap fun x => be x s) ++ R) (s * i) s = L.getD i 0
  | [], _, i, hi => by simp at hi
  | x :: r, h, i, hi => by
    rw [List.flatMap_cons, List.append_assoc]
    match i with
    | 0 => rw [Nat.mul_zero, h x (by simp)]; rfl
    | i + 1 =>
      rw [num_app' (s * i) (by rw [be_length, Nat.mul_add]; omega)]
      rw [num_flat s R r (fun y hy => h y (by simp [hy])) i (by simp at hi; omega)]
      rfl
theorem lens_sum (ll : List (List Int)) : (lens ll).sum = (sumL ll : Int) := by
  induction ll with
  | nil => rfl
  | cons a r ih =>
    have : lens (a :: r) = (a.length : Int) :: lens r := rfl
    rw [this, List.sum_cons, ih]
    simp [sumL]
theorem fitI {f : Bool} {v : Int} (h : fitsIn f v = true) : 0 ≤ v ∧ v ≤ 127 ∧ (f = true → v = 0) := by
  unfold fitsIn at h
  cases f <;> simp at h <;> simp <;> omega
theorem fitO {f : Bool} {v : Int} (h : fitsOut f v = true) : 0 ≤ v ∧ v ≤ 128 ∧ (f = true → v = 128) := by
  unfold fitsOut at h
  cases f <;> simp at h <;> simp <;> omega
theorem fitM {v : Int} (h : fitsMost v = true) : 0 ≤ v ∧ v ≤ 1023 := by
  unfold fitsMost at h
  simp at h; omega
theorem tysR_at (R : List Int) : ∀ (ts : List Ty) (f : Bool) (pre : List Int), tysOk f ts = true → tysR (pre ++ (ts.flatMap tyB ++ R)) ts.length f pre.length = .ok ts
  | [], _, _, _ => rfl
  | t :: r, f, pre, h => by
    rw [tysOk, Bool.and_eq_true] at h
    obtain ⟨h1, h2⟩ := h
    unfold tyOk at h1
    rw [Bool.and_eq_true, Bool.and_eq_true] at h1
    obtain ⟨g1, g2, g3⟩ := h1
    have f1 := fitI g1
    have f2 := fitO g2
    have f3 := fitM g3
    have e0 : pre ++ ((t :: r).flatMap tyB ++ R) = pre ++ (be t.i 1 ++ (be t.o 1 ++ (be t.m 2 ++ (r.flatMap tyB ++ R)))) := by simp [tyB]
    have e1 : num (pre ++ ((t :: r).flatMap tyB ++ R)) pre.length 1 = t.i := by rw [e0, num_at rfl, num1 _ _ (by omega) (by omega)]
    have e2 : num (pre ++ ((t :: r).flatMap tyB ++ R)) (pre.length + 1) 1 = t.o := by rw [e0, num_app' 1 (by rfl), num_at (by simp [be_length]), num1 _ _ (by omega) (by omega)]
    have e3 : num (pre ++ ((t :: r).flatMap tyB ++ R)) (pre.length + 2) 2 = t.m := by rw [e0, num_app' 2 (by rfl), num_app' 1 (by simp [be_length]), num_at (by simp [be_length]), num2 _ _ (by omega) (by omega)]
    have ih := tysR_at R r false (pre ++ tyB t) h2
    have e4 : pre ++ tyB t ++ (r.flatMap tyB ++ R) = pre ++ ((t :: r).flatMap tyB ++ R) := by simp
    rw [e4, List.length_append, tyB_length] at ih
    show tysR _ (r.length + 1) f pre.length = _
    rw [tysR, e1, e2, e3, if_neg (by simp [g1]), if_neg (by simp [g2]), if_neg (by simp [g3]), ih]
theorem cutL_at (R : List Int) : ∀ (ll : List (List Int)) (pre : List Int), cutL (pre ++ (ll.flatten ++ R)) (lens ll) pre.length = ll
  | [], _ => rfl
  | l :: r, pre => by
    have ih := cutL_at R r (pre ++ l)
    have e : pre ++ l ++ (r.flatten ++ R) = pre ++ ((l :: r).flatten ++ R) := by simp
    rw [e, List.length_append] at ih
    show (((pre ++ ((l :: r).flatten ++ R)).drop pre.length).take (l.length : Int).toNat) :: cutL _ (lens r) (pre.length + (l.length : Int).toNat) = _
    rw [Int.toNat_natCast, ih]
    simp
/-- What Parse says of the first t of these bytes, of which the data begin at H. -/
def rT (c : Cont) (o : Bool) (B : List Int) (t H : Nat) : Except Bad Cont :=
  if t < H ∨ (o = false ∧ (t : Int) < H + c.size) then .error (50, (t : Int)) else
  if (t : Int) ≤ H + c.size then .ok ⟨c.types, c.codes, c.subs, (B.take t).drop H, c.size⟩ else .error (58, H + c.size)
theorem rT_cut {c : Cont} {o : Bool} {B : List Int} {t H : Nat} (h : t < H) : rT c o B t H = .error (50, (t : Int)) := by rw [rT, if_pos (.inl h)]
theorem parseEnd_take {B : List Int} {H : Nat} (c : Cont) (hm : May c) (o : Bool) (pre more : List Int) (t : Nat) (hB : B = pre ++ (be c.size 2 ++ ([0] ++ (c.types.flatMap tyB ++ (c.codes.flatten ++ (c.subs.flatten ++ more)))))) (ht : t ≤ B.length)
    (hH : H = pre.length + 3 + 4 * c.codes.length + sumL c.codes + sumL c.subs) :
    parseEnd (B.take t) o (4 * (c.codes.length : Int)) (c.codes.length : Int) (lens c.codes) (lens c.subs) pre.length = rT c o B t H := by
  have hd := hm.data
  have hz := hm.size
  have hty := hm.types
  have hl : (B.take t).length = t := by simp; omega
  unfold parseEnd
  refine readT ht (v := c.size) (by rw [hB, num_at (by rfl), num2 _ _ (by omega) (by omega)]) (fun g => rT_cut (by omega)) fun g1 => ?_
  refine needT ht (by rw [hB, num_app' 2 (by rfl), num_at (by simp [be_length])]; rfl) (fun g => rT_cut (by omega)) fun g2 => ?_
  rw [hl, lens_sum, lens_sum]
  unfold rT
  by_cases g3 : t < H ∨ (o = false ∧ (t : Int) < H + c.size)
  · rw [if_pos g3, if_pos (by rcases g3 with g3 | ⟨g3, g4⟩; exact .inl (by omega); exact .inr ⟨g3, by omega⟩)]
  · rw [if_neg g3, if_neg (by intro g; apply g3; rcases g with g | ⟨g, g4⟩; exact .inl (by omega); exact .inr ⟨g, by omega⟩)]
    by_cases g4 : (t : Int) ≤ H + c.size
    · rw [if_pos g4, askB_yes (by simp; omega)]
      have hsp : B.take t = (pre ++ (be c.size 2 ++ [0])) ++ (c.types.flatMap tyB ++ (c.codes.flatten ++ (c.subs.flatten ++ more.take (t - H)))) := by
        have e : B = ((pre ++ (be c.size 2 ++ [0])) ++ (c.types.flatMap tyB ++ (c.codes.flatten ++ c.subs.flatten))) ++ more := by rw [hB]; simp
        have el : ((pre ++ (be c.size 2 ++ [0])) ++ (c.types.flatMap tyB ++ (c.codes.flatten ++ c.subs.flatten))).length = H := by
          simp only [List.length_append, be_length, tysB_length, List.length_singleton]
          rw [hH]; unfold sumL; omega
        rw [e, List.take_append, List.take_of_length_le (by omega), el]
        simp
      have l1 : (pre ++ (be c.size 2 ++ [0])).length = pre.length + 3 := by simp [be_length]
      have t1 := tysR_at (c.codes.flatten ++ (c.subs.flatten ++ more.take (t - H))) c.types true (pre ++ (be c.size 2 ++ [0])) hm.tys
      rw [← hsp, l1, hty] at t1
      have t2 := cutL_at (c.subs.flatten ++ more.take (t - H)) c.codes ((pre ++ (be c.size 2 ++ [0])) ++ c.types.flatMap tyB)
      rw [show (pre ++ (be c.size 2 ++ [0])) ++ c.types.flatMap tyB ++ (c.codes.flatten ++ (c.subs.flatten ++ more.take (t - H))) = B.take t by rw [hsp]; simp, List.length_append, l1, tysB_length, hty] at t2
      have t3 := cutL_at (more.take (t - H)) c.subs ((pre ++ (be c.size 2 ++ [0])) ++ c.types.flatMap tyB ++ c.codes.flatten)
      rw [show (pre ++ (be c.size 2 ++ [0])) ++ c.types.flatMap tyB ++ c.codes.flatten ++ (c.subs.flatten ++ more.take (t - H)) = B.take t by rw [hsp]; simp, List.length_append, List.length_append, l1, tysB_length, hty] at t3
      simp only [Int.toNat_natCast]
      rw [t1, show pre.length + 3 + 4 * c.codes.length = pre.length + 3 + c.codes.length * 4 by omega, t2]
      rw [show c.codes.flatten.length = sumL c.codes from rfl] at t3
      rw [t3]
      simp only [takeB]
      rw [show pre.length + 3 + c.codes.length * 4 + sumL c.codes + sumL c.subs = H by omega]
    · rw [if_neg g4, askB_no (by simp; omega)]
      simp only [Except.error.injEq, Prod.mk.injEq, true_and]
      omega
set_option maxHeartbeats 1000000 in
theorem parse_take (c : Cont) (hm : May c) (o : Bool) (B more : List Int) (hB : B = headB (lens c.codes) (lens c.subs) c.size ++ (c.types.flatMap tyB ++ (c.codes.flatten ++ (c.subs.flatten ++ more)))) (t : Nat) (ht : t ≤ B.length) (H : Nat)
    (hH : H = (headB (lens c.codes) (lens c.subs) c.size).length + 4 * c.codes.length + sumL c.codes + sumL c.subs) : parse (B.take t) o = rT c o B t H := by
  have hd := hm.data
  have hz := hm.size
  have hn1 := hm.codes1
  have hn2 := hm.codes2
  have hn3 := hm.subs
  have hl : (B.take t).length = t := by simp; omega
  rw [headB_length, lens_length, lens_length] at hH
  obtain ⟨n, hn⟩ : ∃ n, n = c.codes.length := ⟨_, rfl⟩
  obtain ⟨m, hmm⟩ : ∃ m, m = c.subs.length := ⟨_, rfl⟩
  obtain ⟨S, hS⟩ : ∃ S, S = c.types.flatMap tyB ++ (c.codes.flatten ++ (c.subs.flatten ++ more)) := ⟨_, rfl⟩
  obtain ⟨K, hK⟩ : ∃ K, K = part3 (lens c.subs) ++ ([255] ++ (be c.size 2 ++ ([0] ++ S))) := ⟨_, rfl⟩
  have hB2 : B = [239] ++ ([0] ++ ([1] ++ ([1] ++ (be (4 * (n : Int)) 2 ++ ([2] ++ (be n 2 ++ (((lens c.codes).flatMap fun x => be x 2) ++ K))))))) := by
    rw [hB, hK, hS, headB, lens_length, hn]; simp
  have cut : ∀ {a : Nat}, a ≤ H → t < a → rT c o B t H = .error (50, (t : Int)) := fun h1 h2 => rT_cut (by omega)
  have hlen : ∀ l ∈ c.codes, 0 < l.length ∧ l.length ≤ 65535 := hm.code
  have hsub : ∀ l ∈ c.subs, 0 < l.length ∧ l.length ≤ 4294967295 := hm.sub
  rw [← hn, ← hmm] at hH
  rw [← hn] at hn1 hn2
  rw [← hmm] at hn3
  have hH1 : 13 + 2 * n ≤ H := by omega
  unfold parse
  refine needT ht (by rw [hB2]; rfl) (cut (by omega)) fun g0 => ?_
  refine needT ht (by rw [hB2]; rfl) (cut (by omega)) fun g1 => ?_
  refine needT ht (by rw [hB2]; rfl) (cut (by omega)) fun g2 => ?_
  refine needT ht (by rw [hB2]; rfl) (cut (by omega)) fun g3 => ?_
  refine readT ht (v := 4 * (n : Int)) (by rw [hB2, num_app' 3 (by rfl), num_app' 2 (by rfl), num_app' 1 (by rfl), num_at (by rfl), num2 _ _ (by omega) (by omega)]) (cut (by omega)) fun g4 => ?_
  rw [askB_yes (by simp; omega)]
  refine needT ht (by rw [hB2, num_app' 5 (by rfl), num_app' 4 (by rfl), num_app' 3 (by rfl), num_app' 2 (by rfl), num_at (by rfl)]; rfl) (cut (by omega)) fun g5 => ?_
  refine readT ht (v := (n : Int)) (by rw [hB2, num_app' 6 (by rfl), num_app' 5 (by rfl), num_app' 4 (by rfl), num_app' 3 (by rfl), num_app' 1 (by rfl), num_at (by rfl), num2 _ _ (by omega) (by omega)]) (cut (by omega)) fun g6 => ?_
  rw [askB_yes (by simp)]
  have hz1 : szs (B.take t) 2 (n : Int).toNat 9 = if t < 9 + 2 * n then .error (50, (t : Int)) else .ok (lens c.codes) := by
    have := szs_take (s := 2) ht (lens c.codes) 9 (by omega) (fun i hi => by
      rw [lens_length] at hi
      refine ⟨?_, ?_⟩
      · rw [hB2, num_app' (8 + 2 * i) (by simp; omega), num_app' (7 + 2 * i) (by simp; omega), num_app' (6 + 2 * i) (by simp; omega), num_app' (5 + 2 * i) (by simp; omega), num_app' (3 + 2 * i) (by rw [be_length]; omega), num_app' (2 + 2 * i) (by simp; omega), num_app' (2 * i) (by rw [be_length])]
        refine num_flat 2 K (lens c.codes) (fun x hx R' => ?_) i (by rw [lens_length]; exact hi)
        obtain ⟨l, hl, rfl⟩ := List.mem_map.1 hx
        exact num2 _ _ (by omega) (by have := hlen l hl; omega)
      · rw [lens_get _ _ hi, show c.codes.getD i [] = c.codes[i] by simp [List.getD_eq_getElem?_getD, hi]]
        have := hlen _ (List.getElem_mem hi); omega)
    rw [lens_length, ← hn] at this
    exact this
  rw [hz1]
  by_cases gz : t < 9 + 2 * n
  · rw [if_pos gz, cut (by omega) gz]; rfl
  rw [if_neg gz]
  simp only [takeB, Int.toNat_natCast]
  have hcl : (((lens c.codes).flatMap fun x => be x 2)).length = 2 * n := by rw [show (((lens c.codes).flatMap fun x => be x 2)).length = 2 * (lens c.codes).length from ?_, lens_length, hn]; generalize lens c.codes = L; induction L with | nil => rfl | cons x r ih => simp only [List.flatMap_cons, List.length_append, be_length, ih, List.length_cons]; omega
  have hK9 : ∀ j s, num B (9 + 2 * n + j) s = num K j s := fun j s => by
    rw [hB2, num_app' (8 + 2 * n + j) (by simp; omega), num_app' (7 + 2 * n + j) (by simp; omega), num_app' (6 + 2 * n + j) (by simp; omega), num_app' (5 + 2 * n + j) (by simp; omega), num_app' (3 + 2 * n + j) (by rw [be_length]; omega), num_app' (2 + 2 * n + j) (by simp; omega), num_app' (2 * n + j) (by rw [be_length]; omega), num_app' j (by rw [hcl])]
  have hpre : ([239] ++ ([0] ++ ([1] ++ ([1] ++ (be (4 * (n : Int)) 2 ++ ([2] ++ (be n 2 ++ ((lens c.codes).flatMap fun x => be x 2)))))))).length = 9 + 2 * n := by
    simp only [List.length_append, hcl, be_length, List.length_cons, List.length_nil]; omega
  by_cases gm : m = 0
  · have hp3 : part3 (lens c.subs) = [] := by rw [part3, if_pos (by rw [lens_length]; omega)]
    rw [hp3] at hK
    rw [if_pos gm] at hH
    have hs0 : c.subs = [] := List.eq_nil_of_length_eq_zero (by omega)
    refine readT ht (v := 255) (by rw [show 9 + 2 * n = 9 + 2 * n + 0 from rfl, hK9, hK]; rfl) (cut (by omega)) fun g7 => ?_
    rw [askB_yes (by simp), if_neg (by decide)]
    have := parseEnd_take (H := H) c hm o ([239] ++ ([0] ++ ([1] ++ ([1] ++ (be (4 * (n : Int)) 2 ++ ([2] ++ (be n 2 ++ (((lens c.codes).flatMap fun x => be x 2) ++ [255])))))))) more t (B := B) (by rw [hB2, hK, hS]; simp) ht (by
      simp only [List.length_append, hcl, be_length, List.length_cons, List.length_nil]; omega)
    rw [show ([239] ++ ([0] ++ ([1] ++ ([1] ++ (be (4 * (n : Int)) 2 ++ ([2] ++ (be n 2 ++ (((lens c.codes).flatMap fun x => be x 2) ++ [255]))))))) : List Int).length = 10 + 2 * n by simp only [List.length_append, hcl, be_length, List.length_cons, List.length_nil]; omega, ← hn] at this
    rw [hs0] at this
    exact this
  · have hp3 : part3 (lens c.subs) = [3] ++ (be m 2 ++ ((lens c.subs).flatMap fun x => be x 4)) := by rw [part3, if_neg (by rw [lens_length]; omega), lens_length, hmm]; simp
    have hsl : (((lens c.subs).flatMap fun x => be x 4)).length = 4 * m := by rw [show (((lens c.subs).flatMap fun x => be x 4)).length = 4 * (lens c.subs).length from ?_, lens_length, hmm]; generalize lens c.subs = L; induction L with | nil => rfl | cons x r ih => simp only [List.flatMap_cons, List.length_append, be_length, ih, List.length_cons]; omega
    have hK3 : K = [3] ++ (be m 2 ++ (((lens c.subs).flatMap fun x => be x 4) ++ ([255] ++ (be c.size 2 ++ ([0] ++ S))))) := by rw [hK, hp3]; simp
    rw [if_neg gm] at hH
    refine readT ht (v := 3) (by rw [show 9 + 2 * n = 9 + 2 * n + 0 from rfl, hK9, hK3]; rfl) (cut (by omega)) fun g7 => ?_
    rw [askB_yes (by simp), if_pos rfl]
    refine readT ht (v := (m : Int)) (by rw [show 10 + 2 * n = 9 + 2 * n + 1 by omega, hK9, hK3, num_at (by rfl), num2 _ _ (by omega) (by omega)]) (cut (by omega)) fun g8 => ?_
    rw [askB_yes (by simp; omega)]
    have hz2 : szs (B.take t) 4 (m : Int).toNat (12 + 2 * n) = if t < 12 + 2 * n + 4 * m then .error (50, (t : Int)) else .ok (lens c.subs) := by
      have := szs_take (s := 4) ht (lens c.subs) (12 + 2 * n) (by omega) (fun i hi => by
        rw [lens_length] at hi
        refine ⟨?_, ?_⟩
        · rw [show 12 + 2 * n + 4 * i = 9 + 2 * n + (3 + 4 * i) by omega, hK9, hK3, num_app' (2 + 4 * i) (by simp; omega), num_app' (4 * i) (by rw [be_length])]
          refine num_flat 4 _ (lens c.subs) (fun x hx R' => ?_) i (by rw [lens_length]; exact hi)
          obtain ⟨l, hl, rfl⟩ := List.mem_map.1 hx
          exact num4 _ _ (by omega) (by have := hsub l hl; omega)
        · rw [lens_get _ _ hi, show c.subs.getD i [] = c.subs[i] by simp [List.getD_eq_getElem?_getD, hi]]
          have := hsub _ (List.getElem_mem hi); omega)
      rw [lens_length, ← hmm] at this
      exact this
    rw [hz2]
    by_cases gy : t < 12 + 2 * n + 4 * m
    · rw [if_pos gy, cut (by omega) gy]
    rw [if_neg gy]
    simp only [Int.toNat_natCast]
    refine needT ht (by rw [show 12 + 2 * n + 4 * m = 9 + 2 * n + (3 + 4 * m) by omega, hK9, hK3, num_app' (2 + 4 * m) (by simp; omega), num_app' (4 * m) (by rw [be_length]), num_at (by rw [hsl])]; rfl) (cut (by omega)) fun g9 => ?_
    have := parseEnd_take (H := H) c hm o ([239] ++ ([0] ++ ([1] ++ ([1] ++ (be (4 * (n : Int)) 2 ++ ([2] ++ (be n 2 ++ (((lens c.codes).flatMap fun x => be x 2) ++ ([3] ++ (be m 2 ++ (((lens c.subs).flatMap fun x => be x 4) ++ [255]))))))))))) more t (B := B) (by rw [hB2, hK3, hS]; simp) ht (by
      simp only [List.length_append, hcl, hsl, be_length, List.length_cons, List.length_nil]; omega)
    rw [show ([239] ++ ([0] ++ ([1] ++ ([1] ++ (be (4 * (n : Int)) 2 ++ ([2] ++ (be n 2 ++ (((lens c.codes).flatMap fun x => be x 2) ++ ([3] ++ (be m 2 ++ (((lens c.subs).flatMap fun x => be x 4) ++ [255])))))))))) : List Int).length = 13 + 2 * n + 4 * m by simp only [List.length_append, hcl, hsl, be_length, List.length_cons, List.length_nil]; omega, ← hn] at this
    exact this
end Go.Proofs.Ytkbboepopcebaaa
namespace Go.Proofs.Ytkbboepopcebaaa
open Go.RowKit

theorem drop_be1 {b : List Int} (hy : Byt b) (a : Nat) (h : a + 1 ≤ b.length) : b.drop a = be (num b a 1) 1 ++ b.drop (a + 1) := by
  have h0 := byt_get hy a
  rw [drop_get b a 0 (by omega)]
  simp only [List.getD_eq_getElem?_getD] at h0
  simp [be, num]
  omega
theorem drop_be2 {b : List Int} (hy : Byt b) (a : Nat) (h : a + 2 ≤ b.length) : b.drop a = be (num b a 2) 2 ++ b.drop (a + 2) := by
  have h0 := byt_get hy a
  have h1 := byt_get hy (a + 1)
  rw [drop_get b a 0 (by omega), drop_get b (a + 1) 0 (by omega)]
  simp only [List.getD_eq_getElem?_getD] at h0 h1
  simp [be, num]
  omega
theorem drop_be4 {b : List Int} (hy : Byt b) (a : Nat) (h : a + 4 ≤ b.length) : b.drop a = be (num b a 4) 4 ++ b.drop (a + 4) := by
  have h0 := byt_get hy a
  have h1 := byt_get hy (a + 1)
  have h2 := byt_get hy (a + 2)
  have h3 := byt_get hy (a + 3)
  rw [drop_get b a 0 (by omega), drop_get b (a + 1) 0 (by omega), drop_get b (a + 1 + 1) 0 (by omega), drop_get b (a + 1 + 1 + 1) 0 (by omega)]
  simp only [List.getD_eq_getElem?_getD] at h0 h1 h2 h3
  simp [be, num, Nat.add_assoc]
  omega
theorem needB_inv {α : Type} {b : List Int} {a : Nat} {v er : Int} {k : Except Bad α} {c : α} (h : needB b a v er k = .ok c) : a + 1 ≤ b.length ∧ num b a 1 = v ∧ k = .ok c := by
  unfold needB at h
  split at h
  · cases h
  · split at h
    · exact ⟨by omega, by assumption, h⟩
    · cases h
theorem readB_inv {α : Type} {b : List Int} {a s : Nat} {k : Int → Except Bad α} {c : α} (h : readB b a s k = .ok c) : a + s ≤ b.length ∧ k (num b a s) = .ok c := by
  unfold readB at h
  split at h
  · cases h
  · exact ⟨by omega, h⟩
theorem askB_inv {α : Type} {p : Bool} {er x : Int} {k : Except Bad α} {c : α} (h : askB p er x k = .ok c) : p = true ∧ k = .ok c := by
  unfold askB at h
  split at h
  · exact ⟨by assumption, h⟩
  · cases h
theorem takeB_invP {α β : Type} {x : Except Bad α} {k : α → Except Bad β} {c : β} (h : takeB x k = .ok c) : ∃ a, x = .ok a ∧ k a = .ok c := by
  cases x with
  | ok a => exact ⟨a, rfl, h⟩
  | error e => cases h
theorem szs_inv {b : List Int} {s : Nat} {m : Int} (hd : ∀ a, a + s ≤ b.length → b.drop a = be (num b a s) s ++ b.drop (a + s)) (hb : ∀ a, num b a s ≤ m) : ∀ (n a : Nat) (L : List Int), a ≤ b.length → szs b s n a = .ok L →
    L.length = n ∧ a + s * n ≤ b.length ∧ b.drop a = (L.flatMap fun x => be x s) ++ b.drop (a + s * n) ∧ ∀ x ∈ L, 0 < x ∧ x ≤ m
  | 0, a, L, ha, h => by
    simp only [szs, Except.ok.injEq] at h; subst h; simp; exact ha
  | n + 1, a, L, ha, h => by
    simp only [szs] at h
    split at h
    · cases h
    · split at h
      · cases h
      · split at h
        · rename_i g1 g2 _ l hl
          simp only [Except.ok.injEq] at h
          subst h
          obtain ⟨i1, i2, i3, i4⟩ := szs_inv hd hb n (a + s) l (by omega) hl
          have e : a + s + s * n = a + s * (n + 1) := by rw [Nat.mul_add]; omega
          rw [e] at i2 i3
          refine ⟨by simp [i1], i2, by rw [List.flatMap_cons, List.append_assoc, ← i3]; exact hd a (by omega), fun x hx => ?_⟩
          rcases List.mem_cons.1 hx with rfl | hx
          · exact ⟨by omega, hb a⟩
          · exact i4 x hx
        · cases h
theorem tysR_inv {b : List Int} (hy : Byt b) : ∀ (n a : Nat) (f : Bool) (ts : List Ty), a + 4 * n ≤ b.length → tysR b n f a = .ok ts → ts.length = n ∧ tysOk f ts = true ∧ b.drop a = ts.flatMap tyB ++ b.drop (a + 4 * n)
  | 0, a, f, ts, _, h => by
    simp only [tysR, Except.ok.injEq] at h; subst h; simp [tysOk]
  | n + 1, a, f, ts, ha, h => by
    simp only [tysR] at h
    split at h
    · cases h
    · split at h
      · cases h
      · split at h
        · cases h
        · split at h
          · rename_i g1 g2 g3 _ l hl
            simp only [Except.ok.injEq] at h
            subst h
            obtain ⟨i1, i2, i3⟩ := tysR_inv hy n (a + 4) false l (by omega) hl
            have e : a + 4 + 4 * n = a + 4 * (n + 1) := by omega
            rw [e] at i3
            refine ⟨by simp [i1], by rw [tysOk, i2]; simp only [tyOk]; simp at g1 g2 g3; simp [g1, g2, g3], ?_⟩
            rw [List.flatMap_cons, List.append_assoc, ← i3, tyB, drop_be1 hy a (by omega), drop_be1 hy (a + 1) (by omega), drop_be2 hy (a + 1 + 1) (by omega)]
            simp [Nat.add_assoc]
          · cases h
theorem cutL_inv (b : List Int) : ∀ (L : List Int) (a : Nat), (∀ x ∈ L, 0 < x) → a + L.sum.toNat ≤ b.length → lens (cutL b L a) = L ∧ b.drop a = (cutL b L a).flatten ++ b.drop (a + L.sum.toNat)
  | [], a, _, _ => by simp [cutL, lens]
  | x :: r, a, hx, h => by
    have h0 := hx x (by simp)
    have hs : 0 ≤ r.sum := by
      have : ∀ (l : List Int), (∀ y ∈ l, 0 < y) → 0 ≤ l.sum := by
        intro l
        induction l with
        | nil => intro _; simp
        | cons y t ih => intro hl; have := ih fun z hz => hl z (by simp [hz]); have := hl y (by simp); simp; omega
      exact this r fun y hy => hx y (by simp [hy])
    rw [List.sum_cons] at h ⊢
    obtain ⟨i1, i2⟩ := cutL_inv b r (a + x.toNat) (fun y hy => hx y (by simp [hy])) (by omega)
    have e : a + x.toNat + r.sum.toNat = a + (x + r.sum).toNat := by omega
    rw [e] at i2
    have hl : ((b.drop a).take x.toNat).length = x.toNat := by simp; omega
    refine ⟨?_, ?_⟩
    · show (((b.drop a).take x.toNat).length : Int) :: lens (cutL b r (a + x.toNat)) = _
      rw [i1, hl]
      congr 1
      omega
    · show b.drop a = (((b.drop a).take x.toNat) :: cutL b r (a + x.toNat)).flatten ++ _
      rw [List.flatten_cons, List.append_assoc, ← i2, ← List.drop_drop, List.take_append_drop]
theorem num_bd2 {b : List Int} (hy : Byt b) (a : Nat) : num b a 2 ≤ 65535 := by have := (num_bd hy a 2).2; omega
theorem num_bd4 {b : List Int} (hy : Byt b) (a : Nat) : num b a 4 ≤ 4294967295 := by have := (num_bd hy a 4).2; omega
structure EndOk (b : List Int) (codes subs : List Int) (a n : Nat) (c : Cont) : Prop where
  drop : b.drop a = be c.size 2 ++ ([0] ++ (c.types.flatMap tyB ++ (c.codes.flatten ++ (c.subs.flatten ++ c.data))))
  codes : lens c.codes = codes
  subs : lens c.subs = subs
  tys : tysOk true c.types = true
  types : c.types.length = n
  data : (c.data.length : Int) ≤ c.size
  size : c.size ≤ 65535
theorem sumP {l : List Int} (h : ∀ y ∈ l, 0 < y) : 0 ≤ l.sum := by
  induction l with
  | nil => simp
  | cons y t ih => have := ih fun z hz => h z (by simp [hz]); have := h y (by simp); simp; omega
theorem end_inv {b : List Int} (hy : Byt b) {o : Bool} {n : Nat} {codes subs : List Int} {a : Nat} {c : Cont} (hc : ∀ x ∈ codes, 0 < x) (hs : ∀ x ∈ subs, 0 < x) (h : parseEnd b o (4 * (n : Int)) n codes subs a = .ok c) : EndOk b codes subs a n c := by
  unfold parseEnd at h
  obtain ⟨l1, h⟩ := readB_inv h
  obtain ⟨l2, z0, h⟩ := needB_inv h
  have c0 := sumP hc
  have s0 := sumP hs
  split at h
  · cases h
  · rename_i g
    have g1 : ¬ (b.length : Int) < (a + 3 : Nat) + 4 * (n : Int) + codes.sum + subs.sum := fun e => g (.inl e)
    obtain ⟨g2, h⟩ := askB_inv h
    simp only [decide_eq_true_eq] at g2
    obtain ⟨ts, ht, h⟩ := takeB_invP h
    simp only [Int.toNat_natCast] at h ht
    simp only [Except.ok.injEq] at h
    obtain ⟨t1, t2, t3⟩ := tysR_inv hy n (a + 3) true ts (by omega) ht
    obtain ⟨u1, u2⟩ := cutL_inv b codes (a + 3 + 4 * n) hc (by omega)
    obtain ⟨v1, v2⟩ := cutL_inv b subs (a + 3 + 4 * n + codes.sum.toNat) hs (by omega)
    subst h
    refine ⟨?_, u1, v1, t2, t1, ?_, num_bd2 hy a⟩
    · show b.drop a = be (num b a 2) 2 ++ ([0] ++ (ts.flatMap tyB ++ ((cutL b codes (a + 3 + 4 * n)).flatten ++ ((cutL b subs (a + 3 + 4 * n + codes.sum.toNat)).flatten ++ b.drop (a + 3 + 4 * n + codes.sum.toNat + subs.sum.toNat)))))
      rw [← v2, ← u2, ← t3, drop_be2 hy a (by omega), drop_be1 hy (a + 2) (by omega), z0]
      rfl
    · show ((b.drop (a + 3 + 4 * n + codes.sum.toNat + subs.sum.toNat)).length : Int) ≤ num b a 2
      rw [List.length_drop]
      omega
theorem parts_ok (most : Int) : ∀ (ll : List (List Int)), (∀ l ∈ ll, 0 < l.length ∧ (l.length : Int) ≤ most) → partsErr most ll = 0
  | [], _ => rfl
  | a :: r, h => by
    have h1 := h a (by simp)
    rw [partsErr, if_neg (by omega), if_neg (by omega)]
    exact parts_ok most r fun l hl => h l (by simp [hl])
theorem of_may {c : Cont} (h : May c) : checkErr c = 0 := by
  have h1 := parts_ok 65535 c.codes fun l hl => by have := h.code l hl; omega
  have h2 := parts_ok 4294967295 c.subs fun l hl => by have := h.sub l hl; omega
  have g1 := h.codes1
  have g2 := h.codes2
  have g3 := h.types
  have g4 := h.subs
  have g5 := h.size
  have g6 := h.data
  unfold checkErr tysErr
  rw [if_neg (by omega), if_neg (by omega), h1, if_neg (by omega), if_neg (by omega), h2, if_neg (by omega), if_neg (by omega), if_neg (by omega), h.tys]
  rfl
theorem lens_ok {ll : List (List Int)} {m : Int} (h : ∀ x ∈ lens ll, 0 < x ∧ x ≤ m) : ∀ l ∈ ll, 0 < l.length ∧ (l.length : Int) ≤ m := fun l hl => by
  have := h l.length (List.mem_map.2 ⟨l, hl, rfl⟩); omega
set_option maxHeartbeats 1000000 in
theorem parse_inv {b : List Int} (hy : Byt b) {o : Bool} {c : Cont} (h : parse b o = .ok c) : May c ∧ serB c = b := by
  unfold parse at h
  obtain ⟨_, z0, h⟩ := needB_inv h
  obtain ⟨_, z1, h⟩ := needB_inv h
  obtain ⟨_, z2, h⟩ := needB_inv h
  obtain ⟨_, z3, h⟩ := needB_inv h
  obtain ⟨l4, h⟩ := readB_inv h
  obtain ⟨z4, h⟩ := askB_inv h
  obtain ⟨l6, z6, h⟩ := needB_inv h
  obtain ⟨l7, h⟩ := readB_inv h
  obtain ⟨z7, h⟩ := askB_inv h
  simp only [decide_eq_true_eq] at z4 z7
  obtain ⟨cl, hcl, h⟩ := takeB_invP h
  have b7 := num_bd hy 7 2
  obtain ⟨n, hn⟩ : ∃ n : Nat, num b 7 2 = n := ⟨(num b 7 2).toNat, by omega⟩
  rw [hn] at h hcl z7
  rw [← z7] at h z4
  simp only [Int.toNat_natCast] at h hcl
  have hx4 : be (num b 4 2) 2 = be (4 * (n : Int)) 2 := by rw [← z7]
  have hx7 : be (num b 7 2) 2 = be (n : Int) 2 := by rw [hn]
  obtain ⟨c1, c2, c3, c4⟩ := szs_inv (m := 65535) (fun a ha => drop_be2 hy a ha) (num_bd2 hy) n 9 cl (by omega) hcl
  obtain ⟨l8, h⟩ := readB_inv h
  obtain ⟨z8, h⟩ := askB_inv h
  simp only [decide_eq_true_eq] at z8
  have hpre : b = [239, 0, 1, 1] ++ (be (4 * (n : Int)) 2 ++ ([2] ++ (be n 2 ++ ((cl.flatMap fun x => be x 2) ++ b.drop (9 + 2 * n))))) := by
    have e0 : b = b.drop 0 := rfl
    rw [← c3]
    conv => lhs; rw [e0, drop_be1 hy 0 (by omega), drop_be1 hy (0 + 1) (by omega), drop_be1 hy (0 + 1 + 1) (by omega), drop_be1 hy (0 + 1 + 1 + 1) (by omega), drop_be2 hy (0 + 1 + 1 + 1 + 1) (by omega), drop_be1 hy (0 + 1 + 1 + 1 + 1 + 2) (by omega), drop_be2 hy (0 + 1 + 1 + 1 + 1 + 2 + 1) (by omega)]
    show be (num b 0 1) 1 ++ (be (num b 1 1) 1 ++ (be (num b 2 1) 1 ++ (be (num b 3 1) 1 ++ (be (num b 4 2) 2 ++ (be (num b 6 1) 1 ++ (be (num b 7 2) 2 ++ b.drop 9)))))) = _
    rw [z0, z1, z2, z3, z6, hx4, hx7]
    rfl
  split at h
  · rename_i h3
    obtain ⟨l10, h⟩ := readB_inv h
    obtain ⟨z10, h⟩ := askB_inv h
    simp only [decide_eq_true_eq] at z10
    obtain ⟨sl, hsl, h⟩ := takeB_invP h
    obtain ⟨m, hm⟩ : ∃ m : Nat, num b (10 + 2 * n) 2 = m := ⟨(num b (10 + 2 * n) 2).toNat, by omega⟩
    rw [hm] at h hsl z10
    simp only [Int.toNat_natCast] at h hsl
    obtain ⟨s1, s2, s3, s4⟩ := szs_inv (m := 4294967295) (fun a ha => drop_be4 hy a ha) (num_bd4 hy) m (12 + 2 * n) sl (by omega) hsl
    obtain ⟨l12, z12, h⟩ := needB_inv h
    have e := end_inv hy (fun x hx => (c4 x hx).1) (fun x hx => (s4 x hx).1) h
    have f1 := e.codes
    have f2 := e.subs
    have n1 : c.codes.length = n := by rw [← lens_length, f1, c1]
    have n2 : c.subs.length = m := by rw [← lens_length, f2, s1]
    have n3 := e.types
    rw [← f1] at c4
    rw [← f2] at s4
    refine ⟨⟨by omega, by omega, by omega, fun l hl => by have := lens_ok c4 l hl; omega, by omega, fun l hl => by have := lens_ok s4 l hl; omega, e.size, e.data, e.tys⟩, ?_⟩
    rw [hpre, drop_be1 hy (9 + 2 * n) (by omega), h3, show 9 + 2 * n + 1 = 10 + 2 * n by omega, drop_be2 hy (10 + 2 * n) (by omega), hm, show 10 + 2 * n + 2 = 12 + 2 * n by omega, s3, drop_be1 hy (12 + 2 * n + 4 * m) (by omega), z12,
      show 12 + 2 * n + 4 * m + 1 = 13 + 2 * n + 4 * m by omega, e.drop]
    unfold serB headB
    rw [part3, if_neg (by rw [lens_length]; omega), lens_length, lens_length, n1, n2, f1, f2]
    simp [be]
  · rename_i h3
    have e := end_inv hy (fun x hx => (c4 x hx).1) (by simp) h
    have f1 := e.codes
    have f2 := e.subs
    have n1 : c.codes.length = n := by rw [← lens_length, f1, c1]
    have n2 : c.subs.length = 0 := by rw [← lens_length, f2]; rfl
    have n3 := e.types
    have n4 : c.subs = [] := List.eq_nil_of_length_eq_zero n2
    rw [← f1] at c4
    refine ⟨⟨by omega, by omega, by omega, fun l hl => by have := lens_ok c4 l hl; omega, by omega, fun l hl => by rw [n4] at hl; simp at hl, e.size, e.data, e.tys⟩, ?_⟩
    have h5 : num b (9 + 2 * n) 1 = 255 := by omega
    rw [hpre, drop_be1 hy (9 + 2 * n) (by omega), h5, show 9 + 2 * n + 1 = 10 + 2 * n by omega, e.drop]
    unfold serB headB
    rw [part3, if_pos (by rw [lens_length]; omega), lens_length, n1, f1]
    simp [be]
/-- A refusal: not nothing, and within the bytes or at their end. -/
def Far (b : List Int) (x : Bad) : Prop := x.1 ≠ 0 ∧ 0 ≤ x.2 ∧ x.2 ≤ b.length
def FarB {α : Type} (b : List Int) (x : Except Bad α) : Prop := ∀ e, x = .error e → Far b e
theorem far_need {α : Type} {b : List Int} {a : Nat} {v er : Int} {k : Except Bad α} (he : er ≠ 0) (h : a + 1 ≤ b.length → num b a 1 = v → FarB b k) : FarB b (needB b a v er k) := fun e hh => by
  unfold needB at hh
  split at hh
  · cases hh; exact ⟨by simp, by simp, by simp⟩
  · split at hh
    · exact h (by omega) (by assumption) e hh
    · cases hh; exact ⟨he, by simp, by show (a : Int) ≤ _; omega⟩
theorem far_read {α : Type} {b : List Int} {a s : Nat} {k : Int → Except Bad α} (h : a + s ≤ b.length → FarB b (k (num b a s))) : FarB b (readB b a s k) := fun e hh => by
  unfold readB at hh
  split at hh
  · cases hh; exact ⟨by simp, by simp, by simp⟩
  · exact h (by omega) e hh
theorem far_ask {α : Type} {b : List Int} {p : Bool} {er y : Int} {k : Except Bad α} (he : er ≠ 0) (hf : p = false → 0 ≤ y ∧ y ≤ b.length) (h : p = true → FarB b k) : FarB b (askB p er y k) := fun e hh => by
  unfold askB at hh
  split at hh
  · exact h (by assumption) e hh
  · cases hh; rename_i hp; exact ⟨he, hf (by simpa using hp)⟩
theorem far_take {α β : Type} {b : List Int} {x : Except Bad α} {k : α → Except Bad β} (hx : FarB b x) (h : ∀ a, x = .ok a → FarB b (k a)) : FarB b (takeB x k) := fun e hh => by
  cases x with
  | ok a => exact h a rfl e hh
  | error d => cases hh; exact hx _ rfl
theorem far_szs {b : List Int} {s : Nat} : ∀ (n a : Nat), FarB b (szs b s n a)
  | 0, a, e, h => by simp [szs] at h
  | n + 1, a, e, h => by
    simp only [szs] at h
    split at h
    · cases h; exact ⟨by simp, by simp, by simp⟩
    · split at h
      · cases h; exact ⟨by simp, by simp, by show (a : Int) ≤ _; omega⟩
      · split at h
        · cases h
        · rename_i d hd; cases h; exact far_szs n (a + s) _ hd
theorem far_tys {b : List Int} : ∀ (n a : Nat) (f : Bool), a + 4 * n ≤ b.length → FarB b (tysR b n f a)
  | 0, a, f, _, e, h => by simp [tysR] at h
  | n + 1, a, f, ha, e, h => by
    simp only [tysR] at h
    split at h
    · cases h; exact ⟨by simp, by simp, by show (a : Int) ≤ _; omega⟩
    · split at h
      · cases h; exact ⟨by simp, by simp; omega, by show (a : Int) + 1 ≤ _; omega⟩
      · split at h
        · cases h; exact ⟨by simp, by simp; omega, by show (a : Int) + 2 ≤ _; omega⟩
        · split at h
          · cases h
          · rename_i d hd; cases h; exact far_tys n (a + 4) false (by omega) _ hd
theorem far_end {b : List Int} (hy : Byt b) {o : Bool} {n : Nat} {codes subs : List Int} {a : Nat} (hc : ∀ x ∈ codes, 0 < x) (hs : ∀ x ∈ subs, 0 < x) : FarB b (parseEnd b o (4 * (n : Int)) n codes subs a) := by
  unfold parseEnd
  have c0 := sumP hc
  have s0 := sumP hs
  refine far_read fun h1 => far_need (by simp) fun h2 _ => ?_
  have hz := (num_bd hy a 2).1
  split
  · intro e hh; cases hh; exact ⟨by simp, by simp, by simp⟩
  · rename_i g
    have g1 : ¬ (b.length : Int) < (a + 3 : Nat) + 4 * (n : Int) + codes.sum + subs.sum := fun e => g (.inl e)
    refine far_ask (by simp) (fun hp => by simp only [decide_eq_false_iff_not] at hp; omega) fun hp => far_take (by
      simp only [Int.toNat_natCast]
      exact far_tys _ _ _ (by omega)) fun ts _ e hh => by cases hh
theorem parse_far {b : List Int} (hy : Byt b) (o : Bool) : FarB b (parse b o) := by
  unfold parse
  refine far_need (by simp) fun _ _ => far_need (by simp) fun _ _ => far_need (by simp) fun _ _ => far_need (by simp) fun _ _ => far_read fun l4 => far_ask (by simp) (fun _ => by omega) fun p4 => far_need (by simp) fun l6 _ => far_read fun l7 => far_ask (by simp) (fun _ => by omega) fun p7 => ?_
  simp only [decide_eq_true_eq] at p4 p7
  have b7 := num_bd hy 7 2
  obtain ⟨n, hn⟩ : ∃ n : Nat, num b 7 2 = n := ⟨(num b 7 2).toNat, by omega⟩
  rw [hn] at p7 ⊢
  rw [← p7]
  simp only [Int.toNat_natCast]
  refine far_take (far_szs _ _) fun cl hcl => ?_
  obtain ⟨c1, c2, c3, c4⟩ := szs_inv (m := 65535) (fun a ha => drop_be2 hy a ha) (num_bd2 hy) n 9 cl (by omega) hcl
  refine far_read fun l8 => far_ask (by simp) (fun _ => by omega) fun p8 => ?_
  split
  · refine far_read fun l10 => far_ask (by simp) (fun _ => by omega) fun p10 => ?_
    simp only [decide_eq_true_eq] at p10
    obtain ⟨m, hm⟩ : ∃ m : Nat, num b (10 + 2 * n) 2 = m := ⟨(num b (10 + 2 * n) 2).toNat, by omega⟩
    rw [hm]
    simp only [Int.toNat_natCast]
    refine far_take (far_szs _ _) fun sl hsl => ?_
    obtain ⟨s1, s2, s3, s4⟩ := szs_inv (m := 4294967295) (fun a ha => drop_be4 hy a ha) (num_bd4 hy) m (12 + 2 * n) sl (by omega) hsl
    exact far_need (by simp) fun _ _ => far_end hy (fun x hx => (c4 x hx).1) (fun x hx => (s4 x hx).1)
  · exact far_end hy (fun x hx => (c4 x hx).1) (by simp)
/-- Parse of the bytes that Serialize writes. -/
theorem parse_ser {c : Cont} (h : May c) (o : Bool) : parse (serB c) o = if o = false ∧ (c.data.length : Int) < c.size then .error (50, ((serB c).length : Int)) else .ok c := by
  have hd := h.data
  have e : serB c = headB (lens c.codes) (lens c.subs) c.size ++ (c.types.flatMap tyB ++ (c.codes.flatten ++ (c.subs.flatten ++ c.data))) := by unfold serB; simp
  have hp := parse_take c h o (serB c) c.data e (serB c).length (Nat.le_refl _) _ rfl
  rw [List.take_length] at hp
  rw [hp]
  have hl : (serB c).length = (headB (lens c.codes) (lens c.subs) c.size).length + 4 * c.codes.length + sumL c.codes + sumL c.subs + c.data.length := by
    rw [e]; simp only [List.length_append, tysB_length, h.types, sumL]; omega
  unfold rT
  by_cases g : o = false ∧ (c.data.length : Int) < c.size
  · rw [if_pos (.inr ⟨g.1, by omega⟩), if_pos g]
  · rw [if_neg (fun x => g (by rcases x with x | ⟨x, y⟩; exact absurd x (by omega); exact ⟨x, by omega⟩)), if_pos (by omega), if_neg g, List.take_length]
    have hx : (serB c).drop ((headB (lens c.codes) (lens c.subs) c.size).length + 4 * c.codes.length + sumL c.codes + sumL c.subs) = c.data := by
      have e2 : serB c = (headB (lens c.codes) (lens c.subs) c.size ++ (c.types.flatMap tyB ++ (c.codes.flatten ++ c.subs.flatten))) ++ c.data := by rw [e]; simp
      rw [e2, show (headB (lens c.codes) (lens c.subs) c.size).length + 4 * c.codes.length + sumL c.codes + sumL c.subs = (headB (lens c.codes) (lens c.subs) c.size ++ (c.types.flatMap tyB ++ (c.codes.flatten ++ c.subs.flatten))).length by
        simp only [List.length_append, tysB_length, h.types, sumL]; omega, List.drop_left]
    rw [hx]
end Go.Proofs.Ytkbboepopcebaaa
