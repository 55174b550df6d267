/- The reader's methods: next, ask, want. -/
import Derived.Test.YtkbboepopcebaaaF
import Derived.WalkLawsBesides
import Derived.Laws.BitsLemmas
import Derived.Laws.Bits64
namespace Go.Proofs.Ytkbboepopcebaaa
open Go.RowKit

/-- The number that stands at a place, in so many bytes. -/
def num (b : List Int) (a : Nat) : Nat → Int
  | 0 => 0
  | s + 1 => num b a s * 256 + b.getD (a + s) 0
/-- The reader lies in block R: its bytes, its place. -/
structure RdAt (w : World) (R : Nat) (A : Option Addr) (n c : Nat) (a : Int) : Prop where
  bytes : w.cell? ⟨R, 0, none⟩ = some (.slice A n c)
  place : w.cell? ⟨R, 1, none⟩ = some (.int .i64 a)
  free : w.frozen? ⟨R, 1, none⟩ = false
def Byt (b : List Int) : Prop := ∀ x ∈ b, 0 ≤ x ∧ x ≤ 255
theorem byt_get {b : List Int} (h : Byt b) (k : Nat) : 0 ≤ b.getD k 0 ∧ b.getD k 0 ≤ 255 := by
  rcases Nat.lt_or_ge k b.length with hk | hk
  · have e : b.getD k 0 = b[k] := by simp [List.getD_eq_getElem?_getD, hk]
    rw [e]; exact h _ (List.getElem_mem _)
  · have e : b.getD k 0 = 0 := by simp [List.getD_eq_getElem?_getD, hk]
    rw [e]; omega
theorem num_bd {b : List Int} (h : Byt b) (a : Nat) : ∀ s, 0 ≤ num b a s ∧ num b a s < 256 ^ s
  | 0 => by simp [num]
  | s + 1 => by
    have h1 := num_bd h a s
    have h2 := byt_get h (a + s)
    simp only [num, Int.pow_succ]
    omega

theorem wraps_i64 : ∀ n : Int, 0 ≤ n → n < 2 ^ 63 → IntKind.i64.wrap n = n := by
  intro n h0 h1
  have : (2 : Int) ^ 63 = 9223372036854775808 := by decide
  exact IntWalk.i64_in _ (by omega)
theorem or_i64 (x y : Int) (h0 : 0 ≤ x) (h1 : x < 16777216) (h2 : 0 ≤ y) (h3 : y ≤ 255) : bits .or .i64 (x * 256) y = x * 256 + y := by
  have e : (2 : Int) ^ 63 = 9223372036854775808 := by decide
  have e2 : (2 : Int) ^ 8 = 256 := by decide
  exact bits_join .i64 63 (by decide) wraps_i64 8 _ _ (by omega) (by rw [e2]; omega) (by rw [e]; omega) h2 (by rw [e2]; omega) (by rw [e]; omega)
theorem grown_setCell (w : World) (R o : Nat) (v : Value) : w.grownBy (w.setCell ⟨R, o, none⟩ v) (some R) := by
  refine ⟨rfl, rfl, rfl, ?_, fun k hk hne => ?_⟩
  · simp [World.setCell]
  · exact Below.heap_setCell w _ _ k (fun e => hne (by rw [e]))
theorem grown_drewN (w : World) (r : Option Nat) (n : Nat) : w.grownBy (w.drewN n) r := ⟨rfl, rfl, rfl, Nat.le_refl _, fun _ _ _ => rfl⟩
theorem grown_trans {w w1 w2 : World} {r : Option Nat} (h : w.grownBy w1 r) (k : w1.grownBy w2 r) : w.grownBy w2 r :=
  ⟨k.os.trans h.os, k.tape.trans h.tape, k.output.trans h.output, Nat.le_trans h.size k.size, fun i hi hne => (k.block i (Nat.lt_of_lt_of_le hi h.size) hne).trans (h.block i hi hne)⟩
/-- The place is moved. -/
theorem rd_move {w : World} {R : Nat} {A : Option Addr} {n c : Nat} {a : Int} (h : RdAt w R A n c a) (a' : Int) : RdAt (w.setCell ⟨R, 1, none⟩ (.int .i64 a')) R A n c a' :=
  ⟨by rw [World.cell?_setCell_other _ _ _ _ (by simp)]; exact h.bytes, World.cell?_setCell_same _ _ _ h.place, by rw [World.frozen?_setCell]; exact h.free⟩
theorem rd_keep {w w1 : World} {R : Nat} {A : Option Addr} {n c : Nat} {a : Int} (h : RdAt w R A n c a) (hb : Below w.heap.size w w1) : RdAt w1 R A n c a :=
  ⟨cell_keep hb h.bytes, cell_keep hb h.place, (hb.frozen (World.block_lt_of_cell? w _ h.place)).trans h.free⟩

set_option maxRecDepth 100000 in
set_option maxHeartbeats 1000000 in
theorem next_ok (w0 : World) (R : Nat) (A : Option Addr) (n c : Nat) (a sz : Int) (b : List Int) (w : World) (hb : NumsR w0 .u8 A b) (hy : Byt b) (hn : b.length = n) (hB : Below w0.heap.size w0 w) (hR : w0.heap.size ≤ R) (hr : RdAt w R A n c a)
    (h0 : 0 ≤ a) (h1 : 0 ≤ sz) (h2 : sz ≤ 4) (h3 : a + sz ≤ n) :
    Calls Try.prog 53 #[.pointer (some ⟨R, 0, none⟩), .int .i64 sz] w fun e w' => e = .returned (.tuple #[.int .i64 (num b a.toNat sz.toNat), .int .i64 a]) ∧ RdAt w' R A n c (a + sz) ∧ w.grownBy w' (some R) := by
  have HB := Lib.hid hb; clear hb
  have HY := Lib.hid hy; clear hy
  have HN := Lib.hid hn; clear hn
  have HBL := Lib.hid hB; clear hB
  have hmx : n ≤ 140737488351232 := by have := HB.out.1; have := HN.out; unfold reach at *; omega
  have HMX := Lib.hid hmx; clear hmx
  have hmx2 : (n : Int) ≤ 9223372036854775000 := by have := HMX.out; omega
  obtain ⟨r0, r1, rf⟩ := hr
  go_enter Try.func53, Try.ntmps53
  go_wp2
  go_loopw [4, 27] (fun v i wr => ∃ (t : Nat) (x : Int), (t : Int) ≤ sz ∧ i = .int .i64 t ∧ v = .int .i64 x ∧ 0 ≤ x ∧ x < 256 ^ t ∧ Hid (x = num b a.toNat t) ∧ RdAt wr R A n c (a + t) ∧ w.grownBy wr (some R)) (fun _ i _ => (sz - intOf i).toNat)
  case atStart => exact ⟨0, 0, by omega, rfl, rfl, by omega, by simp, Lib.hid rfl, ⟨r0, by simpa using r1, rf⟩, ⟨rfl, rfl, rfl, Nat.le_refl _, fun _ _ _ => rfl⟩⟩
  case round =>
    obtain ⟨t, x, ht, rfl, rfl, x0, x1, hx, hrd, hg⟩ := hrel
    have HG := Lib.hid hg
    clear hg r0 r1 rf
    obtain ⟨r0, r1, rf⟩ := hrd
    by_cases hlt : (t : Int) < sz
    · have hlen : (a + t).toNat < b.length := by have := HN.out; omega
      have hbw : Below w0.heap.size w0 wr := HBL.out.grown HG.out (by have := HBL.out.size; omega) (by rintro k ⟨⟩; omega)
      obtain ⟨b1, o1, hA, hc⟩ := (HB.out.mono hbw).2 (by omega)
      subst hA
      have hcell := hc (a + t).toNat hlen
      clear hc
      have hy := byt_get HY.out (a + t).toNat
      obtain ⟨y, hyy⟩ : ∃ y, y = b.getD (a + t).toNat 0 := ⟨_, rfl⟩
      rw [← hyy] at hcell hy
      obtain ⟨y0, y1⟩ := hy
      have HYY := Lib.hid hyy
      have i0 : 0 ≤ a + (t : Int) := by omega
      have i1 : a + (t : Int) < (n : Int) := by omega
      have x2 : x < 16777216 := by
        have : (256 : Int) ^ t ≤ 256 ^ 3 := by
          have ht3 : t ≤ 3 := by omega
          rcases (show t = 0 ∨ t = 1 ∨ t = 2 ∨ t = 3 by omega) with rfl | rfl | rfl | rfl <;> decide
        omega
      clear hyy
      go_wp2
      go_quiet (fail)
      go_wp2
      go_roundw
      case rel =>
        refine ⟨t + 1, x * 256 + y, by omega, by go_num, ?_, by omega, ?_, Lib.hid ?_, ?_, ?_⟩
        · rw [or_i64 x y x0 x2 y0 y1]
        · rw [Int.pow_succ]; omega
        · rw [num, ← hx.out, HYY.out, show (a + (t : Int)).toNat = a.toNat + t by omega]
        · have h9 := rd_move (rd_keep ⟨r0, r1, rf⟩ (below_drewN (Below.refl _ _) nq)) (a + (t : Int) + 1)
          rw [show a + ((t + 1 : Nat) : Int) = a + (t : Int) + 1 by omega]
          exact h9
        · exact grown_trans HG.out (grown_trans (grown_drewN _ _ _) (grown_setCell _ _ _ _))
      case measure => simp [intOf]; omega
    · obtain rfl : sz = (t : Int) := by omega
      go_wp2
      go_ret2
      exact ⟨by rw [hx.out]; simp, ⟨r0, r1, rf⟩, HG.out⟩

/-- What the reader gives up with. -/
def wrongV (code at_ : Int) : PanicEntry := { v := .iface 83 (.agg #[.int .i64 code, .int .i64 at_]), recovered := false }

set_option maxRecDepth 100000 in
theorem next_cut (R : Nat) (A : Option Addr) (n c : Nat) (a sz : Int) (w : World) (hr : RdAt w R A n c a) (hn : (n : Int) ≤ 140737488351232)
    (h0 : 0 ≤ a) (h00 : a ≤ n) (h1 : 0 ≤ sz) (h2 : sz ≤ 4) (h3 : (n : Int) < a + sz) :
    Calls Try.prog 53 #[.pointer (some ⟨R, 0, none⟩), .int .i64 sz] w fun e w' => e = .panicked [wrongV 50 n] ∧ w = w' := by
  obtain ⟨r0, r1, rf⟩ := hr
  go_enter Try.func53, Try.ntmps53
  go_wp2
  exact ⟨rfl, rfl, rfl⟩
set_option maxRecDepth 100000 in
theorem ask_yes (p : Value) (e a : Int) (w : World) : Calls Try.prog 54 #[p, .bool true, .int .i64 e, .int .i64 a] w fun e w' => e = .returned (.tuple #[]) ∧ w = w' := by
  go_enter Try.func54, Try.ntmps54
  go_wp2
  go_end0
  exact ⟨rfl, rfl⟩
set_option maxRecDepth 100000 in
theorem ask_no (p : Value) (e a : Int) (w : World) : Calls Try.prog 54 #[p, .bool false, .int .i64 e, .int .i64 a] w fun q w' => q = .panicked [wrongV e a] ∧ w = w' := by
  go_enter Try.func54, Try.ntmps54
  go_wp2
  exact ⟨rfl, rfl, rfl⟩

set_option maxRecDepth 100000 in
theorem want_yes (w0 : World) (R : Nat) (A : Option Addr) (n c : Nat) (a v er : Int) (b : List Int) (w : World) (hb : NumsR w0 .u8 A b) (hy : Byt b) (hn : b.length = n) (hB : Below w0.heap.size w0 w) (hR : w0.heap.size ≤ R) (hr : RdAt w R A n c a)
    (h0 : 0 ≤ a) (h3 : a + 1 ≤ n) (hv : num b a.toNat 1 = v) :
    Calls Try.prog 52 #[.pointer (some ⟨R, 0, none⟩), .int .i64 v, .int .i64 er] w fun e w' => e = .returned (.tuple #[]) ∧ RdAt w' R A n c (a + 1) ∧ w.grownBy w' (some R) := by
  have hc := next_ok w0 R A n c a 1 b w hb hy hn hB hR hr h0 (by omega) (by omega) (by omega)
  rw [show (1 : Int).toNat = 1 from rfl, hv] at hc
  have HC := Lib.hid hc
  clear hc hv hr hB hn hy hb
  go_enter Try.func52, Try.ntmps52
  go_wp2_with fail
  refine HC.out.mono ?_
  rintro e w1 ⟨rfl, h1, h2⟩
  have H1 := Lib.hid h1
  have H2 := Lib.hid h2
  clear h1 h2
  go_wp2_with fail
  refine (ask_yes _ _ _ _).mono ?_
  rintro e w2 ⟨rfl, rfl⟩
  go_wp2
  go_end0
  exact ⟨rfl, H1.out, H2.out⟩
set_option maxRecDepth 100000 in
theorem want_no (w0 : World) (R : Nat) (A : Option Addr) (n c : Nat) (a v er x : Int) (b : List Int) (w : World) (hb : NumsR w0 .u8 A b) (hy : Byt b) (hn : b.length = n) (hB : Below w0.heap.size w0 w) (hR : w0.heap.size ≤ R) (hr : RdAt w R A n c a)
    (h0 : 0 ≤ a) (h3 : a + 1 ≤ n) (hx : num b a.toNat 1 = x) (hv : ¬ x = v) :
    Calls Try.prog 52 #[.pointer (some ⟨R, 0, none⟩), .int .i64 v, .int .i64 er] w fun e w' => e = .panicked [wrongV er a] ∧ w.grownBy w' (some R) := by
  have hc := next_ok w0 R A n c a 1 b w hb hy hn hB hR hr h0 (by omega) (by omega) (by omega)
  rw [show (1 : Int).toNat = 1 from rfl, hx] at hc
  have HC := Lib.hid hc
  have hq : (x == v) = false := by simp [hv]
  have HV := Lib.hid hv
  clear hc hx hr hB hn hy hb hv
  go_enter Try.func52, Try.ntmps52
  go_wp2_with fail
  refine HC.out.mono ?_
  rintro e w1 ⟨rfl, h1, h2⟩
  have H2 := Lib.hid h2
  clear h1 h2
  go_wp2_with fail
  refine (ask_no _ _ _ _).mono ?_
  rintro e w2 ⟨rfl, rfl⟩
  exact ⟨rfl, rfl, H2.out⟩
set_option maxRecDepth 100000 in
theorem want_cut (R : Nat) (A : Option Addr) (n c : Nat) (a v er : Int) (w : World) (hr : RdAt w R A n c a) (hn : (n : Int) ≤ 140737488351232) (h0 : 0 ≤ a) (h00 : a ≤ n) (h3 : (n : Int) < a + 1) :
    Calls Try.prog 52 #[.pointer (some ⟨R, 0, none⟩), .int .i64 v, .int .i64 er] w fun e w' => e = .panicked [wrongV 50 n] ∧ w = w' := by
  have HC := Lib.hid (next_cut R A n c a 1 w hr hn h0 h00 (by omega) (by omega) h3)
  clear hr
  go_enter Try.func52, Try.ntmps52
  go_wp2_with fail
  refine HC.out.mono ?_
  rintro e w1 ⟨rfl, rfl⟩
  exact ⟨rfl, rfl, rfl⟩
end Go.Proofs.Ytkbboepopcebaaa
