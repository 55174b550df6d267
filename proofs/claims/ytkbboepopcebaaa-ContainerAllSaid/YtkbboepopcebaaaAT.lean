/- The reader's methods: next, ask, want. -/
import Derived.Test.YtkbboepopcebaaaF
import Derived.WalkLawsBesides
import Derived.Laws.BitsLemmas
import Derived.Laws.Bits64
import Derived.ProofKit
import Derived.OpenShut
import Derived.SizedLaws
import Derived.Deep.Slices
import Derived.Test.YtkbboepopcebaaaRows
import Derived.Below
import Derived.ChangeSame
import Derived.Carry
namespace Go.Proofs.Ytkbboepopcebaaa
open Go.RowKit

/-- The number that stands at a place, in so many bytes. -/
def num (b : List Int) (a : Nat) : Nat → Int
  | 0 => 0
  | s + 1 => num b a s * 256 + b.getD (a + s) 0
/-- The reader lies in block R: its bytes, its place. -/
structure RdAt (w : World) (R : Nat) (A : Option Addr) (n c : Nat) (a : Int) : Prop where
  bytes : w.cell? ⟨R, 0, none⟩ = some (.slice A n c)
  place : w.cell? ⟨R, 1, none⟩ = some (.int .i64 a)
  free : w.frozen? ⟨R, 1, none⟩ = false
def Byt (b : List Int) : Prop := ∀ x ∈ b, 0 ≤ x ∧ x ≤ 255
theorem byt_get {b : List Int} (h : Byt b) (k : Nat) : 0 ≤ b.getD k 0 ∧ b.getD k 0 ≤ 255 := by
  rcases Nat.lt_or_ge k b.length with hk | hk
  · have e : b.getD k 0 = b[k] := by simp [List.getD_eq_getElem?_getD, hk]
    rw [e]; exact h _ (List.getElem_mem _)
  · have e : b.getD k 0 = 0 := by simp [List.getD_eq_getElem?_getD, hk]
    rw [e]; omega
theorem num_bd {b : List Int} (h : Byt b) (a : Nat) : ∀ s, 0 ≤ num b a s ∧ num b a s < 256 ^ s
  | 0 => by simp [num]
  | s + 1 => by
    have h1 := num_bd h a s
    have h2 := byt_get h (a + s)
    simp only [num, Int.pow_succ]
    omega

theorem wraps_i64 : ∀ n : Int, 0 ≤ n → n < 2 ^ 63 → IntKind.i64.wrap n = n := by
  intro n h0 h1
  have : (2 : Int) ^ 63 = 9223372036854775808 := by decide
  exact IntWalk.i64_in _ (by omega)
theorem or_i64 (x y : Int) (h0 : 0 ≤ x) (h1 : x < 16777216) (h2 : 0 ≤ y) (h3 : y ≤ 255) : bits .or .i64 (x * 256) y = x * 256 + y := by
  have e : (2 : Int) ^ 63 = 9223372036854775808 := by decide
  have e2 : (2 : Int) ^ 8 = 256 := by decide
  exact bits_join .i64 63 (by decide) wraps_i64 8 _ _ (by omega) (by rw [e2]; omega) (by rw [e]; omega) h2 (by rw [e2]; omega) (by rw [e]; omega)
theorem grown_setCell (w : World) (R o : Nat) (v : Value) : w.grownBy (w.setCell ⟨R, o, none⟩ v) (some R) := by
  refine ⟨rfl, rfl, rfl, ?_, fun k hk hne => ?_⟩
  · simp [World.setCell]
  · exact Below.heap_setCell w _ _ k (fun e => hne (by rw [e]))
theorem grown_drewN (w : World) (r : Option Nat) (n : Nat) : w.grownBy (w.drewN n) r := ⟨rfl, rfl, rfl, Nat.le_refl _, fun _ _ _ => rfl⟩
theorem grown_trans {w w1 w2 : World} {r : Option Nat} (h : w.grownBy w1 r) (k : w1.grownBy w2 r) : w.grownBy w2 r :=
  ⟨k.os.trans h.os, k.tape.trans h.tape, k.output.trans h.output, Nat.le_trans h.size k.size, fun i hi hne => (k.block i (Nat.lt_of_lt_of_le hi h.size) hne).trans (h.block i hi hne)⟩
/-- The place is moved. -/
theorem rd_move {w : World} {R : Nat} {A : Option Addr} {n c : Nat} {a : Int} (h : RdAt w R A n c a) (a' : Int) : RdAt (w.setCell ⟨R, 1, none⟩ (.int .i64 a')) R A n c a' :=
  ⟨by rw [World.cell?_setCell_other _ _ _ _ (by simp)]; exact h.bytes, World.cell?_setCell_same _ _ _ h.place, by rw [World.frozen?_setCell]; exact h.free⟩
theorem rd_keep {w w1 : World} {R : Nat} {A : Option Addr} {n c : Nat} {a : Int} (h : RdAt w R A n c a) (hb : Below w.heap.size w w1) : RdAt w1 R A n c a :=
  ⟨cell_keep hb h.bytes, cell_keep hb h.place, (hb.frozen (World.block_lt_of_cell? w _ h.place)).trans h.free⟩

set_option maxRecDepth 100000 in
set_option maxHeartbeats 1000000 in
theorem next_ok (w0 : World) (R : Nat) (A : Option Addr) (n c : Nat) (a sz : Int) (b : List Int) (w : World) (hb : NumsR w0 .u8 A b) (hy : Byt b) (hn : b.length = n) (hB : Below w0.heap.size w0 w) (hR : w0.heap.size ≤ R) (hr : RdAt w R A n c a)
    (h0 : 0 ≤ a) (h1 : 0 ≤ sz) (h2 : sz ≤ 4) (h3 : a + sz ≤ n) :
    Calls Try.prog 53 #[.pointer (some ⟨R, 0, none⟩), .int .i64 sz] w fun e w' => e = .returned (.tuple #[.int .i64 (num b a.toNat sz.toNat), .int .i64 a]) ∧ RdAt w' R A n c (a + sz) ∧ w.grownBy w' (some R) := by
  have HB := Lib.hid hb; clear hb
  have HY := Lib.hid hy; clear hy
  have HN := Lib.hid hn; clear hn
  have HBL := Lib.hid hB; clear hB
  have hmx : n ≤ 140737488351232 := by have := HB.out.1; have := HN.out; unfold reach at *; omega
  have HMX := Lib.hid hmx; clear hmx
  have hmx2 : (n : Int) ≤ 9223372036854775000 := by have := HMX.out; omega
  obtain ⟨r0, r1, rf⟩ := hr
  go_enter Try.func53, Try.ntmps53
  go_wp2
  go_loopw [4, 27] (fun v i wr => ∃ (t : Nat) (x : Int), (t : Int) ≤ sz ∧ i = .int .i64 t ∧ v = .int .i64 x ∧ 0 ≤ x ∧ x < 256 ^ t ∧ Hid (x = num b a.toNat t) ∧ RdAt wr R A n c (a + t) ∧ w.grownBy wr (some R)) (fun _ i _ => (sz - intOf i).toNat)
  case atStart => exact ⟨0, 0, by omega, rfl, rfl, by omega, by simp, Lib.hid rfl, ⟨r0, by simpa using r1, rf⟩, ⟨rfl, rfl, rfl, Nat.le_refl _, fun _ _ _ => rfl⟩⟩
  case round =>
    obtain ⟨t, x, ht, rfl, rfl, x0, x1, hx, hrd, hg⟩ := hrel
    have HG := Lib.hid hg
    clear hg r0 r1 rf
    obtain ⟨r0, r1, rf⟩ := hrd
    by_cases hlt : (t : Int) < sz
    · have hlen : (a + t).toNat < b.length := by have := HN.out; omega
      have hbw : Below w0.heap.size w0 wr := HBL.out.grown HG.out (by have := HBL.out.size; omega) (by rintro k ⟨⟩; omega)
      obtain ⟨b1, o1, hA, hc⟩ := (HB.out.mono hbw).2 (by omega)
      subst hA
      have hcell := hc (a + t).toNat hlen
      clear hc
      have hy := byt_get HY.out (a + t).toNat
      obtain ⟨y, hyy⟩ : ∃ y, y = b.getD (a + t).toNat 0 := ⟨_, rfl⟩
      rw [← hyy] at hcell hy
      obtain ⟨y0, y1⟩ := hy
      have HYY := Lib.hid hyy
      have i0 : 0 ≤ a + (t : Int) := by omega
      have i1 : a + (t : Int) < (n : Int) := by omega
      have x2 : x < 16777216 := by
        have : (256 : Int) ^ t ≤ 256 ^ 3 := by
          have ht3 : t ≤ 3 := by omega
          rcases (show t = 0 ∨ t = 1 ∨ t = 2 ∨ t = 3 by omega) with rfl | rfl | rfl | rfl <;> decide
        omega
      clear hyy
      go_wp2
      go_quiet (fail)
      go_wp2
      go_roundw
      case rel =>
        refine ⟨t + 1, x * 256 + y, by omega, by go_num, ?_, by omega, ?_, Lib.hid ?_, ?_, ?_⟩
        · rw [or_i64 x y x0 x2 y0 y1]
        · rw [Int.pow_succ]; omega
        · rw [num, ← hx.out, HYY.out, show (a + (t : Int)).toNat = a.toNat + t by omega]
        · have h9 := rd_move (rd_keep ⟨r0, r1, rf⟩ (below_drewN (Below.refl _ _) nq)) (a + (t : Int) + 1)
          rw [show a + ((t + 1 : Nat) : Int) = a + (t : Int) + 1 by omega]
          exact h9
        · exact grown_trans HG.out (grown_trans (grown_drewN _ _ _) (grown_setCell _ _ _ _))
      case measure => simp [intOf]; omega
    · obtain rfl : sz = (t : Int) := by omega
      go_wp2
      go_ret2
      exact ⟨by rw [hx.out]; simp, ⟨r0, r1, rf⟩, HG.out⟩

/-- What the reader gives up with. -/
def wrongV (code at_ : Int) : PanicEntry := { v := .iface 83 (.agg #[.int .i64 code, .int .i64 at_]), recovered := false }

set_option maxRecDepth 100000 in
theorem next_cut (R : Nat) (A : Option Addr) (n c : Nat) (a sz : Int) (w : World) (hr : RdAt w R A n c a) (hn : (n : Int) ≤ 140737488351232)
    (h0 : 0 ≤ a) (h00 : a ≤ n) (h1 : 0 ≤ sz) (h2 : sz ≤ 4) (h3 : (n : Int) < a + sz) :
    Calls Try.prog 53 #[.pointer (some ⟨R, 0, none⟩), .int .i64 sz] w fun e w' => e = .panicked [wrongV 50 n] ∧ w = w' := by
  obtain ⟨r0, r1, rf⟩ := hr
  go_enter Try.func53, Try.ntmps53
  go_wp2
  exact ⟨rfl, rfl, rfl⟩
set_option maxRecDepth 100000 in
theorem ask_yes (p : Value) (e a : Int) (w : World) : Calls Try.prog 54 #[p, .bool true, .int .i64 e, .int .i64 a] w fun e w' => e = .returned (.tuple #[]) ∧ w = w' := by
  go_enter Try.func54, Try.ntmps54
  go_wp2
  go_end0
  exact ⟨rfl, rfl⟩
set_option maxRecDepth 100000 in
theorem ask_no (p : Value) (e a : Int) (w : World) : Calls Try.prog 54 #[p, .bool false, .int .i64 e, .int .i64 a] w fun q w' => q = .panicked [wrongV e a] ∧ w = w' := by
  go_enter Try.func54, Try.ntmps54
  go_wp2
  exact ⟨rfl, rfl, rfl⟩

set_option maxRecDepth 100000 in
theorem want_yes (w0 : World) (R : Nat) (A : Option Addr) (n c : Nat) (a v er : Int) (b : List Int) (w : World) (hb : NumsR w0 .u8 A b) (hy : Byt b) (hn : b.length = n) (hB : Below w0.heap.size w0 w) (hR : w0.heap.size ≤ R) (hr : RdAt w R A n c a)
    (h0 : 0 ≤ a) (h3 : a + 1 ≤ n) (hv : num b a.toNat 1 = v) :
    Calls Try.prog 52 #[.pointer (some ⟨R, 0, none⟩), .int .i64 v, .int .i64 er] w fun e w' => e = .returned (.tuple #[]) ∧ RdAt w' R A n c (a + 1) ∧ w.grownBy w' (some R) := by
  have hc := next_ok w0 R A n c a 1 b w hb hy hn hB hR hr h0 (by omega) (by omega) (by omega)
  rw [show (1 : Int).toNat = 1 from rfl, hv] at hc
  have HC := Lib.hid hc
  clear hc hv hr hB hn hy hb
  go_enter Try.func52, Try.ntmps52
  go_wp2_with fail
  refine HC.out.mono ?_
  rintro e w1 ⟨rfl, h1, h2⟩
  have H1 := Lib.hid h1
  have H2 := Lib.hid h2
  clear h1 h2
  go_wp2_with fail
  refine (ask_yes _ _ _ _).mono ?_
  rintro e w2 ⟨rfl, rfl⟩
  go_wp2
  go_end0
  exact ⟨rfl, H1.out, H2.out⟩
set_option maxRecDepth 100000 in
theorem want_no (w0 : World) (R : Nat) (A : Option Addr) (n c : Nat) (a v er x : Int) (b : List Int) (w : World) (hb : NumsR w0 .u8 A b) (hy : Byt b) (hn : b.length = n) (hB : Below w0.heap.size w0 w) (hR : w0.heap.size ≤ R) (hr : RdAt w R A n c a)
    (h0 : 0 ≤ a) (h3 : a + 1 ≤ n) (hx : num b a.toNat 1 = x) (hv : ¬ x = v) :
    Calls Try.prog 52 #[.pointer (some ⟨R, 0, none⟩), .int .i64 v, .int .i64 er] w fun e w' => e = .panicked [wrongV er a] ∧ w.grownBy w' (some R) := by
  have hc := next_ok w0 R A n c a 1 b w hb hy hn hB hR hr h0 (by omega) (by omega) (by omega)
  rw [show (1 : Int).toNat = 1 from rfl, hx] at hc
  have HC := Lib.hid hc
  have hq : (x == v) = false := by simp [hv]
  have HV := Lib.hid hv
  clear hc hx hr hB hn hy hb hv
  go_enter Try.func52, Try.ntmps52
  go_wp2_with fail
  refine HC.out.mono ?_
  rintro e w1 ⟨rfl, h1, h2⟩
  have H2 := Lib.hid h2
  clear h1 h2
  go_wp2_with fail
  refine (ask_no _ _ _ _).mono ?_
  rintro e w2 ⟨rfl, rfl⟩
  exact ⟨rfl, rfl, H2.out⟩
set_option maxRecDepth 100000 in
theorem want_cut (R : Nat) (A : Option Addr) (n c : Nat) (a v er : Int) (w : World) (hr : RdAt w R A n c a) (hn : (n : Int) ≤ 140737488351232) (h0 : 0 ≤ a) (h00 : a ≤ n) (h3 : (n : Int) < a + 1) :
    Calls Try.prog 52 #[.pointer (some ⟨R, 0, none⟩), .int .i64 v, .int .i64 er] w fun e w' => e = .panicked [wrongV 50 n] ∧ w = w' := by
  have HC := Lib.hid (next_cut R A n c a 1 w hr hn h0 h00 (by omega) (by omega) h3)
  clear hr
  go_enter Try.func52, Try.ntmps52
  go_wp2_with fail
  refine HC.out.mono ?_
  rintro e w1 ⟨rfl, rfl⟩
  exact ⟨rfl, rfl, rfl⟩
end Go.Proofs.Ytkbboepopcebaaa
namespace Go.Proofs.Ytkbboepopcebaaa
open Go.RowKit Go.ChangeShapes Go.WideShapes Go.Deep

theorem cells5 : Try.prog.cellsOf 5 = 1 := by kernel_rfl
theorem cells22 : Try.prog.cellsOf 22 = 1 := by kernel_rfl
theorem cells25 : Try.prog.cellsOf 25 = 1 := by kernel_rfl
theorem cells26 : Try.prog.cellsOf 26 = 1 := by kernel_rfl
theorem cells3 : Try.prog.cellsOf 3 = 1 := by kernel_rfl
theorem cells69 : Try.prog.cellsOf 69 = 3 := by kernel_rfl
theorem cells28 : Try.prog.cellsOf 28 = 5 := by kernel_rfl
theorem bytes5 : Try.prog.bytesOf 5 = 1 := by kernel_rfl
theorem bytes22 : Try.prog.bytesOf 22 = 24 := by kernel_rfl
theorem bytes69 : Try.prog.bytesOf 69 = 24 := by kernel_rfl
theorem reach_eq : reachBytes = reach := by decide
theorem addr_of_cell {w : World} {a : Addr} {v : Value} (h : w.cell? a = some v) : a = ⟨a.block, a.off, none⟩ := by
  cases a with
  | mk b o s =>
    cases s with
    | none => rfl
    | some s =>
      unfold World.cell? at h
      split at h <;> simp at h
theorem add_lit' {a : Addr} (h : a = ⟨a.block, a.off, none⟩) (j : Nat) : a.add j = ⟨a.block, a.off + j, none⟩ := by
  rw [h]; exact Addr.add_lit _ _ _
section
variable {H : Type} {enc : TypeId × Value → H} {W : World} {fuel : Nat} {cs : List Value} {x : DataW H × List MemPlace}
theorem read_bytes (h : DataW.trod enc Try.prog W 0 (fun _ => true) true fuel 22 cs = some x) (hw : ∀ n ∈ x.1.weights Try.prog 22, n ≤ reachBytes) : ∃ v l, cs = [v] ∧ NumsV W .u8 v l ∧ Byt l := by
  rcases open_ints Try.underlying22 Try.underlying5 cells5 h with ⟨rfl, _⟩ | ⟨a, len, cap, zs, rfl, _, hle, hm, hl, rfl, hc, hwf⟩
  · exact ⟨_, [], rfl, NumsV.nil W .u8, by intro y hy; simp at hy⟩
  · simp only [if_true] at hl
    have hw1 := hw _ (by rw [DataW.weights, Try.underlying22]; exact List.mem_cons_self)
    rw [bytes5, reach_eq] at hw1
    simp [lits] at hw1
    have hz : (zs.take len).length = len := by simp; omega
    refine ⟨_, zs.take len, rfl, ⟨some a, cap, by rw [hz], by omega, by simp, by rw [hz]; omega, fun hp => ?_⟩, fun y hy => ?_⟩
    · rw [hz] at hp
      have h0 := addr_of_cell (hc 0 (by omega))
      have ha : a = ⟨a.block, a.off, none⟩ := by
        cases a with
        | mk b o s =>
          cases s with
          | none => rfl
          | some s => simp [Addr.add] at h0
      refine ⟨a.block, a.off, by rw [← ha], fun j hj => ?_⟩
      rw [hz] at hj
      have := hc j (by omega)
      rw [add_lit' ha] at this
      rw [this]
      simp [List.getD_eq_getElem?_getD, List.getElem?_take, hj]
    · have := hwf y (List.mem_of_mem_take hy)
      simp [Lit.wf, IntKind.min, IntKind.max, IntKind.signed, IntKind.bits] at this
      omega
theorem weightsAll_mem {P : Program} {e : TypeId} : ∀ {r : List (DataW H)} {d : DataW H} {n : Nat}, d ∈ r → n ∈ d.weights P e → n ∈ DataW.weightsAll P e r
  | a :: r, d, n, hd, hn => by
    simp only [DataW.weightsAll, List.mem_append]
    rcases List.mem_cons.1 hd with rfl | hd
    · exact .inl hn
    · exact .inr (weightsAll_mem hd hn)
theorem addr_add {w : World} {a : Addr} {v : Value} (h : w.cell? (a.add 0) = some v) : a = ⟨a.block, a.off, none⟩ := by
  have h0 := addr_of_cell h
  cases a with
  | mk b o s =>
    cases s with
    | none => rfl
    | some s => simp [Addr.add] at h0
theorem choose_below {α : Type} {p : Nat → α → Prop} [Inhabited α] (n : Nat) (h : ∀ i, i < n → ∃ y, p i y) : ∃ f : Nat → α, ∀ i, i < n → p i (f i) := by
  classical
  exact ⟨fun i => if hi : i < n then Classical.choose (h i hi) else default, fun i hi => by simp only [hi, dif_pos]; exact Classical.choose_spec (h i hi)⟩
theorem read_parts (h : DataW.trod enc Try.prog W 0 (fun _ => true) true fuel 26 cs = some x) (hw : ∀ n ∈ x.1.weights Try.prog 26, n ≤ reachBytes) : ∃ v ll, cs = [v] ∧ PartsV W v ll ∧ ∀ l ∈ ll, Byt l := by
  rcases open_slice1 Try.underlying26 cells22 h with ⟨rfl, _⟩ | ⟨a, len, cap, m, n, V, D, Pl, rfl, _, hle, hm, hmm, rfl, hx⟩
  · exact ⟨_, [], rfl, ⟨none, 0, rfl, Nat.le_refl _, fun _ => rfl, by simp [reach], fun hp => by simp at hp⟩, by simp⟩
  · simp only [if_true] at hmm
    have hw1 := hw _ (by rw [DataW.weights, Try.underlying26]; exact List.mem_cons_self)
    rw [bytes22, reach_eq] at hw1
    simp at hw1
    have hlen : len ≤ reach := by omega
    have hw2 : ∀ i, i < len → ∀ k ∈ (D i).weights Try.prog 22, k ≤ reachBytes := fun i hi k hk => hw k (by
      rw [DataW.weights, Try.underlying26]
      refine List.mem_cons_of_mem _ (List.mem_append.2 (.inl (weightsAll_mem (d := D i) ?_ hk)))
      exact List.mem_map.2 ⟨i, List.mem_range.2 hi, rfl⟩)
    obtain ⟨f, hf⟩ := choose_below (α := List Int) (p := fun i l => NumsV W .u8 (V i) l ∧ Byt l) len (fun i hi => by
      obtain ⟨_, h2⟩ := hx i (by omega)
      obtain ⟨v, l, e, h3, h4⟩ := read_bytes h2 (hw2 i hi)
      simp at e
      exact ⟨l, by rw [e]; exact h3, h4⟩)
    have hz : ((List.range len).map f).length = len := by simp
    refine ⟨_, (List.range len).map f, rfl, ⟨some a, cap, by rw [hz], by omega, by simp, by rw [hz]; exact hlen, fun hp => ?_⟩, fun l hl => ?_⟩
    · rw [hz] at hp
      have ha := addr_add (hx 0 (by omega)).1
      refine ⟨a.block, a.off, by rw [← ha], fun j hj => ⟨V j, ?_, ?_⟩⟩
      · rw [hz] at hj
        have := (hx j (by omega)).1
        rwa [add_lit' ha] at this
      · rw [hz] at hj
        have e : ((List.range len).map f).getD j [] = f j := by simp [List.getD_eq_getElem?_getD, hj]
        rw [e]
        exact (hf j hj).1
    · obtain ⟨i, hi, rfl⟩ := List.mem_map.1 hl
      exact (hf i (List.mem_range.1 hi)).2
theorem read_int {k : IntKind} {t : TypeId} (ht : Try.prog.underlying t = some (.int k)) (h : DataW.trod enc Try.prog W 0 (fun _ => true) true fuel t cs = some x) : ∃ n, cs = [.int k n] ∧ (Lit.int k n).wf = true := by
  cases fuel with
  | zero => simp [DataW.trod] at h
  | succ fuel =>
    unfold DataW.trod at h
    rw [ht] at h
    split at h <;> simp_all
def I64 (n : Int) : Prop := -9223372036854775808 ≤ n ∧ n ≤ 9223372036854775807
theorem i64_of {n : Int} (h : (Lit.int .i64 n).wf = true) : I64 n := by simp [Lit.wf, IntKind.min, IntKind.max, IntKind.signed, IntKind.bits] at h; exact h
def TyOk (t : Ty) : Prop := I64 t.i ∧ I64 t.o ∧ I64 t.m
set_option maxRecDepth 100000 in
theorem read_ty (h : DataW.trod enc Try.prog W 0 (fun _ => true) true fuel 69 cs = some x) : ∃ t, cs = tyCells t ∧ TyOk t := by
  obtain ⟨xs, n, rfl, rfl, hl, hn, he⟩ := DataW.trod_struct Try.underlying69 h
  rw [cells69] at hl
  match cs, hl with
  | [u0, u1, u2], _ =>
    have h0 := he 0 _ rfl
    have h1 := he 1 _ rfl
    have h2 := he 2 _ rfl
    have hx : xs.length = 3 := by simpa using hn
    match xs, hx with
    | [x0, x1, x2], _ =>
      simp [cells3] at h0 h1 h2
      obtain ⟨a, ea, wa⟩ := read_int Try.underlying3 h0
      obtain ⟨b, eb, wb⟩ := read_int Try.underlying3 h1
      obtain ⟨c, ec, wc⟩ := read_int Try.underlying3 h2
      simp at ea eb ec
      exact ⟨⟨a, b, c⟩, by simp [tyCells, ea, eb, ec], i64_of wa, i64_of wb, i64_of wc⟩
theorem tysOf_get (ts : List Ty) : ∀ k, k < ts.length → ∀ j, j < 3 → (tysOf ts)[k * 3 + j]? = (tyCells (ts.getD k ty0))[j]? := by
  intro k hk j hj
  obtain ⟨h1, h2, h3⟩ := tysOf_at ts k hk
  rcases (show j = 0 ∨ j = 1 ∨ j = 2 by omega) with rfl | rfl | rfl
  · rw [Nat.add_zero, h1]; rfl
  · rw [h2]; rfl
  · rw [h3]; rfl
instance : Inhabited Ty := ⟨ty0⟩
theorem read_types (h : DataW.trod enc Try.prog W 0 (fun _ => true) true fuel 25 cs = some x) (hw : ∀ n ∈ x.1.weights Try.prog 25, n ≤ reachBytes) : ∃ v ts, cs = [v] ∧ TypesV W v ts ∧ ∀ t ∈ ts, TyOk t := by
  rcases open_slice Try.underlying25 h with ⟨rfl, _⟩ | ⟨a, len, cap, m, n, D, Pl, rfl, _, hle, hm, hmm, rfl, hx⟩
  · exact ⟨_, [], rfl, ⟨none, 0, rfl, Nat.le_refl _, fun _ => rfl, by simp [reach], fun hp => by simp [tysOf] at hp⟩, by simp⟩
  · simp only [if_true] at hmm
    have hw1 := hw _ (by rw [DataW.weights, Try.underlying25]; exact List.mem_cons_self)
    rw [bytes69, reach_eq] at hw1
    simp at hw1
    obtain ⟨f, hf⟩ := choose_below (α := Ty) (p := fun i t => W.cells? 0 (a.add (i * 3)) 3 = some (tyCells t) ∧ TyOk t) len (fun i hi => by
      obtain ⟨cs', h1, h2⟩ := hx i (by omega)
      obtain ⟨t, rfl, ht⟩ := read_ty h2
      rw [cells69] at h1
      exact ⟨t, h1, ht⟩)
    have hz : ((List.range len).map f).length = len := by simp
    refine ⟨_, (List.range len).map f, rfl, ⟨some a, cap, by rw [hz], by omega, by simp, by rw [hz]; omega, fun hp => ?_⟩, fun t ht => ?_⟩
    · rw [tysOf_length, hz] at hp
      have h0 := (World.cells?_some (hf 0 (by omega)).1).2.2 0 (by omega)
      have ha := addr_add (a := a) (w := W) (v := .int .i64 (f 0).i) (by simpa [tyCells, Addr.add] using h0)
      refine ⟨a.block, a.off, by rw [← ha], fun j v hv => ?_⟩
      have hj : j < len * 3 := by
        rcases Nat.lt_or_ge j (len * 3) with h | h
        · exact h
        · rw [List.getElem?_eq_none (by rw [tysOf_length, hz]; exact h)] at hv; simp at hv
      have hk : j / 3 < len := by omega
      have hg := tysOf_get ((List.range len).map f) (j / 3) (by rw [hz]; exact hk) (j % 3) (by omega)
      rw [show j / 3 * 3 + j % 3 = j by omega, hv] at hg
      have e : ((List.range len).map f).getD (j / 3) ty0 = f (j / 3) := by simp [List.getD_eq_getElem?_getD, hk]
      rw [e] at hg
      have := (World.cells?_some (hf (j / 3) hk).1).2.2 (j % 3) (by omega)
      rw [← hg] at this
      rw [← this]
      congr 1
      rw [add_lit' ha, Addr.add_lit]
      congr 1
      omega
    · obtain ⟨i, hi, rfl⟩ := List.mem_map.1 ht
      exact (hf i (List.mem_range.1 hi)).2
/-- What a container that came in is good for. -/
structure ContOk (c : Cont) : Prop where
  types : ∀ t ∈ c.types, TyOk t
  codes : ∀ l ∈ c.codes, Byt l
  subs : ∀ l ∈ c.subs, Byt l
  data : Byt c.data
  size : I64 c.size
set_option maxRecDepth 100000 in
theorem read_cont {v : Value} {d : DataW H} {ps : List MemPlace} (hv : ∃ a, v = .agg a) (h : DataW.Trod enc Try.prog W 0 (fun _ => true) true 28 v d ps) (hw : ∀ n ∈ d.weights Try.prog 28, n ≤ reachBytes) : ∃ c, ContV W v c ∧ ContOk c := by
  obtain ⟨a, rfl⟩ := hv
  obtain ⟨fuel, h⟩ := h
  obtain ⟨xs, n, rfl, e, hl, hn, he⟩ := DataW.trod_struct Try.underlying28 h
  rw [cells28] at hl
  obtain ⟨rfl, rfl⟩ := Prod.mk.inj e
  have hxs : xs.length = 5 := by simpa using hn
  match xs, hxs with
  | [x0, x1, x2, x3, x4], _ =>
    have ha : ∃ u0 u1 u2 u3 u4, a = #[u0, u1, u2, u3, u4] := by
      have hs : a.toList.length = 5 := by simpa [Value.cells] using hl
      match h5 : a.toList, hs with
      | [u0, u1, u2, u3, u4], _ => exact ⟨u0, u1, u2, u3, u4, by rw [← Array.toArray_toList (xs := a), h5]⟩
    obtain ⟨u0, u1, u2, u3, u4, rfl⟩ := ha
    have h0 := he 0 _ rfl
    have h1 := he 1 _ rfl
    have h2 := he 2 _ rfl
    have h3 := he 3 _ rfl
    have h4 := he 4 _ rfl
    simp [cells25, cells26, cells22, cells3, Value.cells] at h0 h1 h2 h3 h4
    have hall : ∀ n ∈ DataW.weightsEach Try.prog [25, 26, 26, 22, 3] [x0.1, x1.1, x2.1, x3.1, x4.1], n ≤ reachBytes := fun n hn => hw n (by rw [DataW.weights, Try.underlying28]; exact hn)
    obtain ⟨vt, ts, e0, k0, o0⟩ := read_types h0 fun n hn => hall n (DataW.weights_mem_each (j := 0) rfl rfl n hn)
    obtain ⟨vc, cl, e1, k1, o1⟩ := read_parts h1 fun n hn => hall n (DataW.weights_mem_each (j := 1) rfl rfl n hn)
    obtain ⟨vs, sl, e2, k2, o2⟩ := read_parts h2 fun n hn => hall n (DataW.weights_mem_each (j := 2) rfl rfl n hn)
    obtain ⟨vd, dl, e3, k3, o3⟩ := read_bytes h3 fun n hn => hall n (DataW.weights_mem_each (j := 3) rfl rfl n hn)
    obtain ⟨z, e4, o4⟩ := read_int Try.underlying3 h4
    obtain rfl := (List.cons.inj e0).1
    obtain rfl := (List.cons.inj e1).1
    obtain rfl := (List.cons.inj e2).1
    obtain rfl := (List.cons.inj e3).1
    obtain rfl := (List.cons.inj e4).1
    exact ⟨⟨ts, cl, sl, dl, z⟩, ⟨_, _, _, _, rfl, k0, k1, k2, k3⟩, o0, o1, o2, o3, i64_of o4⟩
end
end Go.Proofs.Ytkbboepopcebaaa
namespace Go.Proofs.Ytkbboepopcebaaa
open Go.ChangeShapes Go.WideShapes Go.ChangeAt Go.RowKit

theorem own_knob : ownKnob Try.prog.godebug = none := by kernel_rfl
theorem laid_out : laidOutB Try.prog = true := by kernel_rfl
section
variable {H : Type} {enc : TypeId × Value → H} {P : Program}
/-- The row's last step where the walk says that nothing older has turned. -/
theorem post_below {f : Func} {s : ChangeSpec} {apart fresh handsOn again : Bool} {W W' : World} {args : Array Value} {v : Value} {ds gs : List (DataW H)} {before pa pv : List MemPlace}
    (hW : DataW.Whole enc P f.params.toList s.vars apart W args.toList ds gs before)
    (hres : ∀ (b : Nat) (sp : Nat → Bool) (hd : Bool), DataW.TrodAll enc P W' b sp hd f.resultTypes.toList (v.resultList f.resultTypes.size) (s.fn H (ds ++ gs)).results [])
    (hargs : DataW.TrodAll enc P W' 0 (fun b => decide (b < W.heap.size)) true f.params.toList args.toList (s.fn H (ds ++ gs)).args pa)
    (hargs2 : DataW.TrodAll enc P W' 0 (fun _ => true) true f.params.toList args.toList (s.fn H (ds ++ gs)).args pa)
    (hvars : ∀ sp : Nat → Bool, DataW.TrodVars enc P W' sp s.vars (s.fn H (ds ++ gs)).vars pv)
    (hps : before = pa ++ pv) (hb : Below W.heap.size W W')
    (hok : ∀ (j : Nat) (t : TypeId) (r : Value), f.resultTypes[j]? = some t → (v.resultList f.resultTypes.size)[j]? = some r → Value.okWide P W' .any 0 t r) :
    s.post enc P f apart fresh handsOn again W args v W' := by
  have hlt : ∀ p ∈ before, p.block < W.heap.size := fun p hp => hW.lt p hp
  refine ⟨ds, gs, before, [], pa, pv, hW, hres _ _ _, hargs, hvars _, World.keptBut_mono (fun p hp => ⟨hp, ?_⟩) (hb.frame (· ∈ before)), fun _ => ?_⟩
  · rw [hps, List.mem_append] at hp
    exact Or.inr hp
  · obtain ⟨_, _, _, _, _, hz, hn⟩ := hW
    refine ⟨hok, _, _, ([] ++ pa) ++ pv, ⟨[] ++ pa, pv, trodAll_append hargs2 (hres _ _ _), hvars _, rfl, ?_, ?_⟩, ?_⟩
    · intro b off hp
      have hin : MemPlace.cell b off ∈ before := by rw [hps]; simpa using hp
      rw [hb.frozen (hlt _ hin)]
      exact hz b off hin
    · intro ha
      have := hn ha
      rw [hps] at this
      simpa using this
    · intro p hp _
      rw [hps]
      simpa using hp
theorem trodAll_stays (hl : laidOutB P = true) {W W' : World} {sp' : Nat → Bool} : ∀ {ts : List TypeId} {vs : List Value} {ds : List (DataW H)} {ps : List MemPlace}, (∀ t ∈ ts, P.readableRec t = true ∧ t < P.types.size) →
    DataW.TrodAll enc P W 0 (fun _ => true) true ts vs ds ps → (∀ p ∈ ps, W.sameAt W' p) → (∀ p ∈ ps, sp' p.block = true) → DataW.TrodAll enc P W' 0 sp' true ts vs ds ps
  | [], [], [], ps, _, h, _, _ => h
  | t :: ts, v :: vs, d :: ds, ps, ht, h, hsame, hs => by
    obtain ⟨p, q, h1, h2, rfl⟩ := h
    exact ⟨p, q, WideElems.Trod_stays hl (ht t List.mem_cons_self).1 (ht t List.mem_cons_self).2 h1 (fun x hx => hsame x (List.mem_append.2 (.inl hx))) (fun x hx => hs x (List.mem_append.2 (.inl hx))),
      trodAll_stays hl (fun t' h' => ht t' (List.mem_cons_of_mem _ h')) h2 (fun x hx => hsame x (List.mem_append.2 (.inr hx))) (fun x hx => hs x (List.mem_append.2 (.inr hx))), rfl⟩
  | [], [], _ :: _, _, _, h, _, _ => h.elim
  | [], _ :: _, _, _, _, h, _, _ => h.elim
  | _ :: _, [], _, _, _, h, _, _ => h.elim
  | _ :: _, _ :: _, [], _, _, h, _, _ => h.elim
end
section
variable {H : Type} {enc : TypeId × Value → H}
set_option maxRecDepth 100000 in
/-- A contract for a law, out of its walk. -/
theorem law_post {F : FuncId} {f : Func} {s : ChangeSpec} {apart fresh handsOn again : Bool} {W : World} {args : Array Value} {ds gs : List (DataW H)} {before : List MemPlace}
    (hW : DataW.Whole enc Try.prog f.params.toList s.vars apart W args.toList ds gs before) (hv : s.vars = []) (hrt : f.resultTypes = #[4]) (hread : ∀ t ∈ f.params.toList, Try.prog.readableRec t = true ∧ t < Try.prog.types.size)
    (hr : (s.fn H (ds ++ gs)).results = [.lit (.bool true)]) (ha : (s.fn H (ds ++ gs)).args = ds) (hvv : (s.fn H (ds ++ gs)).vars = [])
    (hc : Calls Try.prog F args W fun e W' => e = .returned (.bool true) ∧ Below W.heap.size W W') :
    Calls Try.prog F args W fun e W' => ∃ v, e = .returned v ∧ s.post enc Try.prog f apart fresh handsOn again W args v W' := by
  refine hc.mono ?_
  rintro e W' ⟨rfl, hb⟩
  have hlt : ∀ p ∈ before, p.block < W.heap.size := fun p hp => hW.lt p hp
  obtain ⟨p, q, h1, h2, rfl, hz⟩ := id hW
  rw [hv] at h2
  obtain ⟨_, rfl⟩ := trodVars_none h2
  simp only [List.append_nil] at hlt
  have hb2 : ∀ x ∈ p, W.sameAt W' x := fun x hx => hb.same (hlt x hx)
  refine ⟨_, rfl, post_below (pa := p) (pv := []) hW (fun b sp hd => ?_) ?_ ?_ (fun sp => ?_) rfl hb ?_⟩
  · rw [hrt, hr]
    exact trodAll_cons_mk (shut_bool Try.underlying4 _) trodAll_mk0
  · rw [ha]
    exact trodAll_stays laid_out hread h1 hb2 fun x hx => by simpa using hlt x hx
  · rw [ha]
    exact trodAll_stays laid_out hread h1 hb2 fun x hx => rfl
  · rw [hv, hvv]
    rfl
  · exact ok_one hrt rfl (okWide_bool_mk Try.underlying4 _)
end
end Go.Proofs.Ytkbboepopcebaaa
