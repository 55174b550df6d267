/- The reader's sizes. -/
import Derived.Test.YtkbboepopcebaaaX
import Derived.Test.YtkbboepopcebaaaN
import Derived.Deep.DeepCutAuto
namespace Go.Proofs.Ytkbboepopcebaaa
open Go.RowKit

abbrev Bad := Int × Int
/-- Lengths of so many parts: from a place on, each of so many bytes. -/
def szs (b : List Int) (size : Nat) : Nat → Nat → Except Bad (List Int)
  | 0, _ => .ok []
  | k + 1, a => if b.length < a + size then .error (50, b.length) else if num b a size ≤ 0 then .error (56, a) else
    match szs b size k (a + size) with
    | .ok l => .ok (num b a size :: l)
    | .error e => .error e
def onto (L : List Int) : Except Bad (List Int) → Except Bad (List Int)
  | .ok l => .ok (L ++ l)
  | .error e => .error e
theorem onto_nil (x : Except Bad (List Int)) : onto [] x = x := by cases x <;> rfl
theorem szs_step (b : List Int) (size k a : Nat) (h1 : ¬ b.length < a + size) (h2 : ¬ num b a size ≤ 0) (L : List Int) : onto L (szs b size (k + 1) a) = onto (L ++ [num b a size]) (szs b size k (a + size)) := by
  rw [szs, if_neg h1, if_neg h2]
  cases szs b size k (a + size) <;> simp [onto]
def SzPost (b : List Int) (cnt a : Nat) (sz : Int) (R : Nat) (A : Option Addr) (n c : Nat) (w : World) (e : Ending) (w' : World) : Prop :=
  w.grownBy w' (some R) ∧ match szs b sz.toNat cnt a with
    | .ok l => ∃ v, e = .returned (.tuple #[v, .int .i64 l.sum]) ∧ w'.ownsRow w.heap.size 3 1 v l.length (nums .i64 l) ∧ RdAt w' R A n c (a + cnt * sz)
    | .error x => e = .panicked [wrongV x.1 x.2]
theorem sz_ok {b : List Int} {cnt a : Nat} {sz : Int} {R : Nat} {A : Option Addr} {n c : Nat} {w w' : World} {l : List Int} {v : Value} (h : szs b sz.toNat cnt a = .ok l) (hg : w.grownBy w' (some R)) (ho : w'.ownsRow w.heap.size 3 1 v l.length (nums .i64 l)) (hr : RdAt w' R A n c (a + cnt * sz)) :
    SzPost b cnt a sz R A n c w (.returned (.tuple #[v, .int .i64 l.sum])) w' := ⟨hg, by rw [h]; exact ⟨v, rfl, ho, hr⟩⟩
theorem sz_err {b : List Int} {cnt a : Nat} {sz : Int} {R : Nat} {A : Option Addr} {n c : Nat} {w w' : World} {x y : Int} (h : szs b sz.toNat cnt a = .error (x, y)) (hg : w.grownBy w' (some R)) :
    SzPost b cnt a sz R A n c w (.panicked [wrongV x y]) w' := ⟨hg, by rw [h]⟩
theorem rd_grown {w w1 : World} {R R' : Nat} {A : Option Addr} {n c : Nat} {a : Int} (h : RdAt w R A n c a) (hg : w.grownBy w1 (some R')) (hne : R ≠ R') : RdAt w1 R A n c a := by
  have hR := World.block_lt_of_cell? w _ h.place
  have hb := hg.block R hR (by simpa using hne)
  exact ⟨hg.cell h.bytes (by simpa using hne), hg.cell h.place (by simpa using hne), (World.frozen?_of_block (w := w) hb).trans h.free⟩
theorem grown_any {w w1 : World} (r : Option Nat) (hb : Below w.heap.size w w1) : w.grownBy w1 r := grown_of_below hb r
/-- What turned a row of the call's own has turned no elder block. -/
theorem below_row {w0 w w1 : World} {r : Option Nat} (hg : w.grownBy w1 r) (h0 : w0.heap.size ≤ w.heap.size) (hr : ∀ k, r = some k → w0.heap.size ≤ k) : Below w0.heap.size w w1 := (Below.refl _ _).grown hg h0 hr

theorem grown_below {w w1 w2 : World} {r : Option Nat} (h : w.grownBy w1 r) (k : Below w.heap.size w1 w2) : w.grownBy w2 r :=
  ⟨k.os.trans h.os, k.tape.trans h.tape, k.output.trans h.output, Nat.le_trans h.size k.size, fun i hi hne => (k.block i hi).trans (h.block i hi hne)⟩
theorem rd_below {B : Nat} {w w1 : World} {R : Nat} {A : Option Addr} {n c : Nat} {a : Int} (h : RdAt w R A n c a) (hb : Below B w w1) (hR : R < B) : RdAt w1 R A n c a :=
  ⟨(hb.cell (p := ⟨R, 0, none⟩) hR).trans h.bytes, (hb.cell (p := ⟨R, 1, none⟩) hR).trans h.place, (hb.frozen (p := ⟨R, 1, none⟩) hR).trans h.free⟩

set_option maxRecDepth 100000 in
set_option maxHeartbeats 2000000 in
theorem sizes_any (w0 : World) (R : Nat) (A : Option Addr) (n c cnt a : Nat) (sz : Int) (b : List Int) (w : World) (hb : NumsR w0 .u8 A b) (hy : Byt b) (hn : b.length = n) (hB : Below w0.heap.size w0 w) (hR : w0.heap.size ≤ R) (hr : RdAt w R A n c a)
    (h1 : 1 ≤ sz) (h2 : sz ≤ 4) (h3 : a ≤ n) (h4 : cnt ≤ 16384) :
    Calls Try.prog 55 #[.pointer (some ⟨R, 0, none⟩), .int .i64 cnt, .int .i64 sz] w (SzPost b cnt a sz R A n c w) := by
  obtain ⟨i0, hi, hz0, hz1, hz2⟩ := info_parts infoI
  have hmx : n ≤ 140737488351232 := by have := hb.1; unfold reach at *; omega
  have HBB := Lib.hid hb; clear hb
  have HY := Lib.hid hy; clear hy
  have HN := Lib.hid hn; clear hn
  have HBL := Lib.hid hB; clear hB
  have HMX := Lib.hid hmx; clear hmx
  have HRD := Lib.hid hr
  obtain ⟨r0, r1, rf⟩ := hr
  have hRw := World.block_lt_of_cell? w _ r1
  have hRw2 : R < w.heap.size := hRw
  clear hRw
  go_enter Try.func55, Try.ntmps55
  go_upto_region 1 with (fail)
  go_cut [8] (fun v wx => wx.ownsRow w.heap.size 3 1 v 0 [] ∧ w.grownBy wx none)
  case first =>
    by_cases hc : n < cnt
    · have hb2 := Lib.hid (show i0.bytes * n ≤ 281474976710656 by rw [hz2]; omega)
      have hb3 := Lib.hid (show n ≤ maxLen by unfold maxLen; omega)
      go_wp2_with (at_make; refine wpList_make_own _ rfl _ _ 41 rfl w.heap.size 3 i0 (.int .i64 0) 1 Try.underlying41 hi hz0 hz1 _ _ _ n rfl rfl rfl hb2.out hb3.out (Nat.le_refl _) ?_)
      intro w1 ho hg
      have HO := Lib.hid ho
      have HG := Lib.hid hg
      clear ho hg
      go_wp2_with fail
      go_meet
      exact ⟨HO.out, HG.out⟩
    · have hb2 := Lib.hid (show i0.bytes * cnt ≤ 281474976710656 by rw [hz2]; omega)
      have hb3 := Lib.hid (show cnt ≤ maxLen by unfold maxLen; omega)
      go_wp2_with (at_make; refine wpList_make_own _ rfl _ _ 41 rfl w.heap.size 3 i0 (.int .i64 0) 1 Try.underlying41 hi hz0 hz1 _ _ _ cnt rfl rfl rfl hb2.out hb3.out (Nat.le_refl _) ?_)
      intro w1 ho hg
      have HO := Lib.hid ho
      have HG := Lib.hid hg
      clear ho hg
      go_wp2_with fail
      go_meet
      exact ⟨HO.out, HG.out⟩
  case rest =>
  obtain ⟨ho, hg⟩ := hcut
  have HO := Lib.hid ho
  have HG := Lib.hid hg
  clear ho hg
  go_wp2
  go_loopw [8, 9, 10, 11, 21] (fun v s _ _ i wr => ∃ (t : Nat) (L : List Int) (S : Int), t ≤ cnt ∧ i = .int .i64 t ∧ s = .int .i64 S ∧ Hid (S = L.sum) ∧ 0 ≤ S ∧ S ≤ t * 4294967296 ∧ wr.ownsRow w.heap.size 3 1 v t (nums .i64 L) ∧ RdAt wr R A n c (a + t * sz) ∧ w.grownBy wr (some R) ∧ (a : Int) + t * sz ≤ n ∧
    Hid (onto L (szs b sz.toNat (cnt - t) (a + t * sz.toNat)) = szs b sz.toNat cnt a)) (fun _ _ _ _ i _ => cnt - (intOf i).toNat)
  case atStart => exact ⟨0, [], 0, Nat.zero_le _, rfl, rfl, Lib.hid rfl, by omega, by omega, HO.out, by simpa using rd_keep HRD.out ((Below.refl _ _).grown HG.out (Nat.le_refl _) (by simp)), (by have := HG.out; exact ⟨this.os, this.tape, this.output, this.size, fun k hk _ => this.block k hk (by simp)⟩), by simpa using h3, Lib.hid (by simp [onto_nil])⟩
  case round =>
    obtain ⟨t, L, S, ht, rfl, rfl, hS, S0, S1, ho, hrd, hg, hat, hz⟩ := hrel
    have HO2 := Lib.hid ho
    have HG2 := Lib.hid hg
    have HRD2 := Lib.hid hrd
    clear HO HG ho hg r0 r1 rf
    have hbw : Below w0.heap.size w0 wr := HBL.out.grown HG2.out (by have := HBL.out.size; omega) (by rintro k ⟨⟩; omega)
    have HBW := Lib.hid hbw
    clear hbw
    by_cases hlt : t < cnt
    · have hsz0 : ((sz.toNat : Nat) : Int) = sz := by omega
      have hta : (0 : Int) ≤ a + t * sz := by have : 0 ≤ (t : Int) * sz := Int.mul_nonneg (by omega) (by omega); omega
      obtain ⟨q, hq⟩ : ∃ q : Nat, (q : Int) = a + t * sz := ⟨(a + t * sz).toNat, by omega⟩
      have hq2 : a + t * sz.toNat = q := by
        have : ((a + t * sz.toNat : Nat) : Int) = (q : Int) := by rw [hq]; push_cast; rw [hsz0]
        omega
      rw [← hq] at hrd hat
      rw [hq2] at hz
      obtain ⟨m, hm⟩ : ∃ m, cnt - t = m + 1 := ⟨cnt - t - 1, by omega⟩
      rw [hm] at hz
      have HZ := hz
      have HQ := Lib.hid hq
      clear hz hq
      by_cases hcut : (n : Int) < q + sz
      · have hp : szs b sz.toNat cnt a = .error (50, n) := by
          rw [← HZ.out, szs, if_pos (by have := HN.out; omega), HN.out]; rfl
        have HP := Lib.hid hp
        have HC := Lib.hid (next_cut R A n c q sz wr hrd (by have := HMX.out; omega) (by omega) hat (by omega) h2 hcut)
        clear hp hrd
        go_wp2_with fail
        refine HC.out.mono ?_
        rintro e w2 ⟨rfl, rfl⟩
        exact ⟨rfl, sz_err HP.out HG2.out⟩
      · have hlen : ¬ b.length < q + sz.toNat := by have := HN.out; omega
        obtain ⟨x, hx⟩ : ∃ x, num b q sz.toNat = x := ⟨_, rfl⟩
        have hbd := num_bd HY.out q sz.toNat
        rw [hx] at hbd
        have hbd2 : x < 4294967296 := by
          have : (256 : Int) ^ sz.toNat ≤ 4294967296 := by
            rcases (show sz = 1 ∨ sz = 2 ∨ sz = 3 ∨ sz = 4 by omega) with rfl | rfl | rfl | rfl <;> decide
          omega
        have hbd0 := hbd.1
        have HC := next_ok w0 R A n c q sz b wr HBB.out HY.out HN.out HBW.out hR hrd (by omega) (by omega) h2 (by omega)
        rw [show ((q : Nat) : Int).toNat = q by omega, hx] at HC
        have HC := Lib.hid HC
        have HX := Lib.hid hx
        have HLEN := Lib.hid hlen
        clear hx hbd hlen hrd
        by_cases hx0 : 0 < x
        · have hst := szs_step b sz.toNat m q HLEN.out (by rw [HX.out]; omega) L
          rw [HZ.out, HX.out] at hst
          have HST := Lib.hid hst
          clear hst
          have hd : decide (0 < x) = true := by simp [hx0]
          go_wp2_with fail
          refine HC.out.mono ?_
          rintro e w2 ⟨rfl, hrd2, hg2⟩
          have HRD3 := Lib.hid hrd2
          have HO3 := Lib.hid (own_other HO2.out hg2 (.inr (fun e => by have := own_ge HO2.out R e; omega)))
          have HG3 := Lib.hid (grown_trans HG2.out hg2)
          clear hrd2 hg2
          go_wp2_with fail
          refine (ask_yes _ _ _ _).mono ?_
          rintro e w3 ⟨rfl, rfl⟩
          have HO4 := Lib.hid (HO3.out.alloc (.cells #[.int .i64 x] 3))
          go_wp2_with (at_builtin; refine wpList_append_own _ rfl _ _ 41 rfl w.heap.size 3 i0 (.int .i64 0) 1 8 Try.underlying41 hi hz0 hz1 hz2 rfl (by decide) _ _ _ rfl HO4.out ⟨w2.heap.size, 0, none⟩ 1 1 [.int .i64 x] rfl rfl ?c1 ?c2 ?c3 ?c4 ?c5 ?_)
          case c1 =>
            intro j u hj
            match j, hj with
            | 0, hj => simp at hj; subst hj; simp [Addr.add]
          case c2 => intro u hu; simp at hu; subst hu; rfl
          case c3 => unfold maxLen; omega
          case c4 => omega
          case c5 => have h1 := HG3.out.size; simp; omega
          intro v' w4 hown hg4 _
          have HO5 : Hid (w4.ownsRow w.heap.size 3 1 v' (t + 1) (nums .i64 (L ++ [x]))) := by
            rw [nums_append]
            exact hown
          have hb4 : Below w.heap.size w2 w4 := ((Below.refl _ _).alloc HG3.out.size _).grown hg4 (by have h1 := HG3.out.size; simp; omega) (fun k hk => own_ge HO4.out k hk)
          have HE5 := Lib.hid (And.intro (grown_below HG3.out hb4) (rd_below HRD3.out hb4 hRw2))
          clear hb4
          clear hown hg4
          go_wp2
          go_roundw
          case rel =>
            have hq := HQ.out
            refine ⟨t + 1, L ++ [x], S + x, by omega, by go_num, rfl, Lib.hid ?_, by omega, by omega, HO5.out, ?_, HE5.out.1, ?_, Lib.hid ?_⟩
            · rw [hS.out]; simp
            · have := HE5.out.2
              rw [HQ.out] at this
              rw [show (a : Int) + ((t + 1 : Nat) : Int) * sz = a + t * sz + sz by push_cast; rw [Int.add_mul]; omega]
              exact this
            · rw [show (a : Int) + ((t + 1 : Nat) : Int) * sz = a + t * sz + sz by push_cast; rw [Int.add_mul]; omega]; omega
            · rw [show cnt - (t + 1) = m by omega, show a + (t + 1) * sz.toNat = q + sz.toNat by rw [Nat.add_mul]; omega]
              exact HST.out.symm
          case measure => exact own_meas hlt
        · have hst : szs b sz.toNat cnt a = .error (56, q) := by
            rw [← HZ.out, szs, if_neg HLEN.out, HX.out, if_pos (by omega)]; rfl
          have HST := Lib.hid hst
          clear hst
          have hd : decide (0 < x) = false := by simp [hx0]
          go_wp2_with fail
          refine HC.out.mono ?_
          rintro e w2 ⟨rfl, hrd2, hg2⟩
          have HG3 := Lib.hid (grown_trans HG2.out hg2)
          clear hrd2 hg2
          go_wp2_with fail
          refine (ask_no _ _ _ _).mono ?_
          rintro e w3 ⟨rfl, rfl⟩
          exact ⟨rfl, sz_err HST.out HG3.out⟩
    · obtain rfl : cnt = t := by omega
      go_wp2
      go_ret2
      have hz2 : szs b sz.toNat cnt a = .ok L := by
        rw [← hz.out, Nat.sub_self, szs]; simp [onto]
      have hl : L.length = cnt := by have := HO2.out.1; simpa [nums] using this
      rw [hS.out]
      refine sz_ok hz2 HG2.out ?_ HRD2.out
      rw [hl]
      exact HO2.out
end Go.Proofs.Ytkbboepopcebaaa
