/- The reader's sizes. -/
import Derived.Test.YtkbboepopcebaaaAT
import Derived.Test.YtkbboepopcebaaaN
import Derived.Deep.DeepCutAuto
import Derived.Test.YtkbboepopcebaaaF
import Derived.WalkSpells
import Derived.Deep.AppendLies
namespace Go.Proofs.Ytkbboepopcebaaa
open Go.RowKit

abbrev Bad := Int × Int
/-- Lengths of so many parts: from a place on, each of so many bytes. -/
def szs (b : List Int) (size : Nat) : Nat → Nat → Except Bad (List Int)
  | 0, _ => .ok []
  | k + 1, a => if b.length < a + size then .error (50, b.length) else if num b a size ≤ 0 then .error (56, a) else
    match szs b size k (a + size) with
    | .ok l => .ok (num b a size :: l)
    | .error e => .error e
def onto (L : List Int) : Except Bad (List Int) → Except Bad (List Int)
  | .ok l => .ok (L ++ l)
  | .error e => .error e
theorem onto_nil (x : Except Bad (List Int)) : onto [] x = x := by cases x <;> rfl
theorem szs_step (b : List Int) (size k a : Nat) (h1 : ¬ b.length < a + size) (h2 : ¬ num b a size ≤ 0) (L : List Int) : onto L (szs b size (k + 1) a) = onto (L ++ [num b a size]) (szs b size k (a + size)) := by
  rw [szs, if_neg h1, if_neg h2]
  cases szs b size k (a + size) <;> simp [onto]
def SzPost (b : List Int) (cnt a : Nat) (sz : Int) (R : Nat) (A : Option Addr) (n c : Nat) (w : World) (e : Ending) (w' : World) : Prop :=
  w.grownBy w' (some R) ∧ match szs b sz.toNat cnt a with
    | .ok l => ∃ v, e = .returned (.tuple #[v, .int .i64 l.sum]) ∧ w'.ownsRow w.heap.size 3 1 v l.length (nums .i64 l) ∧ RdAt w' R A n c (a + cnt * sz)
    | .error x => e = .panicked [wrongV x.1 x.2]
theorem sz_ok {b : List Int} {cnt a : Nat} {sz : Int} {R : Nat} {A : Option Addr} {n c : Nat} {w w' : World} {l : List Int} {v : Value} (h : szs b sz.toNat cnt a = .ok l) (hg : w.grownBy w' (some R)) (ho : w'.ownsRow w.heap.size 3 1 v l.length (nums .i64 l)) (hr : RdAt w' R A n c (a + cnt * sz)) :
    SzPost b cnt a sz R A n c w (.returned (.tuple #[v, .int .i64 l.sum])) w' := ⟨hg, by rw [h]; exact ⟨v, rfl, ho, hr⟩⟩
theorem sz_err {b : List Int} {cnt a : Nat} {sz : Int} {R : Nat} {A : Option Addr} {n c : Nat} {w w' : World} {x y : Int} (h : szs b sz.toNat cnt a = .error (x, y)) (hg : w.grownBy w' (some R)) :
    SzPost b cnt a sz R A n c w (.panicked [wrongV x y]) w' := ⟨hg, by rw [h]⟩
theorem rd_grown {w w1 : World} {R R' : Nat} {A : Option Addr} {n c : Nat} {a : Int} (h : RdAt w R A n c a) (hg : w.grownBy w1 (some R')) (hne : R ≠ R') : RdAt w1 R A n c a := by
  have hR := World.block_lt_of_cell? w _ h.place
  have hb := hg.block R hR (by simpa using hne)
  exact ⟨hg.cell h.bytes (by simpa using hne), hg.cell h.place (by simpa using hne), (World.frozen?_of_block (w := w) hb).trans h.free⟩
theorem grown_any {w w1 : World} (r : Option Nat) (hb : Below w.heap.size w w1) : w.grownBy w1 r := grown_of_below hb r
/-- What turned a row of the call's own has turned no elder block. -/
theorem below_row {w0 w w1 : World} {r : Option Nat} (hg : w.grownBy w1 r) (h0 : w0.heap.size ≤ w.heap.size) (hr : ∀ k, r = some k → w0.heap.size ≤ k) : Below w0.heap.size w w1 := (Below.refl _ _).grown hg h0 hr

theorem grown_below {w w1 w2 : World} {r : Option Nat} (h : w.grownBy w1 r) (k : Below w.heap.size w1 w2) : w.grownBy w2 r :=
  ⟨k.os.trans h.os, k.tape.trans h.tape, k.output.trans h.output, Nat.le_trans h.size k.size, fun i hi hne => (k.block i hi).trans (h.block i hi hne)⟩
theorem rd_below {B : Nat} {w w1 : World} {R : Nat} {A : Option Addr} {n c : Nat} {a : Int} (h : RdAt w R A n c a) (hb : Below B w w1) (hR : R < B) : RdAt w1 R A n c a :=
  ⟨(hb.cell (p := ⟨R, 0, none⟩) hR).trans h.bytes, (hb.cell (p := ⟨R, 1, none⟩) hR).trans h.place, (hb.frozen (p := ⟨R, 1, none⟩) hR).trans h.free⟩

set_option maxRecDepth 100000 in
set_option maxHeartbeats 2000000 in
theorem sizes_any (w0 : World) (R : Nat) (A : Option Addr) (n c cnt a : Nat) (sz : Int) (b : List Int) (w : World) (hb : NumsR w0 .u8 A b) (hy : Byt b) (hn : b.length = n) (hB : Below w0.heap.size w0 w) (hR : w0.heap.size ≤ R) (hr : RdAt w R A n c a)
    (h1 : 1 ≤ sz) (h2 : sz ≤ 4) (h3 : a ≤ n) (h4 : cnt ≤ 16384) :
    Calls Try.prog 55 #[.pointer (some ⟨R, 0, none⟩), .int .i64 cnt, .int .i64 sz] w (SzPost b cnt a sz R A n c w) := by
  obtain ⟨i0, hi, hz0, hz1, hz2⟩ := info_parts infoI
  have hmx : n ≤ 140737488351232 := by have := hb.1; unfold reach at *; omega
  have HBB := Lib.hid hb; clear hb
  have HY := Lib.hid hy; clear hy
  have HN := Lib.hid hn; clear hn
  have HBL := Lib.hid hB; clear hB
  have HMX := Lib.hid hmx; clear hmx
  have HRD := Lib.hid hr
  obtain ⟨r0, r1, rf⟩ := hr
  have hRw := World.block_lt_of_cell? w _ r1
  have hRw2 : R < w.heap.size := hRw
  clear hRw
  go_enter Try.func55, Try.ntmps55
  go_upto_region 1 with (fail)
  go_cut [8] (fun v wx => wx.ownsRow w.heap.size 3 1 v 0 [] ∧ w.grownBy wx none)
  case first =>
    by_cases hc : n < cnt
    · have hb2 := Lib.hid (show i0.bytes * n ≤ 281474976710656 by rw [hz2]; omega)
      have hb3 := Lib.hid (show n ≤ maxLen by unfold maxLen; omega)
      go_wp2_with (at_make; refine wpList_make_own _ rfl _ _ 41 rfl w.heap.size 3 i0 (.int .i64 0) 1 Try.underlying41 hi hz0 hz1 _ _ _ n rfl rfl rfl hb2.out hb3.out (Nat.le_refl _) ?_)
      intro w1 ho hg
      have HO := Lib.hid ho
      have HG := Lib.hid hg
      clear ho hg
      go_wp2_with fail
      go_meet
      exact ⟨HO.out, HG.out⟩
    · have hb2 := Lib.hid (show i0.bytes * cnt ≤ 281474976710656 by rw [hz2]; omega)
      have hb3 := Lib.hid (show cnt ≤ maxLen by unfold maxLen; omega)
      go_wp2_with (at_make; refine wpList_make_own _ rfl _ _ 41 rfl w.heap.size 3 i0 (.int .i64 0) 1 Try.underlying41 hi hz0 hz1 _ _ _ cnt rfl rfl rfl hb2.out hb3.out (Nat.le_refl _) ?_)
      intro w1 ho hg
      have HO := Lib.hid ho
      have HG := Lib.hid hg
      clear ho hg
      go_wp2_with fail
      go_meet
      exact ⟨HO.out, HG.out⟩
  case rest =>
  obtain ⟨ho, hg⟩ := hcut
  have HO := Lib.hid ho
  have HG := Lib.hid hg
  clear ho hg
  go_wp2
  go_loopw [8, 9, 10, 11, 21] (fun v s _ _ i wr => ∃ (t : Nat) (L : List Int) (S : Int), t ≤ cnt ∧ i = .int .i64 t ∧ s = .int .i64 S ∧ Hid (S = L.sum) ∧ 0 ≤ S ∧ S ≤ t * 4294967296 ∧ wr.ownsRow w.heap.size 3 1 v t (nums .i64 L) ∧ RdAt wr R A n c (a + t * sz) ∧ w.grownBy wr (some R) ∧ (a : Int) + t * sz ≤ n ∧
    Hid (onto L (szs b sz.toNat (cnt - t) (a + t * sz.toNat)) = szs b sz.toNat cnt a)) (fun _ _ _ _ i _ => cnt - (intOf i).toNat)
  case atStart => exact ⟨0, [], 0, Nat.zero_le _, rfl, rfl, Lib.hid rfl, by omega, by omega, HO.out, by simpa using rd_keep HRD.out ((Below.refl _ _).grown HG.out (Nat.le_refl _) (by simp)), (by have := HG.out; exact ⟨this.os, this.tape, this.output, this.size, fun k hk _ => this.block k hk (by simp)⟩), by simpa using h3, Lib.hid (by simp [onto_nil])⟩
  case round =>
    obtain ⟨t, L, S, ht, rfl, rfl, hS, S0, S1, ho, hrd, hg, hat, hz⟩ := hrel
    have HO2 := Lib.hid ho
    have HG2 := Lib.hid hg
    have HRD2 := Lib.hid hrd
    clear HO HG ho hg r0 r1 rf
    have hbw : Below w0.heap.size w0 wr := HBL.out.grown HG2.out (by have := HBL.out.size; omega) (by rintro k ⟨⟩; omega)
    have HBW := Lib.hid hbw
    clear hbw
    by_cases hlt : t < cnt
    · have hsz0 : ((sz.toNat : Nat) : Int) = sz := by omega
      have hta : (0 : Int) ≤ a + t * sz := by have : 0 ≤ (t : Int) * sz := Int.mul_nonneg (by omega) (by omega); omega
      obtain ⟨q, hq⟩ : ∃ q : Nat, (q : Int) = a + t * sz := ⟨(a + t * sz).toNat, by omega⟩
      have hq2 : a + t * sz.toNat = q := by
        have : ((a + t * sz.toNat : Nat) : Int) = (q : Int) := by rw [hq]; push_cast; rw [hsz0]
        omega
      rw [← hq] at hrd hat
      rw [hq2] at hz
      obtain ⟨m, hm⟩ : ∃ m, cnt - t = m + 1 := ⟨cnt - t - 1, by omega⟩
      rw [hm] at hz
      have HZ := hz
      have HQ := Lib.hid hq
      clear hz hq
      by_cases hcut : (n : Int) < q + sz
      · have hp : szs b sz.toNat cnt a = .error (50, n) := by
          rw [← HZ.out, szs, if_pos (by have := HN.out; omega), HN.out]; rfl
        have HP := Lib.hid hp
        have HC := Lib.hid (next_cut R A n c q sz wr hrd (by have := HMX.out; omega) (by omega) hat (by omega) h2 hcut)
        clear hp hrd
        go_wp2_with fail
        refine HC.out.mono ?_
        rintro e w2 ⟨rfl, rfl⟩
        exact ⟨rfl, sz_err HP.out HG2.out⟩
      · have hlen : ¬ b.length < q + sz.toNat := by have := HN.out; omega
        obtain ⟨x, hx⟩ : ∃ x, num b q sz.toNat = x := ⟨_, rfl⟩
        have hbd := num_bd HY.out q sz.toNat
        rw [hx] at hbd
        have hbd2 : x < 4294967296 := by
          have : (256 : Int) ^ sz.toNat ≤ 4294967296 := by
            rcases (show sz = 1 ∨ sz = 2 ∨ sz = 3 ∨ sz = 4 by omega) with rfl | rfl | rfl | rfl <;> decide
          omega
        have hbd0 := hbd.1
        have HC := next_ok w0 R A n c q sz b wr HBB.out HY.out HN.out HBW.out hR hrd (by omega) (by omega) h2 (by omega)
        rw [show ((q : Nat) : Int).toNat = q by omega, hx] at HC
        have HC := Lib.hid HC
        have HX := Lib.hid hx
        have HLEN := Lib.hid hlen
        clear hx hbd hlen hrd
        by_cases hx0 : 0 < x
        · have hst := szs_step b sz.toNat m q HLEN.out (by rw [HX.out]; omega) L
          rw [HZ.out, HX.out] at hst
          have HST := Lib.hid hst
          clear hst
          have hd : decide (0 < x) = true := by simp [hx0]
          go_wp2_with fail
          refine HC.out.mono ?_
          rintro e w2 ⟨rfl, hrd2, hg2⟩
          have HRD3 := Lib.hid hrd2
          have HO3 := Lib.hid (own_other HO2.out hg2 (.inr (fun e => by have := own_ge HO2.out R e; omega)))
          have HG3 := Lib.hid (grown_trans HG2.out hg2)
          clear hrd2 hg2
          go_wp2_with fail
          refine (ask_yes _ _ _ _).mono ?_
          rintro e w3 ⟨rfl, rfl⟩
          have HO4 := Lib.hid (HO3.out.alloc (.cells #[.int .i64 x] 3))
          go_wp2_with (at_builtin; refine wpList_append_own _ rfl _ _ 41 rfl w.heap.size 3 i0 (.int .i64 0) 1 8 Try.underlying41 hi hz0 hz1 hz2 rfl (by decide) _ _ _ rfl HO4.out ⟨w2.heap.size, 0, none⟩ 1 1 [.int .i64 x] rfl rfl ?c1 ?c2 ?c3 ?c4 ?c5 ?_)
          case c1 =>
            intro j u hj
            match j, hj with
            | 0, hj => simp at hj; subst hj; simp [Addr.add]
          case c2 => intro u hu; simp at hu; subst hu; rfl
          case c3 => unfold maxLen; omega
          case c4 => omega
          case c5 => have h1 := HG3.out.size; simp; omega
          intro v' w4 hown hg4 _
          have HO5 : Hid (w4.ownsRow w.heap.size 3 1 v' (t + 1) (nums .i64 (L ++ [x]))) := by
            rw [nums_append]
            exact hown
          have hb4 : Below w.heap.size w2 w4 := ((Below.refl _ _).alloc HG3.out.size _).grown hg4 (by have h1 := HG3.out.size; simp; omega) (fun k hk => own_ge HO4.out k hk)
          have HE5 := Lib.hid (And.intro (grown_below HG3.out hb4) (rd_below HRD3.out hb4 hRw2))
          clear hb4
          clear hown hg4
          go_wp2
          go_roundw
          case rel =>
            have hq := HQ.out
            refine ⟨t + 1, L ++ [x], S + x, by omega, by go_num, rfl, Lib.hid ?_, by omega, by omega, HO5.out, ?_, HE5.out.1, ?_, Lib.hid ?_⟩
            · rw [hS.out]; simp
            · have := HE5.out.2
              rw [HQ.out] at this
              rw [show (a : Int) + ((t + 1 : Nat) : Int) * sz = a + t * sz + sz by push_cast; rw [Int.add_mul]; omega]
              exact this
            · rw [show (a : Int) + ((t + 1 : Nat) : Int) * sz = a + t * sz + sz by push_cast; rw [Int.add_mul]; omega]; omega
            · rw [show cnt - (t + 1) = m by omega, show a + (t + 1) * sz.toNat = q + sz.toNat by rw [Nat.add_mul]; omega]
              exact HST.out.symm
          case measure => exact own_meas hlt
        · have hst : szs b sz.toNat cnt a = .error (56, q) := by
            rw [← HZ.out, szs, if_neg HLEN.out, HX.out, if_pos (by omega)]; rfl
          have HST := Lib.hid hst
          clear hst
          have hd : decide (0 < x) = false := by simp [hx0]
          go_wp2_with fail
          refine HC.out.mono ?_
          rintro e w2 ⟨rfl, hrd2, hg2⟩
          have HG3 := Lib.hid (grown_trans HG2.out hg2)
          clear hrd2 hg2
          go_wp2_with fail
          refine (ask_no _ _ _ _).mono ?_
          rintro e w3 ⟨rfl, rfl⟩
          exact ⟨rfl, sz_err HST.out HG3.out⟩
    · obtain rfl : cnt = t := by omega
      go_wp2
      go_ret2
      have hz2 : szs b sz.toNat cnt a = .ok L := by
        rw [← hz.out, Nat.sub_self, szs]; simp [onto]
      have hl : L.length = cnt := by have := HO2.out.1; simpa [nums] using this
      rw [hS.out]
      refine sz_ok hz2 HG2.out ?_ HRD2.out
      rw [hl]
      exact HO2.out
end Go.Proofs.Ytkbboepopcebaaa
namespace Go.Proofs.Ytkbboepopcebaaa
open Go.RowKit

theorem own_empty (w : World) (e : TypeId) (size : Nat) : (w.alloc (.cells #[] e)).ownsRow w.heap.size e size (.slice (some ⟨w.heap.size, 0, none⟩) 0 0) 0 [] :=
  World.ownsRow_made w #[] 0 (Nat.le_refl _) (by simp [maxLen]) (by simp)

set_option maxRecDepth 100000 in
theorem clone_some (ad : Addr) (n c : Nat) (xs : List Value) (w : World) (hx : xs.length = n) (h : ∀ j v, xs[j]? = some v → w.cell? (ad.add j) = some v) (h1 : ∀ u ∈ xs, u.oneCell' = true) (hl : n ≤ reach) :
    Calls Try.prog 58 #[.slice (some ad) n c] w fun e w' => ∃ v, e = .returned v ∧ w'.ownsRow w.heap.size 5 1 v n xs ∧ Below w.heap.size w w' := by
  obtain ⟨i0, hi, hz0, hz1, hz2⟩ := info_parts info5
  have HX := Lib.hid hx; clear hx
  have HL := Lib.hid hl; clear hl
  have HC : Hid (∀ j v, xs[j]? = some v → (w.alloc (.cells #[] 5)).cell? (ad.add j) = some v) := Lib.hid fun j v hv => cell_keep (below_alloc _ _) (h j v hv)
  clear h
  have hn := fun (w : World) => Lib.run_eql_slice_nil (P := Try.prog) w 22 5 (some ad) n c 0 0 Try.underlying22
  go_enter Try.func58, Try.ntmps58
  go_wp2_with (at_builtin; refine wpList_append_own _ rfl _ _ 22 rfl w.heap.size 5 i0 (.int .u8 0) 1 1 Try.underlying22 hi hz0 hz1 hz2 rfl (by decide) _ _ _ rfl (own_empty _ _ _) ad n c xs rfl ?c0 HC.out h1 ?c3 ?c4 ?c5 ?_)
  case c0 => have := HX.out; omega
  case c3 => have := HL.out; unfold reach at this; unfold maxLen; omega
  case c4 => have := HL.out; unfold reach at this; omega
  case c5 => simp
  intro v' w1 hown hg _
  have hown2 : w1.ownsRow w.heap.size 5 1 v' n xs := by simpa only [Nat.zero_add, List.nil_append] using hown
  clear hown
  go_wp2
  go_ret
  exact ⟨v', rfl, hown2, (below_alloc _ _).grown hg (by simp) (by simp [Value.ownBlock])⟩
set_option maxRecDepth 100000 in
theorem clone_none (w : World) :
    Calls Try.prog 58 #[.slice none 0 0] w fun e w' => ∃ v, e = .returned v ∧ w'.ownsRow w.heap.size 5 1 v 0 [] ∧ Below w.heap.size w w' := by
  have hn := fun (w : World) => Lib.run_eql_slice_nil (P := Try.prog) w 22 5 none 0 0 0 0 Try.underlying22
  go_enter Try.func58, Try.ntmps58
  go_wp2
  go_ret
  exact ⟨_, rfl, World.ownsRow_nil _ _ _ _, Below.refl _ _⟩
/-- slices.Clone: the same bytes in new memory. -/
theorem clone_any (v : Value) (l : List Int) (w : World) (h : NumsV w .u8 v l) :
    Calls Try.prog 58 #[v] w fun e w' => ∃ v', e = .returned v' ∧ w'.ownsRow w.heap.size 5 1 v' l.length (nums .u8 l) ∧ Below w.heap.size w w' := by
  obtain ⟨A, c, rfl, h1, h2, h3⟩ := h
  cases A with
  | some ad => exact clone_some ad _ c (nums .u8 l) w (nums_length _ _) h3.src (nums_one _ _) h3.1
  | none =>
    obtain rfl := h2 rfl
    obtain rfl : l = [] := List.eq_nil_of_length_eq_zero (by omega)
    exact clone_none w
set_option maxRecDepth 100000 in
set_option maxHeartbeats 800000 in
/-- clones: each part in new memory. -/
theorem clones_at (A : Option Addr) (c n : Nat) (ll : List (List Int)) (w : World) (hn : ll.length = n) (hf : Few ll) (h : PartsR w A ll) :
    Calls Try.prog 60 #[.slice A n c] w fun e w' => ∃ v', e = .returned v' ∧ PartsO w' w.heap.size v' ll ∧ Below w.heap.size w w' := by
  obtain ⟨i0, hi, hz0, hz1, hz2⟩ := info_parts info22
  have HN := Lib.hid hn; clear hn
  have HF := Lib.hid hf; clear hf
  have HP := Lib.hid h; clear h
  have hmx : n ≤ 4294967296 := by have := HN.out; have h2 := HF.out; unfold Few most at h2; omega
  go_enter Try.func60, Try.ntmps60
  go_wp2
  go_loopw [3, 8] (fun v i wr => ∃ k : Nat, k ≤ n ∧ i = .int .i64 k ∧ PartsO wr w.heap.size v (ll.take k) ∧ Below w.heap.size w wr) (fun _ i _ => n - (intOf i).toNat)
  case atStart => exact ⟨0, Nat.zero_le _, rfl, PartsO.nil _ _, Below.refl _ _⟩
  case round =>
    obtain ⟨k, hk, rfl, hO, hb⟩ := hrel
    by_cases hlt : k < n
    · have hk2 : k < ll.length := by have := HN.out; omega
      obtain ⟨b1, o1, rfl, hc⟩ := (HP.out.mono hb).2 (by omega)
      obtain ⟨p, hcell, hp⟩ := hc k hk2
      obtain ⟨l, hl⟩ : ∃ l, l = ll.getD k [] := ⟨_, rfl⟩
      rw [← hl] at hp
      have HL := Lib.hid hl
      clear hl
      obtain ⟨pl, hpl⟩ : ∃ pl, pl = ll.take k := ⟨_, rfl⟩
      have hpk : pl.length = k := by rw [hpl, List.length_take]; omega
      rw [← hpl] at hO
      have HPL := Lib.hid hpl
      have HPK := Lib.hid hpk
      clear hpl
      have HC := Lib.hid hp
      have HO := Lib.hid hO
      have HB := Lib.hid hb
      obtain ⟨vs, hov⟩ := hO
      obtain ⟨A0, c0, rfl, hsh⟩ := own_shape hov.own
      rw [hpk] at hov ⊢
      have HO := Lib.hid hov
      clear hc hp hb hpk hsh hov
      go_wp2_with fail
      refine (clone_any _ _ _ HC.out).mono ?_
      rintro e w1 ⟨p', rfl, hpo, hpb⟩
      obtain ⟨A1, c1, rfl, hs2⟩ := own_shape hpo
      have HPO := Lib.hid hpo
      have HPB := Lib.hid hpb
      clear hpo hpb hs2
      have hv1 := HO.out.own
      rw [HPK.out] at hv1
      have hv2 := Lib.hid ((own_below hv1 HPB.out).alloc (.cells #[.slice A1 l.length c1] 22))
      clear hv1
      go_wp2_with (at_builtin; refine wpList_append_own_at _ rfl _ _ 26 rfl w.heap.size 22 i0 (.slice none 0 0) 1 24 Try.underlying26 hi hz0 hz1 hz2 rfl (by decide) _ _ _ rfl hv2.out ⟨w1.heap.size, 0, none⟩ 1 1 [.slice A1 l.length c1] rfl rfl ?c1 ?c2 ?c3 ?c4 ?c5 ?_)
      case c1 =>
        intro j u hj
        match j, hj with
        | 0, hj => simp at hj; subst hj; simp [Addr.add]
      case c2 => intro u hu; simp at hu; subst hu; rfl
      case c3 => unfold maxLen; omega
      case c4 => omega
      case c5 => have h1 := HB.out.size; have h2 := HPB.out.size; simp; omega
      intro v' w2 hown hg _ hat
      have hO2 : PartsO w2 w.heap.size v' (ll.take (k + 1)) := by
        rw [take_snoc' ll k [] hk2, ← HPL.out, ← HL.out]
        exact ⟨_, PartsOv.snoc HB.out.size (Nat.le_refl _) HO.out (HPB.out.trans ((below_alloc _ _).mono HPB.out.size)) (HPO.out.alloc _) (by rw [HPK.out]; exact hown) hg⟩
      have hB2 : Below w.heap.size w w2 :=
        (below_step HB.out (below_step HPB.out (below_alloc _ _))).grown hg (by have h1 := HB.out.size; have h2 := HPB.out.size; simp; omega) (fun k hk => own_ge hv2.out k hk)
      clear hown hg hat
      go_wp2
      go_roundw
      case rel => exact ⟨k + 1, by omega, by go_num, hO2, hB2⟩
      case measure => exact own_meas hlt
    · go_wp2
      go_ret
      have hkn : k = n := by omega
      rw [hkn, List.take_of_length_le (by have := HN.out; omega)] at hO
      exact ⟨_, rfl, hO, hb⟩
end Go.Proofs.Ytkbboepopcebaaa
namespace Go.Proofs.Ytkbboepopcebaaa
open Go.RowKit

/-- Between the two worlds no block but v's has turned; v' lies where v lay, or in a new block. -/
structure Ext (w w' : World) (v v' : Value) : Prop where
  grown : w.grownBy w' v.ownBlock
  lies : v'.ownBlock = v.ownBlock ∨ ∃ b, v'.ownBlock = some b ∧ w.heap.size ≤ b
theorem grown_refl (w : World) (r : Option Nat) : w.grownBy w r := ⟨rfl, rfl, rfl, Nat.le_refl _, fun _ _ _ => rfl⟩
theorem Ext.refl (w : World) (v : Value) : Ext w w v v := ⟨grown_refl _ _, .inl rfl⟩
theorem Ext.trans {w w1 w2 : World} {v v1 v2 : Value} (h : Ext w w1 v v1) (k : Ext w1 w2 v1 v2) : Ext w w2 v v2 := by
  refine ⟨⟨k.grown.os.trans h.grown.os, k.grown.tape.trans h.grown.tape, k.grown.output.trans h.grown.output, Nat.le_trans h.grown.size k.grown.size, fun i hi hne => ?_⟩, ?_⟩
  · rw [k.grown.block i (Nat.lt_of_lt_of_le hi h.grown.size) ?_]
    · exact h.grown.block i hi hne
    · rcases h.lies with e | ⟨b, e, hb⟩
      · rw [e]; exact hne
      · rw [e]; intro he; have := Option.some.inj he; omega
  · rcases k.lies with e | ⟨b, e, hb⟩
    · rw [e]; exact h.lies
    · exact .inr ⟨b, e, Nat.le_trans h.grown.size hb⟩
theorem Ext.alloc (w : World) (o : Obj) (v : Value) : Ext w (w.alloc o) v v := ⟨World.grownBy_alloc _ _ _, .inl rfl⟩
theorem Ext.drew (w : World) (v : Value) : Ext w w.drew v v := ⟨⟨rfl, rfl, rfl, Nat.le_refl _, fun _ _ _ => rfl⟩, .inl rfl⟩
theorem Ext.cell {w w' : World} {v v' : Value} (h : Ext w w' v v') {a : Addr} {x : Value} (hc : w.cell? a = some x) (hne : some a.block ≠ v.ownBlock) : w'.cell? a = some x := h.grown.cell hc hne
theorem Ext.below {w w' : World} {v v' : Value} (h : Ext w w' v v') {B : Nat} {l : List Int} (ho : Own8 w B v l) (hB : B ≤ w.heap.size) : Below B w w' := (Below.refl _ _).grown h.grown hB (own_ge ho)
/-- A slice of the call's own has never lain in a block that was made later. -/
theorem own_ne {w : World} {B : Nat} {v : Value} {l : List Int} (ho : Own8 w B v l) {k : Nat} (hk : w.heap.size ≤ k) : some k ≠ v.ownBlock := by
  intro e
  have := own_lt ho k e.symm
  omega
theorem Ext.ne {w w' : World} {v v' : Value} (h : Ext w w' v v') {k : Nat} (hk : k < w.heap.size) (hne : some k ≠ v.ownBlock) : some k ≠ v'.ownBlock := by
  rcases h.lies with e | ⟨b, e, hb⟩
  · rw [e]; exact hne
  · rw [e]; intro he; have := Option.some.inj he; omega

section
variable {ops : Array Oper} {rest : List Oper} {o : Oper} {a : Act} {Q : Exit → Act → World → Prop} {K : Act → World → Prop} {E : Prop}
theorem wp_app_at {W : World} (s x : Operand) (ho : o.op = .call { callee := .builtin .append, args := #[s, x], argTypes := #[22, 22] })
    (B : Nat) (v : Value) (l new : List Int) (hs : a.eval s = v) (HO : Hid (Own8 W B v l)) (ad : Addr) (m c : Nat) (hx : a.eval x = .slice (some ad) m c) (hm : Hid (new.length = m))
    (hnew : Hid (∀ (j : Nat) (u : Value), (nums .u8 new)[j]? = some u → W.cell? (ad.add j) = some u)) (hB : B ≤ W.heap.size) (hl : Hid (l.length + new.length ≤ reach))
    (h : ∀ v' w', Own8 w' B v' (l ++ new) → Ext W w' v v' → K (a.put o.dst v') w') : Oper.wp Try.prog o a W K Q := by
  obtain ⟨i0, hi, hz0, hz1, hz2⟩ := info_parts infoB
  have h1 := HO.out
  have h2 := hm.out
  have h3 := hl.out
  unfold reach at h3
  obtain ⟨v', w', hr, hown, hg, h4, hat⟩ := run_append_own_at (P := Try.prog) W B 22 o.type 5 i0 (.int .u8 0) 1 1 Try.underlying22 hi hz0 hz1 hz2 rfl (by decide) v l.length (nums .u8 l) h1 ad m c (nums .u8 new) (by rw [nums_length, h2]; omega) hnew.out (nums_one _ _) (by unfold maxLen; omega) (by omega) hB
  unfold Oper.wp execOp
  simp only [ho, resolve, invoke, builtin, Sem.run_bind, Sem.run_pure, Result.andThen_ok, List.map_toArray, List.map_cons, List.map_nil, hs, hx, hr]
  refine h v' w' ?_ ⟨hg, hat.imp id fun e => ⟨_, e, Nat.le_refl _⟩⟩
  unfold Own8
  rw [List.length_append, nums_append, h2]
  exact hown
theorem box_news (W : World) (new : List Int) : ∀ (j : Nat) (u : Value), (nums .u8 new)[j]? = some u → (W.alloc (.cells (nums .u8 new).toArray 5)).cell? ((⟨W.heap.size, 0, none⟩ : Addr).add j) = some u := by
  have := World.news_of_block (w := (W.alloc (.cells (nums .u8 new).toArray 5))) (B := W.heap.size) (cs := (nums .u8 new).toArray) (t := 5) (fr := (0, 0)) (heap_alloc_new W _)
  simpa using this
/-- append(v, new...) in a plain region, the new bytes in the box that was just made. -/
theorem app_box {W : World} (s x : Operand) (hgd : o.guard = none) (ho : o.op = .call { callee := .builtin .append, args := #[s, x], argTypes := #[22, 22] })
    (B : Nat) (v : Value) (l new : List Int) (m : Nat) (hs : a.eval s = v) (HO : Hid (Own8 W B v l)) (hx : a.eval x = .slice (some ⟨W.heap.size, 0, none⟩) m m) (hm : Hid (new.length = m)) (hB : B ≤ W.heap.size) (hl : Hid (l.length + new.length ≤ reach))
    (h : ∀ v' w', Own8 w' B v' (l ++ new) → Ext W w' v v' → wpList Try.prog ops Q rest (a.put o.dst v') w') : wpList Try.prog ops Q (o :: rest) a (W.alloc (.cells (nums .u8 new).toArray 5)) :=
  wpList_plain hgd fun _ hK => wp_app_at s x ho B v l new hs (Lib.hid (HO.out.below (below_alloc _ _))) ⟨W.heap.size, 0, none⟩ m m hx hm (Lib.hid (box_news W new)) (by simp; omega) hl fun v' w' hown hb => hK _ _ (h v' w' hown ((Ext.alloc _ _ _).trans hb))
theorem appx_byte {W : World} {y : Int} (s x : Operand) (hgd : o.guard = none) (ho : o.op = .call { callee := .builtin .append, args := #[s, x], argTypes := #[22, 22] })
    (B : Nat) (v : Value) (l : List Int) (hs : a.eval s = v) (HO : Hid (Own8 W B v l)) (hx : a.eval x = .slice (some ⟨W.heap.size, 0, none⟩) 1 1) (hB : B ≤ W.heap.size) (hl : Hid (l.length + 1 ≤ reach))
    (h : ∀ v' w', Own8 w' B v' (l ++ [y]) → Ext W w' v v' → wpList Try.prog ops Q rest (a.put o.dst v') w') : wpList Try.prog ops Q (o :: rest) a (W.alloc (.cells #[.int .u8 y] 5)) :=
  app_box s x hgd ho B v l [y] 1 hs HO hx (Lib.hid rfl) hB (Lib.hid hl.out) h
/-- At a step of a region that draws its order: the box was made right behind the draw. -/
theorem step_app_d {W : World} (new : List Int) (s x : Operand) (hgd : o.guard = none) (ho : o.op = .call { callee := .builtin .append, args := #[s, x], argTypes := #[22, 22] })
    (B : Nat) (v : Value) (l : List Int) (m : Nat) (hs : a.eval s = v) (HO : Hid (Own8 W B v l)) (hx : a.eval x = .slice (some ⟨W.heap.size, 0, none⟩) m m) (hm : Hid (new.length = m)) (hB : B ≤ W.heap.size) (hl : Hid (l.length + new.length ≤ reach))
    (h : ∀ v' w', Own8 w' B v' (l ++ new) → Ext W w' v v' → K (a.put o.dst v') w') :
    if Region.wanted o (yielded ops a.tmps) = true then Oper.wp Try.prog o a (W.alloc (.cells (nums .u8 new).toArray 5)).drew K Q else E := by
  have hw : Region.wanted o (yielded ops a.tmps) = true := by simp [Region.wanted, hgd]
  rw [if_pos hw]
  have hb0 : Below W.heap.size W (W.alloc (.cells (nums .u8 new).toArray 5)).drew := (below_alloc _ _).drew
  refine wp_app_at s x ho B v l new hs (Lib.hid (HO.out.below hb0)) ⟨W.heap.size, 0, none⟩ m m hx hm (Lib.hid (box_news W new)) (by show B ≤ (W.alloc _).heap.size; simp; omega) hl ?_
  intro v' w' hown hb
  exact h v' w' hown (((Ext.alloc _ _ _).trans (Ext.drew _ _)).trans hb)
theorem step_app {W : World} (new : List Int) (s x : Operand) (hgd : o.guard = none) (ho : o.op = .call { callee := .builtin .append, args := #[s, x], argTypes := #[22, 22] })
    (B : Nat) (v : Value) (l : List Int) (m : Nat) (hs : a.eval s = v) (HO : Hid (Own8 W B v l)) (hx : a.eval x = .slice (some ⟨W.heap.size, 0, none⟩) m m) (hm : Hid (new.length = m)) (hB : B ≤ W.heap.size) (hl : Hid (l.length + new.length ≤ reach))
    (h : ∀ v' w', Own8 w' B v' (l ++ new) → Ext W w' v v' → K (a.put o.dst v') w') :
    if Region.wanted o (yielded ops a.tmps) = true then Oper.wp Try.prog o a (W.alloc (.cells (nums .u8 new).toArray 5)) K Q else E := by
  have hw : Region.wanted o (yielded ops a.tmps) = true := by simp [Region.wanted, hgd]
  rw [if_pos hw]
  refine wp_app_at s x ho B v l new hs (Lib.hid (HO.out.below (below_alloc _ _))) ⟨W.heap.size, 0, none⟩ m m hx hm (Lib.hid (box_news W new)) (by simp; omega) hl ?_
  intro v' w' hown hb
  exact h v' w' hown ((Ext.alloc _ _ _).trans hb)
theorem step1 {W : World} {y : Int} (s x : Operand) (hgd : o.guard = none) (ho : o.op = .call { callee := .builtin .append, args := #[s, x], argTypes := #[22, 22] })
    (B : Nat) (v : Value) (l : List Int) (hs : a.eval s = v) (HO : Hid (Own8 W B v l)) (hx : a.eval x = .slice (some ⟨W.heap.size, 0, none⟩) 1 1) (hB : B ≤ W.heap.size) (hl : Hid (l.length + 1 ≤ reach))
    (h : ∀ v' w', Own8 w' B v' (l ++ [y]) → Ext W w' v v' → K (a.put o.dst v') w') :
    if Region.wanted o (yielded ops a.tmps) = true then Oper.wp Try.prog o a (W.alloc (.cells #[.int .u8 y] 5)) K Q else E := step_app [y] s x hgd ho B v l 1 hs HO hx (Lib.hid rfl) hB (Lib.hid hl.out) h
theorem step2 {W : World} {y z : Int} (s x : Operand) (hgd : o.guard = none) (ho : o.op = .call { callee := .builtin .append, args := #[s, x], argTypes := #[22, 22] })
    (B : Nat) (v : Value) (l : List Int) (hs : a.eval s = v) (HO : Hid (Own8 W B v l)) (hx : a.eval x = .slice (some ⟨W.heap.size, 0, none⟩) 2 2) (hB : B ≤ W.heap.size) (hl : Hid (l.length + 2 ≤ reach))
    (h : ∀ v' w', Own8 w' B v' (l ++ [y, z]) → Ext W w' v v' → K (a.put o.dst v') w') :
    if Region.wanted o (yielded ops a.tmps) = true then Oper.wp Try.prog o a (W.alloc (.cells #[.int .u8 y, .int .u8 z] 5)) K Q else E := step_app [y, z] s x hgd ho B v l 2 hs HO hx (Lib.hid rfl) hB (Lib.hid hl.out) h
theorem step1_d {W : World} {y : Int} (s x : Operand) (hgd : o.guard = none) (ho : o.op = .call { callee := .builtin .append, args := #[s, x], argTypes := #[22, 22] })
    (B : Nat) (v : Value) (l : List Int) (hs : a.eval s = v) (HO : Hid (Own8 W B v l)) (hx : a.eval x = .slice (some ⟨W.heap.size, 0, none⟩) 1 1) (hB : B ≤ W.heap.size) (hl : Hid (l.length + 1 ≤ reach))
    (h : ∀ v' w', Own8 w' B v' (l ++ [y]) → Ext W w' v v' → K (a.put o.dst v') w') :
    if Region.wanted o (yielded ops a.tmps) = true then Oper.wp Try.prog o a (W.alloc (.cells #[.int .u8 y] 5)).drew K Q else E := step_app_d [y] s x hgd ho B v l 1 hs HO hx (Lib.hid rfl) hB (Lib.hid hl.out) h
theorem step2_d {W : World} {y z : Int} (s x : Operand) (hgd : o.guard = none) (ho : o.op = .call { callee := .builtin .append, args := #[s, x], argTypes := #[22, 22] })
    (B : Nat) (v : Value) (l : List Int) (hs : a.eval s = v) (HO : Hid (Own8 W B v l)) (hx : a.eval x = .slice (some ⟨W.heap.size, 0, none⟩) 2 2) (hB : B ≤ W.heap.size) (hl : Hid (l.length + 2 ≤ reach))
    (h : ∀ v' w', Own8 w' B v' (l ++ [y, z]) → Ext W w' v v' → K (a.put o.dst v') w') :
    if Region.wanted o (yielded ops a.tmps) = true then Oper.wp Try.prog o a (W.alloc (.cells #[.int .u8 y, .int .u8 z] 5)).drew K Q else E := step_app_d [y, z] s x hgd ho B v l 2 hs HO hx (Lib.hid rfl) hB (Lib.hid hl.out) h
end

theorem ext_of_below {w w' : World} (h : Below w.heap.size w w') (v : Value) : Ext w w' v v := ⟨grown_of_below h _, .inl rfl⟩
theorem Ext.box {w w' : World} {v v' : Value} (h : Ext w w' v v') {g : Nat} {x : Obj} (hg : w.heap[g]? = some x) (hne : some g ≠ v.ownBlock) : w'.heap[g]? = some x := by
  rw [h.grown.block g (Array.getElem?_eq_some_iff.1 hg).1 hne]; exact hg
theorem drew_size (w : World) : w.drew.heap.size = w.heap.size := rfl
theorem own_al {w : World} {B : Nat} {v : Value} {l : List Int} (o : Obj) (h : Own8 w B v l) : Own8 (w.alloc o) B v l := h.below (below_alloc _ _)
theorem own_dr {w : World} {B : Nat} {v : Value} {l : List Int} (h : Own8 w B v l) : Own8 w.drew B v l := h.below (Below.refl _ _).drew
theorem box_new' (w : World) (o : Obj) (g : Nat) (hg : g = w.heap.size) : (w.alloc o).heap[g]? = some o := by subst hg; exact heap_alloc_new w o
theorem box_al {w : World} {g : Nat} {x : Obj} (o : Obj) (h : w.heap[g]? = some x) : (w.alloc o).heap[g]? = some x := by
  rw [heap_alloc_old w o (Array.getElem?_eq_some_iff.1 h).1]; exact h
theorem box_dr {w : World} {g : Nat} {x : Obj} (h : w.heap[g]? = some x) : w.drew.heap[g]? = some x := h
theorem box_news_g (W : World) (g : Nat) (new : List Int) (hg : W.heap[g]? = some (.cells (nums .u8 new).toArray 5 (0, 0))) : ∀ (j : Nat) (u : Value), (nums .u8 new)[j]? = some u → W.cell? ((⟨g, 0, none⟩ : Addr).add j) = some u := by
  have := World.news_of_block (w := W) (B := g) (cs := (nums .u8 new).toArray) (t := 5) (fr := (0, 0)) hg
  simpa using this
/-- append(v, new...) at a step of a region that draws, the new bytes in a box that was made before. -/
theorem step_g {ops : Array Oper} {o : Oper} {a : Act} {Q : Exit → Act → World → Prop} {K : Act → World → Prop} {E : Prop} {W : World} (new : List Int) (m : Nat) (s x : Operand) (hgd : o.guard = none) (ho : o.op = .call { callee := .builtin .append, args := #[s, x], argTypes := #[22, 22] })
    (B : Nat) (v : Value) (l : List Int) (g : Nat) (hs : a.eval s = v) (hx : a.eval x = .slice (some ⟨g, 0, none⟩) m m) (hm : new.length = m) (hl : Hid (l.length + m ≤ reach)) (HO : Own8 W B v l) (hg : W.heap[g]? = some (.cells (nums .u8 new).toArray 5 (0, 0))) (hB : B ≤ W.heap.size)
    (h : ∀ v' w', Own8 w' B v' (l ++ new) → Ext W w' v v' → K (a.put o.dst v') w') :
    if Region.wanted o (yielded ops a.tmps) = true then Oper.wp Try.prog o a W K Q else E := by
  have hw : Region.wanted o (yielded ops a.tmps) = true := by simp [Region.wanted, hgd]
  rw [if_pos hw]
  exact wp_app_at s x ho B v l new hs (Lib.hid HO) ⟨g, 0, none⟩ m m hx (Lib.hid hm) (Lib.hid (box_news_g W g new hg)) hB (Lib.hid (by rw [hm]; exact hl.out)) h

theorem step_g1 {ops : Array Oper} {o : Oper} {a : Act} {Q : Exit → Act → World → Prop} {K : Act → World → Prop} {E : Prop} {W0 W : World} (y : Int) (s x : Operand) (hgd : o.guard = none) (ho : o.op = .call { callee := .builtin .append, args := #[s, x], argTypes := #[22, 22] })
    {B : Nat} {v : Value} {l : List Int} (g : Nat) (HO : Hid (Own8 W0 B v l)) (hs : a.eval s = v) (hx : a.eval x = .slice (some ⟨g, 0, none⟩) 1 1) (hl : Hid (l.length + 1 ≤ reach)) (hB : B ≤ W0.heap.size) (hb : Below W0.heap.size W0 W) (hg : W.heap[g]? = some (.cells #[.int .u8 y] 5 (0, 0)))
    (h : ∀ v' w', Own8 w' B v' (l ++ [y]) → Ext W0 w' v v' → Ext W w' v v' → K (a.put o.dst v') w') :
    if Region.wanted o (yielded ops a.tmps) = true then Oper.wp Try.prog o a W K Q else E :=
  step_g [y] 1 s x hgd ho B v l g hs hx rfl hl (HO.out.below hb) hg (Nat.le_trans hB hb.size) fun v' w' h1 h2 => h v' w' h1 ((ext_of_below hb v).trans h2) h2
theorem step_g2 {ops : Array Oper} {o : Oper} {a : Act} {Q : Exit → Act → World → Prop} {K : Act → World → Prop} {E : Prop} {W0 W : World} (y z : Int) (s x : Operand) (hgd : o.guard = none) (ho : o.op = .call { callee := .builtin .append, args := #[s, x], argTypes := #[22, 22] })
    {B : Nat} {v : Value} {l : List Int} (g : Nat) (HO : Hid (Own8 W0 B v l)) (hs : a.eval s = v) (hx : a.eval x = .slice (some ⟨g, 0, none⟩) 2 2) (hl : Hid (l.length + 2 ≤ reach)) (hB : B ≤ W0.heap.size) (hb : Below W0.heap.size W0 W) (hg : W.heap[g]? = some (.cells #[.int .u8 y, .int .u8 z] 5 (0, 0)))
    (h : ∀ v' w', Own8 w' B v' (l ++ [y, z]) → Ext W0 w' v v' → Ext W w' v v' → K (a.put o.dst v') w') :
    if Region.wanted o (yielded ops a.tmps) = true then Oper.wp Try.prog o a W K Q else E :=
  step_g [y, z] 2 s x hgd ho B v l g hs hx rfl hl (HO.out.below hb) hg (Nat.le_trans hB hb.size) fun v' w' h1 h2 => h v' w' h1 ((ext_of_below hb v).trans h2) h2

/-- Row or not. -/
theorem room1 {w : World} {B : Nat} {v : Value} {l : List Int} (_ : Hid (Own8 w B v l)) (hl : l.length + 1 ≤ reach) : Hid (l.length + 1 ≤ reach) := hl
theorem room2 {w : World} {B : Nat} {v : Value} {l : List Int} (_ : Hid (Own8 w B v l)) (hl : l.length + 2 ≤ reach) : Hid (l.length + 2 ≤ reach) := hl

set_option maxRecDepth 100000 in
theorem put2x (v : Value) (l : List Int) (x : Int) (B : Nat) (w : World) (h0 : 0 ≤ x) (h1 : x ≤ 4294967295) (hB : B ≤ w.heap.size) (hO : Own8 w B v l) (hl : l.length + 2 ≤ reach) :
    Calls Try.prog 49 #[v, .int .i64 x, .int .i64 2] w fun e w' => ∃ v', e = .returned v' ∧ Own8 w' B v' (l ++ be x 2) ∧ Ext w w' v v' := by
  have HO := Lib.hid hO; clear hO
  have HL := Lib.hid hl; clear hl
  go_enter Try.func49, Try.ntmps49
  go_wp2
  go_loopw [0, 2] (fun u i wr => ∃ (t : Nat) (z : Int), t ≤ 2 ∧ z = 1 - t ∧ i = .int .i64 z ∧ Own8 wr B u (l ++ (be x 2).take t) ∧ Ext w wr v u) (fun _ i _ => (intOf i + 1).toNat)
  case atStart => exact ⟨0, 1, by omega, by omega, rfl, by simpa using HO.out, Ext.refl _ _⟩
  case round =>
    obtain ⟨t, z, ht, hz, rfl, ho, hb⟩ := hrel
    have HO2 := Lib.hid ho
    have HB := Lib.hid hb
    have hsz : B ≤ wr.heap.size := by have := hb.grown.size; omega
    clear ho hb HO
    have hcases : t = 0 ∨ t = 1 ∨ t = 2 := by omega
    rcases hcases with rfl | rfl | rfl
    · obtain rfl : z = 1 := by omega
      clear hz
      have HR := room1 HO2 (by have := HL.out; simp [be_length]; omega)
      go_wp2_with (at_builtin; refine appx_byte (.tmp 13) (.tmp 19) rfl rfl B _ _ rfl HO2 rfl hsz HR ?_)
      intro v' w' hown hb2
      have HO3 := Lib.hid hown
      have HB3 := Lib.hid (HB.out.trans hb2)
      clear hown hb2
      go_wp2
      go_roundw
      case rel => exact ⟨1, 0, by omega, by omega, by first | rfl | go_num, by have := HO3.out; first | simpa [be, List.append_assoc] using this | (have e : x / 16777216 % 256 = x / 16777216 := (by omega); simpa [be, e, List.append_assoc] using this), HB3.out⟩
      case measure => simp [intOf]
    · obtain rfl : z = 0 := by omega
      clear hz
      have HR := room1 HO2 (by have := HL.out; simp [be_length]; omega)
      go_wp2_with (at_builtin; refine appx_byte (.tmp 13) (.tmp 19) rfl rfl B _ _ rfl HO2 rfl hsz HR ?_)
      intro v' w' hown hb2
      have HO3 := Lib.hid hown
      have HB3 := Lib.hid (HB.out.trans hb2)
      clear hown hb2
      go_wp2
      go_roundw
      case rel => exact ⟨2, -1, by omega, by omega, by first | rfl | go_num, by have := HO3.out; first | simpa [be, List.append_assoc] using this | (have e : x / 16777216 % 256 = x / 16777216 := (by omega); simpa [be, e, List.append_assoc] using this), HB3.out⟩
      case measure => simp [intOf]
    · obtain rfl : z = -1 := by omega
      clear hz
      go_wp2
      go_ret
      exact ⟨_, rfl, by have := HO2.out; simpa [be] using this, HB.out⟩

set_option maxRecDepth 100000 in
theorem put4x (v : Value) (l : List Int) (x : Int) (B : Nat) (w : World) (h0 : 0 ≤ x) (h1 : x ≤ 4294967295) (hB : B ≤ w.heap.size) (hO : Own8 w B v l) (hl : l.length + 4 ≤ reach) :
    Calls Try.prog 49 #[v, .int .i64 x, .int .i64 4] w fun e w' => ∃ v', e = .returned v' ∧ Own8 w' B v' (l ++ be x 4) ∧ Ext w w' v v' := by
  have HO := Lib.hid hO; clear hO
  have HL := Lib.hid hl; clear hl
  go_enter Try.func49, Try.ntmps49
  go_wp2
  go_loopw [0, 2] (fun u i wr => ∃ (t : Nat) (z : Int), t ≤ 4 ∧ z = 3 - t ∧ i = .int .i64 z ∧ Own8 wr B u (l ++ (be x 4).take t) ∧ Ext w wr v u) (fun _ i _ => (intOf i + 1).toNat)
  case atStart => exact ⟨0, 3, by omega, by omega, rfl, by simpa using HO.out, Ext.refl _ _⟩
  case round =>
    obtain ⟨t, z, ht, hz, rfl, ho, hb⟩ := hrel
    have HO2 := Lib.hid ho
    have HB := Lib.hid hb
    have hsz : B ≤ wr.heap.size := by have := hb.grown.size; omega
    clear ho hb HO
    have hcases : t = 0 ∨ t = 1 ∨ t = 2 ∨ t = 3 ∨ t = 4 := by omega
    rcases hcases with rfl | rfl | rfl | rfl | rfl
    · obtain rfl : z = 3 := by omega
      clear hz
      have HR := room1 HO2 (by have := HL.out; simp [be_length]; omega)
      go_wp2_with (at_builtin; refine appx_byte (.tmp 13) (.tmp 19) rfl rfl B _ _ rfl HO2 rfl hsz HR ?_)
      intro v' w' hown hb2
      have HO3 := Lib.hid hown
      have HB3 := Lib.hid (HB.out.trans hb2)
      clear hown hb2
      go_wp2
      go_roundw
      case rel => exact ⟨1, 2, by omega, by omega, by first | rfl | go_num, by have := HO3.out; first | simpa [be, List.append_assoc] using this | (have e : x / 16777216 % 256 = x / 16777216 := (by omega); simpa [be, e, List.append_assoc] using this), HB3.out⟩
      case measure => simp [intOf]
    · obtain rfl : z = 2 := by omega
      clear hz
      have HR := room1 HO2 (by have := HL.out; simp [be_length]; omega)
      go_wp2_with (at_builtin; refine appx_byte (.tmp 13) (.tmp 19) rfl rfl B _ _ rfl HO2 rfl hsz HR ?_)
      intro v' w' hown hb2
      have HO3 := Lib.hid hown
      have HB3 := Lib.hid (HB.out.trans hb2)
      clear hown hb2
      go_wp2
      go_roundw
      case rel => exact ⟨2, 1, by omega, by omega, by first | rfl | go_num, by have := HO3.out; first | simpa [be, List.append_assoc] using this | (have e : x / 16777216 % 256 = x / 16777216 := (by omega); simpa [be, e, List.append_assoc] using this), HB3.out⟩
      case measure => simp [intOf]
    · obtain rfl : z = 1 := by omega
      clear hz
      have HR := room1 HO2 (by have := HL.out; simp [be_length]; omega)
      go_wp2_with (at_builtin; refine appx_byte (.tmp 13) (.tmp 19) rfl rfl B _ _ rfl HO2 rfl hsz HR ?_)
      intro v' w' hown hb2
      have HO3 := Lib.hid hown
      have HB3 := Lib.hid (HB.out.trans hb2)
      clear hown hb2
      go_wp2
      go_roundw
      case rel => exact ⟨3, 0, by omega, by omega, by first | rfl | go_num, by have := HO3.out; first | simpa [be, List.append_assoc] using this | (have e : x / 16777216 % 256 = x / 16777216 := (by omega); simpa [be, e, List.append_assoc] using this), HB3.out⟩
      case measure => simp [intOf]
    · obtain rfl : z = 0 := by omega
      clear hz
      have HR := room1 HO2 (by have := HL.out; simp [be_length]; omega)
      go_wp2_with (at_builtin; refine appx_byte (.tmp 13) (.tmp 19) rfl rfl B _ _ rfl HO2 rfl hsz HR ?_)
      intro v' w' hown hb2
      have HO3 := Lib.hid hown
      have HB3 := Lib.hid (HB.out.trans hb2)
      clear hown hb2
      go_wp2
      go_roundw
      case rel => exact ⟨4, -1, by omega, by omega, by first | rfl | go_num, by have := HO3.out; first | simpa [be, List.append_assoc] using this | (have e : x / 16777216 % 256 = x / 16777216 := (by omega); simpa [be, e, List.append_assoc] using this), HB3.out⟩
      case measure => simp [intOf]
    · obtain rfl : z = -1 := by omega
      clear hz
      go_wp2
      go_ret
      exact ⟨_, rfl, by have := HO2.out; simpa [be] using this, HB.out⟩
theorem put2at {W0 W : World} {v : Value} {l : List Int} {x : Int} {B : Nat} (HO : Hid (Own8 W0 B v l)) (h0 : 0 ≤ x) (h1 : x ≤ 4294967295) (hB : B ≤ W0.heap.size) (hl : Hid (l.length + 2 ≤ reach)) (hb : Below W0.heap.size W0 W) :
    Calls Try.prog 49 #[v, .int .i64 x, .int .i64 2] W fun e w' => ∃ v', e = .returned v' ∧ Own8 w' B v' (l ++ be x 2) ∧ Ext W0 w' v v' ∧ Ext W w' v v' :=
  (put2x v l x B W h0 h1 (Nat.le_trans hB hb.size) (HO.out.below hb) hl.out).mono fun _ _ ⟨v', e, h2, h3⟩ => ⟨v', e, h2, (ext_of_below hb v).trans h3, h3⟩
theorem put4at {W0 W : World} {v : Value} {l : List Int} {x : Int} {B : Nat} (HO : Hid (Own8 W0 B v l)) (h0 : 0 ≤ x) (h1 : x ≤ 4294967295) (hB : B ≤ W0.heap.size) (hl : Hid (l.length + 4 ≤ reach)) (hb : Below W0.heap.size W0 W) :
    Calls Try.prog 49 #[v, .int .i64 x, .int .i64 4] W fun e w' => ∃ v', e = .returned v' ∧ Own8 w' B v' (l ++ be x 4) ∧ Ext W0 w' v v' ∧ Ext W w' v v' :=
  (put4x v l x B W h0 h1 (Nat.le_trans hB hb.size) (HO.out.below hb) hl.out).mono fun _ _ ⟨v', e, h2, h3⟩ => ⟨v', e, h2, (ext_of_below hb v).trans h3, h3⟩
end Go.Proofs.Ytkbboepopcebaaa
